/-
  tglaw10.GateTells returns true, where what it reads is of bulk at most 1048576; its arguments read as they did. The row lists variables; the card.
-/
import Derived.Test.YtlkmgccikgnaeaaGreatDoorMY
import Derived.Test.YtlkmgccikgnaeaaGreatDoorMH
import Derived.Test.YtlkmgccikgnaeaaGreatDoorMC
import Derived.Test.YtlkmgccikgnaeaaGreatDoorMA
import Derived.Test.YtlkmgccikgnaeaaGreatDoorMS
import Derived.Test.YtlkmgccikgnaeaaGreatDoorMD
import Derived.Test.YtlkmgccikgnaeaaGreatDoorCards
import Derived.Test.YtlkmgccikgnaeaaGreatDoorTie
import Derived.Lib.SmallJoins
import Derived.Deep.DeepHandedRow
import Derived.Lay
import Derived.MakeChecks
import Derived.SevenTiedAt
set_option linter.unusedVariables false
set_option linter.unusedSimpArgs false
set_option maxRecDepth 100000
set_option maxHeartbeats 16000000
namespace Go.Proofs.YtlkmgccikgnaeaaGreatDoor.lawGateTells
open Go.ChangeShapes Go.WideShapes Go.ChangeAt Go.RowKit
theorem ZY (H:Type) (enc:TypeId×Value→H) (W:World) (base:Nat) (args:Array Value) (ds gs:List (DataW H)) (before:List MemPlace)
  (hval:∀(j:Nat) t v,Tryz.f15.params[j]? =some t→args[j]? =some v→Value.okWide Tryz.prog W .any base t v)
  (hW:DataW.Whole enc Tryz.prog Tryz.f15.params.toList Rows.gateTellsSpec.vars false W args.toList ds gs before) (hk:Rows.uptoSmall H (ds++gs)=true) (hG:Ab.GI W∧∀b∈Ab.gL,b < W.heap.size):
  Calls Tryz.prog 15 args W fun e W'=> ∃v,e=.returned v∧Rows.gateTellsSpec.post enc Tryz.prog Tryz.f15 false true false false W args v W':=by
 have hW':=hW
 have hkb:=of_decide_eq_true hk
 obtain ⟨p,q,hA0,hV,rfl,hfz,hnd⟩:=hW
 have hA:DataW.TrodAll enc Tryz.prog W 0 (fun _=> true) true Tryz.f15.params.toList args.toList ds p:=hA0
 rw[Tryz.params15] at hA hval
 clear hA0 hk
 obtain ⟨v0,w0,d0,e0,p0,q0,hargs,rfl,rfl,h0,hA0⟩:=trodAll_cons hA
 obtain ⟨v1,w1,d1,e1,p1,q1,rfl,rfl,rfl,h1,hA1⟩:=trodAll_cons hA0
 obtain ⟨v2,w2,d2,e2,p2,q2,rfl,rfl,rfl,h2,hA2⟩:=trodAll_cons hA1
 obtain ⟨v3,w3,d3,e3,p3,q3,rfl,rfl,rfl,h3,hA3⟩:=trodAll_cons hA2
 obtain ⟨v4,w4,d4,e4,p4,q4,rfl,rfl,rfl,h4,hA4⟩:=trodAll_cons hA3
 obtain ⟨rfl,rfl,rfl⟩:=trodAll_nil hA4
 obtain rfl:args=#[v0,v1,v2,v3,v4]:=by cases args;simp_all
 obtain ⟨rfl,rfl⟩:=trodVars_none hV
 simp only[Rows.uptoBulkAll,List.append_nil] at hkb
 obtain ⟨u0,s0,l0,r0⟩:=Ab.open_arg Ab.tok (m:=12) (B:=1048576) (by decide) (hval 0 _ _ rfl rfl) h0 (by omega)
 obtain ⟨u1,s1,l1,r1⟩:=Ab.open_arg Ab.tok (m:=12) (B:=1048576) (by decide) (hval 1 _ _ rfl rfl) h1 (by omega)
 obtain ⟨u2,s2,l2,r2⟩:=Ab.open_arg Ab.tok (m:=12) (B:=1048576) (by decide) (hval 2 _ _ rfl rfl) h2 (by omega)
 obtain ⟨u3,s3,l3,r3⟩:=Ab.open_arg Ab.tok (m:=12) (B:=1048576) (by decide) (hval 3 _ _ rfl rfl) h3 (by omega)
 obtain ⟨u4,s4,l4,r4⟩:=Ab.open_arg Ab.tok (m:=12) (B:=1048576) (by decide) (hval 4 _ _ rfl rfl) h4 (by omega)
 obtain ⟨x0,rfl,b0⟩:=Ab.shp_i64 (t:=3) rfl s0
 obtain ⟨x1,e1,q1,a1,b1,c1⟩:=Ab.shp_ask s1
 have f1:x1.Fits:=⟨q1,c1,a1,b1⟩
 have r1:Ab.Rel W (· < W.heap.size) Ab.ρ0 (Ab.askA x1) v1:=by rw[←e1];exact r1
 obtain ⟨x2,e2,a2,b2,c2⟩:=Ab.shp_say s2
 have f2:x2.note.Fits:=⟨c2,a2,b2⟩
 have r2:Ab.Rel W (· < W.heap.size) Ab.ρ0 (Ab.sayA x2) v2:=by rw[←e2];exact r2
 obtain ⟨x3,rfl,b3⟩:=Ab.shp_bytes s3
 obtain ⟨x4,rfl,b4⟩:=Ab.shp_i64 (t:=3) rfl s4
 refine (Ab.law_true (Ab.con_gatetells x0 x1 x2 x3 x4 f1 f2 (by omega)) (vs:=#[v0,v1,v2,v3,v4])
  (Ab.rels_cons r0 (Ab.rels_cons r1 (Ab.rels_cons r2 (Ab.rels_cons r3 (Ab.rels_cons r4 Ab.rels_nil))))) hG.2 hG.1).mono fun e W' ⟨he,hb⟩=> ?_
 subst he
 exact ⟨_,rfl,Aaq rfl (by kernel_rfl) (by kernel_rfl) rfl hW' hb⟩
noncomputable abbrev w0 (os:Os):World:=World.laidAll Tryz.prog os Rows.gateTellsUptoRow.laid
theorem reads (os:Os) {H:Type} (enc:TypeId×Value→H):∃places,DataW.whole enc Tryz.prog ((w0 os).forCall (fun _ _=> 0) ⟨#[],#[.int .i64 0,.agg #[.int .i64 0,.string ⟨#[]⟩,.int .i64 0,.slice none 0 0,.slice none 0 0],.agg #[.int .i64 0,.int .i64 0,.int .i64 0,.int .i64 0,.slice none 0 0,.slice none 0 0],.slice none 0 0,.int .i64 0],[]⟩).memory Tryz.f15.params.toList Rows.gateTellsSpec.vars false (#[.int .i64 0,.agg #[.int .i64 0,.string ⟨#[]⟩,.int .i64 0,.slice none 0 0,.slice none 0 0],.agg #[.int .i64 0,.int .i64 0,.int .i64 0,.int .i64 0,.slice none 0 0,.slice none 0 0],.slice none 0 0,.int .i64 0]:Array Value).toList 8=some ([.lit (.int .i64 0),.agg [.lit (.int .i64 0),.lit (.string []),.lit (.int .i64 0),.agg [.nil,.nil]],.agg [.lit (.int .i64 0),.lit (.int .i64 0),.lit (.int .i64 0),.lit (.int .i64 0),.agg [.nil,.nil]],.nil,.lit (.int .i64 0)],[],places):=
 ⟨[],by kernel_rfl⟩
theorem Acx (os:Os) (started:os.Started) (H:Type) (enc:TypeId×Value→H) (F:Stop.Interp):
  ReturnsInHanded {} Tryz.checked os 15 .any ((Rows.OpenSpec.upto Rows.gateTellsSpec).preRow enc Tryz.prog Tryz.f15 Rows.gateTellsUptoRow.domain false Rows.gateTellsUptoRow.laid) (((Rows.OpenSpec.upto Rows.gateTellsSpec).at F).post enc Tryz.prog Tryz.f15 false true false false):=by
 obtain ⟨places,hx⟩:=reads os enc
 refine returnsInHanded_of_row (C:=Tryz.checked) (s:=Rows.OpenSpec.upto Rows.gateTellsSpec) AaO started (by kernel_rfl) Tryz.func15
  (witness_row_at (enc:=enc) (C:=Tryz.checked) false (w0 os) #[.int .i64 0,.agg #[.int .i64 0,.string ⟨#[]⟩,.int .i64 0,.slice none 0 0,.slice none 0 0],.agg #[.int .i64 0,.int .i64 0,.int .i64 0,.int .i64 0,.slice none 0 0,.slice none 0 0],.slice none 0 0,.int .i64 0] (World.laidAll_os _ _ _) (by kernel_rfl) (by kernel_rfl) (by kernel_rfl)
   (OpenSpec.preRow_of_cond 8 hx (by kernel_rfl) (fun k hk=> by cases hk;kernel_rfl) (by kernel_rfl) (laidMet_laidAll _ (by kernel_rfl) (by kernel_rfl)))) ?_
 intro W base args ds gs before hval hW _ hk _ hL hsh _
 exact ZY H enc W base args ds gs before hval hW (hk _ rfl) (Ab.gi_of_laid hL hsh)
theorem andI {a b : Bool} (h1 : a = true) (h2 : b = true) : (a && b) = true := by rw [h1, h2]; rfl
theorem cloG : joinedFacts Tryz.pinned.checked.prog 15 Tryz.f15 (Rows.OpenSpec.upto Rows.gateTellsSpec).bare Rows.gateTellsUptoRow = true := by
  unfold joinedFacts
  repeat' (with_reducible refine andI ?_ ?_)
  all_goals (as_aux_lemma => kernel_rfl)
theorem Adi:Rows.gateTellsUptoRow.holds Tryz.pinned (Rows.OpenSpec.upto Rows.gateTellsSpec):=
 OpenClaim.holds_of_cond 15 Tryz.f15 rfl rfl rfl rfl rfl rfl rfl ⟨rfl,rfl,rfl,rfl,rfl⟩ rfl rfl rfl rfl rfl (by as_aux_lemma => kernel_rfl) Tryz.func15 cloG
  (of_decide_eq_true (by as_aux_lemma => kernel_rfl)) (by unfold Func.isWrapper;first | (rw[if_pos (by decide+kernel)];as_aux_lemma => kernel_rfl) | (rw[if_neg (by decide+kernel)];exact ⟨rfl,rfl⟩))
  (fun os started H enc _ F=> by rw[OpenClaim.pre_eq_preRow];exact Acx os started H enc F)
theorem proved:Rows.GateTellsUptoCardSaid:=
 Claim7.holds_tied_plain_at .later [] _ _ _ _ Adi (fun _ h=> by cases h) (by as_aux_lemma => kernel_rfl) (fun _ h=> by cases h) gateTellsUpto_row_tie rfl ⟨rfl,rfl⟩ (by as_aux_lemma => kernel_rfl) rfl
  (fun f fn hf hfn=> by
   obtain rfl:f=15:=Option.some.inj ((show Tryz.prog.funcNamed "trivetgate/tglaw10.GateTells"=some 15 by as_aux_lemma => kernel_rfl).symm.trans hf) |>.symm
   obtain rfl:fn=Tryz.f15:=(Option.some.inj (Tryz.func15.symm.trans hfn)).symm
   exact ⟨by as_aux_lemma => kernel_rfl,fun j t ht=> by
    rw[Tryz.params15] at ht
    have hm:t∈[3,48,53,23,3]:=by simpa using Array.mem_of_getElem? ht
    have hall:([3,48,53,23,3].all fun u=> !Tryz.prog.wantsStandIn u)=true:=by as_aux_lemma => kernel_rfl
    exact (show Tryz.prog.wantsStandIn t=false by simpa using List.all_eq_true.1 hall t hm)⟩)
  (by as_aux_lemma => kernel_rfl)
end Go.Proofs.YtlkmgccikgnaeaaGreatDoor.lawGateTells
