/-
  tglaw9.WebTurns returns true, where what it reads is of bulk at most 1048576; its arguments read as they did. The row lists variables; the card.
-/
import Derived.Test.YtmlejhpeoiicpaaDoorGN
import Derived.Test.YtmlejhpeoiicpaaDoorGH
import Derived.Test.YtmlejhpeoiicpaaDoorGC
import Derived.Test.YtmlejhpeoiicpaaDoorGA
import Derived.Test.YtmlejhpeoiicpaaDoorGS
import Derived.Test.YtmlejhpeoiicpaaDoorGD
import Derived.Test.YtmlejhpeoiicpaaDoorCards
import Derived.Test.YtmlejhpeoiicpaaDoorTie
import Derived.Lib.SmallJoins
import Derived.Deep.DeepHandedRow
import Derived.Lay
import Derived.MakeChecks
import Derived.SevenTiedAt
namespace Go.Proofs.YtmlejhpeoiicpaaDoor.lawWebTurns
open Go.ChangeShapes Go.WideShapes Go.ChangeAt Go.RowKit
set_option linter.unusedVariables false

set_option maxRecDepth 100000 in
set_option maxHeartbeats 1000000 in
theorem contract (H : Type) (enc : TypeId × Value → H) (W : World) (base : Nat) (args : Array Value) (ds gs : List (DataW H)) (before : List MemPlace)
    (hval : ∀ (j : Nat) t v, Tryd.f5.params[j]? = some t → args[j]? = some v → Value.okWide Tryd.prog W .any base t v)
    (hW : DataW.Whole enc Tryd.prog Tryd.f5.params.toList Rows.webTurnsSpec.vars false W args.toList ds gs before) (hk : Rows.uptoSmall H (ds ++ gs) = true) (hG : Ab.GI W ∧ ∀ b ∈ Ab.gL, b < W.heap.size) :
    Calls Tryd.prog 5 args W fun e W' => ∃ v, e = .returned v ∧ Rows.webTurnsSpec.post enc Tryd.prog Tryd.f5 false true false false W args v W' := by
  have hW' := hW
  have hkb := of_decide_eq_true hk
  obtain ⟨p, q, hA0, hV, rfl, hfz, hnd⟩ := hW
  have hA : DataW.TrodAll enc Tryd.prog W 0 (fun _ => true) true Tryd.f5.params.toList args.toList ds p := hA0
  rw [Tryd.params5] at hA hval
  clear hA0 hk
  obtain ⟨v0, v1, v2, v3, d0, d1, d2, d3, p0, p1, p2, p3, rfl, rfl, rfl, h0, h1, h2, h3⟩ := trodAll_four hA
  obtain ⟨rfl, rfl⟩ := trodVars_none hV
  simp only [Rows.uptoBulkAll, List.append_nil] at hkb
  obtain ⟨u0, s0, l0, r0⟩ := Ab.open_arg Ab.tok (m := 12) (B := 1048576) (by decide) (hval 0 _ _ rfl rfl) h0 (by omega)
  obtain ⟨u1, s1, l1, r1⟩ := Ab.open_arg Ab.tok (m := 12) (B := 1048576) (by decide) (hval 1 _ _ rfl rfl) h1 (by omega)
  obtain ⟨u2, s2, l2, r2⟩ := Ab.open_arg Ab.tok (m := 12) (B := 1048576) (by decide) (hval 2 _ _ rfl rfl) h2 (by omega)
  obtain ⟨u3, s3, l3, r3⟩ := Ab.open_arg Ab.tok (m := 12) (B := 1048576) (by decide) (hval 3 _ _ rfl rfl) h3 (by omega)
  obtain ⟨x0, e0, q0, a0, b0, c0⟩ := Ab.shp_ask s0
  have f0 : x0.Fits := ⟨q0, c0, a0, b0⟩
  have r0 : Ab.Rel W (· < W.heap.size) Ab.ρ0 (Ab.askA x0) v0 := by rw [← e0]; exact r0
  obtain ⟨x1, e1, a1, b1, c1⟩ := Ab.shp_say s1
  have f1 : x1.note.Fits := ⟨c1, a1, b1⟩
  have r1 : Ab.Rel W (· < W.heap.size) Ab.ρ0 (Ab.sayA x1) v1 := by rw [← e1]; exact r1
  obtain ⟨x2, rfl, b2⟩ := Ab.shp_bytes s2
  obtain ⟨x3, rfl, b3⟩ := Ab.shp_i64 (t := 3) rfl s3
  refine (Ab.law_true (Ab.con_webturns x0 x1 x2 x3 f0 f1 b2) (vs := #[v0, v1, v2, v3])
    (Ab.rels_cons r0 (Ab.rels_cons r1 (Ab.rels_cons r2 (Ab.rels_cons r3 Ab.rels_nil)))) hG.2 hG.1).mono fun e W' ⟨he, hb⟩ => ?_
  subst he
  exact ⟨_, rfl, law_post rfl (by kernel_rfl) (by kernel_rfl) rfl hW' hb⟩

noncomputable abbrev w0 (os : Os) : World := World.laidAll Tryd.prog os Rows.webTurnsUptoRow.laid
theorem reads (os : Os) {H : Type} (enc : TypeId × Value → H) : ∃ places, DataW.whole enc Tryd.prog ((w0 os).forCall (fun _ _ => 0) ⟨#[], #[.agg #[.int .i64 0, .string ⟨#[]⟩, .int .i64 0, .slice none 0 0, .slice none 0 0], .agg #[.int .i64 0, .int .i64 0, .int .i64 0, .int .i64 0, .slice none 0 0, .slice none 0 0], .slice none 0 0, .int .i64 0], []⟩).memory Tryd.f5.params.toList Rows.webTurnsSpec.vars false (#[.agg #[.int .i64 0, .string ⟨#[]⟩, .int .i64 0, .slice none 0 0, .slice none 0 0], .agg #[.int .i64 0, .int .i64 0, .int .i64 0, .int .i64 0, .slice none 0 0, .slice none 0 0], .slice none 0 0, .int .i64 0] : Array Value).toList 8 = some ([.agg [.lit (.int .i64 0), .lit (.string []), .lit (.int .i64 0), .agg [.nil, .nil]], .agg [.lit (.int .i64 0), .lit (.int .i64 0), .lit (.int .i64 0), .lit (.int .i64 0), .agg [.nil, .nil]], .nil, .lit (.int .i64 0)], [], places) :=
  ⟨[], by kernel_rfl⟩

set_option maxRecDepth 100000 in
theorem lifted (os : Os) (started : os.Started) (H : Type) (enc : TypeId × Value → H) (F : Stop.Interp) :
    ReturnsInHanded {} Tryd.checked os 5 .any ((Rows.OpenSpec.upto Rows.webTurnsSpec).preRow enc Tryd.prog Tryd.f5 Rows.webTurnsUptoRow.domain false Rows.webTurnsUptoRow.laid) (((Rows.OpenSpec.upto Rows.webTurnsSpec).at F).post enc Tryd.prog Tryd.f5 false true false false) := by
  obtain ⟨places, hx⟩ := reads os enc
  refine returnsInHanded_of_row (C := Tryd.checked) (s := Rows.OpenSpec.upto Rows.webTurnsSpec) ownsNone started (by kernel_rfl) Tryd.func5
    (witness_row_at (enc := enc) (C := Tryd.checked) false (w0 os) #[.agg #[.int .i64 0, .string ⟨#[]⟩, .int .i64 0, .slice none 0 0, .slice none 0 0], .agg #[.int .i64 0, .int .i64 0, .int .i64 0, .int .i64 0, .slice none 0 0, .slice none 0 0], .slice none 0 0, .int .i64 0] (World.laidAll_os _ _ _) (by kernel_rfl) (by kernel_rfl) (by kernel_rfl)
      (OpenSpec.preRow_of_cond 8 hx (by kernel_rfl) (fun k hk => by cases hk; kernel_rfl) (by kernel_rfl) (laidMet_laidAll _ (by kernel_rfl) (by kernel_rfl)))) ?_
  intro W base args ds gs before hval hW _ hk _ hL hsh _
  exact contract H enc W base args ds gs before hval hW (hk _ rfl) (Ab.gi_of_laid hL hsh)

theorem over : Rows.webTurnsUptoRow.holds Tryd.pinned (Rows.OpenSpec.upto Rows.webTurnsSpec) :=
  OpenClaim.holds_of_cond 5 Tryd.f5 rfl rfl rfl rfl rfl rfl rfl ⟨rfl, rfl, rfl, rfl, rfl⟩ rfl rfl rfl rfl rfl (by kernel_rfl) Tryd.func5 (by kernel_rfl)
    (of_decide_eq_true (by kernel_rfl)) (by unfold Func.isWrapper; first | (rw [if_pos (by decide +kernel)]; kernel_rfl) | (rw [if_neg (by decide +kernel)]; exact ⟨rfl, rfl⟩))
    (fun os started H enc _ F => by rw [OpenClaim.pre_eq_preRow]; exact lifted os started H enc F)

theorem proved : Rows.WebTurnsUptoCardSaid :=
  Claim7.holds_tied_plain_at .later [] _ _ _ _ over (fun _ h => by cases h) (by kernel_rfl) (fun _ h => by cases h) webTurnsUpto_row_tie rfl ⟨rfl, rfl⟩ (by kernel_rfl) rfl
    (fun f fn hf hfn => by
      obtain rfl : f = 5 := Option.some.inj ((show Tryd.prog.funcNamed "trivetgate/tglaw9.WebTurns" = some 5 by kernel_rfl).symm.trans hf) |>.symm
      obtain rfl : fn = Tryd.f5 := (Option.some.inj (Tryd.func5.symm.trans hfn)).symm
      exact ⟨by kernel_rfl, fun j t ht => by
        rw [Tryd.params5] at ht
        have hm : t ∈ [27, 30, 23, 3] := by simpa using Array.mem_of_getElem? ht
        have hall : ([27, 30, 23, 3].all fun u => !Tryd.prog.wantsStandIn u) = true := by kernel_rfl
        exact (show Tryd.prog.wantsStandIn t = false by simpa using List.all_eq_true.1 hall t hm)⟩)
    (by kernel_rfl)
end Go.Proofs.YtmlejhpeoiicpaaDoor.lawWebTurns
