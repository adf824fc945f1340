/-
  Texts of the proof, one behind the other: AbM AbN AbO AbP AbQ AbR AbS AbT AbU AbTy AbV AbW AbX AbY AbZ.
  No condition but those that each theorem names.
-/
import Derived.Test.YtlkmgccikgnaeaaGreatDoorMB
import Derived.Orders
import Derived.LoopN
import Derived.Tactics
import Derived.Test.YtlkmgccikgnaeaaGreatDoorChecked
import Derived.Test.YtlkmgccikgnaeaaGreatDoorMA
import Derived.Attr
set_option linter.unusedVariables false
set_option linter.unusedSimpArgs false
set_option maxRecDepth 100000
set_option maxHeartbeats 16000000
namespace Go.Proofs.YtlkmgccikgnaeaaGreatDoor.Ab
open Go
def imR (w w':World) (im:Nat→Prop) (ρo:BI) (k:Nat) (b:Nat):Prop:=b < w'.heap.size∧(im b∨w.heap.size≤b)∧∀m,m < k→(ρo m).b≠some b
def Sw (D:Nat→TI) (w:World) (im:Nat→Prop) (r:Sy) (v:Value) (w':World):Prop:=
 Fw (fun _=> False) w.heap.size w w'∧∃ρo:BI,
  (∀(k:Nat) e sz rs,r.own[k]? =some (e,sz,rs)→Fv D w' (imR w w' im ρo r.own.length) ρo k (.rows e sz rs)∧∀b,(ρo k).b=some b→w.heap.size≤b)∧
  (∀k l b,k < r.own.length→l < r.own.length→(ρo k).b=some b→(ρo l).b=some b→k=l)∧
  Rel w' (imR w w' im ρo r.own.length) ρo r.v v∧∀n∈Ad r.v,n < r.own.length
def A8 (P:Program) (D:Nat→TI) (f:Nat) (args:List AV) (r:Sy):Prop:=
 (∃fn,P.funcs[f]? =some fn∧(fn.name== "runtime.NumGoroutine")=false∧fn.body.isNone=false)∧
 ∀(w:World) (im:Nat→Prop) (ρ:BI) (vs:Array Value),Ack w im→E8 w im ρ args vs.toList→
  Calls P f vs w fun e w'=> ∃v,e=.returned v∧Sw D w im r v w'
def Cl (P:Program) (D:Nat→TI) (G:PW):Prop:=∀f args r,G f args=some r→A8 P D f args r
mutual
theorem Q6 {w w':World} {im im':Nat→Prop} {ρ ρ':BI}:∀{x:AV} {v:Value},Bc x=true→Rel w im ρ x v→Rel w' im' ρ' x v
 | .int k n,v,_,h=> by rw[h.int_];exact .int k n
 | .bool b,v,_,h=> by rw[h.bool_];exact .bool b
 | .str l,v,_,h=> by rw[h.str_];exact .str l
 | .agg cs,v,hs,h=> by
  rw[Bc] at hs
  cases h with
  | agg cs vs hl h1 hval=> exact .agg cs vs hl h1 fun i x v hx hv=> JH hs hx (hval i x v hx hv)
 | .tup cs,v,hs,h=> by
  rw[Bc] at hs
  cases h with
  | tup cs vs hl hval=> exact .tup cs vs hl fun i x v hx hv=> JH hs hx (hval i x v hx hv)
 | .junk,_,hs,_=> by simp[Bc] at hs
 | .nils,_,hs,_=> by simp[Bc] at hs
 | .sl _ _,_,hs,_=> by simp[Bc] at hs
 | .os _,_,hs,_=> by simp[Bc] at hs
 | .ptr _ _,_,hs,_=> by simp[Bc] at hs
 | .tsl _ _,_,hs,_=> by simp[Bc] at hs
 | .psl _ _,_,hs,_=> by simp[Bc] at hs
 | .iptr _,_,hs,_=> by simp[Bc] at hs
 | .lsl _,_,hs,_=> by simp[Bc] at hs
 | .imap _,_,hs,_=> by simp[Bc] at hs
 | .nilp,_,hs,_=> by simp[Bc] at hs
 | .ifc _,_,hs,_=> by simp[Bc] at hs
 | .eptr _ _ _,_,hs,_=> by simp[Bc] at hs
 | .func _ _,_,hs,_=> by simp[Bc] at hs
 | .opt _ _,_,hs,_=> by simp[Bc] at hs
theorem JH {w w':World} {im im':Nat→Prop} {ρ ρ':BI}:∀{cs:List AV} {i:Nat} {x:AV} {v:Value},GO cs=true→cs[i]? =some x→Rel w im ρ x v→Rel w' im' ρ' x v
 | [],_,_,_,_,hx,_=> by simp at hx
 | c::r,0,x,v,hs,hx,h=> by
  simp only[GO,Bool.and_eq_true] at hs
  simp at hx
  subst hx
  exact Q6 hs.1 h
 | c::r,i+1,x,v,hs,hx,h=> by
  simp only[GO,Bool.and_eq_true] at hs
  exact JH hs.2 (by simpa using hx) h
end
mutual
theorem La:∀{x:AV},Bc x=true→Ad x=[]
 | .int k n,_=> by simp[Ad]
 | .bool b,_=> by simp[Ad]
 | .str l,_=> by simp[Ad]
 | .agg cs,hs=> by rw[Bc] at hs;rw[Ad];exact H8 hs
 | .tup cs,hs=> by rw[Bc] at hs;rw[Ad];exact H8 hs
 | .junk,hs=> by simp[Bc] at hs
 | .nils,hs=> by simp[Bc] at hs
 | .sl _ _,hs=> by simp[Bc] at hs
 | .os _,hs=> by simp[Bc] at hs
 | .ptr _ _,hs=> by simp[Bc] at hs
 | .tsl _ _,hs=> by simp[Bc] at hs
 | .psl _ _,hs=> by simp[Bc] at hs
 | .iptr _,hs=> by simp[Bc] at hs
 | .lsl _,hs=> by simp[Bc] at hs
 | .imap _,hs=> by simp[Bc] at hs
 | .nilp,hs=> by simp[Bc] at hs
 | .ifc _,hs=> by simp[Bc] at hs
 | .eptr _ _ _,hs=> by simp[Bc] at hs
 | .func _ _,hs=> by simp[Bc] at hs
 | .opt _ _,hs=> by simp[Bc] at hs
theorem H8:∀{cs:List AV},GO cs=true→Af cs=[]
 | [],_=> rfl
 | c::r,hs=> by
  simp only[GO,Bool.and_eq_true] at hs
  rw[Af,La hs.1,H8 hs.2]
  rfl
end
theorem Tg (m:Nat):∀cs:List AV,rens m cs=cs.map (ren m)
 | []=> by simp[rens]
 | c::r=> by simp[rens,Tg m r]
theorem Kw:∀{cs:List AV} {i:Nat} {x:AV},IQ cs=true→cs[i]? =some x→Cw x=true
 | [],_,_,_,h=> by simp at h
 | c::r,0,x,hs,h=> by simp only[IQ,Bool.and_eq_true] at hs;simp at h;subst h;exact hs.1
 | c::r,i+1,x,hs,h=> by simp only[IQ,Bool.and_eq_true] at hs;exact Kw hs.2 (by simpa using h)
theorem Rel.ren {w:World} {im im':Nat→Prop} {ρ ρ':BI} {m K:Nat} {x:AV} {v:Value} (h:Rel w im ρ x v) (him:∀b,im b→im' b) (hok:Cw x=true) (hn:∀n∈Ad x,n < K) (hρ:∀k,k < K→(ρ' (m+4096*(k+1))).sv=(ρ k).sv):
  Rel w im' ρ' (ren m x) v:=by
 induction h with
 | int k n=> simp only[Ab.ren];exact .int k n
 | bool b=> simp only[Ab.ren];exact .bool b
 | str l=> simp only[Ab.ren];exact .str l
 | nils=> simp only[Ab.ren];exact .nils
 | sl sz rs A c b o val hc hm hA hrow hcell hval ih=>
  simp only[Ab.ren]
  refine (Rel.sl sz rs A c b o val hc hm hA hrow hcell hval).mono him (fun _ _=> rfl) (fun n hn=> by simp[Ad] at hn)
 | os t=>
  simp only[Ab.ren]
  rw[←hρ t (hn t (by simp[Ad]))]
  exact .os _
 | agg cs vs hl h1 hval ih=>
  simp only[Ab.ren,Tg]
  rw[Cw] at hok
  refine .agg _ vs (by simpa using hl) h1 fun i x v h1 h2=> ?_
  rw[List.getElem?_map] at h1
  obtain ⟨y,hy,rfl⟩:=Option.map_eq_some_iff.1 h1
  exact ih i y v hy h2 (Kw hok hy) fun n hn'=> hn n (by rw[Ad];exact AY hy hn')
 | tup cs vs hl hval ih=>
  simp only[Ab.ren,Tg]
  rw[Cw] at hok
  refine .tup _ vs (by simpa using hl) fun i x v h1 h2=> ?_
  rw[List.getElem?_map] at h1
  obtain ⟨y,hy,rfl⟩:=Option.map_eq_some_iff.1 h1
  exact ih i y v hy h2 (Kw hok hy) fun n hn'=> hn n (by rw[Ad];exact AY hy hn')
 | junk v=> simp[Cw] at hok
 | ptr v off b h=> simp[Cw] at hok
 | iptr cs b o val hb hcell hval=> simp[Cw] at hok
 | eptr t i off b h=> simp[Cw] at hok
 | lsl n A c hc hm=> simp[Cw] at hok
 | imap es b c arr hb ho he=> simp[Cw] at hok
 | nilp=> simp[Cw] at hok
 | ifc b v h=> simp only[Ab.ren];exact .ifc b v h
 | tsl t i b A' h hA=> simp[Cw] at hok
 | psl t n c b h hc hm=> simp[Cw] at hok
 | func f cs vs hl hval=> simp[Cw] at hok
 | opt g x v h1 h2=> simp[Cw] at hok
mutual
theorem Ka {m n:Nat}:∀(x:AV),Cw x=true→n∈Ad (Ab.ren m x)→∃k∈Ad x,n=m+4096*(k+1)
 | .os t,_,h=> by simp[Ab.ren,Ad] at h;exact ⟨t,by simp[Ad],h⟩
 | .agg cs,hok,h=> by simp only[Ab.ren,Ad] at h;rw[Cw] at hok;rw[Ad];exact G9 cs hok h
 | .tup cs,hok,h=> by simp only[Ab.ren,Ad] at h;rw[Cw] at hok;rw[Ad];exact G9 cs hok h
 | .junk,hok,_=> by simp[Cw] at hok
 | .int _ _,_,h=> by simp[Ab.ren,Ad] at h
 | .bool _,_,h=> by simp[Ab.ren,Ad] at h
 | .str _,_,h=> by simp[Ab.ren,Ad] at h
 | .nils,_,h=> by simp[Ab.ren,Ad] at h
 | .sl _ _,_,h=> by simp[Ab.ren,Ad] at h
 | .ptr _ _,hok,_=> by simp[Cw] at hok
 | .tsl _ _,hok,_=> by simp[Cw] at hok
 | .psl _ _,hok,_=> by simp[Cw] at hok
 | .iptr _,hok,_=> by simp[Cw] at hok
 | .lsl _,hok,_=> by simp[Cw] at hok
 | .imap _,hok,_=> by simp[Cw] at hok
 | .nilp,hok,_=> by simp[Cw] at hok
 | .ifc _,_,h=> by simp[Ab.ren,Ad] at h
 | .eptr _ _ _,hok,_=> by simp[Cw] at hok
 | .func _ _,hok,_=> by simp[Cw] at hok
 | .opt _ _,hok,_=> by simp[Cw] at hok
theorem G9 {m n:Nat}:∀(cs:List AV),IQ cs=true→n∈Af (Ab.rens m cs)→∃k∈Af cs,n=m+4096*(k+1)
 | [],_,h=> by simp[rens,Af] at h
 | c::r,hok,h=> by
  simp only[IQ,Bool.and_eq_true] at hok
  simp only[rens,Af,List.mem_append] at h
  rcases h with h | h
  ·obtain ⟨k,hk,e⟩:=Ka c hok.1 h
   exact ⟨k,by rw[Af];exact List.mem_append_left _ hk,e⟩
  ·obtain ⟨k,hk,e⟩:=G9 r hok.2 h
   exact ⟨k,by rw[Af];exact List.mem_append_right _ hk,e⟩
end
theorem FQ (m:Nat):∀(os:List (Nat×Nat×List (List AV))) (k n:Nat) (y:Be),get n (DZ m k os)=some y→∃j e sz rs,os[j]? =some (e,sz,rs)∧n=m+4096*(k+j+1)∧y=.rows e sz rs
 | [],_,_,_,h=> by simp[DZ,get] at h
 | (e,sz,rs)::r,k,n,y,h=> by
  simp only[DZ,get] at h
  split at h
  ·rename_i heq
   cases h
   exact ⟨0,e,sz,rs,rfl,by rw[Nat.add_zero];exact heq.symm,rfl⟩
  ·obtain ⟨j,e',sz',rs',h1,h2,h3⟩:=FQ m r (k+1) n y h
   exact ⟨j+1,e',sz',rs',by simpa using h1,by rw[h2];congr 2;omega,h3⟩
theorem R8 (m:Nat):∀(os:List (Nat×Nat×List (List AV))) (k j:Nat),j < os.length→(get (m+4096*(k+j+1)) (DZ m k os)).isSome=true
 | [],_,_,h=> by simp at h
 | (e,sz,rs)::r,k,j,h=> by
  simp only[DZ,get]
  split
  ·rfl
  ·rename_i hne
   cases j with
   | zero=> exact absurd rfl hne
   | succ j=>
    have:=R8 m r (k+1) j (by simpa using h)
    rw[show k+(j+1)+1=k+1+j+1 by omega]
    exact this
section
variable {P:Program} {D:Nat→TI} {G:PW} {S N0:Nat→Prop} {B:Nat} {w0:W0} {ρ:BI} {σ:AS} {a:Act} {w:World}
theorem Cu.imOk (h:Cu D S N0 B w0 ρ σ a w):Ack w (Im S N0 B w ρ σ):=by
 obtain ⟨h1,h2,h3⟩:=h.base
 refine ⟨fun b hb=> hb.1,fun b hb=> ?_,h3.stays fun b hb=> h.frm.block b (h2 b hb).2.1 (h2 b hb).2.2⟩
 obtain ⟨q1,q2,q3⟩:=h2 b hb
 refine ⟨Nat.lt_of_lt_of_le q2 (Nat.le_trans h1 h.frm.size),.inl q1,fun n x hx hn=> ?_⟩
 rcases h.own n x b hx hn with q | q
 ·omega
 ·exact q3 q
theorem X4 (h:Cu D S N0 B w0 ρ σ a w) {all:List AV} {dst:Nat} {r:Sy} {e:Ck} {v:Value} {w':World}
  (he:Lu dst all (some r)=some e) (hf:CC σ (AF e.nw)=true) (hpost:Sw D w (Im S N0 B w ρ (freeze σ (Ba all))) r v w'):Sx D S N0 B w0 σ a e v w':=by
 obtain ⟨hfrm,ρo,hown,hinj,hrel,hnm⟩:=hpost
 obtain ⟨rv,own⟩:=r
 have size0:B≤w.heap.size:=Nat.le_trans h.base.1 h.frm.size
 cases own with
 | nil=>
  simp only[Lu] at he
  split at he
  ·rename_i hs
   cases he
   refine ⟨ρ,?_,Q6 hs hrel,by rw[La hs];simp⟩
   exact (h.step (ks:=[]) (nw:=[]) (up:=[]) hfrm.os hfrm.tape hfrm.output hfrm.size (fun b hb _=> hfrm.block b hb (by simp)) (fun _ _ _=> rfl) (fun m hm=> by simp[AF] at hm) (fun m hm=> by simp[AF] at hm)
    (fun _ n y hy=> by simp[get] at hy) (fun n y b hn=> by simp[get] at hn) (fun n m y z b hn=> by simp[get] at hn) (fun n y z b hn=> by simp[get] at hn)).1
  ·split at he
   ·rename_i hs hok
    cases he
    have hfz:=h.freeze (Ba all)
    have hst:=hfz.step (w':=w') (ρ':=ρ) (ks:=[]) (nw:=[]) (up:=[]) hfrm.os hfrm.tape hfrm.output hfrm.size (fun b hb _=> hfrm.block b hb (by simp)) (fun _ _ _=> rfl) (fun m hm=> by simp[AF] at hm) (fun m hm=> by simp[AF] at hm)
     (fun _ n y hy=> by simp[get] at hy) (fun n y b hn=> by simp[get] at hn) (fun n m y z b hn=> by simp[get] at hn) (fun n y z b hn=> by simp[get] at hn)
    have hno:Ad rv=[]:=by
     refine List.eq_nil_iff_forall_not_mem.2 fun n hn=> ?_
     have:=hnm n hn
     simp at this
    refine ⟨ρ,hst.1,hrel.mono (fun b hb=> ?_) (fun _ _=> rfl) (fun n hn=> by rw[hno] at hn;cases hn),by rw[hno];simp⟩
    rcases hb.2.1 with hb' | hb'
    ·exact (hst.2 b hb').1
    ·refine ⟨hb.1,.inr (.inl (by omega)),fun n x hx hbn=> ?_⟩
     rw[Iu] at hx
     have:=hfz.owns_lt hx hbn
     omega
   ·cases he
 | cons o os=>
  simp only[Lu] at he
  split at he
  case isFalse=> cases he
  rename_i hok
  cases he
  simp only at hf
  generalize hq:o::os=own at *
  have hfz:=h.freeze (Ba all)
  have hub:∀n,n∈AF (DZ dst 0 own)→blk (freeze σ (Ba all)) n=none:=by
   intro n hn
   rw[BS,B1 hf n hn]
   split <;> rfl
  let ρ':BI:=fun n=> if n∈AF (DZ dst 0 own) then ρo ((n - dst)/4096 - 1) else ρ n
  have hkey:∀k,k < own.length→(dst+4096*(k+1))∈AF (DZ dst 0 own):=by
   intro k hk
   have:=R8 dst own 0 k hk
   rw[Nat.zero_add] at this
   exact BM.2 (Option.isSome_iff_exists.1 this)
  have hρk:∀k,k < own.length→ρ' (dst+4096*(k+1))=ρo k:=by
   intro k hk
   show (if _ then _ else _)=_
   rw[if_pos (hkey k hk)]
   congr 1
   omega
  have hρn:∀n,n∉AF (DZ dst 0 own)→ρ' n=ρ n:=by
   intro n hn
   show (if _ then _ else _)=_
   rw[if_neg hn]
  have hbnd:∀n,(blk (freeze σ (Ba all)) n).isSome=true→n∉AF (DZ dst 0 own):=by
   intro n hn hk
   rw[hub n hk] at hn
   cases hn
  have hidx:∀n,n∈AF (DZ dst 0 own)→∃k,k < own.length∧n=dst+4096*(k+1):=by
   intro n hn
   obtain ⟨y,hy⟩:=BM.1 hn
   obtain ⟨j,e',sz,rs,h1,h2,_⟩:=FQ dst own 0 n y hy
   exact ⟨j,(List.getElem?_eq_some_iff.1 h1).1,by rw[h2,Nat.zero_add]⟩
  have hob:∀k b,k < own.length→(ρo k).b=some b→w.heap.size≤b∧b < w'.heap.size:=by
   intro k b hk hb
   obtain ⟨e',sz,rs⟩:∃e' sz,∃rs:List (List AV),own[k]? =some (e',sz,rs):=⟨own[k].1,own[k].2.1,own[k].2.2,by simp[hk]⟩
   obtain ⟨rs,hrs⟩:=rs
   obtain ⟨q1,q2⟩:=hown k e' sz rs hrs
   refine ⟨q2 b hb,?_⟩
   obtain ⟨_,_,_,A,c,_,_,_,q3⟩:=q1
   rcases q3 with ⟨_,_,_,q4⟩ | ⟨b',arr,q4,_,q5,_⟩
   ·rw[hb] at q4;cases q4
   ·rw[hb] at q4
    cases q4
    exact (Array.getElem?_eq_some_iff.1 q5).1
  have himR:(∀b,Im S N0 B w ρ (freeze σ (Ba all)) b→C1 S N0 B w' ρ' (blk (Bv (freeze σ (Ba all)) [] (DZ dst 0 own) [])) b)→∀b,imR w w' (Im S N0 B w ρ (freeze σ (Ba all))) ρo own.length b→C1 S N0 B w' ρ' (blk (Bv (freeze σ (Ba all)) [] (DZ dst 0 own) [])) b:=by
   intro him b hb
   rcases hb.2.1 with hb' | hb'
   ·exact him b hb'
   ·refine ⟨hb.1,.inr (.inl (by omega)),fun n x hx hbn=> ?_⟩
    by_cases hn:n∈AF (DZ dst 0 own)
    ·obtain ⟨y,hy⟩:=BM.1 hn
     have hxy:y=x:=by rw[BW,hy] at hx;exact Option.some.inj hx
     subst hxy
     obtain ⟨_,_,_,_,_,_,rfl⟩:=FQ dst own 0 n y hy
     obtain ⟨k,hk,rfl⟩:=hidx n hn
     have hbn:(ρ' (dst+4096*(k+1))).b=some b:=hbn
     rw[hρk k hk] at hbn
     exact hb.2.2 k hk hbn
    ·rw[BW,B3.2 hn] at hx
     simp only[get,List.not_mem_nil,if_false] at hx
     obtain ⟨y,hy,rfl⟩:=AR hx
     have:=hfz.owns_lt hy ((Ky (hρn n hn)).1 (BZ.1 hbn))
     omega
  have hst:=hfz.step (w':=w') (ρ':=ρ') (ks:=[]) (nw:=DZ dst 0 own) (up:=[]) hfrm.os hfrm.tape hfrm.output hfrm.size (fun b hb _=> hfrm.block b hb (by simp)) (fun n hn _=> hρn n (hbnd n hn)) hub (fun m hm=> by simp[AF] at hm)
   (fun him n y hy=> by
    have hy':get n (DZ dst 0 own)=some y:=by
     rcases hy with hy | ⟨_,hy⟩
     ·exact hy
     ·simp[get] at hy
    obtain ⟨j,e',sz,rs,h1,h2,rfl⟩:=FQ dst own 0 n y hy'
    rw[Nat.zero_add] at h2
    subst h2
    have hj:=(List.getElem?_eq_some_iff.1 h1).1
    refine ⟨?_,fun m hm=> by cases hm⟩
    obtain ⟨q1,q2,q3,A,c,q4,q5,q6,q7⟩:=(hown j e' sz rs h1).1
    refine ⟨by rw[hρk j hj];exact q1,q2,q3,A,c,by rw[hρk j hj];exact q4,q5,q6,?_⟩
    rcases q7 with ⟨z1,z2,z3,z4⟩ | ⟨b,arr,z1,z2,z3,z4,z5⟩
    ·exact .inl ⟨z1,z2,z3,by rw[hρk j hj];exact z4⟩
    ·refine .inr ⟨b,arr,by rw[hρk j hj];exact z1,z2,z3,z4,fun i row hi=> ⟨(z5 i row hi).1,fun j' x hx=> ?_⟩⟩
     obtain ⟨y1,u,y2,y3,y4⟩:=(z5 i row hi).2 j' x hx
     exact ⟨y1,u,y2,y3,y4.mono (himR him) (fun _ _=> rfl) fun m hm=> by rw[y1] at hm;cases hm⟩)
   (fun n y b hn hb=> by
    obtain ⟨_,_,_,_,_,_,rfl⟩:=FQ dst own 0 n y hn
    obtain ⟨k,hk,rfl⟩:=hidx n (BM.2 ⟨_,hn⟩)
    have hb:(ρ' (dst+4096*(k+1))).b=some b:=hb
    rw[hρk k hk] at hb
    exact ⟨.inl (hob k b hk hb).1,(hob k b hk hb).2⟩)
   (fun n m y z b hn hm hb hb'=> by
    obtain ⟨_,_,_,_,_,_,rfl⟩:=FQ dst own 0 n y hn
    obtain ⟨_,_,_,_,_,_,rfl⟩:=FQ dst own 0 m z hm
    obtain ⟨k,hk,rfl⟩:=hidx n (BM.2 ⟨_,hn⟩)
    obtain ⟨l,hl,rfl⟩:=hidx m (BM.2 ⟨_,hm⟩)
    have hb:(ρ' (dst+4096*(k+1))).b=some b:=hb
    have hb':(ρ' (dst+4096*(l+1))).b=some b:=hb'
    rw[hρk k hk] at hb
    rw[hρk l hl] at hb'
    rw[hinj k l b hk hl hb hb'])
   (fun n y z b hn=> by simp[get] at hn)
  refine ⟨ρ',hst.1,?_,fun n hn=> ?_⟩
  ·exact Rel.ren (K:=own.length) hrel (himR fun b hb=> (hst.2 b hb).1) hok hnm fun k hk=> by rw[hρk k hk]
  ·obtain ⟨k,hk,rfl⟩:=Ka rv hok hn
   have hk':=hkey k (hnm k hk)
   obtain ⟨y,hy⟩:=BM.1 hk'
   show (blk (Bv (freeze σ (Ba all)) [] (DZ dst 0 own) []) _).isSome=true
   rw[BW,hy]
   rfl
end
section
variable {P:Program} {D:Nat→TI} {G:PW} {S N0:Nat→Prop} {B:Nat} {w0:W0} {ρ:BI} {σ:AS} {a:Act} {w:World}
theorem E8.append {im:Nat→Prop} {xs ys:List AV} {us vs:List Value} (h:E8 w im ρ xs us) (k:E8 w im ρ ys vs):E8 w im ρ (xs++ys) (us++vs):=by
 refine ⟨by rw[List.length_append,List.length_append,h.1,k.1],fun i x v hx hv=> ?_⟩
 by_cases hlt:i < xs.length
 ·rw[List.getElem?_append_left hlt] at hx
  rw[List.getElem?_append_left (by rw[h.1];exact hlt)] at hv
  exact h.2 i x v hx hv
 ·rw[List.getElem?_append_right (by omega)] at hx
  rw[List.getElem?_append_right (by rw[h.1];omega),h.1] at hv
  exact k.2 _ x v hx hv
theorem Cu.args (h:Cu D S N0 B w0 ρ σ a w) {ns:List Nat} {bl:Nat→Option Be} (hbl:∀n x,bl n=some x→blk σ n=some x) {xs:List AV} {vs:List Value} (hr:E8 w (Im S N0 B w ρ σ) ρ xs vs):
  E8 w (Im S N0 B w ρ (Ab.freeze σ ns)) ρ (Hq ns bl xs) vs:=by
 have him:∀b,Im S N0 B w ρ σ b→Im S N0 B w ρ (Ab.freeze σ ns) b:=by
  rintro b ⟨h1,h2,h3⟩
  refine ⟨h1,h2,fun n x hx=> ?_⟩
  rw[BS] at hx
  split at hx
  ·cases hx
  ·obtain ⟨y,hy,rfl⟩:=AR hx
   rw[BZ]
   exact h3 n y hy
 refine ⟨by rw[Kn];simpa using hr.1,fun i x v hx hv=> ?_⟩
 rw[Kn,List.getElem?_map] at hx
 obtain ⟨y,hy,rfl⟩:=Option.map_eq_some_iff.1 hx
 refine Rel.fz (D:=D) (fun n x hn hx=> h.hp.blk n x (hbl n x hx)) him (fun n x b hn hx hb=> ?_) (hr.2 i y v hy hv)
 have hx':=hbl n x hx
 refine ⟨h.named_lt hx' hb,.inr (h.own n x b hx' (Ew hb)),fun m y hy hm=> ?_⟩
 rw[BS] at hy
 split at hy
 ·cases hy
 ·rename_i hmn
  obtain ⟨y',hy',rfl⟩:=AR hy
  exact hmn (h.hp.inj n m b x y' hx' hy' (Ew hb) (BZ.1 hm) ▸hn)
theorem V8 (hG:Cl P D G) (h:Cu D S N0 B w0 ρ σ a w) {o:Oper} {e:Ck} {K:Act→World→Prop} {Q:Exit→Act→World→Prop} (hc:QA o.op=true)
  (hug:(o.op.operands.toList.map (ev σ)).all ug=true) {dn:Nat} (he:Zp D G (GA σ (Af (o.op.operands.toList.map (ev σ)))) dn o.op ((o.op.operands.toList.map (ev σ)).map uv)=some e)
  (hf:CC σ (AF e.nw)=true) (hK:∀v w',Sx D S N0 B w0 σ a e v w'→K (a.put o.dst v) w'):o.wp P a w K Q:=by
 obtain ⟨dst,op,ty,pos,af,gd⟩:=o
 cases op <;> simp only[QA] at hc <;> try (cases hc;done)
 rename_i c
 obtain ⟨callee,args,types⟩:=c
 cases callee <;> simp only at hc <;> try (cases hc;done)
 rename_i f
 simp only at *
 obtain ⟨hR,hN⟩:=AaB h hug
 have hops:(Op.call ⟨.value f,args,types⟩).operands.toList=f::args.toList:=by simp[Op.operands,Call.operands]
 rw[hops] at he hR hN
 generalize hns:Af ((f::args.toList).map (ev σ))=ns at he
 have hbl:∀n x,GA σ ns n=some x→blk σ n=some x:=fun n x hx=> F9 hx
 simp only[List.map_cons] at he hR hN
 simp only[Zp] at he
 generalize hX:uv (ev σ f)=X at *
 generalize hA:(args.toList.map (ev σ)).map uv=As at *
 have hRf:=hR.2 0 _ _ rfl rfl
 have hRa:E8 w (Im S N0 B w ρ σ) ρ As (args.toList.map a.eval):=⟨by have:=hR.1;simpa using this,fun i x v hx hv=> hR.2 (i+1) x v (by simpa using hx) (by simpa using hv)⟩
 cases X <;> simp only[KT] at he <;> try (cases he;done)
 rename_i g caps
 split at he
 case isFalse=> cases he
 generalize hv:a.eval f=V at hRf
 cases hRf with
 | func g cs vs hl hval=>
 have hRc:E8 w (Im S N0 B w ρ σ) ρ (As++caps) (args.toList.map a.eval++vs.toList):=hRa.append ⟨by simpa using hl,fun i x v hx hv=> hval i x v hx (by simpa using hv)⟩
 cases hg:G g (Hq (Ba (As++caps)) (GA σ ns) (As++caps)) with
 | none=> rw[hg] at he;cases he
 | some r=>
  rw[hg] at he
  obtain ⟨⟨fn,hfn,hname,hbody⟩,hcon⟩:=hG g _ r hg
  have hcall:=hcon w (Im S N0 B w ρ (freeze σ (Ba (As++caps)))) ρ (args.map a.eval++vs) (h.freeze _).imOk (by
   have:=h.args (ns:=Ba (As++caps)) hbl hRc
   simpa using this)
  unfold Oper.wp
  have hex:(execOp a.eval ⟨dst,.call ⟨.value f,args,types⟩,ty,pos,af,gd⟩).run P w=.ok (.enter g (args.map a.eval++vs)) w:=by
   have hn':¬fn.name= "runtime.NumGoroutine":=by simpa using hname
   have hb':¬fn.body=none:=by rintro e;rw[e] at hbody;cases hbody
   simp[execOp,resolve,hv,Deferred.ofValue,invoke,callFunc,program,Sem.run,hfn,hn',hb']
  rw[hex,Oper.upon_enter]
  refine hcall.mono fun en w' hpost=> ?_
  obtain ⟨v,rfl,hpost⟩:=hpost
  exact hK v w' (X4 h he hf hpost)
theorem Qa (hT:Hu P D) (hG:Cl P D G) (h:Cu D S N0 B w0 ρ σ a w) {o:Oper} {e:Ck} {K:Act→World→Prop} {Q:Exit→Act→World→Prop}
  {dn:Nat} (he:GC D G σ dn o.op (o.op.operands.toList.map (ev σ))=some e) (hf:CC σ (AF e.nw)=true) (hp:e.pre) (hK:∀v w',Sx D S N0 B w0 σ a e v w'→K (a.put o.dst v) w'):o.wp P a w K Q:=by
 unfold GC at he
 split at he
 ·-- pick
  rename_i hpk
  obtain ⟨dst,op,ty,pos,af,gd⟩:=o
  cases op <;> simp only[WI] at hpk <;> try (cases hpk;done)
  rename_i c x y
  simp only[Op.operands,List.map_cons,List.map_nil,XN,XO] at he
  have hc:=h.ev c
  have hx:=h.ev x
  have hy:=h.ev y
  split at he
  case h_2=> cases he
  rename_i g p q hgc hgx hgy
  cases he
  simp only at hp
  obtain ⟨p1,p2,p3⟩:=hp
  have hcv:a.eval c=.bool g:=by have:=hc.1.uv p1;rw[hgc] at this;exact this.bool_
  have hval:(if g then a.eval x else a.eval y)=.bool (if g then p else q):=by
   cases g with
   | true=> have:=hx.1.uv (p2 rfl);rw[hgx] at this;simpa using this.bool_
   | false=> have:=hy.1.uv (p3 rfl);rw[hgy] at this;simpa using this.bool_
  obtain ⟨v,h1,h2⟩:=Fa.mak h (P:=P) (s:=pure (.bool (if g then p else q))) (e:={v:=.bool (if g then p else q)}) (Fa.only ⟨rfl,rfl,rfl,rfl⟩ (v:=.bool (if g then p else q)) rfl (.bool _) (by simp[Ad]))
  have hex:execOp a.eval ⟨dst,.pick c x y,ty,pos,af,gd⟩=(do pure (.value (←(pure (.bool (if g then p else q)):Sem Value)))):=by
   simp only[execOp,hcv,←hval];rfl
  exact Ax hex h1 (hK _ _ h2)
 ·cases heff:Zp D G (GA σ (Af (o.op.operands.toList.map (ev σ)))) dn o.op ((o.op.operands.toList.map (ev σ)).map uv) with
  | none=> rw[heff] at he;cases he
  | some e'=>
   rw[heff] at he
   simp only[UL] at he
   cases he
   simp only at hp hf
   obtain ⟨hug,hp⟩:=hp
   cases hc:QA o.op with
   | true=> exact V8 hG h hc hug heff hf hK
   | false=> exact Yu hT h hc hug heff hf hp hK
end
mutual
theorem Xx {ns:List Nat} {bl:Nat→Option Be}:∀(x:AV),(∀n∈Ad x,n∉ns)→fz ns bl x=x
 | .os t,h=> by simp only[fz];rw[if_neg];simp[Ce.2 (h t (by simp[Ad]))]
 | .ptr v o,h=> by simp only[fz];rw[if_neg];simp[Ce.2 (h v (by simp[Ad]))]
 | .tsl v o,h=> by simp only[fz];rw[if_neg];simp[Ce.2 (h v (by simp[Ad]))]
 | .psl v o,h=> by simp only[fz];rw[if_neg];simp[Ce.2 (h v (by simp[Ad]))]
 | .eptr v i o,h=> by simp only[fz];rw[if_neg];simp[Ce.2 (h v (by simp[Ad]))]
 | .agg cs,h=> by rw[Ad] at h;simp only[fz];rw[S4 cs h]
 | .tup cs,h=> by rw[Ad] at h;simp only[fz];rw[S4 cs h]
 | .func f cs,h=> by rw[Ad] at h;simp only[fz];rw[S4 cs h]
 | .opt g v,h=> by rw[Ad] at h;simp only[fz];rw[Xx v h]
 | .junk,_=> by simp[fz]
 | .int _ _,_=> by simp[fz]
 | .bool _,_=> by simp[fz]
 | .str _,_=> by simp[fz]
 | .nils,_=> by simp[fz]
 | .sl _ _,_=> by simp[fz]
 | .iptr _,_=> by simp[fz]
 | .lsl _,_=> by simp[fz]
 | .imap _,_=> by simp[fz]
 | .nilp,_=> by simp[fz]
 | .ifc _,_=> by simp[fz]
theorem S4 {ns:List Nat} {bl:Nat→Option Be}:∀(cs:List AV),(∀n∈Af cs,n∉ns)→Hq ns bl cs=cs
 | [],_=> by simp[Hq]
 | c::r,h=> by
  rw[Af] at h
  simp only[Hq]
  rw[Xx c fun n hn=> h n (List.mem_append_left _ hn),S4 r fun n hn=> h n (List.mem_append_right _ hn)]
end
mutual
theorem FT:∀(x:AV),kl [] x=x
 | .os t=> by simp[kl,Cg]
 | .ptr v o=> by simp[kl,Cg]
 | .tsl v o=> by simp[kl,Cg]
 | .psl v o=> by simp[kl,Cg]
 | .eptr v i o=> by simp[kl,Cg]
 | .agg cs=> by simp only[kl];rw[P1 cs]
 | .tup cs=> by simp only[kl];rw[P1 cs]
 | .func f cs=> by simp only[kl];rw[P1 cs]
 | .opt g v=> by simp only[kl];rw[FT v]
 | .junk=> by simp[kl]
 | .int _ _=> by simp[kl]
 | .bool _=> by simp[kl]
 | .str _=> by simp[kl]
 | .nils=> by simp[kl]
 | .sl _ _=> by simp[kl]
 | .iptr _=> by simp[kl]
 | .lsl _=> by simp[kl]
 | .imap _=> by simp[kl]
 | .nilp=> by simp[kl]
 | .ifc _=> by simp[kl]
theorem P1:∀(cs:List AV),Pt [] cs=cs
 | []=> by simp[Pt]
 | c::r=> by simp only[Pt];rw[FT c,P1 r]
end
section
variable {P:Program} {D:Nat→TI} {G:PW} {S N0:Nat→Prop} {B:Nat} {w0:W0} {ρ:BI} {σ σ':AS} {a:Act} {w:World}
structure Ia (σ σ':AS):Prop where
 nt:σ'.nt=σ.nt
 tm:∀t,get t σ'.tm=get t σ.tm
 bl:∀n,blk σ' n=blk σ n
theorem Ia.refl (σ:AS):Ia σ σ:=⟨rfl,fun _=> rfl,fun _=> rfl⟩
theorem Ia.trans {σ'':AS} (h:Ia σ σ') (k:Ia σ' σ''):Ia σ σ'':=⟨k.nt.trans h.nt,fun t=> (k.tm t).trans (h.tm t),fun n=> (k.bl n).trans (h.bl n)⟩
theorem Ia.symm (h:Ia σ σ'):Ia σ' σ:=⟨h.nt.symm,fun t=> (h.tm t).symm,fun n=> (h.bl n).symm⟩
theorem Cu.congr (h:Cu D S N0 B w0 ρ σ a w) (k:Ia σ σ'):Cu D S N0 B w0 ρ σ' a w:=by
 have hb:blk σ'=blk σ:=funext k.bl
 refine ⟨fun t x hx=> ?_,?_,by rw[k.nt];exact h.nt,h.base,h.frm,?_,h.defers⟩
 ·rw[k.tm] at hx
  rw[hb]
  exact h.tm t x hx
 ·rw[hb];exact h.hp
 ·rw[hb];exact h.own
theorem St.congr (h:St D S N0 B w0 σ a w) (k:Ia σ σ'):St D S N0 B w0 σ' a w:=by
 obtain ⟨ρ,h⟩:=h
 exact ⟨ρ,h.congr k⟩
theorem EG {n:Nat}:∀{a b:List Nat},Az a b=true→n∈a→n∈b
 | [],_,_,h=> by cases h
 | k::r,b,hs,h=> by
  simp only[Az,Bool.and_eq_true] at hs
  rcases List.mem_cons.1 h with rfl | h
  ·exact Cz.1 hs.1
  ·exact EG hs.2 h
theorem Ge {bl:Nat→Option Be} {n:Nat}:∀{l:List Nat},n∈F5 bl l→∃k x,bl k=some x∧n∈Em x
 | [],h=> by simp[F5] at h
 | k::r,h=> by
  simp only[F5] at h
  split at h
  ·rename_i cs hk
   rcases List.mem_append.1 h with h | h
   ·exact ⟨k,_,hk,h⟩
   ·exact Ge h
  ·rename_i e sz rs cols foc hk
   rcases List.mem_append.1 h with h | h
   ·exact ⟨k,_,hk,h⟩
   ·exact Ge h
  ·exact Ge h
theorem YO (h:Cu D S N0 B w0 ρ σ a w) {xs:List Operand} {n:Nat} (hn:n∈Af (xs.map (ev σ))):(blk σ n).isSome=true:=by
 obtain ⟨i,x,hx,hn⟩:=Cr hn
 rw[List.getElem?_map] at hx
 obtain ⟨o,ho,rfl⟩:=Option.map_eq_some_iff.1 hx
 exact (h.ev o).2 n hn
theorem YN (h:Cu D S N0 B w0 ρ σ a w) {xs:List Operand} {vs:List Nat} {op:Op} (hv:okN [] (Af (xs.map (ev σ))) (Kk σ op (Af (xs.map (ev σ)))) vs=true):∀n∈vs,(blk σ n).isSome=true:=by
 intro n hn
 have:=EG hv hn
 simp only[List.nil_append,List.mem_append] at this
 rcases this with h1 | h1
 ·exact YO h h1
 ·unfold Kk at h1
  split at h1
  ·cases h1
  obtain ⟨k,x,hk,hm⟩:=Ge h1
  exact h.hp.clos k x (F9 hk) n hm
theorem GQ (σ:AS) (ns:List Nat):(freeze σ ns).nt=σ.nt:=by cases ns <;> rfl
theorem Sx.fin {e:Ck} {v:Value} {w':World} {dst:Option Nat} (h:Sx D S N0 B w0 σ a e v w') (hd:∀d,dst=some d→d < σ.nt):St D S N0 B w0 (apply σ dst e) (a.put dst v) w':=by
 obtain ⟨ρ',h1,h2,h3⟩:=h
 cases dst with
 | none=>
  refine ⟨ρ',h1.congr ⟨?_,fun _=> rfl,fun _=> rfl⟩⟩
  exact (GQ σ e.fr).symm
 | some d=>
  have:=h1.put (d:=d) (by show d < (freeze σ e.fr).nt;rw[GQ];exact hd d rfl) h2 h3
  refine ⟨ρ',this.congr ⟨(GQ σ e.fr).symm,fun _=> rfl,fun _=> rfl⟩⟩
theorem FR (σ:AS) (ns:List Nat) (t:Nat):get t (freeze σ ns).tm=(get t σ.tm).map (if ns=[] then id else fz ns (blk σ)):=by
 cases ns with
 | nil=> simp[freeze]
 | cons m ms=> simp[freeze,Io]
theorem LQ (h:Cu D S N0 B w0 ρ σ a w) {ops:Array Oper} {o:Oper} {g:Bool} (hg:B4 σ ops o.guard=some (some g)):Region.wanted o (yielded ops a.tmps)=g:=by
 cases hgo:o.guard with
 | none=> rw[hgo] at hg;simp[B4] at hg
 | some jw=>
  obtain ⟨j,want⟩:=jw
  rw[hgo] at hg
  simp only[B4] at hg
  split at hg
  case h_1=> cases hg
  rename_i t ht
  have hy:∀b,a.tmps.getD t undef=.bool b→yielded ops a.tmps j=some b:=by
   intro b hb
   unfold yielded
   rw[ht]
   have:a.tmps[t]? =some (.bool b):=by
    rw[Array.getD_eq_getD_getElem?] at hb
    cases hq:a.tmps[t]? with
    | none=> rw[hq] at hb;simp[undef] at hb
    | some v=> rw[hq] at hb;simp at hb;rw[hb]
   simp[this]
  have hn:a.tmps.getD t undef=undef→yielded ops a.tmps j=none:=by
   intro hb
   unfold yielded
   rw[ht]
   rw[Array.getD_eq_getD_getElem?] at hb
   cases hq:a.tmps[t]? with
   | none=> simp[hq]
   | some v=> rw[hq] at hb;simp at hb;subst hb;simp[hq,undef]
  have hlt:t < 65536:=by
   rcases Nat.lt_or_ge t 65536 with hlt | hge
   ·exact hlt
   ·rw[Fq,if_neg (by omega)] at hg
    cases hg
  rw[Fq,if_pos hlt] at hg
  cases hgt:get t σ.tm with
  | none=> rw[hgt] at hg;simp at hg
  | some x=>
   have hrel:=(h.tm t x hgt).1
   rw[vl,if_pos hlt] at hrel
   rw[hgt] at hg
   simp only[Option.getD_some] at hg
   split at hg
   ·rename_i b
    have:=hy b hrel.bool_
    simp only[Region.wanted,hgo,this]
    simp at hg
    subst hg
    cases b <;> cases want <;> rfl
   ·rename_i g1 b
    simp at hg
    cases hrel with
    | opt g1 x v q1 q2=>
    cases g1 with
    | true=>
     have:=hy b (q1 rfl).bool_
     simp only[Region.wanted,hgo,this]
     simp at hg
     subst hg
     cases b <;> cases want <;> rfl
    | false=>
     have:=hn (q2 rfl)
     simp only[Region.wanted,hgo,this]
     simp at hg
     subst hg
     rfl
   ·cases hg
theorem KZ (hT:Hu P D) (hG:Cl P D G) (h:Cu D S N0 B w0 ρ σ a w) {M:ID} {nb:Nat} {off:List (Nat×Bool)} {ops:Array Oper} {Q:Exit→Act→World→Prop} {i:Nat} {o:Oper} (ho:ops[i]? =some o) {e:Ck} (he:opEff D G M nb off ops σ o=some e)
  (hf:fresh σ o.dst e=true) (hp:e.pre) (hM:o.guard=none→Jv M (nb+o.dst.getD 0) σ o=some e→wpOp P ops Q i (fun a' w'=> St D S N0 B w0 (apply σ o.dst e) a' w') a w):wpOp P ops Q i (fun a' w'=> St D S N0 B w0 (apply σ o.dst e) a' w') a w:=by
 simp only[fresh,Bool.and_eq_true] at hf
 obtain ⟨hf1,hf2⟩:=hf
 have hd:∀d,o.dst=some d→d < σ.nt:=by
  intro d hd
  rw[hd] at hf2
  simpa using hf2
 unfold opEff at he
 split at he
 ·cases hg:B4 σ ops o.guard with
  | none=> rw[hg] at he;cases he
  | some g=>
   rw[hg] at he
   cases g with
   | none=> cases he
   | some g=>
    simp only[XS] at he
    cases he
    simp only at hp
    unfold wpOp
    simp only[ho]
    rw[LQ h hg,hp,if_neg (by simp)]
    cases hdst:o.dst with
    | none=> exact ⟨ρ,h⟩
    | some d=> exact ⟨ρ,h.put (hd d hdst) (.opt false _ undef (fun hh=> by cases hh) fun _=> rfl) (by simp[Ad])⟩
 cases hg:B4 σ ops o.guard with
 | none=> rw[hg] at he;cases he
 | some g=>
  rw[hg] at he
  cases g with
  | none=>
   have hgd:o.guard=none:=by
    cases hgo:o.guard with
    | none=> rfl
    | some jw=>
     exfalso
     obtain ⟨j,want⟩:=jw
     rw[hgo] at hg
     simp only[B4] at hg
     split at hg
     ·cases hg
     ·split at hg <;> first | (cases hg;done) | (simp at hg)
   have hw:Region.wanted o (yielded ops a.tmps)=true:=by simp[Region.wanted,hgd]
   cases hbe:GC D G σ (nb+o.dst.getD 0) o.op (o.op.operands.toList.map (ev σ)) with
   | some e1=>
    rw[hbe] at he
    cases he
    unfold wpOp
    simp only[ho]
    rw[if_pos hw]
    left
    exact Qa hT hG h hbe hf1 hp fun v w' hm=> hm.fin hd
   | none=>
    rw[hbe] at he
    cases hme:Jv M (nb+o.dst.getD 0) σ o with
    | none=> rw[hme] at he;cases he
    | some e1=>
     rw[hme] at he
     have:e1=e:=by
      simp only[orM] at he
      split at he
      ·exact Option.some.inj he
      ·cases he
     subst this
     exact hM hgd hme
  | some g=>
   unfold wpOp
   simp only[ho]
   cases hb:GC D G σ (nb+o.dst.getD 0) o.op (o.op.operands.toList.map (ev σ)) with
   | none=> rw[hb] at he;simp[IL] at he
   | some e0=>
    rw[hb] at he
    simp only[IL] at he
    split at he
    case isFalse=> cases he
    rename_i hemp
    obtain ⟨⟨h1,h2,h3⟩,h4,h5⟩:=hemp
    have h6:=YN h h5
    cases he
    simp only at hp hf1
    have hwant:Region.wanted o (yielded ops a.tmps)=g:=LQ h hg
    have hfz:∀x:AV,(∀n∈Ad x,(blk σ n).isSome=true)→∀bl,fz (AF e0.nw) bl x=x:=by
     intro x hx bl
     refine Xx x fun n hn hk=> ?_
     have h5:=hx n hn
     rw[B1 h4 n hk] at h5
     cases h5
    have happ:∀v,apply σ o.dst {v:=v,pre:=g=true→e0.pre}={nt:=σ.nt,tm:=VD o.dst v σ.tm,bl:=σ.bl}:=fun _=> rfl
    rw[hwant]
    rw[happ]
    have fin:∀(ρ1:BI) (w1:World) (x:AV) (u:Value),Cu D S N0 B w0 ρ1 σ a w1→Rel w1 (Im S N0 B w1 ρ1 σ) ρ1 x u→(∀n∈Ad x,(blk σ n).isSome=true)→St D S N0 B w0 {nt:=σ.nt,tm:=VD o.dst x σ.tm,bl:=σ.bl} (a.put o.dst u) w1:=by
     intro ρ1 w1 x u k1 k2 k3
     cases hdst:o.dst with
     | none=> exact ⟨ρ1,k1⟩
     | some d=> exact ⟨ρ1,k1.put (hd d hdst) k2 k3⟩
    cases g with
    | false=>
     rw[if_neg (by simp)]
     refine fin ρ w _ undef h (.opt false _ undef (fun hh=> by cases hh) fun _=> rfl) fun n hn=> ?_
     rw[Ad] at hn
     exact h6 n hn
    | true=>
     rw[if_pos rfl]
     left
     refine Qa hT hG h hb h4 (hp rfl) fun v w' hm=> ?_
     obtain ⟨ρ1,k1,k2,k3⟩:=hm
     rw[h1,h2,h3] at k1 k2 k3
     have k4:=k1.freeze (AF e0.nw)
     have hbl:∀n,n∈AF e0.nw→blk (Bv (Ab.freeze σ []) [] e0.nw []) n=Aby e0.nw n:=by
      intro n hn
      obtain ⟨y,hy⟩:=BM.1 hn
      rw[BW,hy]
      exact hy.symm
     have heq:Ia (Ab.freeze (Bv (Ab.freeze σ []) [] e0.nw []) (AF e0.nw)) σ:=by
      refine ⟨by rw[GQ];rfl,fun t=> ?_,fun n=> ?_⟩
      ·rw[FR]
       show get t σ.tm=Option.map _ (get t σ.tm)
       cases hgt:get t σ.tm with
       | none=> rfl
       | some x=>
        simp only[Option.map_some]
        split
        ·rfl
        ·rw[hfz x (h.tm t x hgt).2]
      ·rw[BS]
       by_cases hk:n∈AF e0.nw
       ·rw[if_pos hk,B1 h4 n hk]
       ·rw[if_neg hk,BW,B3.2 hk]
        simp only[get,List.not_mem_nil,if_false]
        rw[show blk (Ab.freeze σ []) n=blk σ n from rfl]
        cases hbn:blk σ n with
        | none=> rfl
        | some y=>
         cases y with
         | rows e sz rs=> rfl
         | deep e sz rs cols foc=>
          have hid:∀fo:List (Nat×Nat×Nat),(∀m∈Gh fo,m∉AF e0.nw)→keepF (fz (AF e0.nw) (blk (Bv (Ab.freeze σ []) [] e0.nw []))) (keepF (kl []) fo)=fo:=by
           intro fo
           rw[Jr (h:=kl []) (fun m=> by simp[kl,Cg])]
           induction fo with
           | nil=> intro _;rfl
           | cons q r ih=>
            obtain ⟨i,j,m⟩:=q
            intro hq
            have hm:Cg m (AF e0.nw)=false:=Ce.2 (hq m (by simp[Gh]))
            simp only[keepF,fz,hm,Bool.false_eq_true,if_false]
            rw[ih fun m hm=> hq m (by simp only[Gh,List.mem_cons];exact .inr hm)]
          have:=hid foc fun m hm hk=> by
           have:=h.hp.clos n _ hbn m hm
           rw[B1 h4 m hk] at this
           cases this
          simp only[Option.map_some,Bo,this]
         | cells cs=>
          have hid:∀x∈cs,fz (AF e0.nw) (blk (Bv (Ab.freeze σ []) [] e0.nw [])) (kl [] x)=x:=fun x hx=> by
           rw[FT]
           refine Xx x fun m hm hk=> ?_
           obtain ⟨j,hj⟩:=List.getElem?_of_mem hx
           have:=h.hp.closed n cs hbn m (AY hj hm)
           rw[B1 h4 m hk] at this
           cases this
          have:(cs.map (kl [])).map (fz (AF e0.nw) (blk (Bv (Ab.freeze σ []) [] e0.nw [])))=cs:=by
           rw[List.map_map]
           exact (List.map_congr_left (g:=id) hid).trans (by simp)
          simp only[Option.map_some,Bo,this]
     have k5:=k4.congr heq
     refine fin ρ1 w' _ v k5 (.opt true _ v (fun _=> ?_) (fun hh=> by cases hh)) fun n hn=> ?_
     ·have hold:∀m y,blk σ m=some y→m∉AF e0.nw∧∃y',blk (Bv (Ab.freeze σ []) [] e0.nw []) m=some y'∧∀b,owns ρ1 m y' b↔owns ρ1 m y b:=by
       intro m y hm
       have hmk:m∉AF e0.nw:=fun hk=> by rw[B1 h4 m hk] at hm;cases hm
       refine ⟨hmk,?_⟩
       rw[BW,B3.2 hmk]
       simp only[get,List.not_mem_nil,if_false]
       show ∃y',(blk σ m).map (Bo (kl []))=some y'∧∀b,owns ρ1 m y' b↔owns ρ1 m y b
       rw[hm]
       exact ⟨_,rfl,fun b=> BZ⟩
      refine Rel.fz (D:=D) (fun n x hn hx=> ?_) (fun b hb=> ?_) (fun n x b hn hx hb=> ?_) k2
      ·exact k1.hp.blk n x (by rw[hbl n hn];exact hx)
      ·obtain ⟨q1,q2,q3⟩:=hb
       refine ⟨q1,q2,fun m y hm=> ?_⟩
       obtain ⟨_,y',hy',ho⟩:=hold m y hm
       rw[←ho]
       exact q3 m y' hy'
      ·have hx':blk (Bv (Ab.freeze σ []) [] e0.nw []) n=some x:=by rw[hbl n hn];exact hx
       refine ⟨k1.named_lt hx' hb,(k1.own n x b hx' (Ew hb)).elim (fun q=> .inr (.inl q)) (fun q=> .inr (.inr q)),fun m y hm hmb=> ?_⟩
       obtain ⟨hmk,y',hy',ho⟩:=hold m y hm
       exact hmk (k1.hp.inj n m b x y' hx' hy' (Ew hb) ((ho b).2 hmb) ▸hn)
     ·rw[Ad] at hn
      exact h6 n hn
end
def Nw (dst:Nat) (e:Ck):Prop:=∀k∈AF e.nw,k%4096=dst%4096
theorem Nw.nil {dst:Nat} {e:Ck} (h:e.nw=[]):Nw dst e:=by intro k hk;rw[h] at hk;cases hk
theorem Vy {dn:Nat}:∀{l:List (Nat×Be)},YM dn l=true→∀k∈AF l,k%4096=dn%4096
 | [],_,k,hk=> by cases hk
 | (j,b)::r,h,k,hk=> by
  simp only[YM,Bool.and_eq_true,decide_eq_true_eq] at h
  simp only[AF,List.mem_cons] at hk
  rcases hk with rfl | hk
  ·exact h.1
  ·exact Vy h.2 k hk
theorem AbK {dn:Nat} {e:Ck} (h:YM dn e.nw=true):Nw dn e:=Vy h
theorem Nw.one {dst:Nat} {e:Ck} {b:Be} (h:e.nw=[(dst,b)]):Nw dst e:=by
 intro k hk
 rw[h] at hk
 simp[AF] at hk
 rw[hk]
theorem QU {dst:Nat}:∀{l:List (Nat×Nat×List (List AV))} {k:Nat},∀n∈AF (DZ dst k l),n%4096=dst%4096
 | [],_,n,h=> by simp[DZ,AF] at h
 | (e,sz,rs)::r,k,n,h=> by
  simp only[DZ,AF,List.mem_cons] at h
  rcases h with rfl | h
  ·omega
  ·exact QU n h
theorem Jw {α:Type} {o:Option α} {f:α→AV} {e:Ck} (h:o.map (fun x=> ({v:=f x}:Ck))=some e):e.nw=[]:=by
 obtain ⟨x,_,rfl⟩:=Option.map_eq_some_iff.1 h
 rfl
theorem AbF {α:Type} {o:Option α} {f:α→AV} {g:α→Prop} {e:Ck} (h:o.map (fun x=> ({v:=f x,pre:=g x}:Ck))=some e):e.nw=[]:=by
 obtain ⟨x,_,rfl⟩:=Option.map_eq_some_iff.1 h
 rfl
theorem Acq {op x y e} (h:bin op x y=some e):e.nw=[]:=by
 unfold bin at h
 split at h <;> (try split at h) <;> first | (cases h;rfl) | cases h
theorem Ys {D T c op x y e} (h:Ls D T c op x y=some e):e.nw=[]:=by
 unfold Ls at h
 split at h
 ·split at h <;> first | (cases h;rfl) | cases h
 ·split at h <;> first | (cases h;rfl) | cases h
 ·exact Acq h
theorem Vc {D bl T lo hi xs e} (h:Ij D bl T lo hi xs=some e):e.nw=[]:=by
 unfold Ij at h
 simp only at h
 split at h
 ·split at h
  ·split at h <;> first | (cases h;rfl) | cases h
  ·cases h
 ·split at h
  ·split at h <;> first | (cases h;rfl) | cases h
  ·cases h
 ·cases h
theorem Wx {D bl T x e} (h:Hz D bl T x=some e):e.nw=[]:=by
 unfold Hz at h
 split at h
 ·split at h
  ·exact Jw h
  ·cases h
 ·exact Jw h
 ·split at h
  ·exact Jw h
  ·split at h
   ·exact Jw h
   ·cases h
 ·cases h
theorem Vd {D bl T x y e} (h:Ik D bl T x y=some e):e.nw=[]:=by
 unfold Ik at h
 split at h
 ·split at h <;> first | (cases h;rfl) | cases h
 ·split at h
  ·cases h;rfl
  ·split at h
   ·split at h
    ·cases h;rfl
    ·cases h
   ·cases h
 ·cases h
theorem PO {D T f x e} (h:D7 D T f x=some e):e.nw=[]:=by
 unfold D7 at h
 split at h
 ·split at h
  ·split at h <;> first | (cases h;rfl) | cases h
  ·cases h
 ·cases h
theorem Vb {D T f x e} (h:Ii D T f x=some e):e.nw=[]:=by
 unfold Ii at h
 split at h
 ·split at h
  ·split at h
   ·exact Jw h
   ·cases h
  ·cases h
 ·cases h
theorem PP {D bl T x i e} (h:D8 D bl T x i=some e):e.nw=[]:=by
 unfold D8 at h
 split at h
 ·split at h
  ·split at h
   ·split at h <;> first | (cases h;rfl) | cases h
   ·split at h
    ·split at h <;> first | (cases h;rfl) | cases h
    ·split at h
     ·split at h <;> first | (cases h;rfl) | cases h
     ·cases h
   ·split at h <;> first | (cases h;rfl) | cases h
   ·cases h
  ·cases h
 ·cases h
theorem Rx {D bl S T x e} (h:FO D bl S T x=some e):e.nw=[]:=by
 unfold FO at h
 split at h
 ·split at h <;> first | (cases h;rfl) | cases h
 ·split at h <;> first | (cases h;rfl) | cases h
 ·split at h
  ·exact AbF h
  ·cases h
 ·split at h
  ·split at h <;> first | (cases h;rfl) | cases h
  ·cases h
 ·split at h
  ·split at h
   ·split at h <;> first | (cases h;rfl) | cases h
   ·cases h
  ·cases h
 ·cases h
theorem SX {D bl dst T U x y e} (h:FM D bl dst T U x y=some e):Nw dst e:=by
 unfold FM at h
 split at h
 ·split at h
  ·split at h
   ·cases h;exact .one rfl
   ·cases h
  ·unfold FN at h
   split at h
   ·split at h
    ·split at h
     ·cases h;exact .one rfl
     ·cases h
    ·cases h
   ·cases h
 ·cases h
theorem Ww {G bl dst args x e} (h:KT G bl dst args x=some e):Nw dst e:=by
 unfold KT at h
 split at h
 ·split at h
  ·unfold Lu at h
   split at h
   ·split at h
    ·cases h;exact .nil rfl
    ·split at h <;> first | (cases h;exact .nil rfl) | cases h
   ·split at h
    ·cases h;exact QU
    ·cases h
   ·cases h
  ·cases h
 ·cases h
theorem Yt {D bl T x e} (h:Lt D bl T x=some e):e.nw=[]:=by
 unfold Lt at h
 split at h
 ·split at h <;> first | (cases h;rfl) | cases h
 ·split at h
  ·cases h;rfl
  ·split at h
   ·exact Jw h
   ·cases h
 ·cases h
theorem Acs {D G bl dst op xs e} (h:Zp D G bl dst op xs=some e):Nw dst e:=by
 cases op <;> simp only[Zp] at h <;> try (cases h;done)
 case move=> split at h <;> first | (cases h;exact .nil rfl) | cases h
 case assign=> split at h <;> first | (cases h;exact .nil rfl) | cases h
 case alloc=> split at h <;> first | (cases h;exact .one rfl) | cases h
 case box=> split at h <;> first | (cases h;exact .one rfl) | cases h
 case build=>
  split at h
  ·exact .nil (Jw h)
  ·cases h
 case buildSlice=>
  split at h
  ·split at h
   ·split at h
    ·cases h;exact .one rfl
    split at h
    ·unfold GP at h
     split at h
     ·cases h;exact .one rfl
     ·cases h
    ·cases h;exact .one rfl
   ·cases h
  ·cases h
 case load=> split at h <;> first | exact .nil (Wx h) | cases h
 case store=>
  split at h
  ·split at h <;> first | exact .nil (Vd h) | cases h
  ·cases h
 case nilCheck=> split at h <;> first | (cases h;exact .nil rfl) | cases h
 case binOp=> split at h <;> first | exact .nil (Ys h) | cases h
 case unOp=> split at h <;> first | (cases h;exact .nil rfl) | cases h
 case convert=> split at h <;> first | exact .nil (Rx h) | cases h
 case slice=> split at h <;> first | exact .nil (Vc h) | cases h
 case fieldAddr=> split at h <;> first | exact .nil (PO h) | cases h
 case field=> split at h <;> first | exact .nil (Vb h) | cases h
 case indexAddr=> split at h <;> first | exact .nil (PP h) | cases h
 case index=> split at h <;> first | (cases h;exact .nil rfl) | cases h
 case makeSlice=>
  split at h
  ·split at h
   ·split at h <;> first | (cases h;exact .nil rfl) | cases h
   ·cases h
  ·cases h
 case extract=>
  split at h
  ·exact .nil (Jw h)
  ·cases h
 case makeFunc=>
  split at h
  ·split at h <;> first | (cases h;exact .nil rfl) | cases h
  ·cases h
 case call c=>
  split at h
  ·split at h
   ·split at h
    ·split at h <;> first | exact .nil (Yt h) | cases h
    ·cases h
   ·split at h
    ·split at h <;> first | exact SX h | cases h
    ·cases h
   ·split at h
    ·split at h <;> first | (cases h;exact .nil rfl) | cases h
    ·cases h
   ·split at h
    ·split at h <;> first | (cases h;exact .nil rfl) | cases h
    ·cases h
   ·cases h
  ·split at h <;> first | exact Ww h | cases h
  ·cases h
theorem UN {D G σ dst op ys e} (h:GC D G σ dst op ys=some e):Nw dst e:=by
 unfold GC at h
 split at h
 ·unfold XN at h
  split at h
  ·unfold XO at h
   split at h <;> first | (cases h;exact .nil rfl) | cases h
  ·cases h
 ·cases he:Zp D G (GA σ (Af ys)) dst op (ys.map uv) with
  | none=> rw[he] at h;cases h
  | some e'=>
   rw[he] at h
   simp only[UL] at h
   cases h
   exact (show Nw dst e' from Acs he)
section
variable {P:Program} {D:Nat→TI} {G:PW} {M:ID} {nb:Nat} {off:List (Nat×Bool)} {ops:Array Oper} {σ σ':AS}
def opsNs (σ:AS) (o:Oper):List Nat:=Af (o.op.operands.toList.map (ev σ))
theorem JY {ns:List Nat} (h:∀n∈ns,blk σ' n=blk σ n):GA σ' ns=GA σ ns:=by
 funext n
 unfold GA
 split
 ·exact h n (Cz.1 ‹_›)
 ·rfl
theorem Z4 {op:Op} (h:EJ op=true) {bl bl':Nat→Option Be} {dst:Nat} {xs:List AV}:Zp D G bl dst op xs=Zp D G bl' dst op xs:=by
 cases op <;> simp only[EJ] at h <;> first | rfl | cases h
theorem RX {o:Oper} {dn:Nat} (h:EJ o.op=true):Jv M dn σ o=none:=by
 unfold Jv
 split
 ·rename_i c hc
  rw[hc] at h
  cases h
 ·rfl
def PK (σ σ':AS) (o:Oper):Prop:=EJ o.op=true∨∀n∈opsNs σ o,blk σ' n=blk σ n
theorem PK.base {o:Oper} (h:PK σ σ' o) (dn:Nat):GC D G σ' dn o.op (o.op.operands.toList.map (ev σ))=GC D G σ dn o.op (o.op.operands.toList.map (ev σ)):=by
 unfold GC
 rcases h with h | h
 ·rw[Z4 h (bl:=GA σ' (Af (o.op.operands.toList.map (ev σ)))) (bl':=GA σ (Af (o.op.operands.toList.map (ev σ))))]
 ·have hs:=JY h
  simp only[opsNs] at hs
  rw[hs]
theorem PK.bs {o:Oper} (h:PK σ σ' o):Kk σ' o.op (opsNs σ o)=Kk σ o.op (opsNs σ o):=by
 unfold Kk
 split
 ·rfl
 ·rename_i hf
  rcases h with h | h
  ·exact absurd h hf
  ·rw[JY h]
theorem PK.m {o:Oper} (h:PK σ σ' o) (hev:∀x∈o.op.operands,ev σ' x=ev σ x) {dn:Nat}:Jv M dn σ' o=Jv M dn σ o:=by
 rcases h with h | h
 ·rw[RX h,RX h]
 ·have hys:o.op.operands.toList.map (ev σ')=o.op.operands.toList.map (ev σ):=List.map_congr_left fun x hx=> hev x (by simpa using hx)
  have hs:=JY h
  simp only[opsNs] at hs
  unfold Jv
  rw[hys,hs]
  split
  ·rename_i c hc
   split
   ·rename_i f hcf
    rw[hc] at hev
    have h1:ev σ' f=ev σ f:=hev f (by simp[Op.operands,Call.operands,hcf])
    have h2:c.args.toList.map (ev σ')=c.args.toList.map (ev σ):=List.map_congr_left fun x hx=> hev x (by simp only[Op.operands,Call.operands,hcf];exact Array.mem_append.2 (.inr (by simpa using hx)))
    rw[h1,h2]
   ·rfl
  ·rfl
theorem Kx {o:Oper} {e:Ck} (hev:∀x∈o.op.operands,ev σ' x=ev σ x) (hg:B4 σ' ops o.guard=B4 σ ops o.guard) (hsn:PK σ σ' o)
  (hun:o.guard≠none→∀e0,GC D G σ (nb+o.dst.getD 0) o.op (o.op.operands.toList.map (ev σ))=some e0→CC σ (AF e0.nw)=true→CC σ' (AF e0.nw)=true) (he:opEff D G M nb off ops σ o=some e):opEff D G M nb off ops σ' o=some e:=by
 have hys:o.op.operands.toList.map (ev σ')=o.op.operands.toList.map (ev σ):=List.map_congr_left fun x hx=> hev x (by simpa using hx)
 unfold opEff at he ⊢
 rw[hg,hys]
 split at he
 ·rename_i ho
  rw[if_pos ho]
  exact he
 rename_i ho
 rw[if_neg ho]
 rw[hsn.base,hsn.m hev]
 cases hgo:B4 σ ops o.guard with
 | none=> rw[hgo] at he;cases he
 | some g=>
  rw[hgo] at he
  cases g with
  | none=> exact he
  | some g=>
   have hbs:=hsn.bs
   simp only[opsNs] at hbs
   cases h0:GC D G σ (nb+o.dst.getD 0) o.op (o.op.operands.toList.map (ev σ)) with
   | none=> rw[h0] at he;exact he
   | some e0=>
    rw[h0] at he
    simp only[IL,hbs] at he ⊢
    split at he
    ·rename_i hc
     have hgn:o.guard≠none:=fun e=> by rw[e] at hgo;simp[B4] at hgo
     rw[if_pos ⟨hc.1,hun hgn e0 h0 hc.2.1,hc.2.2⟩]
     exact he
    ·cases he
theorem Jz {o:Oper} {e:Ck} (he:opEff D G M nb off ops σ o=some e):Nw (nb+o.dst.getD 0) e:=by
 unfold opEff at he
 split at he
 ·unfold XS at he
  split at he
  ·cases he;exact .nil rfl
  ·cases he
 cases hgo:B4 σ ops o.guard with
 | none=> rw[hgo] at he;cases he
 | some g=>
  rw[hgo] at he
  cases g with
  | none=>
   cases hbe:GC D G σ (nb+o.dst.getD 0) o.op (o.op.operands.toList.map (ev σ)) with
   | some e1=> rw[hbe] at he;cases he;exact UN hbe
   | none=>
    rw[hbe] at he
    cases hme:Jv M (nb+o.dst.getD 0) σ o with
    | none=> rw[hme] at he;cases he
    | some e1=>
     rw[hme] at he
     simp only[orM] at he
     split at he
     ·rename_i hn;cases he;exact AbK hn
     ·cases he
  | some g=>
   cases h0:GC D G σ (nb+o.dst.getD 0) o.op (o.op.operands.toList.map (ev σ)) with
   | none=> rw[h0] at he;simp[IL] at he
   | some e0=>
    rw[h0] at he
    simp only[IL] at he
    split at he
    ·cases he;exact .nil rfl
    ·cases he
mutual
def Hv:AV→Bool
 | .junk=> false
 | .agg cs=> Fy cs
 | .tup cs=> Fy cs
 | .func _ cs=> Fy cs
 | .opt _ v=> Hv v
 | _=> true
def Fy:List AV→Bool
 | []=> true
 | v::r=> Hv v&&Fy r
end
mutual
theorem Qc {ks:List Nat}:∀(x:AV),Hv (kl ks x)=true→kl ks x=x
 | .os t,h=> by
  simp only[kl] at h ⊢
  split
  ·rename_i e;rw[if_pos e] at h;simp[Hv] at h
  ·rfl
 | .ptr v o,h=> by
  simp only[kl] at h ⊢
  split
  ·rename_i e;rw[if_pos e] at h;simp[Hv] at h
  ·rfl
 | .tsl v o,h=> by
  simp only[kl] at h ⊢
  split
  ·rename_i e;rw[if_pos e] at h;simp[Hv] at h
  ·rfl
 | .psl v o,h=> by
  simp only[kl] at h ⊢
  split
  ·rename_i e;rw[if_pos e] at h;simp[Hv] at h
  ·rfl
 | .eptr v i o,h=> by
  simp only[kl] at h ⊢
  split
  ·rename_i e;rw[if_pos e] at h;simp[Hv] at h
  ·rfl
 | .agg cs,h=> by simp only[kl,Hv] at h ⊢;rw[GZ cs h]
 | .tup cs,h=> by simp only[kl,Hv] at h ⊢;rw[GZ cs h]
 | .func f cs,h=> by simp only[kl,Hv] at h ⊢;rw[GZ cs h]
 | .opt g v,h=> by simp only[kl,Hv] at h ⊢;rw[Qc v h]
 | .junk,_=> by simp[kl]
 | .int _ _,_=> by simp[kl]
 | .bool _,_=> by simp[kl]
 | .str _,_=> by simp[kl]
 | .nils,_=> by simp[kl]
 | .sl _ _,_=> by simp[kl]
 | .iptr _,_=> by simp[kl]
 | .lsl _,_=> by simp[kl]
 | .imap _,_=> by simp[kl]
 | .nilp,_=> by simp[kl]
 | .ifc _,_=> by simp[kl]
theorem GZ {ks:List Nat}:∀(cs:List AV),Fy (Pt ks cs)=true→Pt ks cs=cs
 | [],_=> by simp[Pt]
 | c::r,h=> by
  simp only[Pt,Fy,Bool.and_eq_true] at h ⊢
  rw[Qc c h.1,GZ r h.2]
end
mutual
theorem Vr {ks:List Nat}:∀(x:AV),(∀n∈Ad x,n∉ks)→kl ks x=x
 | .os t,h=> by simp only[kl];rw[if_neg];simp[Ce.2 (h t (by simp[Ad]))]
 | .ptr v o,h=> by simp only[kl];rw[if_neg];simp[Ce.2 (h v (by simp[Ad]))]
 | .tsl v o,h=> by simp only[kl];rw[if_neg];simp[Ce.2 (h v (by simp[Ad]))]
 | .psl v o,h=> by simp only[kl];rw[if_neg];simp[Ce.2 (h v (by simp[Ad]))]
 | .eptr v i o,h=> by simp only[kl];rw[if_neg];simp[Ce.2 (h v (by simp[Ad]))]
 | .agg cs,h=> by rw[Ad] at h;simp only[kl];rw[QE cs h]
 | .tup cs,h=> by rw[Ad] at h;simp only[kl];rw[QE cs h]
 | .func f cs,h=> by rw[Ad] at h;simp only[kl];rw[QE cs h]
 | .opt g v,h=> by rw[Ad] at h;simp only[kl];rw[Vr v h]
 | .junk,_=> by simp[kl]
 | .int _ _,_=> by simp[kl]
 | .bool _,_=> by simp[kl]
 | .str _,_=> by simp[kl]
 | .nils,_=> by simp[kl]
 | .sl _ _,_=> by simp[kl]
 | .iptr _,_=> by simp[kl]
 | .lsl _,_=> by simp[kl]
 | .imap _,_=> by simp[kl]
 | .nilp,_=> by simp[kl]
 | .ifc _,_=> by simp[kl]
theorem QE {ks:List Nat}:∀(cs:List AV),(∀n∈Af cs,n∉ks)→Pt ks cs=cs
 | [],_=> by simp[Pt]
 | c::r,h=> by
  rw[Af] at h
  simp only[Pt]
  rw[Vr c fun n hn=> h n (List.mem_append_left _ hn),QE r fun n hn=> h n (List.mem_append_right _ hn)]
end
theorem Qd:∀{cs:List AV} {x:AV},Fy cs=true→x∈cs→Hv x=true
 | [],_,_,h=> by cases h
 | c::r,x,hc,h=> by
  simp only[Fy,Bool.and_eq_true] at hc
  rcases List.mem_cons.1 h with rfl | h
  ·exact hc.1
  ·exact Qd hc.2 h
theorem SZ {x:Operand} (h:∀t,x=.tmp t→get t σ'.tm=get t σ.tm):ev σ' x=ev σ x:=by
 cases x with
 | tmp t=> simp only[ev,Fq];rw[h t rfl]
 | _=> rfl
theorem IK {g:Option (Nat×Bool)} (h:∀j w t,g=some (j,w)→(ops[j]?).bind (·.dst)=some t→get t σ'.tm=get t σ.tm):B4 σ' ops g=B4 σ ops g:=by
 cases g with
 | none=> rfl
 | some jw=>
  obtain ⟨j,w⟩:=jw
  simp only[B4]
  cases ht:(ops[j]?).bind (·.dst) with
  | none=> rfl
  | some t=> simp only[Fq];rw[h j w t rfl ht]
theorem B0:∀{l:List Nat},CC σ l=true↔∀n∈l,blk σ n=none
 | []=> by simp[CC]
 | k::r=> by
  simp only[CC,Bool.and_eq_true,Option.isNone_iff_eq_none,B0 (l:=r),List.mem_cons]
  constructor
  ·rintro ⟨h1,h2⟩ n (rfl | hn)
   ·exact h1
   ·exact h2 n hn
  ·intro h
   exact ⟨h k (.inl rfl),fun n hn=> h n (.inr hn)⟩
theorem Ia.blk_eq (h:Ia σ σ'):blk σ'=blk σ:=funext h.bl
theorem Ia.opEff (h:Ia σ σ') {o:Oper} {e:Ck} (he:opEff D G M nb off ops σ o=some e):Ab.opEff D G M nb off ops σ' o=some e:=
 Kx (fun x _=> SZ fun t _=> h.tm t) (IK fun _ _ t _ _=> h.tm t) (.inr fun n _=> h.bl n)
  (fun _ e0 _ hu=> B0.2 fun n hn=> by rw[h.bl];exact B0.1 hu n hn) he
theorem Ia.fresh (h:Ia σ σ') {d:Option Nat} {e:Ck} (hf:fresh σ d e=true):Ab.fresh σ' d e=true:=by
 simp only[Ab.fresh,Bool.and_eq_true] at hf ⊢
 refine ⟨B0.2 fun n hn=> by rw[h.bl];exact B0.1 hf.1 n hn,?_⟩
 rw[h.nt]
 exact hf.2
theorem G4 (σ:AS) (ns:List Nat) (t:Nat):get t (kill σ ns).tm=(get t σ.tm).map (if ns=[] then id else kl ns):=by
 cases ns with
 | nil=> simp[kill]
 | cons m ms=> simp[kill,Io]
theorem Ia.freeze (h:Ia σ σ') (ns:List Nat):Ia (Ab.freeze σ ns) (Ab.freeze σ' ns):=by
 refine ⟨by rw[GQ,GQ];exact h.nt,fun t=> ?_,fun n=> ?_⟩
 ·rw[FR,FR,h.tm,h.blk_eq]
 ·rw[BS,BS,h.blk_eq]
theorem XD (σ:AS) (ns:List Nat):(kill σ ns).nt=σ.nt:=by cases ns <;> rfl
theorem Ia.kill (h:Ia σ σ') (ns:List Nat):Ia (Ab.kill σ ns) (Ab.kill σ' ns):=by
 refine ⟨by rw[XD,XD];exact h.nt,fun t=> ?_,fun n=> ?_⟩
 ·rw[G4,G4,h.tm]
 ·rw[KP,KP,h.blk_eq]
theorem Qu (t:Nat) (d:Option Nat) (v:AV) (tm:List (Nat×AV)):get t (VD d v tm)=if d=some t then some v else get t tm:=by
 cases d with
 | none=> simp[VD]
 | some d=> simp[VD,get]
theorem Ll (σ:AS) (d:Option Nat) (e:Ck) (n:Nat):blk (apply σ d e) n=match get n e.nw with
  | some y=> some y
  | none=> match get n e.up with
   | some y=> some y
   | none=> blk (kill (freeze σ e.fr) e.kl) n:=by
 simp only[apply,blk,FP,Qs]
 cases get n e.nw with
 | some y=> rfl
 | none=>
  simp only[Option.map_none]
  cases get n e.up with
  | some y=> rfl
  | none=> simp only[Option.map_none]
theorem Ia.apply (h:Ia σ σ') (d:Option Nat) (e:Ck):Ia (apply σ d e) (Ab.apply σ' d e):=by
 have h1:=(h.freeze e.fr).kill e.kl
 refine ⟨h.nt,fun t=> ?_,fun n=> ?_⟩
 ·simp only[Ab.apply,Qu,h1.tm]
 ·rw[Ll,Ll,h1.bl]
end
structure Lo where
 lo:List Nat:=[]
 uo:List Nat:=[]
 un:List Nat:=[]
 ex:List Nat:=[]
 kn:List Nat:=[]
 uo2:List Nat:=[]
 un2:List Nat:=[]
 ex2:List Nat:=[]
 kn2:List Nat:=[]
 hand:Bool:=false
def Lo.g2 (lo:Lo):Lo:={uo:=lo.uo2,un:=lo.un2,ex:=lo.ex2,kn:=lo.kn2}
def fkE (e:Ck):Bool:=match e.fr with
 | []=> true
 | _::_=> false
def XE (e:Ck):Bool:=match e.kl with
 | []=> true
 | _::_=> false
def XV (e:Ck):Bool:=match e.up with
 | []=> true
 | _::_=> false
def SW:List Nat→List Nat→Bool
 | [],_=> true
 | n::r,l=> !Cg n l&&SW r l
def okE (σ:AS) (o:Oper) (e:Ck):Bool:=okN (AF e.nw) (opsNs σ o) (Kk σ o.op (opsNs σ o)) (Ad e.v++(BG e.nw++BG e.up))
def bcl (bl:Nat→Option Be):List Nat→Bool
 | []=> true
 | n::r=> (match bl n with | some (.cells cs)=> Fy cs | some (.deep _ _ _ _ _)=> false | _=> true)&&bcl bl r
def Zq (lo:Lo) (σ:AS) (i:Nat) (o:Oper) (e:Ck):Bool:=
 (KX lo.un&&KX lo.kn) || (Cg i lo.ex ||
  ((KX lo.kn || (o.guard.isNone&&(SW (opsNs σ o) lo.kn&&(Fy (o.op.operands.toList.map (ev σ))&&(SW (AF e.nw) lo.kn&&(EJ o.op || (SW (Kk σ o.op (opsNs σ o)) lo.kn&&bcl (GA σ (opsNs σ o)) (opsNs σ o))))))))
  &&(EJ o.op || SW (opsNs σ o) lo.un)))
def upB (lo:Lo) (σ:AS) (o:Oper) (e:Ck):Bool:=
 Az (AF e.up) lo.un&&(Az (AF e.up) (opsNs σ o)&&(Az e.kl lo.kn&&(Az e.kl (opsNs σ o)&&SW (Ad e.v++(BG e.nw++BG e.up)) e.kl)))
def still (lo:Lo) (σ:AS) (i:Nat) (o:Oper) (e:Ck):Bool:=
 (fkE e&&(okE σ o e&&((XV e&&(XE e&&(Zq lo σ i o e&&Zq lo.g2 σ i o e))) || ((Cg i lo.uo&&upB lo σ o e) || (Cg i lo.uo2&&upB lo.g2 σ o e))))) || Cg i lo.lo
structure Cx where
 P:Program
 D:Nat→TI
 G:PW
 S:Nat→Prop
 N0:Nat→Prop
 B:Nat
 w0:World
 nb:Nat
 M:ID
abbrev Cx.St (X:Cx) (γ:Nat→Value):AS→Act→World→Prop:=Ab.St X.D X.S X.N0 X.B ⟨X.w0,γ⟩
inductive Ex (X:Cx) (ops:Array Oper) (o:Oper) (σ:AS) (R:AS→Prop):Prop
 | mk (h:∀(γ:Nat→Value) (a:Act) (w:World) (i:Nat) (Qx:Exit→Act→World→Prop),ops[i]? =some o→X.St γ σ a w→wpOp X.P ops Qx i (fun a' w'=> ∃σ',R σ'∧X.St γ σ' a' w') a w)
theorem Ex.mono {X:Cx} {ops:Array Oper} {o:Oper} {σ:AS} {R R':AS→Prop} (hr:∀σ,R σ→R' σ) (h:Ex X ops o σ R):Ex X ops o σ R':=
 ⟨fun γ a w i Qx hi hs=> wpOp_mono (fun a' w' ⟨σ',h1,h2⟩=> ⟨σ',hr _ h1,h2⟩) (h.1 γ a w i Qx hi hs)⟩
theorem Ex.eqv {X:Cx} {ops:Array Oper} {o:Oper} {σ σ':AS} {R:AS→Prop} (he:Ia σ σ') (h:Ex X ops o σ R):Ex X ops o σ' R:=
 ⟨fun γ a w i Qx hi hs=> h.1 γ a w i Qx hi (hs.congr he.symm)⟩
structure Cx.Ok (X:Cx):Prop where
 mixed:X.P.follows .mixedOrders=true
 types:Hu X.P X.D
 calls:Cl X.P X.D X.G
 mok:∀(ops:Array Oper) (o:Oper) (σ:AS) (e:Ck),o.guard=none→Jv X.M (X.nb+o.dst.getD 0) σ o=some e→e.pre→fresh σ o.dst e=true→Ex X ops o σ (fun σ'=> Ia (apply σ o.dst e) σ')
def EE (X:Cx) (off:List (Nat×Bool)) (ops:Array Oper):List Oper→(AS→Prop)→AS→Prop
 | [],Q,σ=> Q σ
 | o::r,Q,σ=> match opEff X.D X.G X.M X.nb off ops σ o with
  | none=> Ex X ops o σ (EE X off ops r Q)
  | some e=> (fresh σ o.dst e=true∧e.pre)∧EE X off ops r Q (apply σ o.dst e)
def Fh (X:Cx) (off:List (Nat×Bool)) (ops:Array Oper) (lo:Lo):List (Nat×Oper)→(AS→Prop)→AS→Prop
 | [],Q,σ=> Q σ
 | (i,o)::r,Q,σ=> match opEff X.D X.G X.M X.nb off ops σ o with
  | none=> Cg i lo.lo=true∧Ex X ops o σ (Fh X off ops lo r Q)
  | some e=> ((fresh σ o.dst e=true∧e.pre)∧still lo σ i o e=true)∧Fh X off ops lo r Q (apply σ o.dst e)
def EC:Nat→List Oper→List (Nat×Oper)
 | _,[]=> []
 | i,o::r=> (i,o)::EC (i+1) r
def Ace (acc:List Nat) (es:List Edge):Nat:=es.foldl (fun s e=> if Region.binds .any e then s ||| 2^e.on ||| acc.getD e.on 0 else s) 0
def XH:List Oper→List Nat→List Nat
 | [],acc=> acc
 | o::r,acc=> XH r (acc++[Ace acc o.after.toList])
def Kj (ops:Array Oper) (lo:Lo) (j i:Nat) (oj oi:Oper):Bool:=
 oj.apart ops oi&&!Cg i lo.lo&&!Cg j lo.lo&&decide ((oj.dst.getD 0)%4096≠(oi.dst.getD 0)%4096)&&((!(Cg i lo.uo) || (!Cg j lo.ex&&(!Cg j lo.uo&&!Cg j lo.uo2)))&&(!(Cg i lo.uo2) || (!Cg j lo.ex2&&(!Cg j lo.uo&&!Cg j lo.uo2))))&&((!(Cg j lo.uo) || (!Cg i lo.ex&&(!Cg i lo.uo&&!Cg i lo.uo2)))&&(!(Cg j lo.uo2) || (!Cg i lo.ex2&&(!Cg i lo.uo&&!Cg i lo.uo2))))
def ZC (i:Nat) (es:List Edge):Bool:=es.all fun e=> !Region.binds .any e || decide (e.on < i)
def AaY (ops:Array Oper) (lo:Lo) (m i:Nat) (oi:Oper):List (Nat×Oper)→Bool
 | []=> true
 | (j,oj)::r=> (decide (i≤j) || m.testBit j || Kj ops lo j i oj oi)&&AaY ops lo m i oi r
def PZ (ops:Array Oper) (lo:Lo) (ms:List Nat) (ps:List (Nat×Oper)):List (Nat×Oper)→Bool
 | []=> true
 | (i,o)::r=> ZC i o.after.toList&&AaY ops lo (ms.getD i 0) i o ps&&PZ ops lo ms ps r
def Qy (ops:Array Oper) (lo:Lo):Bool:=PZ ops lo (XH ops.toList []) (EC 0 ops.toList) (EC 0 ops.toList)
section
variable {X:Cx} {off:List (Nat×Bool)} {ops:Array Oper} {lo:Lo} {σ σ':AS}
theorem E4 {i:Nat} {o:Oper} {r:List (Nat×Oper)} {Q:AS→Prop}:Fh X off ops lo ((i,o)::r) Q σ↔(∃e,opEff X.D X.G X.M X.nb off ops σ o=some e∧((fresh σ o.dst e=true∧e.pre)∧still lo σ i o e=true)∧Fh X off ops lo r Q (apply σ o.dst e))∨(opEff X.D X.G X.M X.nb off ops σ o=none∧Cg i lo.lo=true∧Ex X ops o σ (Fh X off ops lo r Q)):=by
 rw[Fh]
 cases opEff X.D X.G X.M X.nb off ops σ o with
 | none=> simp
 | some e=> simp
theorem GR {i:Nat} {o:Oper} {r:List (Nat×Oper)} {Q:AS→Prop} (hi:Cg i lo.lo=false):Fh X off ops lo ((i,o)::r) Q σ↔∃e,opEff X.D X.G X.M X.nb off ops σ o=some e∧((fresh σ o.dst e=true∧e.pre)∧still lo σ i o e=true)∧Fh X off ops lo r Q (apply σ o.dst e):=by
 rw[E4]
 constructor
 ·rintro (h | ⟨_,h,_⟩)
  ·exact h
  ·rw[hi] at h;cases h
 ·exact .inl
structure Wf (σ:AS):Prop where
 tm:∀t x,get t σ.tm=some x→∀n∈Ad x,(blk σ n).isSome=true
 cl:∀n x,blk σ n=some x→∀m∈Em x,(blk σ m).isSome=true
theorem Cu.wf {D:Nat→TI} {S N0:Nat→Prop} {B:Nat} {w0:W0} {ρ:BI} {a:Act} {w:World} (h:Cu D S N0 B w0 ρ σ a w):Wf σ:=⟨fun t x hx=> (h.tm t x hx).2,h.hp.clos⟩
theorem Wf.opsB (h:Wf σ) {o:Oper} {n:Nat} (hn:n∈opsNs σ o):(blk σ n).isSome=true:=by
 obtain ⟨i,x,hx,hn⟩:=Cr hn
 rw[List.getElem?_map] at hx
 obtain ⟨y,hy,rfl⟩:=Option.map_eq_some_iff.1 hx
 cases y with
 | tmp t=>
  simp only[ev,Fq] at hn
  split at hn
  ·cases hg:get t σ.tm with
   | none=> rw[hg] at hn;simp[Ad] at hn
   | some x=> rw[hg] at hn;exact h.tm t x hg n hn
  ·simp[Ad] at hn
 | const v=>
  simp only[ev] at hn
  unfold cst at hn
  split at hn <;> simp[Ad] at hn
 | func f=> simp[ev,Ad,Af] at hn
 | global g=> simp[ev,Ad] at hn
theorem Xu {e:Ck}:fkE e=true↔e.fr=[]:=by
 unfold fkE
 cases e.fr <;> simp
theorem Zl {e:Ck}:XV e=true↔e.up=[]:=by
 unfold XV
 cases e.up <;> simp
theorem YF {e:Ck}:XE e=true↔e.kl=[]:=by
 unfold XE
 cases e.kl <;> simp
theorem Ig {n:Nat}:∀{a b:List Nat},SW a b=true→n∈a→n∉b
 | [],_,_,h=> by cases h
 | k::r,b,hs,h=> by
  simp only[SW,Bool.and_eq_true,Bool.not_eq_true'] at hs
  rcases List.mem_cons.1 h with rfl | h
  ·exact Ce.1 hs.1
  ·exact Ig hs.2 h
theorem Yy (σ:AS) (ns:List Nat) (t:Nat):get t (kill σ ns).tm=(get t σ.tm).map (kl ns):=by
 rw[G4]
 split
 ·rename_i h
  subst h
  rw[show (kl []:AV→AV)=id from funext FT]
 ·rfl
theorem Ez (x:Be):Bo (kl []) x=x:=by
 cases x with
 | rows e sz rs=> rfl
 | deep e sz rs cols foc=> simp only[Bo];rw[Jr (fun m=> FT _)]
 | cells cs=> simp only[Bo];rw[show (kl []:AV→AV)=id from funext FT];simp
theorem Vq {ks:List Nat}:∀{foc:List (Nat×Nat×Nat)},(∀n∈Gh foc,n∉ks)→keepF (kl ks) foc=foc
 | [],_=> rfl
 | (i,j,m)::r,h=> by
  have hm:Cg m ks=false:=Ce.2 (h m (by simp[Gh]))
  simp only[keepF,kl,hm,Bool.false_eq_true,if_false]
  rw[Vq fun n hn=> h n (by simp only[Gh,List.mem_cons];exact .inr hn)]
theorem LA {ks:List Nat} {x:Be} (h:∀n∈Em x,n∉ks):Bo (kl ks) x=x:=by
 cases x with
 | rows e sz rs=> rfl
 | deep e sz rs cols foc=> simp only[Bo];rw[Vq h]
 | cells cs=> simp only[Bo];rw[←Jt,QE cs h]
theorem Gc {d:Option Nat} {e:Ck} (h:fkE e=true) (t:Nat):get t (apply σ d e).tm=if d=some t then some e.v else (get t σ.tm).map (kl e.kl):=by
 simp only[apply,Xu.1 h,freeze,Qu,Yy]
theorem CU {d:Option Nat} {e:Ck} (h:fkE e=true) (n:Nat):blk (apply σ d e) n=match get n e.nw with
  | some y=> some y
  | none=> match get n e.up with
   | some y=> some y
   | none=> if n∈e.kl then none else (blk σ n).map (Bo (kl e.kl)):=by
 rw[Ll,Xu.1 h]
 simp only[freeze,KP]
 all_goals (
  cases get n e.nw with
  | some y=> rfl
  | none=>
   cases get n e.up with
   | some y=> rfl
   | none=> rfl)
theorem GW {d:Option Nat} {e:Ck} (h:fkE e=true) {n:Nat} (hn:(blk σ n).isSome=true) (hk:n∉e.kl):(blk (apply σ d e) n).isSome=true:=by
 rw[CU h]
 split
 ·rfl
 ·split
  ·rfl
  ·rw[if_neg hk];simpa using hn
theorem CX {n k:Nat} {x:Be}:∀{l:List (Nat×Be)},get k l=some x→n∈Em x→n∈BG l
 | [],h,_=> by simp[get] at h
 | (j,.cells ds)::r,h,hn=> by
  simp only[get] at h
  simp only[BG,List.mem_append]
  split at h
  ·cases h;exact .inl hn
  ·exact .inr (CX h hn)
 | (j,.rows _ _ _)::r,h,hn=> by
  simp only[get] at h
  simp only[BG]
  split at h
  ·cases h;cases hn
  ·exact CX h hn
 | (j,.deep _ _ _ _ foc)::r,h,hn=> by
  simp only[get] at h
  simp only[BG,List.mem_append]
  split at h
  ·cases h;exact .inl hn
  ·exact .inr (CX h hn)
theorem LE (hw:Wf σ) {o:Oper} {d:Option Nat} {e:Ck} (hq:fkE e=true) (h:okE σ o e=true) (hkl:∀n∈Ad e.v++(BG e.nw++BG e.up),n∉e.kl) {n:Nat} (hn:n∈Ad e.v++(BG e.nw++BG e.up)):(blk (apply σ d e) n).isSome=true:=by
 have:=EG h hn
 have hnk:=hkl n hn
 simp only[List.mem_append] at this
 rcases this with h1 | h1 | h1
 ·obtain ⟨y,hy⟩:=BM.1 h1
  rw[CU hq,hy]
  rfl
 ·exact GW hq (hw.opsB h1) hnk
 ·unfold Kk at h1
  split at h1
  ·cases h1
  obtain ⟨k,x,hk,hm⟩:=Ge h1
  exact GW hq (hw.cl k x (F9 hk) n hm) hnk
theorem Wf.apply (hw:Wf σ) {o:Oper} {d:Option Nat} {e:Ck} (hq:fkE e=true) (h:okE σ o e=true) (hkl:∀n∈Ad e.v++(BG e.nw++BG e.up),n∉e.kl):Wf (apply σ d e):=by
 refine ⟨fun t x hx n hn=> ?_,fun n cs hc m hm=> ?_⟩
 ·rw[Gc hq] at hx
  split at hx
  ·cases hx
   exact LE hw hq h hkl (List.mem_append_left _ hn)
  ·obtain ⟨y,hy,rfl⟩:=Option.map_eq_some_iff.1 hx
   have:=G8 e.kl y n hn
   exact GW hq (hw.tm t y hy n this.1) this.2
 ·rw[CU hq] at hc
  split at hc
  ·rename_i y hy
   cases hc
   exact LE hw hq h hkl (List.mem_append_right _ (List.mem_append_left _ (CX hy hm)))
  ·split at hc
   ·rename_i y hy
    cases hc
    exact LE hw hq h hkl (List.mem_append_right _ (List.mem_append_right _ (CX hy hm)))
   ·split at hc
    ·cases hc
    ·obtain ⟨y,hy,rfl⟩:=Option.map_eq_some_iff.1 hc
     obtain ⟨q1,q2⟩:=Lm hm
     exact GW hq (hw.cl n y hy m q1) q2
theorem FY {o:Oper} (hev:∀x∈o.op.operands,ev σ' x=ev σ x):opsNs σ' o=opsNs σ o:=by
 unfold opsNs
 rw[List.map_congr_left fun x hx=> hev x (by simpa using hx)]
theorem AaA {o:Oper} {e:Ck} (hns:opsNs σ' o=opsNs σ o) (h:PK σ σ' o):okE σ' o e=okE σ o e:=by
 unfold okE
 rw[hns,h.bs]
theorem VY {o:Oper} {e:Ck} (hns:opsNs σ' o=opsNs σ o):upB lo σ' o e=upB lo σ o e:=by
 unfold upB
 rw[hns]
theorem Ve {i:Nat} {o:Oper} {e:Ck} (hev:∀x∈o.op.operands,ev σ' x=ev σ x) (h:PK σ σ' o):Zq lo σ' i o e=Zq lo σ i o e:=by
 have hns:=FY hev
 have hm:o.op.operands.toList.map (ev σ')=o.op.operands.toList.map (ev σ):=List.map_congr_left fun x hx=> hev x (by simpa using hx)
 unfold Zq
 rw[hns,hm,h.bs]
 rcases h with h | h
 ·rw[h];simp
 ·rw[JY h]
theorem KG {i:Nat} {o:Oper} {e:Ck} (hev:∀x∈o.op.operands,ev σ' x=ev σ x) (h:PK σ σ' o):still lo σ' i o e=still lo σ i o e:=by
 unfold still
 rw[AaA (FY hev) h,VY (FY hev),VY (FY hev),Ve hev h,Ve hev h]
def Inv (Q:AS→Prop):Prop:=∀σ σ',Ia σ σ'→Q σ→Q σ'
def clo (Q:AS→Prop) (σ:AS):Prop:=∃σ1,Ia σ1 σ∧Q σ1
theorem Abl (Q:AS→Prop):Inv (clo Q):=fun σ σ' h ⟨σ1,h1,h2⟩=> ⟨σ1,h1.trans h,h2⟩
theorem LK {Q Q':AS→Prop} (h:∀σ,Q σ→Q' σ):∀{R:List (Nat×Oper)} {σ:AS},Fh X off ops lo R Q σ→Fh X off ops lo R Q' σ
 | [],σ,hr=> h σ hr
 | (i,o)::r,σ,hr=> by
  rcases E4.1 hr with ⟨e,h1,h2,h3⟩ | ⟨h1,h2,h3⟩
  ·exact E4.2 (.inl ⟨e,h1,h2,LK h h3⟩)
  ·exact E4.2 (.inr ⟨h1,h2,h3.mono fun σ=> LK h⟩)
theorem Ia.opsNs (h:Ia σ σ') (o:Oper):opsNs σ' o=Ab.opsNs σ o:=by
 unfold Ab.opsNs
 rw[List.map_congr_left fun x _=> SZ fun t _=> h.tm t]
theorem Ia.still (h:Ia σ σ') {i:Nat} {o:Oper} {e:Ck}:still lo σ' i o e=Ab.still lo σ i o e:=
 KG (fun x _=> SZ fun t _=> h.tm t) (.inr fun n _=> h.bl n)
theorem VI {Q:AS→Prop} (hQ:Inv Q):∀{R:List (Nat×Oper)} {σ σ':AS},Ia σ σ'→Fh X off ops lo R Q σ→Fh X off ops lo R Q σ'
 | [],σ,σ',h,hr=> hQ σ σ' h hr
 | (i,o)::r,σ,σ',h,hr=> by
  rcases E4.1 hr with ⟨e,h1,⟨⟨h2,h2'⟩,h2''⟩,h3⟩ | ⟨h1,h2,h3⟩
  ·exact E4.2 (.inl ⟨e,h.opEff h1,⟨⟨h.fresh h2,h2'⟩,by rw[h.still];exact h2''⟩,VI hQ (h.apply o.dst e) h3⟩)
  ·refine E4.2 (.inr ⟨?_,h2,h3.eqv h⟩)
   cases hq:opEff X.D X.G X.M X.nb off ops σ' o with
   | none=> rfl
   | some e=> rw[h.symm.opEff hq] at h1;cases h1
theorem RW {o:Oper} {x:Operand} {t:Nat} (hx:x∈o.op.operands) (e:x=.tmp t):t∈o.looksAt ops:=by
 subst e
 exact List.mem_append_left _ (List.mem_filterMap.2 ⟨.tmp t,by simpa using hx,rfl⟩)
theorem Pv {o:Oper} {j:Nat} {w:Bool} {t:Nat} (hg:o.guard=some (j,w)) (ht:(ops[j]?).bind (·.dst)=some t):t∈o.looksAt ops:=by
 unfold Oper.looksAt
 refine List.mem_append_right _ ?_
 rw[hg]
 simp[ht]
theorem AbH (a b c:Nat) (h:(c+a)%4096=(c+b)%4096):a%4096=b%4096:=by omega
theorem Ql (σ:AS) (t:Nat):Ab.ev σ (.tmp t)=Fq σ t:=rfl
theorem JZ {i:Nat} (hi:Cg i lo.lo=false) {o:Oper} {e:Ck} (h:still lo σ i o e=true):fkE e=true∧okE σ o e=true∧((e.up=[]∧e.kl=[]∧Zq lo σ i o e=true∧Zq lo.g2 σ i o e=true)∨(Cg i lo.uo=true∧upB lo σ o e=true)∨(Cg i lo.uo2=true∧upB lo.g2 σ o e=true)):=by
 simp only[still,hi,Bool.or_false,Bool.and_eq_true,Bool.or_eq_true] at h
 obtain ⟨h1,h2,h3⟩:=h
 refine ⟨h1,h2,?_⟩
 rcases h3 with ⟨h3,h4,h5⟩ | h3
 ·exact .inl ⟨Zl.1 h3,YF.1 h4,h5⟩
 ·exact .inr h3
theorem Gb {o:Oper} {e:Ck} (h:upB lo σ o e=true):(∀n∈AF e.up,n∈lo.un∧n∈opsNs σ o)∧(∀n∈e.kl,n∈lo.kn∧n∈opsNs σ o)∧∀n∈Ad e.v++(BG e.nw++BG e.up),n∉e.kl:=by
 simp only[upB,Bool.and_eq_true] at h
 obtain ⟨h1,h2,h3,h4,h5⟩:=h
 exact ⟨fun n hn=> ⟨EG h1 hn,EG h2 hn⟩,fun n hn=> ⟨EG h3 hn,EG h4 hn⟩,fun n hn=> Ig h5 hn⟩
theorem Ra {i:Nat} (hi:Cg i lo.lo=false) {o:Oper} {e:Ck} (h:still lo σ i o e=true):∀n∈Ad e.v++(BG e.nw++BG e.up),n∉e.kl:=by
 obtain ⟨_,_,h3⟩:=JZ hi h
 rcases h3 with ⟨_,h3,_⟩ | ⟨_,h3⟩ | ⟨_,h3⟩
 ·rw[h3];simp
 ·exact (Gb h3).2.2
 ·exact (Gb h3).2.2
theorem Xo {bl:Nat→Option Be} {n:Nat} {cs:List AV}:∀{l:List Nat},bcl bl l=true→n∈l→bl n=some (.cells cs)→Fy cs=true
 | [],_,h,_=> by cases h
 | k::r,hb,h,hn=> by
  simp only[bcl,Bool.and_eq_true] at hb
  rcases List.mem_cons.1 h with rfl | h
  ·have:=hb.1;rw[hn] at this;exact this
  ·exact Xo hb.2 h hn
theorem UO {bl:Nat→Option Be} {n e sz:Nat} {rs:List (List AV)} {cols foc:List (Nat×Nat×Nat)}:∀{l:List Nat},bcl bl l=true→n∈l→bl n=some (.deep e sz rs cols foc)→False
 | [],_,h,_=> by cases h
 | k::r,hb,h,hn=> by
  simp only[bcl,Bool.and_eq_true] at hb
  rcases List.mem_cons.1 h with rfl | h
  ·have:=hb.1;rw[hn] at this;cases this
  ·exact UO hb.2 h hn
theorem IE {bl:Nat→Option Be} {n m:Nat} {x:Be}:∀{l:List Nat},n∈l→bl n=some x→m∈Em x→m∈F5 bl l
 | [],h,_,_=> by cases h
 | k::r,h,hn,hm=> by
  simp only[F5]
  rcases List.mem_cons.1 h with rfl | h
  ·rw[hn]
   cases x with
   | cells cs=> exact List.mem_append_left _ hm
   | rows _ _ _=> cases hm
   | deep _ _ _ _ foc=> exact List.mem_append_left _ hm
  ·split
   ·exact List.mem_append_right _ (IE h hn hm)
   ·exact List.mem_append_right _ (IE h hn hm)
   ·exact IE h hn hm
theorem Q8 {ns:List Nat} {n:Nat} (h:n∈ns):GA σ ns n=blk σ n:=by
 unfold GA
 rw[if_pos (Cz.2 h)]
theorem LB {k:Nat} {l:List Nat} (h:k∈l):KX l=false:=by
 cases l with
 | nil=> cases h
 | cons _ _=> rfl
theorem EL {i:Nat} {o:Oper} {e:Ck} (hx:Cg i lo.ex=false) (h:Zq lo σ i o e=true):
  (∀k∈lo.kn,o.guard=none∧(∀n∈opsNs σ o,n∉lo.kn)∧Fy (o.op.operands.toList.map (ev σ))=true∧(∀n∈AF e.nw,n∉lo.kn)∧(EJ o.op=true∨((∀n∈Kk σ o.op (opsNs σ o),n∉lo.kn)∧bcl (GA σ (opsNs σ o)) (opsNs σ o)=true)))∧
  (∀k∈lo.un,EJ o.op=true∨∀n∈opsNs σ o,n∉lo.un):=by
 simp only[Zq,hx,Bool.false_or,Bool.or_eq_true,Bool.and_eq_true,Option.isNone_iff_eq_none] at h
 rcases h with ⟨h1,h2⟩ | ⟨h1,h2⟩
 ·exact ⟨fun k hk=> (by rw[LB hk] at h2;cases h2),fun k hk=> (by rw[LB hk] at h1;cases h1)⟩
 ·refine ⟨fun k hk=> ?_,fun k hk=> h2.imp id fun h=> fun n hn=> Ig h hn⟩
  rcases h1 with h1 | ⟨g1,g2,g3,g4,g5⟩
  ·rw[LB hk] at h1;cases h1
  ·exact ⟨g1,fun n hn=> Ig g2 hn,g3,fun n hn=> Ig g4 hn,g5.imp id fun ⟨q1,q2⟩=> ⟨fun n hn=> Ig q1 hn,q2⟩⟩
theorem LO {d:Option Nat} {e:Ck} (h:fkE e=true) {t:Nat} (ht:d≠some t):Fq (apply σ d e) t=kl e.kl (Fq σ t):=by
 unfold Fq
 split
 ·rw[Gc h,if_neg ht]
  cases get t σ.tm <;> simp[kl]
 ·simp[kl]
theorem Adm {Q:AS→Prop} (hQ:Inv Q) (hw:Wf σ) {j i:Nat} {oj oi:Oper} {r:List (Nat×Oper)} (hap:Kj ops lo j i oj oi=true) (h:Fh X off ops lo ((j,oj)::(i,oi)::r) Q σ):
  Fh X off ops lo ((i,oi)::(j,oj)::r) Q σ:=by
 simp only[Kj,Bool.and_eq_true,Bool.or_eq_true,Bool.not_eq_true',decide_eq_true_eq] at hap
 obtain ⟨⟨⟨⟨⟨hap,hi⟩,hj⟩,hne⟩,hui,hui2⟩,huj,huj2⟩:=hap
 obtain ⟨a1,a2,a3⟩:=Oper.apart_spec hap
 obtain ⟨ej,j1,⟨⟨j2,j3⟩,j4⟩,h⟩:=(GR hj).1 h
 obtain ⟨ei,i1,⟨⟨i2,i3⟩,i4⟩,h⟩:=(GR hi).1 h
 have jkl:=Ra hj j4
 have ikl:=Ra hi i4
 obtain ⟨jq,jo,jc⟩:=JZ hj j4
 obtain ⟨iq,io,ic⟩:=JZ hi i4
 simp only[fresh,Bool.and_eq_true] at j2 i2
 obtain ⟨j2,j2'⟩:=j2
 obtain ⟨i2,i2'⟩:=i2
 have jun:=B0.1 j2
 have iun:=B0.1 i2
 obtain ⟨lj,jup,jkn,iquiet⟩:∃lj:Lo,(∀n∈AF ej.up,n∈lj.un∧n∈opsNs σ oj)∧(∀n∈ej.kl,n∈lj.kn∧n∈opsNs σ oj)∧
   ((∃n,n∈AF ej.up∨n∈ej.kl)→ei.up=[]∧ei.kl=[]∧Cg i lj.ex=false∧Zq lj (apply σ oj.dst ej) i oi ei=true):=by
  rcases jc with ⟨e1,e2,_⟩ | ⟨e1,e2⟩ | ⟨e1,e2⟩
  ·exact ⟨lo,by rw[e1];simp[AF],by rw[e2];simp,fun ⟨n,hn⟩=> by rw[e1,e2] at hn;simp[AF] at hn⟩
  ·refine ⟨lo,(Gb e2).1,(Gb e2).2.1,fun _=> ?_⟩
   have h1:=huj.resolve_left (by rw[e1];simp)
   rcases ic with ⟨c1,c2,c3,_⟩ | ⟨c,_⟩ | ⟨c,_⟩
   ·exact ⟨c1,c2,h1.1,c3⟩
   ·rw[h1.2.1] at c;cases c
   ·rw[h1.2.2] at c;cases c
  ·refine ⟨lo.g2,(Gb e2).1,(Gb e2).2.1,fun _=> ?_⟩
   have h1:=huj2.resolve_left (by rw[e1];simp)
   rcases ic with ⟨c1,c2,_,c3⟩ | ⟨c,_⟩ | ⟨c,_⟩
   ·exact ⟨c1,c2,h1.1,c3⟩
   ·rw[h1.2.1] at c;cases c
   ·rw[h1.2.2] at c;cases c
 have hev:∀x∈oi.op.operands,ev (apply σ oj.dst ej) x=ev σ x:=fun x hx=> by
  cases x with
  | tmp t=>
   have ht:oj.dst≠some t:=fun hd=> a1 t hd (RW hx rfl)
   rw[Ql,Ql,LO jq ht]
   by_cases hk:ej.kl=[]
   ·rw[hk,FT]
   ·obtain ⟨n,hn⟩:=List.exists_mem_of_ne_nil _ hk
    obtain ⟨_,_,h1,h2⟩:=iquiet ⟨n,.inr hn⟩
    have h3:=((EL h1 h2).1 n (jkn n hn).1).2.2.1
    have h4:=Qd h3 (List.mem_map_of_mem (f:=ev (apply σ oj.dst ej)) (show Operand.tmp t∈oi.op.operands.toList by simpa using hx))
    rw[Ql,LO jq ht] at h4
    exact Qc _ h4
  | _=> rfl
 have hns:opsNs (apply σ oj.dst ej) oi=opsNs σ oi:=FY hev
 have hiK:∀n∈opsNs σ oi,n∉ej.kl:=fun n hn hk=> by
  obtain ⟨_,_,h1,h2⟩:=iquiet ⟨n,.inr hk⟩
  have h3:=((EL h1 h2).1 n (jkn n hk).1).2.1 n (by rw[hns];exact hn)
  exact h3 (jkn n hk).1
 have same1:PK σ (apply σ oj.dst ej) oi:=by
  by_cases hf:EJ oi.op=true
  ·exact .inl hf
  ·refine .inr fun n hn=> ?_
   have hb:=hw.opsB hn
   rw[CU jq]
   have h1:get n ej.nw=none:=B3.2 fun hk=> by rw[jun n hk] at hb;cases hb
   have h2:get n ej.up=none:=B3.2 fun hk=> by
    obtain ⟨_,_,g1,g2⟩:=iquiet ⟨n,.inl hk⟩
    rcases (EL g1 g2).2 n (jup n hk).1 with g3 | g3
    ·exact hf g3
    ·exact g3 n (by rw[hns];exact hn) (jup n hk).1
   rw[h1,h2]
   simp only
   rw[if_neg (hiK n hn)]
   cases hbn:blk σ n with
   | none=> rfl
   | some y=>
    simp only[Option.map_some]
    by_cases hk:ej.kl=[]
    ·rw[hk,Ez]
    ·obtain ⟨k,hk⟩:=List.exists_mem_of_ne_nil _ hk
     obtain ⟨_,_,g1,g2⟩:=iquiet ⟨k,.inr hk⟩
     have g3:=(((EL g1 g2).1 k (jkn k hk).1).2.2.2.2).resolve_left hf
     cases y with
     | rows _ _ _=> rfl
     | deep e sz rs cols foc=>
      exfalso
      have g4:blk (apply σ oj.dst ej) n=some (.deep e sz rs cols (keepF (kl ej.kl) foc)):=by
       rw[CU jq,h1,h2]
       simp only
       rw[if_neg (hiK n hn),hbn]
       rfl
      exact UO g3.2 (n:=n) (by rw[hns];exact hn) (by rw[Q8 (by rw[hns];exact hn)];exact g4)
     | cells cs=>
      have g4:blk (apply σ oj.dst ej) n=some (.cells (Pt ej.kl cs)):=by
       rw[CU jq,h1,h2]
       simp only
       rw[if_neg (hiK n hn),hbn]
       simp only[Option.map_some,Bo,Jt]
      have g5:=Xo g3.2 (n:=n) (cs:=Pt ej.kl cs) (by rw[hns];exact hn) (by rw[Q8 (by rw[hns];exact hn)];exact g4)
      simp only[Bo]
      rw[←Jt,GZ cs g5]
 have hun0:∀n,n∉ej.kl→blk (apply σ oj.dst ej) n=none→blk σ n=none:=fun n hk hn=> by
  cases hb:blk σ n with
  | none=> rfl
  | some y=>
   have:=GW (σ:=σ) (d:=oj.dst) jq (n:=n) (by rw[hb];rfl) hk
   rw[hn] at this
   cases this
 have hgi:B4 (apply σ oj.dst ej) ops oi.guard=B4 σ ops oi.guard:=by
  by_cases hk:ej.kl=[]
  ·refine IK fun jj ww t hg ht=> ?_
   rw[Gc jq,if_neg fun hd=> a1 t hd (Pv hg ht),hk,show (kl []:AV→AV)=id from funext FT]
   simp
  ·obtain ⟨k,hk⟩:=List.exists_mem_of_ne_nil _ hk
   obtain ⟨_,_,g1,g2⟩:=iquiet ⟨k,.inr hk⟩
   rw[((EL g1 g2).1 k (jkn k hk).1).1]
   rfl
 have k1:opEff X.D X.G X.M X.nb off ops σ oi=some ei:=by
  refine Kx (σ:=apply σ oj.dst ej) (fun x hx=> (hev x hx).symm) hgi.symm (same1.imp id fun hs n hn=> by rw[hns] at hn;exact (hs n hn).symm) (fun hgn e0 _ hu=> ?_) i1
  refine B0.2 fun n hn=> hun0 n (fun hk=> ?_) (B0.1 hu n hn)
  obtain ⟨_,_,g1,g2⟩:=iquiet ⟨n,.inr hk⟩
  exact hgn ((EL g1 g2).1 n (jkn n hk).1).1
 have iun':∀n∈AF ei.nw,blk σ n=none:=fun n hn=> hun0 n (fun hk=> by
  obtain ⟨_,_,g1,g2⟩:=iquiet ⟨n,.inr hk⟩
  exact ((EL g1 g2).1 n (jkn n hk).1).2.2.2.1 n hn (jkn n hk).1) (iun n hn)
 obtain ⟨li,iup,ikn,jquiet⟩:∃li:Lo,(∀n∈AF ei.up,n∈li.un∧n∈opsNs σ oi)∧(∀n∈ei.kl,n∈li.kn∧n∈opsNs σ oi)∧
   ((∃n,n∈AF ei.up∨n∈ei.kl)→ej.up=[]∧ej.kl=[]∧Cg j li.ex=false∧Zq li σ j oj ej=true):=by
  rw[←hns]
  rcases ic with ⟨e1,e2,_⟩ | ⟨e1,e2⟩ | ⟨e1,e2⟩
  ·exact ⟨lo,by rw[e1];simp[AF],by rw[e2];simp,fun ⟨n,hn⟩=> by rw[e1,e2] at hn;simp[AF] at hn⟩
  ·refine ⟨lo,(Gb e2).1,(Gb e2).2.1,fun _=> ?_⟩
   have h1:=hui.resolve_left (by rw[e1];simp)
   rcases jc with ⟨c1,c2,c3,_⟩ | ⟨c,_⟩ | ⟨c,_⟩
   ·exact ⟨c1,c2,h1.1,c3⟩
   ·rw[h1.2.1] at c;cases c
   ·rw[h1.2.2] at c;cases c
  ·refine ⟨lo.g2,(Gb e2).1,(Gb e2).2.1,fun _=> ?_⟩
   have h1:=hui2.resolve_left (by rw[e1];simp)
   rcases jc with ⟨c1,c2,_,c3⟩ | ⟨c,_⟩ | ⟨c,_⟩
   ·exact ⟨c1,c2,h1.1,c3⟩
   ·rw[h1.2.1] at c;cases c
   ·rw[h1.2.2] at c;cases c
 have hbd:∀n,(blk σ n).isSome=true→n∉AF ei.nw:=fun n hn hk=> by rw[iun' n hk] at hn;cases hn
 have hjK:∀n∈opsNs σ oj,n∉ei.kl:=fun n hn hk=> by
  obtain ⟨_,_,h1,h2⟩:=jquiet ⟨n,.inr hk⟩
  exact ((EL h1 h2).1 n (ikn n hk).1).2.1 n hn (ikn n hk).1
 have hev2:∀x∈oj.op.operands,ev (apply σ oi.dst ei) x=ev σ x:=fun x hx=> by
  cases x with
  | tmp t=>
   have ht:oi.dst≠some t:=fun hd=> a3 t hd (RW hx rfl)
   rw[Ql,Ql,LO iq ht]
   refine Vr _ fun n hn=> hjK n ?_
   obtain ⟨q,hq⟩:=List.getElem?_of_mem (show Operand.tmp t∈oj.op.operands.toList by simpa using hx)
   exact AY (i:=q) (x:=ev σ (.tmp t)) (by rw[List.getElem?_map,hq];rfl) hn
  | _=> rfl
 have hns2:opsNs (apply σ oi.dst ei) oj=opsNs σ oj:=FY hev2
 have hjbs:∀n∈Kk σ oj.op (opsNs σ oj),n∉ei.kl:=fun n hn hk=> by
  obtain ⟨_,_,g1,g2⟩:=jquiet ⟨n,.inr hk⟩
  rcases ((EL g1 g2).1 n (ikn n hk).1).2.2.2.2 with g3 | g3
  ·unfold Kk at hn;rw[if_pos g3] at hn;cases hn
  ·exact g3.1 n hn (ikn n hk).1
 have same2:PK σ (apply σ oi.dst ei) oj:=by
  by_cases hf:EJ oj.op=true
  ·exact .inl hf
  ·refine .inr fun n hn=> ?_
   have hb:=hw.opsB hn
   rw[CU iq]
   have h1:get n ei.nw=none:=B3.2 (hbd n hb)
   have h2:get n ei.up=none:=B3.2 fun hk=> by
    obtain ⟨_,_,g1,g2⟩:=jquiet ⟨n,.inl hk⟩
    rcases (EL g1 g2).2 n (iup n hk).1 with g3 | g3
    ·exact hf g3
    ·exact g3 n hn (iup n hk).1
   rw[h1,h2]
   simp only
   rw[if_neg (hjK n hn)]
   cases hbn:blk σ n with
   | none=> rfl
   | some y=>
    simp only[Option.map_some]
    rw[LA]
    intro m hm
    refine hjbs m ?_
    unfold Kk
    rw[if_neg hf]
    exact IE hn (by rw[Q8 hn];exact hbn) hm
 have hmod:∀n,n∈AF ei.nw→n%4096=(X.nb+oj.dst.getD 0)%4096→False:=fun n hn hm=> hne (AbH _ _ _ (hm.symm.trans (Jz k1 n hn)))
 have hub:∀n,blk σ n=none→n∉AF ei.up:=fun n hn hk=> by have:=hw.opsB (iup n hk).2;rw[hn] at this;cases this
 have hkb:∀n,blk σ n=none→n∉ei.kl:=fun n hn hk=> by have:=hw.opsB (ikn n hk).2;rw[hn] at this;cases this
 have hnone:∀n,n∉AF ei.nw→blk σ n=none→blk (apply σ oi.dst ei) n=none:=fun n hn hb=> by
  rw[CU iq,B3.2 hn,B3.2 (hub n hb),hb]
  simp
 have hgj:B4 (apply σ oi.dst ei) ops oj.guard=B4 σ ops oj.guard:=by
  by_cases hk:ei.kl=[]
  ·refine IK fun jj ww t hg ht=> ?_
   rw[Gc iq,if_neg fun hd=> a3 t hd (Pv hg ht),hk,show (kl []:AV→AV)=id from funext FT]
   simp
  ·obtain ⟨k,hk⟩:=List.exists_mem_of_ne_nil _ hk
   obtain ⟨_,_,g1,g2⟩:=jquiet ⟨k,.inr hk⟩
   rw[((EL g1 g2).1 k (ikn k hk).1).1]
   rfl
 have k2:opEff X.D X.G X.M X.nb off ops (apply σ oi.dst ei) oj=some ej:=by
  refine Kx (σ:=σ) hev2 hgj same2 (fun _ e0 h0 hu=> ?_) j1
  exact B0.2 fun n hn=> hnone n (fun hk=> hmod n hk (UN h0 n hn)) (B0.1 hu n hn)
 have hij:∀n,n∈AF ej.nw→n∉AF ei.nw:=fun n hn hk=> hmod n hk (Jz j1 n hn)
 refine (GR hi).2 ⟨ei,k1,⟨⟨?_,i3⟩,?_⟩,(GR hj).2 ⟨ej,k2,⟨⟨?_,j3⟩,?_⟩,VI hQ ?_ h⟩⟩
 ·simp only[fresh,Bool.and_eq_true]
  exact ⟨B0.2 iun',i2'⟩
 ·rw[←KG hev same1]
  exact i4
 ·simp only[fresh,Bool.and_eq_true]
  exact ⟨B0.2 fun n hn=> hnone n (hij n hn) (jun n hn),j2'⟩
 ·rw[KG hev2 same2]
  exact j4
 ·-- the same state in the end
  have hju:∀n,n∈AF ej.up→n∉AF ei.nw:=fun n hn=> hbd n (hw.opsB (jup n hn).2)
  have hjn:∀n,n∈AF ej.nw→n∉AF ei.up:=fun n hn=> hub n (jun n hn)
  have huu:∀n,n∈AF ej.up→n∉AF ei.up:=fun n hn hk=> by
   rw[(iquiet ⟨n,.inl hn⟩).1] at hk;simp[AF] at hk
  have hvj:∀n∈Ad ej.v++(BG ej.nw++BG ej.up),n∉ei.kl:=fun n hn hk=> by
   have:=EG jo hn
   simp only[List.mem_append] at this
   rcases this with h1 | h1 | h1
   ·exact hkb n (jun n h1) hk
   ·exact hjK n h1 hk
   ·exact hjbs n h1 hk
  have hvi:∀n∈Ad ei.v++(BG ei.nw++BG ei.up),n∉ej.kl:=fun n hn hk=> by
   have:=EG io hn
   obtain ⟨_,_,g1,g2⟩:=iquiet ⟨n,.inr hk⟩
   have g3:=(EL g1 g2).1 n (jkn n hk).1
   simp only[List.mem_append] at this
   rcases this with h1 | h1 | h1
   ·exact g3.2.2.2.1 n h1 (jkn n hk).1
   ·exact g3.2.1 n h1 (jkn n hk).1
   ·rcases g3.2.2.2.2 with g4 | g4
    ·unfold Kk at h1;rw[if_pos g4] at h1;cases h1
    ·exact g4.1 n h1 (jkn n hk).1
  have hone:ej.kl=[]∨ei.kl=[]:=by
   by_cases hk:ej.kl=[]
   ·exact .inl hk
   ·obtain ⟨k,hk⟩:=List.exists_mem_of_ne_nil _ hk
    exact .inr (iquiet ⟨k,.inr hk⟩).2.1
  have hcomm:∀x:AV,kl ei.kl (kl ej.kl x)=kl ej.kl (kl ei.kl x):=fun x=> by
   rcases hone with h1 | h1
   ·rw[h1,FT,FT]
   ·rw[h1,FT,FT]
  have hcommB:∀x:Be,Bo (kl ei.kl) (Bo (kl ej.kl) x)=Bo (kl ej.kl) (Bo (kl ei.kl) x):=fun x=> by
   rcases hone with h1 | h1
   ·rw[h1,Ez,Ez]
   ·rw[h1,Ez,Ez]
  refine ⟨rfl,fun t=> ?_,fun n=> ?_⟩
  ·rw[Gc jq,Gc iq,Gc iq,Gc jq]
   by_cases h1:oj.dst=some t
   ·have h2:oi.dst≠some t:=a2 t h1
    rw[if_pos h1,if_neg h2,if_pos h1,Option.map_some,Vr _ fun n hn=> hvj n (List.mem_append_left _ hn)]
   ·rw[if_neg h1,if_neg h1]
    by_cases h2:oi.dst=some t
    ·rw[if_pos h2,if_pos h2,Option.map_some,Vr _ fun n hn=> hvi n (List.mem_append_left _ hn)]
    ·rw[if_neg h2,if_neg h2]
     cases get t σ.tm with
     | none=> rfl
     | some x=> simp only[Option.map_some];rw[hcomm]
  ·have bj:∀y,get n ej.nw=some y∨get n ej.up=some y→Bo (kl ei.kl) y=y:=fun y hy=> LA (by
    intro m hm
    refine hvj m (List.mem_append_right _ (List.mem_append.2 ?_))
    exact hy.imp (fun h=> CX h hm) (fun h=> CX h hm))
   have bi:∀y,get n ei.nw=some y∨get n ei.up=some y→Bo (kl ej.kl) y=y:=fun y hy=> LA (by
    intro m hm
    refine hvi m (List.mem_append_right _ (List.mem_append.2 ?_))
    exact hy.imp (fun h=> CX h hm) (fun h=> CX h hm))
   rw[CU jq,CU iq,CU iq,CU jq]
   cases c1:get n ej.nw with
   | some y=>
    have hm:=BM.2 ⟨y,c1⟩
    rw[B3.2 (hij n hm),B3.2 (hjn n hm)]
    simp only
    rw[if_neg (hkb n (jun n hm)),Option.map_some,bj y (.inl c1)]
   | none=>
    simp only
    cases c2:get n ej.up with
    | some y=>
     have hm:=BM.2 ⟨y,c2⟩
     rw[B3.2 (hju n hm),B3.2 (huu n hm)]
     simp only
     rw[if_neg (hjK n (jup n hm).2),Option.map_some,bj y (.inr c2)]
    | none=>
     simp only
     cases c3:get n ei.nw with
     | some y=>
      have hm:=BM.2 ⟨y,c3⟩
      simp only
      have hnk:n∉ej.kl:=fun hk=> by
       have:=hw.opsB (jkn n hk).2
       rw[iun' n hm] at this;cases this
      rw[if_neg hnk,Option.map_some,bi y (.inl c3)]
     | none=>
      simp only
      cases c4:get n ei.up with
      | some y=>
       have hm:=BM.2 ⟨y,c4⟩
       simp only
       rw[if_neg (hiK n (iup n hm).2),Option.map_some,bi y (.inr c4)]
      | none=>
       simp only
       by_cases d1:n∈ei.kl <;> by_cases d2:n∈ej.kl <;> cases blk σ n <;> simp[d1,d2,hcommB]
theorem Ab7 {Q:AS→Prop} (hQ:Inv Q) {i:Nat} {oi:Oper} {post:List (Nat×Oper)}:∀{pre:List (Nat×Oper)} {σ:AS},Wf σ→(∀p∈pre,Kj ops lo p.1 i p.2 oi=true)→
  Fh X off ops lo (pre++(i,oi)::post) Q σ→Fh X off ops lo ((i,oi)::(pre++post)) Q σ
 | [],σ,_,_,h=> h
 | (j,oj)::pre,σ,hw,hap,h=> by
  have h1:=hap (j,oj) (List.mem_cons_self ..)
  have hj:Cg j lo.lo=false:=by
   simp only[Kj,Bool.and_eq_true,Bool.not_eq_true'] at h1
   exact h1.1.1.1.2
  obtain ⟨ej,j1,⟨j2,j3⟩,h⟩:=(GR hj).1 h
  have j3':=JZ hj j3
  have:=Ab7 hQ (hw.apply (d:=oj.dst) j3'.1 j3'.2.1 (Ra hj j3)) (fun p hp=> hap p (List.mem_cons_of_mem _ hp)) h
  exact Adm hQ hw h1 ((GR hj).2 ⟨ej,j1,⟨j2,j3⟩,this⟩)
end
inductive Pre (ops:Array Oper):Nat→Nat→Prop
 | dir {i:Nat} {o:Oper} {e:Edge} (ho:ops[i]? =some o) (he:e∈o.after.toList) (hb:Region.binds .any e=true):Pre ops e.on i
 | step {i j:Nat} {o:Oper} {e:Edge} (ho:ops[i]? =some o) (he:e∈o.after.toList) (hb:Region.binds .any e=true) (h:Pre ops j e.on):Pre ops j i
theorem WV {acc:List Nat} {j:Nat} {es:List Edge} (h:(Ace acc es).testBit j=true):∃e∈es,Region.binds .any e=true∧(j=e.on∨(acc.getD e.on 0).testBit j=true):=by
 have key:∀(es:List Edge) (s:Nat),(es.foldl (fun s e=> if Region.binds .any e then s ||| 2^e.on ||| acc.getD e.on 0 else s) s).testBit j=true→s.testBit j=true∨∃e∈es,Region.binds .any e=true∧(j=e.on∨(acc.getD e.on 0).testBit j=true):=by
  intro es
  induction es with
  | nil=> intro s h;exact .inl h
  | cons e r ih=>
   intro s h
   rw[List.foldl_cons] at h
   rcases ih _ h with h1 | ⟨e',he',h1⟩
   ·split at h1
    ·rename_i hb
     simp only[Nat.testBit_or,Bool.or_eq_true,Nat.testBit_two_pow,decide_eq_true_eq] at h1
     rcases h1 with (h1 | h1) | h1
     ·exact .inl h1
     ·exact .inr ⟨e,List.mem_cons_self ..,hb,.inl h1.symm⟩
     ·exact .inr ⟨e,List.mem_cons_self ..,hb,.inr h1⟩
    ·exact .inl h1
   ·exact .inr ⟨e',List.mem_cons_of_mem _ he',h1⟩
 rcases key es 0 h with h1 | h1
 ·simp at h1
 ·exact h1
theorem QL {ops:Array Oper}:∀(r:List Oper) (acc:List Nat),(∀k,r[k]? =ops[acc.length+k]?)→(∀k j,(acc.getD k 0).testBit j=true→Pre ops j k)→∀k j,((XH r acc).getD k 0).testBit j=true→Pre ops j k
 | [],acc,_,hacc,k,j,h=> hacc k j h
 | o::r,acc,hl,hacc,k,j,h=> by
  rw[XH] at h
  refine QL r _ (fun k=> ?_) (fun k j h=> ?_) k j h
  ·have:=hl (k+1)
   simp only[List.getElem?_cons_succ,List.length_append,List.length_cons,List.length_nil] at this ⊢
   rw[this]
   congr 1
   omega
  ·by_cases hk:k < acc.length
   ·rw[List.getD_eq_getElem?_getD,List.getElem?_append_left hk,←List.getD_eq_getElem?_getD] at h
    exact hacc k j h
   ·by_cases hk':k=acc.length
    ·subst hk'
     rw[List.getD_eq_getElem?_getD,List.getElem?_append_right (Nat.le_refl _)] at h
     simp only[Nat.sub_self,List.getElem?_cons_zero,Option.getD_some] at h
     obtain ⟨e,he,hb,h1⟩:=WV h
     have ho:ops[acc.length]? =some o:=by have:=hl 0;simpa using this.symm
     rcases h1 with rfl | h1
     ·exact .dir ho he hb
     ·exact .step ho he hb (hacc _ _ h1)
    ·rw[List.getD_eq_getElem?_getD,List.getElem?_eq_none (by simp;omega)] at h
     simp at h
theorem Iq {i:Nat} {o:Oper}:∀{l:List Oper} {k:Nat},(i,o)∈EC k l↔k≤i∧l[i - k]? =some o
 | [],k=> by simp[EC]
 | x::r,k=> by
  rw[EC,List.mem_cons,Iq (l:=r)]
  constructor
  ·rintro (h | ⟨h1,h2⟩)
   ·simp only[Prod.mk.injEq] at h
    obtain ⟨rfl,rfl⟩:=h
    simp
   ·refine ⟨by omega,?_⟩
    rw[show i - k=(i - (k+1))+1 by omega]
    simpa using h2
  ·rintro ⟨h1,h2⟩
   by_cases h:i=k
   ·subst h
    simp at h2
    exact .inl (by rw[h2])
   ·refine .inr ⟨by omega,?_⟩
    rw[show i - k=(i - (k+1))+1 by omega] at h2
    simpa using h2
theorem VL {ops:Array Oper} {lo:Lo} {m i:Nat} {oi:Oper} {j:Nat} {oj:Oper}:∀{l:List (Nat×Oper)},AaY ops lo m i oi l=true→(j,oj)∈l→i≤j∨m.testBit j=true∨Kj ops lo j i oj oi=true
 | [],_,h=> by cases h
 | (a,b)::r,hb,h=> by
  simp only[AaY,Bool.and_eq_true,Bool.or_eq_true,decide_eq_true_eq] at hb
  rcases List.mem_cons.1 h with h | h
  ·cases h
   rcases hb.1 with (h1 | h1) | h1
   ·exact .inl h1
   ·exact .inr (.inl h1)
   ·exact .inr (.inr h1)
  ·exact VL hb.2 h
theorem Ps {ops:Array Oper} {lo:Lo} {ms:List Nat} {ps:List (Nat×Oper)} {i:Nat} {o:Oper}:∀{l:List (Nat×Oper)},PZ ops lo ms ps l=true→(i,o)∈l→ZC i o.after.toList=true∧AaY ops lo (ms.getD i 0) i o ps=true
 | [],_,h=> by cases h
 | (a,b)::r,hb,h=> by
  simp only[PZ,Bool.and_eq_true] at hb
  rcases List.mem_cons.1 h with h | h
  ·cases h;exact hb.1
  ·exact Ps hb.2 h
theorem Qz {ops:Array Oper} {lo:Lo} (h:Qy ops lo=true) {i:Nat} {oi:Oper} (hi:ops[i]? =some oi):
  (∀e∈oi.after.toList,Region.binds .any e=true→e.on < i)∧∀j oj,ops[j]? =some oj→j < i→Pre ops j i∨Kj ops lo j i oj oi=true:=by
 have hmem:∀k o,ops[k]? =some o→(k,o)∈EC 0 ops.toList:=fun k o ho=> Iq.2 ⟨Nat.zero_le _,by simpa using ho⟩
 obtain ⟨h1,h2⟩:=Ps h (hmem i oi hi)
 refine ⟨fun e he hb=> ?_,fun j oj hj hlt=> ?_⟩
 ·simp only[ZC,List.all_eq_true,Bool.or_eq_true,Bool.not_eq_true',decide_eq_true_eq] at h1
  rcases h1 e he with h3 | h3
  ·rw[hb] at h3;cases h3
  ·exact h3
 ·rcases VL h2 (hmem j oj hj) with h3 | h3 | h3
  ·omega
  ·exact .inl (QL ops.toList [] (by simp) (by simp) i j h3)
  ·exact .inr h3
section
variable {X:Cx} {γ:Nat→Value} {off:List (Nat×Bool)} {ops:Array Oper} {lo:Lo} {Qx:Exit→Act→World→Prop} {Q:AS→Prop}
theorem WW {L:Array Bool} (hcl:∀(i:Nat) o,ops[i]? =some o→L.getD i false=true→∀e∈o.after.toList,Region.binds .any e=true→L.getD e.on false=true) {i j:Nat} (h:Pre ops j i) (hi:∀o,ops[i]? =some o→∀e∈o.after.toList,Region.binds .any e=true→L.getD e.on false=true):L.getD j false=true:=by
 induction h with
 | dir ho he hb=> exact hi _ ho _ he hb
 | step ho he hb h ih=> exact ih fun o' ho' e' he' hb'=> hcl _ _ ho' (hi _ ho _ he hb) e' he' hb'
theorem XX (hX:X.Ok) (hs:Qy ops lo=true) (hQ:Inv Q) (hfin:∀σ a w,Q σ→X.St γ σ a w→Qx .normal a w):
  ∀(fuel:Nat) (R:List (Nat×Oper)) (L:Array Bool) (σ:AS) (a:Act) (w:World),L.size=ops.size→(∀p∈R,ops[p.1]? =some p.2)→R.Pairwise (fun p q=> p.1 < q.1)→
   (∀i,i < ops.size→(L.getD i false=false↔∃o,(i,o)∈R))→
   (∀(i:Nat) o,ops[i]? =some o→L.getD i false=true→∀e∈o.after.toList,Region.binds .any e=true→L.getD e.on false=true)→
   R.length≤fuel→X.St γ σ a w→Fh X off ops lo R Q σ→wpAny X.P .any ops Qx fuel L a w:=by
 intro fuel
 induction fuel with
 | zero=>
  intro R L σ a w hsz hR hp hL hcl hlen hst hr
  cases R with
  | cons p r=> simp at hlen
  | nil=>
   refine ⟨?_,hfin σ a w hr hst⟩
   rw[List.eq_nil_iff_forall_not_mem]
   intro i hi
   obtain ⟨h0,o,ho,_⟩:=mem_ready.1 hi
   have hlt:=(Array.getElem?_eq_some_iff.1 ho).1
   have:L.getD i false=false:=by
    rw[Array.getD_eq_getD_getElem?,Array.getElem?_eq_getElem (by omega)] at h0 ⊢
    exact h0
   obtain ⟨_,h⟩:=(hL i hlt).1 this
   cases h
 | succ fuel ih=>
  intro R L σ a w hsz hR hp hL hcl hlen hst hr
  have hflip:∀i,i < ops.size→L.getD i true=L.getD i false:=fun i hi=> by
   rw[Array.getD_eq_getD_getElem?,Array.getD_eq_getD_getElem?,Array.getElem?_eq_getElem (by omega)]
   rfl
  refine ⟨fun hnil=> ?_,fun i hi=> ?_⟩
  ·cases R with
   | nil=> exact hfin σ a w hr hst
   | cons p r=>
    exfalso
    obtain ⟨i,o⟩:=p
    have ho:=hR (i,o) (List.mem_cons_self ..)
    have hlt:=(Array.getElem?_eq_some_iff.1 ho).1
    have:i∈Region.ready .any ops L:=by
     refine mem_ready.2 ⟨?_,o,ho,fun e he hb=> ?_⟩
     ·rw[hflip i hlt]
      exact (hL i hlt).2 ⟨o,List.mem_cons_self ..⟩
     ·have hback:=(Qz hs ho).1 e (by simpa using he) hb
      cases hq:L.getD e.on false with
      | true=> rfl
      | false=>
       exfalso
       obtain ⟨o',ho'⟩:=(hL e.on (by omega)).1 hq
       rcases List.mem_cons.1 ho' with h | h
       ·cases h;omega
       ·have:=(List.pairwise_cons.1 hp).1 _ h
        simp at this
        omega
    rw[hnil] at this
    cases this
  ·obtain ⟨h0,o,ho,hpre⟩:=mem_ready.1 hi
   have hlt:=(Array.getElem?_eq_some_iff.1 ho).1
   rw[hflip i hlt] at h0
   obtain ⟨o',hmem⟩:=(hL i hlt).1 h0
   have:o'=o:=by have:=hR _ hmem;simp only at this;rw[ho] at this;cases this;rfl
   subst this
   obtain ⟨pre,post,rfl⟩:=List.append_of_mem hmem
   obtain ⟨ρ,hst0⟩:=hst
   have hpre':∀e∈o'.after.toList,Region.binds .any e=true→L.getD e.on false=true:=fun e he hb=> hpre e (by simpa using he) hb
   have hfr:Fh X off ops lo ((i,o')::(pre++post)) Q σ:=by
    refine Ab7 hQ hst0.wf (fun p hpm=> ?_) hr
    obtain ⟨j,oj⟩:=p
    have hj:=hR (j,oj) (List.mem_append_left _ hpm)
    have hji:j < i:=(List.pairwise_append.1 hp).2.2 (j,oj) hpm (i,o') (List.mem_cons_self ..)
    rcases (Qz hs ho).2 j oj hj hji with h | h
    ·exfalso
     have h1:=WW hcl h fun o'' ho''=> by rw[ho] at ho'';cases ho'';exact hpre'
     have h2:=(hL j (by omega)).2 ⟨oj,List.mem_append_left _ hpm⟩
     rw[h1] at h2
     cases h2
    ·exact h
   have hnext:wpOp X.P ops Qx i (fun a' w'=> ∃σ',Fh X off ops lo (pre++post) Q σ'∧X.St γ σ' a' w') a w:=by
    rcases E4.1 hfr with ⟨e,h1,⟨⟨h2,h3⟩,_⟩,h4⟩ | ⟨_,_,h1⟩
    ·exact wpOp_mono (fun a' w' h5=> ⟨_,h4,h5⟩) (KZ hX.types hX.calls hst0 (Q:=Qx) ho h1 h2 h3 fun hg hm=> wpOp_mono (fun a' w' ⟨σ',e1,e2⟩=> e2.congr e1.symm) ((hX.mok ops _ σ e hg hm h3 h2).1 γ a w i Qx ho ⟨ρ,hst0⟩))
    ·exact h1.1 γ a w i Qx ho ⟨ρ,hst0⟩
   refine wpOp_mono (fun a' w' ⟨σ',h4,h5⟩=> ?_) hnext
   refine ih (pre++post) _ _ a' w' (by simpa using hsz) (fun p hpm=> hR p ?_) ?_ (fun k hk=> ?_) (fun k o hk hl e he hb=> ?_) ?_ h5 h4
   ·rcases List.mem_append.1 hpm with h | h
    ·exact List.mem_append_left _ h
    ·exact List.mem_append_right _ (List.mem_cons_of_mem _ h)
   ·exact List.Pairwise.sublist (List.Sublist.append (List.Sublist.refl _) (List.sublist_cons_self ..)) hp
   ·by_cases hki:i=k
    ·subst hki
     have hti:(L.setIfInBounds i true).getD i false=true:=by
      simp[show i < L.size by omega]
     rw[hti]
     refine ⟨fun h=> (by cases h),fun ⟨o,h⟩=> ?_⟩
     exfalso
     rw[List.pairwise_append,List.pairwise_cons] at hp
     rcases List.mem_append.1 h with h | h
     ·have:=hp.2.2 (i,o) h (i,o') (List.mem_cons_self ..)
      simp at this
     ·have:=hp.2.1.1 (i,o) h
      simp at this
    ·rw[getD_set_ne false hki,hL k hk]
     refine exists_congr fun o=> ?_
     simp only[List.mem_append,List.mem_cons,Prod.mk.injEq]
     constructor
     ·rintro (h | ⟨h,_⟩ | h)
      ·exact .inl h
      ·exact absurd h.symm hki
      ·exact .inr h
     ·rintro (h | h)
      ·exact .inl h
      ·exact .inr (.inr h)
   ·by_cases hki:i=k
    ·subst hki
     rw[ho] at hk
     cases hk
     exact getD_set_true (hpre' e he hb)
    ·rw[getD_set_ne false hki] at hl
     exact getD_set_true (hcl k o hk hl e he hb)
   ·simp only[List.length_append,List.length_cons] at hlen ⊢
    omega
theorem K0:∀(l:List Oper) (k:Nat),(EC k l).length=l.length
 | [],_=> rfl
 | _::r,k=> by simp[EC,K0 r]
theorem K1:∀(l:List Oper) (k:Nat),(EC k l).Pairwise (fun p q=> p.1 < q.1)
 | [],_=> .nil
 | o::r,k=> by
  rw[EC,List.pairwise_cons]
  refine ⟨fun p hp=> ?_,K1 r _⟩
  obtain ⟨i,o'⟩:=p
  have:=(Iq.1 hp).1
  simp only
  omega
theorem Cu.same {D:Nat→TI} {S N0:Nat→Prop} {B:Nat} {w0:W0} {ρ:BI} {σ:AS} {a:Act} {w w':World} (h:Cu D S N0 B w0 ρ σ a w) (h1:w'.heap=w.heap) (h2:w'.os=w.os) (h3:w'.tape=w.tape) (h4:w'.output=w.output):Cu D S N0 B w0 ρ σ a w':=by
 have him:C1 S N0 B w' ρ (blk σ)=C1 S N0 B w ρ (blk σ):=by unfold C1;rw[h1]
 refine ⟨fun t x hx=> ?_,?_,h.nt,h.base,⟨h2.trans h.frm.os,h3.trans h.frm.tape,h4.trans h.frm.output,by rw[h1];exact h.frm.size,fun b hb hn=> by rw[h1];exact h.frm.block b hb hn⟩,h.own,h.defers⟩
 ·rw[him]
  exact ⟨(h.tm t x hx).1.mono (fun _ h=> h) (fun b _=> by rw[h1]) (fun _ _=> rfl),(h.tm t x hx).2⟩
 ·rw[him]
  exact ⟨fun n x hx=> (h.hp.blk n x hx).mono rfl (fun _ _=> by rw[h1]) (fun _ h=> h) (fun b _=> by rw[h1]) (fun _ _=> rfl),h.hp.inj,h.hp.off,fun b hb=> by rw[h1];exact h.hp.lt b hb,h.hp.clos⟩
theorem W4 (hX:X.Ok) (hs:Qy ops lo=true) {id:Nat} {σ:AS} {a:Act} {w:World} (h:X.St γ σ a w)
  (hfin:∀σ a w,Q σ→X.St γ σ a w→Qx .normal a w) (hr:Fh X off ops lo (EC 0 ops.toList) Q σ):(Code.region id ops true).wp X.P Qx a w:=by
 obtain ⟨ρ,h⟩:=h
 refine wp_region_any hX.mixed (XX hX hs (Abl Q) (fun σ a w hq hst=> ?_) ops.size (EC 0 ops.toList) _ σ a _ (by simp) (fun p hp=> ?_) (K1 _ _) (fun i hi=> ?_) (fun i o _ hl=> ?_) (by rw[K0];simp) ⟨ρ,h.same (w':={w with drawn:=w.drawn+1}) rfl rfl rfl rfl⟩ (LK (fun σ hq=> ⟨σ,Ia.refl σ,hq⟩) hr))
 ·obtain ⟨σ1,h1,h2⟩:=hq
  exact hfin σ1 a w h2 (hst.congr h1.symm)
 ·obtain ⟨i,o⟩:=p
  have:=(Iq.1 hp).2
  simpa using this
 ·have:(Array.replicate ops.size false).getD i false=false:=by simp[hi]
  simp only[this,true_iff]
  exact ⟨ops[i],Iq.2 ⟨Nat.zero_le _,by simp[hi]⟩⟩
 ·exfalso
  rw[Array.getD_eq_getD_getElem?] at hl
  by_cases h:i < ops.size
  ·simp[h] at hl
  ·simp[h] at hl
theorem F1 (hX:X.Ok) (hfin:∀σ a w,Q σ→X.St γ σ a w→Qx .normal a w):
  ∀(r:List Oper) (k:Nat) (σ:AS) (a:Act) (w:World),(∀j,r[j]? =ops[k+j]?)→X.St γ σ a w→EE X off ops r Q σ→wpOps X.P ops Qx (List.range' k r.length) a w
 | [],k,σ,a,w,_,hst,hr=> by simpa[wpOps] using hfin σ a w hr hst
 | o::r,k,σ,a,w,hl,hst,hr=> by
  rw[List.length_cons,List.range'_succ,wpOps_cons]
  have ho:ops[k]? =some o:=by have:=hl 0;simpa using this.symm
  rw[EE] at hr
  obtain ⟨ρ,hst0⟩:=hst
  cases he:opEff X.D X.G X.M X.nb off ops σ o with
  | none=>
   rw[he] at hr
   refine wpOp_mono (fun a' w' ⟨σ',h4,h5⟩=> F1 hX hfin r (k+1) σ' a' w' (fun j=> ?_) h5 h4) (hr.1 γ a w k Qx ho ⟨ρ,hst0⟩)
   have:=hl (j+1)
   simpa[Nat.add_assoc,Nat.add_comm 1 j] using this
  | some e=>
   rw[he] at hr
   refine wpOp_mono (fun a' w' h5=> F1 hX hfin r (k+1) _ a' w' (fun j=> ?_) h5 hr.2) (KZ hX.types hX.calls hst0 ho he hr.1.1 hr.1.2 fun hg hm=> wpOp_mono (fun a' w' ⟨σ',e1,e2⟩=> e2.congr e1.symm) ((hX.mok ops _ σ e hg hm hr.1.2 hr.1.1).1 γ a w k Qx ho ⟨ρ,hst0⟩))
   have:=hl (j+1)
   simpa[Nat.add_assoc,Nat.add_comm 1 j] using this
theorem VJ (hX:X.Ok) {id:Nat} {σ:AS} {a:Act} {w:World} (h:X.St γ σ a w)
  (hfin:∀σ a w,Q σ→X.St γ σ a w→Qx .normal a w) (hr:EE X off ops ops.toList Q σ):(Code.region id ops false).wp X.P Qx a w:=by
 refine wp_region ?_
 rw[List.range_eq_range',←Array.length_toList]
 exact F1 hX hfin ops.toList 0 σ a w (by simp) h hr
end
def Tr (X:Cx) (c:Code) (Q:Exit→AS→Prop) (σ:AS):Prop:=∀γ a w,X.St γ σ a w→c.wp X.P (fun e a w=> ∃σ',Q e σ'∧X.St γ σ' a w) a w
def Wk (X:Cx) (σ σ':AS):Prop:=∀γ a w,X.St γ σ a w→X.St γ σ' a w
def PG (next:AS→Prop) (Q:Exit→AS→Prop):Exit→AS→Prop
 | .normal,σ=> next σ
 | e,σ=> Q e σ
def inB (id:Nat) (Q:Exit→AS→Prop):Exit→AS→Prop
 | .exit id',σ=> if id'=id then Q .normal σ else Q (.exit id') σ
 | e,σ=> Q e σ
section
variable {X:Cx} {Q Q':Exit→AS→Prop} {σ σ':AS}
theorem Tr.mono {c:Code} (hq:∀e σ,Q e σ→Q' e σ) (h:Tr X c Q σ):Tr X c Q' σ:=fun γ a w hs=>
 wp_mono (h γ a w hs) fun e a w ⟨σ',h1,h2⟩=> ⟨σ',hq e σ' h1,h2⟩
theorem Tr.wk {c:Code} (h1:Wk X σ σ') (h:Tr X c Q σ'):Tr X c Q σ:=fun γ a w hs=> h γ a w (h1 γ a w hs)
theorem Tr.skip (h:Q .normal σ):Tr X .skip Q σ:=fun γ a w hs=> wp_skip ⟨σ,h,hs⟩
theorem Tr.label {l:Nat} (h:Q .normal σ):Tr X (.label l) Q σ:=fun γ a w hs=> wp_label ⟨σ,h,hs⟩
theorem Tr.ret (h:Q .ret σ):Tr X .ret Q σ:=fun γ a w hs=> wp_ret ⟨σ,h,hs⟩
theorem Tr.exit {id:Nat} (h:Q (.exit id) σ):Tr X (.exit id) Q σ:=fun γ a w hs=> wp_exit ⟨σ,h,hs⟩
theorem Tr.seq {x y:Code} (h:Tr X x (PG (Tr X y Q) Q) σ):Tr X (.seq x y) Q σ:=fun γ a w hs=> wp_seq (wp_mono (h γ a w hs) fun e a w ⟨σ',h1,h2⟩=> by
 cases e with
 | normal=> exact h1 γ a w h2
 | _=> exact ⟨σ',h1,h2⟩)
theorem Tr.cond {c:Operand} {x y:Code} {t:Bool} (hc:ev σ c=.bool t) (h1:t=true→Tr X x Q σ) (h2:t=false→Tr X y Q σ):Tr X (.cond c x y) Q σ:=fun γ a w hs=> by
 have:a.eval c=.bool t:=by
  obtain ⟨ρ,hs⟩:=hs
  have:=(hs.ev c).1
  rw[hc] at this
  exact this.bool_
 exact wp_cond_split this (fun ht=> h1 ht γ a w hs) (fun ht=> h2 ht γ a w hs)
theorem Tr.block {id:Nat} {c:Code} (h:Tr X c (inB id Q) σ):Tr X (.block id c) Q σ:=fun γ a w hs=> wp_block (wp_mono (h γ a w hs) fun e a w ⟨σ',h1,h2⟩=> by
 cases e with
 | exit id'=>
  simp only[inB] at h1
  simp only[Exit.inBlock]
  split
  ·rename_i he;rw[if_pos he] at h1;exact ⟨σ',h1,h2⟩
  ·rename_i he;rw[if_neg he] at h1;exact ⟨σ',h1,h2⟩
 | _=> exact ⟨σ',h1,h2⟩)
theorem Tr.region (hX:X.Ok) {id:Nat} {ops:Array Oper} {off:List (Nat×Bool)} (h:EE X off ops ops.toList (Q .normal) σ):Tr X (.region id ops false) Q σ:=fun γ a w hs=>
 VJ (Q:=Q .normal) hX hs (fun σ' a w h1 h2=> ⟨σ',h1,h2⟩) h
theorem Tr.any (hX:X.Ok) (lo:Lo) {id:Nat} {ops:Array Oper} (hi:Qy ops lo=true) {off:List (Nat×Bool)} (h:Fh X off ops lo (EC 0 ops.toList) (Q .normal) σ):Tr X (.region id ops true) Q σ:=fun γ a w hs=>
 W4 (Q:=Q .normal) hX hi hs (fun σ' a w h1 h2=> ⟨σ',h1,h2⟩) h
theorem Tr.loop {ι:Type} (J:ι→Prop) (I:ι→AS) (μ:ι→Nat) {c:Code} (i0:ι) (h0:J i0∧Wk X σ (I i0))
  (round:∀i,J i→Tr X c (PG (fun σ'=> ∃j,(J j∧μ j < μ i)∧Wk X σ' (I j)) Q) (I i)):Tr X (.loop c) Q σ:=fun γ a w hs=> by
 have key:∀n i a w,μ i≤n→J i→X.St γ (I i) a w→Code.rounds X.P c (fun e a w=> ∃σ',Q e σ'∧X.St γ σ' a w) (n+1) a w:=by
  intro n
  induction n with
  | zero=>
   intro i a w hn hi hs
   rw[rounds_succ]
   refine wp_mono (round i hi γ a w hs) fun e a1 w1 ⟨σ',h1,h2⟩=> ?_
   cases e with
   | normal=> obtain ⟨j,⟨_,hlt⟩,_⟩:=h1;omega
   | _=> exact ⟨σ',h1,h2⟩
  | succ n ih=>
   intro i a w hn hi hs
   rw[rounds_succ]
   refine wp_mono (round i hi γ a w hs) fun e a1 w1 ⟨σ',h1,h2⟩=> ?_
   cases e with
   | normal=> obtain ⟨j,⟨hj,hlt⟩,hw⟩:=h1;exact ih j a1 w1 (by omega) hj (hw γ a1 w1 h2)
   | _=> exact ⟨σ',h1,h2⟩
 exact wp_loop_rounds _ (key (μ i0) i0 a w (Nat.le_refl _) h0.1 (h0.2 γ a w hs))
def ZX (x:AV) (A B:Prop):Prop:=match x with
 | .bool t=> (t=true→A)∧(t=false→B)
 | _=> False
def Yz:List Oper→Bool
 | []=> false
 | o::r=> o.guard.isSome || Yz r
inductive Au (X:Cx) (ops:Array Oper) (Q:AS→Prop) (σ:AS):Prop
 | mk (off:List (Nat×Bool)) (h:EE X off ops ops.toList Q σ)
inductive CP (X:Cx) (lo:Lo) (ops:Array Oper) (Q:AS→Prop) (σ:AS):Prop
 | mk (off:List (Nat×Bool)) (hi:Qy ops lo=true) (h:Fh X off ops lo (EC 0 ops.toList) Q σ)
def Kl (X:Cx) (lo:Nat→Lo):Code→(Exit→AS→Prop)→AS→Prop
 | .skip,Q,σ=> Q .normal σ
 | .region id ops false,Q,σ=> if (lo id).hand=true then Tr X (.region id ops false) Q σ else if Yz ops.toList=true then Au X ops (Q .normal) σ else EE X [] ops ops.toList (Q .normal) σ
 | .region id ops true,Q,σ=> if (lo id).hand=true then Tr X (.region id ops true) Q σ else if Yz ops.toList=true then CP X (lo id) ops (Q .normal) σ else Qy ops (lo id)=true∧Fh X [] ops (lo id) (EC 0 ops.toList) (Q .normal) σ
 | .seq a b,Q,σ=> Kl X lo a (PG (Kl X lo b Q) Q) σ
 | .cond c x y,Q,σ=> ZX (ev σ c) (Kl X lo x Q σ) (Kl X lo y Q σ)
 | .block id c,Q,σ=> Kl X lo c (inB id Q) σ
 | .loop c,Q,σ=> Tr X (.loop c) Q σ
 | .exit id,Q,σ=> Q (.exit id) σ
 | .ret,Q,σ=> Q .ret σ
 | .label _,Q,σ=> Q .normal σ
 | c,Q,σ=> Tr X c Q σ
theorem Al (hX:X.Ok) (lo:Nat→Lo):∀(c:Code) (Q:Exit→AS→Prop) (σ:AS),Kl X lo c Q σ→Tr X c Q σ
 | .skip,Q,σ,h=> Tr.skip h
 | .region _ ops false,Q,σ,h=> by
  rw[Kl] at h
  split at h
  ·exact h
  split at h
  ·obtain ⟨off,h⟩:=h
   exact Tr.region hX h
  ·exact Tr.region hX h
 | .region id ops true,Q,σ,h=> by
  rw[Kl] at h
  split at h
  ·exact h
  split at h
  ·obtain ⟨off,hi,h⟩:=h
   exact Tr.any hX (lo id) hi h
  ·exact Tr.any hX (lo id) h.1 h.2
 | .seq a b,Q,σ,h=> Tr.seq (Tr.mono (fun e σ h=> by
   cases e with
   | normal=> exact Al hX lo b Q σ h
   | _=> exact h) (Al hX lo a _ σ h))
 | .cond c x y,Q,σ,h=> by
  rw[Kl] at h
  unfold ZX at h
  split at h
  ·rename_i t ht
   exact Tr.cond ht (fun e=> Al hX lo x Q σ (h.1 e)) (fun e=> Al hX lo y Q σ (h.2 e))
  ·exact h.elim
 | .block id c,Q,σ,h=> Tr.block (Al hX lo c _ σ h)
 | .loop c,Q,σ,h=> h
 | .exit id,Q,σ,h=> Tr.exit h
 | .ret,Q,σ,h=> Tr.ret h
 | .label _,Q,σ,h=> Tr.label h
 | .rangeFunc _ _ _ _,Q,σ,h=> h
 | .scope _,Q,σ,h=> h
 | .goto _,Q,σ,h=> h
 | .refuse _,Q,σ,h=> h
end
mutual
def cov (rl:List (Nat×Nat)):AV→AV→Prop
 | _,.junk=> True
 | .int k n,.int k' n'=> k=k'∧n=n'
 | .bool b,.bool b'=> b=b'
 | .str l,.str l'=> l=l'
 | .nils,.nils=> True
 | .nils,.os n=> get n rl=none
 | .nils,.sl _ rs=> rs=[]
 | .sl sz rs,.sl sz' rs'=> sz=sz'∧rs=rs'
 | .os t,.os n=> get n rl=some t
 | .ptr v o,.ptr v' o'=> get v' rl=some v∧o=o'
 | .iptr cs,.iptr ds=> cs=ds
 | .eptr t i o,.eptr t' i' o'=> get t' rl=some t∧i=i'∧o=o'
 | .lsl n,.lsl n'=> n=n'
 | .imap es,.imap es'=> es=es'
 | .nilp,.nilp=> True
 | .ifc b,.ifc b'=> b=b'
 | .tsl t i,.tsl t' i'=> get t' rl=some t∧i=i'
 | .psl t i,.psl t' i'=> get t' rl=some t∧i=i'
 | .func f cs,.func g ds=> f=g∧Aw rl cs ds
 | .agg cs,.agg ds=> Aw rl cs ds
 | .tup cs,.tup ds=> Aw rl cs ds
 | .opt g v,.opt g' v'=> g=g'∧cov rl v v'
 | _,_=> False
def Aw (rl:List (Nat×Nat)):List AV→List AV→Prop
 | [],[]=> True
 | x::xs,y::ys=> cov rl x y∧Aw rl xs ys
 | _,_=> False
end
def Eo (σ:AS) (ks:List Nat) (rl:List (Nat×Nat)):List (Nat×AV)→Prop
 | []=> True
 | (t,x)::r=> (cov rl ((get t σ.tm).getD .junk) x∧Az (Ad x) ks=true)∧Eo σ ks rl r
def Qo:List (Nat×Nat×Nat)→Nat→Nat→Nat→Bool
 | [],_,_,_=> false
 | (a,b,c)::r,i,j,m=> (decide (a=i)&&(decide (b=j)&&decide (c=m))) || Qo r i j m
def ZZ (rl:List (Nat×Nat)) (foc:List (Nat×Nat×Nat)):List (Nat×Nat×Nat)→Prop
 | []=> True
 | (i,j,m)::r=> (match get m rl with | some t=> Qo foc i j t=true | none=> False)∧ZZ rl foc r
def AT (D:Nat→TI) (rl:List (Nat×Nat)) (ks:List Nat):Option (Option Be)→Option Be→Prop
 | some (some (.rows e sz rs)),some (.rows e' sz' rs')=> e=e'∧sz=sz'∧rs=rs'
 | some (some (.cells ds)),some (.cells cs)=> Aw rl ds cs∧Az (Af cs) ks=true
 | none,some (.rows e sz rs)=> rs=[]∧sz=(D e).n∧0 < sz
 | some (some (.deep e sz rs cols foc)),some (.deep e' sz' rs' cols' foc')=> (e=e'∧sz=sz'∧rs=rs')∧(cols=cols'∧ZZ rl foc foc'∧Az (Gh foc') ks=true)
 | none,some (.deep e sz rs cols foc)=> (rs=[]∧sz=(D e).n∧0 < sz)∧foc=[]
 | _,_=> False
def En (D:Nat→TI) (σ:AS) (ks:List Nat) (rl:List (Nat×Nat)):List (Nat×Option Be)→Prop
 | []=> True
 | (n,b)::r=> AT D rl ks ((get n rl).map (blk σ)) b∧En D σ ks rl r
def Ku:List (Nat×Nat)→Bool
 | []=> true
 | (_,t)::r=> !Cg t (r.map (·.2))&&Ku r
structure P3 (D:Nat→TI) (σ σ':AS) (rl:List (Nat×Nat)):Prop where
 nt:σ'.nt=σ.nt
 nd:Ku rl=true
 tm:Eo σ (AF σ'.bl) rl σ'.tm
 bl:En D σ (AF σ'.bl) rl σ'.bl
section
variable {D:Nat→TI} {S N0:Nat→Prop} {B:Nat} {w0:W0} {ρ:BI} {σ σ':AS} {a:Act} {w:World} {rl:List (Nat×Nat)}
theorem If:∀{xs ys:List AV},Aw rl xs ys→xs.length=ys.length∧∀(i:Nat) y,ys[i]? =some y→∃x,xs[i]? =some x∧cov rl x y
 | [],[],_=> ⟨rfl,fun i y h=> by simp at h⟩
 | x::xs,y::ys,h=> by
  rw[Aw] at h
  obtain ⟨h1,h2⟩:=If h.2
  refine ⟨by simp[h1],fun i z hz=> ?_⟩
  cases i with
  | zero=> simp at hz;subst hz;exact ⟨x,rfl,h.1⟩
  | succ i=> simp at hz;simpa using h2 i z hz
 | [],_::_,h=> by simp[Aw] at h
 | _::_,[],h=> by simp[Aw] at h
theorem Rel.cov {im im':Nat→Prop} {ρ ρ':BI} (him:∀b,im b→im' b) (hρ:∀n t,get n rl=some t→ρ' n=ρ t) (hρ0:∀n,get n rl=none→(ρ' n).sv=.slice none 0 0) {x y:AV} {v:Value}
  (h:Rel w im ρ x v) (hc:Ab.cov rl x y):Rel w im' ρ' y v:=by
 induction h generalizing y with
 | junk v=> cases y <;> simp only[Ab.cov] at hc <;> exact .junk v
 | int k n=>
  cases y <;> simp only[Ab.cov] at hc
  ·exact .junk _
  ·obtain ⟨rfl,rfl⟩:=hc;exact .int k n
 | bool b=>
  cases y <;> simp only[Ab.cov] at hc
  ·exact .junk _
  ·subst hc;exact .bool b
 | str l=>
  cases y <;> simp only[Ab.cov] at hc
  ·exact .junk _
  ·subst hc;exact .str l
 | nils=>
  cases y <;> simp only[Ab.cov] at hc
  ·exact .junk _
  ·exact .nils
  ·rename_i sz rs
   subst hc
   exact .sl sz [] none 0 0 0 (fun _ _=> .nilIface) (Nat.le_refl _) (by simp[maxLen]) (fun h=> absurd h (by simp)) (by simp) (by simp) (by simp)
  ·rename_i t
   rw[←hρ0 t hc];exact .os t
 | sl sz rs A c b o val hc' hm hA hrow hcell hval ih=>
  cases y <;> simp only[Ab.cov] at hc
  ·exact .junk _
  ·obtain ⟨rfl,rfl⟩:=hc
   exact (Rel.sl sz rs A c b o val hc' hm hA hrow hcell hval).mono him (fun _ _=> rfl) (fun n hn=> by simp[Ad] at hn)
 | os t=>
  cases y <;> simp only[Ab.cov] at hc
  ·exact .junk _
  ·rw[←hρ _ t hc];exact .os _
 | ptr v off b h=>
  cases y <;> simp only[Ab.cov] at hc
  ·exact .junk _
  ·obtain ⟨h1,rfl⟩:=hc
   exact .ptr _ off b (by rw[hρ _ v h1];exact h)
 | iptr cs b o val hb hcell hval ih=>
  cases y <;> simp only[Ab.cov] at hc
  ·exact .junk _
  ·subst hc
   exact (Rel.iptr cs b o val hb hcell hval).mono him (fun _ _=> rfl) (fun n hn=> by simp[Ad] at hn)
 | eptr t i off b h=>
  cases y <;> simp only[Ab.cov] at hc
  ·exact .junk _
  ·obtain ⟨h1,rfl,rfl⟩:=hc
   rw[←hρ _ t h1]
   exact .eptr _ i off b (by rw[hρ _ t h1];exact h)
 | lsl n A c hc' hm=>
  cases y <;> simp only[Ab.cov] at hc
  ·exact .junk _
  ·subst hc;exact .lsl n A c hc' hm
 | imap es b c arr hb ho he=>
  cases y <;> simp only[Ab.cov] at hc
  ·exact .junk _
  ·subst hc;exact .imap es b c arr (him _ hb) ho he
 | nilp=>
  cases y <;> simp only[Ab.cov] at hc
  ·exact .junk _
  ·exact .nilp
 | ifc b v h=>
  cases y <;> simp only[Ab.cov] at hc
  ·exact .junk _
  ·subst hc;exact .ifc b v h
 | tsl t i b A' h hA=>
  cases y <;> simp only[Ab.cov] at hc
  ·exact .junk _
  ·obtain ⟨h1,rfl⟩:=hc
   rw[←hρ _ t h1]
   exact .tsl _ i b A' (by rw[hρ _ t h1];exact h) (by rw[hρ _ t h1];exact hA)
 | psl t n c b h hk hm=>
  cases y <;> simp only[Ab.cov] at hc
  ·exact .junk _
  ·obtain ⟨h1,rfl⟩:=hc
   exact .psl _ n c b (by rw[hρ _ t h1];exact h) hk hm
 | func f cs vs hl hval ih=>
  cases y <;> simp only[Ab.cov] at hc
  ·exact .junk _
  ·obtain ⟨rfl,hc⟩:=hc
   obtain ⟨h1,h2⟩:=If hc
   refine .func f _ vs (by rw[hl,h1]) fun i y v hy hv=> ?_
   obtain ⟨x,hx,hxy⟩:=h2 i y hy
   exact ih i x v hx hv hxy
 | agg cs vs hl h1 hval ih=>
  cases y <;> simp only[Ab.cov] at hc
  ·exact .junk _
  ·obtain ⟨q1,q2⟩:=If hc
   refine .agg _ vs (by rw[hl,q1]) h1 fun i y v hy hv=> ?_
   obtain ⟨x,hx,hxy⟩:=q2 i y hy
   exact ih i x v hx hv hxy
 | tup cs vs hl hval ih=>
  cases y <;> simp only[Ab.cov] at hc
  ·exact .junk _
  ·obtain ⟨q1,q2⟩:=If hc
   refine .tup _ vs (by rw[hl,q1]) fun i y v hy hv=> ?_
   obtain ⟨x,hx,hxy⟩:=q2 i y hy
   exact ih i x v hx hv hxy
 | opt g x v h1 h2 ih=>
  cases y <;> simp only[Ab.cov] at hc
  ·exact .junk _
  ·obtain ⟨rfl,hc⟩:=hc
   exact .opt g _ v (fun hg=> ih hg hc) h2
theorem U7 {σ:AS} {ks:List Nat} {t:Nat} {x:AV}:∀{l:List (Nat×AV)},Eo σ ks rl l→get t l=some x→Ab.cov rl ((get t σ.tm).getD .junk) x∧Az (Ad x) ks=true
 | [],_,h=> by simp[get] at h
 | (k,y)::r,hc,h=> by
  rw[Eo] at hc
  simp only[get] at h
  split at h
  ·rename_i e;subst e;cases h;exact hc.1
  ·exact U7 hc.2 h
theorem Jk {σ:AS} {ks:List Nat} {n:Nat} {b:Option Be}:∀{l:List (Nat×Option Be)},En D σ ks rl l→get n l=some b→AT D rl ks ((get n rl).map (blk σ)) b
 | [],_,h=> by simp[get] at h
 | (k,y)::r,hc,h=> by
  rw[En] at hc
  simp only[get] at h
  split at h
  ·rename_i e;subst e;cases h;exact hc.1
  ·exact Jk hc.2 h
theorem S6 {n t:Nat}:∀{l:List (Nat×Nat)},get n l=some t→t∈l.map (·.2)
 | [],h=> by simp[get] at h
 | (k,y)::r,h=> by
  simp only[get] at h
  split at h
  ·cases h;simp
  ·rw[List.map_cons];exact List.mem_cons_of_mem _ (S6 h)
theorem R5 {n m t:Nat}:∀{l:List (Nat×Nat)},Ku l=true→get n l=some t→get m l=some t→n=m
 | [],_,h,_=> by simp[get] at h
 | (k,y)::r,hd,h1,h2=> by
  simp only[Ku,Bool.and_eq_true,Bool.not_eq_true'] at hd
  have hy:=Ce.1 hd.1
  simp only[get] at h1 h2
  split at h1
  ·rename_i e1
   split at h2
   ·rename_i e2;exact e1.symm.trans e2
   ·cases h1;exact absurd (S6 h2) hy
  ·split at h2
   ·cases h2;exact absurd (S6 h1) hy
   ·exact R5 hd.2 h1 h2
theorem Fb {n:Nat} {x:Be}:blk σ n=some x↔get n σ.bl=some (some x):=by
 unfold blk jn
 cases get n σ.bl with
 | none=> simp
 | some b=> simp
theorem P3.bound (h:P3 D σ σ' rl) {n:Nat} (hn:n∈AF σ'.bl):(blk σ' n).isSome=true:=by
 obtain ⟨b,hb⟩:=BM.1 hn
 have:=Jk h.bl hb
 cases b with
 | some y=> rw[Fb.2 hb];rfl
 | none=>
  exfalso
  unfold AT at this
  split at this <;> simp_all
theorem Qp {i j m:Nat}:∀{foc:List (Nat×Nat×Nat)},Qo foc i j m=true→(i,j,m)∈foc
 | [],h=> by cases h
 | (a,b,c)::r,h=> by
  simp only[Qo,Bool.or_eq_true,Bool.and_eq_true,decide_eq_true_eq] at h
  rcases h with ⟨rfl,rfl,rfl⟩ | h
  ·exact List.mem_cons_self
  ·exact List.mem_cons_of_mem _ (Qp h)
theorem Qh {foc:List (Nat×Nat×Nat)} {i j m:Nat}:∀{foc':List (Nat×Nat×Nat)},ZZ rl foc foc'→(i,j,m)∈foc'→∃t,get m rl=some t∧(i,j,t)∈foc
 | [],_,h=> by cases h
 | (a,b,c)::r,hc,h=> by
  simp only[ZZ] at hc
  rcases List.mem_cons.1 h with e | h
  ·cases e
   have:=hc.1
   split at this
   ·rename_i t ht;exact ⟨t,ht,Qp this⟩
   ·cases this
  ·exact Qh hc.2 h
theorem Cu.cover (h:Cu D S N0 B w0 ρ σ a w) (hc:P3 D σ σ' rl):∃ρ',Cu D S N0 B w0 ρ' σ' a w:=by
 let ρ':BI:=fun n=> match get n rl with
  | some t=> ρ t
  | none=> ⟨none,none,0,0,match blk σ' n with | some (.rows _ sz _)=> sz | some (.deep _ sz _ _ _)=> sz | _=> 0,fun _=> none⟩
 have hρ:∀n t,get n rl=some t→ρ' n=ρ t:=fun n t hn=> by simp only[ρ',hn]
 have hρn:∀n,get n rl=none→ρ' n=⟨none,none,0,0,match blk σ' n with | some (.rows _ sz _)=> sz | some (.deep _ sz _ _ _)=> sz | _=> 0,fun _=> none⟩:=fun n hn=> by simp only[ρ',hn]
 have hρ0:∀n,get n rl=none→(ρ' n).sv=.slice none 0 0:=fun n hn=> by rw[hρn n hn];rfl
 have hsrc:∀n x b,blk σ' n=some x→owns ρ' n x b→∃t y,get n rl=some t∧blk σ t=some y∧owns ρ t y b:=by
  intro n x b hx hb
  have hcb:=Jk hc.bl (Fb.1 hx)
  cases hg:get n rl with
  | none=>
   exfalso
   have e:=hρn n hg
   cases x <;> simp only[owns,e,reduceCtorEq,exists_false,or_self] at hb
  | some t=>
   rw[hg] at hcb
   have e:=hρ n t hg
   cases hbt:blk σ t with
   | some y=>
    refine ⟨t,y,rfl,hbt,?_⟩
    simp only[Option.map_some,hbt] at hcb
    cases y <;> cases x <;> simp only[AT] at hcb <;> simp only[owns,e] at hb ⊢ <;> exact hb
   | none=>
    exfalso
    simp only[Option.map_some,hbt] at hcb
    unfold AT at hcb
    split at hcb <;> simp_all
 have him:∀b,C1 S N0 B w ρ (blk σ) b→C1 S N0 B w ρ' (blk σ') b:=by
  rintro b ⟨h1,h2,h3⟩
  refine ⟨h1,h2,fun n x hx hb=> ?_⟩
  obtain ⟨t,y,_,hy,hb'⟩:=hsrc n x b hx hb
  exact h3 t y hy hb'
 have conv:∀{x y:AV} {v:Value},Rel w (C1 S N0 B w ρ (blk σ)) ρ x v→Ab.cov rl x y→Rel w (C1 S N0 B w ρ' (blk σ')) ρ' y v:=fun hr hxy=> hr.cov him hρ hρ0 hxy
 have hbd:∀{l:List Nat} {n:Nat},Az l (AF σ'.bl)=true→n∈l→(blk σ' n).isSome=true:=fun hs hn=> hc.bound (EG hs hn)
 refine ⟨ρ',fun t x hx=> ?_,⟨fun n x hx=> ?_,fun n m b x y hx hy hb hb'=> ?_,fun n x b hx hb hi=> hi.2.2 n x hx hb,fun b hb=> hb.1,fun n cs hx m hm=> ?_⟩,by rw[hc.nt];exact h.nt,h.base,h.frm,fun n x b hx hb=> ?_,h.defers⟩
 ·obtain ⟨h1,h2⟩:=U7 hc.tm hx
  refine ⟨?_,fun n hn=> hbd h2 hn⟩
  cases hg:get t σ.tm with
  | none=> rw[hg] at h1;exact conv (.junk _) h1
  | some y=> rw[hg] at h1;exact conv (h.tm t y hg).1 h1
 ·have hcb:=Jk hc.bl (Fb.1 hx)
  cases hg:get n rl with
  | none=>
   rw[hg] at hcb
   cases x with
   | cells cs=> simp[AT] at hcb
   | rows e sz rs=>
    simp only[Option.map_none,AT] at hcb
    obtain ⟨rfl,h1,h2⟩:=hcb
    have hr:=hρn n hg
    refine ⟨by rw[hr];simp[hx],h2,h1,none,0,by rw[hρ0 n hg];rfl,Nat.le_refl _,by simp[maxLen],.inl ⟨rfl,rfl,rfl,by rw[hr]⟩⟩
   | deep e sz rs cols foc=>
    simp only[Option.map_none,AT] at hcb
    obtain ⟨⟨rfl,h1,h2⟩,rfl⟩:=hcb
    have hr:=hρn n hg
    refine ⟨by rw[hr];simp[hx],h2,h1,?_,fun i j m hm=> (by cases hm),none,0,by rw[hρ0 n hg];rfl,Nat.le_refl _,by simp[maxLen],.inl ⟨rfl,rfl,rfl,by rw[hr]⟩⟩
    rw[hr]
    exact ⟨fun k b hk=> (by cases hk),fun k l b hk=> (by cases hk)⟩
  | some t=>
   rw[hg] at hcb
   simp only[Option.map_some] at hcb
   have hr:=hρ n t hg
   cases hbt:blk σ t with
   | none=> rw[hbt] at hcb;cases x <;> simp[AT] at hcb
   | some y=>
    rw[hbt] at hcb
    have hy:=h.hp.blk t y hbt
    cases y with
    | cells ds=>
     cases x with
     | rows e sz rs=> simp[AT] at hcb
     | deep e sz rs cols foc=> simp[AT] at hcb
     | cells cs=>
      simp only[AT] at hcb
      obtain ⟨h1,h2⟩:=If hcb.1
      obtain ⟨b,arr,T,q1,q2,q3,q4⟩:=hy
      refine ⟨b,arr,T,by rw[hr];exact q1,q2,by rw[q3,h1],fun i x v hx hv=> ?_⟩
      obtain ⟨z,hz,hzx⟩:=h2 i x hx
      exact ⟨(q4 i z v hz hv).1,conv (q4 i z v hz hv).2 hzx⟩
    | rows e sz rs=>
     cases x with
     | cells cs=> simp[AT] at hcb
     | deep e sz rs cols foc=> simp[AT] at hcb
     | rows e' sz' rs'=>
      simp only[AT] at hcb
      obtain ⟨rfl,rfl,rfl⟩:=hcb
      obtain ⟨q1,q2,q3,A,c,q4,q5,q6,q7⟩:=hy
      refine ⟨by rw[hr];exact q1,q2,q3,A,c,by rw[hr];exact q4,q5,q6,?_⟩
      rw[hr]
      refine q7.imp id ?_
      rintro ⟨b,arr,r1,r2,r3,r4,r5⟩
      refine ⟨b,arr,r1,r2,r3,r4,fun i row hi=> ⟨(r5 i row hi).1,fun j x hj=> ?_⟩⟩
      obtain ⟨s1,v,s2,s3,s4⟩:=(r5 i row hi).2 j x hj
      exact ⟨s1,v,s2,s3,s4.mono him (fun _ _=> rfl) (fun n hn=> by rw[s1] at hn;cases hn)⟩
    | deep e sz rs cols foc=>
     cases x with
     | cells cs=> simp[AT] at hcb
     | rows e sz rs=> simp[AT] at hcb
     | deep e' sz' rs' cols' foc'=>
      simp only[AT] at hcb
      obtain ⟨⟨rfl,rfl,rfl⟩,rfl,hcf,_⟩:=hcb
      obtain ⟨q1,q2,q3,qh,qI,A,c,q4,q5,q6,q7⟩:=hy
      refine ⟨by rw[hr];exact q1,q2,q3,by rw[hr];exact qh,fun i j m hm=> ?_,A,c,by rw[hr];exact q4,q5,q6,?_⟩
      ·obtain ⟨t',_,ht'⟩:=Qh hcf hm
       exact qI i j t' ht'
      rw[hr]
      refine q7.imp id ?_
      rintro ⟨b,arr,r1,r2,r3,r4,r5,r6⟩
      refine ⟨b,arr,r1,r2,r3,r4,fun i row hi=> ⟨(r5 i row hi).1,fun j x hj=> ?_⟩,fun i j m hm row x hi hj=> ?_⟩
      ·obtain ⟨s1,v,s2,s3,s4⟩:=(r5 i row hi).2 j x hj
       exact ⟨s1,v,s2,s3,s4.mono s1 (fun _ _=> rfl) him (fun _ _=> rfl)⟩
      ·obtain ⟨t',g1,g2⟩:=Qh hcf hm
       rw[hρ m t' g1]
       exact r6 i j t' g2 row x hi hj
 ·obtain ⟨t,y',g1,g2,g3⟩:=hsrc n x b hx hb
  obtain ⟨t',y'',g1',g2',g3'⟩:=hsrc m y b hy hb'
  have:=h.hp.inj t t' b y' y'' g2 g2' g3 g3'
  subst this
  exact R5 hc.nd g1 g1'
 ·have hcb:=Jk hc.bl (Fb.1 hx)
  cases cs with
  | rows _ _ _=> cases hm
  | deep e sz rs cols foc=>
   cases hg:(get n rl).map (blk σ) with
   | none=>
    rw[hg] at hcb
    simp only[AT] at hcb
    obtain ⟨_,rfl⟩:=hcb
    cases hm
   | some z=>
    rw[hg] at hcb
    cases z with
    | none=> simp[AT] at hcb
    | some z=>
     cases z with
     | rows _ _ _=> simp[AT] at hcb
     | cells _=> simp[AT] at hcb
     | deep _ _ _ _ _=>
      simp only[AT] at hcb
      exact hbd hcb.2.2.2 hm
  | cells cs=>
   cases hg:(get n rl).map (blk σ) with
   | none=> rw[hg] at hcb;simp[AT] at hcb
   | some z=>
    rw[hg] at hcb
    cases z with
    | none=> simp[AT] at hcb
    | some z=>
     cases z with
     | rows _ _ _=> simp[AT] at hcb
     | deep _ _ _ _ _=> simp[AT] at hcb
     | cells ds=>
      simp only[AT] at hcb
      exact hbd hcb.2 hm
 ·obtain ⟨t,y,_,hy,hb'⟩:=hsrc n x b hx hb
  exact h.own t y b hy hb'
end
theorem Wk.cover {X:Cx} {σ σ':AS} (rl:List (Nat×Nat)) (hc:P3 X.D σ σ' rl):Wk X σ σ':=fun γ a w ⟨ρ,h⟩=> h.cover hc
theorem Wk.refl {X:Cx} {σ:AS}:Wk X σ σ:=fun γ a w h=> h
theorem Wk.trans {X:Cx} {σ σ' σ'':AS} (h:Wk X σ σ') (k:Wk X σ' σ''):Wk X σ σ'':=fun γ a w hs=> k γ a w (h γ a w hs)
theorem Wk.freeze {X:Cx} {σ:AS} (ns:List Nat):Wk X σ (freeze σ ns):=fun γ a w ⟨ρ,h⟩=> ⟨ρ,h.freeze ns⟩
def Bz:Nat→List AV→List (Nat×AV)
 | _,[]=> []
 | k,x::r=> (k,x)::Bz (k+1) r
def AU (n:Nat) (args:List AV):AS:={nt:=n,tm:=Bz 0 args,bl:=[]}
def ET:Nat→List (Nat×Nat×List (List AV))→List (Nat×Option Be)
 | _,[]=> []
 | k,(e,sz,rs)::r=> (k,some (.rows e sz rs))::ET (k+1) r
def B9:List Nat→AV→List (Nat×AV)
 | [t],v=> [(t,v)]
 | t::ts,.tup (v::vs)=> (t,v)::resT' ts vs
 | _,_=> []
where resT':List Nat→List AV→List (Nat×AV)
 | t::ts,v::vs=> (t,v)::resT' ts vs
 | _,_=> []
def Dz (n:Nat) (ts:List Nat) (r:Sy):AS:={nt:=n,tm:=B9 ts r.v,bl:=ET 0 r.own}
def KB:List Nat→AV→Bool
 | [t],_=> decide (t < 65536)
 | [],.tup []=> true
 | t::ts,.tup vs=> decide (vs.length=(t::ts).length)&&(t::ts).all (fun t=> decide (t < 65536))
 | _,_=> false
theorem S5 {t:Nat} {x:AV}:∀{l:List AV} {k:Nat},get t (Bz k l)=some x→k≤t∧l[t - k]? =some x
 | [],k,h=> by simp[Bz,get] at h
 | y::r,k,h=> by
  simp only[Bz,get] at h
  split at h
  ·rename_i e;subst e;cases h;simp
  ·obtain ⟨h1,h2⟩:=S5 h
   refine ⟨by omega,?_⟩
   rw[show t - k=(t - (k+1))+1 by omega]
   simpa using h2
theorem Qt {n:Nat} {b:Option Be}:∀{l:List (Nat×Nat×List (List AV))} {k:Nat},get n (ET k l)=some b↔∃e sz rs,k≤n∧l[n - k]? =some (e,sz,rs)∧b=some (.rows e sz rs)
 | [],k=> by simp[ET,get]
 | (e,sz,rs)::r,k=> by
  simp only[ET,get]
  split
  ·rename_i h
   subst h
   simp only[Nat.sub_self,List.getElem?_cons_zero,Nat.le_refl,true_and,Option.some.injEq,Prod.mk.injEq]
   constructor
   ·rintro rfl;exact ⟨e,sz,rs,⟨rfl,rfl,rfl⟩,rfl⟩
   ·rintro ⟨_,_,_,⟨rfl,rfl,rfl⟩,rfl⟩;rfl
  ·rename_i h
   rw[Qt (l:=r)]
   constructor
   ·rintro ⟨e',sz',rs',h1,h2,h3⟩
    refine ⟨e',sz',rs',by omega,?_,h3⟩
    rw[show n - k=(n - (k+1))+1 by omega]
    simpa using h2
   ·rintro ⟨e',sz',rs',h1,h2,h3⟩
    refine ⟨e',sz',rs',by omega,?_,h3⟩
    rw[show n - k=(n - (k+1))+1 by omega] at h2
    simpa using h2
def Th (ts:List Nat) (tmps:Array Value):Value:=match ts with
 | [t]=> tmps.getD t undef
 | ts=> .tuple (ts.map fun t=> tmps.getD t undef).toArray
def IV:Nat×Option Nat→ResultVar
 | (t,none)=> .tmp t
 | (t,some T)=> .cell t T
def Aa (D:Nat→TI):List (Nat×Option Nat)→AS→Option AS
 | [],σ=> some σ
 | (_,none)::r,σ=> Aa D r σ
 | (t,some T)::r,σ=> match Fq σ t with
  | .ptr n o=> match blk σ n with
   | some (.cells cs)=> match Hm (D T) (cs.drop o) with
    | some v=> Aa D r {σ with tm:=(t,v)::σ.tm}
    | none=> none
   | _=> none
  | _=> none
def LL (tmps:Array Value):ResultVar→Sem Value
 | .tmp t=> pure (tmps.getD t undef)
 | .cell a t=> do loadVar t (←asAddr (tmps.getD a undef))
theorem Q0 {tm tm':Array Value}:∀(l:List (Nat×Option Nat)),(∀p∈l,tm'.getD p.1 undef=tm.getD p.1 undef)→(l.map IV).mapM (LL tm')=(l.map IV).mapM (LL tm)
 | [],_=> rfl
 | (t,T)::r,h=> by
  have h1:=h (t,T) (List.mem_cons_self ..)
  have h2:LL tm' (IV (t,T))=LL tm (IV (t,T)):=by
   cases T with
   | none=> simp only[IV,LL,h1]
   | some T=> simp only[IV,LL,h1]
  rw[List.map_cons,List.mapM_cons,List.mapM_cons,h2,Q0 r fun p hp=> h p (List.mem_cons_of_mem _ hp)]
theorem Lf {P:Program} {D:Nat→TI} (hT:Hu P D) {S N0:Nat→Prop} {B:Nat} {w0:W0} {w:World} {ρ:BI}:∀(rs:List (Nat×Option Nat)) (σ σ':AS) (a:Act),(rs.map (·.1)).Nodup→Cu D S N0 B w0 ρ σ a w→Aa D rs σ=some σ'→
  ∃a',Cu D S N0 B w0 ρ σ' a' w∧(∀t,t∉rs.map (·.1)→a'.tmps.getD t undef=a.tmps.getD t undef)∧((rs.map IV).mapM (LL a.tmps)).run P w=.ok ((rs.map (·.1)).map fun t=> a'.tmps.getD t undef) w
 | [],σ,σ',a,_,h,hu=> by
  rw[Aa] at hu
  cases hu
  exact ⟨a,h,fun _ _=> rfl,rfl⟩
 | (t,none)::r,σ,σ',a,hd,h,hu=> by
  rw[Aa] at hu
  rw[List.map_cons,List.nodup_cons] at hd
  obtain ⟨a',h1,h2,h3⟩:=Lf hT r σ σ' a hd.2 h hu
  refine ⟨a',h1,fun u hu=> h2 u fun hm=> hu (by rw[List.map_cons];exact List.mem_cons_of_mem _ hm),?_⟩
  rw[List.map_cons,List.mapM_cons]
  have e1:LL a.tmps (IV (t,none))=pure (a'.tmps.getD t undef):=by rw[h2 t hd.1];rfl
  rw[e1]
  simp only[pure_bind,Sem.run_bind,h3]
  rfl
 | (t,some T)::r,σ,σ',a,hd,h,hu=> by
  rw[Aa] at hu
  rw[List.map_cons,List.nodup_cons] at hd
  split at hu
  case h_2=> cases hu
  rename_i n o hg
  split at hu
  case h_2=> cases hu
  rename_i cs hb
  split at hu
  case h_2=> cases hu
  rename_i y hy
  have h6:t < 65536:=by
   rcases Nat.lt_or_ge t 65536 with h' | h'
   ·exact h'
   ·rw[Fq,if_neg (by omega)] at hg;cases hg
  rw[Fq,if_pos h6] at hg
  have hg:get t σ.tm=some (.ptr n o):=by
   cases hq:get t σ.tm with
   | none=> rw[hq] at hg;cases hg
   | some x=> rw[hq] at hg;simp at hg;rw[hg]
  obtain ⟨hrel,hnm⟩:=h.tm t _ hg
  rw[vl,if_pos h6] at hrel
  generalize hv:a.tmps.getD t undef=v at hrel
  have he:Hz D (blk σ) T (.ptr n o)=some {v:=y}:=by simp only[Hz,hb,hy,Option.map_some]
  obtain ⟨_,_,_,u,hrun,hru,hnu⟩:=QH (P:=P) hT h (fun _ _ h=> h) hrel he
  have hlt:t < σ.nt:=by
   rw[←h.nt.1]
   rcases Nat.lt_or_ge t a.tmps.size with h' | h'
   ·exact h'
   ·exfalso
    rw[Array.getD_eq_getD_getElem?,Array.getElem?_eq_none h'] at hv
    subst hv
    cases hrel
  have hs1:=h.put (d:=t) (x:=y) (v:=u) hlt hru hnu
  obtain ⟨a',h1,h2,h3⟩:=Lf hT r _ σ' (a.put (some t) u) hd.2 hs1 hu
  have hne:∀s,s≠t→(a.put (some t) u).tmps.getD s undef=a.tmps.getD s undef:=fun s hs=> by
   rw[Array.getD_eq_getD_getElem?,Array.getD_eq_getD_getElem?]
   simp[Act.put,Array.getElem?_setIfInBounds_ne (fun e=> hs e.symm)]
  refine ⟨a',h1,fun s hs=> ?_,?_⟩
  ·rw[List.map_cons,List.mem_cons] at hs
   rw[h2 s fun hm=> hs (.inr hm)]
   exact hne s fun e=> hs (.inl e)
  ·rw[List.map_cons,List.mapM_cons]
   have e1:(LL a.tmps (IV (t,some T))).run P w=.ok (a'.tmps.getD t undef) w:=by
    have:a'.tmps.getD t undef=u:=by
     rw[h2 t hd.1,Array.getD_eq_getD_getElem?]
     simp[Act.put,Array.getElem?_setIfInBounds_self,h.nt.1,hlt]
    rw[this]
    simp only[IV,LL,hv]
    cases hrel with
    | ptr n o b hb'=> simpa[Instr.loadAt,Instr.sureAddr,asAddr] using hrun
   have e2:((r.map IV).mapM (LL a.tmps)).run P w=.ok ((r.map (·.1)).map fun t=> a'.tmps.getD t undef) w:=by
    rw[Q0 r (tm:=(a.put (some t) u).tmps) (tm':=a.tmps)]
    ·exact h3
    ·intro p hp
     exact (hne p.1 fun e=> hd.1 (by show t∈_;rw[←e];exact List.mem_map_of_mem hp)).symm
   simp only[Sem.run_bind,e1,Result.andThen,e2]
   rfl
theorem Q1 {P:Program} {fn:Func} {rs:List (Nat×Option Nat)} (h:fn.results=(rs.map IV).toArray) {tm tm':Array Value} {w:World} (hr:((rs.map IV).mapM (LL tm)).run P w=.ok ((rs.map (·.1)).map fun t=> tm'.getD t undef) w):(results fn tm).run P w=.ok (Th (rs.map (·.1)) tm') w:=by
 have e:results fn tm=(do let vs ←fn.results.mapM (LL tm);pure (if h:vs.size=1 then vs[0] else .tuple vs)):=rfl
 rw[e,h,List.mapM_toArray]
 simp only[Sem.run_bind,Sem.run_map,hr]
 match rs with
 | []=> rfl
 | [_]=> rfl
 | t::u::r=> simp[Th,Sem.run,pure]
theorem Sh {t:Nat}:∀{ts:List Nat} {vs:List AV} {i:Nat},ts.Nodup→ts[i]? =some t→vs.length=ts.length→get t (B9.resT' ts vs)=vs[i]?
 | [],_,i,_,h,_=> by simp at h
 | u::ts,[],i,_,_,h=> by simp at h
 | u::ts,v::vs,i,hd,h,hl=> by
  simp only[B9.resT',get]
  cases i with
  | zero=> simp at h;subst h;simp
  | succ i=>
   simp at h hl
   rw[List.nodup_cons] at hd
   rw[if_neg fun e=> hd.1 (by rw[e];exact List.mem_of_getElem? h)]
   simpa using Sh hd.2 h hl
theorem Aaw (dn:Nat) (σ:AS) (o:Oper):Jv XK dn σ o=none:=by
 unfold Jv
 split
 ·split
  ·unfold US XK
   split <;> rfl
  ·rfl
 ·rfl
def Rk (P:Program) (D:Nat→TI) (G:PW) (M:ID):Prop:=∀X:Cx,X.P=P→X.D=D→X.G=G→X.M=M→P.follows .mixedOrders=true→Hu P D→Cl P D G→
 ∀(ops:Array Oper) (o:Oper) (σ:AS) (e:Ck),o.guard=none→Jv M (X.nb+o.dst.getD 0) σ o=some e→e.pre→fresh σ o.dst e=true→Ex X ops o σ (fun σ'=> Ia (apply σ o.dst e) σ')
theorem Rk.none {P:Program} {D:Nat→TI} {G:PW}:Rk P D G XK:=fun X _ _ _ _ _ _ _ ops o σ e _ h=> by rw[Aaw] at h;cases h
theorem Rk.ok {X:Cx} {P:Program} {D:Nat→TI} {G:PW} {M:ID} (h:Rk P D G M) (h1:X.P=P) (h2:X.D=D) (h3:X.G=G) (h4:X.M=M) (hm:P.follows .mixedOrders=true) (hT:Hu P D) (hG:Cl P D G):X.Ok:=by
 subst h1 h2 h3 h4
 exact ⟨hm,hT,hG,h X rfl rfl rfl rfl hm hT hG⟩
theorem JN {P:Program} {D:Nat→TI} {G:PW} {M:ID} (hM:Rk P D G M) (hm:P.follows .mixedOrders=true) (hT:Hu P D) (hG:Cl P D G) {f:Nat} {fn:Func} {c:Code} {rs:List (Nat×Option Nat)} {args:List AV} {r:Sy}
  (hf:P.funcs[f]? =some fn) (hb:fn.body=some c) (hname:(fn.name== "runtime.NumGoroutine")=false) (hres:fn.results=(rs.map IV).toArray) (hd:(rs.map (·.1)).Nodup) (hfit:KB (rs.map (·.1)) r.v=true)
  {n:Nat} (hn:fn.ntmps=n) (hlen:args.length≤n∧n≤65536) (hnm:Af args=[])
  (h:∀X:Cx,X.P=P→X.D=D∧X.nb=0∧X.M=M→X.G=G→X.Ok→Tr X c (fun e σ'=> (e=.normal∨e=.ret)∧∃σ1,Aa D rs σ'=some σ1∧∃ns rl,P3 D (Ab.freeze σ1 ns) (Dz n (rs.map (·.1)) r) rl) (AU n args)):A8 P D f args r:=by
 refine ⟨⟨fn,hf,hname,by rw[hb];rfl⟩,fun w im ρ vs him hvs=> ?_⟩
 subst hn
 have hsz:vs.size=args.length:=by have:=hvs.1;simp at this;omega
 let X:Cx:=⟨P,D,G,im,fun _=> False,w.heap.size,w,0,M⟩
 have hst:X.St (fun _=> undef) (AU fn.ntmps args) {tmps:=vs++Array.replicate (fn.ntmps - vs.size) undef,defers:=[]} w:=by
  have hbl:blk (AU fn.ntmps args)=fun _=> none:=rfl
  have hi:∀b,im b→C1 im (fun _=> False) w.heap.size w ρ (blk (AU fn.ntmps args)) b:=fun b hb=> ⟨him.1 b hb,.inl hb,fun n x hx=> by cases hx⟩
  refine ⟨ρ,fun t x hx=> ?_,⟨fun n x hx=> (by rw[hbl] at hx;cases hx),fun n m b x y hx=> (by rw[hbl] at hx;cases hx),fun n x b hx=> (by rw[hbl] at hx;cases hx),fun b hb=> hb.1,fun n cs hx=> (by rw[hbl] at hx;cases hx)⟩,⟨by simp[AU];omega,hlen.2⟩,⟨Nat.le_refl _,fun b hb=> ⟨him.2.1 b hb,him.1 b (him.2.1 b hb),fun h=> h⟩,him.2.2⟩,⟨rfl,rfl,rfl,Nat.le_refl _,fun _ _ _=> rfl⟩,fun n x b hx=> (by rw[hbl] at hx;cases hx),rfl⟩
  obtain ⟨_,hx'⟩:=S5 hx
  simp only[Nat.sub_zero] at hx'
  have hlt:t < args.length:=(List.getElem?_eq_some_iff.1 hx').1
  have hnx:Ad x=[]:=by
   rw[List.eq_nil_iff_forall_not_mem]
   intro k hk
   have:=AY hx' hk
   rw[hnm] at this
   cases this
  refine ⟨?_,fun k hk=> by rw[hnx] at hk;cases hk⟩
  have hv:(vs++Array.replicate (fn.ntmps - vs.size) undef).getD t undef=vs[t]'(by omega):=by
   rw[Array.getD_eq_getD_getElem?,Array.getElem?_append_left (by omega)]
   simp[show t < vs.size by omega]
  rw[vl,if_pos (by omega)]
  simp only
  rw[hv]
  have:=hvs.2 t x (vs[t]'(by omega)) hx' (by simp[show t < vs.size by omega])
  exact this.mono hi (fun _ _=> rfl) (fun _ _=> rfl)
 refine calls_of_wp hf hb (wp_mono (h X rfl ⟨rfl,rfl,rfl⟩ rfl (hM.ok rfl rfl rfl rfl hm hT hG) _ _ w hst) fun e a0 w' ⟨σ',⟨he,σ1,hub,ns,rl,hcov⟩,hs⟩=> ?_)
 obtain ⟨ρ1,hs⟩:=hs
 have hdf:=hs.defers
 obtain ⟨a,hs,_,hrun⟩:=Lf hT rs σ' σ1 a0 hd hs hub
 have hrun:=Q1 hres hrun
 generalize hts:rs.map (·.1)=ts at *
 obtain ⟨ρ2,hs⟩:=(hs.freeze ns).cover hcov
 have hblo:∀k e sz rs,r.own[k]? =some (e,sz,rs)→blk (Dz fn.ntmps ts r) k=some (.rows e sz rs):=fun k e sz rs hk=> Fb.2 (Qt.2 ⟨e,sz,rs,Nat.zero_le _,by simpa using hk,rfl⟩)
 have hbli:∀k x,blk (Dz fn.ntmps ts r) k=some x→∃e sz rs,r.own[k]? =some (e,sz,rs)∧x=.rows e sz rs:=fun k x hk=> by
  obtain ⟨e,sz,rs,_,h1,h2⟩:=Qt.1 (Fb.1 hk)
  simp only[Nat.sub_zero] at h1
  cases h2
  exact ⟨e,sz,rs,h1,rfl⟩
 have himR:∀b,C1 im (fun _=> False) w.heap.size w' ρ2 (blk (Dz fn.ntmps ts r)) b→imR w w' im ρ2 r.own.length b:=by
  rintro b ⟨h1,h2,h3⟩
  refine ⟨h1,?_,fun m hm=> ?_⟩
  ·rcases h2 with h2 | h2 | h2
   ·exact .inl h2
   ·exact .inr h2
   ·exact h2.elim
  ·have hlt:r.own[m]? =some (r.own[m]):=by simp[hm]
   exact h3 m _ (hblo m _ _ _ (by rw[hlt]))
 have hbound:∀n,(blk (Dz fn.ntmps ts r) n).isSome=true→n < r.own.length:=fun n hn=> by
  obtain ⟨x,hx⟩:=Option.isSome_iff_exists.1 hn
  obtain ⟨e,sz,rs,h1,_⟩:=hbli n x hx
  exact (List.getElem?_eq_some_iff.1 h1).1
 have hval:Rel w' (imR w w' im ρ2 r.own.length) ρ2 r.v (Th ts a.tmps)∧∀n∈Ad r.v,n < r.own.length:=by
  have one:∀t x,t < 65536→get t (B9 ts r.v)=some x→Rel w' (imR w w' im ρ2 r.own.length) ρ2 x (a.tmps.getD t undef)∧∀n∈Ad x,n < r.own.length:=fun t x h6 hx=> by
   have h7:=(hs.tm t x hx).1
   rw[vl,if_pos h6] at h7
   exact ⟨h7.mono himR (fun _ _=> rfl) (fun _ _=> rfl),fun n hn=> hbound n ((hs.tm t x hx).2 n hn)⟩
  match ts,hd,hfit,one with
  | [t],_,hfit,one=> exact one t r.v (by simpa[KB] using hfit) (by simp[B9,get])
  | [],_,hfit,_=>
   unfold KB at hfit
   split at hfit
   ·rename_i h1;exact absurd h1 (by simp)
   ·rename_i hr;rw[hr];exact ⟨.tup [] #[] rfl (by simp),by simp[Ad,Af]⟩
   ·rename_i h1 _;exact absurd h1 (by simp)
   ·cases hfit
  | t::u::ts,hd,hfit,one=>
   cases hrv:r.v <;> rw[hrv] at hfit <;> simp only[KB] at hfit <;> try (cases hfit;done)
   rename_i vs'
   rw[Bool.and_eq_true] at hfit
   have hl:vs'.length=(t::u::ts).length:=by simpa using hfit.1
   have h6:∀(i:Nat) s,(t::u::ts)[i]? =some s→s < 65536:=fun i s hi=> by simpa using List.all_eq_true.1 hfit.2 s (List.mem_of_getElem? hi)
   rw[hrv] at one
   have hget:∀(i:Nat) s,(t::u::ts)[i]? =some s→get s (B9 (t::u::ts) (.tup vs'))=vs'[i]?:=fun i s hi=> by
    have:=Sh hd hi hl
    cases vs' with
    | nil=> simp at hl
    | cons v vs'=> exact this
   refine ⟨.tup vs' _ (by simp[hl]) fun i x v hx hv=> ?_,fun n hn=> ?_⟩
   ·have hi:i < (t::u::ts).length:=by rw[←hl];exact (List.getElem?_eq_some_iff.1 hx).1
    have hs1:(t::u::ts)[i]? =some ((t::u::ts)[i]):=by simp[hi]
    have:=(one _ x (h6 i _ hs1) (by rw[hget i _ hs1];exact hx)).1
    have hv':v=a.tmps.getD ((t::u::ts)[i]) undef:=by
     rw[List.getElem?_toArray,List.getElem?_map,hs1] at hv
     simpa using hv.symm
    rw[hv']
    exact this
   ·rw[Ad] at hn
    obtain ⟨i,x,hx,hn⟩:=Cr hn
    have hi:i < (t::u::ts).length:=by rw[←hl];exact (List.getElem?_eq_some_iff.1 hx).1
    have hs1:(t::u::ts)[i]? =some ((t::u::ts)[i]):=by simp[hi]
    exact (one _ x (h6 i _ hs1) (by rw[hget i _ hs1];exact hx)).2 n hn
 have hpost:Sw D w im r (Th ts a.tmps) w':=by
  refine ⟨hs.frm,ρ2,fun k e sz rs hk=> ⟨?_,fun b hb=> ?_⟩,fun k l b hk hl hb hb'=> ?_,hval.1,hval.2⟩
  ·have:=hs.hp.blk k _ (hblo k e sz rs hk)
   obtain ⟨q1,q2,q3,A,c,q4,q5,q6,q7⟩:=this
   refine ⟨q1,q2,q3,A,c,q4,q5,q6,q7.imp id ?_⟩
   rintro ⟨b,arr,r1,r2,r3,r4,r5⟩
   refine ⟨b,arr,r1,r2,r3,r4,fun i row hi=> ⟨(r5 i row hi).1,fun j x hj=> ?_⟩⟩
   obtain ⟨s1,v,s2,s3,s4⟩:=(r5 i row hi).2 j x hj
   exact ⟨s1,v,s2,s3,s4.mono himR (fun _ _=> rfl) (fun n hn=> rfl)⟩
  ·exact (hs.own k _ b (hblo k e sz rs hk) hb).resolve_right (fun h=> h.elim)
  ·have h1:r.own[k]? =some (r.own[k]):=by simp[hk]
   have h2:r.own[l]? =some (r.own[l]):=by simp[hl]
   exact hs.hp.inj k l b _ _ (hblo k _ _ _ (by rw[h1])) (hblo l _ _ _ (by rw[h2])) hb hb'
 rcases he with rfl | rfl
 ·exact ⟨hdf,_,hrun,_,rfl,hpost⟩
 ·exact ⟨hdf,_,hrun,_,rfl,hpost⟩
theorem Ch {P:Program} {D:Nat→TI} {G:PW} (hm:P.follows .mixedOrders=true) (hT:Hu P D) (hG:Cl P D G) {f:Nat} {fn:Func} {c:Code} {rs:List (Nat×Option Nat)} {args:List AV} {r:Sy}
  (hf:P.funcs[f]? =some fn) (hb:fn.body=some c) (hname:(fn.name== "runtime.NumGoroutine")=false) (hres:fn.results=(rs.map IV).toArray) (hd:(rs.map (·.1)).Nodup) (hfit:KB (rs.map (·.1)) r.v=true)
  {n:Nat} (hn:fn.ntmps=n) (hlen:args.length≤n∧n≤65536) (hnm:Af args=[])
  (h:∀X:Cx,X.P=P→X.D=D∧X.nb=0∧X.M=XK→X.G=G→X.Ok→Tr X c (fun e σ'=> (e=.normal∨e=.ret)∧∃σ1,Aa D rs σ'=some σ1∧∃ns rl,P3 D (Ab.freeze σ1 ns) (Dz n (rs.map (·.1)) r) rl) (AU n args)):A8 P D f args r:=
 JN Rk.none hm hT hG hf hb hname hres hd hfit hn hlen hnm h
theorem Ex.wk {X:Cx} {ops:Array Oper} {o:Oper} {σ:AS} {R:AS→Prop} (h:Ex X ops o σ (fun σ'=> ∃σ2,Wk X σ' σ2∧R σ2)):Ex X ops o σ R:=
 ⟨fun γ a w i Qx hi hs=> wpOp_mono (fun a' w' ⟨σ',⟨σ2,h1,h2⟩,h3⟩=> ⟨σ2,h2,h1 γ a' w' h3⟩) (h.1 γ a w i Qx hi hs)⟩
def IB:List (Nat×AV)→List (Nat×AV)
 | []=> []
 | (t,x)::r=> (t+65536,x)::IB r
def Iy:List (Nat×AV)→List (Nat×AV)
 | []=> []
 | (t,x)::r=> if 65536≤t then (t - 65536,x)::Iy r else Iy r
def Bf (σ:AS) (n:Nat) (args:List AV):AS:={nt:=n,tm:=Bz 0 args++IB σ.tm,bl:=σ.bl}
def Dy (σ:AS):List Nat→AV
 | [t]=> Fq σ t
 | ts=> .tup (ts.map (Fq σ))
def Bg (σ σ1:AS) (d:Option Nat) (ts:List Nat):AS:={nt:=σ.nt,tm:=VD d (Dy σ1 ts) (Iy σ1.tm),bl:=σ1.bl}
theorem Xz {t:Nat} {x:AV}:∀{l:List (Nat×AV)},get t (IB l)=some x→65536≤t∧get (t - 65536) l=some x
 | [],h=> by simp[IB,get] at h
 | (k,y)::r,h=> by
  simp only[IB,get] at h ⊢
  split at h
  ·rename_i e
   cases h
   exact ⟨by omega,by rw[if_pos (by omega)]⟩
  ·rename_i e
   obtain ⟨h1,h2⟩:=Xz h
   exact ⟨h1,by rw[if_neg (by omega)];exact h2⟩
theorem S7 {t:Nat}:∀{l:List (Nat×AV)},get t (Iy l)=get (t+65536) l
 | []=> rfl
 | (k,y)::r=> by
  simp only[Iy,get]
  split
  ·simp only[get]
   by_cases h:k=t+65536
   ·rw[if_pos (by omega),if_pos h]
   ·rw[if_neg (by omega),if_neg h]
    exact S7
  ·rw[if_neg (by omega)]
   exact S7
section
variable {X:Cx} {γ:Nat→Value} {ops:Array Oper} {σ:AS} {R:AS→Prop}
theorem Cu.enter {D:Nat→TI} {S N0:Nat→Prop} {B:Nat} {w0 w:World} {ρ:BI} {a:Act} (h:Cu D S N0 B ⟨w0,γ⟩ ρ σ a w) {args:List AV} {vs:Array Value} {n:Nat} (hvs:E8 w (Im S N0 B w ρ σ) ρ args vs.toList) (hnm:∀x∈args,∀k∈Ad x,(blk σ k).isSome=true)
  (hlen:args.length≤n∧n≤65536):Cu D S N0 B ⟨w0,vl γ a⟩ ρ (Bf σ n args) {tmps:=vs++Array.replicate (n - vs.size) undef,defers:=[]} w:=by
 have hsz:vs.size=args.length:=by have:=hvs.1;simp at this;omega
 refine ⟨fun t x hx=> ?_,h.hp,⟨by simp[Bf];omega,hlen.2⟩,h.base,h.frm,h.own,rfl⟩
 simp only[Bf,FP] at hx
 cases hg:get t (Bz 0 args) with
 | some y=>
  rw[hg] at hx
  cases hx
  obtain ⟨_,hx'⟩:=S5 hg
  simp only[Nat.sub_zero] at hx'
  have hlt:t < args.length:=(List.getElem?_eq_some_iff.1 hx').1
  refine ⟨?_,hnm x (List.mem_of_getElem? hx')⟩
  have hv:(vs++Array.replicate (n - vs.size) undef).getD t undef=vs[t]'(by omega):=by
   rw[Array.getD_eq_getD_getElem?,Array.getElem?_append_left (by omega)]
   simp[show t < vs.size by omega]
  rw[vl,if_pos (by omega)]
  simp only
  rw[hv]
  exact hvs.2 t x (vs[t]'(by omega)) hx' (by simp[show t < vs.size by omega])
 | none=>
  rw[hg] at hx
  obtain ⟨h1,h2⟩:=Xz hx
  have h3:=h.tm (t - 65536) x h2
  have h4:vl (vl γ a) {tmps:=vs++Array.replicate (n - vs.size) undef,defers:=[]} t=vl γ a (t - 65536):=if_neg (by omega)
  rw[h4]
  exact h3
theorem Cu.leave {D:Nat→TI} {S N0:Nat→Prop} {B:Nat} {w0 w w1:World} {ρ ρ1:BI} {a a1:Act} {σ1:AS} (h:Cu D S N0 B ⟨w0,γ⟩ ρ σ a w) (h1:Cu D S N0 B ⟨w0,vl γ a⟩ ρ1 σ1 a1 w1) {d:Option Nat} (hd:∀k,d=some k→k < σ.nt) (ts:List Nat):
  Cu D S N0 B ⟨w0,γ⟩ ρ1 (Bg σ σ1 d ts) (a.put d (Th ts a1.tmps)) w1:=by
 have hres:Rel w1 (C1 S N0 B w1 ρ1 (blk σ1)) ρ1 (Dy σ1 ts) (Th ts a1.tmps)∧∀n∈Ad (Dy σ1 ts),(blk σ1 n).isSome=true:=by
  match ts with
  | [t]=> exact h1.ev (.tmp t)
  | []=> exact ⟨.tup _ _ rfl (by simp),by simp[Dy,Ad,Af]⟩
  | t::u::ts=>
   refine ⟨.tup _ _ (by simp) fun i x v hx hv=> ?_,fun n hn=> ?_⟩
   ·rw[List.getElem?_map] at hx
    obtain ⟨s,hs,rfl⟩:=Option.map_eq_some_iff.1 hx
    rw[List.getElem?_toArray,List.getElem?_map,hs] at hv
    cases hv
    exact (h1.ev (.tmp s)).1
   ·simp only[Dy,Ad] at hn
    obtain ⟨i,x,hx,hn⟩:=Cr hn
    rw[List.getElem?_map] at hx
    obtain ⟨s,hs,rfl⟩:=Option.map_eq_some_iff.1 hx
    exact (h1.ev (.tmp s)).2 n hn
 have hold:∀t x,get t (Iy σ1.tm)=some x→Rel w1 (C1 S N0 B w1 ρ1 (blk σ1)) ρ1 x (vl γ a t)∧∀n∈Ad x,(blk σ1 n).isSome=true:=fun t x hx=> by
  rw[S7] at hx
  have:=h1.tm _ x hx
  rw[vl,if_neg (by omega),Nat.add_sub_cancel] at this
  exact this
 refine ⟨fun t x hx=> ?_,h1.hp,?_,h1.base,h1.frm,h1.own,?_⟩
 ·simp only[Bg,Qu] at hx
  split at hx
  ·rename_i e
   cases hx
   have:vl γ (a.put d (Th ts a1.tmps)) t=Th ts a1.tmps:=by
    subst e
    rw[vl,if_pos (Nat.lt_of_lt_of_le (hd t rfl) h.nt.2),Array.getD_eq_getD_getElem?]
    simp[Act.put,Array.getElem?_setIfInBounds_self,h.nt.1,hd t rfl]
   rw[this]
   exact hres
  ·rename_i e
   have:vl γ (a.put d (Th ts a1.tmps)) t=vl γ a t:=by
    cases d with
    | none=> rfl
    | some k=>
     have hne:k≠t:=fun e'=> e (by rw[e'])
     unfold vl
     split
     ·rw[Array.getD_eq_getD_getElem?,Array.getD_eq_getD_getElem?]
      simp[Act.put,Array.getElem?_setIfInBounds_ne hne]
     ·rfl
   rw[this]
   exact hold t x hx
 ·cases d with
  | none=> exact h.nt
  | some k=> exact ⟨by simp[Act.put,h.nt.1,Bg],h.nt.2⟩
 ·cases d <;> exact h.defers
theorem Jq (hT:Hu X.P X.D) {dst:Option Nat} {f:Operand} {args:Array Operand} {types:Array TypeId} {ty:Nat} {pos:String} {af:Array Edge} {g:Nat} {caps:List AV} (hf:ev σ f=.func g caps)
  {fn:Func} {c:Code} {rs:List (Nat×Option Nat)} {n:Nat} (hfn:X.P.funcs[g]? =some fn) (hb:fn.body=some c) (hname:(fn.name== "runtime.NumGoroutine")=false) (hres:fn.results=(rs.map IV).toArray) (hd:(rs.map (·.1)).Nodup) (hn:fn.ntmps=n)
  (hlen:(args.toList.map (ev σ)++caps).length≤n∧n≤65536) (hdst:∀k,dst=some k→k < σ.nt) (nb:Nat) (M:ID)
  (h:Tr {X with nb:=nb,M:=M} c (fun e σ'=> (e=.normal∨e=.ret)∧∃σ1,Aa X.D rs σ'=some σ1∧R (Bg σ σ1 dst (rs.map (·.1)))) (Bf σ n (args.toList.map (ev σ)++caps))):
  Ex X ops ⟨dst,.call ⟨.value f,args,types⟩,ty,pos,af,none⟩ σ R:=by
 refine ⟨fun γ a w i Qx hi hs=> ?_⟩
 obtain ⟨ρ,hs⟩:=hs
 subst hn
 have hvf:=hs.ev f
 rw[hf] at hvf
 obtain ⟨hrf,hnf⟩:=hvf
 generalize hV:a.eval f=V at hrf
 cases hrf with
 | func g cs vs hl hval=>
 have hra:E8 w (Im X.S X.N0 X.B w ρ σ) ρ (args.toList.map (ev σ)) (args.toList.map a.eval):=by
  refine ⟨by simp,fun k x v hx hv=> ?_⟩
  rw[List.getElem?_map] at hx hv
  obtain ⟨y,hy,rfl⟩:=Option.map_eq_some_iff.1 hx
  rw[hy] at hv
  cases hv
  exact (hs.ev y).1
 have hrall:E8 w (Im X.S X.N0 X.B w ρ σ) ρ (args.toList.map (ev σ)++caps) (args.map a.eval++vs).toList:=by
  have:=hra.append (ys:=caps) (vs:=vs.toList) ⟨by simpa using hl,fun i x v hx hv=> hval i x v hx (by simpa using hv)⟩
  simpa using this
 have hnm:∀x∈args.toList.map (ev σ)++caps,∀k∈Ad x,(blk σ k).isSome=true:=fun x hx k hk=> by
  rcases List.mem_append.1 hx with hx | hx
  ·obtain ⟨y,_,rfl⟩:=List.mem_map.1 hx
   exact (hs.ev y).2 k hk
  ·obtain ⟨i,hi⟩:=List.getElem?_of_mem hx
   exact hnf k (by rw[Ad];exact AY hi hk)
 have hst:=hs.enter hrall hnm hlen
 have hcalls:Calls X.P g (args.map a.eval++vs) w fun e w'=> ∃v,e=.returned v∧∃σ',R σ'∧X.St γ σ' (a.put dst v) w':=by
  refine calls_of_wp hfn hb (wp_mono (h (vl γ a) _ w ⟨ρ,hst⟩) fun e a0 w' ⟨σ',⟨he,σ1,hub,hR⟩,hs1⟩=> ?_)
  obtain ⟨ρ1,hs1⟩:=hs1
  have hdf:=hs1.defers
  obtain ⟨a1,hs1,_,hrun⟩:=Lf hT rs σ' σ1 a0 hd hs1 hub
  have hrun:=Q1 hres hrun
  have hlv:=hs.leave hs1 hdst (rs.map (·.1))
  rcases he with rfl | rfl
  ·exact ⟨hdf,_,hrun,_,rfl,_,hR,ρ1,hlv⟩
  ·exact ⟨hdf,_,hrun,_,rfl,_,hR,ρ1,hlv⟩
 unfold wpOp
 simp only[hi]
 rw[if_pos (by simp[Region.wanted])]
 left
 unfold Oper.wp
 have hex:(execOp a.eval ⟨dst,.call ⟨.value f,args,types⟩,ty,pos,af,none⟩).run X.P w=.ok (.enter g (args.map a.eval++vs)) w:=by
  have hn':¬fn.name= "runtime.NumGoroutine":=by simpa using hname
  have hb':¬fn.body=none:=by rintro e;rw[e] at hb;cases hb
  simp[execOp,resolve,hV,Deferred.ofValue,invoke,callFunc,program,Sem.run,hfn,hn',hb']
 rw[hex,Oper.upon_enter]
 refine hcalls.mono fun en w' hpost=> ?_
 obtain ⟨v,rfl,hpost⟩:=hpost
 exact hpost
end
def Aa9:List (Nat×TI):=[
 (1,⟨.ref,1,8,[.junk]⟩),
 (2,⟨.int .i64,1,8,[.int .i64 0]⟩),
 (3,⟨.int .i64,1,8,[.int .i64 0]⟩),
 (4,⟨.bool,1,1,[.bool false]⟩),
 (5,⟨.int .u8,1,1,[.int .u8 0]⟩),
 (6,⟨.int .u8,1,1,[.int .u8 0]⟩),
 (7,⟨.struct [(0,2),(1,3),(2,4),(3,6)],4,24,[.int .i64 0,.int .i64 0,.bool false,.int .u8 0]⟩),
 (8,⟨.struct [(0,2),(1,3),(2,4),(3,6)],4,24,[.int .i64 0,.int .i64 0,.bool false,.int .u8 0]⟩),
 (9,⟨.str,1,16,[.str []]⟩),
 (10,⟨.str,1,16,[.str []]⟩),
 (11,⟨.str,1,16,[.str []]⟩),
 (12,⟨.int .u64,1,8,[.int .u64 0]⟩),
 (13,⟨.struct [(0,9),(1,12)],2,24,[.str [],.int .u64 0]⟩),
 (14,⟨.struct [(0,9),(1,12)],2,24,[.str [],.int .u64 0]⟩),
 (15,⟨.ref,1,8,[.junk]⟩),
 (16,⟨.ref,1,8,[.junk]⟩),
 (17,⟨.ref,1,8,[.junk]⟩),
 (18,⟨.struct [(0,17)],1,8,[.junk]⟩),
 (19,⟨.struct [(0,17)],1,8,[.junk]⟩),
 (20,⟨.iface,1,16,[.junk]⟩),
 (21,⟨.int .i32,1,4,[.int .i32 0]⟩),
 (22,⟨.slice 101,1,24,[.nils]⟩),
 (23,⟨.slice 5,1,24,[.nils]⟩),
 (24,⟨.struct [(0,22),(1,23)],2,48,[.nils,.nils]⟩),
 (25,⟨.struct [(0,22),(1,23)],2,48,[.nils,.nils]⟩),
 (26,⟨.ref,1,8,[.junk]⟩),
 (27,⟨.int .i64,1,8,[.int .i64 0]⟩),
 (28,⟨.ref,1,8,[.junk]⟩),
 (29,⟨.slice 127,1,24,[.nils]⟩),
 (30,⟨.struct [(0,29),(1,3)],2,32,[.nils,.int .i64 0]⟩),
 (31,⟨.struct [(0,29),(1,3)],2,32,[.nils,.int .i64 0]⟩),
 (32,⟨.struct [(0,23),(1,3)],2,32,[.nils,.int .i64 0]⟩),
 (33,⟨.struct [(0,23),(1,3)],2,32,[.nils,.int .i64 0]⟩),
 (34,⟨.slice 69,1,24,[.nils]⟩),
 (35,⟨.struct [(0,31),(2,33),(4,34),(5,3)],6,96,[.nils,.int .i64 0,.nils,.int .i64 0,.nils,.int .i64 0]⟩),
 (36,⟨.struct [(0,31),(2,33),(4,34),(5,3)],6,96,[.nils,.int .i64 0,.nils,.int .i64 0,.nils,.int .i64 0]⟩),
 (37,⟨.slice 27,1,24,[.nils]⟩),
 (39,⟨.ref,1,8,[.junk]⟩),
 (40,⟨.struct [(0,3),(1,3),(2,23)],3,40,[.int .i64 0,.int .i64 0,.nils]⟩),
 (41,⟨.struct [(0,3),(1,3),(2,23)],3,40,[.int .i64 0,.int .i64 0,.nils]⟩),
 (42,⟨.ref,1,8,[.junk]⟩),
 (43,⟨.slice 41,1,24,[.nils]⟩),
 (44,⟨.slice 53,1,24,[.nils]⟩),
 (46,⟨.ref,1,8,[.junk]⟩),
 (47,⟨.struct [(0,3),(1,9),(2,3),(3,25)],5,80,[.int .i64 0,.str [],.int .i64 0,.nils,.nils]⟩),
 (48,⟨.struct [(0,3),(1,9),(2,3),(3,25)],5,80,[.int .i64 0,.str [],.int .i64 0,.nils,.nils]⟩),
 (49,⟨.ref,1,8,[.junk]⟩),
 (50,⟨.ref,1,8,[.junk]⟩),
 (51,⟨.slice 48,1,24,[.nils]⟩),
 (52,⟨.struct [(0,3),(1,3),(2,3),(3,27),(4,25)],6,80,[.int .i64 0,.int .i64 0,.int .i64 0,.int .i64 0,.nils,.nils]⟩),
 (53,⟨.struct [(0,3),(1,3),(2,3),(3,27),(4,25)],6,80,[.int .i64 0,.int .i64 0,.int .i64 0,.int .i64 0,.nils,.nils]⟩),
 (54,⟨.ref,1,8,[.junk]⟩),
 (55,⟨.ref,1,8,[.junk]⟩),
 (56,⟨.slice 25,1,24,[.nils]⟩),
 (58,⟨.ref,1,8,[.junk]⟩),
 (59,⟨.ref,1,8,[.junk]⟩),
 (61,⟨.ref,1,8,[.junk]⟩),
 (62,⟨.ref,1,8,[.junk]⟩),
 (63,⟨.ref,1,8,[.junk]⟩),
 (64,⟨.ref,1,8,[.junk]⟩),
 (65,⟨.slice 163,1,24,[.nils]⟩),
 (66,⟨.struct [(0,65),(1,3)],2,32,[.nils,.int .i64 0]⟩),
 (67,⟨.struct [(0,65),(1,3)],2,32,[.nils,.int .i64 0]⟩),
 (68,⟨.struct [(0,3),(1,23),(2,51),(3,3),(4,44),(5,23),(6,67),(8,4)],9,152,[.int .i64 0,.nils,.nils,.int .i64 0,.nils,.nils,.nils,.int .i64 0,.bool false]⟩),
 (69,⟨.struct [(0,3),(1,23),(2,51),(3,3),(4,44),(5,23),(6,67),(8,4)],9,152,[.int .i64 0,.nils,.nils,.int .i64 0,.nils,.nils,.nils,.int .i64 0,.bool false]⟩),
 (70,⟨.ref,1,8,[.junk]⟩),
 (71,⟨.ref,1,8,[.junk]⟩),
 (72,⟨.ref,1,8,[.junk]⟩),
 (73,⟨.ref,1,8,[.junk]⟩),
 (74,⟨.ref,1,8,[.junk]⟩),
 (75,⟨.ref,1,8,[.junk]⟩),
 (76,⟨.ref,1,8,[.junk]⟩),
 (77,⟨.ref,1,8,[.junk]⟩),
 (79,⟨.ref,1,8,[.junk]⟩),
 (80,⟨.ref,1,8,[.junk]⟩),
 (81,⟨.ref,1,8,[.junk]⟩),
 (82,⟨.ref,1,8,[.junk]⟩),
 (83,⟨.ref,1,8,[.junk]⟩),
 (84,⟨.ref,1,8,[.junk]⟩),
 (85,⟨.ref,1,8,[.junk]⟩),
 (86,⟨.ref,1,8,[.junk]⟩),
 (87,⟨.ref,1,8,[.junk]⟩),
 (88,⟨.ref,1,8,[.junk]⟩),
 (90,⟨.ref,1,8,[.junk]⟩),
 (91,⟨.ref,1,8,[.junk]⟩),
 (93,⟨.ref,1,8,[.junk]⟩),
 (95,⟨.ref,1,8,[.junk]⟩),
 (96,⟨.ref,1,8,[.junk]⟩),
 (97,⟨.ref,1,8,[.junk]⟩),
 (98,⟨.ref,1,8,[.junk]⟩),
 (99,⟨.ref,1,8,[.junk]⟩),
 (100,⟨.struct [(0,9),(1,3),(2,3),(3,9)],4,48,[.str [],.int .i64 0,.int .i64 0,.str []]⟩),
 (101,⟨.struct [(0,9),(1,3),(2,3),(3,9)],4,48,[.str [],.int .i64 0,.int .i64 0,.str []]⟩),
 (102,⟨.ref,1,8,[.junk]⟩),
 (105,⟨.ref,1,8,[.junk]⟩),
 (106,⟨.ref,1,8,[.junk]⟩),
 (107,⟨.ref,1,8,[.junk]⟩),
 (108,⟨.ref,1,8,[.junk]⟩),
 (109,⟨.ref,1,8,[.junk]⟩),
 (110,⟨.ref,1,8,[.junk]⟩),
 (111,⟨.ref,1,8,[.junk]⟩),
 (112,⟨.ref,1,8,[.junk]⟩),
 (113,⟨.ref,1,8,[.junk]⟩),
 (114,⟨.slice 132,1,24,[.nils]⟩),
 (116,⟨.ref,1,8,[.junk]⟩),
 (118,⟨.ref,1,8,[.junk]⟩),
 (119,⟨.ref,1,8,[.junk]⟩),
 (120,⟨.ref,1,8,[.junk]⟩),
 (121,⟨.ref,1,8,[.junk]⟩),
 (122,⟨.ref,1,8,[.junk]⟩),
 (123,⟨.ref,1,8,[.junk]⟩),
 (124,⟨.ref,1,8,[.junk]⟩),
 (125,⟨.slice 137,1,24,[.nils]⟩),
 (126,⟨.struct [(0,9),(1,3),(2,125)],3,48,[.str [],.int .i64 0,.nils]⟩),
 (127,⟨.struct [(0,9),(1,3),(2,125)],3,48,[.str [],.int .i64 0,.nils]⟩),
 (128,⟨.slice 23,1,24,[.nils]⟩),
 (130,⟨.ref,1,8,[.junk]⟩),
 (131,⟨.struct [(0,3),(1,9),(2,3),(3,3),(4,25)],6,88,[.int .i64 0,.str [],.int .i64 0,.int .i64 0,.nils,.nils]⟩),
 (132,⟨.struct [(0,3),(1,9),(2,3),(3,3),(4,25)],6,88,[.int .i64 0,.str [],.int .i64 0,.int .i64 0,.nils,.nils]⟩),
 (134,⟨.ref,1,8,[.junk]⟩),
 (135,⟨.ref,1,8,[.junk]⟩),
 (136,⟨.struct [(0,3),(1,3),(2,3),(3,4),(4,3),(5,25)],7,88,[.int .i64 0,.int .i64 0,.int .i64 0,.bool false,.int .i64 0,.nils,.nils]⟩),
 (137,⟨.struct [(0,3),(1,3),(2,3),(3,4),(4,3),(5,25)],7,88,[.int .i64 0,.int .i64 0,.int .i64 0,.bool false,.int .i64 0,.nils,.nils]⟩),
 (138,⟨.ref,1,8,[.junk]⟩),
 (139,⟨.ref,1,8,[.junk]⟩),
 (141,⟨.ref,1,8,[.junk]⟩),
 (142,⟨.ref,1,8,[.junk]⟩),
 (143,⟨.ref,1,8,[.junk]⟩),
 (144,⟨.ref,1,8,[.junk]⟩),
 (145,⟨.struct [(0,141),(1,142),(2,143),(3,144)],4,32,[.junk,.junk,.junk,.junk]⟩),
 (146,⟨.struct [(0,141),(1,142),(2,143),(3,144)],4,32,[.junk,.junk,.junk,.junk]⟩),
 (148,⟨.ref,1,8,[.junk]⟩),
 (151,⟨.ref,1,8,[.junk]⟩),
 (153,⟨.ref,1,8,[.junk]⟩),
 (154,⟨.ref,1,8,[.junk]⟩),
 (155,⟨.struct [(0,31),(2,33),(4,67)],6,96,[.nils,.int .i64 0,.nils,.int .i64 0,.nils,.int .i64 0]⟩),
 (156,⟨.struct [(0,31),(2,33),(4,67)],6,96,[.nils,.int .i64 0,.nils,.int .i64 0,.nils,.int .i64 0]⟩),
 (157,⟨.ref,1,8,[.junk]⟩),
 (159,⟨.ref,1,8,[.junk]⟩),
 (161,⟨.ref,1,8,[.junk]⟩),
 (162,⟨.struct [(0,3),(1,9),(2,3),(3,3)],4,40,[.int .i64 0,.str [],.int .i64 0,.int .i64 0]⟩),
 (163,⟨.struct [(0,3),(1,9),(2,3),(3,3)],4,40,[.int .i64 0,.str [],.int .i64 0,.int .i64 0]⟩),
 (164,⟨.ref,1,8,[.junk]⟩),
 (165,⟨.ref,1,8,[.junk]⟩),
 (167,⟨.ref,1,8,[.junk]⟩),
 (168,⟨.ref,1,8,[.junk]⟩),
 (169,⟨.ref,1,8,[.junk]⟩),
 (170,⟨.ref,1,8,[.junk]⟩),
 (171,⟨.ref,1,8,[.junk]⟩),
 (172,⟨.ref,1,8,[.junk]⟩),
 (173,⟨.ref,1,8,[.junk]⟩),
 (174,⟨.int .u32,1,4,[.int .u32 0]⟩),
 (176,⟨.ref,1,8,[.junk]⟩),
 (177,⟨.ref,1,8,[.junk]⟩),
 (178,⟨.ref,1,8,[.junk]⟩),
 (179,⟨.ref,1,8,[.junk]⟩),
 (180,⟨.ref,1,8,[.junk]⟩),
 (181,⟨.ref,1,8,[.junk]⟩),
 (182,⟨.ref,1,8,[.junk]⟩),
 (183,⟨.slice 9,1,24,[.nils]⟩),
 (184,⟨.ref,1,8,[.junk]⟩),
 (185,⟨.ref,1,8,[.junk]⟩),
 (186,⟨.ref,1,8,[.junk]⟩),
 (188,⟨.ref,1,8,[.junk]⟩),
 (190,⟨.ref,1,8,[.junk]⟩),
 (192,⟨.ref,1,8,[.junk]⟩),
 (193,⟨.ref,1,8,[.junk]⟩),
 (195,⟨.ref,1,8,[.junk]⟩),
 (196,⟨.ref,1,8,[.junk]⟩),
 (197,⟨.ref,1,8,[.junk]⟩),
 (199,⟨.ref,1,8,[.junk]⟩),
 (200,⟨.ref,1,8,[.junk]⟩),
 (201,⟨.ref,1,8,[.junk]⟩),
 (202,⟨.ref,1,8,[.junk]⟩),
 (203,⟨.slice 3,1,24,[.nils]⟩),
 (205,⟨.ref,1,8,[.junk]⟩),
 (206,⟨.ref,1,8,[.junk]⟩),
 (207,⟨.struct [(0,31),(2,33),(4,67)],6,96,[.nils,.int .i64 0,.nils,.int .i64 0,.nils,.int .i64 0]⟩),
 (208,⟨.struct [(0,31),(2,33),(4,67)],6,96,[.nils,.int .i64 0,.nils,.int .i64 0,.nils,.int .i64 0]⟩),
 (209,⟨.ref,1,8,[.junk]⟩),
 (211,⟨.ref,1,8,[.junk]⟩),
 (212,⟨.ref,1,8,[.junk]⟩),
 (214,⟨.ref,1,8,[.junk]⟩),
 (215,⟨.ref,1,8,[.junk]⟩),
 (216,⟨.ref,1,8,[.junk]⟩),
 (218,⟨.ref,1,8,[.junk]⟩),
 (219,⟨.ref,1,8,[.junk]⟩),
 (220,⟨.ref,1,8,[.junk]⟩),
 (221,⟨.ref,1,8,[.junk]⟩),
 (222,⟨.ref,1,8,[.junk]⟩),
 (224,⟨.ref,1,8,[.junk]⟩),
 (225,⟨.ref,1,8,[.junk]⟩),
 (227,⟨.ref,1,8,[.junk]⟩),
 (228,⟨.ref,1,8,[.junk]⟩),
 (229,⟨.ref,1,8,[.junk]⟩),
 (231,⟨.ref,1,8,[.junk]⟩),
 (233,⟨.ref,1,8,[.junk]⟩),
 (235,⟨.ref,1,8,[.junk]⟩),
 (236,⟨.ref,1,8,[.junk]⟩),
 (237,⟨.slice 238,1,24,[.nils]⟩),
 (238,⟨.ref,1,8,[.junk]⟩),
 (240,⟨.ref,1,8,[.junk]⟩),
 (241,⟨.ref,1,8,[.junk]⟩),
 (242,⟨.ref,1,8,[.junk]⟩),
 (243,⟨.ref,1,8,[.junk]⟩),
 (244,⟨.iface,1,16,[.junk]⟩),
 (245,⟨.iface,1,16,[.junk]⟩),
 (247,⟨.ref,1,8,[.junk]⟩),
 (249,⟨.ref,1,8,[.junk]⟩),
 (251,⟨.ref,1,8,[.junk]⟩),
 (253,⟨.ref,1,8,[.junk]⟩),
 (254,⟨.ref,1,8,[.junk]⟩),
 (256,⟨.ref,1,8,[.junk]⟩),
 (258,⟨.ref,1,8,[.junk]⟩),
 (259,⟨.ref,1,8,[.junk]⟩),
 (260,⟨.int .u64,1,8,[.int .u64 0]⟩),
 (261,⟨.ref,1,8,[.junk]⟩),
 (262,⟨.ref,1,8,[.junk]⟩),
 (263,⟨.ref,1,8,[.junk]⟩),
 (264,⟨.ref,1,8,[.junk]⟩),
 (265,⟨.ref,1,8,[.junk]⟩),
 (266,⟨.ref,1,8,[.junk]⟩),
 (267,⟨.ref,1,8,[.junk]⟩),
 (268,⟨.ref,1,8,[.junk]⟩),
 (270,⟨.ref,1,8,[.junk]⟩),
 (271,⟨.ref,1,8,[.junk]⟩),
 (272,⟨.ref,1,8,[.junk]⟩),
 (274,⟨.ref,1,8,[.junk]⟩),
 (276,⟨.ref,1,8,[.junk]⟩),
 (277,⟨.ref,1,8,[.junk]⟩),
 (278,⟨.ref,1,8,[.junk]⟩),
 (279,⟨.struct [(0,278),(1,23)],2,32,[.junk,.nils]⟩),
 (280,⟨.struct [(0,278),(1,23)],2,32,[.junk,.nils]⟩),
 (281,⟨.ref,1,8,[.junk]⟩),
 (282,⟨.ref,1,8,[.junk]⟩),
 (283,⟨.ref,1,8,[.junk]⟩),
 (285,⟨.ref,1,8,[.junk]⟩),
 (286,⟨.ref,1,8,[.junk]⟩),
 (287,⟨.ref,1,8,[.junk]⟩),
 (288,⟨.ref,1,8,[.junk]⟩),
 (289,⟨.ref,1,8,[.junk]⟩),
 (290,⟨.ref,1,8,[.junk]⟩),
 (291,⟨.ref,1,8,[.junk]⟩),
 (292,⟨.struct [(0,23),(1,4)],2,32,[.nils,.bool false]⟩),
 (293,⟨.struct [(0,23),(1,4)],2,32,[.nils,.bool false]⟩),
 (294,⟨.ref,1,8,[.junk]⟩),
 (295,⟨.ref,1,8,[.junk]⟩),
 (297,⟨.ref,1,8,[.junk]⟩),
 (298,⟨.ref,1,8,[.junk]⟩),
 (299,⟨.ref,1,8,[.junk]⟩),
 (300,⟨.ref,1,8,[.junk]⟩),
 (302,⟨.ref,1,8,[.junk]⟩),
 (303,⟨.ref,1,8,[.junk]⟩),
 (304,⟨.ref,1,8,[.junk]⟩),
 (305,⟨.ref,1,8,[.junk]⟩),
 (306,⟨.ref,1,8,[.junk]⟩),
 (307,⟨.ref,1,8,[.junk]⟩),
 (309,⟨.int .u64,1,8,[.int .u64 0]⟩),
 (310,⟨.ref,1,8,[.junk]⟩),
 (311,⟨.ref,1,8,[.junk]⟩),
 (313,⟨.ref,1,8,[.junk]⟩),
 (314,⟨.int .i64,1,8,[.int .i64 0]⟩),
 (316,⟨.ref,1,8,[.junk]⟩),
 (317,⟨.ref,1,8,[.junk]⟩),
 (318,⟨.ref,1,8,[.junk]⟩),
 (319,⟨.ref,1,8,[.junk]⟩),
 (320,⟨.ref,1,8,[.junk]⟩),
 (322,⟨.ref,1,8,[.junk]⟩),
 (323,⟨.ref,1,8,[.junk]⟩),
 (325,⟨.ref,1,8,[.junk]⟩),
 (326,⟨.ref,1,8,[.junk]⟩),
 (327,⟨.ref,1,8,[.junk]⟩),
 (330,⟨.ref,1,8,[.junk]⟩),
 (331,⟨.ref,1,8,[.junk]⟩),
 (333,⟨.ref,1,8,[.junk]⟩),
 (334,⟨.ref,1,8,[.junk]⟩),
 (335,⟨.struct [(0,9),(1,9),(2,245)],3,48,[.str [],.str [],.junk]⟩),
 (336,⟨.struct [(0,9),(1,9),(2,245)],3,48,[.str [],.str [],.junk]⟩),
 (337,⟨.ref,1,8,[.junk]⟩),
 (338,⟨.ref,1,8,[.junk]⟩),
 (339,⟨.ref,1,8,[.junk]⟩),
 (340,⟨.ref,1,8,[.junk]⟩),
 (341,⟨.struct [(0,9)],1,16,[.str []]⟩),
 (342,⟨.struct [(0,9)],1,16,[.str []]⟩),
 (344,⟨.ref,1,8,[.junk]⟩),
 (346,⟨.struct [(0,5),(1,5)],2,2,[.int .u8 0,.int .u8 0]⟩),
 (347,⟨.struct [(0,5),(1,5)],2,2,[.int .u8 0,.int .u8 0]⟩),
 (351,⟨.struct [(0,17),(1,17),(2,17),(3,9)],4,40,[.junk,.junk,.junk,.str []]⟩),
 (352,⟨.struct [(0,17),(1,17),(2,17),(3,9)],4,40,[.junk,.junk,.junk,.str []]⟩),
 (356,⟨.ref,1,8,[.junk]⟩),
 (357,⟨.int .u8,1,1,[.int .u8 0]⟩),
 (358,⟨.int .u8,1,1,[.int .u8 0]⟩),
 (359,⟨.ref,1,8,[.junk]⟩),
 (360,⟨.int .i32,1,4,[.int .i32 0]⟩),
 (361,⟨.int .i32,1,4,[.int .i32 0]⟩),
 (362,⟨.struct [(0,12),(1,12),(2,174),(3,357),(4,5),(5,5),(6,358),(7,359),(8,304),(9,360),(10,361)],11,48,[.int .u64 0,.int .u64 0,.int .u32 0,.int .u8 0,.int .u8 0,.int .u8 0,.int .u8 0,.junk,.junk,.int .i32 0,.int .i32 0]⟩),
 (363,⟨.struct [(0,12),(1,12),(2,174),(3,357),(4,5),(5,5),(6,358),(7,359),(8,304),(9,360),(10,361)],11,48,[.int .u64 0,.int .u64 0,.int .u32 0,.int .u8 0,.int .u8 0,.int .u8 0,.int .u8 0,.junk,.junk,.int .i32 0,.int .i32 0]⟩)]
def D (T:Nat):TI:=(get T Aa9).getD ⟨.other,0,0,[]⟩
theorem D_1:D 1=⟨.ref,1,8,[.junk]⟩:=rfl
theorem D_2:D 2=⟨.int .i64,1,8,[.int .i64 0]⟩:=rfl
theorem Kf:D 3=⟨.int .i64,1,8,[.int .i64 0]⟩:=rfl
theorem Xj:D 4=⟨.bool,1,1,[.bool false]⟩:=rfl
theorem Kg:D 5=⟨.int .u8,1,1,[.int .u8 0]⟩:=rfl
theorem D_6:D 6=⟨.int .u8,1,1,[.int .u8 0]⟩:=rfl
theorem D_7:D 7=⟨.struct [(0,2),(1,3),(2,4),(3,6)],4,24,[.int .i64 0,.int .i64 0,.bool false,.int .u8 0]⟩:=rfl
theorem D_8:D 8=⟨.struct [(0,2),(1,3),(2,4),(3,6)],4,24,[.int .i64 0,.int .i64 0,.bool false,.int .u8 0]⟩:=rfl
theorem Kh:D 9=⟨.str,1,16,[.str []]⟩:=rfl
theorem Tp:D 10=⟨.str,1,16,[.str []]⟩:=rfl
theorem Tq:D 11=⟨.str,1,16,[.str []]⟩:=rfl
theorem Ts:D 12=⟨.int .u64,1,8,[.int .u64 0]⟩:=rfl
theorem Tt:D 13=⟨.struct [(0,9),(1,12)],2,24,[.str [],.int .u64 0]⟩:=rfl
theorem Tu:D 14=⟨.struct [(0,9),(1,12)],2,24,[.str [],.int .u64 0]⟩:=rfl
theorem Tv:D 15=⟨.ref,1,8,[.junk]⟩:=rfl
theorem Tw:D 16=⟨.ref,1,8,[.junk]⟩:=rfl
theorem Tx:D 17=⟨.ref,1,8,[.junk]⟩:=rfl
theorem Ty:D 18=⟨.struct [(0,17)],1,8,[.junk]⟩:=rfl
theorem Tz:D 19=⟨.struct [(0,17)],1,8,[.junk]⟩:=rfl
theorem TA:D 20=⟨.iface,1,16,[.junk]⟩:=rfl
theorem P4:D 21=⟨.int .i32,1,4,[.int .i32 0]⟩:=rfl
theorem EN:D 22=⟨.slice 101,1,24,[.nils]⟩:=rfl
theorem EO:D 23=⟨.slice 5,1,24,[.nils]⟩:=rfl
theorem TB:D 24=⟨.struct [(0,22),(1,23)],2,48,[.nils,.nils]⟩:=rfl
theorem EP:D 25=⟨.struct [(0,22),(1,23)],2,48,[.nils,.nils]⟩:=rfl
theorem TC:D 26=⟨.ref,1,8,[.junk]⟩:=rfl
theorem I9:D 27=⟨.int .i64,1,8,[.int .i64 0]⟩:=rfl
theorem TD:D 28=⟨.ref,1,8,[.junk]⟩:=rfl
theorem TE:D 29=⟨.slice 127,1,24,[.nils]⟩:=rfl
theorem TF:D 30=⟨.struct [(0,29),(1,3)],2,32,[.nils,.int .i64 0]⟩:=rfl
theorem TG:D 31=⟨.struct [(0,29),(1,3)],2,32,[.nils,.int .i64 0]⟩:=rfl
theorem TH:D 32=⟨.struct [(0,23),(1,3)],2,32,[.nils,.int .i64 0]⟩:=rfl
theorem TJ:D 33=⟨.struct [(0,23),(1,3)],2,32,[.nils,.int .i64 0]⟩:=rfl
theorem TK:D 34=⟨.slice 69,1,24,[.nils]⟩:=rfl
theorem TL:D 35=⟨.struct [(0,31),(2,33),(4,34),(5,3)],6,96,[.nils,.int .i64 0,.nils,.int .i64 0,.nils,.int .i64 0]⟩:=rfl
theorem TM:D 36=⟨.struct [(0,31),(2,33),(4,34),(5,3)],6,96,[.nils,.int .i64 0,.nils,.int .i64 0,.nils,.int .i64 0]⟩:=rfl
theorem TN:D 37=⟨.slice 27,1,24,[.nils]⟩:=rfl
theorem TO:D 39=⟨.ref,1,8,[.junk]⟩:=rfl
theorem TP:D 40=⟨.struct [(0,3),(1,3),(2,23)],3,40,[.int .i64 0,.int .i64 0,.nils]⟩:=rfl
theorem TQ:D 41=⟨.struct [(0,3),(1,3),(2,23)],3,40,[.int .i64 0,.int .i64 0,.nils]⟩:=rfl
theorem TR:D 42=⟨.ref,1,8,[.junk]⟩:=rfl
theorem TS:D 43=⟨.slice 41,1,24,[.nils]⟩:=rfl
theorem TT:D 44=⟨.slice 53,1,24,[.nils]⟩:=rfl
theorem TU:D 46=⟨.ref,1,8,[.junk]⟩:=rfl
theorem TV:D 47=⟨.struct [(0,3),(1,9),(2,3),(3,25)],5,80,[.int .i64 0,.str [],.int .i64 0,.nils,.nils]⟩:=rfl
theorem KL:D 48=⟨.struct [(0,3),(1,9),(2,3),(3,25)],5,80,[.int .i64 0,.str [],.int .i64 0,.nils,.nils]⟩:=rfl
theorem TW:D 49=⟨.ref,1,8,[.junk]⟩:=rfl
theorem TX:D 50=⟨.ref,1,8,[.junk]⟩:=rfl
theorem TY:D 51=⟨.slice 48,1,24,[.nils]⟩:=rfl
theorem TZ:D 52=⟨.struct [(0,3),(1,3),(2,3),(3,27),(4,25)],6,80,[.int .i64 0,.int .i64 0,.int .i64 0,.int .i64 0,.nils,.nils]⟩:=rfl
theorem PJ:D 53=⟨.struct [(0,3),(1,3),(2,3),(3,27),(4,25)],6,80,[.int .i64 0,.int .i64 0,.int .i64 0,.int .i64 0,.nils,.nils]⟩:=rfl
theorem T0:D 54=⟨.ref,1,8,[.junk]⟩:=rfl
theorem T1:D 55=⟨.ref,1,8,[.junk]⟩:=rfl
theorem T4:D 56=⟨.slice 25,1,24,[.nils]⟩:=rfl
theorem T5:D 58=⟨.ref,1,8,[.junk]⟩:=rfl
theorem T6:D 59=⟨.ref,1,8,[.junk]⟩:=rfl
theorem T7:D 61=⟨.ref,1,8,[.junk]⟩:=rfl
theorem T8:D 62=⟨.ref,1,8,[.junk]⟩:=rfl
theorem T9:D 63=⟨.ref,1,8,[.junk]⟩:=rfl
theorem Ua:D 64=⟨.ref,1,8,[.junk]⟩:=rfl
theorem Ub:D 65=⟨.slice 163,1,24,[.nils]⟩:=rfl
theorem Uc:D 66=⟨.struct [(0,65),(1,3)],2,32,[.nils,.int .i64 0]⟩:=rfl
theorem Ud:D 67=⟨.struct [(0,65),(1,3)],2,32,[.nils,.int .i64 0]⟩:=rfl
theorem Ue:D 68=⟨.struct [(0,3),(1,23),(2,51),(3,3),(4,44),(5,23),(6,67),(8,4)],9,152,[.int .i64 0,.nils,.nils,.int .i64 0,.nils,.nils,.nils,.int .i64 0,.bool false]⟩:=rfl
theorem Uf:D 69=⟨.struct [(0,3),(1,23),(2,51),(3,3),(4,44),(5,23),(6,67),(8,4)],9,152,[.int .i64 0,.nils,.nils,.int .i64 0,.nils,.nils,.nils,.int .i64 0,.bool false]⟩:=rfl
theorem Ug:D 70=⟨.ref,1,8,[.junk]⟩:=rfl
theorem Uh:D 71=⟨.ref,1,8,[.junk]⟩:=rfl
theorem Ui:D 72=⟨.ref,1,8,[.junk]⟩:=rfl
theorem Uj:D 73=⟨.ref,1,8,[.junk]⟩:=rfl
theorem Uk:D 74=⟨.ref,1,8,[.junk]⟩:=rfl
theorem Ul:D 75=⟨.ref,1,8,[.junk]⟩:=rfl
theorem Um:D 76=⟨.ref,1,8,[.junk]⟩:=rfl
theorem Un:D 77=⟨.ref,1,8,[.junk]⟩:=rfl
theorem Uo:D 79=⟨.ref,1,8,[.junk]⟩:=rfl
theorem Up:D 80=⟨.ref,1,8,[.junk]⟩:=rfl
theorem Uq:D 81=⟨.ref,1,8,[.junk]⟩:=rfl
theorem Ur:D 82=⟨.ref,1,8,[.junk]⟩:=rfl
theorem Us:D 83=⟨.ref,1,8,[.junk]⟩:=rfl
theorem Ut:D 84=⟨.ref,1,8,[.junk]⟩:=rfl
theorem Uu:D 85=⟨.ref,1,8,[.junk]⟩:=rfl
theorem Uv:D 86=⟨.ref,1,8,[.junk]⟩:=rfl
theorem Uw:D 87=⟨.ref,1,8,[.junk]⟩:=rfl
theorem Ux:D 88=⟨.ref,1,8,[.junk]⟩:=rfl
theorem Uy:D 90=⟨.ref,1,8,[.junk]⟩:=rfl
theorem Uz:D 91=⟨.ref,1,8,[.junk]⟩:=rfl
theorem UA:D 93=⟨.ref,1,8,[.junk]⟩:=rfl
theorem UB:D 95=⟨.ref,1,8,[.junk]⟩:=rfl
theorem UC:D 96=⟨.ref,1,8,[.junk]⟩:=rfl
theorem UD:D 97=⟨.ref,1,8,[.junk]⟩:=rfl
theorem UE:D 98=⟨.ref,1,8,[.junk]⟩:=rfl
theorem UF:D 99=⟨.ref,1,8,[.junk]⟩:=rfl
theorem LR:D 100=⟨.struct [(0,9),(1,3),(2,3),(3,9)],4,48,[.str [],.int .i64 0,.int .i64 0,.str []]⟩:=rfl
theorem CH:D 101=⟨.struct [(0,9),(1,3),(2,3),(3,9)],4,48,[.str [],.int .i64 0,.int .i64 0,.str []]⟩:=rfl
theorem LS:D 102=⟨.ref,1,8,[.junk]⟩:=rfl
theorem LT:D 105=⟨.ref,1,8,[.junk]⟩:=rfl
theorem LU:D 106=⟨.ref,1,8,[.junk]⟩:=rfl
theorem LV:D 107=⟨.ref,1,8,[.junk]⟩:=rfl
theorem LW:D 108=⟨.ref,1,8,[.junk]⟩:=rfl
theorem LX:D 109=⟨.ref,1,8,[.junk]⟩:=rfl
theorem LY:D 110=⟨.ref,1,8,[.junk]⟩:=rfl
theorem LZ:D 111=⟨.ref,1,8,[.junk]⟩:=rfl
theorem L0:D 112=⟨.ref,1,8,[.junk]⟩:=rfl
theorem L1:D 113=⟨.ref,1,8,[.junk]⟩:=rfl
theorem L2:D 114=⟨.slice 132,1,24,[.nils]⟩:=rfl
theorem L3:D 116=⟨.ref,1,8,[.junk]⟩:=rfl
theorem L4:D 118=⟨.ref,1,8,[.junk]⟩:=rfl
theorem L5:D 119=⟨.ref,1,8,[.junk]⟩:=rfl
theorem L6:D 120=⟨.ref,1,8,[.junk]⟩:=rfl
theorem L7:D 121=⟨.ref,1,8,[.junk]⟩:=rfl
theorem L8:D 122=⟨.ref,1,8,[.junk]⟩:=rfl
theorem L9:D 123=⟨.ref,1,8,[.junk]⟩:=rfl
theorem Ma:D 124=⟨.ref,1,8,[.junk]⟩:=rfl
theorem Mb:D 125=⟨.slice 137,1,24,[.nils]⟩:=rfl
theorem Md:D 126=⟨.struct [(0,9),(1,3),(2,125)],3,48,[.str [],.int .i64 0,.nils]⟩:=rfl
theorem Me:D 127=⟨.struct [(0,9),(1,3),(2,125)],3,48,[.str [],.int .i64 0,.nils]⟩:=rfl
theorem Mf:D 128=⟨.slice 23,1,24,[.nils]⟩:=rfl
theorem Mg:D 130=⟨.ref,1,8,[.junk]⟩:=rfl
theorem Mh:D 131=⟨.struct [(0,3),(1,9),(2,3),(3,3),(4,25)],6,88,[.int .i64 0,.str [],.int .i64 0,.int .i64 0,.nils,.nils]⟩:=rfl
theorem Mi:D 132=⟨.struct [(0,3),(1,9),(2,3),(3,3),(4,25)],6,88,[.int .i64 0,.str [],.int .i64 0,.int .i64 0,.nils,.nils]⟩:=rfl
theorem Mj:D 134=⟨.ref,1,8,[.junk]⟩:=rfl
theorem Mk:D 135=⟨.ref,1,8,[.junk]⟩:=rfl
theorem Ml:D 136=⟨.struct [(0,3),(1,3),(2,3),(3,4),(4,3),(5,25)],7,88,[.int .i64 0,.int .i64 0,.int .i64 0,.bool false,.int .i64 0,.nils,.nils]⟩:=rfl
theorem Mm:D 137=⟨.struct [(0,3),(1,3),(2,3),(3,4),(4,3),(5,25)],7,88,[.int .i64 0,.int .i64 0,.int .i64 0,.bool false,.int .i64 0,.nils,.nils]⟩:=rfl
theorem Mn:D 138=⟨.ref,1,8,[.junk]⟩:=rfl
theorem Mo:D 139=⟨.ref,1,8,[.junk]⟩:=rfl
theorem Mp:D 141=⟨.ref,1,8,[.junk]⟩:=rfl
theorem Mq:D 142=⟨.ref,1,8,[.junk]⟩:=rfl
theorem Mr:D 143=⟨.ref,1,8,[.junk]⟩:=rfl
theorem Ms:D 144=⟨.ref,1,8,[.junk]⟩:=rfl
theorem Mt:D 145=⟨.struct [(0,141),(1,142),(2,143),(3,144)],4,32,[.junk,.junk,.junk,.junk]⟩:=rfl
theorem Mu:D 146=⟨.struct [(0,141),(1,142),(2,143),(3,144)],4,32,[.junk,.junk,.junk,.junk]⟩:=rfl
theorem Mv:D 148=⟨.ref,1,8,[.junk]⟩:=rfl
theorem Mx:D 151=⟨.ref,1,8,[.junk]⟩:=rfl
theorem My:D 153=⟨.ref,1,8,[.junk]⟩:=rfl
theorem Mz:D 154=⟨.ref,1,8,[.junk]⟩:=rfl
theorem MA:D 155=⟨.struct [(0,31),(2,33),(4,67)],6,96,[.nils,.int .i64 0,.nils,.int .i64 0,.nils,.int .i64 0]⟩:=rfl
theorem MB:D 156=⟨.struct [(0,31),(2,33),(4,67)],6,96,[.nils,.int .i64 0,.nils,.int .i64 0,.nils,.int .i64 0]⟩:=rfl
theorem MC:D 157=⟨.ref,1,8,[.junk]⟩:=rfl
theorem MD:D 159=⟨.ref,1,8,[.junk]⟩:=rfl
theorem ME:D 161=⟨.ref,1,8,[.junk]⟩:=rfl
theorem MF:D 162=⟨.struct [(0,3),(1,9),(2,3),(3,3)],4,40,[.int .i64 0,.str [],.int .i64 0,.int .i64 0]⟩:=rfl
theorem MG:D 163=⟨.struct [(0,3),(1,9),(2,3),(3,3)],4,40,[.int .i64 0,.str [],.int .i64 0,.int .i64 0]⟩:=rfl
theorem MH:D 164=⟨.ref,1,8,[.junk]⟩:=rfl
theorem MI:D 165=⟨.ref,1,8,[.junk]⟩:=rfl
theorem MJ:D 167=⟨.ref,1,8,[.junk]⟩:=rfl
theorem MK:D 168=⟨.ref,1,8,[.junk]⟩:=rfl
theorem ML:D 169=⟨.ref,1,8,[.junk]⟩:=rfl
theorem MM:D 170=⟨.ref,1,8,[.junk]⟩:=rfl
theorem MN:D 171=⟨.ref,1,8,[.junk]⟩:=rfl
theorem MO:D 172=⟨.ref,1,8,[.junk]⟩:=rfl
theorem MP:D 173=⟨.ref,1,8,[.junk]⟩:=rfl
theorem Jb:D 174=⟨.int .u32,1,4,[.int .u32 0]⟩:=rfl
theorem MQ:D 176=⟨.ref,1,8,[.junk]⟩:=rfl
theorem MR:D 177=⟨.ref,1,8,[.junk]⟩:=rfl
theorem MS:D 178=⟨.ref,1,8,[.junk]⟩:=rfl
theorem MT:D 179=⟨.ref,1,8,[.junk]⟩:=rfl
theorem MU:D 180=⟨.ref,1,8,[.junk]⟩:=rfl
theorem MV:D 181=⟨.ref,1,8,[.junk]⟩:=rfl
theorem MW:D 182=⟨.ref,1,8,[.junk]⟩:=rfl
theorem MX:D 183=⟨.slice 9,1,24,[.nils]⟩:=rfl
theorem MY:D 184=⟨.ref,1,8,[.junk]⟩:=rfl
theorem MZ:D 185=⟨.ref,1,8,[.junk]⟩:=rfl
theorem M0:D 186=⟨.ref,1,8,[.junk]⟩:=rfl
theorem M1:D 188=⟨.ref,1,8,[.junk]⟩:=rfl
theorem M2:D 190=⟨.ref,1,8,[.junk]⟩:=rfl
theorem M3:D 192=⟨.ref,1,8,[.junk]⟩:=rfl
theorem M4:D 193=⟨.ref,1,8,[.junk]⟩:=rfl
theorem M5:D 195=⟨.ref,1,8,[.junk]⟩:=rfl
theorem M6:D 196=⟨.ref,1,8,[.junk]⟩:=rfl
theorem M7:D 197=⟨.ref,1,8,[.junk]⟩:=rfl
theorem M8:D 199=⟨.ref,1,8,[.junk]⟩:=rfl
theorem M9:D 200=⟨.ref,1,8,[.junk]⟩:=rfl
theorem Na:D 201=⟨.ref,1,8,[.junk]⟩:=rfl
theorem Nb:D 202=⟨.ref,1,8,[.junk]⟩:=rfl
theorem Nc:D 203=⟨.slice 3,1,24,[.nils]⟩:=rfl
theorem Nd:D 205=⟨.ref,1,8,[.junk]⟩:=rfl
theorem Nf:D 206=⟨.ref,1,8,[.junk]⟩:=rfl
theorem Ng:D 207=⟨.struct [(0,31),(2,33),(4,67)],6,96,[.nils,.int .i64 0,.nils,.int .i64 0,.nils,.int .i64 0]⟩:=rfl
theorem Nh:D 208=⟨.struct [(0,31),(2,33),(4,67)],6,96,[.nils,.int .i64 0,.nils,.int .i64 0,.nils,.int .i64 0]⟩:=rfl
theorem Ni:D 209=⟨.ref,1,8,[.junk]⟩:=rfl
theorem Nj:D 211=⟨.ref,1,8,[.junk]⟩:=rfl
theorem Nk:D 212=⟨.ref,1,8,[.junk]⟩:=rfl
theorem Nl:D 214=⟨.ref,1,8,[.junk]⟩:=rfl
theorem Nm:D 215=⟨.ref,1,8,[.junk]⟩:=rfl
theorem Nn:D 216=⟨.ref,1,8,[.junk]⟩:=rfl
theorem No:D 218=⟨.ref,1,8,[.junk]⟩:=rfl
theorem Np:D 219=⟨.ref,1,8,[.junk]⟩:=rfl
theorem Nq:D 220=⟨.ref,1,8,[.junk]⟩:=rfl
theorem Nr:D 221=⟨.ref,1,8,[.junk]⟩:=rfl
theorem Ns:D 222=⟨.ref,1,8,[.junk]⟩:=rfl
theorem Nt:D 224=⟨.ref,1,8,[.junk]⟩:=rfl
theorem Nu:D 225=⟨.ref,1,8,[.junk]⟩:=rfl
theorem Nv:D 227=⟨.ref,1,8,[.junk]⟩:=rfl
theorem Nx:D 228=⟨.ref,1,8,[.junk]⟩:=rfl
theorem Ny:D 229=⟨.ref,1,8,[.junk]⟩:=rfl
theorem Nz:D 231=⟨.ref,1,8,[.junk]⟩:=rfl
theorem NA:D 233=⟨.ref,1,8,[.junk]⟩:=rfl
theorem NB:D 235=⟨.ref,1,8,[.junk]⟩:=rfl
theorem NC:D 236=⟨.ref,1,8,[.junk]⟩:=rfl
theorem ND:D 237=⟨.slice 238,1,24,[.nils]⟩:=rfl
theorem NE:D 238=⟨.ref,1,8,[.junk]⟩:=rfl
theorem NF:D 240=⟨.ref,1,8,[.junk]⟩:=rfl
theorem NG:D 241=⟨.ref,1,8,[.junk]⟩:=rfl
theorem NH:D 242=⟨.ref,1,8,[.junk]⟩:=rfl
theorem NJ:D 243=⟨.ref,1,8,[.junk]⟩:=rfl
theorem NK:D 244=⟨.iface,1,16,[.junk]⟩:=rfl
theorem NL:D 245=⟨.iface,1,16,[.junk]⟩:=rfl
theorem NM:D 247=⟨.ref,1,8,[.junk]⟩:=rfl
theorem NN:D 249=⟨.ref,1,8,[.junk]⟩:=rfl
theorem NO:D 251=⟨.ref,1,8,[.junk]⟩:=rfl
theorem NP:D 253=⟨.ref,1,8,[.junk]⟩:=rfl
theorem NQ:D 254=⟨.ref,1,8,[.junk]⟩:=rfl
theorem NR:D 256=⟨.ref,1,8,[.junk]⟩:=rfl
theorem NS:D 258=⟨.ref,1,8,[.junk]⟩:=rfl
theorem NT:D 259=⟨.ref,1,8,[.junk]⟩:=rfl
theorem NU:D 260=⟨.int .u64,1,8,[.int .u64 0]⟩:=rfl
theorem NV:D 261=⟨.ref,1,8,[.junk]⟩:=rfl
theorem NW:D 262=⟨.ref,1,8,[.junk]⟩:=rfl
theorem NX:D 263=⟨.ref,1,8,[.junk]⟩:=rfl
theorem NY:D 264=⟨.ref,1,8,[.junk]⟩:=rfl
theorem NZ:D 265=⟨.ref,1,8,[.junk]⟩:=rfl
theorem N1:D 266=⟨.ref,1,8,[.junk]⟩:=rfl
theorem N2:D 267=⟨.ref,1,8,[.junk]⟩:=rfl
theorem N3:D 268=⟨.ref,1,8,[.junk]⟩:=rfl
theorem N4:D 270=⟨.ref,1,8,[.junk]⟩:=rfl
theorem N5:D 271=⟨.ref,1,8,[.junk]⟩:=rfl
theorem N6:D 272=⟨.ref,1,8,[.junk]⟩:=rfl
theorem N7:D 274=⟨.ref,1,8,[.junk]⟩:=rfl
theorem N8:D 276=⟨.ref,1,8,[.junk]⟩:=rfl
theorem N9:D 277=⟨.ref,1,8,[.junk]⟩:=rfl
theorem Oa:D 278=⟨.ref,1,8,[.junk]⟩:=rfl
theorem Ob:D 279=⟨.struct [(0,278),(1,23)],2,32,[.junk,.nils]⟩:=rfl
theorem Oc:D 280=⟨.struct [(0,278),(1,23)],2,32,[.junk,.nils]⟩:=rfl
theorem Od:D 281=⟨.ref,1,8,[.junk]⟩:=rfl
theorem Oe:D 282=⟨.ref,1,8,[.junk]⟩:=rfl
theorem Of:D 283=⟨.ref,1,8,[.junk]⟩:=rfl
theorem Og:D 285=⟨.ref,1,8,[.junk]⟩:=rfl
theorem Oh:D 286=⟨.ref,1,8,[.junk]⟩:=rfl
theorem Oi:D 287=⟨.ref,1,8,[.junk]⟩:=rfl
theorem Oj:D 288=⟨.ref,1,8,[.junk]⟩:=rfl
theorem Ol:D 289=⟨.ref,1,8,[.junk]⟩:=rfl
theorem Om:D 290=⟨.ref,1,8,[.junk]⟩:=rfl
theorem Jc:D 291=⟨.ref,1,8,[.junk]⟩:=rfl
theorem On:D 292=⟨.struct [(0,23),(1,4)],2,32,[.nils,.bool false]⟩:=rfl
theorem Jd:D 293=⟨.struct [(0,23),(1,4)],2,32,[.nils,.bool false]⟩:=rfl
theorem Oo:D 294=⟨.ref,1,8,[.junk]⟩:=rfl
theorem Oq:D 295=⟨.ref,1,8,[.junk]⟩:=rfl
theorem Ot:D 297=⟨.ref,1,8,[.junk]⟩:=rfl
theorem Ou:D 298=⟨.ref,1,8,[.junk]⟩:=rfl
theorem Ov:D 299=⟨.ref,1,8,[.junk]⟩:=rfl
theorem Ow:D 300=⟨.ref,1,8,[.junk]⟩:=rfl
theorem Ox:D 302=⟨.ref,1,8,[.junk]⟩:=rfl
theorem Oy:D 303=⟨.ref,1,8,[.junk]⟩:=rfl
theorem Oz:D 304=⟨.ref,1,8,[.junk]⟩:=rfl
theorem OA:D 305=⟨.ref,1,8,[.junk]⟩:=rfl
theorem OB:D 306=⟨.ref,1,8,[.junk]⟩:=rfl
theorem OC:D 307=⟨.ref,1,8,[.junk]⟩:=rfl
theorem OD:D 309=⟨.int .u64,1,8,[.int .u64 0]⟩:=rfl
theorem OE:D 310=⟨.ref,1,8,[.junk]⟩:=rfl
theorem OF:D 311=⟨.ref,1,8,[.junk]⟩:=rfl
theorem OG:D 313=⟨.ref,1,8,[.junk]⟩:=rfl
theorem OH:D 314=⟨.int .i64,1,8,[.int .i64 0]⟩:=rfl
theorem OI:D 316=⟨.ref,1,8,[.junk]⟩:=rfl
theorem OJ:D 317=⟨.ref,1,8,[.junk]⟩:=rfl
theorem OK:D 318=⟨.ref,1,8,[.junk]⟩:=rfl
theorem OL:D 319=⟨.ref,1,8,[.junk]⟩:=rfl
theorem OM:D 320=⟨.ref,1,8,[.junk]⟩:=rfl
theorem ON:D 322=⟨.ref,1,8,[.junk]⟩:=rfl
theorem OO:D 323=⟨.ref,1,8,[.junk]⟩:=rfl
theorem OP:D 325=⟨.ref,1,8,[.junk]⟩:=rfl
theorem OQ:D 326=⟨.ref,1,8,[.junk]⟩:=rfl
theorem OR:D 327=⟨.ref,1,8,[.junk]⟩:=rfl
theorem OS:D 330=⟨.ref,1,8,[.junk]⟩:=rfl
theorem OT:D 331=⟨.ref,1,8,[.junk]⟩:=rfl
theorem OU:D 333=⟨.ref,1,8,[.junk]⟩:=rfl
theorem OV:D 334=⟨.ref,1,8,[.junk]⟩:=rfl
theorem OW:D 335=⟨.struct [(0,9),(1,9),(2,245)],3,48,[.str [],.str [],.junk]⟩:=rfl
theorem OX:D 336=⟨.struct [(0,9),(1,9),(2,245)],3,48,[.str [],.str [],.junk]⟩:=rfl
theorem OY:D 337=⟨.ref,1,8,[.junk]⟩:=rfl
theorem OZ:D 338=⟨.ref,1,8,[.junk]⟩:=rfl
theorem O0:D 339=⟨.ref,1,8,[.junk]⟩:=rfl
theorem O1:D 340=⟨.ref,1,8,[.junk]⟩:=rfl
theorem O2:D 341=⟨.struct [(0,9)],1,16,[.str []]⟩:=rfl
theorem O3:D 342=⟨.struct [(0,9)],1,16,[.str []]⟩:=rfl
theorem O4:D 344=⟨.ref,1,8,[.junk]⟩:=rfl
theorem O5:D 346=⟨.struct [(0,5),(1,5)],2,2,[.int .u8 0,.int .u8 0]⟩:=rfl
theorem O6:D 347=⟨.struct [(0,5),(1,5)],2,2,[.int .u8 0,.int .u8 0]⟩:=rfl
theorem O7:D 351=⟨.struct [(0,17),(1,17),(2,17),(3,9)],4,40,[.junk,.junk,.junk,.str []]⟩:=rfl
theorem O8:D 352=⟨.struct [(0,17),(1,17),(2,17),(3,9)],4,40,[.junk,.junk,.junk,.str []]⟩:=rfl
theorem O9:D 356=⟨.ref,1,8,[.junk]⟩:=rfl
theorem Pa:D 357=⟨.int .u8,1,1,[.int .u8 0]⟩:=rfl
theorem Pb:D 358=⟨.int .u8,1,1,[.int .u8 0]⟩:=rfl
theorem Pc:D 359=⟨.ref,1,8,[.junk]⟩:=rfl
theorem Pd:D 360=⟨.int .i32,1,4,[.int .i32 0]⟩:=rfl
theorem Pe:D 361=⟨.int .i32,1,4,[.int .i32 0]⟩:=rfl
theorem Pf:D 362=⟨.struct [(0,12),(1,12),(2,174),(3,357),(4,5),(5,5),(6,358),(7,359),(8,304),(9,360),(10,361)],11,48,[.int .u64 0,.int .u64 0,.int .u32 0,.int .u8 0,.int .u8 0,.int .u8 0,.int .u8 0,.junk,.junk,.int .i32 0,.int .i32 0]⟩:=rfl
theorem Pg:D 363=⟨.struct [(0,12),(1,12),(2,174),(3,357),(4,5),(5,5),(6,358),(7,359),(8,304),(9,360),(10,361)],11,48,[.int .u64 0,.int .u64 0,.int .u32 0,.int .u8 0,.int .u8 0,.int .u8 0,.int .u8 0,.junk,.junk,.int .i32 0,.int .i32 0]⟩:=rfl
theorem Xy {α:Type} {n:Nat} {x:α}:∀{l:List (Nat×α)},get n l=some x→(n,x)∈l
 | [],h=> by simp[get] at h
 | (k,y)::r,h=> by
  simp only[get] at h
  split at h
  ·rename_i e;subst e;cases h;exact List.mem_cons_self ..
  ·exact List.mem_cons_of_mem _ (Xy h)
theorem Aba:Aa9.all (fun p=> tyB Tryz.prog D p.1 p.2)=true:=by kernel_rfl
theorem tok:Hu Tryz.prog D:=by
 intro T
 unfold D
 cases h:get T Aa9 with
 | none=> rfl
 | some d=> exact List.all_eq_true.1 Aba _ (Xy h)
theorem mixed:Tryz.prog.follows .mixedOrders=true:=by kernel_rfl
open Go Go.RowKit
structure BH (P:Program) (D:Nat→TI) where
 f:Nat
 X:Type
 e:X→List AV
 ok:X→Prop
 F:X→Sy
 inj:∀x y,ok x→ok y→e x=e y→F x=F y
 con:∀x,ok x→A8 P D f (e x) (F x)
section
variable {P:Program} {D:Nat→TI}
open Classical in
noncomputable def BH.ctr (E:BH P D) (args:List AV):Option Sy:=if h:∃x,E.ok x∧E.e x=args then some (E.F h.choose) else none
noncomputable def Ao:List (BH P D)→PW
 | [],_,_=> none
 | E::r,f,args=> if f=E.f then (match E.ctr args with | some x=> some x | none=> Ao r f args) else Ao r f args
theorem BH.hit (E:BH P D) (x:E.X) (h:E.ok x):E.ctr (E.e x)=some (E.F x):=by
 unfold BH.ctr
 have hex:∃y,E.ok y∧E.e y=E.e x:=⟨x,h,rfl⟩
 rw[dif_pos hex]
 have:=hex.choose_spec
 rw[E.inj _ _ this.1 h this.2]
theorem BH.sound (E:BH P D) {args:List AV} {r:Sy} (h:E.ctr args=some r):A8 P D E.f args r:=by
 unfold BH.ctr at h
 split at h
 ·rename_i hex
  have:=hex.choose_spec
  cases h
  have hc:=E.con _ this.1
  rw[this.2] at hc
  exact hc
 ·cases h
theorem Ar:∀(T:List (BH P D)),Cl P D (Ao T)
 | [],f,args,r,h=> by simp[Ao] at h
 | E::T,f,args,r,h=> by
  rw[Ao] at h
  split at h
  ·rename_i e
   split at h
   ·rename_i x hx
    cases h
    rw[e]
    exact E.sound hx
   ·exact Ar T f args r h
  ·exact Ar T f args r h
theorem Aa7 {E:BH P D} {T:List (BH P D)} {f:Nat} {args:List AV} {r:Sy} (hf:f=E.f) (x:E.X) (h:E.ok x) (ha:E.e x=args) (hr:E.F x=r):Ao (E::T) f args=some r:=by
 rw[Ao,if_pos hf,←ha,E.hit x h,←hr]
theorem Zi {E:BH P D} {T:List (BH P D)} {f:Nat} {args:List AV} {r:Sy} (hf:f≠E.f) (h:Ao T f args=some r):Ao (E::T) f args=some r:=by
 rw[Ao,if_neg hf]
 exact h
end
theorem AQ {P:Program} {D:Nat→TI} {E:BH P D}:∀{T:List (BH P D)} {i:Nat},T[i]? =some E→((T.take i).map (·.f)).all (fun g=> !(E.f==g))=true→∀(x:E.X),E.ok x→∀{args:List AV} {r:Sy},E.e x=args→E.F x=r→Ao T E.f args=some r
 | [],i,h,_,_,_,_,_,_,_=> by simp at h
 | E'::T,0,h,_,x,hx,args,r,ha,hr=> by
  simp at h
  subst h
  exact Aa7 rfl x hx ha hr
 | E'::T,i+1,h,hn,x,hx,args,r,ha,hr=> by
  simp only[List.take_succ_cons,List.map_cons,List.all_cons,Bool.and_eq_true,Bool.not_eq_true',beq_eq_false_iff_ne] at hn
  exact Zi hn.1 (AQ (by simpa using h) hn.2 x hx ha hr)
theorem DO (l:List UInt8):Cb (l.map Ac)=l:=by
 unfold Cb
 rw[List.map_map]
 conv=> rhs;rw[←List.map_id l]
 exact List.map_congr_left fun b _=> by simp[Ac]
theorem AbC (l:List UInt8):isB (l.map Ac):=by unfold isB;rw[DO]
theorem AN {l m:List UInt8} (h:l.map Ac=m.map Ac):l=m:=by
 have:=congrArg Cb h
 rwa [DO,DO] at this
section
variable {w:World} {im:Nat→Prop} {ρ:BI}
theorem Sg {l:List UInt8} {v:Value} (h:Rel w im ρ (.sl 1 (l.map Ac)) v):∃A c,v=.slice A l.length c∧l.length≤c∧c≤maxLen∧CZ w im A l:=by
 generalize hrs:l.map Ac=rs at h
 cases h with
 | sl sz rs A c b o val hc hm hA hrow hcell hval=>
 subst hrs
 rw[List.length_map] at hc hA ⊢
 refine ⟨A,c,rfl,hc,hm,by simp,fun hn=> ?_⟩
 obtain ⟨h1,h2⟩:=hA hn
 refine ⟨b,o,h1,h2,fun j u hu=> ?_⟩
 rw[List.getElem?_map] at hu
 obtain ⟨x,hx,rfl⟩:=Option.map_eq_some_iff.1 hu
 have hr:(l.map Ac)[j]? =some (Ac x):=by rw[List.getElem?_map,hx];rfl
 have h3:=hcell j 0 _ (.int .u8 x.toNat) hr rfl
 have h4:=(hval j 0 _ (.int .u8 x.toNat) hr rfl).int_
 rw[h4] at h3
 simpa[Ic] using h3.1
theorem X3 {A:Option Addr} {c:Nat} {l:List UInt8} (hc:l.length≤c) (hm:c≤maxLen) (h:CZ w im A l):Rel w im ρ (.sl 1 (l.map Ac)) (.slice A l.length c):=by
 by_cases hn:0 < l.length
 ·obtain ⟨b,o,hA,hb,hcell⟩:=h.2 hn
  have:=Rel.sl (w:=w) (im:=im) (ρ:=ρ) 1 (l.map Ac) A c b o (fun i _=> Ic (l.getD i 0)) (by simpa using hc) hm (fun _=> ⟨hA,hb⟩) (fun i row hi=> ?_) (fun i j row x hi hj=> ?_) (fun i j row x hi hj=> ?_)
  ·rw[List.length_map] at this;exact this
  ·rw[List.getElem?_map] at hi
   obtain ⟨y,_,rfl⟩:=Option.map_eq_some_iff.1 hi
   rfl
  ·rw[List.getElem?_map] at hi
   obtain ⟨y,hy,rfl⟩:=Option.map_eq_some_iff.1 hi
   have hj0:j=0:=by have:=(List.getElem?_eq_some_iff.1 hj).1;simp[Ac] at this;exact this
   subst hj0
   simp[Ac] at hj
   subst hj
   have hg:l.getD i 0=y:=by simp[hy]
   simp only[hg]
   refine ⟨?_,rfl,by simp[Ad]⟩
   have:=hcell i (Ic y) (by rw[List.getElem?_map,hy];rfl)
   simpa using this
  ·rw[List.getElem?_map] at hi
   obtain ⟨y,hy,rfl⟩:=Option.map_eq_some_iff.1 hi
   have hj0:j=0:=by have:=(List.getElem?_eq_some_iff.1 hj).1;simp[Ac] at this;exact this
   subst hj0
   simp[Ac] at hj
   subst hj
   have hg:l.getD i 0=y:=by simp[hy]
   simp only[hg]
   exact .int _ _
 ·have h0:l=[]:=List.eq_nil_of_length_eq_zero (by omega)
  subst h0
  exact .sl 1 [] A c 0 0 (fun _ _=> .nilIface) hc hm (fun h=> absurd h (by simp)) (by simp) (by simp) (by simp)
end
theorem Ie {P:Program} {D:Nat→TI} {f:Nat} {fn:Func} {args:List AV} {v0:AV} (hf:P.funcs[f]? =some fn) (hname:(fn.name== "runtime.NumGoroutine")=false) (hbody:fn.body.isNone=false) (hn:Ad v0=[])
  (h:∀(w:World) (im:Nat→Prop) (ρ:BI) (vs:Array Value),(∀b,im b→b < w.heap.size)→E8 w im ρ args vs.toList→
   Calls P f vs w fun e w'=> ∃v,e=.returned v∧Below w.heap.size w w'∧Rel w' (fun b=> b < w'.heap.size∧(im b∨w.heap.size≤b)) ρ v0 v):A8 P D f args ⟨v0,[]⟩:=by
 refine ⟨⟨fn,hf,hname,hbody⟩,fun w im ρ vs him hvs=> (h w im ρ vs him.1 hvs).mono fun e w' ⟨v,he,hb,hr⟩=> ⟨v,he,⟨hb.os,hb.tape,hb.output,hb.size,fun b hlt _=> hb.block b hlt⟩,ρ,?_,?_,?_,?_⟩⟩
 ·intro k e sz rs hk;simp at hk
 ·intro k l b hk;simp at hk
 ·exact hr.mono (fun b hb=> ⟨hb.1,hb.2,fun m hm=> by simp at hm⟩) (fun _ _=> rfl) (fun _ _=> rfl)
 ·intro n hn';rw[hn] at hn';cases hn'
theorem He {w:World} {im:Nat→Prop} {ρ:BI} {x:AV} {vs:Array Value} (h:E8 w im ρ [x] vs.toList):∃v,vs=#[v]∧Rel w im ρ x v:=by
 obtain ⟨vs⟩:=vs
 obtain ⟨h1,h2⟩:=h
 match vs,h1 with
 | [v],_=> exact ⟨v,rfl,h2 0 x v rfl rfl⟩
theorem JF {w:World} {im:Nat→Prop} {ρ:BI} {x y:AV} {vs:Array Value} (h:E8 w im ρ [x,y] vs.toList):∃v u,vs=#[v,u]∧Rel w im ρ x v∧Rel w im ρ y u:=by
 obtain ⟨vs⟩:=vs
 obtain ⟨h1,h2⟩:=h
 match vs,h1 with
 | [v,u],_=> exact ⟨v,u,rfl,h2 0 x v rfl rfl,h2 1 y u rfl rfl⟩
theorem AaW {w:World} {im:Nat→Prop} {ρ:BI} {x y:AV} {v:Value} (h:Rel w im ρ (.agg [x,y]) v):∃a b,v=.agg #[a,b]∧(a.oneCell'=true∧Rel w im ρ x a)∧b.oneCell'=true∧Rel w im ρ y b:=by
 cases h with
 | agg cs vs hl h1 hval=>
 obtain ⟨vs⟩:=vs
 match vs,hl with
 | [a,b],_=> exact ⟨a,b,rfl,⟨h1 0 a rfl,hval 0 x a rfl rfl⟩,h1 1 b rfl,hval 1 y b rfl rfl⟩
theorem Lc {w:World} {im:Nat→Prop} {ρ:BI} {x y:AV} {a b:Value} (hx:Rel w im ρ x a) (hy:Rel w im ρ y b):Rel w im ρ (.tup [x,y]) (.tuple #[a,b]):=by
 refine .tup [x,y] #[a,b] rfl (fun i z v hz hv=> ?_)
 match i with
 | 0=> simp at hz hv;subst hz hv;exact hx
 | 1=> simp at hz hv;subst hz hv;exact hy
 | i+2=> simp at hv
theorem AG {X:Cx} {D:Nat→TI} {R:Prop} (hD:X.D=D∧R) (rl:List (Nat×Nat)) {σ σ':AS} (h1:σ'.nt=σ.nt) (h2:Ku rl=true) (h3:Eo σ (AF σ'.bl) rl σ'.tm) (h4:En D σ (AF σ'.bl) rl σ'.bl):Wk X σ σ':=by
 obtain ⟨rfl,_⟩:=hD
 exact Wk.cover rl ⟨h1,h2,h3,h4⟩
theorem AcP {X:Cx} {D:Nat→TI} {R:Prop} (hD:X.D=D∧R) (ns:List Nat) (rl:List (Nat×Nat)) {σ σ':AS} (h1:σ'.nt=(freeze σ ns).nt) (h2:Ku rl=true) (h3:Eo (freeze σ ns) (AF σ'.bl) rl σ'.tm) (h4:En D (freeze σ ns) (AF σ'.bl) rl σ'.bl):Wk X σ σ':=
 Wk.trans (Wk.freeze ns) (AG hD rl h1 h2 h3 h4)
structure Xr (X:Cx) (lo:Nat→Lo) (v:AV) (x y:Code) (Q:Exit→AS→Prop) (σ:AS):Prop where
 h:ZX v (Kl X lo x Q σ) (Kl X lo y Q σ)
section
variable {X:Cx} {lo:Nat→Lo} {Q:Exit→AS→Prop} {σ:AS}
theorem Z5 {c:Operand} {x y:Code}:Kl X lo (.cond c x y) Q σ=Xr X lo (ev σ c) x y Q σ:=propext ⟨fun h=> ⟨h⟩,fun h=> h.h⟩
theorem Z8:Kl X lo .skip Q σ=Q .normal σ:=rfl
theorem Z9 {id:Nat} {ops:Array Oper}:Kl X lo (.region id ops false) Q σ=if (lo id).hand=true then Tr X (.region id ops false) Q σ else if Yz ops.toList=true then Au X ops (Q .normal) σ else EE X [] ops ops.toList (Q .normal) σ:=rfl
theorem Abu {id:Nat} {ops:Array Oper}:Kl X lo (.region id ops true) Q σ=if (lo id).hand=true then Tr X (.region id ops true) Q σ else if Yz ops.toList=true then CP X (lo id) ops (Q .normal) σ else Qy ops (lo id)=true∧Fh X [] ops (lo id) (EC 0 ops.toList) (Q .normal) σ:=rfl
theorem Abw {a b:Code}:Kl X lo (.seq a b) Q σ=Kl X lo a (PG (Kl X lo b Q) Q) σ:=rfl
theorem Yv {id:Nat} {c:Code}:Kl X lo (.block id c) Q σ=Kl X lo c (inB id Q) σ:=rfl
theorem Z7 {c:Code}:Kl X lo (.loop c) Q σ=Tr X (.loop c) Q σ:=rfl
theorem Z6 {id:Nat}:Kl X lo (.exit id) Q σ=Q (.exit id) σ:=rfl
theorem Abv:Kl X lo .ret Q σ=Q .ret σ:=rfl
theorem Yw {l:Nat}:Kl X lo (.label l) Q σ=Q .normal σ:=rfl
theorem Ws {x y:Code}:Xr X lo (.bool true) x y Q σ=Kl X lo x Q σ:=propext ⟨fun h=> h.h.1 rfl,fun h=> ⟨⟨fun _=> h,fun h=> (by cases h)⟩⟩⟩
theorem U4 {x y:Code}:Xr X lo (.bool false) x y Q σ=Kl X lo y Q σ:=propext ⟨fun h=> h.h.2 rfl,fun h=> ⟨⟨fun h=> (by cases h),fun _=> h⟩⟩⟩
theorem Ai {t:Bool} {x y:Code} (h1:t=true→Kl X lo x Q σ) (h2:t=false→Kl X lo y Q σ):Xr X lo (.bool t) x y Q σ:=⟨⟨h1,h2⟩⟩
theorem Tn {n:AS→Prop}:PG n Q .normal σ=n σ:=rfl
theorem Zk {n:AS→Prop}:PG n Q .ret σ=Q .ret σ:=rfl
theorem Xd {n:AS→Prop} {id:Nat}:PG n Q (.exit id) σ=Q (.exit id) σ:=rfl
theorem RF {n:AS→Prop}:PG n Q .normal=n:=rfl
theorem WG {id:Nat}:inB id Q .normal σ=Q .normal σ:=rfl
theorem Vn {id:Nat}:inB id Q .normal=Q .normal:=rfl
theorem AbA {id:Nat}:inB id Q .ret σ=Q .ret σ:=rfl
theorem Aaj {id id':Nat}:inB id Q (.exit id') σ=if id'=id then Q .normal σ else Q (.exit id') σ:=rfl
end
section
variable {X:Cx} {off:List (Nat×Bool)} {ops:Array Oper} {lo:Lo} {σ:AS} {Q:AS→Prop}
def Aa4 (e:Option Ck) (σ:AS) (dst:Option Nat) (I:Prop) (K:AS→Prop):Prop:=match e with
 | none=> I
 | some e=> (fresh σ dst e=true∧e.pre)∧K (apply σ dst e)
theorem AaV:EE X off ops [] Q σ=Q σ:=rfl
theorem Za {o:Oper} {r:List Oper}:EE X off ops (o::r) Q σ=Aa4 (opEff X.D X.G X.M X.nb off ops σ o) σ o.dst (Ex X ops o σ (EE X off ops r Q)) (EE X off ops r Q):=by
 rw[EE];cases opEff X.D X.G X.M X.nb off ops σ o <;> rfl
theorem Xa {e:Ck} {dst:Option Nat} {I:Prop} {K:AS→Prop}:Aa4 (some e) σ dst I K=((fresh σ dst e=true∧e.pre)∧K (apply σ dst e)):=rfl
theorem W9 {dst:Option Nat} {I:Prop} {K:AS→Prop}:Aa4 none σ dst I K=I:=rfl
def Aa5 (e:Option Ck) (lo:Lo) (σ:AS) (i:Nat) (o:Oper) (I:Prop) (K:AS→Prop):Prop:=match e with
 | none=> Cg i lo.lo=true∧I
 | some e=> ((fresh σ o.dst e=true∧e.pre)∧still lo σ i o e=true)∧K (apply σ o.dst e)
theorem AaT:Fh X off ops lo [] Q σ=Q σ:=rfl
theorem Y9 {i:Nat} {o:Oper} {r:List (Nat×Oper)}:Fh X off ops lo ((i,o)::r) Q σ=Aa5 (opEff X.D X.G X.M X.nb off ops σ o) lo σ i o (Ex X ops o σ (Fh X off ops lo r Q)) (Fh X off ops lo r Q):=by
 rw[Fh];cases opEff X.D X.G X.M X.nb off ops σ o <;> rfl
theorem Xc {e:Ck} {i:Nat} {o:Oper} {I:Prop} {K:AS→Prop}:Aa5 (some e) lo σ i o I K=(((fresh σ o.dst e=true∧e.pre)∧still lo σ i o e=true)∧K (apply σ o.dst e)):=rfl
theorem Xb {i:Nat} {o:Oper} {I:Prop} {K:AS→Prop}:Aa5 none lo σ i o I K=(Cg i lo.lo=true∧I):=rfl
end
theorem AA {x:Int} (h1: -9223372036854775808≤x) (h2:x < 9223372036854775808):IntKind.wrap .i64 x=x:=IntWalk.i64_in x ⟨h1,by omega⟩
theorem AD {l:List UInt8} {i:Nat} (h:i < l.length):(l.map Ac).getD i []=[.int .u8 (l.getD i 0).toNat]:=by
 rw[List.getD_eq_getElem?_getD,List.getElem?_map,List.getD_eq_getElem?_getD]
 simp[h,Ac]
theorem Adk (a:Int):Lb .i64 a 8=IntKind.wrap .i64 (a*256):=rfl
theorem AW {σ:AS}:freeze σ []=σ:=rfl
theorem AO {σ:AS} {n:Nat} {ns:List Nat}:freeze σ (n::ns)={nt:=σ.nt,tm:=DX (fz (n::ns) (blk σ)) σ.tm,bl:=D9 (n::ns)++Df (fz (n::ns) (blk σ)) σ.bl}:=rfl
theorem Aap {σ:AS}:kill σ []=σ:=rfl
theorem YE {σ:AS} {n:Nat} {ns:List Nat}:kill σ (n::ns)={nt:=σ.nt,tm:=DX (kl (n::ns)) σ.tm,bl:=D9 (n::ns)++Df (kl (n::ns)) σ.bl}:=rfl
theorem AaG:Ba []=[]:=by simp[Ba]
section
variable {r:List AV}
theorem YU:Ba (.junk::r)=Ba r:=by simp[Ba]
theorem AaE {k n}:Ba (.int k n::r)=Ba r:=by simp[Ba]
theorem YP {b}:Ba (.bool b::r)=Ba r:=by simp[Ba]
theorem AaK {l}:Ba (.str l::r)=Ba r:=by simp[Ba]
theorem YW:Ba (.nils::r)=Ba r:=by simp[Ba]
theorem AbO {sz rs}:Ba (.sl sz rs::r)=Ba r:=by simp[Ba]
theorem AbN {t}:Ba (.os t::r)=t::Ba r:=by simp[Ba]
theorem AaJ {v o}:Ba (.ptr v o::r)=Ba r:=by simp[Ba]
theorem YT {cs}:Ba (.iptr cs::r)=Ba r:=by simp[Ba]
theorem YQ {t i o}:Ba (.eptr t i o::r)=Ba r:=by simp[Ba]
theorem AaF {n}:Ba (.lsl n::r)=Ba r:=by simp[Ba]
theorem YV:Ba (.nilp::r)=Ba r:=by simp[Ba]
theorem AaD {b}:Ba (.ifc b::r)=Ba r:=by simp[Ba]
theorem AaL {t i}:Ba (.tsl t i::r)=Ba r:=by simp[Ba]
theorem AaI {t i}:Ba (.psl t i::r)=Ba r:=by simp[Ba]
theorem YS {es}:Ba (.imap es::r)=Ba r:=by simp[Ba]
theorem YR {f cs}:Ba (.func f cs::r)=Ba r:=by simp[Ba]
theorem AaC {cs}:Ba (.agg cs::r)=Ba cs++Ba r:=by simp[Ba]
theorem AaM {cs}:Ba (.tup cs::r)=Ba r:=by simp[Ba]
theorem AaH {g v}:Ba (.opt g v::r)=Ba r:=by simp[Ba]
end
theorem AcD:List.range 1=[0]:=rfl
theorem AcE:List.range 2=[0,1]:=rfl
theorem AcF:List.range 3=[0,1,2]:=rfl
theorem AcG:List.range 4=[0,1,2,3]:=rfl
theorem AcH:List.range 5=[0,1,2,3,4]:=rfl
theorem AcI:List.range 6=[0,1,2,3,4,5]:=rfl
theorem AcJ:List.range 7=[0,1,2,3,4,5,6]:=rfl
theorem AcK:List.range 8=[0,1,2,3,4,5,6,7]:=rfl
theorem Av (b:UInt8):IntKind.wrap .i64 (b.toNat:Int)=b.toNat:=AA (by omega) (by have:=b.toNat_lt;omega)
theorem Ag {P:Program} {D:Nat→TI} {E:BH P D} {T:List (BH P D)} {i:Nat} (h:T[i]? =some E) (hn:((T.take i).map (·.f)).all (fun g=> !(E.f==g))=true) (x:E.X) (hx:E.ok x):Ao T E.f (E.e x)=some (E.F x):=AQ h hn x hx rfl rfl
def ρ0:BI:=fun _=> ⟨none,none,0,0,0,fun _=> none⟩
theorem law_true {P:Program} {D:Nat→TI} {f:Nat} {args:List AV} {vs:Array Value} {W:World} (h:A8 P D f args ⟨.bool true,[]⟩) (hr:E8 W (· < W.heap.size) ρ0 args vs.toList) (hgl:∀b∈gL,b < W.heap.size:=by intro b hb;cases hb) (hgi:GI W:=by trivial):
  Calls P f vs W fun e W'=> e=.returned (.bool true)∧Below W.heap.size W W':=by
 refine (h.2 W (· < W.heap.size) ρ0 vs ⟨fun b hb=> hb,hgl,hgi⟩ hr).mono fun e W' ⟨v,he,hf,ρo,_,_,hrel,_⟩=> ?_
 rw[hrel.bool_] at he
 exact ⟨he,hf.os,hf.tape,hf.output,hf.size,fun b hb=> hf.block b hb (fun h=> h)⟩
theorem rels_nil {w:World} {im:Nat→Prop} {ρ:BI}:E8 w im ρ [] []:=⟨rfl,fun i x v h=> by simp at h⟩
theorem rels_cons {w:World} {im:Nat→Prop} {ρ:BI} {x:AV} {v:Value} {xs:List AV} {vs:List Value} (h:Rel w im ρ x v) (k:E8 w im ρ xs vs):E8 w im ρ (x::xs) (v::vs):=by
 refine ⟨by simp[k.1],fun i y u hy hu=> ?_⟩
 cases i with
 | zero=> simp at hy hu;subst hy hu;exact h
 | succ i=> simp at hy hu;exact k.2 i y u hy hu
section
variable {X:Cx} {off:List (Nat×Bool)} {ops:Array Oper} {γ:Nat→Value} {Qx:Exit→Act→World→Prop}
theorem JW (hX:X.Ok) {Q:AS→Prop} {rest:List Nat} (hfin:∀σ a w,Q σ→X.St γ σ a w→wpOps X.P ops Qx rest a w):
  ∀(r:List Oper) (k:Nat) (σ:AS) (a:Act) (w:World),(∀j o,r[j]? =some o→ops[k+j]? =some o)→X.St γ σ a w→EE X off ops r Q σ→wpOps X.P ops Qx (List.range' k r.length++rest) a w
 | [],k,σ,a,w,_,hst,hr=> by simpa using hfin σ a w hr hst
 | o::r,k,σ,a,w,hl,hst,hr=> by
  rw[List.length_cons,List.range'_succ,List.cons_append,wpOps_cons]
  have ho:ops[k]? =some o:=hl 0 o rfl
  have hl':∀j o',r[j]? =some o'→ops[k+1+j]? =some o':=fun j o' hj=> by
   have:=hl (j+1) o' (by simpa using hj)
   rwa [show k+(j+1)=k+1+j by omega] at this
  rw[EE] at hr
  obtain ⟨ρ,hst0⟩:=hst
  cases he:opEff X.D X.G X.M X.nb off ops σ o with
  | none=>
   rw[he] at hr
   exact wpOp_mono (fun a' w' ⟨σ',h4,h5⟩=> JW hX hfin r (k+1) σ' a' w' hl' h5 h4) (hr.1 γ a w k Qx ho ⟨ρ,hst0⟩)
  | some e=>
   rw[he] at hr
   exact wpOp_mono (fun a' w' h5=> JW hX hfin r (k+1) _ a' w' hl' h5 hr.2) (KZ hX.types hX.calls hst0 ho he hr.1.1 hr.1.2 fun hg hm=> wpOp_mono (fun a' w' ⟨σ',e1,e2⟩=> e2.congr e1.symm) ((hX.mok ops _ σ e hg hm hr.1.2 hr.1.1).1 γ a w k Qx ho ⟨ρ,hst0⟩))
theorem JE (n k:Nat) (h:k≤n):List.range n=List.range' 0 k++List.range' k (n - k):=by
 rw[List.range_eq_range']
 have:=List.range'_append (s:=0) (m:=k) (n:=n - k) (step:=1)
 simp only[Nat.mul_one,Nat.one_mul,Nat.zero_add] at this
 rw[this,show k+(n - k)=n by omega]
theorem Tr.split (hX:X.Ok) {id:Nat} {Q:Exit→AS→Prop} {σ:AS} (k:Nat) (hk:k≤ops.size) (h:EE X [] ops (ops.toList.take k) (fun σ1=> ∃σ2,Wk X σ1 σ2∧EE X [] ops (ops.toList.drop k) (Q .normal) σ2) σ):Tr X (.region id ops false) Q σ:=by
 intro γ a w hs
 refine wp_region ?_
 rw[JE ops.size k hk]
 have hlt:(ops.toList.take k).length=k:=by simp;omega
 have hld:(ops.toList.drop k).length=ops.size - k:=by simp
 rw[←hlt]
 refine JW hX (rest:=List.range' (ops.toList.take k).length (ops.size - (ops.toList.take k).length)) (fun σ1 a1 w1 ⟨σ2,hw,hr⟩ hst=> ?_) _ 0 σ a w (fun j o hj=> ?_) hs h
 ·rw[List.getElem?_take] at hj
  split at hj
  ·simpa using hj
  ·cases hj
 ·rw[hlt,←hld]
  exact F1 hX (fun σ' a' w' h1 h2=> ⟨σ',h1,h2⟩) _ k σ2 a1 w1 (fun j=> by simp) (hw γ a1 w1 hst) hr
def Zu (T d:Nat) (k v:Value) (o:Oper):Prop:=∃ko vo,o.op=.insert T (.tmp d) ko vo∧o.dst=none∧o.guard=none∧(∀a:Act,a.eval ko=k)∧∀a:Act,a.eval vo=v
def DU:Nat→List (Value×Value)→List MapEntry
 | _,[]=> []
 | n,(k,v)::r=> ⟨k,v,n⟩::DU (n+1) r
def DV (dk:TypeDesc):List MapEntry→List (Value×Value)→Prop
 | _,[]=> True
 | es,(k,v)::r=> MapKept.IsKey dk k∧Instr.findNow dk k es 0=some none∧DV dk (es++[⟨k,v,es.length⟩]) r
theorem QG:∀(l:List (Value×Value)) (n:Nat),(DU n l).map (fun e=> (e.key,e.val))=l
 | [],_=> rfl
 | (k,v)::r,n=> by simp[DU,QG r]
theorem Kr:∀(l:List (Value×Value)) (n:Nat) (k v:Value),DU n (l++[(k,v)])=DU n l++[⟨k,v,n+l.length⟩]
 | [],_,_,_=> rfl
 | (k',v')::r,n,k,v=> by simp only[List.cons_append,DU,Kr r,List.length_cons];congr 4;omega
theorem QF:∀(l:List (Value×Value)) (n:Nat),(DU n l).length=l.length
 | [],_=> rfl
 | (k,v)::r,n=> by simp[DU,QF r]
theorem Bd {o:Oper} {i:Nat} {a:Act} {w:World} {K:Act→World→Prop} (ho:ops[i]? =some o) (hg:o.guard=none) (h:o.wp X.P a w K Qx):wpOp X.P ops Qx i K a w:=by
 unfold wpOp
 simp only[ho]
 rw[if_pos (by simp[Region.wanted,hg])]
 exact .inl h
theorem Ri {o:Oper} {P:Program} {a:Act} {w w':World} {K:Act→World→Prop} {s:Sem Unit} (hex:execOp a.eval o=(do s;pure .skip)) (hd:o.dst=none) (hrun:s.run P w=.ok () w') (hk:K a w'):o.wp P a w K Qx:=by
 unfold Oper.wp
 rw[hex]
 simp only[Sem.run_bind,hrun,Result.andThen_ok,Sem.run_pure,Oper.upon,hd]
 exact hk
def Ey (dk:TypeDesc) (k z:Value):List (Value×Value)→Option Value
 | []=> some z
 | (k',v)::r=> match Instr.sameNow dk k k' with
  | some true=> some v
  | some false=> Ey dk k z r
  | none=> none
theorem Ks {dk:TypeDesc} {k z v:Value}:∀{es:List (Value×Value)} {arr:List MapEntry} {i:Nat},Ey dk k z es=some v→arr.map (fun e=> (e.key,e.val))=es→∃f,Instr.findNow dk k arr i=some f∧(f.map (·.2)).getD z=v
 | [],arr,i,h,ha=> by
  have:arr=[]:=by simpa using ha
  subst this
  cases h
  exact ⟨none,rfl,rfl⟩
 | (k',v')::r,[],i,h,ha=> by cases ha
 | (k',v')::r,e::arr,i,h,ha=> by
  simp only[List.map_cons,List.cons.injEq,Prod.mk.injEq] at ha
  obtain ⟨⟨rfl,rfl⟩,ha⟩:=ha
  rw[Ey] at h
  rw[Instr.findNow]
  split at h
  ·rename_i hs;cases h;rw[hs];exact ⟨_,rfl,rfl⟩
  ·rename_i hs;rw[hs];exact Ks h ha
  ·cases h
def DW (ops:Array Oper) (T d:Nat):Nat→List (Value×Value)→Prop
 | _,[]=> True
 | k,kv::r=> (∃o,ops[k]? =some o∧Zu T d kv.1 kv.2 o)∧DW ops T d (k+1) r
theorem RV {T d:Nat}:∀{kvs:List (Value×Value)} {k:Nat},DW ops T d k kvs→∀j kv,kvs[j]? =some kv→∃o,ops[k+j]? =some o∧Zu T d kv.1 kv.2 o
 | [],_,_,j,kv,hj=> by simp at hj
 | x::r,k,h,0,kv,hj=> by simp at hj;subst hj;exact h.1
 | x::r,k,h,j+1,kv,hj=> by
  have:=RV h.2 j kv (by simpa using hj)
  rwa [show k+(j+1)=k+1+j by omega]
theorem Aau {T kt et d b:Nat} {dk:TypeDesc} (hu:X.P.underlying T=some (.map kt et)) (hk:X.P.underlying kt=some dk) {K:Act→World→Prop} {a:Act} {W:World} (hb:W.heap.size=b) (hm:a.eval (.tmp d)=.map (some b)):
  ∀(kvs:List (Value×Value)) (es:List (Value×Value)) (k:Nat),DV dk (DU 0 es) kvs→(∀j kv,kvs[j]? =some kv→∃o,ops[k+j]? =some o∧Zu T d kv.1 kv.2 o)→K a (W.alloc (.map (DU 0 (es++kvs)).toArray (es++kvs).length))→
   ∀{rest:List Nat},(∀w',K a w'→wpOps X.P ops Qx rest a w')→wpOps X.P ops Qx (List.range' k kvs.length++rest) a (W.alloc (.map (DU 0 es).toArray es.length))
 | [],es,k,_,_,hK,rest,hr=> by
  simp only[List.append_nil] at hK
  simpa using hr _ hK
 | (key,v)::r,es,k,hn,ho,hK,rest,hr=> by
  rw[List.length_cons,List.range'_succ,List.cons_append,wpOps_cons]
  obtain ⟨h1,h2,h3⟩:=hn
  obtain ⟨o,o1,ko,vo,o2,o3,o4,o5,o6⟩:=ho 0 (key,v) rfl
  refine Bd o1 o4 ?_
  have hex:execOp a.eval o=(do Instr.mapUpdate T (a.eval (.tmp d)) (a.eval ko) (a.eval vo);pure .skip):=by
   obtain ⟨dst,op,ty,pos,af,gd⟩:=o
   simp only at o2
   subst o2
   rfl
  rw[hm,o5,o6] at hex
  rw[QF] at h3
  have hins:=Ed (P:=X.P) T kt et hu dk hk W (DU 0 es).toArray es.length key v h1 (by simpa using h2)
  rw[hb] at hins
  refine Ri hex o3 hins ?_
  have e1:(DU 0 es).toArray.push ⟨key,v,es.length⟩=(DU 0 (es++[(key,v)])).toArray:=by
   rw[Kr,Nat.zero_add]
   simp
  have e2:es.length+1=(es++[(key,v)]).length:=by simp
  rw[e1,e2]
  refine Aau hu hk hb hm r (es++[(key,v)]) (k+1) ?_ (fun j kv hj=> ?_) ?_ hr
  ·rw[Kr,Nat.zero_add]
   exact h3
  ·obtain ⟨o',q1,q2⟩:=ho (j+1) kv (by simpa using hj)
   exact ⟨o',by rwa [show k+(j+1)=k+1+j by omega] at q1,q2⟩
  ·simpa using hK
theorem St.lit {D:Nat→TI} {S N0:Nat→Prop} {B:Nat} {w0:W0} {σ:AS} {a:Act} {w:World} (h:St D S N0 B w0 σ a w) {d:Nat} (hd:d < σ.nt) (kvs:List (Value×Value)):
  St D S N0 B w0 {σ with tm:=(d,.imap kvs)::σ.tm} (a.put (some d) (.map (some w.heap.size))) (w.alloc (.map (DU 0 kvs).toArray kvs.length)):=by
 obtain ⟨ρ,h⟩:=h
 have h1:=(h.step (w':=w.alloc (.map (DU 0 kvs).toArray kvs.length)) (ks:=[]) (nw:=[]) (up:=[]) rfl rfl rfl (by simp) (fun b hb _=> F0 hb) (fun _ _ _=> rfl) (fun m hm=> by simp[AF] at hm) (fun m hm=> by simp[AF] at hm)
   (fun _ n y hy=> by simp[get] at hy) (fun n y b hn=> by simp[get] at hn) (fun n m y z b hn=> by simp[get] at hn) (fun n y z b hn=> by simp[get] at hn)).1
 rw[Iu] at h1
 have h2:=h1.put (d:=d) (x:=.imap kvs) (v:=.map (some w.heap.size)) hd ?_ (by simp[Ad])
 ·exact ⟨ρ,h2⟩
 ·refine .imap kvs _ kvs.length (DU 0 kvs).toArray ⟨by simp,.inr (.inl (Nat.le_trans h.base.1 h.frm.size)),fun n x hx hb=> ?_⟩ ?_ (by simp[QG])
  ·have:=h.owns_lt hx hb
   omega
  ·show (w.heap.push _)[w.heap.size]? =_
   simp
theorem Tr.lit (hX:X.Ok) {id:Nat} {Q:Exit→AS→Prop} {σ:AS} (k:Nat) {T kt et d:Nat} {dk:TypeDesc} (kvs:List (Value×Value)) (hu:X.P.underlying T=some (.map kt et)) (hk:X.P.underlying kt=some dk)
  (hsz:k+1+kvs.length≤ops.size) (hmk:∃o,ops[k]? =some o∧o.op=.makeMap T none∧o.dst=some d∧o.guard=none) (hd:d < 65536) (hins':DW ops T d (k+1) kvs) (hn:DV dk [] kvs)
  (h:EE X [] ops (ops.toList.take k) (fun σ1=> d < σ1.nt∧EE X [] ops (ops.toList.drop (k+1+kvs.length)) (Q .normal) {σ1 with tm:=(d,.imap kvs)::σ1.tm}) σ):Tr X (.region id ops false) Q σ:=by
 intro γ a w hs
 refine wp_region ?_
 have hins:=RV hins'
 have hlt:(ops.toList.take k).length=k:=by simp;omega
 have hld:(ops.toList.drop (k+1+kvs.length)).length=ops.size - (k+1+kvs.length):=by simp
 have hr:List.range ops.size=List.range' 0 k++(k::(List.range' (k+1) kvs.length++List.range' (k+1+kvs.length) (ops.size - (k+1+kvs.length)))):=by
  rw[JE ops.size k (by omega)]
  congr 1
  rw[show ops.size - k=(kvs.length+(ops.size - (k+1+kvs.length)))+1 by omega,List.range'_succ]
  congr 1
  have:=List.range'_append (s:=k+1) (m:=kvs.length) (n:=ops.size - (k+1+kvs.length)) (step:=1)
  simp only[Nat.one_mul] at this
  exact this.symm
 rw[hr]
 have hpart:=JW (ops:=ops) (off:=[]) (γ:=γ) (Qx:=fun e a w=> ∃σ',Q e σ'∧X.St γ σ' a w) hX (Q:=fun σ1=> d < σ1.nt∧EE X [] ops (ops.toList.drop (k+1+kvs.length)) (Q .normal) {σ1 with tm:=(d,.imap kvs)::σ1.tm})
  (rest:=k::(List.range' (k+1) kvs.length++List.range' (k+1+kvs.length) (ops.size - (k+1+kvs.length)))) (fun σ1 a1 w1 ⟨hd1,hr1⟩ hst=> ?_) (ops.toList.take k) 0 σ a w (fun j o hj=> ?_) hs h
 ·rwa [hlt] at hpart
 ·obtain ⟨o,o1,o2,o3,o4⟩:=hmk
  rw[wpOps_cons]
  refine Bd o1 o4 ?_
  have hex:execOp a1.eval o=(do pure (.value (←Instr.makeMap T none))):=by
   obtain ⟨dst,op,ty,pos,af,gd⟩:=o
   simp only at o2
   subst o2
   rfl
  refine Ax hex (v:=.map (some w1.heap.size)) (w':=w1.alloc (.map #[] 0)) rfl ?_
  rw[o3]
  have hst':=St.lit hst hd1 kvs
  have hnt:a1.tmps.size=σ1.nt:=by
   obtain ⟨ρ,hst⟩:=hst
   exact hst.nt.1
  have hev:(a1.put (some d) (.map (some w1.heap.size))).eval (.tmp d)=.map (some w1.heap.size):=by
   simp[Act.eval,Act.put,hnt,hd1]
  exact Aau (b:=w1.heap.size) (W:=w1) (K:=fun a' w'=> a'=a1.put (some d) (.map (some w1.heap.size))∧X.St γ {σ1 with tm:=(d,.imap kvs)::σ1.tm} a' w') hu hk rfl hev kvs [] (k+1) hn hins ⟨rfl,hst'⟩ (rest:=List.range' (k+1+kvs.length) (ops.size - (k+1+kvs.length))) (fun w' ⟨_,hq⟩=> by
   rw[←hld]
   exact F1 hX (fun σ' a' w' h1 h2=> ⟨σ',h1,h2⟩) _ _ _ _ _ (fun j=> by simp) hq hr1)
 ·rw[List.getElem?_take] at hj
  split at hj
  ·simpa using hj
  ·cases hj
theorem Gi {T kt et:Nat} {dk:TypeDesc} {es:List (Value×Value)} {σ:AS} {R:AS→Prop} {d:Nat} {x y:Operand} {ty:Nat} {pos:String} {af:Array Edge} {key v z:Value} {av:AV} (hu:X.P.underlying T=some (.map kt et)) (hk:X.P.underlying kt=some dk)
  (hx:ev σ x=.imap es) (hy:ev σ y=cst key) (hkey:MapKept.IsKey dk key) (hz:∀W,(zeroValue et).run X.P W=.ok z W) (hcst:cst key≠.junk)
  (hf:Ey dk key z es=some v) (hav:∀w im ρ,Rel w im ρ av v) (hnm:Ad av=[]) (hd:d < σ.nt)
  (h:R {σ with tm:=(d,av)::σ.tm}):Ex X ops ⟨some d,.lookup T x y false,ty,pos,af,none⟩ σ R:=by
 refine ⟨fun γ a w i Qx hi ⟨ρ,hs⟩=> ?_⟩
 have hvx:=(hs.ev x).1
 have hvy:=(hs.ev y).1
 rw[hx] at hvx
 rw[hy] at hvy
 have hey:a.eval y=key:=by
  revert hvy hcst
  unfold cst
  split
  ·exact fun _ h=> h.int_
  ·exact fun _ h=> h.bool_
  ·exact fun _ h=> h.str_
  ·exact fun _ h=> by generalize a.eval y=u at h;cases h;rfl
  ·exact fun _ h=> by generalize a.eval y=u at h;cases h;rfl
  ·exact fun _ h=> by
    generalize a.eval y=u at h
    cases h with | ifc _ _ hi=> cases u <;> simp[I5] at hi;rfl
  ·exact fun h _=> absurd rfl h
 generalize hvx':a.eval x=vx at hvx
 cases hvx with
 | imap _ b c arr hb ho he=>
 obtain ⟨f,hf1,hf2⟩:=Ks (i:=0) hf he
 refine Bd hi rfl ?_
 have hex:execOp a.eval ⟨some d,.lookup T x y false,ty,pos,af,none⟩=(do pure (.value (←Instr.lookup T (a.eval x) (a.eval y) false))):=rfl
 refine Ax hex (v:=v) (w':=w) ?_ ⟨_,h,ρ,hs.put hd (hav _ _ _) (by simp[hnm])⟩
 rw[hvx',hey]
 have:=Hg T kt et hu dk hk w b arr c key false ho z (hz w) hkey f hf1
 rw[this]
 simp[hf2]
end
def UI (w:World) (im:Nat→Prop) (ρ:BI) (e sz:Nat) (u:Value) (rs':List (List AV)) (en:Ending) (w':World):Prop:=
 ∃r ys,en=.returned r∧w'.ownsRow 0 e sz r rs'.length ys∧BQ w im ρ sz rs' ys∧w.grownBy w' u.ownBlock∧∀b,r.ownBlock=some b→u.ownBlock=some b∨w.heap.size≤b
theorem Aak {X:Cx} (hT:Hu X.P X.D) {ops:Array Oper} {σ:AS} {dst:Option Nat} {f:Operand} {args:Array Operand} {types:Array TypeId} {ty:Nat} {pos:String} {af:Array Edge} {g v e sz dn:Nat} {rest:List AV} {rs rs':List (List AV)}
  {caps:List AV} (hf:ev σ f=.func g caps) (hargs:args.toList.map (ev σ)++caps=.os v::rest) (hbl:blk σ v=some (.rows e sz rs)) {fn:Func} {c:Code} (hfn:X.P.funcs[g]? =some fn) (hb:fn.body=some c) (hname:(fn.name== "runtime.NumGoroutine")=false)
  (hdn:blk σ dn=none) (hdst:∀k,dst=some k→k < σ.nt)
  (hcalls:∀(w:World) (im:Nat→Prop) (ρ:BI) (u:Value) (vs:List Value) (xs:List Value),w.ownsRow 0 e sz u rs.length xs→BQ w im ρ sz rs xs→sz=(X.D e).n→E8 w im ρ rest vs→(∀b,im b→b < w.heap.size∧u.ownBlock≠some b)→Calls X.P g (u::vs).toArray w (UI w im ρ e sz u rs')):
  Ex X ops ⟨dst,.call ⟨.value f,args,types⟩,ty,pos,af,none⟩ σ (fun σ'=> Ia (apply σ dst {v:=.os dn,kl:=[v],nw:=[(dn,.rows e sz rs')]}) σ'):=by
 refine ⟨fun γ a w i Qx hi hs=> ?_⟩
 obtain ⟨ρ,hs⟩:=hs
 have hvf:=(hs.ev f).1
 rw[hf] at hvf
 generalize hV:a.eval f=V at hvf
 cases hvf with
 | func g cs fvs hl hval=>
 have hra:E8 w (Im X.S X.N0 X.B w ρ σ) ρ (args.toList.map (ev σ)) (args.toList.map a.eval):=by
  refine ⟨by simp,fun k x v hx hv=> ?_⟩
  rw[List.getElem?_map] at hx hv
  obtain ⟨y,hy,rfl⟩:=Option.map_eq_some_iff.1 hx
  rw[hy] at hv
  cases hv
  exact (hs.ev y).1
 have hra:=hra.append (ys:=caps) (vs:=fvs.toList) ⟨by simpa using hl,fun i x v hx hv=> hval i x v hx (by simpa using hv)⟩
 rw[hargs] at hra
 generalize hvs:args.toList.map a.eval++fvs.toList=vs0 at hra
 cases vs0 with
 | nil=> have:=hra.1;simp at this
 | cons u vs=>
 have hu:u=(ρ v).sv:=by
  have:=hra.2 0 _ u rfl rfl
  cases this
  rfl
 have hB:=hs.hp.blk v _ hbl
 obtain ⟨xs,hown,hfl⟩:=hB.owns
 obtain ⟨b1,b2,b3,A,c0,b4,b5,b6,b7⟩:=hB
 have hrest:E8 w (Im X.S X.N0 X.B w ρ σ) ρ rest vs:=⟨by have:=hra.1;simpa using this,fun i x y hx hy=> hra.2 (i+1) x y (by simpa using hx) (by simpa using hy)⟩
 have hub:∀b,u.ownBlock=some b→(ρ v).b=some b:=fun b hob=> by
  rw[hu,b4] at hob
  rcases b7 with ⟨_,rfl,_,_⟩ | ⟨b',arr,hb',rfl,_⟩
  ·simp[Value.ownBlock] at hob
  ·simp[Value.ownBlock] at hob
   rw[hb',hob]
 have hcall:=hcalls w (Im X.S X.N0 X.B w ρ σ) ρ u vs xs (by rw[hu];exact hown) hfl b3 hrest (fun b hb=> ⟨hb.1,fun hob=> hb.2.2 v _ hbl (hub b hob)⟩)
 have hav:args.map a.eval++fvs=(u::vs).toArray:=by
  rw[←hvs]
  apply Array.ext'
  simp
 refine Bd hi rfl ?_
 unfold Oper.wp
 have hex:(execOp a.eval ⟨dst,.call ⟨.value f,args,types⟩,ty,pos,af,none⟩).run X.P w=.ok (.enter g (u::vs).toArray) w:=by
  have hn':¬fn.name= "runtime.NumGoroutine":=by simpa using hname
  have hb':¬fn.body=none:=by rintro e;rw[e] at hb;cases hb
  rw[←hav]
  simp[execOp,resolve,hV,Deferred.ofValue,invoke,callFunc,program,Sem.run,hfn,hn',hb']
 rw[hex,Oper.upon_enter]
 refine hcall.mono fun en w' ⟨r,ys,he,k1,k2,k3,k4⟩=> ?_
 subst he
 rw[b3] at k1 k2
 obtain ⟨i',hi',hst,_⟩:=hs.newRows hT (n:=dn) (ks:=[v]) (rs:=rs') hdn (by rw[←b3];exact b2) k1 k2 k3 (fun b hob=> ⟨v,_,by simp,hbl,hub b hob⟩) k4
 have hm:Sx X.D X.S X.N0 X.B ⟨X.w0,γ⟩ σ a {v:=.os dn,kl:=[v],nw:=[(dn,.rows e sz rs')]} r w':=by
  refine ⟨_,by rw[b3];exact hst,?_,fun m hm=> ?_⟩
  ·have:((ρ.set dn i') dn).sv=r:=by rw[BI.set_eq];exact hi'
   rw[←this]
   exact .os dn
  ·simp[Ad] at hm
   subst hm
   show (blk (Bv σ _ [(m,_)] []) m).isSome=true
   rw[CW];rfl
 exact ⟨_,Ia.refl _,hm.fin hdst⟩
theorem WH {X:Cx} (hX:X.Ok) (nb:Nat) {M:ID} (hM:Rk X.P X.D X.G M):({X with nb:=nb,M:=M}:Cx).Ok:=Rk.ok hM rfl rfl rfl rfl hX.mixed hX.types hX.calls
theorem IW:∀(l:List (Nat×AV)),Iy (IB l)=l
 | []=> rfl
 | (t,x)::r=> by simp[IB,Iy,IW r]
theorem JR {M:ID} {dn:Nat} {σ:AS} {o:Oper} {e:Ck} (h:Jv M dn σ o=some e) (hg:o.guard=none):∃dst f args types ty pos af g caps,o=⟨dst,.call ⟨.value f,args,types⟩,ty,pos,af,none⟩∧ev σ f=.func g caps∧M dn g (args.toList.map (ev σ)++caps) (GA σ (Af (o.op.operands.toList.map (ev σ))))=some e:=by
 obtain ⟨dst,op,ty,pos,af,gd⟩:=o
 simp only at hg
 subst hg
 unfold Jv at h
 simp only at h ⊢
 split at h
 ·rename_i c
  obtain ⟨callee,args,types⟩:=c
  simp only at h ⊢
  split at h
  ·rename_i f
   unfold US at h
   split at h
   ·rename_i g caps hf
    exact ⟨dst,f,args,types,ty,pos,af,g,caps,rfl,hf,h⟩
   ·cases h
  ·cases h
 ·cases h
theorem GT {σ:AS} {ns:List Nat} {n:Nat} {b:Be} (h:GA σ ns n=some b):blk σ n=some b:=by
 unfold GA at h
 split at h
 ·exact h
 ·cases h
theorem AbV {α β:Type} {f:α→β} {l:List α} {n:Nat}:(l.map f).take n=(l.take n).map f:=List.map_take.symm
theorem Abt {α β:Type} {f:α→β} {l:List α} {n:Nat}:(l.map f).drop n=(l.drop n).map f:=List.map_drop.symm
attribute [go_sem] Eo En AT cov Aw Dz B9 B9.resT' ET AbV Abt
attribute [go_sem] Z5 Z8 Z9 Abu Abw Yv Z7 Z6 Abv Yw Ws U4
 Tn Zk Xd RF WG Vn AbA Aaj Za AaV Xa W9
 AaT Y9 Xc Xb EC still fkE XV XE Zq upB Lo.g2 bcl
 Fy Hv SW okE opsNs V5 opEff YM Ab9 Acz eqB XS
 Yz B4 GC orM Jv US XK Kk EJ IL WI Zp
 ev Fq get uv ug cellsOf cst jn blk apply VD AW
 AO Aap YE Vm D9 DX Df ES fresh CC AF Cg
 Af Ad GA Hz D7 Ii D8 Ik KT Lu Ls isC bin
 Lt FO Ij FM V6 Tm bound J3 Aam Cc Rz GB
 Hf A3 KX fz Hq AaG YU AaE YP AaK YW AbO
 AbN AaJ YT YQ AaF YS YV AaD AaL AaI RQ YR AaC AaM AaH ren rens
 DZ Bc GO Cw IQ XN XO RM okN Az F5 BG
 Aby plain Hm QC PX kl Pt Op.operands Call.operands List.map_cons List.map_nil List.append_nil
 List.nil_append List.cons_append Option.getD_some Option.getD_none Option.isSome_some Option.isNone_none Option.isSome_none Option.isNone_some Option.map_some Option.map_none Option.bind_some Option.bind_none
 Option.toList_some Option.toList_none Option.toArray_some Option.toArray_none Array.toList_append List.toList_toArray Nat.le_refl implies_true imp_self List.getElem?_toArray List.getElem?_cons_zero List.getElem?_cons_succ
 List.size_toArray Bool.and_true Bool.true_and Bool.and_false Bool.false_and Bool.or_true Bool.true_or Bool.or_false Bool.false_or Bool.not_true Bool.not_false and_true
 true_and and_false false_and and_self eq_self ite_self bne_self_eq_false beq_self_eq_true or_true true_or or_false false_or
 ite_true ite_false Bool.false_eq_true List.all_cons List.all_nil Nat.zero_add decide_true decide_false List.drop_zero List.drop_succ_cons List.take_zero List.take_succ_cons
 List.head?_cons List.length_cons List.length_nil forall_const if_true if_false List.zip_cons_cons List.zip_nil_right List.zip_nil_left List.getD_cons_zero List.getD_cons_succ List.getD_nil List.drop_nil
 List.take_nil Int.toNat_natCast List.length_map decide_eq_true_eq decide_eq_false_iff_not DO AbC List.range_zero AcD AcE AcF AcG
 AcH AcI AcJ AcK
 Fc Id Vh Gh keepF Lv I4 Gw HY DA Ji QB WS QP Vx Xn XT Xp FN KV GP ZZ Qo
attribute [go_sem] Nat.reduceLeDiff reduceCtorEq Nat.reduceAdd Nat.reduceSub Nat.reduceMul Nat.reduceLT Nat.reduceEqDiff Int.reduceEq Int.reduceLE Int.reduceLT Int.reducePow Int.reduceMul Int.reduceToNat Int.reduceNeg AA Option.some.injEq exists_eq_left'
attribute [go_sem ↓] reduceIte
attribute [go_sem] D_1 D_2 Kf Xj Kg D_6 D_7 D_8 Kh Tp Tq Ts Tt Tu Tv Tw Tx Ty Tz TA P4 EN EO TB EP TC I9 TD TE TF TG TH TJ TK TL TM TN TO TP TQ TR TS TT TU TV KL TW TX TY TZ PJ T0 T1 T4 T5 T6 T7 T8 T9 Ua Ub Uc Ud Ue Uf Ug Uh Ui Uj Uk Ul Um Un Uo Up Uq Ur Us Ut Uu Uv Uw Ux Uy Uz UA UB UC UD UE UF LR CH LS LT LU LV LW LX LY LZ L0 L1 L2 L3 L4 L5 L6 L7 L8 L9 Ma Mb Md Me Mf Mg Mh Mi Mj Mk Ml Mm Mn Mo Mp Mq Mr Ms Mt Mu Mv Mx My Mz MA MB MC MD ME MF MG MH MI MJ MK ML MM MN MO MP Jb MQ MR MS MT MU MV MW MX MY MZ M0 M1 M2 M3 M4 M5 M6 M7 M8 M9 Na Nb Nc Nd Nf Ng Nh Ni Nj Nk Nl Nm Nn No Np Nq Nr Ns Nt Nu Nv Nx Ny Nz NA NB NC ND NE NF NG NH NJ NK NL NM NN NO NP NQ NR NS NT NU NV NW NX NY NZ N1 N2 N3 N4 N5 N6 N7 N8 N9 Oa Ob Oc Od Oe Of Og Oh Oi Oj Ol Om Jc On Jd Oo Oq Ot Ou Ov Ow Ox Oy Oz OA OB OC OD OE OF OG OH OI OJ OK OL OM ON OO OP OQ OR OS OT OU OV OW OX OY OZ O0 O1 O2 O3 O4 O5 O6 O7 O8 O9 Pa Pb Pc Pd Pe Pf Pg
end Go.Proofs.YtlkmgccikgnaeaaGreatDoor.Ab
