/-
  Texts of the proof, one behind the other: RgG RgU.
  No condition but those that each theorem names.
-/
import Derived.Test.YtlkmgccikgnaeaaGreatDoorMC
import Derived.Test.YtlkmgccikgnaeaaGreatDoorMI
set_option linter.unusedVariables false
set_option linter.unusedSimpArgs false
set_option maxRecDepth 100000
set_option maxHeartbeats 16000000
namespace Go.Proofs.YtlkmgccikgnaeaaGreatDoor.Ab
open Go
def unG (o:Oper):Oper:=⟨o.dst,o.op,o.type,o.pos,o.after,none⟩
theorem Abb {P:Program} {ops:Array Oper} {Q:Exit→Act→World→Prop} {i:Nat} {o:Oper} {K:Act→World→Prop} {a:Act} {w:World} (hi:ops[i]? =some o) (hw:Region.wanted o (yielded ops a.tmps)=true) (h:wpOp P #[unG o] Q 0 K a w):wpOp P ops Q i K a w:=by
 unfold wpOp at h ⊢
 have h0:(#[unG o]:Array Oper)[0]? =some (unG o):=rfl
 simp only[h0] at h
 rw[if_pos (by simp[Region.wanted,unG])] at h
 simp only[hi]
 rw[if_pos hw]
 obtain ⟨d,op,ty,pos,af,g⟩:=o
 exact h
def regU (X:Cx) (ops:Array Oper) (un:List Nat):List (Nat×Oper)→(AS→Prop)→AS→Prop
 | [],Q,σ=> Q σ
 | (i,o)::r,Q,σ=> if Cg i un=true then (B4 σ ops o.guard=some (some true)∧EE X [] #[unG o] [unG o] (regU X ops un r Q) σ) else EE X [] ops [o] (regU X ops un r Q) σ
theorem AaU {X:Cx} {ops:Array Oper} {un:List Nat} {Q:AS→Prop} {σ:AS}:regU X ops un [] Q σ=Q σ:=rfl
theorem Sf {X:Cx} {ops:Array Oper} {un:List Nat} {Q:AS→Prop} {σ:AS} {i:Nat} {o:Oper} {r:List (Nat×Oper)}:regU X ops un ((i,o)::r) Q σ=if Cg i un=true then (B4 σ ops o.guard=some (some true)∧EE X [] #[unG o] [unG o] (regU X ops un r Q) σ) else EE X [] ops [o] (regU X ops un r Q) σ:=rfl
theorem AcN {d:Option Nat} {op:Op} {ty:Nat} {p:String} {af:Array Edge} {g:Option (Nat×Bool)}:unG ⟨d,op,ty,p,af,g⟩=⟨d,op,ty,p,af,none⟩:=rfl
attribute [go_sem] AaU Sf AcN
theorem KA {X:Cx} {ops:Array Oper} {un:List Nat} {γ:Nat→Value} {Qx:Exit→Act→World→Prop} {Q:AS→Prop} (hX:X.Ok) (hfin:∀σ a w,Q σ→X.St γ σ a w→Qx .normal a w):
  ∀(r:List Oper) (k:Nat) (σ:AS) (a:Act) (w:World),(∀j,r[j]? =ops[k+j]?)→X.St γ σ a w→regU X ops un (EC k r) Q σ→wpOps X.P ops Qx (List.range' k r.length) a w
 | [],k,σ,a,w,hl,hst,hr=> by simpa[wpOps] using hfin σ a w hr hst
 | o::r,k,σ,a,w,hl,hst,hr=> by
  rw[List.length_cons,List.range'_succ,wpOps_cons]
  have ho:ops[k]? =some o:=by have:=hl 0;simpa using this.symm
  have hl':∀j,r[j]? =ops[k+1+j]?:=fun j=> by
   have:=hl (j+1)
   rw[show k+(j+1)=k+1+j by omega] at this
   simpa using this
  rw[EC,Sf] at hr
  obtain ⟨ρ,hst0⟩:=hst
  split at hr
  ·exact Abb ho (LQ hst0 hr.1) (JV hX rfl ⟨ρ,hst0⟩ hr.2 fun σ' a' w' hq hst'=> KA hX hfin r (k+1) σ' a' w' hl' hst' hq)
  ·exact JV hX ho ⟨ρ,hst0⟩ hr fun σ' a' w' hq hst'=> KA hX hfin r (k+1) σ' a' w' hl' hst' hq
theorem Tr.regU {X:Cx} (hX:X.Ok) {id:Nat} {ops:Array Oper} {Q:Exit→AS→Prop} {σ:AS} (un:List Nat) (h:Ab.regU X ops un (EC 0 ops.toList) (Q .normal) σ):Tr X (.region id ops false) Q σ:=fun γ a w hs=> by
 refine wp_region ?_
 rw[List.range_eq_range']
 have:=KA (ops:=ops) (γ:=γ) (Qx:=fun e a w=> ∃σ',Q e σ'∧X.St γ σ' a w) hX (fun σ a w hq hst=> ⟨σ,hq,hst⟩) ops.toList 0 σ a w (fun j=> by simp) hs h
 simpa using this
end Go.Proofs.YtlkmgccikgnaeaaGreatDoor.Ab
