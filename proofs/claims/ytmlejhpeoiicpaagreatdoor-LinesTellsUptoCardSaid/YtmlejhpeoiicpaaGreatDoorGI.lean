/-
  Texts of the proof, one behind the other: Cva.
  No condition but those that each theorem names.
-/
import Derived.Test.YtmlejhpeoiicpaaGreatDoorGC
import Derived.Lib.FrozenHead
namespace Go.Proofs.YtmlejhpeoiicpaaGreatDoor.Ab
open Go
set_option linter.unusedVariables false
set_option linter.unusedSimpArgs false

section
variable {P : Program} {D : Nat → TI} {S N0 : Nat → Prop} {B : Nat} {w0 : W0} {σ : AS} {a : Act} {w : World} {ρ : Env}

theorem St0.retm (h : St0 D S N0 B w0 ρ σ a w) {tm : List (Nat × AV)} (ht : ∀ t x, get t tm = some x → get t σ.tm = some x) : St0 D S N0 B w0 ρ { σ with tm := tm } a w :=
  ⟨fun t x hx => h.tm t x (ht t x hx), h.hp, h.nt, h.base, h.frm, h.own, h.defers⟩
end
section
variable {X : Cx} {γ : Nat → Value} {ops : Array Oper} {Qx : Exit → Act → World → Prop}
/-- one operation, by the evaluator -/
theorem regW_op (hX : X.Ok) {Q : AS → Prop} {o : Oper} {i : Nat} {σ : AS} {a : Act} {w : World} {K : Act → World → Prop} (ho : ops[i]? = some o) (hst : X.St γ σ a w) (hr : regW X [] ops [o] Q σ)
    (hK : ∀ σ' a' w', Q σ' → X.St γ σ' a' w' → K a' w') : wpOp X.P ops Qx i K a w := by
  rw [regW] at hr
  obtain ⟨ρ, hst0⟩ := hst
  cases he : opEff X.D X.G X.M X.nb [] ops σ o with
  | none =>
    rw [he] at hr
    exact wpOp_mono (fun a' w' ⟨σ', h4, h5⟩ => hK σ' a' w' h4 h5) (hr.1 γ a w i Qx ho ⟨ρ, hst0⟩)
  | some e =>
    rw [he] at hr
    exact wpOp_mono (fun a' w' h5 => hK _ a' w' hr.2 h5) (op_sound hX.types hX.calls hst0 ho he hr.1.1 hr.1.2 fun hg hm => wpOp_mono (fun a' w' ⟨σ', e1, e2⟩ => e2.congr e1.symm) ((hX.mok ops _ σ e hg hm hr.1.2 hr.1.1).1 γ a w i Qx ho ⟨ρ, hst0⟩))

theorem ev_put_self {a : Act} {t : Nat} {v : Value} (h : t < a.tmps.size) : (a.put (some t) v).eval (.tmp t) = v := by simp [Act.eval, Act.put, h]
theorem ev_put_ne {a : Act} {t s : Nat} {v : Value} (h : t ≠ s) : (a.put (some t) v).eval (.tmp s) = a.eval (.tmp s) := Act.eval_put fun d hd e => by
  cases hd
  cases e
  exact h rfl
end
end Go.Proofs.YtmlejhpeoiicpaaGreatDoor.Ab
