/-
  Rewriting rules for the abstract evaluator.
  No condition.
-/
import Derived.Test.YtcgdjdlcecnanaaAbA
namespace Go.Proofs.Ytcgdjdlcecnanaa.Ab
open Go
set_option linter.unusedVariables false
variable {D : Nat → TI} {G : Ctr} {off : List (Nat × Bool)} {ops : Array Oper} {σ : AS}

def stepW (e : Option Eff) (σ : AS) (dst : Option Nat) (K : AS → Prop) : Prop :=
  match e with
  | none => False
  | some e => (fresh σ dst e = true ∧ e.pre) ∧ K (apply σ dst e)
theorem stepW_some {e : Eff} {dst : Option Nat} {K : AS → Prop} : stepW (some e) σ dst K = ((fresh σ dst e = true ∧ e.pre) ∧ K (apply σ dst e)) := rfl
theorem stepW_none {dst : Option Nat} {K : AS → Prop} : stepW none σ dst K = False := rfl
theorem asked_some {ys : List AV} {e : Eff} : asked ys (some e) = some { e with pre := ys.all ug = true ∧ e.pre } := rfl
end Go.Proofs.Ytcgdjdlcecnanaa.Ab
