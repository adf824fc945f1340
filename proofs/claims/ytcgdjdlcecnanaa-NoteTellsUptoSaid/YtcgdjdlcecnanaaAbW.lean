/-
  From a law's contract in the evaluator to the law's call.
  No condition.
-/
import Derived.Test.YtcgdjdlcecnanaaAbV
namespace Go.Proofs.Ytcgdjdlcecnanaa.Ab
open Go Go.RowKit
set_option linter.unusedVariables false
set_option linter.unusedSimpArgs false

def ρ0 : Env := fun _ => ⟨none, none, 0, 0, 0⟩
theorem law_true {P : Program} {D : Nat → TI} {f : Nat} {args : List AV} {vs : Array Value} {W : World} (h : Con P D f args ⟨.bool true, []⟩) (hr : Rels W (· < W.heap.size) ρ0 args vs.toList) :
    Calls P f vs W fun e W' => e = .returned (.bool true) ∧ Below W.heap.size W W' := by
  refine (h.2 W (· < W.heap.size) ρ0 vs (fun b hb => hb) hr).mono fun e W' ⟨v, he, hf, ρo, _, _, hrel, _⟩ => ?_
  rw [hrel.bool_] at he
  exact ⟨he, hf.os, hf.tape, hf.output, hf.size, fun b hb => hf.block b hb (fun h => h)⟩
theorem rels_nil {w : World} {im : Nat → Prop} {ρ : Env} : Rels w im ρ [] [] := ⟨rfl, fun i x v h => by simp at h⟩
theorem rels_cons {w : World} {im : Nat → Prop} {ρ : Env} {x : AV} {v : Value} {xs : List AV} {vs : List Value} (h : Rel w im ρ x v) (k : Rels w im ρ xs vs) : Rels w im ρ (x :: xs) (v :: vs) := by
  refine ⟨by simp [k.1], fun i y u hy hu => ?_⟩
  cases i with
  | zero => simp at hy hu; subst hy hu; exact h
  | succ i => simp at hy hu; exact k.2 i y u hy hu
end Go.Proofs.Ytcgdjdlcecnanaa.Ab
