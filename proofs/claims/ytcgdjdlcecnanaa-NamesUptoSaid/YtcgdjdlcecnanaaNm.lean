/-
  The law Names: each constant has its value. No condition.
-/
import Derived.Test.YtcgdjdlcecnanaaStoreB
namespace Go.Proofs.Ytcgdjdlcecnanaa
open Go.RowKit
set_option linter.unusedSimpArgs false
set_option linter.unusedVariables false

def namesL : List Int := [1, 2, 3, 4, 8, 12, 40, 1073741824, 4, 8, 3, 5, 6000, 1, 2, 3, 4, 1, 2, 3, 4, 5, 6, 7, 8, 9, 1, 2, 3, 4, 9, 4, 1, 2, 3, 4, 8, 20, 1, 2, 3, 4, 5, 6, 7, 400, 100]
def errsL : List Int := [0, 1, 2, 3, 4, 5, 6, 7, 8, 9, 10]
theorem lit_ints {w : World} {b : Nat} {xs : List Int} {t : TypeId} (A : Array Value) (h : A = (xs.map fun x => Value.int .i64 x).toArray) (hb : b = w.heap.size) :
    ∀ (k : Nat) (hk : k < xs.length), (w.alloc (.cells A t)).cell? ⟨b, k, none⟩ = some (.int .i64 xs[k]) := by
  intro k hk
  subst h
  subst hb
  simp [hk]

set_option maxRecDepth 20000 in
set_option maxHeartbeats 2000000 in
theorem names_walk (w : World) :
    Calls Try.prog 13 #[] w fun e w' => e = .returned (.bool true) ∧ Below w.heap.size w w' := by
  go_enter Try.func13, Try.ntmps13
  go_wp2_with fail
  go_loopw [10] (fun i wr => ∃ k : Nat, k ≤ 11 ∧ i = .int .i64 k ∧ Below w.heap.size w wr ∧ w.heap.size < wr.heap.size ∧ Hid (∀ (j : Nat) (hj : j < errsL.length), wr.cell? ⟨w.heap.size, j, none⟩ = some (.int .i64 errsL[j]))) (fun i _ => 11 - (intOf i).toNat)
  case atStart => exact ⟨0, by omega, rfl, (by repeat (first | exact Below.refl _ _ | apply below_alloc | apply Below.drew | apply below_drewN)), by simp, Lib.hid (lit_ints _ (by rfl) rfl)⟩
  case round =>
    obtain ⟨k, hk, rfl, hb, hz, HC⟩ := hrel
    by_cases hlt : k < 11
    · have f0 := HC.out k hlt
      have e0 : errsL[k]'hlt = (k : Int) := by
        have : ∀ j : Fin 11, errsL[j.val]'j.isLt = (j.val : Int) := by decide
        exact this ⟨k, hlt⟩
      rw [e0] at f0
      clear e0
      go_wp2_with fail
      go_roundw
      case rel => exact ⟨k + 1, by omega, by go_num, hb, hz, HC⟩
      case measure => simp [intOf]; omega
    · obtain rfl : k = 11 := by omega
      clear HC
      go_wp2_with fail
      go_loopw [23] (fun i wr2 => ∃ k : Nat, k ≤ 47 ∧ i = .int .i64 k ∧ Below w.heap.size w wr2 ∧ Hid (∀ (j : Nat) (hj : j < namesL.length), wr2.cell? ⟨wr.heap.size, j, none⟩ = some (.int .i64 namesL[j])) ∧ Hid (∀ (j : Nat) (hj : j < namesL.length), wr2.cell? ⟨wr.heap.size + 1, j, none⟩ = some (.int .i64 namesL[j]))) (fun i _ => 47 - (intOf i).toNat)
      case atStart => exact ⟨0, by omega, rfl, below_alloc (below_alloc hb _) _, Lib.hid (fun j hj => (World.cell?_alloc_lt _ _ _ (by simp)).trans (lit_ints _ (by rfl) rfl j hj)), Lib.hid (lit_ints _ (by rfl) (by simp))⟩
      case round =>
        obtain ⟨k, hk, rfl, hb2, HC, HC2⟩ := hrel
        by_cases hlt : k < 47
        · have f0 := HC.out k hlt
          have f1 := HC2.out k hlt
          generalize namesL[k]'hlt = x at *
          go_wp2_with fail
          go_quiet (fail)
          go_wp2_with fail
          go_roundw
          case rel => exact ⟨k + 1, by omega, by go_num, below_drewN hb2 _, HC, HC2⟩
          case measure => simp [intOf]; omega
        · obtain rfl : k = 47 := by omega
          go_wp2_with fail
          go_ret
          exact ⟨rfl, hb2⟩
end Go.Proofs.Ytcgdjdlcecnanaa
