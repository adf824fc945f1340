/-
  Texts of the proof, one behind the other: RlE RlF RlG.
  No condition but those that each theorem names.
-/
import Derived.Test.YtmlejhpeoiicpaaGreatDoorGU
import Derived.Test.YtmlejhpeoiicpaaGreatDoorGC
import Derived.Test.YtmlejhpeoiicpaaGreatDoorGR
import Derived.Test.YtmlejhpeoiicpaaGreatDoorGG
import Derived.Test.YtmlejhpeoiicpaaGreatDoorGH
namespace Go.Proofs.YtmlejhpeoiicpaaGreatDoor.Ab
open Go Go.RowKit
set_option linter.unusedVariables false
set_option linter.unusedSimpArgs false

def eRwrongF : Ent Tryz.prog D := ⟨18, LAsk × Bool, waE, fun x => x.1.Fits ∧ (x.2 = true → x.1.note = note0), fun x => ⟨.int .i64 (wrongAskS x.1), []⟩, fun x y hx hy h => by
  obtain ⟨a, b⟩ := x
  obtain ⟨a', b'⟩ := y
  have h1 := hx.2
  have h2 := hy.2
  simp only at h1 h2
  cases b <;> cases b' <;> simp only [waE, List.cons.injEq, and_true] at h
  · rw [askA_inj h]
  · simp [askA, nakedA] at h
  · simp [askA, nakedA] at h
  · rw [naked_inj (h1 rfl) (h2 rfl) h], fun x h => by
  obtain ⟨⟨k, q, n, m⟩, b⟩ := x
  obtain ⟨h1, h2⟩ := h
  cases b
  · exact con_refwrongask _ h1
  · have h2 := h2 rfl
    simp only at h1 h2
    subst h2
    exact Con.weak (con_refwrongask _ h1) (by simp [waE, nakedA, note0, askA, covs, cov])⟩
end Go.Proofs.YtmlejhpeoiicpaaGreatDoor.Ab
namespace Go.Proofs.YtmlejhpeoiicpaaGreatDoor.Ab
open Go Go.RowKit
set_option linter.unusedVariables false
set_option linter.unusedSimpArgs false

def eRwrongsF : Ent Tryz.prog D := ⟨21, LSay × Bool, wsE, fun x => x.1.note.Fits ∧ (x.2 = true → x.1.note = note0), fun x => ⟨.int .i64 (wrongSayS x.1), []⟩, fun x y hx hy h => by
  obtain ⟨a, b⟩ := x
  obtain ⟨a', b'⟩ := y
  have h1 := hx.2
  have h2 := hy.2
  simp only at h1 h2
  cases b <;> cases b' <;> simp only [wsE, List.cons.injEq, and_true] at h
  · rw [sayA_inj h]
  · simp [sayA, nakedS] at h
  · simp [sayA, nakedS] at h
  · rw [nakedS_inj (h1 rfl) (h2 rfl) h], fun x h => by
  obtain ⟨⟨k, q, n, e, m⟩, b⟩ := x
  obtain ⟨h1, h2⟩ := h
  cases b
  · exact con_refwrongsay _ h1
  · have h2 := h2 rfl
    simp only at h1 h2
    subst h2
    exact Con.weak (con_refwrongsay _ h1) (by simp [wsE, nakedS, note0, sayA, covs, cov])⟩
end Go.Proofs.YtmlejhpeoiicpaaGreatDoor.Ab
namespace Go.Proofs.YtmlejhpeoiicpaaGreatDoor.Ab
open Go Go.RowKit
set_option linter.unusedVariables false
set_option linter.unusedSimpArgs false

theorem wnok {n : LNote} (h : wrongS n = 0) : WNOk n := by
  obtain ⟨h1, h2, h3⟩ := wrongS_ok h
  refine ⟨by omega, by omega, fun p hp => ?_⟩
  obtain ⟨q1, q2⟩ := propS_ok (h2 p hp)
  have hv : VOk p := by refine ⟨?_, ?_⟩ <;> omega
  refine ⟨hv, ?_⟩
  have a1 := hexS_len p.text.data.toList
  have a2 := Lib.itoa_length_le p.n hv.2.1 hv.2.2
  have a3 : p.text.data.toList.length = p.text.size := rfl
  unfold valueS
  split
  · simp only [List.length_cons]; omega
  · split
    · simp only [List.length_cons]; omega
    · omega
end Go.Proofs.YtmlejhpeoiicpaaGreatDoor.Ab
