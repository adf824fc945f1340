/-
  Texts of the proof, one behind the other: LnE LnF.
  No condition but those that each theorem names.
-/
import Derived.Test.YtmlejhpeoiicpaaGreatDoorGE
import Derived.Test.YtmlejhpeoiicpaaGreatDoorGC
namespace Go.Proofs.YtmlejhpeoiicpaaGreatDoor.Ab
open Go Go.RowKit
set_option linter.unusedVariables false
set_option linter.unusedSimpArgs false

attribute [go_sem] Int.reduceBEq Int.reduceBNe
/-- few words, and short -/
def WsOk (l : List Wd) : Prop := l.length ≤ 1000 ∧ ∀ w ∈ l, w.length ≤ 1000
theorem WsOk.tail {w : Wd} {l : List Wd} (h : WsOk (w :: l)) : WsOk l := ⟨by have := h.1; simp at this; omega, fun x hx => h.2 x (List.mem_cons_of_mem _ hx)⟩
theorem WsOk.head {w : Wd} {l : List Wd} (h : WsOk (w :: l)) : w.length ≤ 1000 := h.2 w (List.mem_cons_self ..)
def PFit (p : LProp) : Prop := p.key.size ≤ 1048576 ∧ p.text.size ≤ 1048576
theorem propW_fit (k s : Wd) (hk : k.length ≤ 1000) (hs : s.length ≤ 1000) : PFit (propW k s).1 := by
  have h1 := unhexR_len (Lib.trimPrefix s [36])
  have h2 := trimPrefix_len s [36]
  unfold propW
  split
  · exact ⟨by show k.length ≤ _; omega, by show (unhexR (Lib.trimPrefix s [36])).1.length ≤ _; omega⟩
  · split
    · exact ⟨by show k.length ≤ _; omega, by show (0 : Nat) ≤ _; omega⟩
    · exact ⟨by show k.length ≤ _; omega, by show (0 : Nat) ≤ _; omega⟩
def waE (x : LAsk × Bool) : List AV := match x.2 with
  | true => [nakedA x.1]
  | false => [askA x.1]
def eWrongF : Ent Tryz.prog D := ⟨74, LAsk × Bool, waE, fun x => x.1.Fits ∧ (x.2 = true → x.1.note = note0), fun x => ⟨.int .i64 (wrongAskS x.1), []⟩, fun x y hx hy h => by
  obtain ⟨a, b⟩ := x
  obtain ⟨a', b'⟩ := y
  have h1 := hx.2
  have h2 := hy.2
  simp only at h1 h2
  cases b <;> cases b' <;> simp only [waE, List.cons.injEq, and_true] at h
  · rw [askA_inj h]
  · simp [askA, nakedA] at h
  · simp [askA, nakedA] at h
  · rw [naked_inj (h1 rfl) (h2 rfl) h], fun x h => by
  obtain ⟨⟨k, q, n, m⟩, b⟩ := x
  obtain ⟨h1, h2⟩ := h
  cases b
  · exact con_wrongask _ h1
  · have h2 := h2 rfl
    simp only at h1 h2
    subst h2
    exact (con_wrongask _ h1).weak (by simp [waE, nakedA, note0, askA, covs, cov])⟩
end Go.Proofs.YtmlejhpeoiicpaaGreatDoor.Ab
namespace Go.Proofs.YtmlejhpeoiicpaaGreatDoor.Ab
open Go Go.RowKit
set_option linter.unusedVariables false
set_option linter.unusedSimpArgs false

theorem splitK_len (sep : Wd) : ∀ (k : Nat) (s : Wd), (Lib.splitK sep 0 k s).length ≤ k + 1
  | 0, s => by simp [Lib.splitK]
  | k + 1, s => by
    rw [Lib.splitK]
    split
    · simp
    · simp only [List.length_cons]
      have := splitK_len sep k (s.drop ((Lib.index s sep).toNat + sep.length))
      omega
theorem splitK_ne (sep : Wd) : ∀ (k : Nat) (s : Wd), Lib.splitK sep 0 k s ≠ []
  | 0, s => by simp [Lib.splitK]
  | k + 1, s => by
    rw [Lib.splitK]
    split <;> simp
theorem splitK_word (sep : Wd) : ∀ (k : Nat) (s : Wd), ∀ w ∈ Lib.splitK sep 0 k s, w.length ≤ s.length
  | 0, s, w, h => by simp [Lib.splitK] at h; rw [h]; exact Nat.le_refl _
  | k + 1, s, w, h => by
    rw [Lib.splitK] at h
    split at h
    · simp at h; rw [h]; exact Nat.le_refl _
    · rcases List.mem_cons.1 h with h | h
      · rw [h, List.length_take]; omega
      · have := splitK_word sep k _ w h
        rw [List.length_drop] at this
        omega
theorem split_ok (s sep : Wd) (h1 : 1 ≤ sep.length) (hs : s.length ≤ 999) : Lib.split s sep ≠ [] ∧ WsOk (Lib.split s sep) := by
  refine ⟨splitK_ne _ _ _, ?_, fun w hw => ?_⟩
  · have := splitK_len sep (Lib.count s sep) s
    have h2 : Lib.count s sep ≤ s.length := Lib.countB_le (bA sep) h1 _ (bA s) (Nat.le_refl _)
    show (Lib.splitK sep 0 (Lib.count s sep) s).length ≤ 1000
    omega
  · have := splitK_word sep _ _ w hw
    omega
def nakedS (s : LSay) : AV := .agg [.int .i64 s.kind, .int .i64 s.n, .int .i64 s.m, .int .i64 s.err, .nils, .nils]
theorem nakedS_inj {a b : LSay} (ha : a.note = note0) (hb : b.note = note0) (h : nakedS a = nakedS b) : a = b := by
  obtain ⟨k, q, n, e, m⟩ := a
  obtain ⟨k', q', n', e', m'⟩ := b
  simp only at ha hb
  subst ha hb
  simp only [nakedS, AV.agg.injEq, List.cons.injEq, AV.int.injEq, true_and, and_true] at h
  obtain ⟨rfl, rfl, rfl, rfl⟩ := h
  rfl
def wsE (x : LSay × Bool) : List AV := match x.2 with
  | true => [nakedS x.1]
  | false => [sayA x.1]
def eFrwrongF : Ent Tryz.prog D := ⟨79, LSay × Bool, wsE, fun x => x.1.note.Fits ∧ (x.2 = true → x.1.note = note0), fun x => ⟨.int .i64 (wrongSayS x.1), []⟩, fun x y hx hy h => by
  obtain ⟨a, b⟩ := x
  obtain ⟨a', b'⟩ := y
  have h1 := hx.2
  have h2 := hy.2
  simp only at h1 h2
  cases b <;> cases b' <;> simp only [wsE, List.cons.injEq, and_true] at h
  · rw [sayA_inj h]
  · simp [sayA, nakedS] at h
  · simp [sayA, nakedS] at h
  · rw [nakedS_inj (h1 rfl) (h2 rfl) h], fun x h => by
  obtain ⟨⟨k, q, n, e, m⟩, b⟩ := x
  obtain ⟨h1, h2⟩ := h
  cases b
  · exact con_frwrong _ h1
  · have h2 := h2 rfl
    simp only at h1 h2
    subst h2
    exact Con.weak (con_frwrong _ h1) (by simp [wsE, nakedS, note0, sayA, covs, cov])⟩
end Go.Proofs.YtmlejhpeoiicpaaGreatDoor.Ab
