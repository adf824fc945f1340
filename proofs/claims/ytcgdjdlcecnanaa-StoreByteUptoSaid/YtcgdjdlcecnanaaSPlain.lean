/-
  Plain laws of chapter 2: records behind one another are read back, whole, in their order; of some first bytes those that are whole.
  No condition.
-/
import Derived.Test.YtcgdjdlcecnanaaData
namespace Go.Proofs.Ytcgdjdlcecnanaa
set_option linter.unusedVariables false
set_option linter.unusedSimpArgs false

def flatS (X : List (List UInt8)) : List UInt8 := (X.map frameS).flatten
theorem flatS_nil : flatS [] = [] := rfl
theorem flatS_cons (r : List UInt8) (X : List (List UInt8)) : flatS (r :: X) = frameS r ++ flatS X := by simp [flatS]
theorem flatS_app (X Y : List (List UInt8)) : flatS (X ++ Y) = flatS X ++ flatS Y := by simp [flatS]

theorem byteOf_toNat (n : Nat) : (byteOf n).toNat = n % 256 := by simp [byteOf]
theorem frameS_eq (r : List UInt8) : frameS r = byteOf (r.length / 256) :: byteOf r.length :: (r ++ [byteOf (sumS (byteOf (r.length / 256) :: byteOf r.length :: r) / 256), byteOf (sumS (byteOf (r.length / 256) :: byteOf r.length :: r))]) := by simp [frameS]
theorem headS_frame (r t : List UInt8) (h : r.length ≤ 65535) : headS (frameS r ++ t) = r.length := by
  rw [frameS_eq]
  simp only [headS, List.cons_append, List.getD_cons_zero, List.getD_cons_succ, byteOf_toNat]
  omega
theorem getD_mid (a b t : List UInt8) (x : UInt8) (n : Nat) (hn : n = a.length) : (a ++ x :: t).getD n 0 = x := by
  subst hn
  simp [List.getD_eq_getElem?_getD]
theorem okS_frame (r t : List UInt8) (h : r.length ≤ 65535) : okS (frameS r ++ t) = true := by
  have hh := headS_frame r t h
  have hs := sumS_lt (byteOf (r.length / 256) :: byteOf r.length :: r)
  have hlen : (frameS r ++ t).length = r.length + 4 + t.length := by rw [List.length_append, frameS_len]
  generalize hS : sumS (byteOf (r.length / 256) :: byteOf r.length :: r) = s at hs
  have e : frameS r ++ t = (byteOf (r.length / 256) :: byteOf r.length :: r) ++ byteOf (s / 256) :: byteOf s :: t := by
    rw [frameS_eq, hS]; simp
  have h1 : (frameS r ++ t).getD (r.length + 2) 0 = byteOf (s / 256) := by rw [e]; exact getD_mid _ [] _ _ _ (by simp)
  have h2 : (frameS r ++ t).getD (r.length + 3) 0 = byteOf s := by
    rw [e, show (byteOf (r.length / 256) :: byteOf r.length :: r) ++ byteOf (s / 256) :: byteOf s :: t = ((byteOf (r.length / 256) :: byteOf r.length :: r) ++ [byteOf (s / 256)]) ++ byteOf s :: t by simp]
    exact getD_mid _ [] _ _ _ (by simp)
  have h3 : (frameS r ++ t).take (r.length + 2) = byteOf (r.length / 256) :: byteOf r.length :: r := by
    rw [e]
    exact List.take_left' (by simp)
  simp only [okS, hh, hlen, h1, h2, h3, hS, byteOf_toNat, Bool.and_eq_true, decide_eq_true_eq]
  omega
theorem recsS_frame (r t : List UInt8) (h : r.length ≤ 65535) : recsS (frameS r ++ t) = (r :: (recsS t).1, r.length + 4 + (recsS t).2) := by
  have e : frameS r ++ t = (byteOf (r.length / 256) :: byteOf r.length :: r) ++ (byteOf (sumS (byteOf (r.length / 256) :: byteOf r.length :: r) / 256) :: byteOf (sumS (byteOf (r.length / 256) :: byteOf r.length :: r)) :: t) := by
    rw [frameS_eq]; simp
  have h1 : ((frameS r ++ t).take (r.length + 2)).drop 2 = r := by
    rw [e, List.take_left' (by simp)]
    rfl
  have h2 : (frameS r ++ t).drop (r.length + 4) = t := List.drop_left' (frameS_len r)
  rw [recsS_yes (okS_frame r t h), headS_frame r t h, h1, h2]
theorem okS_part (r t : List UInt8) (m : Nat) (h : r.length ≤ 65535) (hm : m < r.length + 4) : okS ((frameS r ++ t).take m) = false := by
  cases hk : okS ((frameS r ++ t).take m) with
  | false => rfl
  | true =>
    exfalso
    obtain ⟨h1, h2⟩ := okS_len hk
    rw [List.length_take] at h1 h2
    have : headS ((frameS r ++ t).take m) = headS (frameS r ++ t) := by
      simp only [headS, List.getD_eq_getElem?_getD, List.getElem?_take]
      rw [if_pos (by omega), if_pos (by omega)]
    rw [this, headS_frame r t h] at h2
    omega
theorem recsS_nil : recsS [] = ([], 0) := rfl
/-- records behind one another -/
theorem recsS_flat : ∀ (X : List (List UInt8)), (∀ r ∈ X, r.length ≤ 65535) → recsS (flatS X) = (X, (flatS X).length)
  | [], _ => rfl
  | r :: X, h => by
    rw [flatS_cons, recsS_frame r _ (h r (List.mem_cons_self ..)), recsS_flat X fun x hx => h x (List.mem_cons_of_mem _ hx)]
    simp [frameS_len]
/-- of some first bytes those that are whole -/
theorem recsS_take : ∀ (X : List (List UInt8)) (m : Nat), (∀ r ∈ X, r.length ≤ 65535) → ∃ j, j ≤ X.length ∧ recsS ((flatS X).take m) = (X.take j, (flatS (X.take j)).length) ∧ (flatS (X.take j)).length ≤ m ∧ (j < X.length → m < (flatS (X.take (j + 1))).length)
  | [], m, _ => ⟨0, Nat.le_refl _, by simp [flatS, recsS_nil], by simp [flatS], fun h => by simp at h⟩
  | r :: X, m, h => by
    have hr := h r (List.mem_cons_self ..)
    by_cases hm : m < r.length + 4
    · refine ⟨0, Nat.zero_le _, ?_, by simp [flatS], fun _ => ?_⟩
      · rw [flatS_cons, recsS_no (okS_part r _ m hr hm)]
        simp [flatS]
      · simp only [Nat.zero_add, List.take_succ_cons, List.take_zero, flatS_cons, List.length_append, frameS_len]
        omega
    · obtain ⟨j, h1, h2, h3, h4⟩ := recsS_take X (m - (r.length + 4)) fun x hx => h x (List.mem_cons_of_mem _ hx)
      refine ⟨j + 1, by simp; omega, ?_, ?_, fun hj => ?_⟩
      · rw [flatS_cons, List.take_append, List.take_of_length_le (by rw [frameS_len]; omega), frameS_len, recsS_frame r _ hr, h2, List.take_succ_cons, flatS_cons, List.length_append, frameS_len]
      · rw [List.take_succ_cons, flatS_cons, List.length_append, frameS_len]; omega
      · have := h4 (by simpa using hj)
        rw [List.take_succ_cons, flatS_cons, List.length_append, frameS_len]
        omega
theorem appendS_ok {l : LLog} {rs : List (List UInt8)} (h : (appendS l rs).2 = 0) : (∀ r ∈ rs, r.length ≤ 65535) ∧ (l.bytes ++ flatS rs).length ≤ 6000 ∧ (appendS l rs).1 = ⟨l.bytes ++ flatS rs, l.sure⟩ := by
  unfold appendS at h ⊢
  split at h
  · simp at h
  · rename_i h1
    split at h
    · simp at h
    · rename_i h2
      rw [if_neg h1, if_neg h2]
      refine ⟨fun r hr => ?_, by show (l.bytes ++ (rs.map frameS).flatten).length ≤ 6000; omega, rfl⟩
      have : rs.any (fun r => decide (65535 < r.length)) = false := by simpa using h1
      have := List.any_eq_false.1 this r hr
      simpa using this
theorem flatS_take_le (X : List (List UInt8)) {i j : Nat} (h : i ≤ j) : (flatS (X.take i)).length ≤ (flatS (X.take j)).length := by
  have : X.take i = (X.take j).take i := by rw [List.take_take, Nat.min_eq_left h]
  rw [this]
  conv => rhs; rw [← List.take_append_drop i (X.take j), flatS_app, List.length_append]
  omega
/-- what is safe stays, and nothing is half -/
theorem keepsS {a b : List (List UInt8)} {keep : Int} (ha : (appendS ⟨[], 0⟩ a).2 = 0) {l : LLog} (hl : l = ⟨(appendS ⟨[], 0⟩ a).1.bytes, (appendS ⟨[], 0⟩ a).1.bytes.length⟩) (hb : (appendS l b).2 = 0) :
    ∃ j, a.length ≤ j ∧ j ≤ a.length + b.length ∧ (crashS (appendS l b).1 keep).bytes.length = (crashS (appendS l b).1 keep).sure ∧
      recsS (crashS (appendS l b).1 keep).bytes = ((a ++ b).take j, (crashS (appendS l b).1 keep).bytes.length) ∧
      (keep < (appendS l b).1.bytes.length - (appendS l b).1.sure ∨ j = a.length + b.length) ∧ 0 ≤ (appendS l b).1.sure ∧ (appendS l b).1.sure ≤ (appendS l b).1.bytes.length ∧ (appendS l b).1.bytes.length ≤ 6000 := by
  obtain ⟨a1, a2, a3⟩ := appendS_ok ha
  rw [a3] at hl
  simp only [List.nil_append] at hl a2
  subst hl
  obtain ⟨b1, b2, b3⟩ := appendS_ok hb
  rw [b3]
  simp only at b2 ⊢
  have hX : ∀ r ∈ a ++ b, r.length ≤ 65535 := fun r hr => (List.mem_append.1 hr).elim (a1 r) (b1 r)
  rw [← flatS_app] at b2 ⊢
  obtain ⟨j, j1, j2, j3, j4⟩ := recsS_take (a ++ b) (keptS ⟨flatS (a ++ b), (flatS a).length⟩ keep) hX
  have hla : (flatS (a ++ b)).length = (flatS a).length + (flatS b).length := by rw [flatS_app, List.length_append]
  have hk0 : (flatS a).length ≤ keptS ⟨flatS (a ++ b), (flatS a).length⟩ keep := by simp only [keptS]; omega
  have hja : a.length ≤ j := by
    rcases Nat.lt_or_ge j a.length with hlt | hge
    · exfalso
      have h5 := j4 (by rw [List.length_append]; omega)
      have h6 := flatS_take_le (a ++ b) (show j + 1 ≤ a.length by omega)
      rw [List.take_left] at h6
      omega
    · exact hge
  have htake : (flatS (a ++ b)).take (flatS ((a ++ b).take j)).length = flatS ((a ++ b).take j) := by
    conv => lhs; rw [← List.take_append_drop j (a ++ b)]
    rw [flatS_app]
    simp only [List.take_append_drop]
    exact List.take_left' rfl
  have hc : crashS ⟨flatS (a ++ b), (flatS a).length⟩ keep = ⟨flatS ((a ++ b).take j), (flatS ((a ++ b).take j)).length⟩ := by
    simp only [crashS, j2, htake]
  rw [hc]
  refine ⟨j, hja, by simpa using j1, rfl, ?_, ?_, by omega, by omega, b2⟩
  · exact recsS_flat _ fun r hr => hX r (List.mem_of_mem_take hr)
  · by_cases h : keep < ((flatS (a ++ b)).length : Int) - (flatS a).length
    · exact .inl h
    · right
      rw [List.length_append] at j1 j4
      rcases Nat.lt_or_ge j (a.length + b.length) with hlt | hge
      · exfalso
        have h5 := j4 hlt
        have h6 := flatS_take_le (a ++ b) (show j + 1 ≤ (a ++ b).length by rw [List.length_append]; omega)
        rw [List.take_length] at h6
        have h7 : keptS ⟨flatS (a ++ b), (flatS a).length⟩ keep = (flatS (a ++ b)).length := by simp only [keptS]; omega
        omega
      · omega
end Go.Proofs.Ytcgdjdlcecnanaa
