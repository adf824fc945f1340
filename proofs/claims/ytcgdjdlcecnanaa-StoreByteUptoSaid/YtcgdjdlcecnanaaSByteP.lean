/-
  Plain laws of chapter 2: a record of which one byte is another one is none.
  No condition.
-/
import Derived.Test.YtcgdjdlcecnanaaSPlain
namespace Go.Proofs.Ytcgdjdlcecnanaa
set_option linter.unusedVariables false
set_option linter.unusedSimpArgs false

theorem sumS_step {s t : Nat} (hs : s < 65521) (ht : t < 65521) (d : Nat) (h : (s * 33 + d + 1) % 65521 = (t * 33 + d + 1) % 65521) : s = t := by omega
theorem fold_inj : ∀ (l : List UInt8) (s t : Nat), s < 65521 → t < 65521 → s ≠ t → l.foldl (fun s c => (s * 33 + c.toNat + 1) % 65521) s ≠ l.foldl (fun s c => (s * 33 + c.toNat + 1) % 65521) t
  | [], s, t, _, _, h => h
  | c :: l, s, t, hs, ht, h => by
    rw [List.foldl_cons, List.foldl_cons]
    exact fold_inj l _ _ (Nat.mod_lt _ (by decide)) (Nat.mod_lt _ (by decide)) fun e => h (sumS_step hs ht c.toNat e)
theorem sumS_other (a b : List UInt8) (x y : UInt8) (h : x ≠ y) : sumS (a ++ x :: b) ≠ sumS (a ++ y :: b) := by
  have hs := sumS_lt a
  unfold sumS at hs ⊢
  rw [List.foldl_append, List.foldl_append, List.foldl_cons, List.foldl_cons]
  generalize a.foldl (fun s c => (s * 33 + c.toNat + 1) % 65521) 7 = s at hs
  refine fold_inj b _ _ (Nat.mod_lt _ (by decide)) (Nat.mod_lt _ (by decide)) fun e => h ?_
  have hx := x.toNat_lt
  have hy := y.toNat_lt
  exact UInt8.toNat_inj.1 (by omega)
/-- records, and what is behind them -/
theorem recsS_flat_app : ∀ (X : List (List UInt8)) (t : List UInt8), (∀ r ∈ X, r.length ≤ 65535) → recsS (flatS X ++ t) = (X ++ (recsS t).1, (flatS X).length + (recsS t).2)
  | [], t, _ => by simp [flatS]
  | r :: X, t, h => by
    rw [flatS_cons, List.append_assoc, recsS_frame r _ (h r (List.mem_cons_self ..)), recsS_flat_app X t fun x hx => h x (List.mem_cons_of_mem _ hx), List.length_append, frameS_len]
    simp only [List.cons_append, Prod.mk.injEq, true_and]
    omega
theorem okS_turned (r t : List UInt8) (h : r.length ≤ 65535) {i : Nat} (hi : i < r.length) (c : UInt8) (hc : r.getD i 0 ≠ c) : okS ((frameS r ++ t).set (2 + i) c) = false := by
  have hs := sumS_lt (byteOf (r.length / 256) :: byteOf r.length :: r)
  generalize hS : sumS (byteOf (r.length / 256) :: byteOf r.length :: r) = s at hs
  have e : (frameS r ++ t).set (2 + i) c = (byteOf (r.length / 256) :: byteOf r.length :: r.set i c) ++ byteOf (s / 256) :: byteOf s :: t := by
    rw [frameS_eq, hS]
    rw [show 2 + i = i + 1 + 1 by omega]
    simp only [List.cons_append, List.set_cons_succ, List.append_assoc, List.nil_append]
    rw [List.set_append_left _ _ hi]
  have hl : (r.set i c).length = r.length := List.length_set
  have hh : headS ((frameS r ++ t).set (2 + i) c) = r.length := by
    rw [e]
    simp only [headS, List.cons_append, List.getD_cons_zero, List.getD_cons_succ, byteOf_toNat]
    omega
  have h1 : ((frameS r ++ t).set (2 + i) c).getD (r.length + 2) 0 = byteOf (s / 256) := by rw [e]; exact getD_mid _ [] _ _ _ (by simp)
  have h2 : ((frameS r ++ t).set (2 + i) c).getD (r.length + 3) 0 = byteOf s := by
    rw [e, show (byteOf (r.length / 256) :: byteOf r.length :: r.set i c) ++ byteOf (s / 256) :: byteOf s :: t = ((byteOf (r.length / 256) :: byteOf r.length :: r.set i c) ++ [byteOf (s / 256)]) ++ byteOf s :: t by simp]
    exact getD_mid _ [] _ _ _ (by simp)
  have h3 : ((frameS r ++ t).set (2 + i) c).take (r.length + 2) = byteOf (r.length / 256) :: byteOf r.length :: r.set i c := by
    rw [e]
    exact List.take_left' (by simp)
  have hne : sumS (byteOf (r.length / 256) :: byteOf r.length :: r.set i c) ≠ s := by
    rw [← hS]
    have e1 : r.set i c = r.take i ++ c :: r.drop (i + 1) := by rw [List.set_eq_take_append_cons_drop, if_pos hi]
    have e2 : r = r.take i ++ r[i] :: r.drop (i + 1) := by rw [← List.drop_eq_getElem_cons hi, List.take_append_drop]
    rw [e1]
    conv => rhs; rw [show byteOf (r.length / 256) :: byteOf r.length :: r = (byteOf (r.length / 256) :: byteOf r.length :: r.take i) ++ r[i] :: r.drop (i + 1) by rw [List.cons_append, List.cons_append, ← e2]]
    have hx : c ≠ r[i] := fun e => hc (by rw [e]; simp [hi])
    exact sumS_other (byteOf (r.length / 256) :: byteOf r.length :: r.take i) (r.drop (i + 1)) c r[i] hx
  have hs2 := sumS_lt (byteOf (r.length / 256) :: byteOf r.length :: r.set i c)
  simp only [okS, hh, h1, h2, h3, byteOf_toNat, Bool.and_eq_false_iff, decide_eq_false_iff_not]
  right
  omega
/-- one byte turned is found -/
theorem byteS {a : List (List UInt8)} (ha : ∀ r ∈ a, r.length ≤ 65535) {k i : Nat} (hk : k < a.length) (hi : i < (a.getD k []).length) {c : UInt8} (hc : (a.getD k []).getD i 0 ≠ c) :
    recsS ((flatS a).set ((flatS (a.take k)).length + 2 + i) c) = (a.take k, (flatS (a.take k)).length) ∧ (flatS (a.take k)).length + 2 + i < (flatS a).length := by
  have hg : a.getD k [] = a[k] := by simp [hk]
  have e : a = a.take k ++ a[k] :: a.drop (k + 1) := by rw [← List.drop_eq_getElem_cons hk, List.take_append_drop]
  have ef : flatS a = flatS (a.take k) ++ (frameS a[k] ++ flatS (a.drop (k + 1))) := by
    conv => lhs; rw [e]
    rw [flatS_app, flatS_cons]
  rw [hg] at hi hc
  have hr : a[k].length ≤ 65535 := ha _ (List.getElem_mem _)
  constructor
  · rw [ef, show (flatS (a.take k)).length + 2 + i = (flatS (a.take k)).length + (2 + i) by omega, List.set_append_right _ _ (by omega), Nat.add_sub_cancel_left,
      recsS_flat_app _ _ fun r hr => ha r (List.mem_of_mem_take hr), recsS_no (okS_turned _ _ hr hi c hc)]
    simp
  · rw [ef, List.length_append, List.length_append, frameS_len]
    omega
end Go.Proofs.Ytcgdjdlcecnanaa
