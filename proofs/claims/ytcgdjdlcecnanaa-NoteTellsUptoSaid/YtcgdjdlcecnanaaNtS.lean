/-
  A note off bytes, in plain Lean: what the document says, and what the reader makes of it.
  No condition.
-/
import Derived.Test.YtcgdjdlcecnanaaNtD
namespace Go.Proofs.Ytcgdjdlcecnanaa.Ab
open Go Go.RowKit
set_option linter.unusedVariables false
set_option linter.unusedSimpArgs false

def numN (l : List UInt8) : Nat := 16777216 * (l.getD 0 0).toNat + 65536 * (l.getD 1 0).toNat + 256 * (l.getD 2 0).toNat + (l.getD 3 0).toNat
def getS (l : List UInt8) : Int := IntKind.wrap .i32 (numN l : Int)
theorem numN_lt (l : List UInt8) : numN l < 4294967296 := by
  have h0 := (l.getD 0 0).toNat_lt
  have h1 := (l.getD 1 0).toNat_lt
  have h2 := (l.getD 2 0).toNat_lt
  have h3 := (l.getD 3 0).toNat_lt
  unfold numN
  omega
theorem getS_in (l : List UInt8) : -2147483648 ≤ getS l ∧ getS l ≤ 2147483647 := by
  unfold getS
  rw [IntKind.wrap_i32]
  omega
theorem orN (i a b : Nat) (hb : b < 2 ^ i) (ha : 2 ^ i * a + b < 4294967296) : orI .u32 ((2 ^ i * a : Nat) : Int) (b : Int) = ((2 ^ i * a + b : Nat) : Int) := by
  unfold orI
  have e : ∀ n : Nat, BitVec.ofInt 32 (n : Int) = BitVec.ofNat 32 n := fun n => by
    apply BitVec.eq_of_toNat_eq
    simp [BitVec.toNat_ofInt]
  show IntKind.wrap .u32 ((BitVec.ofInt 32 _ ||| BitVec.ofInt 32 _).toNat : Int) = _
  rw [e, e, BitVec.toNat_or, BitVec.toNat_ofNat, BitVec.toNat_ofNat, Nat.mod_eq_of_lt (by omega), Nat.mod_eq_of_lt (by omega), ← Nat.two_pow_add_eq_or_of_lt hb, IntKind.wrap_u32]
  omega
theorem shlN (a k : Nat) (h : a < 256) (hk : k ≤ 24) : shlI .u32 (a : Int) (k : Int) = ((2 ^ k * a : Nat) : Int) := by
  unfold shlI
  have h1 : min ((k : Int)).toNat IntKind.u32.bits = k := by
    show min k 32 = k
    omega
  rw [h1, IntKind.wrap_u32]
  have h2 : 2 ^ k ≤ 2 ^ 24 := Nat.pow_le_pow_right (by decide) hk
  have h3 : 2 ^ k * a ≤ 2 ^ 24 * 255 := Nat.mul_le_mul h2 (by omega)
  have h4 : (a : Int) * 2 ^ k = ((2 ^ k * a : Nat) : Int) := by push_cast; rw [Int.mul_comm]
  rw [h4]
  omega
theorem orGet (l : List UInt8) : orI .u32 (orI .u32 (orI .u32 (shlI .u32 ((l.getD 0 0).toNat : Int) 24) (shlI .u32 ((l.getD 1 0).toNat : Int) 16)) (shlI .u32 ((l.getD 2 0).toNat : Int) 8)) ((l.getD 3 0).toNat : Int) = (numN l : Int) := by
  have h0 := (l.getD 0 0).toNat_lt
  have h1 := (l.getD 1 0).toNat_lt
  have h2 := (l.getD 2 0).toNat_lt
  have h3 := (l.getD 3 0).toNat_lt
  unfold numN
  generalize (l.getD 0 0).toNat = a at *
  generalize (l.getD 1 0).toNat = b at *
  generalize (l.getD 2 0).toNat = c at *
  generalize (l.getD 3 0).toNat = d at *
  have s1 := shlN a 24 h0 (by omega)
  have s2 := shlN b 16 h1 (by omega)
  have s3 := shlN c 8 h2 (by omega)
  have o1 := orN 24 a (2 ^ 16 * b) (by omega) (by omega)
  have e1 : 2 ^ 24 * a + 2 ^ 16 * b = 2 ^ 16 * (256 * a + b) := by omega
  have o2 := orN 16 (256 * a + b) (2 ^ 8 * c) (by omega) (by omega)
  have e2 : 2 ^ 16 * (256 * a + b) + 2 ^ 8 * c = 2 ^ 8 * (65536 * a + 256 * b + c) := by omega
  have o3 := orN 8 (65536 * a + 256 * b + c) d (by omega) (by omega)
  have s1' : shlI .u32 (a : Int) 24 = ((2 ^ 24 * a : Nat) : Int) := s1
  have s2' : shlI .u32 (b : Int) 16 = ((2 ^ 16 * b : Nat) : Int) := s2
  have s3' : shlI .u32 (c : Int) 8 = ((2 ^ 8 * c : Nat) : Int) := s3
  rw [s1', s2', s3', o1, e1, o2, e2, o3]

/-- a text behind its length, and what is behind it -/
def textP : List UInt8 → Option (List UInt8 × List UInt8)
  | [] => none
  | c :: r => if r.length < c.toNat then none else some (r.take c.toNat, r.drop c.toNat)
def propP (l : List UInt8) : Option (LProp × List UInt8) :=
  match textP l with
  | none => none
  | some (k, r) => match r with
    | [] => none
    | kd :: r => if kd.toNat = 2 then (match textP r with
        | none => none
        | some (t, r) => some (⟨⟨⟨k⟩⟩, 2, 0, ⟨⟨t⟩⟩⟩, r))
      else if r.length < 4 then none else some (⟨⟨⟨k⟩⟩, kd.toNat, getS (r.take 4), ⟨#[]⟩⟩, r.drop 4)
def propsP : Nat → List UInt8 → Option (List LProp × List UInt8)
  | 0, l => some ([], l)
  | k + 1, l => match propP l with
    | none => none
    | some (p, r) => (propsP k r).map fun x => (p :: x.1, x.2)
def note0 : LNote := ⟨[], []⟩
/-- the note that bytes begin with, how many they are, an errno's number -/
def parseS (l : List UInt8) : LNote × Nat × Int :=
  match l with
  | [] => (note0, 0, 9)
  | c :: r => if 4 < c.toNat then (note0, 0, 5) else match propsP c.toNat r with
    | none => (note0, 0, 9)
    | some (ps, r) => match textP r with
      | none => (note0, 0, 9)
      | some (b, r) => if wrongS ⟨ps, b⟩ = 0 then (⟨ps, b⟩, l.length - r.length, 0) else (note0, 0, wrongS ⟨ps, b⟩)

theorem takeR_bad (n : Nat) (l : List UInt8) : (takeR n l true).2.2 = true := by simp [takeR]
theorem textR_bad (l : List UInt8) : (textR l true).2.2 = true := by
  unfold textR
  rw [takeR_bad]
  exact takeR_bad _ _
theorem takeR_short {n : Nat} {l : List UInt8} (h : l.length < n) : (takeR n l false).2.2 = true := by simp [takeR, h]
theorem takeR_ok {n : Nat} {l : List UInt8} (h : ¬ l.length < n) : takeR n l false = (l.take n, l.drop n, false) := by simp [takeR, h]
theorem textR_none {l : List UInt8} (h : textP l = none) : (textR l false).2.2 = true := by
  unfold textR
  cases l with
  | nil =>
    rw [takeR_short (n := 1) (l := []) (by simp)]
    exact takeR_bad _ _
  | cons c r =>
    rw [textP] at h
    split at h
    · rename_i hc
      rw [takeR_ok (n := 1) (by simp)]
      exact takeR_short (by simpa using hc)
    · cases h
theorem textR_some {l t r : List UInt8} (h : textP l = some (t, r)) : textR l false = (t, r, false) := by
  unfold textR
  cases l with
  | nil => cases h
  | cons c q =>
    rw [textP] at h
    split at h
    · cases h
    · rename_i hc
      cases h
      rw [takeR_ok (n := 1) (by simp)]
      simp only [List.take_succ_cons, List.take_zero, List.drop_succ_cons, List.drop_zero, List.getD_cons_zero]
      exact takeR_ok hc
def propO (l : List UInt8) (bad : Bool) : Option (LProp × List UInt8) := if bad = true then none else propP l
def propsO (k : Nat) (l : List UInt8) (bad : Bool) : Option (List LProp × List UInt8) := if bad = true then none else propsP k l
theorem propO_text (l : List UInt8) (bad : Bool) (hk : (((takeR 1 (textR l bad).2.1 (textR l bad).2.2).1.getD 0 0).toNat = 2)) :
    propO l bad = if (textR (takeR 1 (textR l bad).2.1 (textR l bad).2.2).2.1 (takeR 1 (textR l bad).2.1 (textR l bad).2.2).2.2).2.2 = true then none else
      some (⟨⟨⟨(textR l bad).1⟩⟩, 2, 0, ⟨⟨(textR (takeR 1 (textR l bad).2.1 (textR l bad).2.2).2.1 (takeR 1 (textR l bad).2.1 (textR l bad).2.2).2.2).1⟩⟩⟩, (textR (takeR 1 (textR l bad).2.1 (textR l bad).2.2).2.1 (takeR 1 (textR l bad).2.1 (textR l bad).2.2).2.2).2.1) := by
  cases bad with
  | true => simp [propO, textR_bad, takeR_bad]
  | false =>
    simp only [propO, Bool.false_eq_true, if_false, propP]
    cases ht : textP l with
    | none =>
      have hb := textR_none ht
      rw [hb, takeR_bad, textR_bad]
      simp
    | some x =>
      obtain ⟨t, r⟩ := x
      rw [textR_some ht] at hk ⊢
      simp only at hk ⊢
      cases r with
      | nil =>
        rw [takeR_short (n := 1) (l := []) (by simp), textR_bad]
        simp
      | cons kd r =>
        rw [takeR_ok (n := 1) (by simp)] at hk ⊢
        simp only [List.take_succ_cons, List.take_zero, List.drop_succ_cons, List.drop_zero, List.getD_cons_zero] at hk ⊢
        rw [if_pos hk]
        cases ht2 : textP r with
        | none => rw [if_pos (textR_none ht2)]
        | some y =>
          obtain ⟨u, q⟩ := y
          rw [textR_some ht2]
          simp
theorem propO_num (l : List UInt8) (bad : Bool) (hk : ¬ (((takeR 1 (textR l bad).2.1 (textR l bad).2.2).1.getD 0 0).toNat = 2)) :
    propO l bad = if (takeR 4 (takeR 1 (textR l bad).2.1 (textR l bad).2.2).2.1 (takeR 1 (textR l bad).2.1 (textR l bad).2.2).2.2).2.2 = true then none else
      some (⟨⟨⟨(textR l bad).1⟩⟩, ((takeR 1 (textR l bad).2.1 (textR l bad).2.2).1.getD 0 0).toNat, getS (takeR 4 (takeR 1 (textR l bad).2.1 (textR l bad).2.2).2.1 (takeR 1 (textR l bad).2.1 (textR l bad).2.2).2.2).1, ⟨#[]⟩⟩, (takeR 4 (takeR 1 (textR l bad).2.1 (textR l bad).2.2).2.1 (takeR 1 (textR l bad).2.1 (textR l bad).2.2).2.2).2.1) := by
  cases bad with
  | true => simp [propO, textR_bad, takeR_bad]
  | false =>
    simp only [propO, Bool.false_eq_true, if_false, propP]
    cases ht : textP l with
    | none =>
      have hb := textR_none ht
      rw [hb, takeR_bad, takeR_bad]
      simp
    | some x =>
      obtain ⟨t, r⟩ := x
      rw [textR_some ht] at hk ⊢
      simp only at hk ⊢
      cases r with
      | nil =>
        rw [takeR_short (n := 1) (l := []) (by simp), takeR_bad]
        simp
      | cons kd r =>
        rw [takeR_ok (n := 1) (by simp)] at hk ⊢
        simp only [List.take_succ_cons, List.take_zero, List.drop_succ_cons, List.drop_zero, List.getD_cons_zero] at hk ⊢
        rw [if_neg hk]
        by_cases h4 : r.length < 4
        · rw [if_pos h4, if_pos (takeR_short h4)]
        · rw [if_neg h4, takeR_ok h4]
          simp
theorem propsO_succ (k : Nat) (l : List UInt8) (bad : Bool) : propsO (k + 1) l bad = match propO l bad with
    | none => none
    | some (p, r) => (propsP k r).map fun x => (p :: x.1, x.2) := by
  unfold propsO propO
  cases bad
  · rfl
  · rfl
theorem propsO_step {k : Nat} {l l' : List UInt8} {bad bad' : Bool} {p : LProp} (h : propO l bad = if bad' = true then none else some (p, l')) : propsO (k + 1) l bad = (propsO k l' bad').map fun x => (p :: x.1, x.2) := by
  rw [propsO_succ, h]
  unfold propsO
  cases bad' <;> rfl
theorem textP_len {l t r : List UInt8} (h : textP l = some (t, r)) : t.length ≤ 255 ∧ r.length < l.length ∧ l = byteI t.length :: (t ++ r) := by
  cases l with
  | nil => cases h
  | cons c q =>
    rw [textP] at h
    split at h
    · cases h
    · rename_i hc
      cases h
      have := c.toNat_lt
      have hl : (q.take c.toNat).length = c.toNat := by rw [List.length_take]; omega
      refine ⟨by rw [hl]; omega, by simp; omega, ?_⟩
      rw [hl, byteI_of, List.take_append_drop]
theorem propP_fits {l r : List UInt8} {p : LProp} (h : propP l = some (p, r)) : p.key.size ≤ 255 ∧ p.text.size ≤ 255 ∧ r.length < l.length := by
  unfold propP at h
  split at h
  · cases h
  · rename_i k q hk
    have h1 := textP_len hk
    split at h
    · cases h
    · rename_i kd q
      split at h
      · split at h
        · cases h
        · rename_i t q2 ht
          have h2 := textP_len ht
          cases h
          refine ⟨h1.1, h2.1, ?_⟩
          have := h1.2.1
          simp only [List.length_cons] at this
          omega
      · split at h
        · cases h
        · cases h
          refine ⟨h1.1, Nat.zero_le _, ?_⟩
          have := h1.2.1
          simp only [List.length_cons, List.length_drop] at this ⊢
          omega
theorem propsP_fits : ∀ {k : Nat} {l r : List UInt8} {ps : List LProp}, propsP k l = some (ps, r) → (∀ p ∈ ps, p.key.size ≤ 255 ∧ p.text.size ≤ 255) ∧ ps.length = k ∧ r.length ≤ l.length
  | 0, l, r, ps, h => by
    cases h
    simp
  | k + 1, l, r, ps, h => by
    rw [propsP] at h
    split at h
    · cases h
    · rename_i p q hp
      have h1 := propP_fits hp
      obtain ⟨⟨ps', r'⟩, hx, he⟩ := Option.map_eq_some_iff.1 h
      cases he
      have h2 := propsP_fits hx
      refine ⟨fun x hx => ?_, by simp [h2.2.1], by simp only; omega⟩
      rcases List.mem_cons.1 hx with rfl | hx
      · exact ⟨h1.1, h1.2.1⟩
      · exact h2.1 x hx
/-- the same, off a reader -/
def parseO (len : Nat) (o : Option (List LProp × List UInt8)) : LNote × Nat × Int :=
  match o with
  | none => (note0, 0, 9)
  | some (ps, r) => match textP r with
    | none => (note0, 0, 9)
    | some (b, r) => if wrongS ⟨ps, b⟩ = 0 then (⟨ps, b⟩, len - r.length, 0) else (note0, 0, wrongS ⟨ps, b⟩)
theorem parseS_eq (l : List UInt8) : parseS l = if 4 < ((takeR 1 l false).1.getD 0 0).toNat then (note0, 0, 5) else parseO l.length (propsO ((takeR 1 l false).1.getD 0 0).toNat (takeR 1 l false).2.1 (takeR 1 l false).2.2) := by
  cases l with
  | nil => rfl
  | cons c r =>
    rw [takeR_ok (n := 1) (by simp)]
    simp only [List.take_succ_cons, List.take_zero, List.drop_succ_cons, List.drop_zero, List.getD_cons_zero, propsO, Bool.false_eq_true, if_false, parseS, parseO]
theorem parseO_end (len : Nat) (ps : List LProp) (l : List UInt8) (bad : Bool) : parseO len ((propsO 0 l bad).map fun x => (ps ++ x.1, x.2)) =
    if (textR l bad).2.2 = true then (note0, 0, 9) else if wrongS ⟨ps, (textR l bad).1⟩ = 0 then (⟨ps, (textR l bad).1⟩, len - (textR l bad).2.1.length, 0) else (note0, 0, wrongS ⟨ps, (textR l bad).1⟩) := by
  cases bad with
  | true => rw [textR_bad, if_pos rfl]; rfl
  | false =>
    simp only [propsO, Bool.false_eq_true, if_false, propsP, Option.map_some, parseO, List.append_nil]
    cases ht : textP l with
    | none => rw [textR_none ht]; rfl
    | some x =>
      obtain ⟨t, r⟩ := x
      rw [textR_some ht]
      simp
end Go.Proofs.Ytcgdjdlcecnanaa.Ab
