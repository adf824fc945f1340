/-
  The data of the program in plain Lean: notes, logs, items, queues, halls; what the document calls Key, Wrong, Bytes, Parse, Sum, Frame, Append, Records, Crash.
  No program is in sight here. No condition.
-/
namespace Go.Proofs.Ytcgdjdlcecnanaa

/-- a property -/
structure LProp where
  key : ByteArray
  kind : Int
  n : Int
  text : ByteArray
  deriving DecidableEq
/-- a note -/
structure LNote where
  props : List LProp
  body : List UInt8
  deriving DecidableEq
/-- a log -/
structure LLog where
  bytes : List UInt8
  sure : Int
  deriving DecidableEq

/-- no text and no list is too long -/
def LProp.Fits (p : LProp) : Prop := p.key.size ≤ 1048576 ∧ p.text.size ≤ 1048576
def LNote.Fits (n : LNote) : Prop := (∀ p ∈ n.props, p.Fits) ∧ n.props.length ≤ 1048576 ∧ n.body.length ≤ 1048576

/-! ## Chapter 1 -/
def lower (c : UInt8) : Bool := 97 ≤ c.toNat && c.toNat ≤ 122
def keyS (s : ByteArray) : Bool := s.data.toList.all lower && decide (1 ≤ s.size) && decide (s.size ≤ 8)
/-- what is wrong with a property: an errno's number -/
def propS (p : LProp) : Int :=
  if keyS p.key = false then 7
  else if p.kind < 1 ∨ 3 < p.kind then 1
  else if (p.kind = 1 ∧ (p.n < -1073741824 ∨ 1073741824 < p.n)) ∨ (p.kind = 3 ∧ (p.n < 0 ∨ 1 < p.n)) then 3
  else if p.kind = 2 ∧ 12 < p.text.size then 4
  else if (p.kind = 2 ∧ p.n ≠ 0) ∨ (p.kind ≠ 2 ∧ 0 < p.text.size) then 2
  else 0
/-- the first error of a list of properties, 0: none -/
def propsS : List LProp → Int
  | [] => 0
  | p :: r => if propS p = 0 then propsS r else propS p
def wrongS (n : LNote) : Int :=
  if 4 < n.props.length then 5
  else if propsS n.props ≠ 0 then propsS n.props
  else if 40 < n.body.length then 4
  else 0

/-! ## Chapter 2 -/
def sumS (l : List UInt8) : Nat := l.foldl (fun s c => (s * 33 + c.toNat + 1) % 65521) 7
theorem sumS_lt (l : List UInt8) : sumS l < 65521 := by
  unfold sumS
  rcases List.eq_nil_or_concat l with rfl | ⟨l', c, rfl⟩
  · simp
  · simp; omega
theorem sumS_snoc (l : List UInt8) (c : UInt8) : sumS (l ++ [c]) = (sumS l * 33 + c.toNat + 1) % 65521 := by simp [sumS]

/-- the numbers 0 to 255 as a byte -/
def byteOf (n : Nat) : UInt8 := UInt8.ofNat n
def frameS (r : List UInt8) : List UInt8 :=
  let h := byteOf (r.length / 256) :: byteOf r.length :: r
  h ++ [byteOf (sumS h / 256), byteOf (sumS h)]
theorem frameS_len (r : List UInt8) : (frameS r).length = r.length + 4 := by simp [frameS]
/-- how long the record's bytes are that stand at the beginning -/
def headS (b : List UInt8) : Nat := 256 * (b.getD 0 0).toNat + (b.getD 1 0).toNat
/-- whether a record stands at the beginning -/
def okS (b : List UInt8) : Bool :=
  decide (4 ≤ b.length) && decide (headS b + 4 ≤ b.length) &&
    decide (sumS (b.take (headS b + 2)) = 256 * (b.getD (headS b + 2) 0).toNat + (b.getD (headS b + 3) 0).toNat)
/-- the records that bytes begin with, and how many bytes they are -/
def recsF : Nat → List UInt8 → List (List UInt8) × Nat
  | 0, _ => ([], 0)
  | f + 1, b => if okS b then (((b.take (headS b + 2)).drop 2) :: (recsF f (b.drop (headS b + 4))).1, headS b + 4 + (recsF f (b.drop (headS b + 4))).2) else ([], 0)
def recsS (b : List UInt8) : List (List UInt8) × Nat := recsF b.length b
theorem recsF_more : ∀ (f g : Nat) (b : List UInt8), b.length ≤ f → b.length ≤ g → recsF f b = recsF g b
  | 0, 0, _, _, _ => rfl
  | 0, g + 1, b, h, _ => by
    have h0 : b = [] := List.eq_nil_of_length_eq_zero (by omega)
    subst h0
    simp [recsF, okS]
  | f + 1, 0, b, _, h => by
    have h0 : b = [] := List.eq_nil_of_length_eq_zero (by omega)
    subst h0
    simp [recsF, okS]
  | f + 1, g + 1, b, h1, h2 => by
    unfold recsF
    by_cases h : okS b = true
    · rw [recsF_more f g (b.drop (headS b + 4)) (by rw [List.length_drop]; omega) (by rw [List.length_drop]; omega)]
    · simp [h]
theorem recsS_no {b : List UInt8} (h : okS b = false) : recsS b = ([], 0) := by
  unfold recsS
  cases b with
  | nil => rfl
  | cons x r => unfold List.length recsF; rw [h]; rfl
theorem okS_len {b : List UInt8} (h : okS b = true) : 4 ≤ b.length ∧ headS b + 4 ≤ b.length := by
  simp only [okS, Bool.and_eq_true, decide_eq_true_eq] at h
  exact h.1
theorem recsS_yes {b : List UInt8} (h : okS b = true) : recsS b = (((b.take (headS b + 2)).drop 2) :: (recsS (b.drop (headS b + 4))).1, headS b + 4 + (recsS (b.drop (headS b + 4))).2) := by
  have h4 := okS_len h
  unfold recsS
  cases b with
  | nil => simp at h4
  | cons x r =>
    rw [show (x :: r).length = r.length + 1 from rfl]
    rw [recsF, if_pos h, recsF_more r.length ((x :: r).drop (headS (x :: r) + 4)).length _ (by rw [List.length_drop, List.length_cons]; omega) (Nat.le_refl _)]
theorem recsS_le : ∀ (n : Nat) (b : List UInt8), b.length ≤ n → (recsS b).2 ≤ b.length ∧ (recsS b).1.length ≤ b.length
  | 0, b, h => by
    have h0 : b = [] := List.eq_nil_of_length_eq_zero (by omega)
    subst h0
    simp [recsS, recsF]
  | n + 1, b, h => by
    cases hk : okS b with
    | false => rw [recsS_no hk]; simp
    | true =>
      have h4 := okS_len hk
      have ih := recsS_le n (b.drop (headS b + 4)) (by rw [List.length_drop]; omega)
      rw [List.length_drop] at ih
      rw [recsS_yes hk]
      simp only [List.length_cons]
      omega
/-- records behind a log: what is so, and an errno's number -/
def appendS (l : LLog) (rs : List (List UInt8)) : LLog × Int :=
  if rs.any (fun r => decide (65535 < r.length)) then (⟨[], 0⟩, 4)
  else if 6000 < (l.bytes ++ (rs.map frameS).flatten).length then (⟨[], 0⟩, 8)
  else (⟨l.bytes ++ (rs.map frameS).flatten, l.sure⟩, 0)
/-- so many bytes of a log are there behind a crash -/
def keptS (l : LLog) (keep : Int) : Nat := (l.sure + min (max keep 0) (l.bytes.length - l.sure)).toNat
def crashS (l : LLog) (keep : Int) : LLog :=
  let k := (recsS (l.bytes.take (keptS l keep))).2
  ⟨l.bytes.take k, k⟩

end Go.Proofs.Ytcgdjdlcecnanaa
