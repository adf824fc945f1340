/-
  A note there, and back: plain Lean, no program.
  No condition.
-/
import Derived.Test.YtcgdjdlcecnanaaNtG
namespace Go.Proofs.Ytcgdjdlcecnanaa.Ab
open Go Go.RowKit
set_option linter.unusedVariables false
set_option linter.unusedSimpArgs false

theorem textP_text {t r : List UInt8} (h : t.length ≤ 255) : textP (textS t ++ r) = some (t, r) := by
  have h1 := byteI_nat (t.length : Int)
  have h2 : (byteI (t.length : Int)).toNat = t.length := by omega
  rw [textS, List.cons_append, textP, h2, if_neg (by simp)]
  simp
theorem getS_num {n : Int} (h1 : -1073741824 ≤ n) (h2 : n ≤ 1073741824) : getS (numS n) = n := by
  have a0 := byteI_nat (n / 16777216)
  have a1 := byteI_nat (n / 65536)
  have a2 := byteI_nat (n / 256)
  have a3 := byteI_nat n
  have e : (numN (numS n) : Int) = 16777216 * (n / 16777216 % 256) + 65536 * (n / 65536 % 256) + 256 * (n / 256 % 256) + n % 256 := by
    rw [← a0, ← a1, ← a2, ← a3]
    generalize hx0 : byteI (n / 16777216) = x0
    generalize hx1 : byteI (n / 65536) = x1
    generalize hx2 : byteI (n / 256) = x2
    generalize hx3 : byteI n = x3
    have e : numS n = [x0, x1, x2, x3] := by rw [numS, hx0, hx1, hx2, hx3]
    rw [e]
    show ((16777216 * x0.toNat + 65536 * x1.toNat + 256 * x2.toNat + x3.toNat : Nat) : Int) = _
    omega
  unfold getS
  rw [e, IntKind.wrap_i32]
  omega
theorem num_getS {l : List UInt8} (h : l.length = 4) : numS (getS l) = l := by
  match l, h with
  | [a, b, c, d], _ =>
    have ha := a.toNat_lt
    have hb := b.toNat_lt
    have hc := c.toNat_lt
    have hd := d.toNat_lt
    have e : getS [a, b, c, d] = (((16777216 * a.toNat + 65536 * b.toNat + 256 * c.toNat + d.toNat : Nat) : Int) + 2147483648) % 4294967296 - 2147483648 := by
      unfold getS
      rw [IntKind.wrap_i32]
      rfl
    have f : ∀ (x : Int) (y : UInt8), x % 256 = y.toNat → byteI x = y := fun x y hxy => by
      have := byteI_nat x
      exact UInt8.toNat_inj.1 (by omega)
    unfold numS
    rw [e]
    have e' : ((16777216 * a.toNat + 65536 * b.toNat + 256 * c.toNat + d.toNat : Nat) : Int) = 16777216 * (a.toNat : Int) + 65536 * (b.toNat : Int) + 256 * (c.toNat : Int) + (d.toNat : Int) := by omega
    rw [e']
    rw [f _ a (by omega), f _ b (by omega), f _ c (by omega), f _ d (by omega)]
theorem propS_ok {p : LProp} (h : propS p = 0) : p.key.size ≤ 8 ∧ ((p.kind = 2 ∧ p.text.size ≤ 12 ∧ p.n = 0) ∨ ((p.kind = 1 ∨ p.kind = 3) ∧ p.text.size = 0 ∧ -1073741824 ≤ p.n ∧ p.n ≤ 1073741824)) := by
  unfold propS at h
  split at h
  · cases h
  rename_i hk
  have hk8 : p.key.size ≤ 8 := by
    have : keyS p.key = true := by simpa using hk
    unfold keyS at this
    simp at this
    omega
  refine ⟨hk8, ?_⟩
  split at h
  · cases h
  split at h
  · cases h
  split at h
  · cases h
  split at h
  · cases h
  omega
theorem size_len (b : ByteArray) : b.data.toList.length = b.size := rfl
theorem text_nil {b : ByteArray} (h : b.size = 0) : b = ⟨#[]⟩ := bytes_ext (List.eq_nil_of_length_eq_zero h)
theorem propP_prop {p : LProp} {r : List UInt8} (h : propS p = 0) : propP (propB p ++ r) = some (p, r) := by
  obtain ⟨k, kind, n, t⟩ := p
  obtain ⟨h8, hc⟩ := propS_ok h
  simp only at h8 hc
  have hkl : k.data.toList.length ≤ 255 := by rw [size_len]; omega
  rcases hc with ⟨rfl, ht, rfl⟩ | ⟨hk, ht, hn1, hn2⟩
  · have htl : t.data.toList.length ≤ 255 := by rw [size_len]; omega
    have e : propB ⟨k, 2, 0, t⟩ ++ r = textS k.data.toList ++ (byteI 2 :: (textS t.data.toList ++ r)) := by simp [propB]
    rw [e, propP, textP_text hkl]
    simp only
    rw [if_pos (by decide), textP_text htl]
  · have ht0 := text_nil ht
    subst ht0
    have hb := byteI_nat kind
    have hkd : (byteI kind).toNat = kind.toNat := by omega
    have h2 : ¬ kind = 2 := by omega
    have e : propB ⟨k, kind, n, ⟨#[]⟩⟩ ++ r = textS k.data.toList ++ (byteI kind :: (numS n ++ r)) := by simp [propB, h2]
    rw [e, propP, textP_text hkl]
    simp only
    rw [if_neg (by omega), if_neg (by simp [numS])]
    have e1 : (numS n ++ r).take 4 = numS n := rfl
    have e2 : (numS n ++ r).drop 4 = r := rfl
    have e3 : ((byteI kind).toNat : Int) = kind := by omega
    rw [e1, e2, getS_num hn1 hn2, e3]
theorem propsS_all {l : List LProp} (h : propsS l = 0) : ∀ p ∈ l, propS p = 0 := by
  induction l with
  | nil => simp
  | cons q r ih =>
    rw [propsS] at h
    split at h
    · rename_i hq
      intro p hp
      rcases List.mem_cons.1 hp with rfl | hp
      · exact hq
      · exact ih h p hp
    · rename_i hq
      exact absurd h hq
theorem propsP_props {r : List UInt8} : ∀ {l : List LProp}, (∀ p ∈ l, propS p = 0) → propsP l.length (l.flatMap propB ++ r) = some (l, r)
  | [], _ => rfl
  | p :: l, h => by
    rw [List.length_cons, List.flatMap_cons, List.append_assoc, propsP, propP_prop (h p (by simp))]
    simp only
    rw [propsP_props fun q hq => h q (by simp [hq])]
    rfl
theorem wrongS_ok {n : LNote} (h : wrongS n = 0) : n.props.length ≤ 4 ∧ (∀ p ∈ n.props, propS p = 0) ∧ n.body.length ≤ 40 := by
  unfold wrongS at h
  split at h
  · cases h
  · split at h
    · rename_i h1
      exact absurd h h1
    · rename_i h0 h1
      split at h
      · cases h
      · refine ⟨by omega, propsS_all (by simpa using h1), by omega⟩
/-- there, and back -/
theorem parse_bytes {n : LNote} (b : List UInt8) (h : wrongS n = 0) : parseS (bytesN n ++ b) = (n, (bytesN n).length, 0) := by
  obtain ⟨h1, h2, h3⟩ := wrongS_ok h
  have hc := byteI_nat (n.props.length : Int)
  have hc' : (byteI (n.props.length : Int)).toNat = n.props.length := by omega
  have e : bytesN n ++ b = byteI n.props.length :: (n.props.flatMap propB ++ (textS n.body ++ b)) := by simp [bytesN]
  have hlen : (bytesN n ++ b).length = (bytesN n).length + b.length := List.length_append
  rw [e] at hlen ⊢
  rw [parseS, hc', if_neg (by omega), propsP_props h2]
  simp only
  rw [textP_text (by omega)]
  simp only
  rw [if_pos h, hlen, Nat.add_sub_cancel]
theorem propP_back {l r : List UInt8} {p : LProp} (h : propP l = some (p, r)) : l = propB p ++ r := by
  unfold propP at h
  split at h
  · cases h
  · rename_i k q hk
    have h1 := (textP_len hk).2.2
    split at h
    · cases h
    · rename_i kd q
      split at h
      · rename_i h2
        split at h
        · cases h
        · rename_i t q2 ht
          have h3 := (textP_len ht).2.2
          cases h
          have hb : byteI 2 = kd := by
            have := byteI_of kd
            rw [h2] at this
            exact this
          rw [h1, h3]
          simp [propB, textS, hb]
      · rename_i h2
        split at h
        · cases h
        · rename_i h4
          cases h
          have hb := byteI_of kd
          have h2' : ¬ (kd.toNat : Int) = 2 := by omega
          rw [h1]
          simp only [propB, h2', if_false, textS, hb, num_getS (show (q.take 4).length = 4 by rw [List.length_take]; omega)]
          simp
theorem propsP_back : ∀ {k : Nat} {l r : List UInt8} {ps : List LProp}, propsP k l = some (ps, r) → l = ps.flatMap propB ++ r
  | 0, l, r, ps, h => by
    cases h
    simp
  | k + 1, l, r, ps, h => by
    rw [propsP] at h
    split at h
    · cases h
    · rename_i p q hp
      have h1 := propP_back hp
      obtain ⟨⟨ps', r'⟩, hx, he⟩ := Option.map_eq_some_iff.1 h
      cases he
      rw [h1, propsP_back hx]
      simp
/-- what bytes are read as -/
theorem parse_cases (l : List UInt8) : ((parseS l).2.2 ≠ 0 ∧ (parseS l).1 = note0 ∧ (parseS l).2.1 = 0) ∨
    ((parseS l).2.2 = 0 ∧ wrongS (parseS l).1 = 0 ∧ 2 ≤ (parseS l).2.1 ∧ (parseS l).2.1 ≤ l.length ∧ bytesN (parseS l).1 = l.take (parseS l).2.1) := by
  cases l with
  | nil => exact .inl ⟨by decide, rfl, rfl⟩
  | cons c r =>
    rw [parseS]
    split
    · exact .inl ⟨by simp, rfl, rfl⟩
    · split
      · exact .inl ⟨by simp, rfl, rfl⟩
      · rename_i ps q hps
        split
        · exact .inl ⟨by simp, rfl, rfl⟩
        · rename_i b q2 hb
          split
          · rename_i hw
            have h1 := propsP_back hps
            have h2 := textP_len hb
            have h3 := propsP_fits hps
            have hl : c :: r = bytesN ⟨ps, b⟩ ++ q2 := by
              rw [h1, h2.2.2]
              simp only [bytesN, textS, h3.2.1, byteI_of, List.cons_append, List.append_assoc]
            have hn : (c :: r).length - q2.length = (bytesN ⟨ps, b⟩).length := by
              rw [hl, List.length_append, Nat.add_sub_cancel]
            refine .inr ⟨rfl, hw, ?_, ?_, ?_⟩
            · simp only [hn]
              simp [bytesN, textS]
              omega
            · simp only
              omega
            · simp only [hn]
              rw [hl]
              simp
          · rename_i hw
            exact .inl ⟨hw, rfl, rfl⟩
theorem fits_right {n : LNote} (h : wrongS n = 0) : n.Fits := by
  obtain ⟨h1, h2, h3⟩ := wrongS_ok h
  refine ⟨fun p hp => ?_, by omega, by omega⟩
  obtain ⟨q1, q2⟩ := propS_ok (h2 p hp)
  exact ⟨by omega, by omega⟩
theorem fits_zero : note0.Fits := ⟨by simp [note0], by simp [note0], by simp [note0]⟩
theorem fits_parse (l : List UInt8) : (parseS l).1.Fits := by
  rcases parse_cases l with ⟨_, h, _⟩ | ⟨_, h, _⟩
  · rw [h]; exact fits_zero
  · exact fits_right h
theorem propB_len {p : LProp} (h : propS p = 0) : (propB p).length ≤ 23 := by
  obtain ⟨h1, h2⟩ := propS_ok h
  have := size_len p.key
  have := size_len p.text
  simp only [propB, textS, List.length_append, List.length_cons]
  split
  · simp only [List.length_cons]; omega
  · simp only [numS, List.length_cons, List.length_nil]; omega
theorem flat_len : ∀ {l : List LProp}, (∀ p ∈ l, propS p = 0) → (l.flatMap propB).length ≤ 23 * l.length
  | [], _ => by simp
  | p :: l, h => by
    have h1 := propB_len (h p (by simp))
    have h2 := flat_len (l := l) fun q hq => h q (by simp [hq])
    simp only [List.flatMap_cons, List.length_append, List.length_cons]
    omega
theorem bytes_right {n : LNote} (h : wrongS n = 0) : (bytesN n).length ≤ 134 := by
  obtain ⟨h1, h2, h3⟩ := wrongS_ok h
  have h4 := flat_len h2
  simp only [bytesN, textS, List.length_append, List.length_cons]
  omega
end Go.Proofs.Ytcgdjdlcecnanaa.Ab
