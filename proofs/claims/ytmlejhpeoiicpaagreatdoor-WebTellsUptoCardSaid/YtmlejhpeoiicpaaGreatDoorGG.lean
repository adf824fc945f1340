/-
  Texts of the proof, one behind the other: LnP LnQ.
  No condition but those that each theorem names.
-/
import Derived.Test.YtmlejhpeoiicpaaGreatDoorGE
import Derived.Lib.SplitLaws
import Derived.Lib.Join
namespace Go.Proofs.YtmlejhpeoiicpaaGreatDoor.Ab
open Go Go.RowKit
set_option linter.unusedVariables false
set_option linter.unusedSimpArgs false

/-! numbers -/
theorem dig_bytes : ∀ u, ∀ b ∈ Lib.decDigits u, 48 ≤ b.toNat ∧ b.toNat ≤ 57 := by
  intro u
  induction u using Nat.strongRecOn with
  | _ u ih =>
    intro b hb
    rw [Lib.decDigits] at hb
    split at hb
    · simp at hb
      subst hb
      simp
      omega
    · rcases List.mem_append.1 hb with hb | hb
      · exact ih (u / 10) (by omega) b hb
      · simp at hb
        subst hb
        simp
        omega
theorem dig_ne (u : Nat) : Lib.decDigits u ≠ [] := by
  rw [Lib.decDigits]
  split <;> simp
theorem parse_snoc : ∀ (l : Wd) (acc v d : Nat), Lib.parseUint10 acc l = .ok v → v < 100000000000000000 → d < 10 → Lib.parseUint10 acc (l ++ [UInt8.ofNat (48 + d)]) = .ok (v * 10 + d)
  | [], acc, v, d, h, hv, hd => by
    simp only [Lib.parseUint10] at h
    injection h with h
    subst h
    have e : (UInt8.ofNat (48 + d)).toNat = 48 + d := by simp; omega
    simp only [List.nil_append, Lib.parseUint10, e]
    rw [if_pos (by omega), if_neg (by omega), if_neg (by omega)]
    congr 1
    omega
  | c :: r, acc, v, d, h, hv, hd => by
    simp only [List.cons_append, Lib.parseUint10] at h ⊢
    split at h
    · rename_i h1
      rw [if_pos h1]
      split at h
      · cases h
      · rename_i h2
        rw [if_neg h2]
        split at h
        · cases h
        · rename_i h3
          rw [if_neg h3]
          exact parse_snoc r _ v d h hv hd
    · cases h
theorem parse_dig : ∀ u, u < 1000000000000000000 → Lib.parseUint10 0 (Lib.decDigits u) = .ok u := by
  intro u
  induction u using Nat.strongRecOn with
  | _ u ih =>
    intro hu
    rw [Lib.decDigits]
    split
    · have := parse_snoc [] 0 0 u rfl (by omega) (by assumption)
      simpa using this
    · rw [parse_snoc _ 0 (u / 10) (u % 10) (ih (u / 10) (by omega) (by omega)) (by omega) (by omega)]
      congr 1
      omega
theorem atoi_itoa {n : Int} (h1 : -1073741824 ≤ n) (h2 : n ≤ 1073741824) : Lib.atoiAll (Lib.itoa n) = .ok n := by
  unfold Lib.itoa
  split
  · have hp := parse_dig n.natAbs (by omega)
    rw [Lib.atoiAll_minus]
    unfold Lib.parseMag
    rw [if_neg (dig_ne _), hp]
    simp only [Lib.signed]
    rw [if_neg (by omega)]
    congr 1
    omega
  · have hp := parse_dig n.toNat (by omega)
    have hb := dig_bytes n.toNat
    have hne := dig_ne n.toNat
    cases hd : Lib.decDigits n.toNat with
    | nil => exact absurd hd hne
    | cons c r =>
      rw [hd] at hp hb
      have hc := hb c (List.mem_cons_self ..)
      rw [Lib.atoiAll_plain c r (by omega) (by omega)]
      unfold Lib.parseMag
      rw [if_neg (by simp), hp]
      simp only [Lib.signless]
      rw [if_neg (by omega)]
      congr 1
      omega
theorem number_itoa {n : Int} (h1 : -1073741824 ≤ n) (h2 : n ≤ 1073741824) : numberS (Lib.itoa n) = (n, true) := by
  unfold numberS atoiS
  rw [atoi_itoa h1 h2]
  simp [h1, h2]
/-- bytes that are seen -/
def Seen (l : Wd) : Prop := ∀ b ∈ l, 32 < b.toNat
theorem seen_app {a b : Wd} (ha : Seen a) (hb : Seen b) : Seen (a ++ b) := fun x hx => (List.mem_append.1 hx).elim (ha x) (hb x)
theorem seen_cons {a : UInt8} {b : Wd} (ha : 32 < a.toNat) (hb : Seen b) : Seen (a :: b) := fun x hx => (List.mem_cons.1 hx).elim (fun h => h ▸ ha) (hb x)
theorem seen_nil : Seen [] := fun x hx => by cases hx
theorem seen_itoa (n : Int) : Seen (Lib.itoa n) := by
  unfold Lib.itoa
  split
  · exact seen_cons (by decide) fun b hb => by have := dig_bytes _ b hb; omega
  · exact fun b hb => by have := dig_bytes _ b hb; omega
theorem itoa_len {n : Int} (h1 : -1073741824 ≤ n) (h2 : n ≤ 1073741824) : (Lib.itoa n).length ≤ 11 := by
  have hd : ∀ u, u < 10000000000 → (Lib.decDigits u).length ≤ 10 := by
    have key : ∀ (k u : Nat), u < 10 ^ (k + 1) → (Lib.decDigits u).length ≤ k + 1 := by
      intro k
      induction k with
      | zero => intro u hu; rw [Lib.decDigits, dif_pos (by simpa using hu)]; simp
      | succ k ih =>
        intro u hu
        rw [Lib.decDigits]
        split
        · simp
        · have := ih (u / 10) (by rw [Nat.pow_succ] at hu; omega)
          simp only [List.length_append, List.length_cons, List.length_nil]
          omega
    intro u hu
    exact key 9 u (by omega)
  unfold Lib.itoa
  split
  · have := hd n.natAbs (by omega)
    simp only [List.length_cons]
    omega
  · have := hd n.toNat (by omega)
    omega
/-! hex -/
theorem hexL_at : ∀ i : Fin 16, 32 < (hexL.getD i.val 0).toNat ∧ hexI (hexL.getD i.val 0) = (i.val : Int) := by decide +kernel
theorem unhex_hex : ∀ l : Wd, unhexS (hexS l) = some l
  | [] => rfl
  | c :: r => by
    have h := c.toNat_lt
    have h1 := (hexL_at ⟨c.toNat / 16, by omega⟩).2
    have h2 := (hexL_at ⟨c.toNat % 16, by omega⟩).2
    have e : hexS (c :: r) = hexL.getD (c.toNat / 16) 0 :: hexL.getD (c.toNat % 16) 0 :: hexS r := rfl
    simp only at h1 h2
    rw [e, unhexS, if_neg (by omega), unhex_hex r]
    simp only [Option.map_some, hexB, h1, h2]
    congr 2
    apply UInt8.toNat_inj.1
    simp
    omega
theorem unhexR_hex (l : Wd) : unhexR (hexS l) = (l, true) := by unfold unhexR; rw [unhex_hex]; rfl
/-! words -/
theorem join_two (a b : Wd) (r : List Wd) (s : Wd) : Lib.join (a :: b :: r) s = a ++ (s ++ Lib.join (b :: r) s) := by
  rw [Lib.join_cons, Lib.join_cons]
  simp [Lib.joinTail]
theorem Seen.ne {w : Wd} (h : Seen w) {c : UInt8} (hc : c.toNat ≤ 32) : ∀ b ∈ w, b ≠ c := fun b hb e => by have := h b hb; rw [e] at this; omega
end Go.Proofs.YtmlejhpeoiicpaaGreatDoor.Ab
namespace Go.Proofs.YtmlejhpeoiicpaaGreatDoor.Ab
open Go Go.RowKit
set_option linter.unusedVariables false
set_option linter.unusedSimpArgs false

theorem key_seen {k : ByteArray} (h : keyS k = true) : (∀ b ∈ k.data.toList, 97 ≤ b.toNat ∧ b.toNat ≤ 122) ∧ 1 ≤ k.data.toList.length ∧ k.data.toList.length ≤ 8 := by
  unfold keyS at h
  simp only [Bool.and_eq_true, decide_eq_true_eq, List.all_eq_true] at h
  refine ⟨fun b hb => ?_, h.1.2, h.2⟩
  have := h.1.1 b hb
  simpa [lower] using this
theorem prefix_cons (c d : UInt8) (l : Wd) : Lib.hasPrefix (c :: l) [d] = (d == c) := by simp [Lib.hasPrefix, List.isPrefixOf]
theorem trim_cons (c : UInt8) (l : Wd) : Lib.trimPrefix (c :: l) [c] = l := by
  unfold Lib.trimPrefix
  rw [prefix_cons, if_pos (by simp)]
  rfl
theorem itoa_head {n : Int} : ∃ c r, Lib.itoa n = c :: r ∧ 45 ≤ c.toNat := by
  unfold Lib.itoa
  split
  · exact ⟨45, _, rfl, by decide⟩
  · have hb := dig_bytes n.toNat
    cases hd : Lib.decDigits n.toNat with
    | nil => exact absurd hd (dig_ne _)
    | cons c r => rw [hd] at hb; exact ⟨c, r, rfl, by have := hb c (List.mem_cons_self ..); omega⟩
theorem prop_back {p : LProp} (h : propS p = 0) : propW p.key.data.toList (valueS p) = (p, true) := by
  obtain ⟨h8, hc⟩ := propS_ok h
  obtain ⟨k, kd, n, t⟩ := p
  simp only at h8 hc
  unfold propW valueS
  rcases hc with ⟨rfl, ht, rfl⟩ | ⟨hk, ht, hn1, hn2⟩
  · simp only [if_true]
    rw [if_pos (by rw [prefix_cons]; decide), trim_cons, unhexR_hex]
    rfl
  · have ht0 := text_nil ht
    subst ht0
    have h2 : ¬ kd = 2 := by omega
    simp only [if_neg h2]
    rcases hk with rfl | rfl
    · simp only [show ¬ ((1 : Int) = 3) by decide, if_false]
      obtain ⟨c, r, hi, hc⟩ := @itoa_head n
      have hnb := number_itoa hn1 hn2
      rw [hi] at hnb ⊢
      rw [if_neg (by rw [prefix_cons]; simp; rintro rfl; exact absurd hc (by decide)), if_neg (by rw [prefix_cons]; simp; rintro rfl; exact absurd hc (by decide)), hnb]
      rfl
    · simp only [if_true]
      rw [if_neg (by rw [prefix_cons]; decide), if_pos (by rw [prefix_cons]; decide), trim_cons, number_itoa hn1 hn2]
      rfl
theorem value_len {p : LProp} (h : propS p = 0) : (valueS p).length ≤ 25 := by
  obtain ⟨h8, hc⟩ := propS_ok h
  unfold valueS
  rcases hc with ⟨h2, ht, _⟩ | ⟨hk, ht, hn1, hn2⟩
  · rw [if_pos h2]
    have : p.text.data.toList.length ≤ 12 := ht
    simp only [List.length_cons, hexS_len]
    omega
  · rw [if_neg (by omega)]
    have := itoa_len hn1 hn2
    split
    · simp only [List.length_cons]; omega
    · omega
theorem lwAsk_ok {a : LAsk} (h : wrongAskS a = 0) : (1 ≤ a.kind ∧ a.kind ≤ 9) ∧ (namedS a.kind = true → keyS a.queue = true) ∧ (namedS a.kind = false → a.queue.data.toList = []) ∧ (lowS a.kind ≤ a.n ∧ a.n ≤ highS a.kind) ∧ (a.kind ≠ 4 → a.note = note0) ∧ wrongS a.note = 0 := by
  unfold wrongAskS at h
  by_cases h1 : a.kind < 1 ∨ 9 < a.kind
  · rw [if_pos h1] at h; cases h
  rw [if_neg h1] at h
  by_cases h2 : if namedS a.kind = true then keyS a.queue = false else a.queue.size ≠ 0
  · rw [if_pos h2] at h; cases h
  rw [if_neg h2] at h
  by_cases h3 : a.n < lowS a.kind ∨ highS a.kind < a.n
  · rw [if_pos h3] at h; cases h
  rw [if_neg h3] at h
  by_cases h4 : a.kind ≠ 4 ∧ 0 < a.note.props.length + a.note.body.length
  · rw [if_pos h4] at h; cases h
  rw [if_neg h4] at h
  refine ⟨by omega, fun hn => ?_, fun hn => ?_, by omega, fun hk => note_empty (by omega), h⟩
  · rw [if_pos hn] at h2; simpa using h2
  · rw [if_neg (by simp [hn])] at h2
    have h2 : a.queue.size = 0 := by simpa using h2
    exact List.eq_nil_of_length_eq_zero h2
theorem seenB {l : Wd} (h : l.all (fun b => decide (32 < b.toNat)) = true) : Seen l := fun b hb => by simpa using List.all_eq_true.1 h b hb
/-! what is read is right -/
end Go.Proofs.YtmlejhpeoiicpaaGreatDoor.Ab
