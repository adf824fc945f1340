/-
  Texts of the proof, one behind the other: LnP LnQ.
  No condition but those that each theorem names.
-/
import Derived.Test.YtmlejhpeoiicpaaGreatDoorGE
import Derived.Lib.SplitLaws
import Derived.Lib.Join
namespace Go.Proofs.YtmlejhpeoiicpaaGreatDoor.Ab
open Go Go.RowKit
set_option linter.unusedVariables false
set_option linter.unusedSimpArgs false

/-! numbers -/
theorem dig_bytes : ∀ u, ∀ b ∈ Lib.decDigits u, 48 ≤ b.toNat ∧ b.toNat ≤ 57 := by
  intro u
  induction u using Nat.strongRecOn with
  | _ u ih =>
    intro b hb
    rw [Lib.decDigits] at hb
    split at hb
    · simp at hb
      subst hb
      simp
      omega
    · rcases List.mem_append.1 hb with hb | hb
      · exact ih (u / 10) (by omega) b hb
      · simp at hb
        subst hb
        simp
        omega
theorem dig_ne (u : Nat) : Lib.decDigits u ≠ [] := by
  rw [Lib.decDigits]
  split <;> simp
theorem parse_snoc : ∀ (l : Wd) (acc v d : Nat), Lib.parseUint10 acc l = .ok v → v < 100000000000000000 → d < 10 → Lib.parseUint10 acc (l ++ [UInt8.ofNat (48 + d)]) = .ok (v * 10 + d)
  | [], acc, v, d, h, hv, hd => by
    simp only [Lib.parseUint10] at h
    injection h with h
    subst h
    have e : (UInt8.ofNat (48 + d)).toNat = 48 + d := by simp; omega
    simp only [List.nil_append, Lib.parseUint10, e]
    rw [if_pos (by omega), if_neg (by omega), if_neg (by omega)]
    congr 1
    omega
  | c :: r, acc, v, d, h, hv, hd => by
    simp only [List.cons_append, Lib.parseUint10] at h ⊢
    split at h
    · rename_i h1
      rw [if_pos h1]
      split at h
      · cases h
      · rename_i h2
        rw [if_neg h2]
        split at h
        · cases h
        · rename_i h3
          rw [if_neg h3]
          exact parse_snoc r _ v d h hv hd
    · cases h
theorem parse_dig : ∀ u, u < 1000000000000000000 → Lib.parseUint10 0 (Lib.decDigits u) = .ok u := by
  intro u
  induction u using Nat.strongRecOn with
  | _ u ih =>
    intro hu
    rw [Lib.decDigits]
    split
    · have := parse_snoc [] 0 0 u rfl (by omega) (by assumption)
      simpa using this
    · rw [parse_snoc _ 0 (u / 10) (u % 10) (ih (u / 10) (by omega) (by omega)) (by omega) (by omega)]
      congr 1
      omega
theorem atoi_itoa {n : Int} (h1 : -1073741824 ≤ n) (h2 : n ≤ 1073741824) : Lib.atoiAll (Lib.itoa n) = .ok n := by
  unfold Lib.itoa
  split
  · have hp := parse_dig n.natAbs (by omega)
    rw [Lib.atoiAll_minus]
    unfold Lib.parseMag
    rw [if_neg (dig_ne _), hp]
    simp only [Lib.signed]
    rw [if_neg (by omega)]
    congr 1
    omega
  · have hp := parse_dig n.toNat (by omega)
    have hb := dig_bytes n.toNat
    have hne := dig_ne n.toNat
    cases hd : Lib.decDigits n.toNat with
    | nil => exact absurd hd hne
    | cons c r =>
      rw [hd] at hp hb
      have hc := hb c (List.mem_cons_self ..)
      rw [Lib.atoiAll_plain c r (by omega) (by omega)]
      unfold Lib.parseMag
      rw [if_neg (by simp), hp]
      simp only [Lib.signless]
      rw [if_neg (by omega)]
      congr 1
      omega
theorem number_itoa {n : Int} (h1 : -1073741824 ≤ n) (h2 : n ≤ 1073741824) : numberS (Lib.itoa n) = (n, true) := by
  unfold numberS atoiS
  rw [atoi_itoa h1 h2]
  simp [h1, h2]
/-- bytes that are seen -/
def Seen (l : Wd) : Prop := ∀ b ∈ l, 32 < b.toNat
theorem seen_app {a b : Wd} (ha : Seen a) (hb : Seen b) : Seen (a ++ b) := fun x hx => (List.mem_append.1 hx).elim (ha x) (hb x)
theorem seen_cons {a : UInt8} {b : Wd} (ha : 32 < a.toNat) (hb : Seen b) : Seen (a :: b) := fun x hx => (List.mem_cons.1 hx).elim (fun h => h ▸ ha) (hb x)
theorem seen_nil : Seen [] := fun x hx => by cases hx
theorem seen_itoa (n : Int) : Seen (Lib.itoa n) := by
  unfold Lib.itoa
  split
  · exact seen_cons (by decide) fun b hb => by have := dig_bytes _ b hb; omega
  · exact fun b hb => by have := dig_bytes _ b hb; omega
theorem itoa_len {n : Int} (h1 : -1073741824 ≤ n) (h2 : n ≤ 1073741824) : (Lib.itoa n).length ≤ 11 := by
  have hd : ∀ u, u < 10000000000 → (Lib.decDigits u).length ≤ 10 := by
    have key : ∀ (k u : Nat), u < 10 ^ (k + 1) → (Lib.decDigits u).length ≤ k + 1 := by
      intro k
      induction k with
      | zero => intro u hu; rw [Lib.decDigits, dif_pos (by simpa using hu)]; simp
      | succ k ih =>
        intro u hu
        rw [Lib.decDigits]
        split
        · simp
        · have := ih (u / 10) (by rw [Nat.pow_succ] at hu; omega)
          simp only [List.length_append, List.length_cons, List.length_nil]
          omega
    intro u hu
    exact key 9 u (by omega)
  unfold Lib.itoa
  split
  · have := hd n.natAbs (by omega)
    simp only [List.length_cons]
    omega
  · have := hd n.toNat (by omega)
    omega
/-! hex -/
theorem hexL_at : ∀ i : Fin 16, 32 < (hexL.getD i.val 0).toNat ∧ hexI (hexL.getD i.val 0) = (i.val : Int) := by decide +kernel
theorem seen_hex (l : Wd) : Seen (hexS l) := fun b hb => by
  obtain ⟨c, _, hc⟩ := List.mem_flatMap.1 hb
  have h := c.toNat_lt
  simp only [hexC, List.mem_cons, List.not_mem_nil, or_false] at hc
  rcases hc with rfl | rfl
  · exact (hexL_at ⟨c.toNat / 16, by omega⟩).1
  · exact (hexL_at ⟨c.toNat % 16, by omega⟩).1
theorem unhex_hex : ∀ l : Wd, unhexS (hexS l) = some l
  | [] => rfl
  | c :: r => by
    have h := c.toNat_lt
    have h1 := (hexL_at ⟨c.toNat / 16, by omega⟩).2
    have h2 := (hexL_at ⟨c.toNat % 16, by omega⟩).2
    have e : hexS (c :: r) = hexL.getD (c.toNat / 16) 0 :: hexL.getD (c.toNat % 16) 0 :: hexS r := rfl
    simp only at h1 h2
    rw [e, unhexS, if_neg (by omega), unhex_hex r]
    simp only [Option.map_some, hexB, h1, h2]
    congr 2
    apply UInt8.toNat_inj.1
    simp
    omega
theorem unhexR_hex (l : Wd) : unhexR (hexS l) = (l, true) := by unfold unhexR; rw [unhex_hex]; rfl
/-! words -/
theorem index_at (c : UInt8) (v : Wd) : ∀ (k : Wd), (∀ b ∈ k, b ≠ c) → Lib.index (k ++ c :: v) [c] = (k.length : Int)
  | [], _ => by simp [Lib.index]
  | b :: k, h => by
    have ih := index_at c v k fun x hx => h x (List.mem_cons_of_mem _ hx)
    have hb := h b (List.mem_cons_self ..)
    have hb' : (c == b) = false := by rw [beq_eq_false_iff_ne]; exact fun e => hb e.symm
    rw [List.cons_append, Lib.index, ih]
    simp only [List.isPrefixOf, hb', Bool.false_and, Bool.false_eq_true, if_false]
    rw [if_neg (by simp)]
    simp
theorem cut_at {c : UInt8} {k v : Wd} (h : ∀ b ∈ k, b ≠ c) : Lib.cut (k ++ c :: v) [c] = (k, v, true) := by
  unfold Lib.cut
  rw [index_at c v k h, if_pos (by omega)]
  simp
theorem split_at {c : UInt8} {k v : Wd} (h : ∀ b ∈ k, b ≠ c) : Lib.split (k ++ c :: v) [c] = k :: Lib.split v [c] := by
  have hk : k.count c = 0 := List.count_eq_zero.2 fun hm => h c hm rfl
  unfold Lib.split
  rw [Lib.count_one, Lib.count_one, List.count_append, List.count_cons_self, hk, Nat.zero_add, Lib.splitK, index_at c v k h, if_neg (by simp)]
  simp
theorem split_one {c : UInt8} {k : Wd} (h : ∀ b ∈ k, b ≠ c) : Lib.split k [c] = [k] := by
  have hk : k.count c = 0 := List.count_eq_zero.2 fun hm => h c hm rfl
  unfold Lib.split
  rw [Lib.count_one, hk]
  rfl
theorem join_two (a b : Wd) (r : List Wd) (s : Wd) : Lib.join (a :: b :: r) s = a ++ (s ++ Lib.join (b :: r) s) := by
  rw [Lib.join_cons, Lib.join_cons]
  simp [Lib.joinTail]
theorem Seen.ne {w : Wd} (h : Seen w) {c : UInt8} (hc : c.toNat ≤ 32) : ∀ b ∈ w, b ≠ c := fun b hb e => by have := h b hb; rw [e] at this; omega
theorem split_join : ∀ (l : List Wd), l ≠ [] → (∀ w ∈ l, Seen w) → Lib.split (Lib.join l [32]) [32] = l
  | [], h, _ => absurd rfl h
  | [w], _, h => by rw [Lib.join_one]; exact split_one ((h w (by simp)).ne (by decide))
  | w :: v :: r, _, h => by
    rw [join_two, List.singleton_append, split_at ((h w (by simp)).ne (by decide)), split_join (v :: r) (by simp) fun x hx => h x (List.mem_cons_of_mem _ hx)]
theorem join_no10 : ∀ (l : List Wd), (∀ w ∈ l, Seen w) → ∀ b ∈ Lib.join l [32], b ≠ 10
  | [], _, b, hb => by rw [Lib.join_nil] at hb; cases hb
  | [w], h, b, hb => by rw [Lib.join_one] at hb; exact (h w (by simp)).ne (by decide) b hb
  | w :: v :: r, h, b, hb => by
    rw [join_two] at hb
    rcases List.mem_append.1 hb with hb | hb
    · exact (h w (by simp)).ne (by decide) b hb
    · rcases List.mem_append.1 hb with hb | hb
      · rw [List.mem_singleton.1 hb]; decide
      · exact join_no10 (v :: r) (fun x hx => h x (List.mem_cons_of_mem _ hx)) b hb
theorem join_le : ∀ (l : List Wd), (Lib.join l [32]).length ≤ (l.map List.length).sum + l.length
  | [] => by simp [Lib.join_nil]
  | [w] => by rw [Lib.join_one]; simp
  | w :: v :: r => by
    have := join_le (v :: r)
    rw [join_two]
    simp only [List.length_append, List.length_cons, List.length_nil, List.map_cons, List.sum_cons] at this ⊢
    omega
theorem line_back {l : List Wd} (hne : l ≠ []) (h : ∀ w ∈ l, Seen w) (hl : (Lib.join l [32]).length < 400) (more : Wd) : lineP (lineB l ++ more) = (l, ((lineB l).length : Int), 0) := by
  have hx : ixB (lineB l ++ more) = ((Lib.join l [32]).length : Int) := by
    unfold ixB lineB
    rw [placeG_hit (d := (0 : UInt8)) (k := (Lib.join l [32]).length) (by simp) (fun j hj => ?_) (by simp)]
    · omega
    · have e : (Lib.join l [32] ++ [10] ++ more).getD j 0 = (Lib.join l [32]).getD j 0 := by rw [List.append_assoc, List.getD_eq_getElem?_getD, List.getElem?_append_left hj, ← List.getD_eq_getElem?_getD]
      rw [e]
      have hm : (Lib.join l [32]).getD j 0 ∈ Lib.join l [32] := by
        have : (Lib.join l [32]).getD j 0 = (Lib.join l [32])[j] := by rw [List.getD_eq_getElem?_getD, List.getElem?_eq_getElem hj]; rfl
        rw [this]; exact List.getElem_mem hj
      have := join_no10 l h _ hm
      simp only [beq_eq_false_iff_ne]
      exact fun e => this e.symm
  unfold lineP
  rw [hx, if_neg (by omega), if_neg (by omega), Int.toNat_natCast]
  have e : (lineB l ++ more).take (Lib.join l [32]).length = Lib.join l [32] := by simp [lineB, List.append_assoc]
  rw [e, split_join l hne h]
  simp [lineB]
end Go.Proofs.YtmlejhpeoiicpaaGreatDoor.Ab
namespace Go.Proofs.YtmlejhpeoiicpaaGreatDoor.Ab
open Go Go.RowKit
set_option linter.unusedVariables false
set_option linter.unusedSimpArgs false

theorem key_seen {k : ByteArray} (h : keyS k = true) : (∀ b ∈ k.data.toList, 97 ≤ b.toNat ∧ b.toNat ≤ 122) ∧ 1 ≤ k.data.toList.length ∧ k.data.toList.length ≤ 8 := by
  unfold keyS at h
  simp only [Bool.and_eq_true, decide_eq_true_eq, List.all_eq_true] at h
  refine ⟨fun b hb => ?_, h.1.2, h.2⟩
  have := h.1.1 b hb
  simpa [lower] using this
theorem prefix_cons (c d : UInt8) (l : Wd) : Lib.hasPrefix (c :: l) [d] = (d == c) := by simp [Lib.hasPrefix, List.isPrefixOf]
theorem trim_cons (c : UInt8) (l : Wd) : Lib.trimPrefix (c :: l) [c] = l := by
  unfold Lib.trimPrefix
  rw [prefix_cons, if_pos (by simp)]
  rfl
theorem itoa_head {n : Int} : ∃ c r, Lib.itoa n = c :: r ∧ 45 ≤ c.toNat := by
  unfold Lib.itoa
  split
  · exact ⟨45, _, rfl, by decide⟩
  · have hb := dig_bytes n.toNat
    cases hd : Lib.decDigits n.toNat with
    | nil => exact absurd hd (dig_ne _)
    | cons c r => rw [hd] at hb; exact ⟨c, r, rfl, by have := hb c (List.mem_cons_self ..); omega⟩
theorem bA_data (b : ByteArray) : bA b.data.toList = b := rfl
theorem prop_back {p : LProp} (h : propS p = 0) : propW p.key.data.toList (valueS p) = (p, true) := by
  obtain ⟨h8, hc⟩ := propS_ok h
  obtain ⟨k, kd, n, t⟩ := p
  simp only at h8 hc
  unfold propW valueS
  rcases hc with ⟨rfl, ht, rfl⟩ | ⟨hk, ht, hn1, hn2⟩
  · simp only [if_true]
    rw [if_pos (by rw [prefix_cons]; decide), trim_cons, unhexR_hex]
    rfl
  · have ht0 := text_nil ht
    subst ht0
    have h2 : ¬ kd = 2 := by omega
    simp only [if_neg h2]
    rcases hk with rfl | rfl
    · simp only [show ¬ ((1 : Int) = 3) by decide, if_false]
      obtain ⟨c, r, hi, hc⟩ := @itoa_head n
      have hnb := number_itoa hn1 hn2
      rw [hi] at hnb ⊢
      rw [if_neg (by rw [prefix_cons]; simp; rintro rfl; exact absurd hc (by decide)), if_neg (by rw [prefix_cons]; simp; rintro rfl; exact absurd hc (by decide)), hnb]
      rfl
    · simp only [if_true]
      rw [if_neg (by rw [prefix_cons]; decide), if_pos (by rw [prefix_cons]; decide), trim_cons, number_itoa hn1 hn2]
      rfl
theorem noteP_back (bs : Wd) : ∀ (l ps : List LProp), (∀ p ∈ l, propS p = 0) → noteP ps (propsW l ++ [35 :: hexS bs]) = (⟨ps ++ l, bs⟩, true)
  | [], ps, _ => by
    simp only [propsW, List.map_nil, List.nil_append, List.append_nil, noteP]
    rw [if_pos (by rw [prefix_cons]; decide), trim_cons, unhexR_hex]
    rfl
  | p :: l, ps, h => by
    have hp := h p (List.mem_cons_self ..)
    have hk : keyS p.key = true := by
      cases hq : keyS p.key
      · unfold propS at hp; rw [hq] at hp; simp at hp
      · rfl
    obtain ⟨hk1, hk2, hk3⟩ := key_seen hk
    have e : propsW (p :: l) ++ [35 :: hexS bs] = (p.key.data.toList ++ [61] ++ valueS p) :: (propsW l ++ [35 :: hexS bs]) := rfl
    have hcut : Lib.cut (p.key.data.toList ++ [61] ++ valueS p) [61] = (p.key.data.toList, valueS p, true) := by
      rw [List.append_assoc]
      exact cut_at fun b hb e => by have := hk1 b hb; rw [e] at this; exact absurd this (by decide)
    have hpre : Lib.hasPrefix (p.key.data.toList ++ [61] ++ valueS p) [35] = false := by
      cases hd : p.key.data.toList with
      | nil => rw [hd] at hk2; simp at hk2
      | cons c r =>
        have := hk1 c (by rw [hd]; exact List.mem_cons_self ..)
        rw [List.cons_append, List.cons_append, prefix_cons, beq_eq_false_iff_ne]
        rintro rfl
        exact absurd this (by decide)
    rw [e, noteP, hpre, hcut]
    simp only [prop_back hp, Bool.false_eq_true, Bool.true_eq_false, if_false]
    rw [noteP_back bs l (ps ++ [p]) fun q hq => h q (List.mem_cons_of_mem _ hq)]
    simp
theorem note_back {n : LNote} (h : wrongS n = 0) : noteP [] (notedS n) = (n, true) := by
  obtain ⟨h1, h2, h3⟩ := wrongS_ok h
  obtain ⟨ps, bs⟩ := n
  exact noteP_back bs ps [] h2
theorem value_seen (p : LProp) : Seen (valueS p) := by
  unfold valueS
  split
  · exact seen_cons (by decide) (seen_hex _)
  · split
    · exact seen_cons (by decide) (seen_itoa _)
    · exact seen_itoa _
theorem value_len {p : LProp} (h : propS p = 0) : (valueS p).length ≤ 25 := by
  obtain ⟨h8, hc⟩ := propS_ok h
  unfold valueS
  rcases hc with ⟨h2, ht, _⟩ | ⟨hk, ht, hn1, hn2⟩
  · rw [if_pos h2]
    have : p.text.data.toList.length ≤ 12 := ht
    simp only [List.length_cons, hexS_len]
    omega
  · rw [if_neg (by omega)]
    have := itoa_len hn1 hn2
    split
    · simp only [List.length_cons]; omega
    · omega
theorem noted_seen {n : LNote} (h : wrongS n = 0) : ∀ w ∈ notedS n, Seen w ∧ w.length ≤ 81 := by
  obtain ⟨h1, h2, h3⟩ := wrongS_ok h
  intro w hw
  rcases List.mem_append.1 hw with hw | hw
  · obtain ⟨p, hp, rfl⟩ := List.mem_map.1 hw
    have hp0 := h2 p hp
    have hk : keyS p.key = true := by
      cases hq : keyS p.key
      · unfold propS at hp0; rw [hq] at hp0; simp at hp0
      · rfl
    obtain ⟨hk1, hk2, hk3⟩ := key_seen hk
    have hv := value_len hp0
    refine ⟨seen_app (seen_app (fun b hb => by have := hk1 b hb; omega) (seen_cons (by decide) seen_nil)) (value_seen p), ?_⟩
    simp only [List.length_append, List.length_cons, List.length_nil]
    omega
  · rw [List.mem_singleton.1 hw]
    refine ⟨seen_cons (by decide) (seen_hex _), ?_⟩
    simp only [List.length_cons, hexS_len]
    omega
theorem noted_len {n : LNote} (h : wrongS n = 0) : (notedS n).length ≤ 5 ∧ ((notedS n).map List.length).sum ≤ 240 := by
  obtain ⟨h1, h2, h3⟩ := wrongS_ok h
  have hs : ∀ l : List LProp, (∀ p ∈ l, propS p = 0) → ((propsW l).map List.length).sum ≤ 34 * l.length := fun l => by
    induction l with
    | nil => intro; simp [propsW]
    | cons p r ih =>
      intro h
      have h1 := ih fun q hq => h q (List.mem_cons_of_mem _ hq)
      have hp0 := h p (List.mem_cons_self ..)
      have hv := value_len hp0
      have hk : p.key.data.toList.length ≤ 8 := (propS_ok hp0).1
      simp only [propsW, List.map_cons, List.sum_cons, List.length_append, List.length_cons, List.length_nil] at h1 ⊢
      omega
  have := hs _ h2
  unfold notedS
  simp only [List.map_append, List.sum_append, List.map_cons, List.map_nil, List.sum_cons, List.sum_nil, List.length_append, List.length_cons, List.length_nil, hexS_len, propsW, List.length_map] at this ⊢
  omega
theorem lwAsk_ok {a : LAsk} (h : wrongAskS a = 0) : (1 ≤ a.kind ∧ a.kind ≤ 9) ∧ (namedS a.kind = true → keyS a.queue = true) ∧ (namedS a.kind = false → a.queue.data.toList = []) ∧ (lowS a.kind ≤ a.n ∧ a.n ≤ highS a.kind) ∧ (a.kind ≠ 4 → a.note = note0) ∧ wrongS a.note = 0 := by
  unfold wrongAskS at h
  by_cases h1 : a.kind < 1 ∨ 9 < a.kind
  · rw [if_pos h1] at h; cases h
  rw [if_neg h1] at h
  by_cases h2 : if namedS a.kind = true then keyS a.queue = false else a.queue.size ≠ 0
  · rw [if_pos h2] at h; cases h
  rw [if_neg h2] at h
  by_cases h3 : a.n < lowS a.kind ∨ highS a.kind < a.n
  · rw [if_pos h3] at h; cases h
  rw [if_neg h3] at h
  by_cases h4 : a.kind ≠ 4 ∧ 0 < a.note.props.length + a.note.body.length
  · rw [if_pos h4] at h; cases h
  rw [if_neg h4] at h
  refine ⟨by omega, fun hn => ?_, fun hn => ?_, by omega, fun hk => note_empty (by omega), h⟩
  · rw [if_pos hn] at h2; simpa using h2
  · rw [if_neg (by simp [hn])] at h2
    have h2 : a.queue.size = 0 := by simpa using h2
    exact List.eq_nil_of_length_eq_zero h2
theorem askW_ok {a : LAsk} (h : wrongAskS a = 0) : (∀ w ∈ askW a, Seen w) ∧ askW a ≠ [] ∧ (Lib.join (askW a) [32]).length < 399 ∧ (askW a).length ≤ 10 := by
  obtain ⟨h1, h2, h3, h4, h5, h6⟩ := lwAsk_ok h
  have hw : ∀ i : Fin 9, (∀ b ∈ wordsL.getD i.val [], 32 < b.toNat) ∧ (wordsL.getD i.val []).length ≤ 5 := by decide +kernel
  obtain ⟨w1, w2⟩ := hw ⟨(a.kind - 1).toNat, by omega⟩
  simp only at w1 w2
  have hq : Seen a.queue.data.toList ∧ a.queue.data.toList.length ≤ 8 := by
    cases hn : namedS a.kind
    · rw [h3 hn]; exact ⟨seen_nil, by simp⟩
    · obtain ⟨q1, q2, q3⟩ := key_seen (h2 hn)
      exact ⟨fun b hb => by have := q1 b hb; omega, q3⟩
  have hn : -1073741824 ≤ a.n ∧ a.n ≤ 1073741824 := by
    unfold lowS highS at h4
    split at h4 <;> split at h4 <;> (try split at h4) <;> omega
  have hil := itoa_len hn.1 hn.2
  have hns := noted_seen h6
  have hnl := noted_len h6
  have hj := join_le (askW a)
  have hsum : ((askW a).map List.length).sum ≤ 280 ∧ (askW a).length ≤ 10 := by
    unfold askW
    split <;> split <;> (try split) <;> simp only [List.map_append, List.map_cons, List.map_nil, List.sum_append, List.sum_cons, List.sum_nil, List.length_append, List.length_cons, List.length_nil] <;> omega
  refine ⟨fun w hw => ?_, by simp [askW], by omega, hsum.2⟩
  · unfold askW at hw
    rcases List.mem_append.1 hw with hw | hw
    · rcases List.mem_append.1 hw with hw | hw
      · rw [List.mem_singleton.1 hw]; exact w1
      · split at hw
        · cases hw
        · rw [List.mem_singleton.1 hw]; exact hq.1
    · split at hw
      · rw [List.mem_singleton.1 hw]; exact seen_itoa _
      · split at hw
        · exact (hns w hw).1
        · cases hw
theorem wordsL_ix : ∀ i : Fin 9, ixW (wordsL.getD i.val []) = (i.val : Int) := by decide +kernel
/-- THERE, AND BACK -/
theorem ask_back {a : LAsk} (h : wrongAskS a = 0) : laskP (askW a) = (a, 0) := by
  obtain ⟨h1, h2, h3, h4, h5, h6⟩ := lwAsk_ok h
  have hix := wordsL_ix ⟨(a.kind - 1).toNat, by omega⟩
  have hk : ixW (wordsL.getD (a.kind - 1).toNat []) + 1 = a.kind := by rw [hix]; simp only; omega
  have hn : -1073741824 ≤ a.n ∧ a.n ≤ 1073741824 := by
    unfold lowS highS at h4
    split at h4 <;> split at h4 <;> (try split at h4) <;> omega
  have hnum := number_itoa hn.1 hn.2
  have hn0 : ¬ isNd a.kind → a.n = 0 := fun hd => by
    unfold isNd at hd
    unfold lowS highS at h4
    split at h4 <;> split at h4 <;> (try split at h4) <;> omega
  have hend : ∀ q : Wd, bA q = a.queue → laskQ a.kind q (if a.kind = 2 ∨ a.kind = 6 ∨ a.kind = 7 ∨ a.kind = 8 then [Lib.itoa a.n] else if a.kind = 4 then notedS a.note else []) = (a, 0) := fun q hq => by
    unfold laskQ
    by_cases hd : isNd a.kind
    · rw [if_pos hd, if_pos (show a.kind = 2 ∨ a.kind = 6 ∨ a.kind = 7 ∨ a.kind = 8 from hd)]
      have hnt : a.note = note0 := h5 (by unfold isNd at hd; omega)
      simp only [laskN, hnum, if_true, hq]
      rw [← hnt, h]
    · have hd' : ¬ (a.kind = 2 ∨ a.kind = 6 ∨ a.kind = 7 ∨ a.kind = 8) := hd
      rw [if_neg hd, if_neg hd']
      by_cases h4' : a.kind = 4
      · rw [if_pos h4', if_pos h4', note_back h6]
        simp only [if_true, hq]
        have e : (⟨a.kind, a.queue, 0, a.note⟩ : LAsk) = a := by rw [← hn0 hd]
        rw [e, h]
      · rw [if_neg h4', if_neg h4', if_pos rfl, hq, ← h5 h4']
        have e : (⟨a.kind, a.queue, 0, a.note⟩ : LAsk) = a := by rw [← hn0 hd]
        rw [e, h]
  by_cases hnm : namedS a.kind = true
  · have hq := (key_seen (h2 hnm)).2.1
    have hqne : a.queue.data.toList ≠ [] := fun e => by rw [e] at hq; simp at hq
    have e : askW a = wordsL.getD (a.kind - 1).toNat [] :: a.queue.data.toList :: (if a.kind = 2 ∨ a.kind = 6 ∨ a.kind = 7 ∨ a.kind = 8 then [Lib.itoa a.n] else if a.kind = 4 then notedS a.note else []) := by
      unfold askW
      rw [if_neg hqne]
      rfl
    have hk3 : a.kind ≠ 1 ∧ a.kind ≠ 7 ∧ a.kind ≠ 8 := by unfold namedS at hnm; simp only [decide_eq_true_eq] at hnm; omega
    rw [e, laskP, hk, if_neg (by omega), if_pos hk3, laskM, hend _ rfl]
  · have hnm : namedS a.kind = false := by simpa using hnm
    have hq := h3 hnm
    have e : askW a = wordsL.getD (a.kind - 1).toNat [] :: (if a.kind = 2 ∨ a.kind = 6 ∨ a.kind = 7 ∨ a.kind = 8 then [Lib.itoa a.n] else if a.kind = 4 then notedS a.note else []) := by
      unfold askW
      rw [if_pos hq]
      rfl
    have hk3 : ¬ (a.kind ≠ 1 ∧ a.kind ≠ 7 ∧ a.kind ≠ 8) := by unfold namedS at hnm; simp only [decide_eq_false_iff_not] at hnm; omega
    rw [e, laskP, hk, if_neg (by omega), if_neg hk3, hend [] (by rw [← bA_data a.queue, hq])]
theorem lineB_len (l : List Wd) : (lineB l).length = (Lib.join l [32]).length + 1 := by simp [lineB]
theorem lask_turn {a : LAsk} (h : wrongAskS a = 0) (more : Wd) : laskR (lineB (askW a) ++ more) = (a, ((lineB (askW a)).length : Int), 0) ∧ (lineB (askW a)).length ≤ 400 := by
  obtain ⟨h1, h2, h3, h4⟩ := askW_ok h
  refine ⟨?_, by rw [lineB_len]; omega⟩
  unfold laskR
  rw [line_back h2 h1 (by omega) more]
  simp only [ask_back h]
  simp
theorem lwSay_ok {s : LSay} (h : wrongSayS s = 0) : (s.kind = 2 ∧ (1 ≤ s.n ∧ s.n ≤ 1073741824) ∧ (0 ≤ s.m ∧ s.m ≤ 3) ∧ s.err = 0 ∧ wrongS s.note = 0) ∨ (s.kind = 4 ∧ s = ⟨4, 0, 0, s.err, note0⟩ ∧ 0 < s.err ∧ s.err ≤ 10) ∨ s = ⟨1, 0, 0, 0, note0⟩ ∨ s = ⟨3, 0, 0, 0, note0⟩ := by
  unfold wrongSayS at h
  by_cases h1 : s.kind < 1 ∨ 4 < s.kind
  · rw [if_pos h1] at h; cases h
  rw [if_neg h1] at h
  by_cases h2 : s.kind = 2
  · rw [if_pos h2] at h
    by_cases h3 : s.n < 1 ∨ 1073741824 < s.n ∨ s.m < 0 ∨ 3 < s.m ∨ s.err ≠ 0
    · rw [if_pos h3] at h; cases h
    rw [if_neg h3] at h
    exact .inl ⟨h2, by omega, by omega, by omega, h⟩
  rw [if_neg h2] at h
  by_cases h3 : s.n ≠ 0 ∨ s.m ≠ 0 ∨ (s.kind = 4 ∧ (s.err ≤ 0 ∨ 10 < s.err)) ∨ (s.kind ≠ 4 ∧ s.err ≠ 0)
  · rw [if_pos h3] at h; cases h
  rw [if_neg h3] at h
  by_cases h4 : 0 < s.note.props.length + s.note.body.length
  · rw [if_pos h4] at h; cases h
  have hn := note_empty (n := s.note) (by omega)
  obtain ⟨k, n, m, e, t⟩ := s
  simp only at h1 h2 h3 hn
  subst hn
  obtain rfl : n = 0 := by omega
  obtain rfl : m = 0 := by omega
  by_cases h5 : k = 4
  · subst h5
    exact .inr (.inl ⟨rfl, rfl, by simp only; omega, by simp only; omega⟩)
  · obtain rfl : e = 0 := by omega
    have : k = 1 ∨ k = 3 := by omega
    rcases this with rfl | rfl
    · exact .inr (.inr (.inl rfl))
    · exact .inr (.inr (.inr rfl))
theorem seenB {l : Wd} (h : l.all (fun b => decide (32 < b.toNat)) = true) : Seen l := fun b hb => by simpa using List.all_eq_true.1 h b hb
theorem sayW_ok {s : LSay} (h : wrongSayS s = 0) : (∀ w ∈ sayW s, Seen w) ∧ sayW s ≠ [] ∧ (Lib.join (sayW s) [32]).length < 399 ∧ (sayW s).length ≤ 10 := by
  have hj := join_le (sayW s)
  rcases lwSay_ok h with ⟨h2, hn, hm, he, hw⟩ | ⟨hk, hs, he1, he2⟩ | hs | hs
  · have hns := noted_seen hw
    have hnl := noted_len hw
    have hil := itoa_len (n := s.n) (by omega) (by omega)
    have him := itoa_len (n := s.m) (by omega) (by omega)
    have e : sayW s = [[43, 105, 116, 101, 109], Lib.itoa s.n, Lib.itoa s.m] ++ notedS s.note := by unfold sayW; rw [if_pos h2]
    rw [e] at hj ⊢
    simp only [List.map_append, List.map_cons, List.map_nil, List.sum_append, List.sum_cons, List.sum_nil, List.length_append, List.length_cons, List.length_nil] at hj
    refine ⟨fun w hw => ?_, by simp, by omega, by simp only [List.length_append, List.length_cons, List.length_nil]; omega⟩
    rcases List.mem_append.1 hw with hw | hw
    · simp only [List.mem_cons, List.not_mem_nil, or_false] at hw
      rcases hw with rfl | rfl | rfl
      · exact seenB (by decide)
      · exact seen_itoa _
      · exact seen_itoa _
    · exact (hns w hw).1
  · have hil := itoa_len (n := s.err) (by omega) (by omega)
    have e : sayW s = [45 :: Lib.itoa s.err] := by unfold sayW; rw [if_neg (by omega), if_neg (by omega), if_pos hk]
    rw [e] at hj ⊢
    simp only [List.map_cons, List.map_nil, List.sum_cons, List.sum_nil, List.length_cons, List.length_nil] at hj
    refine ⟨fun w hw => ?_, by simp, by omega, by simp⟩
    rw [List.mem_singleton.1 hw]
    exact seen_cons (by decide) (seen_itoa _)
  · rw [hs]
    exact ⟨fun w hw => by rw [List.mem_singleton.1 hw]; exact seenB (by decide), by decide, by decide, by decide⟩
  · rw [hs]
    exact ⟨fun w hw => by rw [List.mem_singleton.1 hw]; exact seenB (by decide), by decide, by decide, by decide⟩
theorem notedS_two (n : LNote) : ∃ z t, notedS n = z :: t := by
  unfold notedS propsW
  cases n.props with
  | nil => exact ⟨_, _, rfl⟩
  | cons p r => exact ⟨_, _, rfl⟩
theorem say_back {s : LSay} (h : wrongSayS s = 0) : lsayP (sayW s) = (s, 0) := by
  rcases lwSay_ok h with ⟨h2, hn, hm, he, hw⟩ | ⟨hk, hs, he1, he2⟩ | hs | hs
  · have e : sayW s = [[43, 105, 116, 101, 109], Lib.itoa s.n, Lib.itoa s.m] ++ notedS s.note := by unfold sayW; rw [if_pos h2]
    obtain ⟨z, t, hz⟩ := notedS_two s.note
    have hb := note_back hw
    rw [hz] at hb
    rw [e, hz]
    simp only [List.cons_append, List.nil_append, lsayP]
    rw [if_neg (by decide), if_neg (by decide)]
    simp only [if_true, lsayI, number_itoa (n := s.n) (by omega) (by omega), number_itoa (n := s.m) (by omega) (by omega), hb, Bool.and_self, lsayEnd]
    have es : (⟨2, s.n, s.m, 0, s.note⟩ : LSay) = s := by rw [← h2, ← he]
    rw [es, h]
  · have e : sayW s = [45 :: Lib.itoa s.err] := by unfold sayW; rw [if_neg (by omega), if_neg (by omega), if_pos hk]
    rw [e, lsayP, if_neg (by simp), if_neg (by simp), if_neg (by simp), if_pos (by rw [prefix_cons]; decide), trim_cons, number_itoa (n := s.err) (by omega) (by omega)]
    simp only [List.isEmpty_nil, Bool.and_self, lsayEnd, if_true]
    rw [← hs, h]
  · rw [hs]
    show lsayP [[43, 111, 107]] = _
    rw [lsayP, if_pos rfl]
    rfl
  · rw [hs]
    show lsayP [[43, 110, 111, 110, 101]] = _
    rw [lsayP, if_neg (by decide), if_pos rfl]
    rfl
theorem lsay_turn {s : LSay} (h : wrongSayS s = 0) (more : Wd) : lsayR (lineB (sayW s) ++ more) = (s, ((lineB (sayW s)).length : Int), 0) ∧ (lineB (sayW s)).length ≤ 400 := by
  obtain ⟨h1, h2, h3, h4⟩ := sayW_ok h
  refine ⟨?_, by rw [lineB_len]; omega⟩
  unfold lsayR
  rw [line_back h2 h1 (by omega) more]
  simp only [say_back h]
  simp
/-! what is read is right -/
theorem laskN_right {k : Int} {q : Wd} {r : List Wd} (h : (laskN k q r).2 = 0) : wrongAskS (laskN k q r).1 = 0 := by
  cases r with
  | nil => cases h
  | cons x r =>
    cases r with
    | cons y r => cases h
    | nil =>
      rw [laskN] at h ⊢
      by_cases hb : (numberS x).2 = true
      · rw [if_pos hb] at h ⊢; exact h
      · rw [if_neg hb] at h; cases h
theorem laskQ_right {k : Int} {q : Wd} {r : List Wd} (h : (laskQ k q r).2 = 0) : wrongAskS (laskQ k q r).1 = 0 := by
  unfold laskQ at *
  by_cases h1 : isNd k
  · rw [if_pos h1] at h ⊢; exact laskN_right h
  rw [if_neg h1] at h ⊢
  by_cases h2 : k = 4
  · rw [if_pos h2] at h ⊢
    by_cases h3 : (noteP [] r).2 = true
    · rw [if_pos h3] at h ⊢; exact h
    · rw [if_neg h3] at h; cases h
  rw [if_neg h2] at h ⊢
  by_cases h3 : r = []
  · rw [if_pos h3] at h ⊢; exact h
  · rw [if_neg h3] at h; cases h
theorem laskP_right {l : List Wd} (h : (laskP l).2 = 0) : wrongAskS (laskP l).1 = 0 := by
  cases l with
  | nil => cases h
  | cons w r =>
    rw [laskP] at h ⊢
    by_cases h1 : ixW w + 1 = 0
    · rw [if_pos h1] at h; cases h
    rw [if_neg h1] at h ⊢
    by_cases h2 : ixW w + 1 ≠ 1 ∧ ixW w + 1 ≠ 7 ∧ ixW w + 1 ≠ 8
    · rw [if_pos h2] at h ⊢
      cases r with
      | nil => cases h
      | cons q r => exact laskQ_right h
    · rw [if_neg h2] at h ⊢; exact laskQ_right h
theorem lsayEnd_right {s : LSay} {b : Bool} (h : (lsayEnd s b).2 = 0) : wrongSayS (lsayEnd s b).1 = 0 := by
  cases b
  · cases h
  · exact h
theorem lsayP_right {l : List Wd} (h : (lsayP l).2 = 0) : wrongSayS (lsayP l).1 = 0 := by
  cases l with
  | nil => cases h
  | cons w r =>
    rw [lsayP] at h ⊢
    by_cases h1 : w = [43, 111, 107]
    · rw [if_pos h1] at h ⊢; exact lsayEnd_right h
    rw [if_neg h1] at h ⊢
    by_cases h2 : w = [43, 110, 111, 110, 101]
    · rw [if_pos h2] at h ⊢; exact lsayEnd_right h
    rw [if_neg h2] at h ⊢
    by_cases h3 : w = [43, 105, 116, 101, 109]
    · rw [if_pos h3] at h ⊢
      unfold lsayI at *
      split
      · exact lsayEnd_right h
      · simp at h
    rw [if_neg h3] at h ⊢
    by_cases h4 : Lib.hasPrefix w [45] = true
    · rw [if_pos h4] at h ⊢; exact lsayEnd_right h
    · rw [if_neg h4] at h; cases h
theorem lineP_len {b : Wd} (h : (lineP b).2.2 = 0) : 1 ≤ (lineP b).2.1 ∧ (lineP b).2.1 ≤ b.length ∧ (lineP b).2.1 ≤ 400 := by
  have hr : ixB b = -1 ∨ (0 ≤ ixB b ∧ ixB b < b.length) := placeG_range
  unfold lineP at *
  by_cases h1 : ixB b < 0 ∧ (b.length : Int) < 400
  · rw [if_pos h1] at h; cases h
  rw [if_neg h1] at h ⊢
  by_cases h2 : ixB b < 0 ∨ 400 ≤ ixB b
  · rw [if_pos h2] at h; cases h
  rw [if_neg h2]
  simp only
  omega
theorem lask_right (b : Wd) : ((laskR b).2.2 = 0 ∧ wrongAskS (laskR b).1 = 0 ∧ 1 ≤ (laskR b).2.1 ∧ (laskR b).2.1 ≤ b.length ∧ (laskR b).2.1 ≤ 400) ∨ ((laskR b).2.2 ≠ 0 ∧ (laskR b).2.1 = 0 ∧ (laskR b).1 = lask0) := by
  unfold laskR
  by_cases h1 : (lineP b).2.2 ≠ 0
  · rw [if_pos h1]; exact .inr ⟨h1, rfl, rfl⟩
  rw [if_neg h1]
  by_cases h2 : (laskP (lineP b).1).2 ≠ 0
  · rw [if_pos h2]; exact .inr ⟨h2, rfl, rfl⟩
  rw [if_neg h2]
  exact .inl ⟨rfl, laskP_right (by simpa using h2), lineP_len (by simpa using h1)⟩
theorem lsay_right (b : Wd) : ((lsayR b).2.2 = 0 ∧ wrongSayS (lsayR b).1 = 0 ∧ 1 ≤ (lsayR b).2.1 ∧ (lsayR b).2.1 ≤ b.length ∧ (lsayR b).2.1 ≤ 400) ∨ ((lsayR b).2.2 ≠ 0 ∧ (lsayR b).2.1 = 0 ∧ (lsayR b).1 = lsay0) := by
  unfold lsayR
  by_cases h1 : (lineP b).2.2 ≠ 0
  · rw [if_pos h1]; exact .inr ⟨h1, rfl, rfl⟩
  rw [if_neg h1]
  by_cases h2 : (lsayP (lineP b).1).2 ≠ 0
  · rw [if_pos h2]; exact .inr ⟨h2, rfl, rfl⟩
  rw [if_neg h2]
  exact .inl ⟨rfl, lsayP_right (by simpa using h2), lineP_len (by simpa using h1)⟩
end Go.Proofs.YtmlejhpeoiicpaaGreatDoor.Ab
