/-
  Texts of the proof, one behind the other: LnP LnQ.
  No condition but those that each theorem names.
-/
import Derived.Test.YtmlejhpeoiicpaaGreatDoorGE
import Derived.Lib.SplitLaws
import Derived.Lib.Join
namespace Go.Proofs.YtmlejhpeoiicpaaGreatDoor.Ab
open Go Go.RowKit
set_option linter.unusedVariables false
set_option linter.unusedSimpArgs false

/-! numbers -/
theorem dig_bytes : ∀ u, ∀ b ∈ Lib.decDigits u, 48 ≤ b.toNat ∧ b.toNat ≤ 57 := by
  intro u
  induction u using Nat.strongRecOn with
  | _ u ih =>
    intro b hb
    rw [Lib.decDigits] at hb
    split at hb
    · simp at hb
      subst hb
      simp
      omega
    · rcases List.mem_append.1 hb with hb | hb
      · exact ih (u / 10) (by omega) b hb
      · simp at hb
        subst hb
        simp
        omega
/-- bytes that are seen -/
def Seen (l : Wd) : Prop := ∀ b ∈ l, 32 < b.toNat
theorem seen_app {a b : Wd} (ha : Seen a) (hb : Seen b) : Seen (a ++ b) := fun x hx => (List.mem_append.1 hx).elim (ha x) (hb x)
theorem seen_cons {a : UInt8} {b : Wd} (ha : 32 < a.toNat) (hb : Seen b) : Seen (a :: b) := fun x hx => (List.mem_cons.1 hx).elim (fun h => h ▸ ha) (hb x)
theorem seen_nil : Seen [] := fun x hx => by cases hx
theorem seen_itoa (n : Int) : Seen (Lib.itoa n) := by
  unfold Lib.itoa
  split
  · exact seen_cons (by decide) fun b hb => by have := dig_bytes _ b hb; omega
  · exact fun b hb => by have := dig_bytes _ b hb; omega
theorem itoa_len {n : Int} (h1 : -1073741824 ≤ n) (h2 : n ≤ 1073741824) : (Lib.itoa n).length ≤ 11 := by
  have hd : ∀ u, u < 10000000000 → (Lib.decDigits u).length ≤ 10 := by
    have key : ∀ (k u : Nat), u < 10 ^ (k + 1) → (Lib.decDigits u).length ≤ k + 1 := by
      intro k
      induction k with
      | zero => intro u hu; rw [Lib.decDigits, dif_pos (by simpa using hu)]; simp
      | succ k ih =>
        intro u hu
        rw [Lib.decDigits]
        split
        · simp
        · have := ih (u / 10) (by rw [Nat.pow_succ] at hu; omega)
          simp only [List.length_append, List.length_cons, List.length_nil]
          omega
    intro u hu
    exact key 9 u (by omega)
  unfold Lib.itoa
  split
  · have := hd n.natAbs (by omega)
    simp only [List.length_cons]
    omega
  · have := hd n.toNat (by omega)
    omega
/-! hex -/
theorem hexL_at : ∀ i : Fin 16, 32 < (hexL.getD i.val 0).toNat ∧ hexI (hexL.getD i.val 0) = (i.val : Int) := by decide +kernel
theorem seen_hex (l : Wd) : Seen (hexS l) := fun b hb => by
  obtain ⟨c, _, hc⟩ := List.mem_flatMap.1 hb
  have h := c.toNat_lt
  simp only [hexC, List.mem_cons, List.not_mem_nil, or_false] at hc
  rcases hc with rfl | rfl
  · exact (hexL_at ⟨c.toNat / 16, by omega⟩).1
  · exact (hexL_at ⟨c.toNat % 16, by omega⟩).1
/-! words -/
theorem join_two (a b : Wd) (r : List Wd) (s : Wd) : Lib.join (a :: b :: r) s = a ++ (s ++ Lib.join (b :: r) s) := by
  rw [Lib.join_cons, Lib.join_cons]
  simp [Lib.joinTail]
theorem join_le : ∀ (l : List Wd), (Lib.join l [32]).length ≤ (l.map List.length).sum + l.length
  | [] => by simp [Lib.join_nil]
  | [w] => by rw [Lib.join_one]; simp
  | w :: v :: r => by
    have := join_le (v :: r)
    rw [join_two]
    simp only [List.length_append, List.length_cons, List.length_nil, List.map_cons, List.sum_cons] at this ⊢
    omega
end Go.Proofs.YtmlejhpeoiicpaaGreatDoor.Ab
namespace Go.Proofs.YtmlejhpeoiicpaaGreatDoor.Ab
open Go Go.RowKit
set_option linter.unusedVariables false
set_option linter.unusedSimpArgs false

theorem key_seen {k : ByteArray} (h : keyS k = true) : (∀ b ∈ k.data.toList, 97 ≤ b.toNat ∧ b.toNat ≤ 122) ∧ 1 ≤ k.data.toList.length ∧ k.data.toList.length ≤ 8 := by
  unfold keyS at h
  simp only [Bool.and_eq_true, decide_eq_true_eq, List.all_eq_true] at h
  refine ⟨fun b hb => ?_, h.1.2, h.2⟩
  have := h.1.1 b hb
  simpa [lower] using this
theorem value_seen (p : LProp) : Seen (valueS p) := by
  unfold valueS
  split
  · exact seen_cons (by decide) (seen_hex _)
  · split
    · exact seen_cons (by decide) (seen_itoa _)
    · exact seen_itoa _
theorem value_len {p : LProp} (h : propS p = 0) : (valueS p).length ≤ 25 := by
  obtain ⟨h8, hc⟩ := propS_ok h
  unfold valueS
  rcases hc with ⟨h2, ht, _⟩ | ⟨hk, ht, hn1, hn2⟩
  · rw [if_pos h2]
    have : p.text.data.toList.length ≤ 12 := ht
    simp only [List.length_cons, hexS_len]
    omega
  · rw [if_neg (by omega)]
    have := itoa_len hn1 hn2
    split
    · simp only [List.length_cons]; omega
    · omega
theorem noted_seen {n : LNote} (h : wrongS n = 0) : ∀ w ∈ notedS n, Seen w ∧ w.length ≤ 81 := by
  obtain ⟨h1, h2, h3⟩ := wrongS_ok h
  intro w hw
  rcases List.mem_append.1 hw with hw | hw
  · obtain ⟨p, hp, rfl⟩ := List.mem_map.1 hw
    have hp0 := h2 p hp
    have hk : keyS p.key = true := by
      cases hq : keyS p.key
      · unfold propS at hp0; rw [hq] at hp0; simp at hp0
      · rfl
    obtain ⟨hk1, hk2, hk3⟩ := key_seen hk
    have hv := value_len hp0
    refine ⟨seen_app (seen_app (fun b hb => by have := hk1 b hb; omega) (seen_cons (by decide) seen_nil)) (value_seen p), ?_⟩
    simp only [List.length_append, List.length_cons, List.length_nil]
    omega
  · rw [List.mem_singleton.1 hw]
    refine ⟨seen_cons (by decide) (seen_hex _), ?_⟩
    simp only [List.length_cons, hexS_len]
    omega
theorem noted_len {n : LNote} (h : wrongS n = 0) : (notedS n).length ≤ 5 ∧ ((notedS n).map List.length).sum ≤ 240 := by
  obtain ⟨h1, h2, h3⟩ := wrongS_ok h
  have hs : ∀ l : List LProp, (∀ p ∈ l, propS p = 0) → ((propsW l).map List.length).sum ≤ 34 * l.length := fun l => by
    induction l with
    | nil => intro; simp [propsW]
    | cons p r ih =>
      intro h
      have h1 := ih fun q hq => h q (List.mem_cons_of_mem _ hq)
      have hp0 := h p (List.mem_cons_self ..)
      have hv := value_len hp0
      have hk : p.key.data.toList.length ≤ 8 := (propS_ok hp0).1
      simp only [propsW, List.map_cons, List.sum_cons, List.length_append, List.length_cons, List.length_nil] at h1 ⊢
      omega
  have := hs _ h2
  unfold notedS
  simp only [List.map_append, List.sum_append, List.map_cons, List.map_nil, List.sum_cons, List.sum_nil, List.length_append, List.length_cons, List.length_nil, hexS_len, propsW, List.length_map] at this ⊢
  omega
theorem lwAsk_ok {a : LAsk} (h : wrongAskS a = 0) : (1 ≤ a.kind ∧ a.kind ≤ 9) ∧ (namedS a.kind = true → keyS a.queue = true) ∧ (namedS a.kind = false → a.queue.data.toList = []) ∧ (lowS a.kind ≤ a.n ∧ a.n ≤ highS a.kind) ∧ (a.kind ≠ 4 → a.note = note0) ∧ wrongS a.note = 0 := by
  unfold wrongAskS at h
  by_cases h1 : a.kind < 1 ∨ 9 < a.kind
  · rw [if_pos h1] at h; cases h
  rw [if_neg h1] at h
  by_cases h2 : if namedS a.kind = true then keyS a.queue = false else a.queue.size ≠ 0
  · rw [if_pos h2] at h; cases h
  rw [if_neg h2] at h
  by_cases h3 : a.n < lowS a.kind ∨ highS a.kind < a.n
  · rw [if_pos h3] at h; cases h
  rw [if_neg h3] at h
  by_cases h4 : a.kind ≠ 4 ∧ 0 < a.note.props.length + a.note.body.length
  · rw [if_pos h4] at h; cases h
  rw [if_neg h4] at h
  refine ⟨by omega, fun hn => ?_, fun hn => ?_, by omega, fun hk => note_empty (by omega), h⟩
  · rw [if_pos hn] at h2; simpa using h2
  · rw [if_neg (by simp [hn])] at h2
    have h2 : a.queue.size = 0 := by simpa using h2
    exact List.eq_nil_of_length_eq_zero h2
theorem askW_ok {a : LAsk} (h : wrongAskS a = 0) : (∀ w ∈ askW a, Seen w) ∧ askW a ≠ [] ∧ (Lib.join (askW a) [32]).length < 399 ∧ (askW a).length ≤ 10 := by
  obtain ⟨h1, h2, h3, h4, h5, h6⟩ := lwAsk_ok h
  have hw : ∀ i : Fin 9, (∀ b ∈ wordsL.getD i.val [], 32 < b.toNat) ∧ (wordsL.getD i.val []).length ≤ 5 := by decide +kernel
  obtain ⟨w1, w2⟩ := hw ⟨(a.kind - 1).toNat, by omega⟩
  simp only at w1 w2
  have hq : Seen a.queue.data.toList ∧ a.queue.data.toList.length ≤ 8 := by
    cases hn : namedS a.kind
    · rw [h3 hn]; exact ⟨seen_nil, by simp⟩
    · obtain ⟨q1, q2, q3⟩ := key_seen (h2 hn)
      exact ⟨fun b hb => by have := q1 b hb; omega, q3⟩
  have hn : -1073741824 ≤ a.n ∧ a.n ≤ 1073741824 := by
    unfold lowS highS at h4
    split at h4 <;> split at h4 <;> (try split at h4) <;> omega
  have hil := itoa_len hn.1 hn.2
  have hns := noted_seen h6
  have hnl := noted_len h6
  have hj := join_le (askW a)
  have hsum : ((askW a).map List.length).sum ≤ 280 ∧ (askW a).length ≤ 10 := by
    unfold askW
    split <;> split <;> (try split) <;> simp only [List.map_append, List.map_cons, List.map_nil, List.sum_append, List.sum_cons, List.sum_nil, List.length_append, List.length_cons, List.length_nil] <;> omega
  refine ⟨fun w hw => ?_, by simp [askW], by omega, hsum.2⟩
  · unfold askW at hw
    rcases List.mem_append.1 hw with hw | hw
    · rcases List.mem_append.1 hw with hw | hw
      · rw [List.mem_singleton.1 hw]; exact w1
      · split at hw
        · cases hw
        · rw [List.mem_singleton.1 hw]; exact hq.1
    · split at hw
      · rw [List.mem_singleton.1 hw]; exact seen_itoa _
      · split at hw
        · exact (hns w hw).1
        · cases hw
theorem wordsL_ix : ∀ i : Fin 9, ixW (wordsL.getD i.val []) = (i.val : Int) := by decide +kernel
theorem lwSay_ok {s : LSay} (h : wrongSayS s = 0) : (s.kind = 2 ∧ (1 ≤ s.n ∧ s.n ≤ 1073741824) ∧ (0 ≤ s.m ∧ s.m ≤ 3) ∧ s.err = 0 ∧ wrongS s.note = 0) ∨ (s.kind = 4 ∧ s = ⟨4, 0, 0, s.err, note0⟩ ∧ 0 < s.err ∧ s.err ≤ 10) ∨ s = ⟨1, 0, 0, 0, note0⟩ ∨ s = ⟨3, 0, 0, 0, note0⟩ := by
  unfold wrongSayS at h
  by_cases h1 : s.kind < 1 ∨ 4 < s.kind
  · rw [if_pos h1] at h; cases h
  rw [if_neg h1] at h
  by_cases h2 : s.kind = 2
  · rw [if_pos h2] at h
    by_cases h3 : s.n < 1 ∨ 1073741824 < s.n ∨ s.m < 0 ∨ 3 < s.m ∨ s.err ≠ 0
    · rw [if_pos h3] at h; cases h
    rw [if_neg h3] at h
    exact .inl ⟨h2, by omega, by omega, by omega, h⟩
  rw [if_neg h2] at h
  by_cases h3 : s.n ≠ 0 ∨ s.m ≠ 0 ∨ (s.kind = 4 ∧ (s.err ≤ 0 ∨ 10 < s.err)) ∨ (s.kind ≠ 4 ∧ s.err ≠ 0)
  · rw [if_pos h3] at h; cases h
  rw [if_neg h3] at h
  by_cases h4 : 0 < s.note.props.length + s.note.body.length
  · rw [if_pos h4] at h; cases h
  have hn := note_empty (n := s.note) (by omega)
  obtain ⟨k, n, m, e, t⟩ := s
  simp only at h1 h2 h3 hn
  subst hn
  obtain rfl : n = 0 := by omega
  obtain rfl : m = 0 := by omega
  by_cases h5 : k = 4
  · subst h5
    exact .inr (.inl ⟨rfl, rfl, by simp only; omega, by simp only; omega⟩)
  · obtain rfl : e = 0 := by omega
    have : k = 1 ∨ k = 3 := by omega
    rcases this with rfl | rfl
    · exact .inr (.inr (.inl rfl))
    · exact .inr (.inr (.inr rfl))
theorem seenB {l : Wd} (h : l.all (fun b => decide (32 < b.toNat)) = true) : Seen l := fun b hb => by simpa using List.all_eq_true.1 h b hb
theorem sayW_ok {s : LSay} (h : wrongSayS s = 0) : (∀ w ∈ sayW s, Seen w) ∧ sayW s ≠ [] ∧ (Lib.join (sayW s) [32]).length < 399 ∧ (sayW s).length ≤ 10 := by
  have hj := join_le (sayW s)
  rcases lwSay_ok h with ⟨h2, hn, hm, he, hw⟩ | ⟨hk, hs, he1, he2⟩ | hs | hs
  · have hns := noted_seen hw
    have hnl := noted_len hw
    have hil := itoa_len (n := s.n) (by omega) (by omega)
    have him := itoa_len (n := s.m) (by omega) (by omega)
    have e : sayW s = [[43, 105, 116, 101, 109], Lib.itoa s.n, Lib.itoa s.m] ++ notedS s.note := by unfold sayW; rw [if_pos h2]
    rw [e] at hj ⊢
    simp only [List.map_append, List.map_cons, List.map_nil, List.sum_append, List.sum_cons, List.sum_nil, List.length_append, List.length_cons, List.length_nil] at hj
    refine ⟨fun w hw => ?_, by simp, by omega, by simp only [List.length_append, List.length_cons, List.length_nil]; omega⟩
    rcases List.mem_append.1 hw with hw | hw
    · simp only [List.mem_cons, List.not_mem_nil, or_false] at hw
      rcases hw with rfl | rfl | rfl
      · exact seenB (by decide)
      · exact seen_itoa _
      · exact seen_itoa _
    · exact (hns w hw).1
  · have hil := itoa_len (n := s.err) (by omega) (by omega)
    have e : sayW s = [45 :: Lib.itoa s.err] := by unfold sayW; rw [if_neg (by omega), if_neg (by omega), if_pos hk]
    rw [e] at hj ⊢
    simp only [List.map_cons, List.map_nil, List.sum_cons, List.sum_nil, List.length_cons, List.length_nil] at hj
    refine ⟨fun w hw => ?_, by simp, by omega, by simp⟩
    rw [List.mem_singleton.1 hw]
    exact seen_cons (by decide) (seen_itoa _)
  · rw [hs]
    exact ⟨fun w hw => by rw [List.mem_singleton.1 hw]; exact seenB (by decide), by decide, by decide, by decide⟩
  · rw [hs]
    exact ⟨fun w hw => by rw [List.mem_singleton.1 hw]; exact seenB (by decide), by decide, by decide, by decide⟩
/-! what is read is right -/
theorem laskN_right {k : Int} {q : Wd} {r : List Wd} (h : (laskN k q r).2 = 0) : wrongAskS (laskN k q r).1 = 0 := by
  cases r with
  | nil => cases h
  | cons x r =>
    cases r with
    | cons y r => cases h
    | nil =>
      rw [laskN] at h ⊢
      by_cases hb : (numberS x).2 = true
      · rw [if_pos hb] at h ⊢; exact h
      · rw [if_neg hb] at h; cases h
theorem laskQ_right {k : Int} {q : Wd} {r : List Wd} (h : (laskQ k q r).2 = 0) : wrongAskS (laskQ k q r).1 = 0 := by
  unfold laskQ at *
  by_cases h1 : isNd k
  · rw [if_pos h1] at h ⊢; exact laskN_right h
  rw [if_neg h1] at h ⊢
  by_cases h2 : k = 4
  · rw [if_pos h2] at h ⊢
    by_cases h3 : (noteP [] r).2 = true
    · rw [if_pos h3] at h ⊢; exact h
    · rw [if_neg h3] at h; cases h
  rw [if_neg h2] at h ⊢
  by_cases h3 : r = []
  · rw [if_pos h3] at h ⊢; exact h
  · rw [if_neg h3] at h; cases h
theorem laskP_right {l : List Wd} (h : (laskP l).2 = 0) : wrongAskS (laskP l).1 = 0 := by
  cases l with
  | nil => cases h
  | cons w r =>
    rw [laskP] at h ⊢
    by_cases h1 : ixW w + 1 = 0
    · rw [if_pos h1] at h; cases h
    rw [if_neg h1] at h ⊢
    by_cases h2 : ixW w + 1 ≠ 1 ∧ ixW w + 1 ≠ 7 ∧ ixW w + 1 ≠ 8
    · rw [if_pos h2] at h ⊢
      cases r with
      | nil => cases h
      | cons q r => exact laskQ_right h
    · rw [if_neg h2] at h ⊢; exact laskQ_right h
theorem lsayEnd_right {s : LSay} {b : Bool} (h : (lsayEnd s b).2 = 0) : wrongSayS (lsayEnd s b).1 = 0 := by
  cases b
  · cases h
  · exact h
theorem lsayP_right {l : List Wd} (h : (lsayP l).2 = 0) : wrongSayS (lsayP l).1 = 0 := by
  cases l with
  | nil => cases h
  | cons w r =>
    rw [lsayP] at h ⊢
    by_cases h1 : w = [43, 111, 107]
    · rw [if_pos h1] at h ⊢; exact lsayEnd_right h
    rw [if_neg h1] at h ⊢
    by_cases h2 : w = [43, 110, 111, 110, 101]
    · rw [if_pos h2] at h ⊢; exact lsayEnd_right h
    rw [if_neg h2] at h ⊢
    by_cases h3 : w = [43, 105, 116, 101, 109]
    · rw [if_pos h3] at h ⊢
      unfold lsayI at *
      split
      · exact lsayEnd_right h
      · simp at h
    rw [if_neg h3] at h ⊢
    by_cases h4 : Lib.hasPrefix w [45] = true
    · rw [if_pos h4] at h ⊢; exact lsayEnd_right h
    · rw [if_neg h4] at h; cases h
theorem lineP_len {b : Wd} (h : (lineP b).2.2 = 0) : 1 ≤ (lineP b).2.1 ∧ (lineP b).2.1 ≤ b.length ∧ (lineP b).2.1 ≤ 400 := by
  have hr : ixB b = -1 ∨ (0 ≤ ixB b ∧ ixB b < b.length) := placeG_range
  unfold lineP at *
  by_cases h1 : ixB b < 0 ∧ (b.length : Int) < 400
  · rw [if_pos h1] at h; cases h
  rw [if_neg h1] at h ⊢
  by_cases h2 : ixB b < 0 ∨ 400 ≤ ixB b
  · rw [if_pos h2] at h; cases h
  rw [if_neg h2]
  simp only
  omega
theorem lask_right (b : Wd) : ((laskR b).2.2 = 0 ∧ wrongAskS (laskR b).1 = 0 ∧ 1 ≤ (laskR b).2.1 ∧ (laskR b).2.1 ≤ b.length ∧ (laskR b).2.1 ≤ 400) ∨ ((laskR b).2.2 ≠ 0 ∧ (laskR b).2.1 = 0 ∧ (laskR b).1 = lask0) := by
  unfold laskR
  by_cases h1 : (lineP b).2.2 ≠ 0
  · rw [if_pos h1]; exact .inr ⟨h1, rfl, rfl⟩
  rw [if_neg h1]
  by_cases h2 : (laskP (lineP b).1).2 ≠ 0
  · rw [if_pos h2]; exact .inr ⟨h2, rfl, rfl⟩
  rw [if_neg h2]
  exact .inl ⟨rfl, laskP_right (by simpa using h2), lineP_len (by simpa using h1)⟩
theorem lsay_right (b : Wd) : ((lsayR b).2.2 = 0 ∧ wrongSayS (lsayR b).1 = 0 ∧ 1 ≤ (lsayR b).2.1 ∧ (lsayR b).2.1 ≤ b.length ∧ (lsayR b).2.1 ≤ 400) ∨ ((lsayR b).2.2 ≠ 0 ∧ (lsayR b).2.1 = 0 ∧ (lsayR b).1 = lsay0) := by
  unfold lsayR
  by_cases h1 : (lineP b).2.2 ≠ 0
  · rw [if_pos h1]; exact .inr ⟨h1, rfl, rfl⟩
  rw [if_neg h1]
  by_cases h2 : (lsayP (lineP b).1).2 ≠ 0
  · rw [if_pos h2]; exact .inr ⟨h2, rfl, rfl⟩
  rw [if_neg h2]
  exact .inl ⟨rfl, lsayP_right (by simpa using h2), lineP_len (by simpa using h1)⟩
end Go.Proofs.YtmlejhpeoiicpaaGreatDoor.Ab
