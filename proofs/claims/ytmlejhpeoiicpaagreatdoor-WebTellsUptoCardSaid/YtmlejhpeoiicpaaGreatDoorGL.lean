/-
  Texts of the proof, one behind the other: WbQ WbR WbT WbK.
  No condition but those that each theorem names.
-/
import Derived.Test.YtmlejhpeoiicpaaGreatDoorGK
import Derived.Test.YtmlejhpeoiicpaaGreatDoorGG
import Derived.Test.YtmlejhpeoiicpaaGreatDoorGH
import Derived.Test.YtmlejhpeoiicpaaGreatDoorGI
namespace Go.Proofs.YtmlejhpeoiicpaaGreatDoor.Ab
open Go Go.RowKit
set_option linter.unusedVariables false

/-! a text of more than one byte -/
theorem occ_put {s sub : Wd} {i : Nat} {t : Wd} (h : s.drop i = sub ++ t) : Lib.occAt s sub i = true := by
  unfold Lib.occAt
  rw [h]
  exact List.isPrefixOf_iff_prefix.2 ⟨t, rfl⟩
theorem occ_no {s : Wd} {c : UInt8} {t : Wd} {i : Nat} (h : s[i]? ≠ some c) : Lib.occAt s (c :: t) i = false := by
  cases ho : Lib.occAt s (c :: t) i
  · rfl
  · exact absurd (Lib.occAt_head rfl ho) h
def NoB (c : UInt8) (w : Wd) : Prop := ∀ b ∈ w, b ≠ c
theorem NoB.get {c : UInt8} {w : Wd} (h : NoB c w) {i : Nat} : w[i]? ≠ some c := fun hi => h c (List.mem_of_getElem? hi) rfl
theorem NoB.left {c : UInt8} {w v : Wd} (h : NoB c w) {i : Nat} (hi : i < w.length) : (w ++ v)[i]? ≠ some c := by
  rw [List.getElem?_append_left hi]
  exact h.get
theorem index_at2 {c : UInt8} {t k v : Wd} (h : NoB c k) : Lib.index (k ++ (c :: t ++ v)) (c :: t) = (k.length : Int) :=
  Lib.index_first (by simp) (occ_put (t := v) (by simp)) fun j hj => occ_no (h.left hj)
theorem cut_at2 {c : UInt8} {t k v : Wd} (h : NoB c k) : Lib.cut (k ++ (c :: t ++ v)) (c :: t) = (k, v, true) := by
  unfold Lib.cut
  rw [index_at2 h, if_pos (by omega), Int.toNat_natCast]
  refine Prod.ext ?_ (Prod.ext ?_ rfl)
  · simp
  · show List.drop (k.length + (c :: t).length) (k ++ (c :: t ++ v)) = v
    rw [← List.append_assoc, show k.length + (c :: t).length = (k ++ c :: t).length by simp]
    exact List.drop_left
theorem join_snoc : ∀ (l : List Wd) (s w : Wd), l ≠ [] → Lib.join (l ++ [w]) s = Lib.join l s ++ (s ++ w)
  | [], s, w, h => absurd rfl h
  | [v], s, w, _ => by
    rw [List.singleton_append, join_two, Lib.join_one, Lib.join_one]
  | v :: u :: r, s, w, _ => by
    rw [List.cons_append, List.cons_append, join_two, join_two, ← List.cons_append, join_snoc (u :: r) s w (by simp)]
    simp
/-! where the heads end -/
def crlf : Wd := [13, 10]
def end4 : Wd := [13, 10, 13, 10]
end Go.Proofs.YtmlejhpeoiicpaaGreatDoor.Ab
namespace Go.Proofs.YtmlejhpeoiicpaaGreatDoor.Ab
open Go Go.RowKit
set_option linter.unusedVariables false

instance (c : UInt8) (w : Wd) : Decidable (NoB c w) := inferInstanceAs (Decidable (∀ b ∈ w, b ≠ c))
theorem NoB.app {c : UInt8} {a b : Wd} (ha : NoB c a) (hb : NoB c b) : NoB c (a ++ b) := fun x hx => (List.mem_append.1 hx).elim (ha x) (hb x)
theorem Seen.nob {w : Wd} (h : Seen w) {c : UInt8} (hc : c.toNat ≤ 32) : NoB c w := h.ne hc
theorem propS_key {p : LProp} (h : propS p = 0) : keyS p.key = true := by
  cases hq : keyS p.key
  · unfold propS at h; rw [hq] at h; simp at h
  · rfl
theorem key_nob {k : ByteArray} (h : keyS k = true) {c : UInt8} (hc : c.toNat < 97) : NoB c k.data.toList := fun b hb e => by
  have := (key_seen h).1 b hb
  rw [e] at this
  omega
theorem hasPrefix_app (a b : Wd) : Lib.hasPrefix (a ++ b) a = true := by
  unfold Lib.hasPrefix
  exact List.isPrefixOf_iff_prefix.2 ⟨b, rfl⟩
theorem trimPrefix_app (a b : Wd) : Lib.trimPrefix (a ++ b) a = b := by
  unfold Lib.trimPrefix
  rw [hasPrefix_app, if_pos rfl]
  simp
theorem head_prop {p : LProp} (h : propS p = 0) : Lib.cut (phead p) [58, 32] = ([112, 45] ++ p.key.data.toList, valueS p, true) := by
  have hk : NoB 58 ([112, 45] ++ p.key.data.toList) := NoB.app (by decide) (key_nob (propS_key h) (by decide))
  have := cut_at2 (t := [32]) (v := valueS p) hk
  rw [← this]
  unfold phead
  congr 1
  simp
theorem head_props : ∀ (l ps : List LProp) (hs : List Wd) (n : Int) (rest : List Wd), (∀ p ∈ l, propS p = 0) → headsP ps hs n (pheads l ++ rest) = headsP (ps ++ l) hs n rest
  | [], ps, hs, n, rest, _ => by simp [pheads]
  | p :: l, ps, hs, n, rest, h => by
    have hp := h p (List.mem_cons_self ..)
    have ih := head_props l (ps ++ [p]) hs n rest fun q hq => h q (List.mem_cons_of_mem _ hq)
    have e : pheads (p :: l) ++ rest = phead p :: (pheads l ++ rest) := rfl
    rw [e, headsP, head_prop hp]
    simp only [hasPrefix_app, trimPrefix_app, prop_back hp, Bool.true_eq_false, if_false, if_true]
    rw [ih]
    simp
theorem head_len {n : Nat} (hn : n ≤ 1073741824) (ps : List LProp) (hs : List Wd) : headsP ps hs (-1) [clenW n] = some (ps, hs, (n : Int)) := by
  have hk : NoB 58 clenN := by decide
  have hc : Lib.cut (clenW n) [58, 32] = (clenN, Lib.itoa n, true) := by
    rw [← cut_at2 (t := [32]) (v := Lib.itoa n) hk]
    rfl
  rw [headsP, hc]
  simp only [show Lib.hasPrefix clenN [112, 45] = false from by decide, number_itoa (n := (n : Int)) (by omega) (by omega), Bool.true_eq_false, Bool.false_eq_true, if_false, if_true, false_or]
  rw [if_neg (by omega), headsP]
/-- a page's lines but for the two last ones -/
def plist (f : Wd) (hs : List Wd) (n : LNote) : List Wd := f :: (hs ++ (pheads n.props ++ [clenW n.body.length]))
theorem page_shape (f : Wd) (hs : List Wd) (n : LNote) : pageB f hs n = Lib.join (plist f hs n) crlf ++ (end4 ++ n.body) := by
  have e : pageL f hs n = (plist f hs n ++ [[]]) ++ [[]] := by simp [pageL, plist]
  unfold pageB
  rw [e]
  show Lib.join (plist f hs n ++ [[]] ++ [[]]) crlf ++ n.body = _
  rw [join_snoc _ _ _ (by simp), join_snoc _ _ _ (by simp [plist])]
  simp [crlf, end4]
/-- what a page is made of -/
structure PgGood (f : Wd) (hs : List Wd) (n : LNote) : Prop where
  fst : NoB 13 f
  hds : ∀ w ∈ hs, NoB 13 w ∧ w ≠ []
  wr : wrongS n = 0
  bk : headsP [] [] (-1) (hs ++ (pheads n.props ++ [clenW n.body.length])) = some (n.props, hs, (n.body.length : Int))
  ln : (pageB f hs n).length ≤ 400
theorem join_len2 : ∀ (l : List Wd), (Lib.join l crlf).length ≤ (l.map List.length).sum + 2 * l.length
  | [] => by simp [Lib.join_nil]
  | [w] => by rw [Lib.join_one]; simp
  | w :: v :: r => by
    have := join_len2 (v :: r)
    rw [join_two]
    simp only [List.length_append, List.length_cons, List.length_nil, List.map_cons, List.sum_cons, crlf] at this ⊢
    omega
/-- a page is no longer than may be -/
theorem page_len {f : Wd} {hs : List Wd} {n : LNote} (h : wrongS n = 0) : (pageB f hs n).length ≤ f.length + (hs.map List.length).sum + 2 * hs.length + 240 := by
  obtain ⟨h1, h2, h3⟩ := wrongS_ok h
  have hs' : ∀ l : List LProp, (∀ p ∈ l, propS p = 0) → ((pheads l).map List.length).sum ≤ 37 * l.length := fun l => by
    induction l with
    | nil => intro; simp [pheads]
    | cons p r ih =>
      intro h
      have h1 := ih fun q hq => h q (List.mem_cons_of_mem _ hq)
      have hp0 := h p (List.mem_cons_self ..)
      have hv := value_len hp0
      have hk : p.key.data.toList.length ≤ 8 := (propS_ok hp0).1
      simp only [pheads, List.map_cons, List.sum_cons, phead, List.length_append, List.length_cons, List.length_nil] at h1 ⊢
      omega
  have hp := hs' _ h2
  have hj := join_len2 (plist f hs n)
  have hi := itoa_len (n := (n.body.length : Int)) (by omega) (by omega)
  rw [page_shape]
  simp only [plist, List.map_cons, List.map_append, List.sum_cons, List.sum_append, List.map_nil, List.sum_nil, List.length_append, List.length_cons, List.length_nil, clenW, end4] at hj ⊢
  simp only [pheads, List.length_map] at hj hp ⊢
  omega
end Go.Proofs.YtmlejhpeoiicpaaGreatDoor.Ab
namespace Go.Proofs.YtmlejhpeoiicpaaGreatDoor.Ab
open Go Go.RowKit
set_option linter.unusedVariables false

/-- a right ask's method and path -/
theorem path_ok {a : LAsk} (h : wrongAskS a = 0) : (Seen (pathW a).1 ∧ (pathW a).1.length ≤ 6) ∧ Seen (pathW a).2 ∧ (pathW a).2.length ≤ 30 := by
  obtain ⟨h1, h2, h3, h4, h5, h6⟩ := lwAsk_ok h
  have hq : Seen a.queue.data.toList ∧ a.queue.data.toList.length ≤ 8 := by
    cases hn : namedS a.kind
    · rw [h3 hn]; exact ⟨seen_nil, by simp⟩
    · obtain ⟨q1, q2, q3⟩ := key_seen (h2 hn)
      exact ⟨fun b hb => by have := q1 b hb; omega, q3⟩
  have hn : -1073741824 ≤ a.n ∧ a.n ≤ 1073741824 := by
    unfold lowS highS at h4
    split at h4 <;> split at h4 <;> (try split at h4) <;> omega
  have hil := itoa_len hn.1 hn.2
  have his := seen_itoa a.n
  unfold pathW
  generalize a.queue.data.toList = q at hq ⊢
  generalize Lib.itoa a.n = it at his hil ⊢
  obtain ⟨hq1, hq2⟩ := hq
  have c1 : ∀ l : Wd, l.all (fun b => decide (32 < b.toNat)) = true → Seen l := fun l h => seenB h
  unfold pathF
  repeat' split
  all_goals (
    dsimp only
    refine ⟨⟨c1 _ (by decide), by decide⟩, ?_, ?_⟩
    · first
      | exact c1 _ (by decide)
      | exact seen_app (seen_app (seen_app (c1 _ (by decide)) hq1) (c1 _ (by decide))) his
      | exact seen_app (seen_app (c1 _ (by decide)) hq1) (c1 _ (by decide))
      | exact seen_app (c1 _ (by decide)) hq1
      | exact seen_app (c1 _ (by decide)) his
    · simp only [List.length_append, List.length_cons, List.length_nil]
      omega)
theorem heads_none {n : LNote} (h : wrongS n = 0) : headsP [] [] (-1) ([] ++ (pheads n.props ++ [clenW n.body.length])) = some (n.props, [], (n.body.length : Int)) := by
  obtain ⟨h1, h2, h3⟩ := wrongS_ok h
  rw [List.nil_append, head_props _ _ _ _ _ h2, head_len (by omega)]
  simp
theorem ask_good {a : LAsk} (h : wrongAskS a = 0) : PgGood (firstW a) [] a.note := by
  obtain ⟨⟨p1, p2⟩, p3, p4⟩ := path_ok h
  obtain ⟨_, _, _, _, _, h6⟩ := lwAsk_ok h
  refine ⟨?_, fun w hw => (by cases hw), h6, heads_none h6, ?_⟩
  · exact NoB.app (NoB.app (NoB.app (p1.nob (by decide)) (by decide)) (p3.nob (by decide))) (by decide)
  · have := page_len (f := firstW a) (hs := []) h6
    simp only [firstW, List.length_append, List.length_cons, List.length_nil, List.map_nil, List.sum_nil] at this
    show (pageB (firstW a) [] a.note).length ≤ 400
    simp only [firstW]
    omega
/-! what is read -/
theorem parts_len {b : Wd} (h : (partsR b).err = 0) : 4 ≤ (partsR b).all ∧ (partsR b).all ≤ b.length ∧ (partsR b).all ≤ 400 := by
  unfold partsR at *
  split at h
  · split at h <;> cases h
  · rename_i h0
    rw [if_neg h0]
    generalize headsP [] [] (-1) (plines b).tail = x at *
    cases x with
    | none => cases h
    | some y =>
      obtain ⟨ps, hs, n⟩ := y
      simp only [partsE] at *
      split at h
      · cases h
      · split at h
        · cases h
        · split at h
          · cases h
          · rename_i h1 h2 h3
            rw [if_neg h1, if_neg h2, if_neg h3]
            simp only
            omega
theorem waskW_right {hs : List Wd} {n : LNote} {l : List Wd} (h : (waskW hs n l).2 = 0) : wrongAskS (waskW hs n l).1 = 0 := by
  unfold waskW at *
  split at h
  · split at h
    · rename_i h1
      rw [if_pos h1] at *
      split at h
      · rename_i h2
        rw [if_pos h2] at *
        exact h
      · cases h
    · cases h
  · cases h
theorem wask_right (b : Wd) : ((waskR b).2.2 = 0 ∧ wrongAskS (waskR b).1 = 0 ∧ 1 ≤ (waskR b).2.1 ∧ (waskR b).2.1 ≤ b.length ∧ (waskR b).2.1 ≤ 400) ∨ ((waskR b).2.2 ≠ 0 ∧ (waskR b).2.1 = 0 ∧ (waskR b).1 = lask0) := by
  have hl := parts_len (b := b)
  unfold waskR
  generalize partsR b = x at *
  unfold waskE
  by_cases h1 : x.err ≠ 0
  · rw [if_pos h1]; exact .inr ⟨h1, rfl, rfl⟩
  · rw [if_neg h1]
    have hl := hl (by simpa using h1)
    by_cases h2 : (waskW x.heads x.note (Lib.split x.first [32])).2 ≠ 0
    · rw [if_pos h2]; exact .inr ⟨h2, rfl, rfl⟩
    · rw [if_neg h2]
      refine .inl ⟨rfl, waskW_right (by simpa using h2), ?_⟩
      simp only
      omega
theorem wsayB_right {f : Wd} {hs : List Wd} {n : LNote} (h : (wsayB f hs n).2 = 0) : wrongSayS (wsayB f hs n).1 = 0 := by
  revert h
  unfold wsayB
  repeat' split
  all_goals (intro h; first | exact h | cases h)
theorem wsay_right (b : Wd) : ((wsayR b).2.2 = 0 ∧ wrongSayS (wsayR b).1 = 0 ∧ 1 ≤ (wsayR b).2.1 ∧ (wsayR b).2.1 ≤ b.length ∧ (wsayR b).2.1 ≤ 400) ∨ ((wsayR b).2.2 ≠ 0 ∧ (wsayR b).2.1 = 0 ∧ (wsayR b).1 = lsay0) := by
  have hl := parts_len (b := b)
  unfold wsayR
  generalize partsR b = x at *
  unfold wsayE
  by_cases h1 : x.err ≠ 0
  · rw [if_pos h1]; exact .inr ⟨h1, rfl, rfl⟩
  · rw [if_neg h1]
    have hl := hl (by simpa using h1)
    by_cases h2 : (wsayB x.first x.heads x.note).2 ≠ 0
    · rw [if_pos h2]; exact .inr ⟨h2, rfl, rfl⟩
    · rw [if_neg h2]
      refine .inl ⟨rfl, wsayB_right (by simpa using h2), ?_⟩
      simp only
      omega
end Go.Proofs.YtmlejhpeoiicpaaGreatDoor.Ab
namespace Go.Proofs.YtmlejhpeoiicpaaGreatDoor.Ab
open Go Go.RowKit
set_option linter.unusedVariables false

theorem nokG {n : LNote} (h : wrongS n = 0) : NOk n := by
  obtain ⟨h1, h2, h3⟩ := wrongS_ok h
  refine ⟨by omega, by omega, fun p hp => ?_⟩
  obtain ⟨q1, q2⟩ := propS_ok (h2 p hp)
  refine ⟨⟨?_, ?_⟩, ?_⟩ <;> omega
theorem pgokG {f : Wd} {hs : List Wd} {n : LNote} (h : wrongS n = 0) (hl : (pageB f hs n).length ≤ 1000000) (hh : hs.length ≤ 1000000) : PgOk f hs n := ⟨nokG h, hh, by unfold pageB at hl; rw [List.length_append] at hl; omega⟩
theorem wabokG {a : LAsk} (h : wrongAskS a = 0) : AQOk a := by
  obtain ⟨h1, h2, h3, h4, h5, h6⟩ := lwAsk_ok h
  have hn : -1073741824 ≤ a.n ∧ a.n ≤ 1073741824 := by
    unfold lowS highS at h4
    split at h4 <;> split at h4 <;> (try split at h4) <;> omega
  have hq : a.queue.data.toList.length ≤ 8 := by
    cases hn : namedS a.kind
    · rw [h3 hn]; simp
    · exact (key_seen (h2 hn)).2.2
  exact ⟨⟨by show a.queue.data.toList.length ≤ 1000000; omega, hn.1, hn.2⟩, pgokG h6 (by have := (ask_good h).ln; omega) (by simp)⟩
theorem wsbokG {s : LSay} (h : wrongSayS s = 0) : SQOk s := by
  have w0 : wrongS note0 = 0 := by decide
  obtain ⟨_, _, h3, h4, h5, h6, h7, h8, h9, _⟩ := wrongSay_ok h
  have hi1 := Lib.itoa_length_le s.n (by omega) (by omega)
  have hi2 := Lib.itoa_length_le s.m (by omega) (by omega)
  have hi3 := Lib.itoa_length_le s.err (by omega) (by omega)
  refine ⟨by omega, by omega, by omega, fun _ => pgokG h9 ?_ (by simp), fun _ => pgokG w0 ?_ (by simp)⟩
  · have := page_len (f := okW) (hs := [tagH ++ Lib.itoa s.n, triesH ++ Lib.itoa s.m]) h9
    simp only [okW, tagH, triesH, List.map_cons, List.map_nil, List.sum_cons, List.sum_nil, List.length_append, List.length_cons, List.length_nil] at this ⊢
    omega
  · have := page_len (f := wrongW) (hs := [errorH ++ Lib.itoa s.err]) w0
    simp only [wrongW, errorH, List.map_cons, List.map_nil, List.sum_cons, List.sum_nil, List.length_append, List.length_cons, List.length_nil] at this ⊢
    omega
end Go.Proofs.YtmlejhpeoiicpaaGreatDoor.Ab
