/-
  Texts of the proof, one behind the other: WbQ WbR WbT WbK.
  No condition but those that each theorem names.
-/
import Derived.Test.YtmlejhpeoiicpaaGreatDoorGK
import Derived.Test.YtmlejhpeoiicpaaGreatDoorGG
import Derived.Test.YtmlejhpeoiicpaaGreatDoorGH
import Derived.Test.YtmlejhpeoiicpaaGreatDoorGI
namespace Go.Proofs.YtmlejhpeoiicpaaGreatDoor.Ab
open Go Go.RowKit
set_option linter.unusedVariables false

/-! a text of more than one byte -/
theorem occ_put {s sub : Wd} {i : Nat} {t : Wd} (h : s.drop i = sub ++ t) : Lib.occAt s sub i = true := by
  unfold Lib.occAt
  rw [h]
  exact List.isPrefixOf_iff_prefix.2 ⟨t, rfl⟩
theorem occ_get {s sub : Wd} {i : Nat} (h : Lib.occAt s sub i = true) : ∃ t, s.drop i = sub ++ t := by
  unfold Lib.occAt at h
  obtain ⟨t, ht⟩ := List.isPrefixOf_iff_prefix.1 h
  exact ⟨t, ht.symm⟩
theorem occ_no {s : Wd} {c : UInt8} {t : Wd} {i : Nat} (h : s[i]? ≠ some c) : Lib.occAt s (c :: t) i = false := by
  cases ho : Lib.occAt s (c :: t) i
  · rfl
  · exact absurd (Lib.occAt_head rfl ho) h
def NoB (c : UInt8) (w : Wd) : Prop := ∀ b ∈ w, b ≠ c
theorem NoB.get {c : UInt8} {w : Wd} (h : NoB c w) {i : Nat} : w[i]? ≠ some c := fun hi => h c (List.mem_of_getElem? hi) rfl
theorem NoB.left {c : UInt8} {w v : Wd} (h : NoB c w) {i : Nat} (hi : i < w.length) : (w ++ v)[i]? ≠ some c := by
  rw [List.getElem?_append_left hi]
  exact h.get
theorem index_at2 {c : UInt8} {t k v : Wd} (h : NoB c k) : Lib.index (k ++ (c :: t ++ v)) (c :: t) = (k.length : Int) :=
  Lib.index_first (by simp) (occ_put (t := v) (by simp)) fun j hj => occ_no (h.left hj)
theorem index_no2 {c : UInt8} {t k : Wd} (h : NoB c k) : Lib.index k (c :: t) = -1 := Lib.index_none fun j hj => occ_no h.get
theorem cut_at2 {c : UInt8} {t k v : Wd} (h : NoB c k) : Lib.cut (k ++ (c :: t ++ v)) (c :: t) = (k, v, true) := by
  unfold Lib.cut
  rw [index_at2 h, if_pos (by omega), Int.toNat_natCast]
  refine Prod.ext ?_ (Prod.ext ?_ rfl)
  · simp
  · show List.drop (k.length + (c :: t).length) (k ++ (c :: t ++ v)) = v
    rw [← List.append_assoc, show k.length + (c :: t).length = (k ++ c :: t).length by simp]
    exact List.drop_left
theorem count_fuel {sub : Wd} (hs : sub ≠ []) : ∀ (m n : Nat) (s : Wd), s.length < m → s.length < n → Lib.countFrom sub m s = Lib.countFrom sub n s
  | 0, _, s, h, _ => by omega
  | m + 1, 0, s, _, h => by omega
  | m + 1, n + 1, s, h1, h2 => by
    have hl : 1 ≤ sub.length := by
      cases sub with
      | nil => exact absurd rfl hs
      | cons a r => simp
    simp only [Lib.countFrom]
    by_cases hi : Lib.index s sub = -1
    · simp [hi]
    · have h0 : 0 ≤ Lib.index s sub := by have := Lib.index_ge s sub; omega
      have hr := Lib.index_room s sub h0
      have hne : (Lib.index s sub == -1) = false := by rw [beq_eq_false_iff_ne]; exact hi
      simp only [hne, Bool.false_eq_true, if_false]
      rw [count_fuel hs m n _ (by rw [List.length_drop]; omega) (by rw [List.length_drop]; omega)]
theorem split_at2 {c : UInt8} {t k v : Wd} (h : NoB c k) : Lib.split (k ++ (c :: t ++ v)) (c :: t) = k :: Lib.split v (c :: t) := by
  have hd : List.drop (k.length + (c :: t).length) (k ++ (c :: t ++ v)) = v := by
    rw [← List.append_assoc, show k.length + (c :: t).length = (k ++ c :: t).length by simp]
    exact List.drop_left
  have hne : ((k.length : Int) == -1) = false := by rw [beq_eq_false_iff_ne]; omega
  have hc : Lib.count (k ++ (c :: t ++ v)) (c :: t) = Lib.count v (c :: t) + 1 := by
    unfold Lib.count
    rw [Lib.countFrom, index_at2 h, hne]
    simp only [Bool.false_eq_true, if_false, Int.toNat_natCast]
    rw [hd, count_fuel (by simp) (List.length (k ++ (c :: t ++ v))) (v.length + 1) v (by simp; omega) (by omega)]
    omega
  unfold Lib.split
  rw [hc, Lib.splitK, index_at2 h, hne]
  simp only [Bool.false_eq_true, if_false, Int.toNat_natCast, Nat.add_zero]
  rw [hd]
  simp
theorem split_one2 {c : UInt8} {t k : Wd} (h : NoB c k) : Lib.split k (c :: t) = [k] := by
  have hc : Lib.count k (c :: t) = 0 := by
    unfold Lib.count
    rw [Lib.countFrom, index_no2 h]
    rfl
  unfold Lib.split
  rw [hc]
  rfl
theorem split_join2 {c : UInt8} {t : Wd} : ∀ (l : List Wd), l ≠ [] → (∀ w ∈ l, NoB c w) → Lib.split (Lib.join l (c :: t)) (c :: t) = l
  | [], h, _ => absurd rfl h
  | [w], _, h => by rw [Lib.join_one]; exact split_one2 (h w (by simp))
  | w :: v :: r, _, h => by
    rw [join_two, split_at2 (h w (by simp)), split_join2 (v :: r) (by simp) fun x hx => h x (List.mem_cons_of_mem _ hx)]
theorem join_snoc : ∀ (l : List Wd) (s w : Wd), l ≠ [] → Lib.join (l ++ [w]) s = Lib.join l s ++ (s ++ w)
  | [], s, w, h => absurd rfl h
  | [v], s, w, _ => by
    rw [List.singleton_append, join_two, Lib.join_one, Lib.join_one]
  | v :: u :: r, s, w, _ => by
    rw [List.cons_append, List.cons_append, join_two, join_two, ← List.cons_append, join_snoc (u :: r) s w (by simp)]
    simp
/-! where the heads end -/
def crlf : Wd := [13, 10]
def end4 : Wd := [13, 10, 13, 10]
theorem no_end : ∀ (l : List Wd), l ≠ [] → (∀ w ∈ l, NoB 13 w) → (∀ w ∈ l.tail, w ≠ []) → ∀ (rest : Wd) (j : Nat), j < (Lib.join l crlf).length → Lib.occAt (Lib.join l crlf ++ (end4 ++ rest)) end4 j = false
  | [], h, _, _, _, _, _ => absurd rfl h
  | [w], _, h, _, rest, j, hj => by
    rw [Lib.join_one] at hj ⊢
    exact occ_no ((h w (by simp)).left hj)
  | w :: v :: r, _, h, hn, rest, j, hj => by
    have hw := h w (by simp)
    have ih := no_end (v :: r) (by simp) (fun x hx => h x (List.mem_cons_of_mem _ hx)) (fun x hx => hn x (by simp at hx ⊢; exact .inr hx)) rest
    have hv : v ≠ [] := hn v (by simp)
    have hv13 := h v (by simp)
    rw [join_two] at hj ⊢
    have he : ∃ a Y, Lib.join (v :: r) crlf ++ (end4 ++ rest) = a :: Y ∧ a ≠ 13 := by
      cases v with
      | nil => exact absurd rfl hv
      | cons a v' =>
        rw [Lib.join_cons]
        exact ⟨a, _, by rw [List.cons_append, List.cons_append], hv13 a (by simp)⟩
    generalize hJ : Lib.join (v :: r) crlf = J at *
    have hs : w ++ (crlf ++ J) ++ (end4 ++ rest) = w ++ (13 :: 10 :: (J ++ (end4 ++ rest))) := by simp [crlf]
    rw [hs]
    by_cases h1 : j < w.length
    · exact occ_no (hw.left h1)
    · obtain ⟨i, rfl⟩ : ∃ i, j = w.length + i := ⟨j - w.length, by omega⟩
      have hdr : ∀ k, List.drop (w.length + k) (w ++ (13 :: 10 :: (J ++ (end4 ++ rest)))) = List.drop k (13 :: 10 :: (J ++ (end4 ++ rest))) := fun k => by
        rw [← List.drop_drop, List.drop_left]
      match i with
      | 0 =>
        cases ho : Lib.occAt (w ++ (13 :: 10 :: (J ++ (end4 ++ rest)))) end4 (w.length + 0)
        · rfl
        · obtain ⟨t, ht⟩ := occ_get ho
          rw [hdr] at ht
          obtain ⟨a, Y, hY, ha⟩ := he
          rw [hY] at ht
          simp only [List.drop_zero, end4, List.cons_append, List.cons.injEq] at ht
          exact absurd ht.2.2.1 ha
      | 1 =>
        refine occ_no ?_
        have : (w ++ (13 :: 10 :: (J ++ (end4 ++ rest))))[w.length + 1]? = some 10 := by
          rw [List.getElem?_append_right (by omega)]
          simp
        rw [this]
        decide
      | k + 2 =>
        have hk : k < J.length := by
          simp only [List.length_append, crlf, List.length_cons, List.length_nil] at hj
          omega
        have := ih k hk
        unfold Lib.occAt at this ⊢
        rw [hdr (k + 2)]
        simpa using this
theorem index_end {l : List Wd} (h1 : l ≠ []) (h2 : ∀ w ∈ l, NoB 13 w) (h3 : ∀ w ∈ l.tail, w ≠ []) (rest : Wd) : Lib.index (Lib.join l crlf ++ (end4 ++ rest)) end4 = ((Lib.join l crlf).length : Int) :=
  Lib.index_first (by simp) (occ_put (t := rest) (by simp)) (no_end l h1 h2 h3 rest)
theorem cut_end {l : List Wd} (h1 : l ≠ []) (h2 : ∀ w ∈ l, NoB 13 w) (h3 : ∀ w ∈ l.tail, w ≠ []) (rest : Wd) : Lib.cut (Lib.join l crlf ++ (end4 ++ rest)) end4 = (Lib.join l crlf, rest, true) := by
  unfold Lib.cut
  rw [index_end h1 h2 h3, if_pos (by omega), Int.toNat_natCast]
  refine Prod.ext ?_ (Prod.ext ?_ rfl)
  · simp
  · show List.drop ((Lib.join l crlf).length + end4.length) (Lib.join l crlf ++ (end4 ++ rest)) = rest
    rw [← List.append_assoc, show (Lib.join l crlf).length + end4.length = (Lib.join l crlf ++ end4).length by simp]
    exact List.drop_left
end Go.Proofs.YtmlejhpeoiicpaaGreatDoor.Ab
namespace Go.Proofs.YtmlejhpeoiicpaaGreatDoor.Ab
open Go Go.RowKit
set_option linter.unusedVariables false

instance (c : UInt8) (w : Wd) : Decidable (NoB c w) := inferInstanceAs (Decidable (∀ b ∈ w, b ≠ c))
theorem NoB.app {c : UInt8} {a b : Wd} (ha : NoB c a) (hb : NoB c b) : NoB c (a ++ b) := fun x hx => (List.mem_append.1 hx).elim (ha x) (hb x)
theorem Seen.nob {w : Wd} (h : Seen w) {c : UInt8} (hc : c.toNat ≤ 32) : NoB c w := h.ne hc
theorem propS_key {p : LProp} (h : propS p = 0) : keyS p.key = true := by
  cases hq : keyS p.key
  · unfold propS at h; rw [hq] at h; simp at h
  · rfl
theorem key_nob {k : ByteArray} (h : keyS k = true) {c : UInt8} (hc : c.toNat < 97) : NoB c k.data.toList := fun b hb e => by
  have := (key_seen h).1 b hb
  rw [e] at this
  omega
theorem hasPrefix_app (a b : Wd) : Lib.hasPrefix (a ++ b) a = true := by
  unfold Lib.hasPrefix
  exact List.isPrefixOf_iff_prefix.2 ⟨b, rfl⟩
theorem trimPrefix_app (a b : Wd) : Lib.trimPrefix (a ++ b) a = b := by
  unfold Lib.trimPrefix
  rw [hasPrefix_app, if_pos rfl]
  simp
theorem head_prop {p : LProp} (h : propS p = 0) : Lib.cut (phead p) [58, 32] = ([112, 45] ++ p.key.data.toList, valueS p, true) := by
  have hk : NoB 58 ([112, 45] ++ p.key.data.toList) := NoB.app (by decide) (key_nob (propS_key h) (by decide))
  have := cut_at2 (t := [32]) (v := valueS p) hk
  rw [← this]
  unfold phead
  congr 1
  simp
theorem head_props : ∀ (l ps : List LProp) (hs : List Wd) (n : Int) (rest : List Wd), (∀ p ∈ l, propS p = 0) → headsP ps hs n (pheads l ++ rest) = headsP (ps ++ l) hs n rest
  | [], ps, hs, n, rest, _ => by simp [pheads]
  | p :: l, ps, hs, n, rest, h => by
    have hp := h p (List.mem_cons_self ..)
    have ih := head_props l (ps ++ [p]) hs n rest fun q hq => h q (List.mem_cons_of_mem _ hq)
    have e : pheads (p :: l) ++ rest = phead p :: (pheads l ++ rest) := rfl
    rw [e, headsP, head_prop hp]
    simp only [hasPrefix_app, trimPrefix_app, prop_back hp, Bool.true_eq_false, if_false, if_true]
    rw [ih]
    simp
theorem head_plain {h k v : Wd} (hc : Lib.cut h [58, 32] = (k, v, true)) (h1 : Lib.hasPrefix k [112, 45] = false) (h2 : k ≠ clenN) (ps : List LProp) (hs : List Wd) (n : Int) (rest : List Wd) : headsP ps hs n (h :: rest) = headsP ps (hs ++ [h]) n rest := by
  rw [headsP, hc]
  simp only [h1, Bool.true_eq_false, Bool.false_eq_true, if_false]
  rw [if_neg h2]
theorem head_len {n : Nat} (hn : n ≤ 1073741824) (ps : List LProp) (hs : List Wd) : headsP ps hs (-1) [clenW n] = some (ps, hs, (n : Int)) := by
  have hk : NoB 58 clenN := by decide
  have hc : Lib.cut (clenW n) [58, 32] = (clenN, Lib.itoa n, true) := by
    rw [← cut_at2 (t := [32]) (v := Lib.itoa n) hk]
    rfl
  rw [headsP, hc]
  simp only [show Lib.hasPrefix clenN [112, 45] = false from by decide, number_itoa (n := (n : Int)) (by omega) (by omega), Bool.true_eq_false, Bool.false_eq_true, if_false, if_true, false_or]
  rw [if_neg (by omega), headsP]
/-- a page's lines but for the two last ones -/
def plist (f : Wd) (hs : List Wd) (n : LNote) : List Wd := f :: (hs ++ (pheads n.props ++ [clenW n.body.length]))
theorem page_shape (f : Wd) (hs : List Wd) (n : LNote) : pageB f hs n = Lib.join (plist f hs n) crlf ++ (end4 ++ n.body) := by
  have e : pageL f hs n = (plist f hs n ++ [[]]) ++ [[]] := by simp [pageL, plist]
  unfold pageB
  rw [e]
  show Lib.join (plist f hs n ++ [[]] ++ [[]]) crlf ++ n.body = _
  rw [join_snoc _ _ _ (by simp), join_snoc _ _ _ (by simp [plist])]
  simp [crlf, end4]
/-- what a page is made of -/
structure PgGood (f : Wd) (hs : List Wd) (n : LNote) : Prop where
  fst : NoB 13 f
  hds : ∀ w ∈ hs, NoB 13 w ∧ w ≠ []
  wr : wrongS n = 0
  bk : headsP [] [] (-1) (hs ++ (pheads n.props ++ [clenW n.body.length])) = some (n.props, hs, (n.body.length : Int))
  ln : (pageB f hs n).length ≤ 400
theorem plist_good {f : Wd} {hs : List Wd} {n : LNote} (h : PgGood f hs n) : (∀ w ∈ plist f hs n, NoB 13 w) ∧ ∀ w ∈ (plist f hs n).tail, w ≠ [] := by
  obtain ⟨h1, h2, h3⟩ := wrongS_ok h.wr
  have hp : ∀ w ∈ pheads n.props, NoB 13 w ∧ w ≠ [] := fun w hw => by
    obtain ⟨p, hp, rfl⟩ := List.mem_map.1 hw
    have hk := key_nob (propS_key (h2 p hp)) (c := 13) (by decide)
    exact ⟨NoB.app (NoB.app (NoB.app (by decide) hk) (by decide)) ((value_seen p).nob (by decide)), by simp [phead]⟩
  have hc : NoB 13 (clenW n.body.length) ∧ clenW n.body.length ≠ [] := ⟨NoB.app (by decide) ((seen_itoa _).nob (by decide)), by simp [clenW]⟩
  refine ⟨fun w hw => ?_, fun w hw => ?_⟩
  · simp only [plist, List.mem_cons, List.mem_append, List.not_mem_nil, or_false] at hw
    rcases hw with rfl | hw | hw | rfl
    · exact h.fst
    · exact (h.hds w hw).1
    · exact (hp w hw).1
    · exact hc.1
  · simp only [plist, List.tail_cons, List.mem_cons, List.mem_append, List.not_mem_nil, or_false] at hw
    rcases hw with hw | hw | rfl
    · exact (h.hds w hw).2
    · exact (hp w hw).2
    · exact hc.2
theorem plines_good {f : Wd} {hs : List Wd} {n : LNote} (h : PgGood f hs n) {b : Wd} (hb : (pcut b).1 = Lib.join (plist f hs n) crlf) : plines b = plist f hs n := by
  unfold plines
  rw [hb]
  exact split_join2 _ (by simp [plist]) (plist_good h).1
theorem parts_back {f : Wd} {hs : List Wd} {n : LNote} (h : PgGood f hs n) (more : Wd) : partsR (pageB f hs n ++ more) = ⟨f, hs, n, ((pageB f hs n).length : Int), 0⟩ := by
  obtain ⟨g1, g2⟩ := plist_good h
  have hl := h.ln
  have hsh := page_shape f hs n
  have htk : (pageB f hs n ++ more).take 400 = Lib.join (plist f hs n) crlf ++ (end4 ++ (n.body ++ more.take (400 - (pageB f hs n).length))) := by
    rw [List.take_append, List.take_of_length_le hl, hsh]
    simp
  have hc : pcut (pageB f hs n ++ more) = (Lib.join (plist f hs n) crlf, n.body ++ more.take (400 - (pageB f hs n).length), true) := by
    unfold pcut
    rw [htk]
    exact cut_end (by simp [plist]) g1 g2 _
  have hpl := plines_good h (b := pageB f hs n ++ more) (by rw [hc])
  have hlen : (pageB f hs n).length = (Lib.join (plist f hs n) crlf).length + 4 + n.body.length := by
    rw [hsh]
    simp [end4]
    omega
  unfold partsR
  rw [hc, hpl]
  simp only [Bool.true_eq_false, if_false]
  have hb := h.bk
  rw [show (plist f hs n).tail = hs ++ (pheads n.props ++ [clenW n.body.length]) from rfl, hb]
  simp only [partsE]
  rw [if_neg (by omega), if_neg (by omega), if_neg (by rw [List.length_append]; omega)]
  have hall : ((Lib.join (plist f hs n) crlf).length : Int) + 4 + (n.body.length : Int) = ((pageB f hs n).length : Int) := by omega
  rw [hall, Int.toNat_natCast]
  have hbd : ((pageB f hs n ++ more).take (pageB f hs n).length).drop ((Lib.join (plist f hs n) crlf).length + 4) = n.body := by
    rw [List.take_left, hsh, ← List.append_assoc, show (Lib.join (plist f hs n) crlf).length + 4 = (Lib.join (plist f hs n) crlf ++ end4).length by simp [end4]]
    exact List.drop_left
  rw [hbd]
  rfl
theorem join_len2 : ∀ (l : List Wd), (Lib.join l crlf).length ≤ (l.map List.length).sum + 2 * l.length
  | [] => by simp [Lib.join_nil]
  | [w] => by rw [Lib.join_one]; simp
  | w :: v :: r => by
    have := join_len2 (v :: r)
    rw [join_two]
    simp only [List.length_append, List.length_cons, List.length_nil, List.map_cons, List.sum_cons, crlf] at this ⊢
    omega
/-- a page is no longer than may be -/
theorem page_len {f : Wd} {hs : List Wd} {n : LNote} (h : wrongS n = 0) : (pageB f hs n).length ≤ f.length + (hs.map List.length).sum + 2 * hs.length + 240 := by
  obtain ⟨h1, h2, h3⟩ := wrongS_ok h
  have hs' : ∀ l : List LProp, (∀ p ∈ l, propS p = 0) → ((pheads l).map List.length).sum ≤ 37 * l.length := fun l => by
    induction l with
    | nil => intro; simp [pheads]
    | cons p r ih =>
      intro h
      have h1 := ih fun q hq => h q (List.mem_cons_of_mem _ hq)
      have hp0 := h p (List.mem_cons_self ..)
      have hv := value_len hp0
      have hk : p.key.data.toList.length ≤ 8 := (propS_ok hp0).1
      simp only [pheads, List.map_cons, List.sum_cons, phead, List.length_append, List.length_cons, List.length_nil] at h1 ⊢
      omega
  have hp := hs' _ h2
  have hj := join_len2 (plist f hs n)
  have hi := itoa_len (n := (n.body.length : Int)) (by omega) (by omega)
  rw [page_shape]
  simp only [plist, List.map_cons, List.map_append, List.sum_cons, List.sum_append, List.map_nil, List.sum_nil, List.length_append, List.length_cons, List.length_nil, clenW, end4] at hj ⊢
  simp only [pheads, List.length_map] at hj hp ⊢
  omega
end Go.Proofs.YtmlejhpeoiicpaaGreatDoor.Ab
namespace Go.Proofs.YtmlejhpeoiicpaaGreatDoor.Ab
open Go Go.RowKit
set_option linter.unusedVariables false

/-- a right ask's method and path -/
theorem path_ok {a : LAsk} (h : wrongAskS a = 0) : (Seen (pathW a).1 ∧ (pathW a).1.length ≤ 6) ∧ Seen (pathW a).2 ∧ (pathW a).2.length ≤ 30 := by
  obtain ⟨h1, h2, h3, h4, h5, h6⟩ := lwAsk_ok h
  have hq : Seen a.queue.data.toList ∧ a.queue.data.toList.length ≤ 8 := by
    cases hn : namedS a.kind
    · rw [h3 hn]; exact ⟨seen_nil, by simp⟩
    · obtain ⟨q1, q2, q3⟩ := key_seen (h2 hn)
      exact ⟨fun b hb => by have := q1 b hb; omega, q3⟩
  have hn : -1073741824 ≤ a.n ∧ a.n ≤ 1073741824 := by
    unfold lowS highS at h4
    split at h4 <;> split at h4 <;> (try split at h4) <;> omega
  have hil := itoa_len hn.1 hn.2
  have his := seen_itoa a.n
  unfold pathW
  generalize a.queue.data.toList = q at hq ⊢
  generalize Lib.itoa a.n = it at his hil ⊢
  obtain ⟨hq1, hq2⟩ := hq
  have c1 : ∀ l : Wd, l.all (fun b => decide (32 < b.toNat)) = true → Seen l := fun l h => seenB h
  unfold pathF
  repeat' split
  all_goals (
    dsimp only
    refine ⟨⟨c1 _ (by decide), by decide⟩, ?_, ?_⟩
    · first
      | exact c1 _ (by decide)
      | exact seen_app (seen_app (seen_app (c1 _ (by decide)) hq1) (c1 _ (by decide))) his
      | exact seen_app (seen_app (c1 _ (by decide)) hq1) (c1 _ (by decide))
      | exact seen_app (c1 _ (by decide)) hq1
      | exact seen_app (c1 _ (by decide)) his
    · simp only [List.length_append, List.length_cons, List.length_nil]
      omega)
theorem heads_none {n : LNote} (h : wrongS n = 0) : headsP [] [] (-1) ([] ++ (pheads n.props ++ [clenW n.body.length])) = some (n.props, [], (n.body.length : Int)) := by
  obtain ⟨h1, h2, h3⟩ := wrongS_ok h
  rw [List.nil_append, head_props _ _ _ _ _ h2, head_len (by omega)]
  simp
theorem ask_good {a : LAsk} (h : wrongAskS a = 0) : PgGood (firstW a) [] a.note := by
  obtain ⟨⟨p1, p2⟩, p3, p4⟩ := path_ok h
  obtain ⟨_, _, _, _, _, h6⟩ := lwAsk_ok h
  refine ⟨?_, fun w hw => (by cases hw), h6, heads_none h6, ?_⟩
  · exact NoB.app (NoB.app (NoB.app (p1.nob (by decide)) (by decide)) (p3.nob (by decide))) (by decide)
  · have := page_len (f := firstW a) (hs := []) h6
    simp only [firstW, List.length_append, List.length_cons, List.length_nil, List.map_nil, List.sum_nil] at this
    show (pageB (firstW a) [] a.note).length ≤ 400
    simp only [firstW]
    omega
theorem head_num {w : Wd} {n : Int} (h1 : -1073741824 ≤ n) (h2 : n ≤ 1073741824) : headN w (w ++ Lib.itoa n) = (n, true) := by
  unfold headN
  rw [trimPrefix_app, hasPrefix_app, number_itoa h1 h2]
  rfl
theorem head_cut {k : Wd} (hk : NoB 58 k) (v : Wd) : Lib.cut (k ++ [58, 32] ++ v) [58, 32] = (k, v, true) := by
  rw [List.append_assoc]
  exact cut_at2 (t := [32]) hk
theorem say_good {s : LSay} (h : wrongSayS s = 0) : ∃ f hs n, sayPg s = pageB f hs n ∧ PgGood f hs n ∧ wsayB f hs n = (s, 0) := by
  have w0 : wrongS note0 = 0 := by decide
  rcases lwSay_ok h with ⟨h2, hn, hm, he, hw⟩ | ⟨hk, hs, he1, he2⟩ | hs | hs
  · refine ⟨okW, [tagH ++ Lib.itoa s.n, triesH ++ Lib.itoa s.m], s.note, by unfold sayPg; rw [if_pos h2], ?_, ?_⟩
    · have c1 := head_cut (k := [116, 97, 103]) (by decide) (Lib.itoa s.n)
      have c2 := head_cut (k := [116, 114, 105, 101, 115]) (by decide) (Lib.itoa s.m)
      have hil := itoa_len (n := s.n) (by omega) (by omega)
      have him := itoa_len (n := s.m) (by omega) (by omega)
      refine ⟨by decide, fun w hw => ?_, hw, ?_, ?_⟩
      · simp only [List.mem_cons, List.not_mem_nil, or_false] at hw
        rcases hw with rfl | rfl
        · exact ⟨NoB.app (by decide) ((seen_itoa _).nob (by decide)), by simp [tagH]⟩
        · exact ⟨NoB.app (by decide) ((seen_itoa _).nob (by decide)), by simp [triesH]⟩
      · have := heads_none hw
        obtain ⟨h1, h2, h3⟩ := wrongS_ok hw
        rw [List.cons_append, List.cons_append, List.nil_append, head_plain (h := tagH ++ Lib.itoa s.n) c1 (by decide) (by decide), head_plain (h := triesH ++ Lib.itoa s.m) c2 (by decide) (by decide), head_props _ _ _ _ _ h2, head_len (by omega)]
        simp
      · have := page_len (f := okW) (hs := [tagH ++ Lib.itoa s.n, triesH ++ Lib.itoa s.m]) hw
        simp only [okW, tagH, triesH, List.map_cons, List.map_nil, List.sum_cons, List.sum_nil, List.length_append, List.length_cons, List.length_nil] at this ⊢
        omega
    · have es : (⟨2, s.n, s.m, 0, s.note⟩ : LSay) = s := by rw [← h2, ← he]
      unfold wsayB
      rw [if_pos ⟨rfl, by simp⟩]
      simp only [head_num (w := tagH) (n := s.n) (by omega) (by omega), head_num (w := triesH) (n := s.m) (by omega) (by omega), and_self, if_true]
      rw [es, h]
  · refine ⟨wrongW, [errorH ++ Lib.itoa s.err], note0, by unfold sayPg; rw [if_neg (by omega), if_neg (by omega), if_pos hk], ?_, ?_⟩
    · have c1 := head_cut (k := [101, 114, 114, 111, 114]) (by decide) (Lib.itoa s.err)
      have hil := itoa_len (n := s.err) (by omega) (by omega)
      refine ⟨by decide, fun w hw => ?_, w0, ?_, ?_⟩
      · rw [List.mem_singleton.1 hw]
        exact ⟨NoB.app (by decide) ((seen_itoa _).nob (by decide)), by simp [errorH]⟩
      · rw [List.cons_append, List.nil_append, head_plain (h := errorH ++ Lib.itoa s.err) c1 (by decide) (by decide), head_props _ _ _ _ _ (by simp [note0]), head_len (by decide)]
        simp [note0]
      · have := page_len (f := wrongW) (hs := [errorH ++ Lib.itoa s.err]) w0
        simp only [wrongW, errorH, List.map_cons, List.map_nil, List.sum_cons, List.sum_nil, List.length_append, List.length_cons, List.length_nil] at this ⊢
        omega
    · unfold wsayB
      rw [if_neg (by rintro ⟨h, _⟩; exact absurd h (by decide)), if_neg (by decide), if_neg (by decide), if_pos rfl]
      simp only [head_num (w := errorH) (n := s.err) (by omega) (by omega), if_true]
      rw [← hs, h]
  · have hp := page_len (f := okW) (hs := []) w0
    simp only [okW, List.map_nil, List.sum_nil, List.length_cons, List.length_nil] at hp
    refine ⟨okW, [], note0, by rw [hs]; rfl, ⟨by decide, fun w hw => (by cases hw), w0, heads_none w0, by simp only [okW]; omega⟩, ?_⟩
    rw [hs]
    rfl
  · have hp := page_len (f := noneW) (hs := []) w0
    simp only [noneW, List.map_nil, List.sum_nil, List.length_cons, List.length_nil] at hp
    refine ⟨noneW, [], note0, by rw [hs]; rfl, ⟨by decide, fun w hw => (by cases hw), w0, heads_none w0, by simp only [noneW]; omega⟩, ?_⟩
    rw [hs]
    rfl
theorem wsay_turn {s : LSay} (h : wrongSayS s = 0) (more : Wd) : wsayR (sayPg s ++ more) = (s, ((sayPg s).length : Int), 0) ∧ (sayPg s).length ≤ 400 := by
  obtain ⟨f, hs, n, e, hg, hw⟩ := say_good h
  rw [e]
  refine ⟨?_, hg.ln⟩
  unfold wsayR
  rw [parts_back hg]
  simp only [wsayE]
  rw [if_neg (by simp), hw, if_neg (by simp)]
/-! what is read -/
theorem parts_len {b : Wd} (h : (partsR b).err = 0) : 4 ≤ (partsR b).all ∧ (partsR b).all ≤ b.length ∧ (partsR b).all ≤ 400 := by
  unfold partsR at *
  split at h
  · split at h <;> cases h
  · rename_i h0
    rw [if_neg h0]
    generalize headsP [] [] (-1) (plines b).tail = x at *
    cases x with
    | none => cases h
    | some y =>
      obtain ⟨ps, hs, n⟩ := y
      simp only [partsE] at *
      split at h
      · cases h
      · split at h
        · cases h
        · split at h
          · cases h
          · rename_i h1 h2 h3
            rw [if_neg h1, if_neg h2, if_neg h3]
            simp only
            omega
theorem waskW_right {hs : List Wd} {n : LNote} {l : List Wd} (h : (waskW hs n l).2 = 0) : wrongAskS (waskW hs n l).1 = 0 := by
  unfold waskW at *
  split at h
  · split at h
    · rename_i h1
      rw [if_pos h1] at *
      split at h
      · rename_i h2
        rw [if_pos h2] at *
        exact h
      · cases h
    · cases h
  · cases h
theorem wask_right (b : Wd) : ((waskR b).2.2 = 0 ∧ wrongAskS (waskR b).1 = 0 ∧ 1 ≤ (waskR b).2.1 ∧ (waskR b).2.1 ≤ b.length ∧ (waskR b).2.1 ≤ 400) ∨ ((waskR b).2.2 ≠ 0 ∧ (waskR b).2.1 = 0 ∧ (waskR b).1 = lask0) := by
  have hl := parts_len (b := b)
  unfold waskR
  generalize partsR b = x at *
  unfold waskE
  by_cases h1 : x.err ≠ 0
  · rw [if_pos h1]; exact .inr ⟨h1, rfl, rfl⟩
  · rw [if_neg h1]
    have hl := hl (by simpa using h1)
    by_cases h2 : (waskW x.heads x.note (Lib.split x.first [32])).2 ≠ 0
    · rw [if_pos h2]; exact .inr ⟨h2, rfl, rfl⟩
    · rw [if_neg h2]
      refine .inl ⟨rfl, waskW_right (by simpa using h2), ?_⟩
      simp only
      omega
theorem wsayB_right {f : Wd} {hs : List Wd} {n : LNote} (h : (wsayB f hs n).2 = 0) : wrongSayS (wsayB f hs n).1 = 0 := by
  revert h
  unfold wsayB
  repeat' split
  all_goals (intro h; first | exact h | cases h)
theorem wsay_right (b : Wd) : ((wsayR b).2.2 = 0 ∧ wrongSayS (wsayR b).1 = 0 ∧ 1 ≤ (wsayR b).2.1 ∧ (wsayR b).2.1 ≤ b.length ∧ (wsayR b).2.1 ≤ 400) ∨ ((wsayR b).2.2 ≠ 0 ∧ (wsayR b).2.1 = 0 ∧ (wsayR b).1 = lsay0) := by
  have hl := parts_len (b := b)
  unfold wsayR
  generalize partsR b = x at *
  unfold wsayE
  by_cases h1 : x.err ≠ 0
  · rw [if_pos h1]; exact .inr ⟨h1, rfl, rfl⟩
  · rw [if_neg h1]
    have hl := hl (by simpa using h1)
    by_cases h2 : (wsayB x.first x.heads x.note).2 ≠ 0
    · rw [if_pos h2]; exact .inr ⟨h2, rfl, rfl⟩
    · rw [if_neg h2]
      refine .inl ⟨rfl, wsayB_right (by simpa using h2), ?_⟩
      simp only
      omega
end Go.Proofs.YtmlejhpeoiicpaaGreatDoor.Ab
namespace Go.Proofs.YtmlejhpeoiicpaaGreatDoor.Ab
open Go Go.RowKit
set_option linter.unusedVariables false

theorem nokG {n : LNote} (h : wrongS n = 0) : NOk n := by
  obtain ⟨h1, h2, h3⟩ := wrongS_ok h
  refine ⟨by omega, by omega, fun p hp => ?_⟩
  obtain ⟨q1, q2⟩ := propS_ok (h2 p hp)
  refine ⟨⟨?_, ?_⟩, ?_⟩ <;> omega
theorem pgokG {f : Wd} {hs : List Wd} {n : LNote} (h : wrongS n = 0) (hl : (pageB f hs n).length ≤ 1000000) (hh : hs.length ≤ 1000000) : PgOk f hs n := ⟨nokG h, hh, by unfold pageB at hl; rw [List.length_append] at hl; omega⟩
theorem wabokG {a : LAsk} (h : wrongAskS a = 0) : AQOk a := by
  obtain ⟨h1, h2, h3, h4, h5, h6⟩ := lwAsk_ok h
  have hn : -1073741824 ≤ a.n ∧ a.n ≤ 1073741824 := by
    unfold lowS highS at h4
    split at h4 <;> split at h4 <;> (try split at h4) <;> omega
  have hq : a.queue.data.toList.length ≤ 8 := by
    cases hn : namedS a.kind
    · rw [h3 hn]; simp
    · exact (key_seen (h2 hn)).2.2
  exact ⟨⟨by show a.queue.data.toList.length ≤ 1000000; omega, hn.1, hn.2⟩, pgokG h6 (by have := (ask_good h).ln; omega) (by simp)⟩
theorem wsbokG {s : LSay} (h : wrongSayS s = 0) : SQOk s := by
  have w0 : wrongS note0 = 0 := by decide
  obtain ⟨_, _, h3, h4, h5, h6, h7, h8, h9, _⟩ := wrongSay_ok h
  have hi1 := Lib.itoa_length_le s.n (by omega) (by omega)
  have hi2 := Lib.itoa_length_le s.m (by omega) (by omega)
  have hi3 := Lib.itoa_length_le s.err (by omega) (by omega)
  refine ⟨by omega, by omega, by omega, fun _ => pgokG h9 ?_ (by simp), fun _ => pgokG w0 ?_ (by simp)⟩
  · have := page_len (f := okW) (hs := [tagH ++ Lib.itoa s.n, triesH ++ Lib.itoa s.m]) h9
    simp only [okW, tagH, triesH, List.map_cons, List.map_nil, List.sum_cons, List.sum_nil, List.length_append, List.length_cons, List.length_nil] at this ⊢
    omega
  · have := page_len (f := wrongW) (hs := [errorH ++ Lib.itoa s.err]) w0
    simp only [wrongW, errorH, List.map_cons, List.map_nil, List.sum_cons, List.sum_nil, List.length_append, List.length_cons, List.length_nil] at this ⊢
    omega
end Go.Proofs.YtmlejhpeoiicpaaGreatDoor.Ab
