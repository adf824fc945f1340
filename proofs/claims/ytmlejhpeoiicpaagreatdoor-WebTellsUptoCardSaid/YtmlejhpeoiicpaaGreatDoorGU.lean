/-
  Texts of the proof, one behind the other: RlS RlT RlA RlB RlU RlV RlC RlD.
  No condition but those that each theorem names.
-/
import Derived.Test.YtmlejhpeoiicpaaGreatDoorGF
import Derived.Test.YtmlejhpeoiicpaaGreatDoorGG
import Derived.Test.YtmlejhpeoiicpaaGreatDoorGC
import Derived.Test.YtmlejhpeoiicpaaGreatDoorGI
import Derived.OrdersHeld
namespace Go.Proofs.YtmlejhpeoiicpaaGreatDoor.Ab
open Go Go.RowKit
set_option linter.unusedVariables false

/-- bytes of hex, one by one: what is there so far; false: a byte is none, or half is left -/
def ruh : Wd → Wd → Wd × Bool
  | acc, [] => (acc, true)
  | acc, [c] => if hexI c < 0 then ([], false) else (acc, false)
  | acc, a :: b :: r => if hexI a < 0 ∨ hexI b < 0 then ([], false) else ruh (acc ++ [hexB a b]) r
theorem ruh_same : ∀ (acc l : Wd), (ruh acc l).2 = (unhexS l).isSome ∧ ∀ v, unhexS l = some v → (ruh acc l).1 = acc ++ v
  | acc, [] => ⟨rfl, fun v h => by cases h; simp [ruh]⟩
  | acc, [c] => by
    rw [ruh, unhexS]
    refine ⟨?_, fun v h => by cases h⟩
    split <;> rfl
  | acc, a :: b :: r => by
    obtain ⟨h1, h2⟩ := ruh_same (acc ++ [hexB a b]) r
    rw [ruh, unhexS]
    split
    · exact ⟨rfl, fun v h => by cases h⟩
    · refine ⟨by rw [h1]; simp, fun v h => ?_⟩
      obtain ⟨u, hu, rfl⟩ := Option.map_eq_some_iff.1 h
      rw [h2 u hu]
      simp
theorem ruh_len : ∀ (acc l : Wd), (ruh acc l).1.length ≤ acc.length + l.length
  | acc, [] => by simp [ruh]
  | acc, [c] => by
    rw [ruh]
    split <;> simp
  | acc, a :: b :: r => by
    have := ruh_len (acc ++ [hexB a b]) r
    rw [ruh]
    split
    · simp
    · simp only [List.length_append, List.length_cons, List.length_nil] at this ⊢
      omega
theorem ruh_ok {l : Wd} : (ruh [] l).2 = (unhexR l).2 ∧ ((unhexR l).2 = true → (ruh [] l).1 = (unhexR l).1) := by
  obtain ⟨h1, h2⟩ := ruh_same [] l
  unfold unhexR
  refine ⟨h1, fun h => ?_⟩
  cases hu : unhexS l with
  | none => rw [hu] at h; cases h
  | some v => rw [h2 v hu]; simp
def rpropW (key s : Wd) : LProp × Bool :=
  if Lib.hasPrefix s [36] = true then (⟨bA key, 2, 0, bA (ruh [] (s.drop 1)).1⟩, (ruh [] (s.drop 1)).2)
  else if Lib.hasPrefix s [33] = true then (⟨bA key, 3, (numberS (s.drop 1)).1, ⟨#[]⟩⟩, (numberS (s.drop 1)).2)
  else (⟨bA key, 1, (numberS s).1, ⟨#[]⟩⟩, (numberS s).2)
theorem trim_drop {c : UInt8} {s : Wd} (h : Lib.hasPrefix s [c] = true) : Lib.trimPrefix s [c] = s.drop 1 := by
  unfold Lib.trimPrefix
  rw [if_pos h]
  rfl
theorem rprop_same (k s : Wd) : (rpropW k s).2 = (propW k s).2 ∧ ((propW k s).2 = true → (rpropW k s).1 = (propW k s).1) := by
  unfold rpropW propW
  by_cases h1 : Lib.hasPrefix s [36] = true
  · rw [if_pos h1, if_pos h1, trim_drop h1]
    obtain ⟨h2, h3⟩ := @ruh_ok (s.drop 1)
    exact ⟨h2, fun h => by simp only; rw [h3 h]⟩
  · rw [if_neg h1, if_neg h1]
    by_cases h2 : Lib.hasPrefix s [33] = true
    · rw [if_pos h2, if_pos h2, trim_drop h2]
      exact ⟨rfl, fun _ => rfl⟩
    · rw [if_neg h2, if_neg h2]
      exact ⟨rfl, fun _ => rfl⟩
/-! a line's words -/
end Go.Proofs.YtmlejhpeoiicpaaGreatDoor.Ab
namespace Go.Proofs.YtmlejhpeoiicpaaGreatDoor.Ab
open Go Go.RowKit
set_option linter.unusedVariables false

theorem count_same {sub : Wd} (hs : sub ≠ []) : ∀ (m n : Nat) (s : Wd), s.length < m → s.length < n → Lib.countFrom sub m s = Lib.countFrom sub n s
  | 0, _, s, h, _ => by omega
  | m + 1, 0, s, _, h => by omega
  | m + 1, n + 1, s, h1, h2 => by
    have hl : 1 ≤ sub.length := by
      cases sub with
      | nil => exact absurd rfl hs
      | cons a r => simp
    simp only [Lib.countFrom]
    by_cases hi : Lib.index s sub = -1
    · simp [hi]
    · have h0 : 0 ≤ Lib.index s sub := by have := Lib.index_ge s sub; omega
      have hr := Lib.index_room s sub h0
      have hne : (Lib.index s sub == -1) = false := by rw [beq_eq_false_iff_ne]; exact hi
      simp only [hne, Bool.false_eq_true, if_false]
      rw [count_same hs m n _ (by rw [List.length_drop]; omega) (by rw [List.length_drop]; omega)]
theorem split_hit {s sub : Wd} {k : Nat} (hs : sub ≠ []) (h : Lib.index s sub = k) : Lib.split s sub = s.take k :: Lib.split (s.drop (k + sub.length)) sub := by
  have hl : 1 ≤ sub.length := by
    cases sub with
    | nil => exact absurd rfl hs
    | cons a r => simp
  have hr := Lib.index_room s sub (by omega)
  have hne : ((k : Int) == -1) = false := by rw [beq_eq_false_iff_ne]; omega
  have hc : Lib.count s sub = Lib.count (s.drop (k + sub.length)) sub + 1 := by
    unfold Lib.count
    rw [Lib.countFrom, h, hne]
    simp only [Bool.false_eq_true, if_false, Int.toNat_natCast]
    rw [count_same hs s.length ((s.drop (k + sub.length)).length + 1) _ (by rw [List.length_drop]; omega) (by omega)]
    omega
  unfold Lib.split
  rw [hc, Lib.splitK, h, hne]
  simp only [Bool.false_eq_true, if_false, Int.toNat_natCast, Nat.add_zero]
theorem split_miss {s sub : Wd} (h : Lib.index s sub = -1) : Lib.split s sub = [s] := by
  have hc : Lib.count s sub = 0 := by
    unfold Lib.count
    rw [Lib.countFrom, h]
    rfl
  unfold Lib.split
  rw [hc]
  rfl
/-- what is at a place -/
theorem occ_slice {s sub : Wd} {i : Nat} (hi : i + sub.length ≤ s.length) : ((s.take (i + sub.length)).drop i == sub) = Lib.occAt s sub i := by
  rw [Lib.occAt_iff_take s sub i hi, List.drop_take]
  congr 2
  omega
theorem occ_far {s sub : Wd} {i : Nat} (hs : sub ≠ []) (hi : s.length < i + sub.length) : Lib.occAt s sub i = false := by
  cases ho : Lib.occAt s sub i
  · rfl
  · rcases Lib.occAt_room ho with h | h
    · omega
    · exact absurd h hs
theorem occ_drop (s sub : Wd) (f i : Nat) : Lib.occAt (s.drop f) sub i = Lib.occAt s sub (f + i) := by
  unfold Lib.occAt
  rw [List.drop_drop]
theorem index_here {s sub : Wd} {k : Nat} (hk : k ≤ s.length) (h : Lib.occAt s sub k = true) (hn : ∀ j, j < k → Lib.occAt s sub j = false) : Lib.index s sub = k := Lib.index_first hk h hn
theorem index_gone {s sub : Wd} {k : Nat} (hs : sub ≠ []) (hk : s.length < k + sub.length) (hn : ∀ j, j < k → Lib.occAt s sub j = false) : Lib.index s sub = -1 := Lib.index_none fun j _ => by
  by_cases h : j < k
  · exact hn j h
  · exact occ_far hs (by omega)
theorem cut_hit {s sub : Wd} {k : Nat} (h : Lib.index s sub = k) : Lib.cut s sub = (s.take k, s.drop (k + sub.length), true) := by
  unfold Lib.cut
  rw [h, if_pos (by omega), Int.toNat_natCast]
theorem cut_miss {s sub : Wd} (h : Lib.index s sub = -1) : Lib.cut s sub = (s, [], false) := by
  unfold Lib.cut
  rw [h, if_neg (by omega)]
/-! the names of asks -/
end Go.Proofs.YtmlejhpeoiicpaaGreatDoor.Ab
namespace Go.Proofs.YtmlejhpeoiicpaaGreatDoor.Ab
open Go Go.RowKit
set_option linter.unusedVariables false
set_option linter.unusedSimpArgs false

theorem con_rnumber (l : Wd) (hl : l.length ≤ 281474976710656) : Con Tryz.prog D 9 [.str l] ⟨.tup [.int .i64 (numberS l).1, .bool (numberS l).2], []⟩ := by
  have hok : GOk Tryz.prog D (tabG [eAtoi, eItoa]) := tabG_ok _
  have g1 := tabG_use (T := [eAtoi, eItoa]) (E := eAtoi) (i := 0) rfl (by decide) (l) (hl)
  have g2 := tabG_use (T := [eAtoi, eItoa]) (E := eItoa) (i := 1) rfl (by decide) ((atoiS l).1) (atoiS_range l)
  generalize tabG [eAtoi, eItoa] = G at *
  dsimp only [eAtoi] at g1
  dsimp only [eItoa] at g2
  unfold numberS
  generalize (atoiS l).1 = n at *
  generalize (atoiS l).2 = e at *
  refine conW (G := G) (rs := [(2, none), (3, none)]) hok Tryz.func9 Tryz.results9 Tryz.ntmps9 (fun _ => {}) fun X hP hD hG' hX => ?_
  simp only [argS, num]
  simp (disch := omega) only [go_sem, hD, hG', g1, unbox]
  refine RegT.mk [] ?_
  simp (disch := omega) only [go_sem, hD, hG', g2, unbox]
  and_intros
  all_goals (try (first | decide | omega | (first | (intro hk; refine ⟨hk, fun h2 => ?_⟩; first | (rw [hk, h2]; rfl) | (rw [hk, decide_eq_false h2]; rfl)) | (intro hk; rw [decide_eq_false hk]; rfl) | (intro hk; rw [hk]; rfl))))
  all_goals (first | (simp; done) | skip)
  all_goals (try (refine ⟨_, Wk.refl, _, rfl, [], [], rfl, rfl, ?_, ?_⟩ <;> simp only [go_sem]))
  all_goals (
    simp only [ge_iff_le]
    generalize decide (-1073741824 ≤ n) = b1
    generalize decide (n ≤ 1073741824) = b2
    generalize (Lib.itoa n == l) = b3
    cases e <;> cases b1 <;> cases b2 <;> cases b3 <;> rfl)
def eRnumber : Ent Tryz.prog D := ⟨9, Wd, fun l => [.str l], fun l => l.length ≤ 281474976710656, fun l => ⟨.tup [.int .i64 (numberS l).1, .bool (numberS l).2], []⟩, fun x y _ _ h => by
  simp only [List.cons.injEq, AV.str.injEq, and_true] at h
  rw [h], con_rnumber⟩
theorem hx1 (c : UInt8) : IntKind.u8.wrap ((c.toNat : Int).tdiv 16) = ((c.toNat / 16 : Nat) : Int) := by
  have h : ∀ n : Fin 256, IntKind.u8.wrap (((n.val : Nat) : Int).tdiv 16) = ((n.val / 16 : Nat) : Int) := by decide +kernel
  exact h ⟨c.toNat, c.toNat_lt⟩
theorem hx2 (k : Nat) (h : k < 16) : IntKind.u8.wrap ((k : Int) + 1) = ((k + 1 : Nat) : Int) := by
  have h' : ∀ n : Fin 16, IntKind.u8.wrap (((n.val : Nat) : Int) + 1) = ((n.val + 1 : Nat) : Int) := by decide +kernel
  exact h' ⟨k, h⟩
theorem hx3 (c : UInt8) : (c.toNat : Int).tmod 16 = ((c.toNat % 16 : Nat) : Int) := by
  rw [Int.tmod_eq_emod_of_nonneg (by omega)]
  omega
theorem hx5 (k : Nat) (h : k < 16) : List.drop k (48 :: List.take k ([49, 50, 51, 52, 53, 54, 55, 56, 57, 97, 98, 99, 100, 101, 102] : Wd)) = [hexL.getD k 0] := by
  have h' : ∀ n : Fin 16, List.drop n.val (48 :: List.take n.val ([49, 50, 51, 52, 53, 54, 55, 56, 57, 97, 98, 99, 100, 101, 102] : Wd)) = [hexL.getD n.val 0] := by decide +kernel
  exact h' ⟨k, h⟩
def rhexLo : Nat → Lo := fun _ => {}
set_option maxRecDepth 100000 in
theorem con_rhex (l : Wd) (hl : l.length ≤ 8388608) : Con Tryz.prog D 15 [.sl 1 (l.map byteRow)] ⟨.str (hexS l), []⟩ := by
  have hok : GOk Tryz.prog D (tabG []) := tabG_ok _
  generalize tabG [] = G at *
  refine conW (G := G) (rs := [(2, none)]) hok Tryz.func15 Tryz.results15 Tryz.ntmps15 (rhexLo) fun X hP hD hG' hX => ?_
  simp only [argS, num]
  simp (disch := omega) only [go_sem, hD, hG', unbox]
  refine Tr.loop (ι := Nat) (fun i => i ≤ l.length) (fun i => { nt := 29, tm := [(3, .str (hexS (l.take i))), (6, .sl 1 (l.map byteRow)), (7, .int .i64 l.length), (8, .int .i64 i)], bl := [] }) (fun i => l.length - i) 0
    ⟨Nat.zero_le _, wk_of hD [] rfl rfl (by simp only [go_sem]; simp [hexS]) (by simp only [go_sem])⟩ ?_
  intro i hi
  refine evC_sound hX rhexLo _ _ _ ?_
  simp (disch := omega) only [go_sem, hD, hG', unbox]
  refine condK_split (fun h => ?_) (fun h => ?_)
  · rw [decide_eq_true_eq] at h
    have hi1 : i < l.length := by omega
    have hgx := byteGet hi1
    have hti := take_byte hi1
    have htl : (hexS (l.take i)).length ≤ 2 * l.length := by rw [hexS_len, List.length_take]; omega
    generalize l.getD i 0 = c at *
    have hc := c.toNat_lt
    have hex : hexC c = [hexL.getD (c.toNat / 16) 0, hexL.getD (c.toNat % 16) 0] := rfl
    have q1 := hx1 c
    have q3 := hx3 c
    have k1 : c.toNat / 16 < 16 := by omega
    have k2 : c.toNat % 16 < 16 := by omega
    generalize c.toNat / 16 = u at *
    generalize c.toNat % 16 = v at *
    have q2 := hx2 u k1
    have q4 := hx2 v k2
    have q5 := hx5 u k1
    have q6 := hx5 v k2
    simp (disch := omega) only [go_sem, hD, hG', hgx, rhexLo, q1, q2, q3, q4, q5, q6, Int.toNat_natCast, unbox]
    (repeat (with_reducible refine And.intro (by first | omega | decide | (simp; done) | (simp only [List.length_append, List.length_cons, List.length_nil, List.length_map]; omega)) ?_))
    refine ⟨i + 1, ⟨by omega, by omega⟩, wk_of hD [] rfl rfl ?_ ?_⟩ <;> simp only [go_sem]
    simp [hti, hexS, hex]
  · rw [decide_eq_false_iff_not] at h
    have hie : i = l.length := by omega
    subst hie
    rw [List.take_length] at *
    simp (disch := omega) only [go_sem, hD, hG', unbox]
    refine endW [] [] (by simp) rfl rfl rfl ?_ ?_ <;> simp only [go_sem]
def eRhex : Ent Tryz.prog D := ⟨15, Wd, fun l => [.sl 1 (l.map byteRow)], fun l => l.length ≤ 8388608, fun l => ⟨.str (hexS l), []⟩, fun x y _ _ h => by
  simp only [List.cons.injEq, AV.sl.injEq, true_and, and_true] at h
  rw [bytes_inj h], con_rhex⟩
theorem hexI_cls (c : UInt8) : (48 ≤ c.toNat ∧ c.toNat ≤ 57 ∧ hexI c = (c.toNat : Int) - 48) ∨ (97 ≤ c.toNat ∧ c.toNat ≤ 102 ∧ hexI c = (c.toNat : Int) - 97 + 10) ∨ (¬ (48 ≤ c.toNat ∧ c.toNat ≤ 57) ∧ ¬ (97 ≤ c.toNat ∧ c.toNat ≤ 102) ∧ hexI c = -1) := by
  have h : ∀ n : Fin 256, (48 ≤ n.val ∧ n.val ≤ 57 ∧ hexI (UInt8.ofNat n.val) = (n.val : Int) - 48) ∨ (97 ≤ n.val ∧ n.val ≤ 102 ∧ hexI (UInt8.ofNat n.val) = (n.val : Int) - 97 + 10) ∨ (¬ (48 ≤ n.val ∧ n.val ≤ 57) ∧ ¬ (97 ≤ n.val ∧ n.val ≤ 102) ∧ hexI (UInt8.ofNat n.val) = -1) := by decide +kernel
  have := h ⟨c.toNat, c.toNat_lt⟩
  simpa using this
theorem hexB_arith (x y : UInt8) (hx : 0 ≤ hexI x) (hy : 0 ≤ hexI y) : IntKind.wrap .u8 (16 * hexI x + hexI y) = ((hexB x y).toNat : Int) := by
  have h : ∀ a b : Fin 16, IntKind.wrap .u8 (16 * (a.val : Int) + (b.val : Int)) = ((UInt8.ofNat (a.val * 16 + b.val)).toNat : Int) := by decide +kernel
  obtain ⟨_, h1⟩ := hexI_range x
  obtain ⟨_, h2⟩ := hexI_range y
  obtain ⟨a, ha⟩ := Int.eq_ofNat_of_zero_le hx
  obtain ⟨b, hb⟩ := Int.eq_ofNat_of_zero_le hy
  unfold hexB
  rw [ha, hb]
  exact h ⟨a, by omega⟩ ⟨b, by omega⟩
theorem drop_one {l : Wd} {i : Nat} (h : i < l.length) : l.drop i = l.getD i 0 :: l.drop (i + 1) := by
  rw [List.drop_eq_getElem_cons h]
  simp [h]
theorem u8sub {n k : Int} (h0 : k ≤ n) (hk : 0 ≤ k) (h1 : n < 256) : IntKind.u8.wrap (n - k) = n - k := by
  have : IntKind.u8.wrap (n - k) = (n - k) % 256 := by
    simp [IntKind.wrap, IntKind.bits, IntKind.signed]
  rw [this]
  omega
/-- a digit that waits -/
def hfI : Option UInt8 → Int
  | none => -1
  | some c => hexI c
def hfL : Option UInt8 → Wd
  | none => []
  | some c => [c]
def runhexLo : Nat → Lo := fun _ => {}
set_option maxRecDepth 100000 in
theorem con_runhex (l : Wd) (hl : l.length ≤ 8388608) : Con Tryz.prog D 11 [.str l] ⟨.tup [.sl 1 ((ruh [] l).1.map byteRow), .bool (ruh [] l).2], []⟩ := by
  have hok : GOk Tryz.prog D (tabG []) := tabG_ok _
  generalize tabG [] = G at *
  have hcon : ∀ r, r = ruh [] l → Con Tryz.prog D 11 [.str l] ⟨.tup [.sl 1 (r.1.map byteRow), .bool r.2], []⟩ := by
    intro r hr
    refine conW (G := G) (rs := [(2, none), (3, none)]) hok Tryz.func11 Tryz.results11 Tryz.ntmps11 (runhexLo) fun X hP hD hG' hX => ?_
    simp only [argS, num]
    simp (disch := omega) only [go_sem, hD, hG', runhexLo, unbox]
    refine Tr.loop (ι := Nat × Wd × Option UInt8) (fun x => x.1 ≤ l.length ∧ x.2.1.length ≤ x.1 ∧ r = ruh x.2.1 (hfL x.2.2 ++ l.drop x.1) ∧ ∀ c, x.2.2 = some c → 0 ≤ hexI c) (fun x => { nt := 61, tm := [(0, .str l), (4, .os 5000), (5, .int .i64 (hfI x.2.2)), (9, .int .i64 l.length), (10, .int .i64 x.1)], bl := [(5000, some (.rows 5 1 (x.2.1.map byteRow)))] }) (fun x => l.length - x.1) (0, [], none)
      ⟨⟨Nat.zero_le _, by simp, by simpa [hfL] using hr, by simp⟩, wk_of hD [] rfl rfl (by simp only [go_sem]; simp [hfI]) (by simp only [go_sem])⟩ ?_
    rintro ⟨i, out, hf⟩ ⟨hi, hol, hinv, hfc⟩
    simp only at hi hol hinv hfc
    refine evC_sound hX runhexLo _ _ _ ?_
    simp (disch := omega) only [go_sem, hD, hG', runhexLo, unbox]
    refine condK_split (fun h => ?_) (fun h => ?_)
    · rw [decide_eq_true_eq] at h
      have hi1 : i < l.length := by omega
      rw [drop_one hi1] at hinv
      have e1 : (i : Int).toNat = i := Int.toNat_natCast i
      generalize hx : l.getD i 0 = c at *
      have hc := c.toNat_lt
      have hcl := hexI_cls c
      have hne : hexI c < 0 → r = ([], false) := fun hn => by
        rw [hinv]
        cases hf with
        | none =>
          simp only [hfL, List.nil_append]
          cases l.drop (i + 1) with
          | nil => rw [ruh, if_pos hn]
          | cons b t => rw [ruh, if_pos (Or.inl hn)]
        | some x =>
          simp only [hfL, List.cons_append, List.nil_append]
          rw [ruh, if_pos (Or.inr hn)]
      have hno : hf = none → r = ruh out (hfL (some c) ++ l.drop (i + 1)) := fun hn => by rw [hinv, hn]; rfl
      have hso : ∀ x, hf = some x → 0 ≤ hexI c → r = ruh (out ++ [hexB x c]) (hfL none ++ l.drop (i + 1)) := fun x hn h0 => by
        have := hfc x hn
        rw [hinv, hn]
        simp only [hfL, List.cons_append, List.nil_append]
        rw [ruh, if_neg (by omega)]
      have hbb := fun x (hn : hf = some x) => hexB_arith x c (hfc x hn)
      have hrg := hexI_range c
      rcases hcl with ⟨c1, c2, hI⟩ | ⟨c1, c2, hI⟩ | ⟨c1, c2, hI⟩
      · have d1 : decide ((c.toNat : Int) ≥ 48) = true := by simp only [decide_eq_true_eq]; omega
        have d2 : decide ((c.toNat : Int) ≤ 57) = true := by simp only [decide_eq_true_eq]; omega
        have d3 : decide ((c.toNat : Int) ≥ 97) = false := by simp only [decide_eq_false_iff_not]; omega
        have q1 := (u8sub (n := c.toNat) (k := 48) (by omega) (by omega) (by omega)).trans hI.symm
        simp (disch := omega) only [go_sem, hD, hG', runhexLo, e1, hx, unbox]
        (repeat (with_reducible refine And.intro (by first | omega | decide | (simp; done) | (simp only [List.length_append, List.length_cons, List.length_nil, List.length_map]; omega)) ?_))
        refine RegT.mk [] ?_
        simp (disch := omega) only [go_sem, hD, hG', runhexLo, e1, hx, d1, d2, d3, q1, unbox]
        (repeat (with_reducible refine And.intro (by first | omega | decide | (simp; done) | (simp only [List.length_append, List.length_cons, List.length_nil, List.length_map]; omega)) ?_))
        refine RegT.mk [(4, false)] ?_
        have d7 : decide (hexI c < 0) = false := by simp only [decide_eq_false_iff_not]; omega
        cases hf with
        | none =>
          have hno := hno rfl
          simp (disch := omega) only [go_sem, hD, hG', runhexLo, e1, hx, d1, d2, d3, q1, d7, hfI, unbox]
          (repeat (with_reducible refine And.intro (by first | omega | decide | (simp; done) | (simp only [List.length_append, List.length_cons, List.length_nil, List.length_map]; omega)) ?_))
          refine ⟨(i + 1, out, some c), ⟨⟨by omega, by simp only; omega, hno, fun c1 h1 => by cases h1; omega⟩, by simp only; omega⟩, wk_of hD [(5000, 5000)] rfl rfl ?_ ?_⟩ <;> simp only [go_sem]
          simp [hfI]
        | some x =>
          have hso := hso x rfl (by omega)
          have hbb := hbb x rfl (by omega)
          have h0 := hfc x rfl
          have d8 : decide (hexI x < 0) = false := by simp only [decide_eq_false_iff_not]; omega
          generalize hexB x c = z at *
          simp (disch := omega) only [go_sem, hD, hG', runhexLo, e1, hx, d1, d2, d3, q1, d7, d8, hfI, hbb, unbox]
          (repeat (with_reducible refine And.intro (by first | omega | decide | (simp; done) | (simp only [List.length_append, List.length_cons, List.length_nil, List.length_map]; omega)) ?_))
          refine ⟨(i + 1, out ++ [z], none), ⟨⟨by omega, by simp; omega, hso, fun c1 h1 => by cases h1⟩, by simp only; omega⟩, wk_of hD [(5000, 56)] rfl rfl ?_ ?_⟩ <;> simp only [go_sem]
          · simp [hfI]
          · simp [byteRow]
            have hrx := hexI_range x
            rw [wrap64 (x := 16 * hexI x) (by omega) (by omega), wrap64 (x := 16 * hexI x + hexI c) (by omega) (by omega), hbb]
      · have d1 : decide ((c.toNat : Int) ≥ 48) = true := by simp only [decide_eq_true_eq]; omega
        have d2 : decide ((c.toNat : Int) ≤ 57) = false := by simp only [decide_eq_false_iff_not]; omega
        have d3 : decide ((c.toNat : Int) ≥ 97) = true := by simp only [decide_eq_true_eq]; omega
        have d4 : decide ((c.toNat : Int) ≤ 102) = true := by simp only [decide_eq_true_eq]; omega
        have q1 := u8sub (n := c.toNat) (k := 97) (by omega) (by omega) (by omega)
        have q2 := hI.symm
        simp (disch := omega) only [go_sem, hD, hG', runhexLo, e1, hx, unbox]
        (repeat (with_reducible refine And.intro (by first | omega | decide | (simp; done) | (simp only [List.length_append, List.length_cons, List.length_nil, List.length_map]; omega)) ?_))
        refine RegT.mk [] ?_
        simp (disch := omega) only [go_sem, hD, hG', runhexLo, e1, hx, d1, d2, d3, d4, q1, q2, unbox]
        (repeat (with_reducible refine And.intro (by first | omega | decide | (simp; done) | (simp only [List.length_append, List.length_cons, List.length_nil, List.length_map]; omega)) ?_))
        refine RegT.mk [] ?_
        have d7 : decide (hexI c < 0) = false := by simp only [decide_eq_false_iff_not]; omega
        cases hf with
        | none =>
          have hno := hno rfl
          simp (disch := omega) only [go_sem, hD, hG', runhexLo, e1, hx, d1, d2, d3, d4, q1, q2, d7, hfI, unbox]
          (repeat (with_reducible refine And.intro (by first | omega | decide | (simp; done) | (simp only [List.length_append, List.length_cons, List.length_nil, List.length_map]; omega)) ?_))
          refine ⟨(i + 1, out, some c), ⟨⟨by omega, by simp only; omega, hno, fun c1 h1 => by cases h1; omega⟩, by simp only; omega⟩, wk_of hD [(5000, 5000)] rfl rfl ?_ ?_⟩ <;> simp only [go_sem]
          simp [hfI]
        | some x =>
          have hso := hso x rfl (by omega)
          have hbb := hbb x rfl (by omega)
          have h0 := hfc x rfl
          have d8 : decide (hexI x < 0) = false := by simp only [decide_eq_false_iff_not]; omega
          generalize hexB x c = z at *
          simp (disch := omega) only [go_sem, hD, hG', runhexLo, e1, hx, d1, d2, d3, d4, q1, q2, d7, d8, hfI, hbb, unbox]
          (repeat (with_reducible refine And.intro (by first | omega | decide | (simp; done) | (simp only [List.length_append, List.length_cons, List.length_nil, List.length_map]; omega)) ?_))
          refine ⟨(i + 1, out ++ [z], none), ⟨⟨by omega, by simp; omega, hso, fun c1 h1 => by cases h1⟩, by simp only; omega⟩, wk_of hD [(5000, 56)] rfl rfl ?_ ?_⟩ <;> simp only [go_sem]
          · simp [hfI]
          · simp [byteRow]
            have hrx := hexI_range x
            rw [wrap64 (x := 16 * hexI x) (by omega) (by omega), wrap64 (x := 16 * hexI x + hexI c) (by omega) (by omega), hbb]
      · have hk : c.toNat < 48 ∨ (57 < c.toNat ∧ c.toNat < 97) ∨ 102 < c.toNat := by omega
        rcases hk with hk | hk | hk
        · have d1 : decide ((c.toNat : Int) ≥ 48) = false := by simp only [decide_eq_false_iff_not]; omega
          have d3 : decide ((c.toNat : Int) ≥ 97) = false := by simp only [decide_eq_false_iff_not]; omega
          simp (disch := omega) only [go_sem, hD, hG', runhexLo, e1, hx, unbox]
          (repeat (with_reducible refine And.intro (by first | omega | decide | (simp; done) | (simp only [List.length_append, List.length_cons, List.length_nil, List.length_map]; omega)) ?_))
          refine RegT.mk [(4, false)] ?_
          simp (disch := omega) only [go_sem, hD, hG', runhexLo, e1, hx, d1, d3, unbox]
          (repeat (with_reducible refine And.intro (by first | omega | decide | (simp; done) | (simp only [List.length_append, List.length_cons, List.length_nil, List.length_map]; omega)) ?_))
          refine RegT.mk [(4, false)] ?_
          simp (disch := omega) only [go_sem, hD, hG', runhexLo, e1, hx, d1, d3, unbox]
          (repeat (with_reducible refine And.intro (by first | omega | decide | (simp; done) | (simp only [List.length_append, List.length_cons, List.length_nil, List.length_map]; omega)) ?_))
          refine endW [] [] (by simp) rfl rfl rfl ?_ ?_ <;> simp only [go_sem]
          rw [hne (by omega)]
          simp
        · have d1 : decide ((c.toNat : Int) ≥ 48) = true := by simp only [decide_eq_true_eq]; omega
          have d2 : decide ((c.toNat : Int) ≤ 57) = false := by simp only [decide_eq_false_iff_not]; omega
          have d3 : decide ((c.toNat : Int) ≥ 97) = false := by simp only [decide_eq_false_iff_not]; omega
          simp (disch := omega) only [go_sem, hD, hG', runhexLo, e1, hx, unbox]
          (repeat (with_reducible refine And.intro (by first | omega | decide | (simp; done) | (simp only [List.length_append, List.length_cons, List.length_nil, List.length_map]; omega)) ?_))
          refine RegT.mk [] ?_
          simp (disch := omega) only [go_sem, hD, hG', runhexLo, e1, hx, d1, d2, d3, unbox]
          (repeat (with_reducible refine And.intro (by first | omega | decide | (simp; done) | (simp only [List.length_append, List.length_cons, List.length_nil, List.length_map]; omega)) ?_))
          refine RegT.mk [(4, false)] ?_
          simp (disch := omega) only [go_sem, hD, hG', runhexLo, e1, hx, d1, d2, d3, unbox]
          (repeat (with_reducible refine And.intro (by first | omega | decide | (simp; done) | (simp only [List.length_append, List.length_cons, List.length_nil, List.length_map]; omega)) ?_))
          refine endW [] [] (by simp) rfl rfl rfl ?_ ?_ <;> simp only [go_sem]
          rw [hne (by omega)]
          simp
        · have d1 : decide ((c.toNat : Int) ≥ 48) = true := by simp only [decide_eq_true_eq]; omega
          have d2 : decide ((c.toNat : Int) ≤ 57) = false := by simp only [decide_eq_false_iff_not]; omega
          have d3 : decide ((c.toNat : Int) ≥ 97) = true := by simp only [decide_eq_true_eq]; omega
          have d4 : decide ((c.toNat : Int) ≤ 102) = false := by simp only [decide_eq_false_iff_not]; omega
          simp (disch := omega) only [go_sem, hD, hG', runhexLo, e1, hx, unbox]
          (repeat (with_reducible refine And.intro (by first | omega | decide | (simp; done) | (simp only [List.length_append, List.length_cons, List.length_nil, List.length_map]; omega)) ?_))
          refine RegT.mk [] ?_
          simp (disch := omega) only [go_sem, hD, hG', runhexLo, e1, hx, d1, d2, d3, d4, unbox]
          (repeat (with_reducible refine And.intro (by first | omega | decide | (simp; done) | (simp only [List.length_append, List.length_cons, List.length_nil, List.length_map]; omega)) ?_))
          refine RegT.mk [] ?_
          simp (disch := omega) only [go_sem, hD, hG', runhexLo, e1, hx, d1, d2, d3, d4, unbox]
          (repeat (with_reducible refine And.intro (by first | omega | decide | (simp; done) | (simp only [List.length_append, List.length_cons, List.length_nil, List.length_map]; omega)) ?_))
          refine endW [] [] (by simp) rfl rfl rfl ?_ ?_ <;> simp only [go_sem]
          rw [hne (by omega)]
          simp
    · rw [decide_eq_false_iff_not] at h
      have hie : l.drop i = [] := List.drop_eq_nil_of_le (by omega)
      rw [hie] at hinv
      have hre : r = (out, hf.isNone) := by
        rw [hinv]
        cases hf with
        | none => simp [hfL, ruh]
        | some x =>
          have := hfc x rfl
          have : ¬ hexI x < 0 := by omega
          simp [hfL, ruh, this]
      cases hf with
      | none =>
        simp (disch := omega) only [go_sem, hD, hG', runhexLo, hfI, unbox]
        refine endW [5000] [] (by simp) rfl rfl rfl ?_ ?_ <;> simp only [go_sem]
        rw [hre]
        simp
      | some x =>
        have := hfc x rfl
        simp (disch := omega) only [go_sem, hD, hG', runhexLo, hfI, unbox]
        refine endW [5000] [] (by simp) rfl rfl rfl ?_ ?_ <;> simp only [go_sem]
        rw [hre]
        simp [this]
  exact hcon _ rfl
def eRunhex : Ent Tryz.prog D := ⟨11, Wd, fun l => [.str l], fun l => l.length ≤ 8388608, fun l => ⟨.tup [.sl 1 ((ruh [] l).1.map byteRow), .bool (ruh [] l).2], []⟩, fun x y _ _ h => by
  simp only [List.cons.injEq, AV.str.injEq, and_true] at h
  rw [h], con_runhex⟩
theorem pre_byte (c : UInt8) : ∀ s : Wd, Lib.hasPrefix s [c] = (decide ((s.length : Int) > 0) && ((s.getD 0 0).toNat : Int) == (c.toNat : Int))
  | [] => by simp [Lib.hasPrefix]
  | a :: r => by
    have hce : ((a.toNat : Int) == (c.toNat : Int)) = (a == c) := by
      rw [Bool.eq_iff_iff]
      simp only [beq_iff_eq]
      exact ⟨fun h => UInt8.toNat_inj.1 (by omega), fun h => by rw [h]⟩
    have hl : decide ((((a :: r).length : Nat) : Int) > 0) = true := by simp only [decide_eq_true_eq, List.length_cons]; omega
    rw [hl, Bool.true_and, List.getD_cons_zero, hce]
    simp [Lib.hasPrefix, List.isPrefixOf, Bool.beq_comm, eq_comm]
def rpropLo : Nat → Lo := fun id => match id with | 6 => {uo := [4, 6], un := [6]} | _ => {}
set_option maxRecDepth 100000 in
theorem con_rprop (key s : Wd) (hs : s.length ≤ 8388608) : Con Tryz.prog D 13 [.str key, .str s] ⟨.tup [.agg (propRow (rpropW key s).1), .bool (rpropW key s).2], []⟩ := by
  have hok : GOk Tryz.prog D (tabG [eRunhex, eRnumber]) := tabG_ok _
  have hd1 : (s.drop 1).length ≤ 8388608 := by rw [List.length_drop]; omega
  have g3 := tabG_use (T := [eRunhex, eRnumber]) (E := eRunhex) (i := 0) rfl (by decide) (s.drop 1) (hd1)
  have g4 := tabG_use (T := [eRunhex, eRnumber]) (E := eRnumber) (i := 1) rfl (by decide) (s.drop 1) (by show (s.drop 1).length ≤ 281474976710656; omega)
  have g5 := tabG_use (T := [eRunhex, eRnumber]) (E := eRnumber) (i := 1) rfl (by decide) (s) (by show s.length ≤ 281474976710656; omega)
  generalize tabG [eRunhex, eRnumber] = G at *
  dsimp only [eRunhex] at g3
  dsimp only [eRnumber] at g4
  dsimp only [eRnumber] at g5
  have hul := ruh_len [] (s.drop 1)
  have p1 : Lib.hasPrefix s [36] = (decide ((s.length : Int) > 0) && ((s.getD 0 0).toNat : Int) == 36) := pre_byte 36 s
  have p2 : Lib.hasPrefix s [33] = (decide ((s.length : Int) > 0) && ((s.getD 0 0).toNat : Int) == 33) := pre_byte 33 s
  unfold rpropW
  generalize Lib.hasPrefix s [36] = b1 at *
  generalize Lib.hasPrefix s [33] = b2 at *
  generalize ruh [] (s.drop 1) = u at *
  generalize numberS (s.drop 1) = n2 at *
  generalize numberS s = n1 at *
  obtain ⟨u1, u2⟩ := u
  obtain ⟨n21, n22⟩ := n2
  obtain ⟨n11, n12⟩ := n1
  simp only [List.length_nil] at g3 g4 g5 hul
  refine conW (G := G) (rs := [(4, some 36), (5, none)]) hok Tryz.func13 Tryz.results13 Tryz.ntmps13 (rpropLo) fun X hP hD hG' hX => ?_
  simp only [argS, num]
  simp (disch := omega) only [go_sem, hD, hG', rpropLo, unbox]
  by_cases h0 : s = []
  · subst h0
    have p1 : b1 = false := p1
    have p2 : b2 = false := p2
    subst p1 p2
    refine RegT.mk [(3, false)] ?_
    have z0 : (((0 : Nat) : Int) > 0) = False := by simp
    simp (disch := omega) only [go_sem, hD, hG', rpropLo, z0, if_false, unbox]
    (repeat (with_reducible refine And.intro (by first | omega | decide | (simp; done) | (simp only [List.length_append, List.length_cons, List.length_nil, List.length_map]; omega)) ?_))
    refine RegT.mk [(3, false)] ?_
    simp (disch := omega) only [go_sem, hD, hG', rpropLo, z0, if_false, g5, unbox]
    refine endW [] [] (by simp) rfl rfl rfl ?_ ?_ <;> simp only [go_sem]
    simp [propRow, bA, covs, cov, subs, namess, names]
  have dl : decide ((s.length : Int) > 0) = true := by simp only [decide_eq_true_eq]; cases s with | nil => exact absurd rfl h0 | cons a r => simp only [List.length_cons]; omega
  rw [dl, Bool.true_and] at p1 p2
  have p1 := p1.symm
  have p2 := p2.symm
  have hl0 : 0 < s.length := by simp only [decide_eq_true_eq] at dl; omega
  refine RegT.mk [] ?_
  cases b1
  · simp (disch := omega) only [go_sem, hD, hG', rpropLo, dl, p1, p2, unbox]
    (repeat (with_reducible refine And.intro (by first | omega | decide | (simp; done) | (simp only [List.length_append, List.length_cons, List.length_nil, List.length_map]; omega)) ?_))
    refine RegT.mk [] ?_
    cases b2
    · simp (disch := omega) only [go_sem, hD, hG', rpropLo, dl, p1, p2, g5, unbox]
      (repeat (with_reducible refine And.intro (by first | omega | decide | (simp; done) | (simp only [List.length_append, List.length_cons, List.length_nil, List.length_map]; omega)) ?_))
      refine endW [] [] (by simp) rfl rfl rfl ?_ ?_ <;> simp only [go_sem]
      simp [propRow, bA, covs, cov, subs, namess, names]
    · simp (disch := omega) only [go_sem, hD, hG', rpropLo, dl, p1, p2, List.take_length, g4, unbox]
      (repeat (with_reducible refine And.intro (by first | omega | decide | (simp; done) | (simp only [List.length_append, List.length_cons, List.length_nil, List.length_map]; omega)) ?_))
      refine endW [] [] (by simp) rfl rfl rfl ?_ ?_ <;> simp only [go_sem]
      simp [propRow, bA, covs, cov, subs, namess, names]
  · simp (disch := omega) only [go_sem, hD, hG', rpropLo, dl, p1, List.take_length, g3, unbox]
    (repeat (with_reducible refine And.intro (by first | omega | decide | (simp; done) | (simp only [List.length_append, List.length_cons, List.length_nil, List.length_map]; omega)) ?_))
    refine endW [] [] (by simp) rfl rfl rfl ?_ ?_ <;> simp only [go_sem]
    simp [propRow, bA, covs, cov, subs, namess, names]
def eRprop : Ent Tryz.prog D := ⟨13, Wd × Wd, fun x => [.str x.1, .str x.2], fun x => x.2.length ≤ 8388608, fun x => ⟨.tup [.agg (propRow (rpropW x.1 x.2).1), .bool (rpropW x.1 x.2).2], []⟩, fun x y _ _ h => by
  obtain ⟨a, b⟩ := x
  obtain ⟨a', b'⟩ := y
  simp only [List.cons.injEq, AV.str.injEq, and_true] at h
  rw [h.1, h.2], fun x h => con_rprop x.1 x.2 h⟩
end Go.Proofs.YtmlejhpeoiicpaaGreatDoor.Ab
namespace Go.Proofs.YtmlejhpeoiicpaaGreatDoor.Ab
open Go Go.RowKit
set_option linter.unusedVariables false
set_option linter.unusedSimpArgs false

theorem con_rcut (s sub : Wd) (hs : s.length ≤ 16777216) (hsub : 1 ≤ sub.length ∧ sub.length ≤ 256) : Con Tryz.prog D 98 [.str s, .str sub] ⟨.tup [.str (Lib.cut s sub).1, .str (Lib.cut s sub).2.1, .bool (Lib.cut s sub).2.2], []⟩ := by
  have hok : GOk Tryz.prog D (tabG []) := tabG_ok _
  generalize tabG [] = G at *
  have hcon : ∀ r, r = Lib.cut s sub → Con Tryz.prog D 98 [.str s, .str sub] ⟨.tup [.str r.1, .str r.2.1, .bool r.2.2], []⟩ := by
    intro r hr
    have hne : sub ≠ [] := fun h => by rw [h] at hsub; simp at hsub
    refine conW (G := G) (rs := [(4, none), (5, none), (6, none)]) hok Tryz.func98 Tryz.results98 Tryz.ntmps98 (fun _ => {}) fun X hP hD hG' hX => ?_
    simp only [argS, num]
    simp (disch := omega) only [go_sem, hD, hG', unbox]
    refine Tr.loop (ι := Nat) (fun i => i ≤ s.length ∧ ∀ j, j < i → Lib.occAt s sub j = false) (fun i => { nt := 36, tm := [(0, .str s), (1, .str sub), (7, .int .i64 i)], bl := [] }) (fun i => s.length - i) 0
      ⟨⟨Nat.zero_le _, fun j hj => absurd hj (Nat.not_lt_zero j)⟩, wk_of hD [] rfl rfl (by simp only [go_sem]; simp) (by simp only [go_sem])⟩ ?_
    rintro i ⟨hi, hnot⟩
    refine evC_sound hX (fun _ => {}) _ _ _ ?_
    simp (disch := omega) only [go_sem, hD, hG', unbox]
    refine condK_split (fun h => ?_) (fun h => ?_)
    · rw [decide_eq_true_eq] at h
      have hi1 : i + sub.length ≤ s.length := by omega
      have ho := occ_slice hi1
      have e1 : (i : Int).toNat = i := Int.toNat_natCast i
      have e2 : ((i : Int) + (sub.length : Int)).toNat = i + sub.length := by omega
      cases hp : Lib.occAt s sub i
      · rw [hp] at ho
        simp (disch := omega) only [go_sem, hD, hG', e1, e2, ho, unbox]
        (repeat (with_reducible refine And.intro (by first | omega | decide | (simp; done) | (simp only [List.length_append, List.length_cons, List.length_nil, List.length_map]; omega)) ?_))
        refine ⟨i + 1, ⟨⟨by omega, fun j hj => ?_⟩, by omega⟩, wk_of hD [] rfl rfl ?_ ?_⟩
        · by_cases hji : j = i
          · rw [hji]; exact hp
          · exact hnot j (by omega)
        all_goals simp only [go_sem]
        simp
      · rw [hp] at ho
        have hx := cut_hit (index_here (by omega) hp hnot)
        rw [hx] at hr
        simp (disch := omega) only [go_sem, hD, hG', e1, e2, ho, List.take_length, unbox]
        (repeat (with_reducible refine And.intro (by first | omega | decide | (simp; done) | (simp only [List.length_append, List.length_cons, List.length_nil, List.length_map]; omega)) ?_))
        refine endW [] [] (by simp) rfl rfl rfl ?_ ?_ <;> simp only [go_sem]
        simp [hr]
    · rw [decide_eq_false_iff_not] at h
      have hx := cut_miss (index_gone hne (k := i) (by omega) hnot)
      rw [hx] at hr
      simp (disch := omega) only [go_sem, hD, hG', unbox]
      refine endW [] [] (by simp) rfl rfl rfl ?_ ?_ <;> simp only [go_sem]
      simp [hr]
  exact hcon _ rfl
def eRcut : Ent Tryz.prog D := ⟨98, Wd × Wd, fun x => [.str x.1, .str x.2], fun x => x.1.length ≤ 16777216 ∧ (1 ≤ x.2.length ∧ x.2.length ≤ 256), fun x => ⟨.tup [.str (Lib.cut x.1 x.2).1, .str (Lib.cut x.1 x.2).2.1, .bool (Lib.cut x.1 x.2).2.2], []⟩, fun x y _ _ h => by
  obtain ⟨a, b⟩ := x
  obtain ⟨a', b'⟩ := y
  simp only [List.cons.injEq, AV.str.injEq, and_true] at h
  rw [h.1, h.2], fun x h => con_rcut x.1 x.2 h.1 h.2⟩
set_option maxRecDepth 100000 in
theorem con_rsplit (s sub : Wd) (hs : s.length ≤ 16777216) (hsub : 1 ≤ sub.length ∧ sub.length ≤ 256) : Con Tryz.prog D 77 [.str s, .str sub] ⟨.sl 1 ((Lib.split s sub).map strRow), []⟩ := by
  have hok : GOk Tryz.prog D (tabG []) := tabG_ok _
  generalize tabG [] = G at *
  have hcon : ∀ r, r = Lib.split s sub → Con Tryz.prog D 77 [.str s, .str sub] ⟨.sl 1 (r.map strRow), []⟩ := by
    intro r hr
    have hne : sub ≠ [] := fun h => by rw [h] at hsub; simp at hsub
    refine conW (G := G) (rs := [(4, none)]) hok Tryz.func77 Tryz.results77 Tryz.ntmps77 (fun _ => {}) fun X hP hD hG' hX => ?_
    simp only [argS, num]
    simp (disch := omega) only [go_sem, hD, hG', unbox]
    refine Tr.loop (ι := Nat × Nat × List Wd) (fun x => x.1 ≤ s.length ∧ x.2.1 ≤ x.1 ∧ x.2.2.length ≤ x.2.1 ∧ r = x.2.2 ++ Lib.split (s.drop x.2.1) sub ∧ ∀ j, x.2.1 ≤ j → j < x.1 → Lib.occAt s sub j = false) (fun x => { nt := 44, tm := [(0, .str s), (1, .str sub), (5, .os 5000), (6, .int .i64 x.2.1), (7, .int .i64 x.1)], bl := [(5000, some (.rows 9 1 (x.2.2.map strRow)))] }) (fun x => s.length - x.1) (0, 0, [])
      ⟨⟨Nat.zero_le _, Nat.le_refl _, Nat.le_refl _, by simpa using hr, fun j _ hj => absurd hj (Nat.not_lt_zero j)⟩, wk_of hD [] rfl rfl (by simp only [go_sem]; simp) (by simp only [go_sem])⟩ ?_
    rintro ⟨i, f, out⟩ ⟨hi, hfi, hol, hinv, hnot⟩
    simp only at hi hfi hol hinv hnot
    refine evC_sound hX (fun _ => {}) _ _ _ ?_
    simp (disch := omega) only [go_sem, hD, hG', unbox]
    have e1 : (i : Int).toNat = i := Int.toNat_natCast i
    have e3 : (f : Int).toNat = f := Int.toNat_natCast f
    refine condK_split (fun h => ?_) (fun h => ?_)
    · rw [decide_eq_true_eq] at h
      have hi1 : i + sub.length ≤ s.length := by omega
      have ho := occ_slice hi1
      have e2 : ((i : Int) + (sub.length : Int)).toNat = i + sub.length := by omega
      cases hp : Lib.occAt s sub i
      · rw [hp] at ho
        simp (disch := omega) only [go_sem, hD, hG', e1, e2, ho, unbox]
        (repeat (with_reducible refine And.intro (by first | omega | decide | (simp; done) | (simp only [List.length_append, List.length_cons, List.length_nil, List.length_map]; omega)) ?_))
        refine ⟨(i + 1, f, out), ⟨⟨by omega, by simp only; omega, hol, hinv, fun j h1 hj => ?_⟩, by simp only; omega⟩, wk_of hD [(5000, 5000)] rfl rfl ?_ ?_⟩
        · by_cases hji : j = i
          · rw [hji]; exact hp
          · exact hnot j h1 (by simp only at hj; omega)
        all_goals simp only [go_sem]
        simp
      · rw [hp] at ho
        have hx : Lib.index (s.drop f) sub = ((i - f : Nat) : Int) := index_here (by rw [List.length_drop]; omega) (by rw [occ_drop]; rw [show f + (i - f) = i by omega]; exact hp) (fun j hj => by rw [occ_drop]; exact hnot _ (by omega) (by omega))
        rw [split_hit hne hx, List.drop_drop, show f + (i - f + sub.length) = i + sub.length by omega, ← List.drop_take] at hinv
        generalize hw : List.drop f (List.take i s) = w at *
        simp (disch := omega) only [go_sem, hD, hG', e1, e2, e3, ho, hw, unbox]
        (repeat (with_reducible refine And.intro (by first | omega | decide | (simp; done) | (simp only [List.length_append, List.length_cons, List.length_nil, List.length_map]; omega)) ?_))
        refine ⟨(i + sub.length, i + sub.length, out ++ [w]), ⟨⟨by simp only; omega, Nat.le_refl _, by simp; omega, by simp [hinv], fun j h1 hj => by simp only at h1 hj; omega⟩, by simp only; omega⟩, wk_of hD [(5000, 30)] rfl rfl ?_ ?_⟩ <;> simp only [go_sem]
        · simp
        · simp [strRow]
    · rw [decide_eq_false_iff_not] at h
      have hx := split_miss (index_gone hne (s := s.drop f) (sub := sub) (k := i - f) (by rw [List.length_drop]; omega) (fun j hj => by rw [occ_drop]; exact hnot _ (by omega) (by omega)))
      rw [hx] at hinv
      simp (disch := omega) only [go_sem, hD, hG', e3, List.take_length, unbox]
      (repeat (with_reducible refine And.intro (by first | omega | decide | (simp; done) | (simp only [List.length_append, List.length_cons, List.length_nil, List.length_map]; omega)) ?_))
      refine endW [43] [] (by simp) rfl rfl rfl ?_ ?_ <;> simp only [go_sem]
      simp [hinv, strRow]
  exact hcon _ rfl
def eRsplit : Ent Tryz.prog D := ⟨77, Wd × Wd, fun x => [.str x.1, .str x.2], fun x => x.1.length ≤ 16777216 ∧ (1 ≤ x.2.length ∧ x.2.length ≤ 256), fun x => ⟨.sl 1 ((Lib.split x.1 x.2).map strRow), []⟩, fun x y _ _ h => by
  obtain ⟨a, b⟩ := x
  obtain ⟨a', b'⟩ := y
  simp only [List.cons.injEq, AV.str.injEq, and_true] at h
  rw [h.1, h.2], fun x h => con_rsplit x.1 x.2 h.1 h.2⟩
end Go.Proofs.YtmlejhpeoiicpaaGreatDoor.Ab
namespace Go.Proofs.YtmlejhpeoiicpaaGreatDoor.Ab
open Go Go.RowKit
set_option linter.unusedVariables false
set_option linter.unusedSimpArgs false

section
variable {P : Program} {D : Nat → TI} {S N0 : Nat → Prop} {B : Nat} {w0 : W0} {σ : AS} {a : Act} {w w' : World} {ρ : Env}
/-- a temporary that nobody knows -/
theorem St0.putN (h : St0 D S N0 B w0 ρ σ a w) {d : Nat} (hd : d < σ.nt) (hn : get d σ.tm = none) (v : Value) : St0 D S N0 B w0 ρ σ (a.put (some d) v) w :=
  (h.put hd (.junk v) (by simp [names])).retm fun t x hx => by
    simp only [get]
    rw [if_neg (fun e => by subst e; rw [hn] at hx; cases hx)]
    exact hx
/-- what lies behind grows -/
theorem St0.more (h : St0 D S N0 B w0 ρ σ a w) (j : Frm (fun _ => False) w.heap.size w w') : St0 D S N0 B w0 ρ σ a w' := by
  have := (h.step (w' := w') (ks := []) (nw := []) (up := []) j.os j.tape j.output j.size (fun b hb _ => j.block b hb fun h => h) (fun _ _ _ => rfl) (fun m hm => by simp [keys] at hm) (fun m hm => by simp [keys] at hm)
      (fun _ n y hy => by simp [get] at hy) (fun n y b hn => by simp [get] at hn) (fun n m y z b hn => by simp [get] at hn) (fun n y z b hn => by simp [get] at hn)).1
  rw [stepS_nil] at this
  exact this
theorem frm_refl (w : World) : Frm (fun _ => False) w.heap.size w w := ⟨rfl, rfl, rfl, Nat.le_refl _, fun _ _ _ => rfl⟩
theorem Frm.trans' {n : Nat} {w w' w'' : World} (h : Frm (fun _ => False) n w w') (h' : Frm (fun _ => False) w'.heap.size w' w'') (hn : n ≤ w'.heap.size) : Frm (fun _ => False) n w w'' :=
  ⟨h'.os.trans h.os, h'.tape.trans h.tape, h'.output.trans h.output, Nat.le_trans h.size h'.size, fun b hb hf => (h'.block b (Nat.lt_of_lt_of_le hb hn) hf).trans (h.block b hb hf)⟩
theorem frm_set {n : Nat} {w w' : World} (h : Frm (fun _ => False) n w w') {b : Nat} (hb : n ≤ b) (o : Obj) : Frm (fun _ => False) n w { w' with heap := w'.heap.setIfInBounds b o } :=
  ⟨h.os, h.tape, h.output, by simpa using h.size, fun k hk hf => by
    show (w'.heap.setIfInBounds b o)[k]? = _
    rw [Array.getElem?_setIfInBounds_ne (by omega)]
    exact h.block k hk hf⟩
theorem run_insert_at {t kt et : TypeId} (hu : P.underlying t = some (.map kt et)) {d : TypeDesc} (hk : P.underlying kt = some d) {W : World} {r : Nat} {es : Array MapEntry} {c : Nat} {k v : Value}
    (h0 : W.heap[r]? = some (.map es c)) (hik : MapKept.IsKey d k) (hf : Instr.findNow d k es.toList 0 = some none) :
    (Instr.mapUpdate t (.map (some r)) k v).run P W = .ok () { W with heap := W.heap.setIfInBounds r (.map (es.push ⟨k, v, c⟩) (c + 1)) } := by
  simp [Instr.mapUpdate, run_underlying hu, MapKept.run_getObj_map h0, MapKept.run_checkKey hk hik, MapKept.run_findKey hk hf, MapKept.run_setObj_map _ h0, Result.andThen]
end
/-- which operations may come, whatever has come -/
def mcL (l : List Nat) : Array Bool := ((List.range 13).map fun i => mem i l).toArray
def mcReady (ops : Array Oper) : Bool :=
  ops.size == 13 && Region.noSelect ops &&
  Region.free .any ops (mcL []) 4 && (Region.ready .any ops (mcL [])).contains 4 &&
  Region.free .any ops (mcL [4]) 5 && (Region.ready .any ops (mcL [4])).contains 5 &&
  Region.free .any ops (mcL [4, 5]) 6 && (Region.ready .any ops (mcL [4, 5])).contains 6 &&
  Region.free .any ops (mcL [4, 5, 6]) 8 && (Region.ready .any ops (mcL [4, 5, 6])).contains 8 &&
  Region.free .any ops (mcL [4, 5, 6, 8]) 9 && (Region.ready .any ops (mcL [4, 5, 6, 8])).contains 9 &&
  Region.ready .any ops (mcL [4, 5, 6, 8, 9]) == [0, 10] &&
  Region.ready .any ops (mcL [4, 5, 6, 8, 9, 0]) == [1, 2, 10] &&
  Region.ready .any ops (mcL [4, 5, 6, 8, 9, 0, 1]) == [2, 10] &&
  Region.ready .any ops (mcL [4, 5, 6, 8, 9, 0, 2]) == [1, 10] &&
  Region.ready .any ops (mcL [4, 5, 6, 8, 9, 0, 1, 2]) == [3, 10] &&
  Region.ready .any ops (mcL [4, 5, 6, 8, 9, 0, 1, 2, 3]) == [7, 10] &&
  Region.ready .any ops (mcL [4, 5, 6, 8, 9, 0, 1, 2, 3, 7]) == [10] &&
  Region.ready .any ops (mcL [4, 5, 6, 8, 9, 10]) == [0] &&
  Region.ready .any ops (mcL [4, 5, 6, 8, 9, 10, 0]) == [1, 2] &&
  Region.ready .any ops (mcL [4, 5, 6, 8, 9, 10, 0, 1]) == [2] &&
  Region.ready .any ops (mcL [4, 5, 6, 8, 9, 10, 0, 2]) == [1] &&
  Region.ready .any ops (mcL [4, 5, 6, 8, 9, 10, 0, 1, 2]) == [3] &&
  Region.ready .any ops (mcL [4, 5, 6, 8, 9, 10, 0, 1, 2, 3]) == [7] &&
  Region.ready .any ops (mcL [4, 5, 6, 8, 9, 10, 0, 1, 2, 3, 7]) == [11] &&
  Region.ready .any ops (mcL [4, 5, 6, 8, 9, 10, 0, 1, 2, 3, 7, 11]) == [12] &&
  Region.ready .any ops (mcL [4, 5, 6, 8, 9, 10, 0, 1, 2, 3, 7, 11, 12]) == []
theorem hv_put {a : Act} {l : List (Nat × Value)} (h : ∀ p ∈ l, a.eval (.tmp p.1) = p.2) {t : Nat} {v : Value} (ht : t < a.tmps.size) (hn : ∀ p ∈ l, t ≠ p.1) : ∀ p ∈ (t, v) :: l, (a.put (some t) v).eval (.tmp p.1) = p.2 := fun p hp => by
  rcases List.mem_cons.1 hp with rfl | hp
  · exact ev_put_self ht
  · rw [ev_put_ne (hn p hp)]
    exact h p hp
theorem mcS (l : List Nat) (i : Nat) : (mcL l).setIfInBounds i true = mcL (l ++ [i]) := by
  have hm : ∀ (j : Nat) (l : List Nat), mem j (l ++ [i]) = (mem j l || decide (j = i)) := fun j l => by
    induction l with
    | nil => simp [mem]
    | cons x r ih =>
      simp only [List.cons_append, mem, ih]
      by_cases h : j = x <;> simp [h]
  apply Array.ext
  · simp [mcL]
  · intro j h1 h2
    rw [Array.getElem_setIfInBounds (by simpa using h1)]
    simp only [mcL, List.getElem_toArray, List.getElem_map, List.getElem_range, hm]
    by_cases h : i = j
    · subst h; simp
    · rw [if_neg h]
      simp [Ne.symm h]
section
variable {X : Cx} {γ : Nat → Value} {ops : Array Oper} {Qx : Exit → Act → World → Prop} {σ : AS} {ρ : Env} {wb : World}
/-- what is known while a map is written out: the frame's state, what temporaries hold, where the map lies and its entries -/
structure Mc (X : Cx) (γ : Nat → Value) (σ : AS) (ρ : Env) (wb : World) (hv : List (Nat × Value)) (mp : Option (Nat × List MapEntry)) (a : Act) (w : World) : Prop where
  st : St0 X.D X.S X.N0 X.B ⟨X.w0, γ⟩ ρ σ a wb
  fr : Frm (fun _ => False) wb.heap.size wb w
  hv : ∀ p ∈ hv, a.eval (.tmp p.1) = p.2
  mp : ∀ b es, mp = some (b, es) → wb.heap.size ≤ b ∧ b < w.heap.size ∧ w.heap[b]? = some (.map es.toArray es.length)
variable {hv : List (Nat × Value)} {mp : Option (Nat × List MapEntry)} {a : Act} {w : World} {K : Act → World → Prop}
theorem Mc.put (h : Mc X γ σ ρ wb hv mp a w) {t : Nat} (ht : t < σ.nt) (hn : get t σ.tm = none) (hp : ∀ p ∈ hv, t ≠ p.1) (v : Value) : Mc X γ σ ρ wb ((t, v) :: hv) mp (a.put (some t) v) w :=
  ⟨h.st.putN ht hn v, h.fr, hv_put h.hv (by rw [h.st.nt.1]; exact ht) hp, h.mp⟩
theorem Mc.frm (h : Mc X γ σ ρ wb hv mp a w) {w' : World} (j : Frm (fun _ => False) w.heap.size w w') : Mc X γ σ ρ wb hv mp a w' :=
  ⟨h.st, h.fr.trans' j h.fr.size, h.hv, fun b es e => by
    obtain ⟨h1, h2, h3⟩ := h.mp b es e
    exact ⟨h1, Nat.lt_of_lt_of_le h2 j.size, by rw [j.block b h2 fun h => h]; exact h3⟩⟩
theorem mc_make (h : Mc X γ σ ρ wb hv none a w) {i m T ty : Nat} {p : String} {af : Array Edge} (ho : ops[i]? = some ⟨some m, .makeMap T none, ty, p, af, none⟩) (hm : m < σ.nt) (hn : get m σ.tm = none) (hp : ∀ p ∈ hv, m ≠ p.1)
    (hK : ∀ a' w' b, Mc X γ σ ρ wb ((m, .map (some b)) :: hv) (some (b, [])) a' w' → K a' w') : wpOp X.P ops Qx i (fun a' w' => Frm (fun _ => False) wb.heap.size wb w' ∧ K a' w') a w := by
  refine wpOp_plain ho rfl (wp_of_value (s := Instr.makeMap T none) (v := .map (some w.heap.size)) (w' := w.alloc (.map #[] 0)) rfl rfl ?_)
  have h1 := (h.frm (w' := w.alloc (.map #[] 0)) ⟨rfl, rfl, rfl, by simp, fun b hb _ => heap_alloc_old _ _ hb⟩).put hm hn hp (.map (some w.heap.size))
  exact ⟨h1.fr, hK _ _ w.heap.size ⟨h1.st, h1.fr, h1.hv, fun b es e => by
    cases e
    exact ⟨h.fr.size, by simp, heap_alloc_new w _⟩⟩⟩
theorem mc_ins {b : Nat} {es : List MapEntry} (h : Mc X γ σ ρ wb hv (some (b, es)) a w) {i m T kt et ty : Nat} {dk : TypeDesc} {k v : Value} {ko vo : Operand} {p : String} {af : Array Edge} (ho : ops[i]? = some ⟨none, .insert T (.tmp m) ko vo, ty, p, af, none⟩)
    (hko : a.eval ko = k) (hvo : a.eval vo = v) (hu : X.P.underlying T = some (.map kt et)) (hk : X.P.underlying kt = some dk) (hm : (m, Value.map (some b)) ∈ hv) (hik : MapKept.IsKey dk k) (hf : Instr.findNow dk k es 0 = some none)
    (hK : ∀ a' w', Mc X γ σ ρ wb hv (some (b, es ++ [⟨k, v, es.length⟩])) a' w' → K a' w') : wpOp X.P ops Qx i (fun a' w' => Frm (fun _ => False) wb.heap.size wb w' ∧ K a' w') a w := by
  obtain ⟨h1, h2, h3⟩ := h.mp b es rfl
  have hme := h.hv _ hm
  simp only at hme
  have hrun := run_insert_at (P := X.P) (v := v) hu hk h3 hik (by simpa using hf)
  have hex : execOp a.eval ⟨none, .insert T (.tmp m) ko vo, ty, p, af, none⟩ = (do Instr.mapUpdate T (a.eval (.tmp m)) (a.eval ko) (a.eval vo); pure .skip) := rfl
  rw [hme, hko, hvo] at hex
  refine wpOp_plain ho rfl (wp_of_skip hex rfl hrun ?_)
  have hfr := frm_set h.fr h1 (Obj.map (es.toArray.push ⟨k, v, es.length⟩) (es.length + 1))
  have e1 : es.toArray.push ⟨k, v, es.length⟩ = (es ++ [(⟨k, v, es.length⟩ : MapEntry)]).toArray := by simp
  refine ⟨hfr, hK _ _ ⟨h.st, hfr, h.hv, fun b' es' e => ?_⟩⟩
  cases e
  refine ⟨h1, by simpa using h2, ?_⟩
  show (w.heap.setIfInBounds b _)[b]? = _
  rw [Array.getElem?_setIfInBounds_self_of_lt h2, e1]
  simp
theorem mc_move (h : Mc X γ σ ρ wb hv mp a w) {i m s ty : Nat} {v : Value} {p : String} {af : Array Edge} (ho : ops[i]? = some ⟨some m, .move (.tmp s), ty, p, af, none⟩) (hs : (s, v) ∈ hv) (hm : m < σ.nt) (hn : get m σ.tm = none) (hp : ∀ p ∈ hv, m ≠ p.1)
    (hK : ∀ a' w', Mc X γ σ ρ wb ((m, v) :: hv) mp a' w' → K a' w') : wpOp X.P ops Qx i (fun a' w' => Frm (fun _ => False) wb.heap.size wb w' ∧ K a' w') a w := by
  refine wpOp_plain ho rfl (wp_of_value (s := pure v) (v := v) (w' := w) (by
    have hex : execOp a.eval ⟨some m, .move (.tmp s), ty, p, af, none⟩ = (pure (.value (a.eval (.tmp s)))) := rfl
    rw [hex, h.hv _ hs]
    rfl) rfl ?_)
  exact ⟨h.fr, hK _ _ (h.put hm hn hp v)⟩
theorem mc_look {b : Nat} {es : List MapEntry} (h : Mc X γ σ ρ wb hv (some (b, es)) a w) {i m r T kt et ty : Nat} {dk : TypeDesc} {k v z : Value} {ko : Operand} {p : String} {af : Array Edge} (ho : ops[i]? = some ⟨some r, .lookup T (.tmp m) ko false, ty, p, af, none⟩)
    (hko : a.eval ko = k) (hu : X.P.underlying T = some (.map kt et)) (hk : X.P.underlying kt = some dk) (hz : ∀ W, (zeroValue et).run X.P W = .ok z W) (hm : (m, Value.map (some b)) ∈ hv) (hik : MapKept.IsKey dk k) (hl : lookV dk k z (es.map fun e => (e.key, e.val)) = some v)
    (hr : r < σ.nt) (hn : get r σ.tm = none) (hp : ∀ p ∈ hv, r ≠ p.1)
    (hK : ∀ a' w', Mc X γ σ ρ wb ((r, v) :: hv) (some (b, es)) a' w' → K a' w') : wpOp X.P ops Qx i (fun a' w' => Frm (fun _ => False) wb.heap.size wb w' ∧ K a' w') a w := by
  obtain ⟨h1, h2, h3⟩ := h.mp b es rfl
  have hme := h.hv _ hm
  simp only at hme
  obtain ⟨f, hf1, hf2⟩ := lookV_find (i := 0) (arr := es) hl rfl
  have hex : execOp a.eval ⟨some r, .lookup T (.tmp m) ko false, ty, p, af, none⟩ = (do pure (.value (← Instr.lookup T (a.eval (.tmp m)) (a.eval ko) false))) := rfl
  refine wpOp_plain ho rfl (wp_of_value hex (v := v) (w' := w) ?_ ⟨h.fr, hK _ _ (h.put hr hn hp v)⟩)
  rw [hme, hko]
  have := run_lookup_lit T kt et hu dk hk w b es.toArray es.length k false h3 z (hz w) hik f (by simpa using hf1)
  rw [this]
  simp [hf2]
theorem mc_call (hX : X.Ok) (h : Mc X γ σ ρ wb hv mp a w) {i r F ty s : Nat} {n : Int} {it : List UInt8} {p : String} {af : Array Edge} {ts : Array Nat} (ho : ops[i]? = some ⟨some r, .call ⟨.value (.func F), #[.tmp s], ts⟩, ty, p, af, none⟩)
    (hg : X.G F [.int .i64 n] = some ⟨.str it, []⟩) (hs : (s, Value.int .i64 n) ∈ hv) (hr : r < σ.nt) (hn : get r σ.tm = none) (hp : ∀ p ∈ hv, r ≠ p.1)
    (hK : ∀ a' w', Mc X γ σ ρ wb ((r, .string ⟨⟨it⟩⟩) :: hv) mp a' w' → K a' w') : wpOp X.P ops Qx i (fun a' w' => Frm (fun _ => False) wb.heap.size wb w' ∧ K a' w') a w := by
  refine wpOp_plain ho rfl ?_
  obtain ⟨⟨fn, hfn, hname, hbody⟩, hcon⟩ := hX.calls F _ _ hg
  have hst := h.st.more h.fr
  have hse := h.hv _ hs
  simp only at hse
  have hcall := hcon w _ ρ #[a.eval (.tmp s)] hst.imOk (by
    rw [hse]
    exact ⟨rfl, fun i x v hx hv => by
      match i with
      | 0 => simp at hx hv; subst hx hv; exact .int _ _
      | i + 1 => simp at hx⟩)
  unfold Oper.wp
  have hex : (execOp a.eval ⟨some r, .call ⟨.value (.func F), #[.tmp s], ts⟩, ty, p, af, none⟩).run X.P w = .ok (.enter F #[a.eval (.tmp s)]) w := by
    have hn' : ¬ fn.name = "runtime.NumGoroutine" := by simpa using hname
    have hb' : ¬ fn.body = none := by rintro e; rw [e] at hbody; cases hbody
    have hv : a.eval (.func F) = .func (.func F) #[] #[] := rfl
    simp [execOp, resolve, hv, Deferred.ofValue, invoke, callFunc, program, Sem.run, hfn, hn', hb']
  rw [hex, Oper.upon_enter]
  refine hcall.mono fun en w' hpost => ?_
  obtain ⟨v, rfl, hfr, ρo, _, _, hrel, _⟩ := hpost
  rw [hrel.str_]
  have h1 := (h.frm hfr).put hr hn hp (.string ⟨⟨it⟩⟩)
  exact ⟨h1.fr, hK _ _ h1⟩
theorem mc_add (h : Mc X γ σ ρ wb hv mp a w) {i ad x y T T2 ty : Nat} {u it : List UInt8} {p : String} {af : Array Edge} (ho : ops[i]? = some ⟨some ad, .binOp .add T (.tmp x) (.tmp y) T2, ty, p, af, none⟩)
    (hx : (x, Value.string ⟨⟨u⟩⟩) ∈ hv) (hy : (y, Value.string ⟨⟨it⟩⟩) ∈ hv) (hl : u.length + it.length ≤ 1099511627776) (hm : ad < σ.nt) (hn : get ad σ.tm = none) (hp : ∀ p ∈ hv, ad ≠ p.1)
    (hK : ∀ a' w', Mc X γ σ ρ wb ((ad, .string ⟨⟨u ++ it⟩⟩) :: hv) mp a' w' → K a' w') : wpOp X.P ops Qx i (fun a' w' => Frm (fun _ => False) wb.heap.size wb w' ∧ K a' w') a w := by
  have hex : execOp a.eval ⟨some ad, .binOp .add T (.tmp x) (.tmp y) T2, ty, p, af, none⟩ = (do pure (.value (← (do eqGuard .add T (.tmp x) (.tmp y) (a.eval (.tmp x)) (a.eval (.tmp y)); binOp .add T (a.eval (.tmp x)) (a.eval (.tmp y)))))) := rfl
  refine wpOp_plain ho rfl (wp_of_value hex (v := .string ⟨⟨u ++ it⟩⟩) (w' := w) ?_ ⟨h.fr, hK _ _ (h.put hm hn hp _)⟩)
  have e1 := h.hv _ hx
  have e2 := h.hv _ hy
  simp only at e1 e2
  rw [e1, e2]
  have z1 : (⟨⟨u⟩⟩ : ByteArray).size = u.length := rfl
  have z2 : (⟨⟨it⟩⟩ : ByteArray).size = it.length := rfl
  have ha : (⟨⟨u⟩⟩ : ByteArray) ++ ⟨⟨it⟩⟩ = ⟨⟨u ++ it⟩⟩ := ByteArray.ext (by simp)
  simp [eqGuard, binOp, Op.stringOp, ha, z1, z2, IntKind.max, IntKind.signed, IntKind.bits]
  omega
set_option maxHeartbeats 8000000 in
/-- a region: a map of two entries that is written out, asked whether a field is so; a call with another field; both texts one behind the other -/
theorem Tr.mapcall (hX : X.Ok) {id : Nat} {Q : Exit → AS → Prop} (hrd : mcReady ops = true) {m m2 a1 l1 q r a2 l2 cl ad out s : Nat} {T kt et F T3 f1 f2 U S2 S3 U2 v off fo1 fo2 : Nat} {k1 k2 : Bool} {x1 x2 it u : List UInt8} {kind n c : Int} {cs : List AV} {fs : List (Nat × Nat)} {ts : Array Nat}
    {y0 y1 y2 y3 y4 y5 y6 y7 y8 y9 y10 y11 y12 : Nat} {p0 p1 p2 p3 p4 p5 p6 p7 p8 p9 p10 p11 p12 : String} {e0 e1 e2 e3 e4 e5 e6 e7 e8 e9 e10 e11 e12 : Array Edge}
    (h0 : ops[0]? = some ⟨some m, .makeMap T none, y0, p0, e0, none⟩) (h1 : ops[1]? = some ⟨none, .insert T (.tmp m) (.const (.bool k1)) (.const (.string ⟨⟨x1⟩⟩)), y1, p1, e1, none⟩) (h2 : ops[2]? = some ⟨none, .insert T (.tmp m) (.const (.bool k2)) (.const (.string ⟨⟨x2⟩⟩)), y2, p2, e2, none⟩)
    (h3 : ops[3]? = some ⟨some m2, .move (.tmp m), y3, p3, e3, none⟩) (h4 : ops[4]? = some ⟨some a1, .fieldAddr T3 (.tmp s) f1, y4, p4, e4, none⟩) (h5 : ops[5]? = some ⟨some l1, .load U (.tmp a1), y5, p5, e5, none⟩)
    (h6 : ops[6]? = some ⟨some q, .binOp .eql U (.tmp l1) (.const (.int .i64 c)) U2, y6, p6, e6, none⟩) (h7 : ops[7]? = some ⟨some r, .lookup T (.tmp m2) (.tmp q) false, y7, p7, e7, none⟩)
    (h8 : ops[8]? = some ⟨some a2, .fieldAddr T3 (.tmp s) f2, y8, p8, e8, none⟩) (h9 : ops[9]? = some ⟨some l2, .load U (.tmp a2), y9, p9, e9, none⟩) (h10 : ops[10]? = some ⟨some cl, .call ⟨.value (.func F), #[.tmp l2], ts⟩, y10, p10, e10, none⟩)
    (h11 : ops[11]? = some ⟨some ad, .binOp .add S2 (.tmp r) (.tmp cl) S3, y11, p11, e11, none⟩) (h12 : ops[12]? = some ⟨some out, .assign (.tmp ad), y12, p12, e12, none⟩)
    (hu : X.P.underlying T = some (.map kt et)) (hk : X.P.underlying kt = some .bool) (hz : ∀ W, (zeroValue et).run X.P W = .ok (.string ⟨#[]⟩) W) (hk12 : k1 = !k2) (hlk : u = if (kind == c) = k1 then x1 else x2)
    (hg : X.G F [.int .i64 n] = some ⟨.str it, []⟩) (hul : u.length + it.length ≤ 1099511627776)
    (hU : isOther (X.D U).k = false ∧ (∀ fs, (X.D U).k ≠ .struct fs)) (hk3 : (X.D T3).k = .struct fs) (hf1 : fs[f1]? = some (fo1, U)) (hf2 : fs[f2]? = some (fo2, U)) (hE : ev σ (.tmp s) = .ptr v off) (hbl : blk σ v = some (.cells cs)) (hc1 : cs[off + fo1]? = some (.int .i64 kind)) (hc2 : cs[off + fo2]? = some (.int .i64 n))
    (hlt : [m, m2, a1, l1, q, r, a2, l2, cl, ad, out].all (fun t => decide (t < σ.nt)) = true) (hnn : [m, m2, a1, l1, q, r, a2, l2, cl, ad].all (fun t => (get t σ.tm).isNone) = true) (hdd : [s, m, m2, a1, l1, q, r, a2, l2, cl, ad].Nodup)
    (hQ : ∀ c σ', ¬ Q (.panic c) σ') (HQ : Q .normal { σ with tm := (out, .str (u ++ it)) :: σ.tm }) : Tr X (.region id ops true) Q σ := by
  intro γ a w hst
  simp only [mcReady, Bool.and_eq_true, beq_iff_eq] at hrd
  obtain ⟨⟨⟨⟨⟨⟨⟨⟨⟨⟨⟨⟨⟨⟨⟨⟨⟨⟨⟨⟨⟨⟨⟨⟨⟨⟨⟨hsz, hns⟩, f4⟩, c4⟩, f5⟩, c5⟩, f6⟩, c6⟩, f8⟩, c8⟩, f9⟩, c9⟩, r1⟩, r2⟩, r3⟩, r4⟩, r5⟩, r6⟩, r7⟩, r8⟩, r9⟩, r10⟩, r11⟩, r12⟩, r13⟩, r14⟩, r15⟩, r16⟩ := hrd
  simp only [List.all_cons, List.all_nil, Bool.and_true, Bool.and_eq_true, decide_eq_true_eq, Option.isNone_iff_eq_none] at hlt hnn
  obtain ⟨t0, t1, t2, t3, t4, t5, t6, t7, t8, t9, t10⟩ := hlt
  obtain ⟨g0, g1, g2, g3, g4, g5, g6, g7, g8, g9⟩ := hnn
  obtain ⟨ρ, hst⟩ := hst
  have hst := hst.same (w' := { w with drawn := w.drawn + 1 }) rfl rfl rfl rfl
  refine wp_region_held (S := Frm (fun _ => False) ({ w with drawn := w.drawn + 1 } : World).heap.size { w with drawn := w.drawn + 1 }) hX.mixed ?_
  rw [hsz, show Array.replicate 13 false = mcL [] by decide]
  generalize ({ w with drawn := w.drawn + 1 } : World) = w at hst ⊢
  have hQ' : ∀ (oi : Oper) (v : Value), ∀ (c : _) (a : Act) (w : World), (∃ σ', Q (.panic c) σ' ∧ X.St γ σ' (a.put oi.dst v) w) → ∃ σ', Q (.panic c) σ' ∧ X.St γ σ' a w := fun oi v c a w ⟨σ', h, _⟩ => absurd h (hQ c σ')
  -- the fields
  obtain ⟨flds, hu3, hfb⟩ := ty_struct hX.types hk3
  have hv3 := (hst.ev (.tmp s)).1
  rw [hE] at hv3
  obtain ⟨b0, hb0, hv3⟩ : ∃ b0, (ρ v).b = some b0 ∧ a.eval (.tmp s) = .pointer (some ⟨b0, off, none⟩) := by
    generalize a.eval (.tmp s) = u at hv3
    cases hv3 with
    | ptr _ _ b h => exact ⟨b, h, rfl⟩
  obtain ⟨b1, arr, T', z1, z2, z3, z4⟩ := hst.hp.blk v (.cells cs) hbl
  rw [hb0] at z1
  cases z1
  have hag : ∀ w, (isAgg U).run X.P w = .ok false w := fun w => by
    have := ty_isAgg hX.types (T := U) hU.1 w
    rw [this]
    have h2 := hU.2
    cases hk : (X.D U).k <;> simp_all
  have hadr : ∀ (a : Act) (w : World) (t f fo ty : Nat) (p : String) (af : Array Edge), fs[f]? = some (fo, U) → a.eval (.tmp s) = .pointer (some ⟨b0, off, none⟩) → (execOp a.eval ⟨some t, .fieldAddr T3 (.tmp s) f, ty, p, af, none⟩).run X.P w = .ok (.value (.pointer (some ⟨b0, off + fo, none⟩))) w := fun a w t f fo ty p af hf ha => by
    obtain ⟨fd, g1, g2, g3, g4, g5⟩ := ty_field hfb f fo U hf
    have hsz : (sizeOf fd.type).run X.P w = .ok (X.D U).n w := by
      unfold sizeB at g4
      rw [g3]
      obtain ⟨i, hi, hi2⟩ := Option.map_eq_some_iff.1 g4
      simp [sizeOf, typeInfo, hi, hi2]
    have g1' : flds[f]? = some fd := by rw [← g1]; simp
    have hex : execOp a.eval ⟨some t, .fieldAddr T3 (.tmp s) f, ty, p, af, none⟩ = (do pure (.value (← Instr.fieldAt T3 (a.eval (.tmp s)) f))) := rfl
    rw [hex, ha]
    have hrun : (Instr.fieldAt T3 (.pointer (some ⟨b0, off, none⟩)) f).run X.P w = .ok (.pointer (some ⟨b0, off + fo, none⟩)) w := by
      have h6 : ¬ (X.D U).n = 0 := by omega
      simp [Instr.fieldAt, run_underlying hu3, g1', Instr.sureAddr, fieldPlace, hsz, h6, g2, add_flat']
    simp only [Sem.run_bind, hrun, Result.andThen_ok, Sem.run_pure]
  have hload : ∀ (a : Act) (w' : World) (t fo ty : Nat) (n : Int) (p : String) (af : Array Edge) (s : Nat), cs[off + fo]? = some (.int .i64 n) → a.eval (.tmp s) = .pointer (some ⟨b0, off + fo, none⟩) → Frm (fun _ => False) w.heap.size w w' → (execOp a.eval ⟨some t, .load U (.tmp s), ty, p, af, none⟩).run X.P w' = .ok (.value (.int .i64 n)) w' := fun a w' t fo ty n p af s hc ha hf => by
    have hlt : off + fo < arr.size := by have := (List.getElem?_eq_some_iff.1 hc).1; omega
    obtain ⟨y1, y2⟩ := z4 (off + fo) _ arr[off + fo] hc (by simp [hlt])
    have hcell : w'.cell? ⟨b0, off + fo, none⟩ = some (.int .i64 n) := by
      unfold World.cell?
      rw [hf.block b0 (Array.getElem?_eq_some_iff.1 z2).1 (fun h => h), z2]
      have := y2.int_
      simp [hlt, this]
    have hex : execOp a.eval ⟨some t, .load U (.tmp s), ty, p, af, none⟩ = (do pure (.value (← Instr.loadAt U (a.eval (.tmp s))))) := rfl
    rw [hex, ha]
    simp [Instr.loadAt, Instr.sureAddr, loadVar, hag w', load, Sem.run, hcell]
  have hd1 := hdd
  have hd2 : [ad, cl, l2, a2, r, q, l1, a1, m2, m, s].Nodup := (List.pairwise_reverse (l := [s, m, m2, a1, l1, q, r, a2, l2, cl, ad])).2 (hdd.imp Ne.symm)
  simp only [List.nodup_cons, List.mem_cons, List.not_mem_nil, or_false, not_or, List.nodup_nil, and_true] at hd1 hd2
  have m0 : Mc X γ σ ρ w [(s, .pointer (some ⟨b0, off, none⟩))] none a w := ⟨hst, frm_refl w, fun p hp => by
    simp at hp
    subst hp
    exact hv3, fun b es e => by cases e⟩
  refine wpAnyH_take (i := 4) (v := .pointer (some ⟨b0, off + fo1, none⟩)) h4 hns f4 c4 (hQ' _ _) (.inl ⟨rfl, fun w _ => hadr a w _ _ _ _ _ _ hf1 (m0.hv (s, _) (by simp))⟩) m0.fr ?_
  rw [mcS]
  have m1 := m0.put t2 g2 (by simp [hd1, hd2]) (.pointer (some ⟨b0, off + fo1, none⟩))
  generalize a.put (some a1) _ = a at m1 ⊢
  refine wpAnyH_take (i := 5) (v := .int .i64 kind) h5 hns f5 c5 (hQ' _ _) (.inl ⟨rfl, fun w hw => hload a w _ _ _ _ _ _ _ hc1 (m1.hv (a1, _) (by simp)) hw⟩) m1.fr ?_
  rw [mcS]
  have m2' := m1.put t3 g3 (by simp [hd1, hd2]) (.int .i64 kind)
  generalize a.put (some l1) _ = a at m2' ⊢
  refine wpAnyH_take (i := 6) (v := .bool (kind == c)) h6 hns f6 c6 (hQ' _ _) (.inl ⟨rfl, fun w _ => by
    have hex : execOp a.eval ⟨some q, .binOp .eql U (.tmp l1) (.const (.int .i64 c)) U2, y6, p6, e6, none⟩ = (do pure (.value (← (do eqGuard .eql U (.tmp l1) (.const (.int .i64 c)) (a.eval (.tmp l1)) (.int .i64 c); binOp .eql U (a.eval (.tmp l1)) (.int .i64 c))))) := rfl
    have e1 := m2'.hv (l1, _) (List.mem_cons_self ..)
    simp only at e1
    rw [hex, e1]
    simp [eqGuard, binOp, Op.intCmp]⟩) m2'.fr ?_
  rw [mcS]
  have m3 := m2'.put t4 g4 (by simp [hd1, hd2]) (.bool (kind == c))
  generalize a.put (some q) _ = a at m3 ⊢
  refine wpAnyH_take (i := 8) (v := .pointer (some ⟨b0, off + fo2, none⟩)) h8 hns f8 c8 (hQ' _ _) (.inl ⟨rfl, fun w _ => hadr a w _ _ _ _ _ _ hf2 (m3.hv (s, _) (by simp))⟩) m3.fr ?_
  rw [mcS]
  have m4 := m3.put t6 g6 (by simp [hd1, hd2]) (.pointer (some ⟨b0, off + fo2, none⟩))
  generalize a.put (some a2) _ = a at m4 ⊢
  refine wpAnyH_take (i := 9) (v := .int .i64 n) h9 hns f9 c9 (hQ' _ _) (.inl ⟨rfl, fun w hw => hload a w _ _ _ _ _ _ _ hc2 (m4.hv (a2, _) (by simp)) hw⟩) m4.fr ?_
  rw [mcS]
  have m5 := m4.put t7 g7 (by simp [hd1, hd2]) (.int .i64 n)
  generalize a.put (some l2) _ = a at m5 ⊢
  have m5 : Mc X γ σ ρ w [(q, .bool (kind == c)), (l2, .int .i64 n)] none a w := ⟨m5.st, m5.fr, fun p hp => by
    simp only [List.mem_cons, List.not_mem_nil, or_false] at hp
    rcases hp with rfl | rfl
    · exact m5.hv _ (by simp)
    · exact m5.hv _ (by simp), fun b es e => by cases e⟩
  clear m0 m1 m2' m3 m4
  have Mw : ∀ {hv hv' : List (Nat × Value)} {mp : Option (Nat × List MapEntry)} {a : Act} {w' : World}, Mc X γ σ ρ w hv mp a w' → (∀ p ∈ hv', p ∈ hv) → Mc X γ σ ρ w hv' mp a w' := fun h hs => ⟨h.st, h.fr, fun p hp => h.hv p (hs p hp), h.mp⟩
  have nE : ∀ (mp : Option (Nat × List MapEntry)) (a' : Act) (w' : World), Mc X γ σ ρ w [(r, .string ⟨⟨u⟩⟩), (cl, .string ⟨⟨it⟩⟩)] mp a' w' → wpAnyH X.P .any ops (fun e a w => ∃ σ', Q e σ' ∧ X.St γ σ' a w) (Frm (fun _ => False) w.heap.size w) 2 (mcL [4, 5, 6, 8, 9, 10, 0, 1, 2, 3, 7]) a' w' := fun mp a' w' hm => by
    refine wpAnyH_all r14 (by simp) fun i hi => ?_
    obtain rfl : i = 11 := by simpa using hi
    refine mc_add hm h11 (by simp) (by simp) hul t9 g9 (by simp [hd1, hd2]) fun a2 w2 hm2 => ?_
    rw [mcS]
    refine wpAnyH_all r15 (by simp) fun i hi => ?_
    obtain rfl : i = 12 := by simpa using hi
    have e1 := hm2.hv (ad, _) (List.mem_cons_self ..)
    refine wpOp_plain h12 rfl (wp_of_value (s := pure (.string ⟨⟨u ++ it⟩⟩)) (v := .string ⟨⟨u ++ it⟩⟩) (w' := w2) (by
      have hex : execOp a2.eval ⟨some out, .assign (.tmp ad), y12, p12, e12, none⟩ = (pure (.value (a2.eval (.tmp ad)))) := rfl
      simp only at e1
      rw [hex, e1]
      rfl) rfl ⟨hm2.fr, ?_⟩)
    rw [mcS]
    exact wpAnyH_done r16 ⟨_, HQ, ρ, (hm2.st.put t10 (.str _) (by simp [names])).more hm2.fr⟩ 0
  have lkA : lookV .bool (.bool (kind == c)) (.string ⟨#[]⟩) ([(⟨.bool k1, .string ⟨⟨x1⟩⟩, 0⟩ : MapEntry), ⟨.bool k2, .string ⟨⟨x2⟩⟩, 1⟩].map fun e => (e.key, e.val)) = some (.string ⟨⟨u⟩⟩) := by
    rw [hlk, hk12]
    cases (kind == c) <;> cases k2 <;> rfl
  have lkB : lookV .bool (.bool (kind == c)) (.string ⟨#[]⟩) ([(⟨.bool k2, .string ⟨⟨x2⟩⟩, 0⟩ : MapEntry), ⟨.bool k1, .string ⟨⟨x1⟩⟩, 1⟩].map fun e => (e.key, e.val)) = some (.string ⟨⟨u⟩⟩) := by
    rw [hlk, hk12]
    cases (kind == c) <;> cases k2 <;> rfl
  have c3 : ∀ (b : Nat) (es : List MapEntry) (a' : Act) (w' : World), lookV .bool (.bool (kind == c)) (.string ⟨#[]⟩) (es.map fun e => (e.key, e.val)) = some (.string ⟨⟨u⟩⟩) → Mc X γ σ ρ w [(cl, .string ⟨⟨it⟩⟩), (m2, .map (some b)), (q, .bool (kind == c))] (some (b, es)) a' w' → wpAnyH X.P .any ops (fun e a w => ∃ σ', Q e σ' ∧ X.St γ σ' a w) (Frm (fun _ => False) w.heap.size w) 3 (mcL [4, 5, 6, 8, 9, 10, 0, 1, 2, 3]) a' w' := fun b es a' w' hes hm => by
    refine wpAnyH_all r13 (by simp) fun i hi => ?_
    obtain rfl : i = 7 := by simpa using hi
    refine mc_look (k := .bool (kind == c)) hm h7 (hm.hv (q, .bool (kind == c)) (by simp)) hu hk hz (by simp) trivial hes t5 g5 (by simp [hd1, hd2]) fun a2 w2 h2 => ?_
    rw [mcS]
    show wpAnyH X.P .any ops (fun e a w => ∃ σ', Q e σ' ∧ X.St γ σ' a w) (Frm (fun _ => False) w.heap.size w) _ (mcL [4, 5, 6, 8, 9, 10, 0, 1, 2, 3, 7]) _ _
    skip
    exact nE _ _ _ (Mw h2 (by simp))
  have c12 : ∀ (b : Nat) (es : List MapEntry) (a' : Act) (w' : World), lookV .bool (.bool (kind == c)) (.string ⟨#[]⟩) (es.map fun e => (e.key, e.val)) = some (.string ⟨⟨u⟩⟩) → Mc X γ σ ρ w [(cl, .string ⟨⟨it⟩⟩), (m, .map (some b)), (q, .bool (kind == c))] (some (b, es)) a' w' → wpAnyH X.P .any ops (fun e a w => ∃ σ', Q e σ' ∧ X.St γ σ' a w) (Frm (fun _ => False) w.heap.size w) 4 (mcL [4, 5, 6, 8, 9, 10, 0, 1, 2]) a' w' := fun b es a' w' hes hm => by
    refine wpAnyH_all r12 (by simp) fun i hi => ?_
    obtain rfl : i = 3 := by simpa using hi
    refine mc_move (v := .map (some b)) hm h3 (by simp) t1 g1 (by simp [hd1, hd2]) fun a2 w2 h2 => ?_
    rw [mcS]
    show wpAnyH X.P .any ops (fun e a w => ∃ σ', Q e σ' ∧ X.St γ σ' a w) (Frm (fun _ => False) w.heap.size w) _ (mcL [4, 5, 6, 8, 9, 10, 0, 1, 2, 3]) _ _
    skip
    exact c3 b es _ _ hes (Mw h2 (by simp))
  have c1 : ∀ (b : Nat) (es : List MapEntry) (a' : Act) (w' : World), es = [⟨.bool k1, .string ⟨⟨x1⟩⟩, 0⟩] → Mc X γ σ ρ w [(cl, .string ⟨⟨it⟩⟩), (m, .map (some b)), (q, .bool (kind == c))] (some (b, es)) a' w' → wpAnyH X.P .any ops (fun e a w => ∃ σ', Q e σ' ∧ X.St γ σ' a w) (Frm (fun _ => False) w.heap.size w) 5 (mcL [4, 5, 6, 8, 9, 10, 0, 1]) a' w' := fun b es a' w' hes hm => by
    refine wpAnyH_all r10 (by simp) fun i hi => ?_
    obtain rfl : i = 2 := by simpa using hi
    refine mc_ins (k := .bool k2) (v := .string ⟨⟨x2⟩⟩) hm h2 rfl rfl hu hk (by simp) trivial (by rw [hes, hk12]; cases k2 <;> rfl) fun a2 w2 h2 => ?_
    rw [mcS]
    show wpAnyH X.P .any ops (fun e a w => ∃ σ', Q e σ' ∧ X.St γ σ' a w) (Frm (fun _ => False) w.heap.size w) _ (mcL [4, 5, 6, 8, 9, 10, 0, 1, 2]) _ _
    skip
    exact c12 b _ _ _ (by rw [hes]; exact lkA) (Mw h2 (by simp))
  have c2 : ∀ (b : Nat) (es : List MapEntry) (a' : Act) (w' : World), es = [⟨.bool k2, .string ⟨⟨x2⟩⟩, 0⟩] → Mc X γ σ ρ w [(cl, .string ⟨⟨it⟩⟩), (m, .map (some b)), (q, .bool (kind == c))] (some (b, es)) a' w' → wpAnyH X.P .any ops (fun e a w => ∃ σ', Q e σ' ∧ X.St γ σ' a w) (Frm (fun _ => False) w.heap.size w) 5 (mcL [4, 5, 6, 8, 9, 10, 0, 2]) a' w' := fun b es a' w' hes hm => by
    refine wpAnyH_all r11 (by simp) fun i hi => ?_
    obtain rfl : i = 1 := by simpa using hi
    refine mc_ins (k := .bool k1) (v := .string ⟨⟨x1⟩⟩) hm h1 rfl rfl hu hk (by simp) trivial (by rw [hes, hk12]; cases k2 <;> rfl) fun a2 w2 h2 => ?_
    rw [mcS]
    show wpAnyH X.P .any ops (fun e a w => ∃ σ', Q e σ' ∧ X.St γ σ' a w) (Frm (fun _ => False) w.heap.size w) _ (mcL [4, 5, 6, 8, 9, 10, 0, 2, 1]) _ _
    rw [show mcL [4, 5, 6, 8, 9, 10, 0, 2, 1] = mcL [4, 5, 6, 8, 9, 10, 0, 1, 2] by decide]
    exact c12 b _ _ _ (by rw [hes]; exact lkB) (Mw h2 (by simp))
  have c0 : ∀ (b : Nat) (es : List MapEntry) (a' : Act) (w' : World), es = [] → Mc X γ σ ρ w [(cl, .string ⟨⟨it⟩⟩), (m, .map (some b)), (q, .bool (kind == c))] (some (b, es)) a' w' → wpAnyH X.P .any ops (fun e a w => ∃ σ', Q e σ' ∧ X.St γ σ' a w) (Frm (fun _ => False) w.heap.size w) 6 (mcL [4, 5, 6, 8, 9, 10, 0]) a' w' := fun b es a' w' hes hm => by
    refine wpAnyH_all r9 (by simp) fun i hi => ?_
    simp only [List.mem_cons, List.not_mem_nil, or_false] at hi
    rcases hi with rfl | rfl
    · refine mc_ins (k := .bool k1) (v := .string ⟨⟨x1⟩⟩) hm h1 rfl rfl hu hk (by simp) trivial (by rw [hes]; rfl) fun a2 w2 h2 => ?_
      rw [mcS]
      show wpAnyH X.P .any ops (fun e a w => ∃ σ', Q e σ' ∧ X.St γ σ' a w) (Frm (fun _ => False) w.heap.size w) _ (mcL [4, 5, 6, 8, 9, 10, 0, 1]) _ _
      skip
      exact c1 b _ _ _ (by rw [hes]; rfl) (Mw h2 (by simp))
    · refine mc_ins (k := .bool k2) (v := .string ⟨⟨x2⟩⟩) hm h2 rfl rfl hu hk (by simp) trivial (by rw [hes]; rfl) fun a2 w2 h2 => ?_
      rw [mcS]
      show wpAnyH X.P .any ops (fun e a w => ∃ σ', Q e σ' ∧ X.St γ σ' a w) (Frm (fun _ => False) w.heap.size w) _ (mcL [4, 5, 6, 8, 9, 10, 0, 2]) _ _
      skip
      exact c2 b _ _ _ (by rw [hes]; rfl) (Mw h2 (by simp))
  have cs : ∀ (a' : Act) (w' : World), Mc X γ σ ρ w [(cl, .string ⟨⟨it⟩⟩), (q, .bool (kind == c))] none a' w' → wpAnyH X.P .any ops (fun e a w => ∃ σ', Q e σ' ∧ X.St γ σ' a w) (Frm (fun _ => False) w.heap.size w) 7 (mcL [4, 5, 6, 8, 9, 10]) a' w' := fun a' w' hm => by
    refine wpAnyH_all r8 (by simp) fun i hi => ?_
    obtain rfl : i = 0 := by simpa using hi
    refine mc_make hm h0 t0 g0 (by simp [hd1, hd2]) fun a2 w2 b h2 => ?_
    rw [mcS]
    show wpAnyH X.P .any ops (fun e a w => ∃ σ', Q e σ' ∧ X.St γ σ' a w) (Frm (fun _ => False) w.heap.size w) _ (mcL [4, 5, 6, 8, 9, 10, 0]) _ _
    skip
    exact c0 b _ _ _ rfl (Mw h2 (by simp))
  have nL : ∀ (b : Nat) (es : List MapEntry) (a' : Act) (w' : World), Mc X γ σ ρ w [(r, .string ⟨⟨u⟩⟩), (l2, .int .i64 n)] (some (b, es)) a' w' → wpAnyH X.P .any ops (fun e a w => ∃ σ', Q e σ' ∧ X.St γ σ' a w) (Frm (fun _ => False) w.heap.size w) 3 (mcL [4, 5, 6, 8, 9, 0, 1, 2, 3, 7]) a' w' := fun b es a' w' hm => by
    refine wpAnyH_all r7 (by simp) fun i hi => ?_
    obtain rfl : i = 10 := by simpa using hi
    refine mc_call hX hm h10 hg (by simp) t8 g8 (by simp [hd1, hd2]) fun a2 w2 h2 => ?_
    rw [mcS]
    show wpAnyH X.P .any ops (fun e a w => ∃ σ', Q e σ' ∧ X.St γ σ' a w) (Frm (fun _ => False) w.heap.size w) _ (mcL [4, 5, 6, 8, 9, 0, 1, 2, 3, 7, 10]) _ _
    rw [show mcL [4, 5, 6, 8, 9, 0, 1, 2, 3, 7, 10] = mcL [4, 5, 6, 8, 9, 10, 0, 1, 2, 3, 7] by decide]
    exact nE _ _ _ (Mw h2 (by simp))
  have n3 : ∀ (b : Nat) (es : List MapEntry) (a' : Act) (w' : World), lookV .bool (.bool (kind == c)) (.string ⟨#[]⟩) (es.map fun e => (e.key, e.val)) = some (.string ⟨⟨u⟩⟩) → Mc X γ σ ρ w [(l2, .int .i64 n), (m2, .map (some b)), (q, .bool (kind == c))] (some (b, es)) a' w' → wpAnyH X.P .any ops (fun e a w => ∃ σ', Q e σ' ∧ X.St γ σ' a w) (Frm (fun _ => False) w.heap.size w) 4 (mcL [4, 5, 6, 8, 9, 0, 1, 2, 3]) a' w' := fun b es a' w' hes hm => by
    refine wpAnyH_all r6 (by simp) fun i hi => ?_
    simp only [List.mem_cons, List.not_mem_nil, or_false] at hi
    rcases hi with rfl | rfl
    · refine mc_look (k := .bool (kind == c)) hm h7 (hm.hv (q, .bool (kind == c)) (by simp)) hu hk hz (by simp) trivial hes t5 g5 (by simp [hd1, hd2]) fun a2 w2 h2 => ?_
      rw [mcS]
      show wpAnyH X.P .any ops (fun e a w => ∃ σ', Q e σ' ∧ X.St γ σ' a w) (Frm (fun _ => False) w.heap.size w) _ (mcL [4, 5, 6, 8, 9, 0, 1, 2, 3, 7]) _ _
      skip
      exact nL _ _ _ _ (Mw h2 (by simp))
    · refine mc_call hX hm h10 hg (by simp) t8 g8 (by simp [hd1, hd2]) fun a2 w2 h2 => ?_
      rw [mcS]
      show wpAnyH X.P .any ops (fun e a w => ∃ σ', Q e σ' ∧ X.St γ σ' a w) (Frm (fun _ => False) w.heap.size w) _ (mcL [4, 5, 6, 8, 9, 0, 1, 2, 3, 10]) _ _
      rw [show mcL [4, 5, 6, 8, 9, 0, 1, 2, 3, 10] = mcL [4, 5, 6, 8, 9, 10, 0, 1, 2, 3] by decide]
      exact c3 b es _ _ hes (Mw h2 (by simp))
  have n12 : ∀ (b : Nat) (es : List MapEntry) (a' : Act) (w' : World), lookV .bool (.bool (kind == c)) (.string ⟨#[]⟩) (es.map fun e => (e.key, e.val)) = some (.string ⟨⟨u⟩⟩) → Mc X γ σ ρ w [(l2, .int .i64 n), (m, .map (some b)), (q, .bool (kind == c))] (some (b, es)) a' w' → wpAnyH X.P .any ops (fun e a w => ∃ σ', Q e σ' ∧ X.St γ σ' a w) (Frm (fun _ => False) w.heap.size w) 5 (mcL [4, 5, 6, 8, 9, 0, 1, 2]) a' w' := fun b es a' w' hes hm => by
    refine wpAnyH_all r5 (by simp) fun i hi => ?_
    simp only [List.mem_cons, List.not_mem_nil, or_false] at hi
    rcases hi with rfl | rfl
    · refine mc_move (v := .map (some b)) hm h3 (by simp) t1 g1 (by simp [hd1, hd2]) fun a2 w2 h2 => ?_
      rw [mcS]
      show wpAnyH X.P .any ops (fun e a w => ∃ σ', Q e σ' ∧ X.St γ σ' a w) (Frm (fun _ => False) w.heap.size w) _ (mcL [4, 5, 6, 8, 9, 0, 1, 2, 3]) _ _
      skip
      exact n3 b es _ _ hes (Mw h2 (by simp))
    · refine mc_call hX hm h10 hg (by simp) t8 g8 (by simp [hd1, hd2]) fun a2 w2 h2 => ?_
      rw [mcS]
      show wpAnyH X.P .any ops (fun e a w => ∃ σ', Q e σ' ∧ X.St γ σ' a w) (Frm (fun _ => False) w.heap.size w) _ (mcL [4, 5, 6, 8, 9, 0, 1, 2, 10]) _ _
      rw [show mcL [4, 5, 6, 8, 9, 0, 1, 2, 10] = mcL [4, 5, 6, 8, 9, 10, 0, 1, 2] by decide]
      exact c12 b es _ _ hes (Mw h2 (by simp))
  have n1 : ∀ (b : Nat) (es : List MapEntry) (a' : Act) (w' : World), es = [⟨.bool k1, .string ⟨⟨x1⟩⟩, 0⟩] → Mc X γ σ ρ w [(l2, .int .i64 n), (m, .map (some b)), (q, .bool (kind == c))] (some (b, es)) a' w' → wpAnyH X.P .any ops (fun e a w => ∃ σ', Q e σ' ∧ X.St γ σ' a w) (Frm (fun _ => False) w.heap.size w) 6 (mcL [4, 5, 6, 8, 9, 0, 1]) a' w' := fun b es a' w' hes hm => by
    refine wpAnyH_all r3 (by simp) fun i hi => ?_
    simp only [List.mem_cons, List.not_mem_nil, or_false] at hi
    rcases hi with rfl | rfl
    · refine mc_ins (k := .bool k2) (v := .string ⟨⟨x2⟩⟩) hm h2 rfl rfl hu hk (by simp) trivial (by rw [hes, hk12]; cases k2 <;> rfl) fun a2 w2 h2 => ?_
      rw [mcS]
      show wpAnyH X.P .any ops (fun e a w => ∃ σ', Q e σ' ∧ X.St γ σ' a w) (Frm (fun _ => False) w.heap.size w) _ (mcL [4, 5, 6, 8, 9, 0, 1, 2]) _ _
      skip
      exact n12 b _ _ _ (by rw [hes]; exact lkA) (Mw h2 (by simp))
    · refine mc_call hX hm h10 hg (by simp) t8 g8 (by simp [hd1, hd2]) fun a2 w2 h2 => ?_
      rw [mcS]
      show wpAnyH X.P .any ops (fun e a w => ∃ σ', Q e σ' ∧ X.St γ σ' a w) (Frm (fun _ => False) w.heap.size w) _ (mcL [4, 5, 6, 8, 9, 0, 1, 10]) _ _
      rw [show mcL [4, 5, 6, 8, 9, 0, 1, 10] = mcL [4, 5, 6, 8, 9, 10, 0, 1] by decide]
      exact c1 b es _ _ hes (Mw h2 (by simp))
  have n2 : ∀ (b : Nat) (es : List MapEntry) (a' : Act) (w' : World), es = [⟨.bool k2, .string ⟨⟨x2⟩⟩, 0⟩] → Mc X γ σ ρ w [(l2, .int .i64 n), (m, .map (some b)), (q, .bool (kind == c))] (some (b, es)) a' w' → wpAnyH X.P .any ops (fun e a w => ∃ σ', Q e σ' ∧ X.St γ σ' a w) (Frm (fun _ => False) w.heap.size w) 6 (mcL [4, 5, 6, 8, 9, 0, 2]) a' w' := fun b es a' w' hes hm => by
    refine wpAnyH_all r4 (by simp) fun i hi => ?_
    simp only [List.mem_cons, List.not_mem_nil, or_false] at hi
    rcases hi with rfl | rfl
    · refine mc_ins (k := .bool k1) (v := .string ⟨⟨x1⟩⟩) hm h1 rfl rfl hu hk (by simp) trivial (by rw [hes, hk12]; cases k2 <;> rfl) fun a2 w2 h2 => ?_
      rw [mcS]
      show wpAnyH X.P .any ops (fun e a w => ∃ σ', Q e σ' ∧ X.St γ σ' a w) (Frm (fun _ => False) w.heap.size w) _ (mcL [4, 5, 6, 8, 9, 0, 2, 1]) _ _
      rw [show mcL [4, 5, 6, 8, 9, 0, 2, 1] = mcL [4, 5, 6, 8, 9, 0, 1, 2] by decide]
      exact n12 b _ _ _ (by rw [hes]; exact lkB) (Mw h2 (by simp))
    · refine mc_call hX hm h10 hg (by simp) t8 g8 (by simp [hd1, hd2]) fun a2 w2 h2 => ?_
      rw [mcS]
      show wpAnyH X.P .any ops (fun e a w => ∃ σ', Q e σ' ∧ X.St γ σ' a w) (Frm (fun _ => False) w.heap.size w) _ (mcL [4, 5, 6, 8, 9, 0, 2, 10]) _ _
      rw [show mcL [4, 5, 6, 8, 9, 0, 2, 10] = mcL [4, 5, 6, 8, 9, 10, 0, 2] by decide]
      exact c2 b es _ _ hes (Mw h2 (by simp))
  have n0 : ∀ (b : Nat) (es : List MapEntry) (a' : Act) (w' : World), es = [] → Mc X γ σ ρ w [(l2, .int .i64 n), (m, .map (some b)), (q, .bool (kind == c))] (some (b, es)) a' w' → wpAnyH X.P .any ops (fun e a w => ∃ σ', Q e σ' ∧ X.St γ σ' a w) (Frm (fun _ => False) w.heap.size w) 7 (mcL [4, 5, 6, 8, 9, 0]) a' w' := fun b es a' w' hes hm => by
    refine wpAnyH_all r2 (by simp) fun i hi => ?_
    simp only [List.mem_cons, List.not_mem_nil, or_false] at hi
    rcases hi with rfl | rfl | rfl
    · refine mc_ins (k := .bool k1) (v := .string ⟨⟨x1⟩⟩) hm h1 rfl rfl hu hk (by simp) trivial (by rw [hes]; rfl) fun a2 w2 h2 => ?_
      rw [mcS]
      show wpAnyH X.P .any ops (fun e a w => ∃ σ', Q e σ' ∧ X.St γ σ' a w) (Frm (fun _ => False) w.heap.size w) _ (mcL [4, 5, 6, 8, 9, 0, 1]) _ _
      skip
      exact n1 b _ _ _ (by rw [hes]; rfl) (Mw h2 (by simp))
    · refine mc_ins (k := .bool k2) (v := .string ⟨⟨x2⟩⟩) hm h2 rfl rfl hu hk (by simp) trivial (by rw [hes]; rfl) fun a2 w2 h2 => ?_
      rw [mcS]
      show wpAnyH X.P .any ops (fun e a w => ∃ σ', Q e σ' ∧ X.St γ σ' a w) (Frm (fun _ => False) w.heap.size w) _ (mcL [4, 5, 6, 8, 9, 0, 2]) _ _
      skip
      exact n2 b _ _ _ (by rw [hes]; rfl) (Mw h2 (by simp))
    · refine mc_call hX hm h10 hg (by simp) t8 g8 (by simp [hd1, hd2]) fun a2 w2 h2 => ?_
      rw [mcS]
      show wpAnyH X.P .any ops (fun e a w => ∃ σ', Q e σ' ∧ X.St γ σ' a w) (Frm (fun _ => False) w.heap.size w) _ (mcL [4, 5, 6, 8, 9, 0, 10]) _ _
      rw [show mcL [4, 5, 6, 8, 9, 0, 10] = mcL [4, 5, 6, 8, 9, 10, 0] by decide]
      exact c0 b es _ _ hes (Mw h2 (by simp))
  refine wpAnyH_all r1 (by simp) fun i hi => ?_
  simp only [List.mem_cons, List.not_mem_nil, or_false] at hi
  have hm := m5
  rcases hi with rfl | rfl
  · refine mc_make hm h0 t0 g0 (by simp [hd1, hd2]) fun a2 w2 b h2 => ?_
    rw [mcS]
    show wpAnyH X.P .any ops (fun e a w => ∃ σ', Q e σ' ∧ X.St γ σ' a w) (Frm (fun _ => False) w.heap.size w) _ (mcL [4, 5, 6, 8, 9, 0]) _ _
    skip
    exact n0 b _ _ _ rfl (Mw h2 (by simp))
  · refine mc_call hX hm h10 hg (by simp) t8 g8 (by simp [hd1, hd2]) fun a2 w2 h2 => ?_
    rw [mcS]
    show wpAnyH X.P .any ops (fun e a w => ∃ σ', Q e σ' ∧ X.St γ σ' a w) (Frm (fun _ => False) w.heap.size w) _ (mcL [4, 5, 6, 8, 9, 10]) _ _
    skip
    exact cs _ _ (Mw h2 (by simp))
end
end Go.Proofs.YtmlejhpeoiicpaaGreatDoor.Ab
namespace Go.Proofs.YtmlejhpeoiicpaaGreatDoor.Ab
open Go Go.RowKit
set_option linter.unusedVariables false
set_option linter.unusedSimpArgs false

def rvLo : Nat → Lo := fun id => match id with | 3 => {hand := true} | _ => {}
theorem zero_str (W : World) : (zeroValue 9).run Tryz.prog W = .ok (.string ⟨#[]⟩) W := by kernel_rfl
set_option maxRecDepth 100000 in
theorem con_rvalue (p : LProp) (hp : VOk p) : Con Tryz.prog D 17 [.agg (propRow p)] ⟨.str (valueS p), []⟩ := by
  have hok : GOk Tryz.prog D (tabG [eRhex, eItoa]) := tabG_ok _
  have g1 := tabG_use (T := [eRhex, eItoa]) (E := eRhex) (i := 0) rfl (by decide) (p.text.data.toList) (hp.1)
  have g2 := tabG_use (T := [eRhex, eItoa]) (E := eItoa) (i := 1) rfl (by decide) (p.n) (hp.2)
  generalize tabG [eRhex, eItoa] = G at *
  dsimp only [eRhex] at g1
  dsimp only [eItoa] at g2
  have hil := Lib.itoa_length_le p.n hp.2.1 hp.2.2
  have hxl := hexS_len p.text.data.toList
  have htl : p.text.data.toList.length ≤ 8388608 := hp.1
  unfold valueS
  clear hp
  obtain ⟨k, kd, n, t⟩ := p
  simp only at g1 g2 hil hxl htl
  generalize Lib.itoa n = it at *
  generalize hexS t.data.toList = xt at *
  refine conW (G := G) (rs := [(2, none)]) hok Tryz.func17 Tryz.results17 Tryz.ntmps17 (rvLo) fun X hP hD hG' hX => ?_
  simp only [argS, num, propRow]
  by_cases h2 : kd = 2
  · have e2 : (kd == 2) = true := by simp [h2]
    rw [if_pos h2]
    simp (disch := omega) only [go_sem, hD, hG', rvLo, e2, g1, unbox]
    (repeat (with_reducible refine And.intro (by first | omega | decide | (simp; done) | (simp only [List.length_append, List.length_cons, List.length_nil, List.length_map]; omega)) ?_))
    refine endW [] [] (by simp) rfl rfl rfl ?_ ?_ <;> simp only [go_sem]
  have e2 : (kd == 2) = false := by simp [h2]
  rw [if_neg h2]
  simp (disch := omega) only [go_sem, hD, hG', rvLo, e2, unbox]
  have hu : X.P.underlying 79 = some (.map 4 9) := by rw [hP]; exact Tryz.underlying79
  have hk : X.P.underlying 4 = some .bool := by rw [hP]; exact Tryz.underlying4
  have hD1 := hD.1
  refine Tr.mapcall hX (by decide +kernel) (v := 1) (off := 0) (cs := [.str k.data.toList, .int .i64 kd, .int .i64 n, .str t.data.toList]) (kind := kd) (n := n) (it := it) (u := if (kd == 3) = true then [33] else []) (F := 50) (x1 := [33]) (x2 := []) (k1 := true) (k2 := false) (c := 3) (fo1 := 1) (fo2 := 2) (fs := [(0, 9), (1, 3), (2, 3), (3, 9)]) rfl rfl rfl rfl rfl rfl rfl rfl rfl rfl rfl rfl rfl hu hk (fun W => by rw [hP]; exact zero_str W) rfl (by simp) (by rw [hG']; exact g2) ?_ (by rw [hD1]; exact ⟨rfl, fun fs h => by cases h⟩) (by rw [hD1]; rfl) rfl rfl rfl rfl rfl rfl rfl rfl (by decide) (fun c σ' h => by rcases h.1 with h | h <;> cases h) ?_
  · split <;> simp <;> omega
  · simp (disch := omega) only [go_sem, hD, hG', unbox]
    refine endW [] [] (by simp) rfl rfl rfl ?_ ?_ <;> simp only [go_sem]
    by_cases h3 : kd = 3 <;> simp [h3]
def eRvalue : Ent Tryz.prog D := ⟨17, LProp, fun p => [.agg (propRow p)], VOk, fun p => ⟨.str (valueS p), []⟩, fun x y _ _ h => by
  simp only [List.cons.injEq, AV.agg.injEq, and_true] at h
  rw [propRow_inj h], con_rvalue⟩
end Go.Proofs.YtmlejhpeoiicpaaGreatDoor.Ab
namespace Go.Proofs.YtmlejhpeoiicpaaGreatDoor.Ab
open Go Go.RowKit
set_option linter.unusedVariables false
set_option linter.unusedSimpArgs false

def WNOk (n : LNote) : Prop := n.props.length ≤ 1000 ∧ n.body.length ≤ 8388608 ∧ ∀ p ∈ n.props, VOk p ∧ p.key.size + (valueS p).length ≤ 1000000
end Go.Proofs.YtmlejhpeoiicpaaGreatDoor.Ab
namespace Go.Proofs.YtmlejhpeoiicpaaGreatDoor.Ab
open Go Go.RowKit
set_option linter.unusedVariables false
set_option linter.unusedSimpArgs false

structure RABOk (a : LAsk) : Prop where
  k : 1 ≤ a.kind ∧ a.kind ≤ 9
  q : a.queue.size ≤ 1048576
  n : -9223372036854775808 ≤ a.n ∧ a.n ≤ 9223372036854775807
  o : a.kind = 4 → WNOk a.note
structure RSBOk (s : LSay) : Prop where
  n : -9223372036854775808 ≤ s.n ∧ s.n ≤ 9223372036854775807
  m : -9223372036854775808 ≤ s.m ∧ s.m ≤ 9223372036854775807
  e : -9223372036854775808 ≤ s.err ∧ s.err ≤ 9223372036854775807
  o : s.kind = 2 → WNOk s.note
end Go.Proofs.YtmlejhpeoiicpaaGreatDoor.Ab
