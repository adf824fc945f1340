/-
  Texts of the proof, one behind the other: LnS LnA LnB LnC LnD.
  No condition but those that each theorem names.
-/
import Derived.Test.YtmlejhpeoiicpaaGreatDoorGS
import Derived.Test.YtmlejhpeoiicpaaGreatDoorGH
import Derived.Test.YtmlejhpeoiicpaaGreatDoorGC
import Derived.Lib.ItoaLen
namespace Go.Proofs.YtmlejhpeoiicpaaGreatDoor.Ab
open Go Go.RowKit
set_option linter.unusedVariables false
set_option linter.unusedSimpArgs false

abbrev Wd := List UInt8
def numberS (l : Wd) : Int × Bool := ((atoiS l).1, !(atoiS l).2 && (Lib.itoa (atoiS l).1 == l && (decide (-1073741824 ≤ (atoiS l).1) && decide ((atoiS l).1 ≤ 1073741824))))
def hexL : Wd := [48, 49, 50, 51, 52, 53, 54, 55, 56, 57, 97, 98, 99, 100, 101, 102]
def hexC (c : UInt8) : Wd := [hexL.getD (c.toNat / 16) 0, hexL.getD (c.toNat % 16) 0]
def hexS (l : Wd) : Wd := l.flatMap hexC
def hexI (c : UInt8) : Int := Lib.indexByte hexL c
def hexB (a b : UInt8) : UInt8 := UInt8.ofNat ((hexI a).toNat * 16 + (hexI b).toNat)
def unhexS : Wd → Option Wd
  | [] => some []
  | [_] => none
  | a :: b :: r => if hexI a < 0 ∨ hexI b < 0 then none else (unhexS r).map (hexB a b :: ·)
def unhexR (l : Wd) : Wd × Bool := ((unhexS l).getD [], (unhexS l).isSome)
def valueS (p : LProp) : Wd := if p.kind = 2 then 36 :: hexS p.text.data.toList else if p.kind = 3 then 33 :: Lib.itoa p.n else Lib.itoa p.n
def propW (key s : Wd) : LProp × Bool :=
  if Lib.hasPrefix s [36] = true then (⟨bA key, 2, 0, bA (unhexR (Lib.trimPrefix s [36])).1⟩, (unhexR (Lib.trimPrefix s [36])).2)
  else if Lib.hasPrefix s [33] = true then (⟨bA key, 3, (numberS (Lib.trimPrefix s [33])).1, ⟨#[]⟩⟩, (numberS (Lib.trimPrefix s [33])).2)
  else (⟨bA key, 1, (numberS s).1, ⟨#[]⟩⟩, (numberS s).2)
def propsW (l : List LProp) : List Wd := l.map fun p => p.key.data.toList ++ [61] ++ valueS p
def notedS (n : LNote) : List Wd := propsW n.props ++ [35 :: hexS n.body]
def wordsL : List Wd := [[112, 105, 110, 103], [109, 97, 107, 101], [100, 114, 111, 112], [112, 117, 116], [116, 97, 107, 101], [119, 97, 105, 116], [100, 111, 110, 101], [98, 97, 99, 107], [112, 117, 114, 103, 101]]
def askW (a : LAsk) : List Wd :=
  [wordsL.getD (a.kind - 1).toNat []] ++ (if a.queue.data.toList = [] then [] else [a.queue.data.toList]) ++
  (if a.kind = 2 ∨ a.kind = 6 ∨ a.kind = 7 ∨ a.kind = 8 then [Lib.itoa a.n] else if a.kind = 4 then notedS a.note else [])
def sayW (s : LSay) : List Wd :=
  if s.kind = 2 then [[43, 105, 116, 101, 109], Lib.itoa s.n, Lib.itoa s.m] ++ notedS s.note
  else if s.kind = 3 then [[43, 110, 111, 110, 101]]
  else if s.kind = 4 then [45 :: Lib.itoa s.err]
  else [[43, 111, 107]]

def lask0 : LAsk := ⟨0, ⟨#[]⟩, 0, note0⟩
def isNd (k : Int) : Prop := k = 2 ∨ k = 6 ∨ k = 7 ∨ k = 8
instance (k : Int) : Decidable (isNd k) := by unfold isNd; infer_instance
def lsay0 : LSay := ⟨0, 0, 0, 0, note0⟩
/-! the library's entries -/
def eCutp : Ent Tryz.prog D := ⟨52, Wd × Wd, fun x => [.str x.1, .str x.2], fun _ => True, fun x => ⟨.tup [.str (Lib.trimPrefix x.1 x.2), .bool (Lib.hasPrefix x.1 x.2)], []⟩, fun x y _ _ h => by
  obtain ⟨a, b⟩ := x
  obtain ⟨a', b'⟩ := y
  simp only [List.cons.injEq, AV.str.injEq, and_true] at h
  rw [h.1, h.2], fun x _ => con_cutprefix x.1 x.2⟩
def eIxb : Ent Tryz.prog D := ⟨51, Wd × UInt8, fun x => [.str x.1, .int .u8 x.2.toNat], fun _ => True, fun x => ⟨.int .i64 (Lib.indexByte x.1 x.2), []⟩, fun x y _ _ h => by
  obtain ⟨a, b⟩ := x
  obtain ⟨a', b'⟩ := y
  simp only [List.cons.injEq, AV.str.injEq, AV.int.injEq, true_and, and_true] at h
  have : b = b' := UInt8.toNat_inj.1 (by omega)
  rw [h.1, this], fun x _ => con_sindexbyte x.1 x.2⟩
def eScut : Ent Tryz.prog D := ⟨100, Wd × Wd, fun x => [.str x.1, .str x.2], fun x => x.1.length < 4294967281, fun x => ⟨.tup [.str (Lib.cut x.1 x.2).1, .str (Lib.cut x.1 x.2).2.1, .bool (Lib.cut x.1 x.2).2.2], []⟩, fun x y _ _ h => by
  obtain ⟨a, b⟩ := x
  obtain ⟨a', b'⟩ := y
  simp only [List.cons.injEq, AV.str.injEq, and_true] at h
  rw [h.1, h.2], fun x h => con_scut x.1 x.2 h⟩
def eSplit : Ent Tryz.prog D := ⟨72, Wd × Wd, fun x => [.str x.1, .str x.2], fun x => x.1.length < 4294967281 ∧ 1 ≤ x.2.length, fun x => ⟨.sl 1 ((Lib.split x.1 x.2).map strRow), []⟩, fun x y _ _ h => by
  obtain ⟨a, b⟩ := x
  obtain ⟨a', b'⟩ := y
  simp only [List.cons.injEq, AV.str.injEq, and_true] at h
  rw [h.1, h.2], fun x h => con_ssplit x.1 x.2 h.1 h.2⟩
def eJoin : Ent Tryz.prog D := ⟨57, List Wd × Wd, fun x => [.sl 1 (x.1.map strRow), .str x.2], fun x => (Lib.join x.1 x.2).length ≤ 1099511627776 ∧ x.1.length ≤ 1099511627776, fun x => ⟨.str (Lib.join x.1 x.2), []⟩, fun x y _ _ h => by
  obtain ⟨a, b⟩ := x
  obtain ⟨a', b'⟩ := y
  simp only [List.cons.injEq, AV.str.injEq, AV.sl.injEq, true_and, and_true] at h
  rw [strs_inj h.1, h.2], fun x h => con_sjoin x.1 x.2 h.1 h.2⟩
def eItoa : Ent Tryz.prog D := ⟨50, Int, fun n => [.int .i64 n], fun n => -9223372036854775808 ≤ n ∧ n ≤ 9223372036854775807, fun n => ⟨.str (Lib.itoa n), []⟩, fun x y _ _ h => by
  simp only [List.cons.injEq, AV.int.injEq, true_and, and_true] at h
  rw [h], fun n h => con_itoa n h.1 h.2⟩
def eAtoi : Ent Tryz.prog D := ⟨49, Wd, fun l => [.str l], fun l => l.length ≤ 281474976710656, fun l => ⟨.tup [.int .i64 (atoiS l).1, .ifc (atoiS l).2], []⟩, fun x y _ _ h => by
  simp only [List.cons.injEq, AV.str.injEq, and_true] at h
  rw [h], con_atoi⟩
theorem atoiS_range (l : Wd) : -9223372036854775808 ≤ (atoiS l).1 ∧ (atoiS l).1 ≤ 9223372036854775807 := by
  unfold atoiS
  rcases h : Lib.atoiAll l with v | _ | _
  · exact Lib.atoiAll_bounds h
  · simp
  · exact Lib.atoiSat_bounds l
theorem hexS_len (l : Wd) : (hexS l).length = 2 * l.length := by
  induction l with
  | nil => rfl
  | cons c r ih => simp only [hexS, List.flatMap_cons, List.length_append, List.length_cons] at ih ⊢; rw [ih]; simp [hexC]; omega
end Go.Proofs.YtmlejhpeoiicpaaGreatDoor.Ab
namespace Go.Proofs.YtmlejhpeoiicpaaGreatDoor.Ab
open Go Go.RowKit
set_option linter.unusedVariables false
set_option linter.unusedSimpArgs false

theorem con_number (l : Wd) (hl : l.length ≤ 281474976710656) : Con Tryz.prog D 8 [.str l] ⟨.tup [.int .i64 (numberS l).1, .bool (numberS l).2], []⟩ := by
  have hok : GOk Tryz.prog D (tabG [eAtoi, eItoa]) := tabG_ok _
  have g1 := tabG_use (T := [eAtoi, eItoa]) (E := eAtoi) (i := 0) rfl (by decide) (l) (hl)
  have g2 := tabG_use (T := [eAtoi, eItoa]) (E := eItoa) (i := 1) rfl (by decide) ((atoiS l).1) (atoiS_range l)
  generalize tabG [eAtoi, eItoa] = G at *
  dsimp only [eAtoi] at g1
  dsimp only [eItoa] at g2
  unfold numberS
  generalize (atoiS l).1 = n at *
  generalize (atoiS l).2 = e at *
  refine conW (G := G) (rs := [(2, none), (3, none)]) hok Tryz.func8 Tryz.results8 Tryz.ntmps8 (fun _ => {}) fun X hP hD hG' hX => ?_
  simp only [argS, num]
  simp (disch := omega) only [go_sem, hD, hG', g1, unbox]
  refine RegT.mk [] ?_
  simp (disch := omega) only [go_sem, hD, hG', g2, unbox]
  and_intros
  all_goals (try (first | decide | omega | (first | (intro hk; refine ⟨hk, fun h2 => ?_⟩; first | (rw [hk, h2]; rfl) | (rw [hk, decide_eq_false h2]; rfl)) | (intro hk; rw [decide_eq_false hk]; rfl) | (intro hk; rw [hk]; rfl))))
  all_goals (first | (simp; done) | skip)
  all_goals (try (refine ⟨_, Wk.refl, _, rfl, [], [], rfl, rfl, ?_, ?_⟩ <;> simp only [go_sem]))
  all_goals (
    simp only [ge_iff_le]
    generalize decide (-1073741824 ≤ n) = b1
    generalize decide (n ≤ 1073741824) = b2
    generalize (Lib.itoa n == l) = b3
    cases e <;> cases b1 <;> cases b2 <;> cases b3 <;> rfl)
def eNumber : Ent Tryz.prog D := ⟨8, Wd, fun l => [.str l], fun l => l.length ≤ 281474976710656, fun l => ⟨.tup [.int .i64 (numberS l).1, .bool (numberS l).2], []⟩, fun x y _ _ h => by
  simp only [List.cons.injEq, AV.str.injEq, and_true] at h
  rw [h], con_number⟩
theorem shr4 (c : UInt8) : shrI .u8 c.toNat 4 = ((c.toNat / 16 : Nat) : Int) := by
  unfold shrI
  rw [show min (Int.toNat 4) (IntKind.bits .u8) = 4 by decide, Int.fdiv_eq_ediv_of_nonneg _ (by decide)]
  omega
theorem and15 : ∀ c : UInt8, andI .u8 c.toNat 15 = ((c.toNat % 16 : Nat) : Int) := by
  have h : ∀ n : Fin 256, andI .u8 (n.val : Int) 15 = ((n.val % 16 : Nat) : Int) := by decide +kernel
  intro c
  exact h ⟨c.toNat, c.toNat_lt⟩
theorem take_byte {l : Wd} {i : Nat} (h : i < l.length) : l.take (i + 1) = l.take i ++ [l.getD i 0] := by
  rw [List.take_succ_eq_append_getElem h]
  simp [h]
def hexLo : Nat → Lo := fun id => match id with | 5 => {uo := [8], kn := [5000], ex := [0]} | _ => {}
set_option maxRecDepth 100000 in
theorem con_hex (l : Wd) (hl : l.length ≤ 8388608) : Con Tryz.prog D 14 [.sl 1 (l.map byteRow)] ⟨.str (hexS l), []⟩ := by
  have hok : GOk Tryz.prog D (tabG []) := tabG_ok _
  generalize tabG [] = G at *
  refine conW (G := G) (rs := [(2, none)]) hok Tryz.func14 Tryz.results14 Tryz.ntmps14 (hexLo) fun X hP hD hG' hX => ?_
  simp only [argS, num]
  simp (disch := omega) only [go_sem, hD, hG', unbox]
  refine Tr.loop (ι := Nat) (fun i => i ≤ l.length) (fun i => { nt := 24, tm := [(3, .os 5000), (6, .sl 1 (l.map byteRow)), (7, .int .i64 l.length), (8, .int .i64 i)], bl := [(5000, some (.rows 5 1 ((hexS (l.take i)).map byteRow)))] }) (fun i => l.length - i) 0
    ⟨Nat.zero_le _, wk_of hD [] rfl rfl (by simp only [go_sem]; simp) (by simp only [go_sem]; simp [hexS])⟩ ?_
  intro i hi
  refine evC_sound hX hexLo _ _ _ ?_
  simp (disch := omega) only [go_sem, hD, hG', unbox]
  refine condK_split (fun h => ?_) (fun h => ?_)
  · rw [decide_eq_true_eq] at h
    have hi1 : i < l.length := by omega
    have hgx := byteGet hi1
    have hti := take_byte hi1
    have htl : (hexS (l.take i)).length ≤ 2 * l.length := by rw [hexS_len, List.length_take]; omega
    generalize l.getD i 0 = c at *
    have s4 := shr4 c
    have a15 := and15 c
    have hc := c.toNat_lt
    simp (disch := omega) only [go_sem, hD, hG', hgx, hexLo, s4, a15, unbox]
    (repeat (with_reducible refine And.intro (by first | omega | decide | (simp; done) | (simp only [List.length_append, List.length_cons, List.length_nil, List.length_map]; omega)) ?_))
    refine ⟨i + 1, ⟨by omega, by omega⟩, wk_of hD [(5000, 20)] rfl rfl ?_ ?_⟩ <;> simp only [go_sem]
    · simp
    · simp [hti, hexS, hexC, byteRow, hexL]
  · rw [decide_eq_false_iff_not] at h
    have hie : i = l.length := by omega
    subst hie
    rw [List.take_length] at *
    simp (disch := omega) only [go_sem, hD, hG', unbox]
    refine endW [] [] (by simp) rfl rfl rfl ?_ ?_ <;> simp only [go_sem]
def eHex : Ent Tryz.prog D := ⟨14, Wd, fun l => [.sl 1 (l.map byteRow)], fun l => l.length ≤ 8388608, fun l => ⟨.str (hexS l), []⟩, fun x y _ _ h => by
  simp only [List.cons.injEq, AV.sl.injEq, true_and, and_true] at h
  rw [bytes_inj h], con_hex⟩
theorem unhexS_odd : ∀ (l : Wd), l.length % 2 = 1 → unhexS l = none
  | [], h => by simp at h
  | [_], _ => rfl
  | a :: b :: r, h => by
    rw [unhexS, unhexS_odd r (by simp only [List.length_cons] at h; omega)]
    split <;> rfl
theorem hexI_range (c : UInt8) : -1 ≤ hexI c ∧ hexI c < 16 := by
  have h : ∀ n : Fin 256, -1 ≤ hexI (UInt8.ofNat n.val) ∧ hexI (UInt8.ofNat n.val) < 16 := by decide +kernel
  have := h ⟨c.toNat, c.toNat_lt⟩
  simpa using this
theorem hexB_bits (x y : UInt8) (hx : 0 ≤ hexI x) (hy : 0 ≤ hexI y) : IntKind.wrap .u8 (orI .i64 (shlI .i64 (hexI x) 4) (hexI y)) = ((hexB x y).toNat : Int) := by
  have h : ∀ a b : Fin 16, IntKind.wrap .u8 (orI .i64 (shlI .i64 (a.val : Int) 4) (b.val : Int)) = ((UInt8.ofNat (a.val * 16 + b.val)).toNat : Int) := by decide +kernel
  obtain ⟨_, h1⟩ := hexI_range x
  obtain ⟨_, h2⟩ := hexI_range y
  obtain ⟨a, ha⟩ := Int.eq_ofNat_of_zero_le hx
  obtain ⟨b, hb⟩ := Int.eq_ofNat_of_zero_le hy
  unfold hexB
  rw [ha, hb]
  exact h ⟨a, by omega⟩ ⟨b, by omega⟩
theorem drop_two {l : Wd} {j : Nat} (h : 2 * j + 1 < l.length) : l.drop (2 * j) = l.getD (2 * j) 0 :: l.getD (2 * j + 1) 0 :: l.drop (2 * (j + 1)) := by
  rw [List.drop_eq_getElem_cons (by omega), List.drop_eq_getElem_cons (by omega : 2 * j + 1 < l.length)]
  simp only [List.getD_eq_getElem?_getD]
  rw [List.getElem?_eq_getElem (by omega), List.getElem?_eq_getElem (by omega : 2 * j + 1 < l.length)]
  rfl
def unhexLo : Nat → Lo := fun id => match id with | 10 => {uo := [7], kn := [5000], ex := [0]} | _ => {}
set_option maxRecDepth 100000 in
theorem con_unhex (l : Wd) (hl : l.length ≤ 8388608) : Con Tryz.prog D 10 [.str l] ⟨.tup [.sl 1 ((unhexR l).1.map byteRow), .bool (unhexR l).2], []⟩ := by
  have hok : GOk Tryz.prog D (tabG [eIxb]) := tabG_ok _
  have g1 := fun (c : UInt8) => tabG_use (T := [eIxb]) (E := eIxb) (i := 0) rfl (by decide) ((hexL, c)) (trivial)
  generalize tabG [eIxb] = G at *
  dsimp only [eIxb] at g1
  have hcon : ∀ r, r = unhexR l → Con Tryz.prog D 10 [.str l] ⟨.tup [.sl 1 (r.1.map byteRow), .bool r.2], []⟩ := by
    intro r hr
    unfold unhexR at hr
    have g1 : ∀ c : UInt8, G 51 [.str hexL, .int .u8 c.toNat] = some ⟨.int .i64 (hexI c), []⟩ := g1
    simp only [hexL] at g1
    have hdm : (l.length : Int).tmod 2 = ((l.length % 2 : Nat) : Int) := by
      rw [Int.tmod_eq_emod_of_nonneg (by omega)]
      omega
    refine conW (G := G) (rs := [(2, none), (3, none)]) hok Tryz.func10 Tryz.results10 Tryz.ntmps10 (unhexLo) fun X hP hD hG' hX => ?_
    simp only [argS, num]
    by_cases hodd : l.length % 2 = 1
    · have d1 : decide ((l.length : Int).tmod 2 > 0) = true := by rw [hdm, hodd]; rfl
      rw [unhexS_odd l hodd] at hr
      simp (disch := omega) only [go_sem, hD, hG', d1, unhexLo, unbox]
      refine ⟨by decide, ?_⟩
      refine endW [] [] (by simp) rfl rfl rfl ?_ ?_ <;> simp only [go_sem]
      rw [hr]
      simp
    have d1 : decide ((l.length : Int).tmod 2 > 0) = false := by rw [hdm, show l.length % 2 = 0 by omega]; rfl
    simp (disch := omega) only [go_sem, hD, hG', d1, unhexLo, unbox]
    refine ⟨by decide, ?_⟩
    refine Tr.loop (ι := Nat × Wd) (fun x => 2 * x.1 ≤ l.length ∧ x.2.length = x.1 ∧ unhexS l = (unhexS (l.drop (2 * x.1))).map (x.2 ++ ·)) (fun x => { nt := 42, tm := [(0, .str l), (4, .os 5000), (5, .int .i64 ((2 * x.1 : Nat) : Int))], bl := [(5000, some (.rows 5 1 (x.2.map byteRow)))] }) (fun x => l.length - x.1) (0, [])
      ⟨⟨by simp, rfl, by simp⟩, wk_of hD [] rfl rfl (by simp only [go_sem]; simp) (by simp only [go_sem])⟩ ?_
    rintro ⟨j, out⟩ ⟨hj, hjo, hinv⟩
    simp only at hj hjo hinv
    refine evC_sound hX unhexLo _ _ _ ?_
    simp (disch := omega) only [go_sem, hD, hG', unhexLo, unbox]
    refine condK_split (fun h => ?_) (fun h => ?_)
    · rw [decide_eq_true_eq] at h
      have hj1 : 2 * j + 1 < l.length := by omega
      rw [drop_two hj1, unhexS] at hinv
      have e1 : ((2 * j : Nat) : Int).toNat = 2 * j := by omega
      have e2 : (((2 * j : Nat) : Int) + 1).toNat = 2 * j + 1 := by omega
      generalize hx : l.getD (2 * j) 0 = x at *
      generalize hy : l.getD (2 * j + 1) 0 = y at *
      have gx := g1 x
      have gy := g1 y
      obtain ⟨x1, x2⟩ := hexI_range x
      obtain ⟨y1, y2⟩ := hexI_range y
      have hbb := hexB_bits x y
      simp (disch := omega) only [go_sem, hD, hG', unhexLo, e1, e2, hx, hy, gx, gy, unbox]
      (repeat (with_reducible refine And.intro (by first | omega | decide | (simp; done) | (simp only [List.length_append, List.length_cons, List.length_nil, List.length_map]; omega)) ?_))
      refine RegT.mk [] ?_
      simp (disch := omega) only [go_sem, hD, hG', unhexLo, unbox]
      and_intros
      all_goals (try (first | (intro hk; refine ⟨hk, fun h2 => ?_⟩; first | (rw [hk, h2]; rfl) | (rw [hk, decide_eq_false h2]; rfl)) | (intro hk; rw [decide_eq_false hk]; rfl) | (intro hk; rw [hk]; rfl)))
      refine condK_split (fun h0 => ?_) (fun h0 => ?_)
      · have h0 : hexI x < 0 ∨ hexI y < 0 := by simpa using h0
        rw [if_pos h0] at hinv
        simp (disch := omega) only [go_sem, hD, hG', unhexLo, unbox]
        refine endW [] [] (by simp) rfl rfl rfl ?_ ?_ <;> simp only [go_sem]
        rw [hr, hinv]
        simp
      · have h0 : ¬ (hexI x < 0 ∨ hexI y < 0) := by simpa using h0
        rw [if_neg h0] at hinv
        have hbb := hbb (by omega) (by omega)
        generalize hexI x = a at *
        generalize hexI y = b at *
        generalize hexB x y = c at *
        simp (disch := omega) only [go_sem, hD, hG', hbb, unhexLo, unbox]
        (repeat (with_reducible refine And.intro (by first | omega | decide | (simp; done) | (simp only [List.length_append, List.length_cons, List.length_nil, List.length_map]; omega)) ?_))
        refine ⟨(j + 1, out ++ [c]), ⟨⟨by omega, by simp [hjo], ?_⟩, by simp only; omega⟩, wk_of hD [(5000, 40)] rfl rfl ?_ ?_⟩
        · rw [hinv, Option.map_map]
          congr 1
          funext t
          simp
        all_goals simp only [go_sem]
        · omega
        · simp [byteRow]
    · rw [decide_eq_false_iff_not] at h
      have hje : l.drop (2 * j) = [] := List.drop_eq_nil_of_le (by omega)
      rw [hje] at hinv
      simp (disch := omega) only [go_sem, hD, hG', unhexLo, unbox]
      refine endW [5000] [] (by simp) rfl rfl rfl ?_ ?_ <;> simp only [go_sem]
      rw [hr, hinv]
      simp [unhexS]
  exact hcon _ rfl
def eUnhex : Ent Tryz.prog D := ⟨10, Wd, fun l => [.str l], fun l => l.length ≤ 8388608, fun l => ⟨.tup [.sl 1 ((unhexR l).1.map byteRow), .bool (unhexR l).2], []⟩, fun x y _ _ h => by
  simp only [List.cons.injEq, AV.str.injEq, and_true] at h
  rw [h], con_unhex⟩
def VOk (p : LProp) : Prop := p.text.size ≤ 8388608 ∧ -9223372036854775808 ≤ p.n ∧ p.n ≤ 9223372036854775807
theorem con_value (p : LProp) (hp : VOk p) : Con Tryz.prog D 16 [.agg (propRow p)] ⟨.str (valueS p), []⟩ := by
  have hok : GOk Tryz.prog D (tabG [eHex, eItoa]) := tabG_ok _
  have g1 := tabG_use (T := [eHex, eItoa]) (E := eHex) (i := 0) rfl (by decide) (p.text.data.toList) (hp.1)
  have g2 := tabG_use (T := [eHex, eItoa]) (E := eItoa) (i := 1) rfl (by decide) (p.n) (hp.2)
  generalize tabG [eHex, eItoa] = G at *
  dsimp only [eHex] at g1
  dsimp only [eItoa] at g2
  obtain ⟨pk, kd, n, tx⟩ := p
  have hxl := hexS_len tx.data.toList
  have hil := Lib.itoa_length_le n hp.2.1 hp.2.2
  have htl : tx.data.toList.length ≤ 8388608 := hp.1
  simp only at g1 g2
  unfold valueS
  simp only
  generalize hexS tx.data.toList = hx at *
  generalize Lib.itoa n = it at *
  refine conW (G := G) (rs := [(2, none)]) hok Tryz.func16 Tryz.results16 Tryz.ntmps16 (fun _ => {}) fun X hP hD hG' hX => ?_
  simp only [argS, num, propRow]
  by_cases h2 : kd = 2
  · have e2 : (kd == 2) = true := by simp [h2]
    rw [if_pos h2]
    simp (disch := omega) only [go_sem, hD, hG', e2, g1, unbox]
    (repeat (with_reducible refine And.intro (by first | omega | decide | (simp; done) | (simp only [List.length_append, List.length_cons, List.length_nil, List.length_map]; omega)) ?_))
    refine endW [] [] (by simp) rfl rfl rfl ?_ ?_ <;> simp only [go_sem]
  have e2 : (kd == 2) = false := by simp [h2]
  rw [if_neg h2]
  by_cases h3 : kd = 3
  · have e3 : (kd == 3) = true := by simp [h3]
    rw [if_pos h3]
    simp (disch := omega) only [go_sem, hD, hG', e2, e3, g2, unbox]
    (repeat (with_reducible refine And.intro (by first | omega | decide | (simp; done) | (simp only [List.length_append, List.length_cons, List.length_nil, List.length_map]; omega)) ?_))
    refine endW [] [] (by simp) rfl rfl rfl ?_ ?_ <;> simp only [go_sem]
  have e3 : (kd == 3) = false := by simp [h3]
  rw [if_neg h3]
  simp (disch := omega) only [go_sem, hD, hG', e2, e3, g2, unbox]
  refine endW [] [] (by simp) rfl rfl rfl ?_ ?_ <;> simp only [go_sem]
def eValue : Ent Tryz.prog D := ⟨16, LProp, fun p => [.agg (propRow p)], VOk, fun p => ⟨.str (valueS p), []⟩, fun x y _ _ h => by
  simp only [List.cons.injEq, AV.agg.injEq, and_true] at h
  rw [propRow_inj h], con_value⟩
theorem trimPrefix_len (s p : Wd) : (Lib.trimPrefix s p).length ≤ s.length := by
  unfold Lib.trimPrefix
  split
  · simp
  · exact Nat.le_refl _
theorem unhexR_len : ∀ l : Wd, (unhexR l).1.length ≤ l.length
  | [] => by simp [unhexR, unhexS]
  | [_] => by simp [unhexR, unhexS]
  | a :: b :: r => by
    have ih := unhexR_len r
    unfold unhexR at *
    rw [unhexS]
    split
    · simp
    · cases h : unhexS r with
      | none => simp
      | some x => rw [h] at ih; simp at ih ⊢; omega
set_option maxRecDepth 100000 in
theorem con_prop (key s : Wd) (hs : s.length ≤ 8388608) : Con Tryz.prog D 12 [.str key, .str s] ⟨.tup [.agg (propRow (propW key s).1), .bool (propW key s).2], []⟩ := by
  have hok : GOk Tryz.prog D (tabG [eCutp, eUnhex, eNumber]) := tabG_ok _
  have g1 := tabG_use (T := [eCutp, eUnhex, eNumber]) (E := eCutp) (i := 0) rfl (by decide) ((s, [36])) (trivial)
  have g2 := tabG_use (T := [eCutp, eUnhex, eNumber]) (E := eCutp) (i := 0) rfl (by decide) ((s, [33])) (trivial)
  have hl1 := trimPrefix_len s [36]
  have hl2 := trimPrefix_len s [33]
  have g3 := tabG_use (T := [eCutp, eUnhex, eNumber]) (E := eUnhex) (i := 1) rfl (by decide) (Lib.trimPrefix s [36]) (by show (Lib.trimPrefix s [36]).length ≤ 8388608; omega)
  have g4 := tabG_use (T := [eCutp, eUnhex, eNumber]) (E := eNumber) (i := 2) rfl (by decide) (Lib.trimPrefix s [33]) (by show (Lib.trimPrefix s [33]).length ≤ 281474976710656; omega)
  have g5 := tabG_use (T := [eCutp, eUnhex, eNumber]) (E := eNumber) (i := 2) rfl (by decide) (s) (by show s.length ≤ 281474976710656; omega)
  generalize tabG [eCutp, eUnhex, eNumber] = G at *
  dsimp only [eCutp] at g1
  dsimp only [eCutp] at g2
  dsimp only [eUnhex] at g3
  dsimp only [eNumber] at g4
  dsimp only [eNumber] at g5
  have hul := unhexR_len (Lib.trimPrefix s [36])
  unfold propW
  generalize Lib.trimPrefix s [36] = t1 at *
  generalize Lib.trimPrefix s [33] = t2 at *
  generalize Lib.hasPrefix s [36] = b1 at *
  generalize Lib.hasPrefix s [33] = b2 at *
  generalize unhexR t1 = u at *
  generalize numberS t2 = n2 at *
  generalize numberS s = n1 at *
  obtain ⟨u1, u2⟩ := u
  obtain ⟨n21, n22⟩ := n2
  obtain ⟨n11, n12⟩ := n1
  simp only at g3 g4 g5 hul
  refine conW (G := G) (rs := [(4, some 36), (5, none)]) hok Tryz.func12 Tryz.results12 Tryz.ntmps12 (fun _ => {}) fun X hP hD hG' hX => ?_
  simp only [argS, num]
  cases b1
  · cases b2
    · simp (disch := omega) only [go_sem, hD, hG', g1, g2, g5, unbox]
      refine endW [] [] (by simp) rfl rfl rfl ?_ ?_ <;> simp only [go_sem]
      simp [propRow, bA, covs, cov, subs, namess, names]
    · simp (disch := omega) only [go_sem, hD, hG', g1, g2, g4, unbox]
      refine endW [] [] (by simp) rfl rfl rfl ?_ ?_ <;> simp only [go_sem]
      simp [propRow, bA, covs, cov, subs, namess, names]
  · simp (disch := omega) only [go_sem, hD, hG', g1, g3, unbox]
    (repeat (with_reducible refine And.intro (by first | omega | decide | (simp; done) | (simp only [List.length_append, List.length_cons, List.length_nil, List.length_map]; omega)) ?_))
    refine endW [] [] (by simp) rfl rfl rfl ?_ ?_ <;> simp only [go_sem]
    simp [propRow, bA, covs, cov, subs, namess, names]
def eProp : Ent Tryz.prog D := ⟨12, Wd × Wd, fun x => [.str x.1, .str x.2], fun x => x.2.length ≤ 8388608, fun x => ⟨.tup [.agg (propRow (propW x.1 x.2).1), .bool (propW x.1 x.2).2], []⟩, fun x y _ _ h => by
  obtain ⟨a, b⟩ := x
  obtain ⟨a', b'⟩ := y
  simp only [List.cons.injEq, AV.str.injEq, and_true] at h
  rw [h.1, h.2], fun x h => con_prop x.1 x.2 h⟩
end Go.Proofs.YtmlejhpeoiicpaaGreatDoor.Ab
namespace Go.Proofs.YtmlejhpeoiicpaaGreatDoor.Ab
open Go Go.RowKit
set_option linter.unusedVariables false
set_option linter.unusedSimpArgs false

def NOk (n : LNote) : Prop := n.props.length ≤ 1048576 ∧ n.body.length ≤ 8388608 ∧ ∀ p ∈ n.props, VOk p ∧ p.key.size ≤ 8388608
theorem take_prop {l : List LProp} {i : Nat} (h : i < l.length) : l.take (i + 1) = l.take i ++ [l.getD i propD] := by
  rw [List.take_succ_eq_append_getElem h]
  simp [h]
theorem getD_in {α : Type} {l : List α} {k : Nat} {d : α} (h : k < l.length) : l.getD k d ∈ l := by
  have : l.getD k d = l[k] := by simp [h]
  rw [this]; exact List.getElem_mem h
theorem valueS_len {p : LProp} (h : VOk p) : (valueS p).length ≤ 16777300 := by
  have h1 := hexS_len p.text.data.toList
  have h2 := Lib.itoa_length_le p.n h.2.1 h.2.2
  have h3 : p.text.data.toList.length ≤ 8388608 := h.1
  unfold valueS
  split
  · simp only [List.length_cons]; omega
  · split
    · simp only [List.length_cons]; omega
    · omega
theorem cut_len (s p : Wd) : (Lib.cut s p).1.length ≤ s.length ∧ (Lib.cut s p).2.1.length ≤ s.length := by
  unfold Lib.cut
  split
  · exact ⟨by simp only [List.length_take]; omega, by simp⟩
  · exact ⟨Nat.le_refl _, by simp⟩
end Go.Proofs.YtmlejhpeoiicpaaGreatDoor.Ab
namespace Go.Proofs.YtmlejhpeoiicpaaGreatDoor.Ab
open Go Go.RowKit
set_option linter.unusedVariables false
set_option linter.unusedSimpArgs false

structure ABOk (a : LAsk) : Prop where
  k : 1 ≤ a.kind ∧ a.kind ≤ 9
  n : -9223372036854775808 ≤ a.n ∧ a.n ≤ 9223372036854775807
  o : a.kind = 4 → NOk a.note
  l : (Lib.join (askW a) [32]).length ≤ 1000000 ∧ (askW a).length ≤ 1000000
structure SBOk (s : LSay) : Prop where
  n : -9223372036854775808 ≤ s.n ∧ s.n ≤ 9223372036854775807
  m : -9223372036854775808 ≤ s.m ∧ s.m ≤ 9223372036854775807
  e : -9223372036854775808 ≤ s.err ∧ s.err ≤ 9223372036854775807
  o : s.kind = 2 → NOk s.note
  l : (Lib.join (sayW s) [32]).length ≤ 1000000 ∧ (sayW s).length ≤ 1000000
end Go.Proofs.YtmlejhpeoiicpaaGreatDoor.Ab
namespace Go.Proofs.YtmlejhpeoiicpaaGreatDoor.Ab
open Go Go.RowKit
set_option linter.unusedVariables false
set_option linter.unusedSimpArgs false

end Go.Proofs.YtmlejhpeoiicpaaGreatDoor.Ab
