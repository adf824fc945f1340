/-
  Texts of the proof, one behind the other: LnS LnA LnB LnC LnD.
  No condition but those that each theorem names.
-/
import Derived.Test.YtmlejhpeoiicpaaGreatDoorGS
import Derived.Test.YtmlejhpeoiicpaaGreatDoorGH
import Derived.Test.YtmlejhpeoiicpaaGreatDoorGC
import Derived.Lib.ItoaLen
namespace Go.Proofs.YtmlejhpeoiicpaaGreatDoor.Ab
open Go Go.RowKit
set_option linter.unusedVariables false
set_option linter.unusedSimpArgs false

abbrev Wd := List UInt8
def numberS (l : Wd) : Int × Bool := ((atoiS l).1, !(atoiS l).2 && (Lib.itoa (atoiS l).1 == l && (decide (-1073741824 ≤ (atoiS l).1) && decide ((atoiS l).1 ≤ 1073741824))))
def hexL : Wd := [48, 49, 50, 51, 52, 53, 54, 55, 56, 57, 97, 98, 99, 100, 101, 102]
def hexC (c : UInt8) : Wd := [hexL.getD (c.toNat / 16) 0, hexL.getD (c.toNat % 16) 0]
def hexS (l : Wd) : Wd := l.flatMap hexC
def hexI (c : UInt8) : Int := Lib.indexByte hexL c
def hexB (a b : UInt8) : UInt8 := UInt8.ofNat ((hexI a).toNat * 16 + (hexI b).toNat)
def unhexS : Wd → Option Wd
  | [] => some []
  | [_] => none
  | a :: b :: r => if hexI a < 0 ∨ hexI b < 0 then none else (unhexS r).map (hexB a b :: ·)
def unhexR (l : Wd) : Wd × Bool := ((unhexS l).getD [], (unhexS l).isSome)
def valueS (p : LProp) : Wd := if p.kind = 2 then 36 :: hexS p.text.data.toList else if p.kind = 3 then 33 :: Lib.itoa p.n else Lib.itoa p.n
def propW (key s : Wd) : LProp × Bool :=
  if Lib.hasPrefix s [36] = true then (⟨bA key, 2, 0, bA (unhexR (Lib.trimPrefix s [36])).1⟩, (unhexR (Lib.trimPrefix s [36])).2)
  else if Lib.hasPrefix s [33] = true then (⟨bA key, 3, (numberS (Lib.trimPrefix s [33])).1, ⟨#[]⟩⟩, (numberS (Lib.trimPrefix s [33])).2)
  else (⟨bA key, 1, (numberS s).1, ⟨#[]⟩⟩, (numberS s).2)
def propsW (l : List LProp) : List Wd := l.map fun p => p.key.data.toList ++ [61] ++ valueS p
def notedS (n : LNote) : List Wd := propsW n.props ++ [35 :: hexS n.body]
def noteP : List LProp → List Wd → LNote × Bool
  | _, [] => (note0, false)
  | ps, w :: r =>
    if Lib.hasPrefix w [35] = true then (⟨ps, (unhexR (Lib.trimPrefix w [35])).1⟩, (unhexR (Lib.trimPrefix w [35])).2 && r.isEmpty)
    else if (Lib.cut w [61]).2.2 = false then (note0, false)
    else if (propW (Lib.cut w [61]).1 (Lib.cut w [61]).2.1).2 = false then (note0, false)
    else noteP (ps ++ [(propW (Lib.cut w [61]).1 (Lib.cut w [61]).2.1).1]) r
def wordsL : List Wd := [[112, 105, 110, 103], [109, 97, 107, 101], [100, 114, 111, 112], [112, 117, 116], [116, 97, 107, 101], [119, 97, 105, 116], [100, 111, 110, 101], [98, 97, 99, 107], [112, 117, 114, 103, 101]]
def askW (a : LAsk) : List Wd :=
  [wordsL.getD (a.kind - 1).toNat []] ++ (if a.queue.data.toList = [] then [] else [a.queue.data.toList]) ++
  (if a.kind = 2 ∨ a.kind = 6 ∨ a.kind = 7 ∨ a.kind = 8 then [Lib.itoa a.n] else if a.kind = 4 then notedS a.note else [])
def lineB (l : List Wd) : Wd := Lib.join l [32] ++ [10]
def sayW (s : LSay) : List Wd :=
  if s.kind = 2 then [[43, 105, 116, 101, 109], Lib.itoa s.n, Lib.itoa s.m] ++ notedS s.note
  else if s.kind = 3 then [[43, 110, 111, 110, 101]]
  else if s.kind = 4 then [45 :: Lib.itoa s.err]
  else [[43, 111, 107]]

def ixB (l : Wd) : Int := placeG (fun b => 10 == b) l 0
/-- the words of the line that bytes begin with -/
def lineP (b : Wd) : List Wd × Int × Int :=
  if ixB b < 0 ∧ (b.length : Int) < 400 then ([], 0, 9)
  else if ixB b < 0 ∨ 400 ≤ ixB b then ([], 0, 4)
  else (Lib.split (b.take (ixB b).toNat) [32], ixB b + 1, 0)
def ixW (x : Wd) : Int := placeG (fun w => x == w) wordsL 0
def lask0 : LAsk := ⟨0, ⟨#[]⟩, 0, note0⟩
def isNd (k : Int) : Prop := k = 2 ∨ k = 6 ∨ k = 7 ∨ k = 8
instance (k : Int) : Decidable (isNd k) := by unfold isNd; infer_instance
/-- the ask of words, behind its name -/
def laskN (k : Int) (q : Wd) : List Wd → LAsk × Int
  | [x] => if (numberS x).2 = true then (⟨k, bA q, (numberS x).1, note0⟩, wrongAskS ⟨k, bA q, (numberS x).1, note0⟩) else (lask0, 2)
  | _ => (lask0, 2)
def laskQ (k : Int) (q : Wd) (rest : List Wd) : LAsk × Int :=
  if isNd k then laskN k q rest
  else if k = 4 then (if (noteP [] rest).2 = true then (⟨k, bA q, 0, (noteP [] rest).1⟩, wrongAskS ⟨k, bA q, 0, (noteP [] rest).1⟩) else (lask0, 2))
  else if rest = [] then (⟨k, bA q, 0, note0⟩, wrongAskS ⟨k, bA q, 0, note0⟩) else (lask0, 2)
def laskM (k : Int) : List Wd → LAsk × Int
  | [] => (lask0, 2)
  | q :: r => laskQ k q r
def laskP : List Wd → LAsk × Int
  | [] => (lask0, 1)
  | w :: rest => if ixW w + 1 = 0 then (lask0, 1) else if ixW w + 1 ≠ 1 ∧ ixW w + 1 ≠ 7 ∧ ixW w + 1 ≠ 8 then laskM (ixW w + 1) rest else laskQ (ixW w + 1) [] rest
def laskR (b : Wd) : LAsk × Int × Int :=
  if (lineP b).2.2 ≠ 0 then (lask0, 0, (lineP b).2.2)
  else if (laskP (lineP b).1).2 ≠ 0 then (lask0, 0, (laskP (lineP b).1).2)
  else ((laskP (lineP b).1).1, (lineP b).2.1, 0)
def lsay0 : LSay := ⟨0, 0, 0, 0, note0⟩
def lsayEnd (s : LSay) (ok : Bool) : LSay × Int := if ok = true then (s, wrongSayS s) else (lsay0, 2)
def lsayI : List Wd → LSay × Int
  | x :: y :: z :: t => lsayEnd ⟨2, (numberS x).1, (numberS y).1, 0, (noteP [] (z :: t)).1⟩ ((numberS x).2 && (numberS y).2 && (noteP [] (z :: t)).2)
  | _ => (lsay0, 2)
def lsayP : List Wd → LSay × Int
  | [] => (lsay0, 1)
  | w :: r =>
    if w = [43, 111, 107] then lsayEnd ⟨1, 0, 0, 0, note0⟩ r.isEmpty
    else if w = [43, 110, 111, 110, 101] then lsayEnd ⟨3, 0, 0, 0, note0⟩ r.isEmpty
    else if w = [43, 105, 116, 101, 109] then lsayI r
    else if Lib.hasPrefix w [45] = true then lsayEnd ⟨4, 0, 0, (numberS (Lib.trimPrefix w [45])).1, note0⟩ (r.isEmpty && (numberS (Lib.trimPrefix w [45])).2)
    else (lsay0, 1)
def lsayR (b : Wd) : LSay × Int × Int :=
  if (lineP b).2.2 ≠ 0 then (lsay0, 0, (lineP b).2.2)
  else if (lsayP (lineP b).1).2 ≠ 0 then (lsay0, 0, (lsayP (lineP b).1).2)
  else ((lsayP (lineP b).1).1, (lineP b).2.1, 0)
/-! the library's entries -/
def eCutp : Ent Tryz.prog D := ⟨52, Wd × Wd, fun x => [.str x.1, .str x.2], fun _ => True, fun x => ⟨.tup [.str (Lib.trimPrefix x.1 x.2), .bool (Lib.hasPrefix x.1 x.2)], []⟩, fun x y _ _ h => by
  obtain ⟨a, b⟩ := x
  obtain ⟨a', b'⟩ := y
  simp only [List.cons.injEq, AV.str.injEq, and_true] at h
  rw [h.1, h.2], fun x _ => con_cutprefix x.1 x.2⟩
def eIxb : Ent Tryz.prog D := ⟨51, Wd × UInt8, fun x => [.str x.1, .int .u8 x.2.toNat], fun _ => True, fun x => ⟨.int .i64 (Lib.indexByte x.1 x.2), []⟩, fun x y _ _ h => by
  obtain ⟨a, b⟩ := x
  obtain ⟨a', b'⟩ := y
  simp only [List.cons.injEq, AV.str.injEq, AV.int.injEq, true_and, and_true] at h
  have : b = b' := UInt8.toNat_inj.1 (by omega)
  rw [h.1, this], fun x _ => con_sindexbyte x.1 x.2⟩
def eScut : Ent Tryz.prog D := ⟨100, Wd × Wd, fun x => [.str x.1, .str x.2], fun x => x.1.length < 4294967281, fun x => ⟨.tup [.str (Lib.cut x.1 x.2).1, .str (Lib.cut x.1 x.2).2.1, .bool (Lib.cut x.1 x.2).2.2], []⟩, fun x y _ _ h => by
  obtain ⟨a, b⟩ := x
  obtain ⟨a', b'⟩ := y
  simp only [List.cons.injEq, AV.str.injEq, and_true] at h
  rw [h.1, h.2], fun x h => con_scut x.1 x.2 h⟩
def eSplit : Ent Tryz.prog D := ⟨72, Wd × Wd, fun x => [.str x.1, .str x.2], fun x => x.1.length < 4294967281 ∧ 1 ≤ x.2.length, fun x => ⟨.sl 1 ((Lib.split x.1 x.2).map strRow), []⟩, fun x y _ _ h => by
  obtain ⟨a, b⟩ := x
  obtain ⟨a', b'⟩ := y
  simp only [List.cons.injEq, AV.str.injEq, and_true] at h
  rw [h.1, h.2], fun x h => con_ssplit x.1 x.2 h.1 h.2⟩
def eJoin : Ent Tryz.prog D := ⟨57, List Wd × Wd, fun x => [.sl 1 (x.1.map strRow), .str x.2], fun x => (Lib.join x.1 x.2).length ≤ 1099511627776 ∧ x.1.length ≤ 1099511627776, fun x => ⟨.str (Lib.join x.1 x.2), []⟩, fun x y _ _ h => by
  obtain ⟨a, b⟩ := x
  obtain ⟨a', b'⟩ := y
  simp only [List.cons.injEq, AV.str.injEq, AV.sl.injEq, true_and, and_true] at h
  rw [strs_inj h.1, h.2], fun x h => con_sjoin x.1 x.2 h.1 h.2⟩
def eItoa : Ent Tryz.prog D := ⟨50, Int, fun n => [.int .i64 n], fun n => -9223372036854775808 ≤ n ∧ n ≤ 9223372036854775807, fun n => ⟨.str (Lib.itoa n), []⟩, fun x y _ _ h => by
  simp only [List.cons.injEq, AV.int.injEq, true_and, and_true] at h
  rw [h], fun n h => con_itoa n h.1 h.2⟩
def eAtoi : Ent Tryz.prog D := ⟨49, Wd, fun l => [.str l], fun l => l.length ≤ 281474976710656, fun l => ⟨.tup [.int .i64 (atoiS l).1, .ifc (atoiS l).2], []⟩, fun x y _ _ h => by
  simp only [List.cons.injEq, AV.str.injEq, and_true] at h
  rw [h], con_atoi⟩
theorem atoiS_range (l : Wd) : -9223372036854775808 ≤ (atoiS l).1 ∧ (atoiS l).1 ≤ 9223372036854775807 := by
  unfold atoiS
  rcases h : Lib.atoiAll l with v | _ | _
  · exact Lib.atoiAll_bounds h
  · simp
  · exact Lib.atoiSat_bounds l
theorem hexS_len (l : Wd) : (hexS l).length = 2 * l.length := by
  induction l with
  | nil => rfl
  | cons c r ih => simp only [hexS, List.flatMap_cons, List.length_append, List.length_cons] at ih ⊢; rw [ih]; simp [hexC]; omega
end Go.Proofs.YtmlejhpeoiicpaaGreatDoor.Ab
namespace Go.Proofs.YtmlejhpeoiicpaaGreatDoor.Ab
open Go Go.RowKit
set_option linter.unusedVariables false
set_option linter.unusedSimpArgs false

theorem con_number (l : Wd) (hl : l.length ≤ 281474976710656) : Con Tryz.prog D 8 [.str l] ⟨.tup [.int .i64 (numberS l).1, .bool (numberS l).2], []⟩ := by
  have hok : GOk Tryz.prog D (tabG [eAtoi, eItoa]) := tabG_ok _
  have g1 := tabG_use (T := [eAtoi, eItoa]) (E := eAtoi) (i := 0) rfl (by decide) (l) (hl)
  have g2 := tabG_use (T := [eAtoi, eItoa]) (E := eItoa) (i := 1) rfl (by decide) ((atoiS l).1) (atoiS_range l)
  generalize tabG [eAtoi, eItoa] = G at *
  dsimp only [eAtoi] at g1
  dsimp only [eItoa] at g2
  unfold numberS
  generalize (atoiS l).1 = n at *
  generalize (atoiS l).2 = e at *
  refine conW (G := G) (rs := [(2, none), (3, none)]) hok Tryz.func8 Tryz.results8 Tryz.ntmps8 (fun _ => {}) fun X hP hD hG' hX => ?_
  simp only [argS, num]
  simp (disch := omega) only [go_sem, hD, hG', g1, unbox]
  refine RegT.mk [] ?_
  simp (disch := omega) only [go_sem, hD, hG', g2, unbox]
  and_intros
  all_goals (try (first | decide | omega | (first | (intro hk; refine ⟨hk, fun h2 => ?_⟩; first | (rw [hk, h2]; rfl) | (rw [hk, decide_eq_false h2]; rfl)) | (intro hk; rw [decide_eq_false hk]; rfl) | (intro hk; rw [hk]; rfl))))
  all_goals (first | (simp; done) | skip)
  all_goals (try (refine ⟨_, Wk.refl, _, rfl, [], [], rfl, rfl, ?_, ?_⟩ <;> simp only [go_sem]))
  all_goals (
    simp only [ge_iff_le]
    generalize decide (-1073741824 ≤ n) = b1
    generalize decide (n ≤ 1073741824) = b2
    generalize (Lib.itoa n == l) = b3
    cases e <;> cases b1 <;> cases b2 <;> cases b3 <;> rfl)
def eNumber : Ent Tryz.prog D := ⟨8, Wd, fun l => [.str l], fun l => l.length ≤ 281474976710656, fun l => ⟨.tup [.int .i64 (numberS l).1, .bool (numberS l).2], []⟩, fun x y _ _ h => by
  simp only [List.cons.injEq, AV.str.injEq, and_true] at h
  rw [h], con_number⟩
theorem shr4 (c : UInt8) : shrI .u8 c.toNat 4 = ((c.toNat / 16 : Nat) : Int) := by
  unfold shrI
  rw [show min (Int.toNat 4) (IntKind.bits .u8) = 4 by decide, Int.fdiv_eq_ediv_of_nonneg _ (by decide)]
  omega
theorem and15 : ∀ c : UInt8, andI .u8 c.toNat 15 = ((c.toNat % 16 : Nat) : Int) := by
  have h : ∀ n : Fin 256, andI .u8 (n.val : Int) 15 = ((n.val % 16 : Nat) : Int) := by decide +kernel
  intro c
  exact h ⟨c.toNat, c.toNat_lt⟩
theorem take_byte {l : Wd} {i : Nat} (h : i < l.length) : l.take (i + 1) = l.take i ++ [l.getD i 0] := by
  rw [List.take_succ_eq_append_getElem h]
  simp [h]
def hexLo : Nat → Lo := fun id => match id with | 5 => {uo := [8], kn := [5000], ex := [0]} | _ => {}
set_option maxRecDepth 100000 in
theorem con_hex (l : Wd) (hl : l.length ≤ 8388608) : Con Tryz.prog D 14 [.sl 1 (l.map byteRow)] ⟨.str (hexS l), []⟩ := by
  have hok : GOk Tryz.prog D (tabG []) := tabG_ok _
  generalize tabG [] = G at *
  refine conW (G := G) (rs := [(2, none)]) hok Tryz.func14 Tryz.results14 Tryz.ntmps14 (hexLo) fun X hP hD hG' hX => ?_
  simp only [argS, num]
  simp (disch := omega) only [go_sem, hD, hG', unbox]
  refine Tr.loop (ι := Nat) (fun i => i ≤ l.length) (fun i => { nt := 24, tm := [(3, .os 5000), (6, .sl 1 (l.map byteRow)), (7, .int .i64 l.length), (8, .int .i64 i)], bl := [(5000, some (.rows 5 1 ((hexS (l.take i)).map byteRow)))] }) (fun i => l.length - i) 0
    ⟨Nat.zero_le _, wk_of hD [] rfl rfl (by simp only [go_sem]; simp) (by simp only [go_sem]; simp [hexS])⟩ ?_
  intro i hi
  refine evC_sound hX hexLo _ _ _ ?_
  simp (disch := omega) only [go_sem, hD, hG', unbox]
  refine condK_split (fun h => ?_) (fun h => ?_)
  · rw [decide_eq_true_eq] at h
    have hi1 : i < l.length := by omega
    have hgx := byteGet hi1
    have hti := take_byte hi1
    have htl : (hexS (l.take i)).length ≤ 2 * l.length := by rw [hexS_len, List.length_take]; omega
    generalize l.getD i 0 = c at *
    have s4 := shr4 c
    have a15 := and15 c
    have hc := c.toNat_lt
    simp (disch := omega) only [go_sem, hD, hG', hgx, hexLo, s4, a15, unbox]
    (repeat (with_reducible refine And.intro (by first | omega | decide | (simp; done) | (simp only [List.length_append, List.length_cons, List.length_nil, List.length_map]; omega)) ?_))
    refine ⟨i + 1, ⟨by omega, by omega⟩, wk_of hD [(5000, 20)] rfl rfl ?_ ?_⟩ <;> simp only [go_sem]
    · simp
    · simp [hti, hexS, hexC, byteRow, hexL]
  · rw [decide_eq_false_iff_not] at h
    have hie : i = l.length := by omega
    subst hie
    rw [List.take_length] at *
    simp (disch := omega) only [go_sem, hD, hG', unbox]
    refine endW [] [] (by simp) rfl rfl rfl ?_ ?_ <;> simp only [go_sem]
def eHex : Ent Tryz.prog D := ⟨14, Wd, fun l => [.sl 1 (l.map byteRow)], fun l => l.length ≤ 8388608, fun l => ⟨.str (hexS l), []⟩, fun x y _ _ h => by
  simp only [List.cons.injEq, AV.sl.injEq, true_and, and_true] at h
  rw [bytes_inj h], con_hex⟩
theorem unhexS_odd : ∀ (l : Wd), l.length % 2 = 1 → unhexS l = none
  | [], h => by simp at h
  | [_], _ => rfl
  | a :: b :: r, h => by
    rw [unhexS, unhexS_odd r (by simp only [List.length_cons] at h; omega)]
    split <;> rfl
theorem hexI_range (c : UInt8) : -1 ≤ hexI c ∧ hexI c < 16 := by
  have h : ∀ n : Fin 256, -1 ≤ hexI (UInt8.ofNat n.val) ∧ hexI (UInt8.ofNat n.val) < 16 := by decide +kernel
  have := h ⟨c.toNat, c.toNat_lt⟩
  simpa using this
theorem hexB_bits (x y : UInt8) (hx : 0 ≤ hexI x) (hy : 0 ≤ hexI y) : IntKind.wrap .u8 (orI .i64 (shlI .i64 (hexI x) 4) (hexI y)) = ((hexB x y).toNat : Int) := by
  have h : ∀ a b : Fin 16, IntKind.wrap .u8 (orI .i64 (shlI .i64 (a.val : Int) 4) (b.val : Int)) = ((UInt8.ofNat (a.val * 16 + b.val)).toNat : Int) := by decide +kernel
  obtain ⟨_, h1⟩ := hexI_range x
  obtain ⟨_, h2⟩ := hexI_range y
  obtain ⟨a, ha⟩ := Int.eq_ofNat_of_zero_le hx
  obtain ⟨b, hb⟩ := Int.eq_ofNat_of_zero_le hy
  unfold hexB
  rw [ha, hb]
  exact h ⟨a, by omega⟩ ⟨b, by omega⟩
theorem drop_two {l : Wd} {j : Nat} (h : 2 * j + 1 < l.length) : l.drop (2 * j) = l.getD (2 * j) 0 :: l.getD (2 * j + 1) 0 :: l.drop (2 * (j + 1)) := by
  rw [List.drop_eq_getElem_cons (by omega), List.drop_eq_getElem_cons (by omega : 2 * j + 1 < l.length)]
  simp only [List.getD_eq_getElem?_getD]
  rw [List.getElem?_eq_getElem (by omega), List.getElem?_eq_getElem (by omega : 2 * j + 1 < l.length)]
  rfl
def unhexLo : Nat → Lo := fun id => match id with | 10 => {uo := [7], kn := [5000], ex := [0]} | _ => {}
set_option maxRecDepth 100000 in
theorem con_unhex (l : Wd) (hl : l.length ≤ 8388608) : Con Tryz.prog D 10 [.str l] ⟨.tup [.sl 1 ((unhexR l).1.map byteRow), .bool (unhexR l).2], []⟩ := by
  have hok : GOk Tryz.prog D (tabG [eIxb]) := tabG_ok _
  have g1 := fun (c : UInt8) => tabG_use (T := [eIxb]) (E := eIxb) (i := 0) rfl (by decide) ((hexL, c)) (trivial)
  generalize tabG [eIxb] = G at *
  dsimp only [eIxb] at g1
  have hcon : ∀ r, r = unhexR l → Con Tryz.prog D 10 [.str l] ⟨.tup [.sl 1 (r.1.map byteRow), .bool r.2], []⟩ := by
    intro r hr
    unfold unhexR at hr
    have g1 : ∀ c : UInt8, G 51 [.str hexL, .int .u8 c.toNat] = some ⟨.int .i64 (hexI c), []⟩ := g1
    simp only [hexL] at g1
    have hdm : (l.length : Int).tmod 2 = ((l.length % 2 : Nat) : Int) := by
      rw [Int.tmod_eq_emod_of_nonneg (by omega)]
      omega
    refine conW (G := G) (rs := [(2, none), (3, none)]) hok Tryz.func10 Tryz.results10 Tryz.ntmps10 (unhexLo) fun X hP hD hG' hX => ?_
    simp only [argS, num]
    by_cases hodd : l.length % 2 = 1
    · have d1 : decide ((l.length : Int).tmod 2 > 0) = true := by rw [hdm, hodd]; rfl
      rw [unhexS_odd l hodd] at hr
      simp (disch := omega) only [go_sem, hD, hG', d1, unhexLo, unbox]
      refine ⟨by decide, ?_⟩
      refine endW [] [] (by simp) rfl rfl rfl ?_ ?_ <;> simp only [go_sem]
      rw [hr]
      simp
    have d1 : decide ((l.length : Int).tmod 2 > 0) = false := by rw [hdm, show l.length % 2 = 0 by omega]; rfl
    simp (disch := omega) only [go_sem, hD, hG', d1, unhexLo, unbox]
    refine ⟨by decide, ?_⟩
    refine Tr.loop (ι := Nat × Wd) (fun x => 2 * x.1 ≤ l.length ∧ x.2.length = x.1 ∧ unhexS l = (unhexS (l.drop (2 * x.1))).map (x.2 ++ ·)) (fun x => { nt := 42, tm := [(0, .str l), (4, .os 5000), (5, .int .i64 ((2 * x.1 : Nat) : Int))], bl := [(5000, some (.rows 5 1 (x.2.map byteRow)))] }) (fun x => l.length - x.1) (0, [])
      ⟨⟨by simp, rfl, by simp⟩, wk_of hD [] rfl rfl (by simp only [go_sem]; simp) (by simp only [go_sem])⟩ ?_
    rintro ⟨j, out⟩ ⟨hj, hjo, hinv⟩
    simp only at hj hjo hinv
    refine evC_sound hX unhexLo _ _ _ ?_
    simp (disch := omega) only [go_sem, hD, hG', unhexLo, unbox]
    refine condK_split (fun h => ?_) (fun h => ?_)
    · rw [decide_eq_true_eq] at h
      have hj1 : 2 * j + 1 < l.length := by omega
      rw [drop_two hj1, unhexS] at hinv
      have e1 : ((2 * j : Nat) : Int).toNat = 2 * j := by omega
      have e2 : (((2 * j : Nat) : Int) + 1).toNat = 2 * j + 1 := by omega
      generalize hx : l.getD (2 * j) 0 = x at *
      generalize hy : l.getD (2 * j + 1) 0 = y at *
      have gx := g1 x
      have gy := g1 y
      obtain ⟨x1, x2⟩ := hexI_range x
      obtain ⟨y1, y2⟩ := hexI_range y
      have hbb := hexB_bits x y
      simp (disch := omega) only [go_sem, hD, hG', unhexLo, e1, e2, hx, hy, gx, gy, unbox]
      (repeat (with_reducible refine And.intro (by first | omega | decide | (simp; done) | (simp only [List.length_append, List.length_cons, List.length_nil, List.length_map]; omega)) ?_))
      refine RegT.mk [] ?_
      simp (disch := omega) only [go_sem, hD, hG', unhexLo, unbox]
      and_intros
      all_goals (try (first | (intro hk; refine ⟨hk, fun h2 => ?_⟩; first | (rw [hk, h2]; rfl) | (rw [hk, decide_eq_false h2]; rfl)) | (intro hk; rw [decide_eq_false hk]; rfl) | (intro hk; rw [hk]; rfl)))
      refine condK_split (fun h0 => ?_) (fun h0 => ?_)
      · have h0 : hexI x < 0 ∨ hexI y < 0 := by simpa using h0
        rw [if_pos h0] at hinv
        simp (disch := omega) only [go_sem, hD, hG', unhexLo, unbox]
        refine endW [] [] (by simp) rfl rfl rfl ?_ ?_ <;> simp only [go_sem]
        rw [hr, hinv]
        simp
      · have h0 : ¬ (hexI x < 0 ∨ hexI y < 0) := by simpa using h0
        rw [if_neg h0] at hinv
        have hbb := hbb (by omega) (by omega)
        generalize hexI x = a at *
        generalize hexI y = b at *
        generalize hexB x y = c at *
        simp (disch := omega) only [go_sem, hD, hG', hbb, unhexLo, unbox]
        (repeat (with_reducible refine And.intro (by first | omega | decide | (simp; done) | (simp only [List.length_append, List.length_cons, List.length_nil, List.length_map]; omega)) ?_))
        refine ⟨(j + 1, out ++ [c]), ⟨⟨by omega, by simp [hjo], ?_⟩, by simp only; omega⟩, wk_of hD [(5000, 40)] rfl rfl ?_ ?_⟩
        · rw [hinv, Option.map_map]
          congr 1
          funext t
          simp
        all_goals simp only [go_sem]
        · omega
        · simp [byteRow]
    · rw [decide_eq_false_iff_not] at h
      have hje : l.drop (2 * j) = [] := List.drop_eq_nil_of_le (by omega)
      rw [hje] at hinv
      simp (disch := omega) only [go_sem, hD, hG', unhexLo, unbox]
      refine endW [5000] [] (by simp) rfl rfl rfl ?_ ?_ <;> simp only [go_sem]
      rw [hr, hinv]
      simp [unhexS]
  exact hcon _ rfl
def eUnhex : Ent Tryz.prog D := ⟨10, Wd, fun l => [.str l], fun l => l.length ≤ 8388608, fun l => ⟨.tup [.sl 1 ((unhexR l).1.map byteRow), .bool (unhexR l).2], []⟩, fun x y _ _ h => by
  simp only [List.cons.injEq, AV.str.injEq, and_true] at h
  rw [h], con_unhex⟩
def VOk (p : LProp) : Prop := p.text.size ≤ 8388608 ∧ -9223372036854775808 ≤ p.n ∧ p.n ≤ 9223372036854775807
theorem con_value (p : LProp) (hp : VOk p) : Con Tryz.prog D 16 [.agg (propRow p)] ⟨.str (valueS p), []⟩ := by
  have hok : GOk Tryz.prog D (tabG [eHex, eItoa]) := tabG_ok _
  have g1 := tabG_use (T := [eHex, eItoa]) (E := eHex) (i := 0) rfl (by decide) (p.text.data.toList) (hp.1)
  have g2 := tabG_use (T := [eHex, eItoa]) (E := eItoa) (i := 1) rfl (by decide) (p.n) (hp.2)
  generalize tabG [eHex, eItoa] = G at *
  dsimp only [eHex] at g1
  dsimp only [eItoa] at g2
  obtain ⟨pk, kd, n, tx⟩ := p
  have hxl := hexS_len tx.data.toList
  have hil := Lib.itoa_length_le n hp.2.1 hp.2.2
  have htl : tx.data.toList.length ≤ 8388608 := hp.1
  simp only at g1 g2
  unfold valueS
  simp only
  generalize hexS tx.data.toList = hx at *
  generalize Lib.itoa n = it at *
  refine conW (G := G) (rs := [(2, none)]) hok Tryz.func16 Tryz.results16 Tryz.ntmps16 (fun _ => {}) fun X hP hD hG' hX => ?_
  simp only [argS, num, propRow]
  by_cases h2 : kd = 2
  · have e2 : (kd == 2) = true := by simp [h2]
    rw [if_pos h2]
    simp (disch := omega) only [go_sem, hD, hG', e2, g1, unbox]
    (repeat (with_reducible refine And.intro (by first | omega | decide | (simp; done) | (simp only [List.length_append, List.length_cons, List.length_nil, List.length_map]; omega)) ?_))
    refine endW [] [] (by simp) rfl rfl rfl ?_ ?_ <;> simp only [go_sem]
  have e2 : (kd == 2) = false := by simp [h2]
  rw [if_neg h2]
  by_cases h3 : kd = 3
  · have e3 : (kd == 3) = true := by simp [h3]
    rw [if_pos h3]
    simp (disch := omega) only [go_sem, hD, hG', e2, e3, g2, unbox]
    (repeat (with_reducible refine And.intro (by first | omega | decide | (simp; done) | (simp only [List.length_append, List.length_cons, List.length_nil, List.length_map]; omega)) ?_))
    refine endW [] [] (by simp) rfl rfl rfl ?_ ?_ <;> simp only [go_sem]
  have e3 : (kd == 3) = false := by simp [h3]
  rw [if_neg h3]
  simp (disch := omega) only [go_sem, hD, hG', e2, e3, g2, unbox]
  refine endW [] [] (by simp) rfl rfl rfl ?_ ?_ <;> simp only [go_sem]
def eValue : Ent Tryz.prog D := ⟨16, LProp, fun p => [.agg (propRow p)], VOk, fun p => ⟨.str (valueS p), []⟩, fun x y _ _ h => by
  simp only [List.cons.injEq, AV.agg.injEq, and_true] at h
  rw [propRow_inj h], con_value⟩
theorem trimPrefix_len (s p : Wd) : (Lib.trimPrefix s p).length ≤ s.length := by
  unfold Lib.trimPrefix
  split
  · simp
  · exact Nat.le_refl _
theorem unhexR_len : ∀ l : Wd, (unhexR l).1.length ≤ l.length
  | [] => by simp [unhexR, unhexS]
  | [_] => by simp [unhexR, unhexS]
  | a :: b :: r => by
    have ih := unhexR_len r
    unfold unhexR at *
    rw [unhexS]
    split
    · simp
    · cases h : unhexS r with
      | none => simp
      | some x => rw [h] at ih; simp at ih ⊢; omega
set_option maxRecDepth 100000 in
theorem con_prop (key s : Wd) (hs : s.length ≤ 8388608) : Con Tryz.prog D 12 [.str key, .str s] ⟨.tup [.agg (propRow (propW key s).1), .bool (propW key s).2], []⟩ := by
  have hok : GOk Tryz.prog D (tabG [eCutp, eUnhex, eNumber]) := tabG_ok _
  have g1 := tabG_use (T := [eCutp, eUnhex, eNumber]) (E := eCutp) (i := 0) rfl (by decide) ((s, [36])) (trivial)
  have g2 := tabG_use (T := [eCutp, eUnhex, eNumber]) (E := eCutp) (i := 0) rfl (by decide) ((s, [33])) (trivial)
  have hl1 := trimPrefix_len s [36]
  have hl2 := trimPrefix_len s [33]
  have g3 := tabG_use (T := [eCutp, eUnhex, eNumber]) (E := eUnhex) (i := 1) rfl (by decide) (Lib.trimPrefix s [36]) (by show (Lib.trimPrefix s [36]).length ≤ 8388608; omega)
  have g4 := tabG_use (T := [eCutp, eUnhex, eNumber]) (E := eNumber) (i := 2) rfl (by decide) (Lib.trimPrefix s [33]) (by show (Lib.trimPrefix s [33]).length ≤ 281474976710656; omega)
  have g5 := tabG_use (T := [eCutp, eUnhex, eNumber]) (E := eNumber) (i := 2) rfl (by decide) (s) (by show s.length ≤ 281474976710656; omega)
  generalize tabG [eCutp, eUnhex, eNumber] = G at *
  dsimp only [eCutp] at g1
  dsimp only [eCutp] at g2
  dsimp only [eUnhex] at g3
  dsimp only [eNumber] at g4
  dsimp only [eNumber] at g5
  have hul := unhexR_len (Lib.trimPrefix s [36])
  unfold propW
  generalize Lib.trimPrefix s [36] = t1 at *
  generalize Lib.trimPrefix s [33] = t2 at *
  generalize Lib.hasPrefix s [36] = b1 at *
  generalize Lib.hasPrefix s [33] = b2 at *
  generalize unhexR t1 = u at *
  generalize numberS t2 = n2 at *
  generalize numberS s = n1 at *
  obtain ⟨u1, u2⟩ := u
  obtain ⟨n21, n22⟩ := n2
  obtain ⟨n11, n12⟩ := n1
  simp only at g3 g4 g5 hul
  refine conW (G := G) (rs := [(4, some 36), (5, none)]) hok Tryz.func12 Tryz.results12 Tryz.ntmps12 (fun _ => {}) fun X hP hD hG' hX => ?_
  simp only [argS, num]
  cases b1
  · cases b2
    · simp (disch := omega) only [go_sem, hD, hG', g1, g2, g5, unbox]
      refine endW [] [] (by simp) rfl rfl rfl ?_ ?_ <;> simp only [go_sem]
      simp [propRow, bA, covs, cov, subs, namess, names]
    · simp (disch := omega) only [go_sem, hD, hG', g1, g2, g4, unbox]
      refine endW [] [] (by simp) rfl rfl rfl ?_ ?_ <;> simp only [go_sem]
      simp [propRow, bA, covs, cov, subs, namess, names]
  · simp (disch := omega) only [go_sem, hD, hG', g1, g3, unbox]
    (repeat (with_reducible refine And.intro (by first | omega | decide | (simp; done) | (simp only [List.length_append, List.length_cons, List.length_nil, List.length_map]; omega)) ?_))
    refine endW [] [] (by simp) rfl rfl rfl ?_ ?_ <;> simp only [go_sem]
    simp [propRow, bA, covs, cov, subs, namess, names]
def eProp : Ent Tryz.prog D := ⟨12, Wd × Wd, fun x => [.str x.1, .str x.2], fun x => x.2.length ≤ 8388608, fun x => ⟨.tup [.agg (propRow (propW x.1 x.2).1), .bool (propW x.1 x.2).2], []⟩, fun x y _ _ h => by
  obtain ⟨a, b⟩ := x
  obtain ⟨a', b'⟩ := y
  simp only [List.cons.injEq, AV.str.injEq, and_true] at h
  rw [h.1, h.2], fun x h => con_prop x.1 x.2 h⟩
end Go.Proofs.YtmlejhpeoiicpaaGreatDoor.Ab
namespace Go.Proofs.YtmlejhpeoiicpaaGreatDoor.Ab
open Go Go.RowKit
set_option linter.unusedVariables false
set_option linter.unusedSimpArgs false

def NOk (n : LNote) : Prop := n.props.length ≤ 1048576 ∧ n.body.length ≤ 8388608 ∧ ∀ p ∈ n.props, VOk p ∧ p.key.size ≤ 8388608
theorem take_prop {l : List LProp} {i : Nat} (h : i < l.length) : l.take (i + 1) = l.take i ++ [l.getD i propD] := by
  rw [List.take_succ_eq_append_getElem h]
  simp [h]
theorem getD_in {α : Type} {l : List α} {k : Nat} {d : α} (h : k < l.length) : l.getD k d ∈ l := by
  have : l.getD k d = l[k] := by simp [h]
  rw [this]; exact List.getElem_mem h
theorem valueS_len {p : LProp} (h : VOk p) : (valueS p).length ≤ 16777300 := by
  have h1 := hexS_len p.text.data.toList
  have h2 := Lib.itoa_length_le p.n h.2.1 h.2.2
  have h3 : p.text.data.toList.length ≤ 8388608 := h.1
  unfold valueS
  split
  · simp only [List.length_cons]; omega
  · split
    · simp only [List.length_cons]; omega
    · omega
def notedLo : Nat → Lo := fun id => match id with | 5 => {uo := [8], kn := [5000], ex := [0]} | _ => {}
set_option maxRecDepth 100000 in
theorem con_noted (n : LNote) (hn : NOk n) : Con Tryz.prog D 56 [noteA n] ⟨.os 0, [(9, 1, (notedS n).map strRow)]⟩ := by
  have hok : GOk Tryz.prog D (tabG [eHex, eValue]) := tabG_ok _
  have g1 := tabG_use (T := [eHex, eValue]) (E := eHex) (i := 0) rfl (by decide) (n.body) (hn.2.1)
  have g2 := fun (p : LProp) (h : VOk p) => tabG_use (T := [eHex, eValue]) (E := eValue) (i := 1) rfl (by decide) (p) (h)
  generalize tabG [eHex, eValue] = G at *
  dsimp only [eHex] at g1
  dsimp only [eValue] at g2
  obtain ⟨hn1, hn2, hn3⟩ := hn
  obtain ⟨ps, bs⟩ := n
  have hxl := hexS_len bs
  simp only at g1 hn1 hn2 hn3
  refine conW (G := G) (rs := [(2, none)]) hok Tryz.func56 Tryz.results56 Tryz.ntmps56 (notedLo) fun X hP hD hG' hX => ?_
  simp only [argS, num, noteA]
  simp (disch := omega) only [go_sem, hD, hG', notedLo, unbox]
  refine Tr.loop (ι := Nat) (fun i => i ≤ ps.length) (fun i => { nt := 30, tm := [(1, .ptr 1 0), (3, .os 5000), (7, .sl 4 (ps.map propRow)), (8, .int .i64 ps.length), (9, .int .i64 i)], bl := [(1, some (.cells [.sl 4 (ps.map propRow), .sl 1 (bs.map byteRow)])), (5000, some (.rows 9 1 ((propsW (ps.take i)).map strRow)))] }) (fun i => ps.length - i) 0
    ⟨Nat.zero_le _, wk_of hD [(1, 1)] rfl rfl (by simp only [go_sem]; simp) (by simp only [go_sem]; simp [propsW])⟩ ?_
  intro i hi
  refine evC_sound hX notedLo _ _ _ ?_
  simp (disch := omega) only [go_sem, hD, hG', notedLo, unbox]
  refine condK_split (fun h => ?_) (fun h => ?_)
  · rw [decide_eq_true_eq] at h
    have hi1 : i < ps.length := by omega
    have hgx := propGet hi1
    have hti := take_prop hi1
    obtain ⟨hv, hk⟩ := hn3 _ (getD_in (d := propD) hi1)
    have hvl := valueS_len hv
    have g2 := g2 _ hv
    have htl : (propsW (ps.take i)).length ≤ ps.length := by unfold propsW; rw [List.length_map, List.length_take]; omega
    generalize ps.getD i propD = p at *
    obtain ⟨p1, p2, p3, p4⟩ := p
    have hk : p1.data.toList.length ≤ 8388608 := hk
    simp only [propRow] at hgx g2
    simp (disch := omega) only [go_sem, hD, hG', hgx, g2, notedLo, unbox]
    (repeat (with_reducible refine And.intro (by first | omega | decide | (simp; done) | (simp only [List.length_append, List.length_cons, List.length_nil, List.length_map]; omega)) ?_))
    refine ⟨i + 1, ⟨by omega, by omega⟩, wk_of hD [(1, 1), (5000, 21)] rfl rfl ?_ ?_⟩ <;> simp only [go_sem]
    · simp
    · simp [hti, propsW, strRow]
  · rw [decide_eq_false_iff_not] at h
    have hie : i = ps.length := by omega
    subst hie
    rw [List.take_length] at *
    have htl : (propsW ps).length ≤ ps.length := by unfold propsW; rw [List.length_map]; omega
    simp (disch := omega) only [go_sem, hD, hG', g1, notedLo, unbox]
    (repeat (with_reducible refine And.intro (by first | omega | decide | (simp; done) | (simp only [List.length_append, List.length_cons, List.length_nil, List.length_map]; omega)) ?_))
    refine endW [] [(0, 29)] (by simp) rfl rfl rfl ?_ ?_ <;> simp only [go_sem]
    simp [notedS, strRow]
def eNoted : Ent Tryz.prog D := ⟨56, LNote, fun n => [noteA n], NOk, fun n => ⟨.os 0, [(9, 1, (notedS n).map strRow)]⟩, fun x y _ _ h => by
  simp only [List.cons.injEq, and_true] at h
  rw [noteA_inj h], con_noted⟩
theorem cut_len (s p : Wd) : (Lib.cut s p).1.length ≤ s.length ∧ (Lib.cut s p).2.1.length ≤ s.length := by
  unfold Lib.cut
  split
  · exact ⟨by simp only [List.length_take]; omega, by simp⟩
  · exact ⟨Nat.le_refl _, by simp⟩
set_option maxRecDepth 100000 in
theorem con_lnote (l : List Wd) (h1 : l.length ≤ 1048576) (h2 : ∀ w ∈ l, w.length ≤ 8388608) : Con Tryz.prog D 97 [.sl 1 (l.map strRow)] ⟨.tup [noteA (noteP [] l).1, .bool (noteP [] l).2], []⟩ := by
  have hok : GOk Tryz.prog D (tabG [eCutp, eUnhex, eScut, eProp]) := tabG_ok _
  have g1 := fun (w : Wd) => tabG_use (T := [eCutp, eUnhex, eScut, eProp]) (E := eCutp) (i := 0) rfl (by decide) ((w, [35])) (trivial)
  have g2 := fun (w : Wd) (h : w.length ≤ 8388608) => tabG_use (T := [eCutp, eUnhex, eScut, eProp]) (E := eUnhex) (i := 1) rfl (by decide) (w) (h)
  have g3 := fun (w : Wd) (h : w.length ≤ 8388608) => tabG_use (T := [eCutp, eUnhex, eScut, eProp]) (E := eScut) (i := 2) rfl (by decide) ((w, [61])) (by show w.length < 4294967281; omega)
  have g4 := fun (k w : Wd) (h : w.length ≤ 8388608) => tabG_use (T := [eCutp, eUnhex, eScut, eProp]) (E := eProp) (i := 3) rfl (by decide) ((k, w)) (h)
  generalize tabG [eCutp, eUnhex, eScut, eProp] = G at *
  dsimp only [eCutp] at g1
  dsimp only [eUnhex] at g2
  dsimp only [eScut] at g3
  dsimp only [eProp] at g4
  have hcon : ∀ r, r = noteP [] l → Con Tryz.prog D 97 [.sl 1 (l.map strRow)] ⟨.tup [noteA r.1, .bool r.2], []⟩ := by
    intro r hr
    refine conW (G := G) (rs := [(2, some 25), (3, none)]) hok Tryz.func97 Tryz.results97 Tryz.ntmps97 (fun _ => {}) fun X hP hD hG' hX => ?_
    simp only [argS, num]
    simp (disch := omega) only [go_sem, hD, hG', unbox]
    refine Tr.loop (ι := Nat × List LProp) (fun x => x.1 ≤ l.length ∧ x.2.length ≤ x.1 ∧ r = noteP x.2 (l.drop x.1)) (fun x => { nt := 70, tm := [(0, .sl 1 (l.map strRow)), (2, .ptr 2 0), (3, .bool false), (4, .ptr 4 0), (15, .sl 1 (l.map strRow)), (16, .int .i64 l.length), (17, .int .i64 x.1)], bl := [(2, some (.cells [.nils, .nils])), (4, some (.cells [.os 5000, .nils])), (5000, some (.rows 36 4 (x.2.map propRow)))] }) (fun x => l.length - x.1) (0, [])
      ⟨⟨Nat.zero_le _, by simp, by simpa using hr⟩, wk_of hD [(2, 2), (4, 4)] rfl rfl (by simp only [go_sem]; simp) (by simp only [go_sem])⟩ ?_
    rintro ⟨i, ps⟩ ⟨hi, hpl, hinv⟩
    simp only at hi hpl hinv
    refine evC_sound hX (fun _ => {}) _ _ _ ?_
    simp (disch := omega) only [go_sem, hD, hG', unbox]
    refine condK_split (fun h => ?_) (fun h => ?_)
    · rw [decide_eq_true_eq] at h
      have hi1 : i < l.length := by omega
      have hgx := strGet hi1
      have hdr : l.drop i = l.getD i [] :: l.drop (i + 1) := by
        rw [List.drop_eq_getElem_cons hi1]
        simp [hi1]
      have hwl := h2 _ (getD_in (d := []) hi1)
      have hem : (l.drop (i + 1)).isEmpty = decide ((i : Int) = l.length - 1) := by
        rw [Bool.eq_iff_iff, List.isEmpty_iff, decide_eq_true_eq, List.drop_eq_nil_iff]
        omega
      rw [hdr, noteP, hem] at hinv
      generalize l.getD i [] = w at *
      have g1 := g1 w
      have hpl1 := trimPrefix_len w [35]
      have g2 := g2 (Lib.trimPrefix w [35]) (by omega)
      have g3 := g3 w hwl
      have hcl := cut_len w [61]
      have g4 := g4 (Lib.cut w [61]).1 (Lib.cut w [61]).2.1 (by omega)
      generalize Lib.trimPrefix w [35] = tw at *
      generalize Lib.hasPrefix w [35] = bw at *
      generalize Lib.cut w [61] = cw at *
      obtain ⟨c1, c2, c3⟩ := cw
      simp only at g3 g4 hinv
      generalize unhexR tw = uw at *
      obtain ⟨u1, u2⟩ := uw
      simp only at g2 hinv
      generalize propW c1 c2 = pw at *
      obtain ⟨⟨p1, p2, p3, p4⟩, pb⟩ := pw
      simp only [propRow] at g4
      simp only at hinv
      simp only [strRow] at hgx
      cases bw
      · cases c3
        · simp (disch := omega) only [go_sem, hD, hG', hgx, g1, g3, unbox]
          (repeat (with_reducible refine And.intro (by first | omega | decide | (simp; done) | (simp only [List.length_append, List.length_cons, List.length_nil, List.length_map]; omega)) ?_))
          refine endW [] [] (by simp) rfl rfl rfl ?_ ?_ <;> simp only [go_sem]
          simp [hinv, noteA, note0, covs, cov, subs, names, namess]
        · cases pb
          · simp (disch := omega) only [go_sem, hD, hG', hgx, g1, g3, g4, unbox]
            (repeat (with_reducible refine And.intro (by first | omega | decide | (simp; done) | (simp only [List.length_append, List.length_cons, List.length_nil, List.length_map]; omega)) ?_))
            refine endW [] [] (by simp) rfl rfl rfl ?_ ?_ <;> simp only [go_sem]
            simp [hinv, noteA, note0, covs, cov, subs, names, namess]
          · simp only [Bool.false_eq_true, Bool.true_eq_false, if_false] at hinv
            simp (disch := omega) only [go_sem, hD, hG', hgx, g1, g3, g4, unbox]
            (repeat (with_reducible refine And.intro (by first | omega | decide | (simp; done) | (simp only [List.length_append, List.length_cons, List.length_nil, List.length_map]; omega)) ?_))
            refine ⟨(i + 1, ps ++ [⟨p1, p2, p3, p4⟩]), ⟨⟨by omega, by simp; omega, hinv⟩, by simp only; omega⟩, wk_of hD [(2, 2), (4, 4), (5000, 66)] rfl rfl ?_ ?_⟩ <;> simp only [go_sem]
            · simp
            · simp [propRow]
      · simp (disch := omega) only [go_sem, hD, hG', hgx, g1, g2, unbox]
        refine ⟨by omega, RegT.mk [] ?_⟩
        simp (disch := omega) only [go_sem, hD, hG', unbox]
        and_intros
        all_goals (try (first | decide | omega | (first | (intro hk; refine ⟨hk, fun h2 => ?_⟩; first | (rw [hk, h2]; rfl) | (rw [hk, decide_eq_false h2]; rfl)) | (intro hk; rw [decide_eq_false hk]; rfl) | (intro hk; rw [hk]; rfl))))
        all_goals (first | (simp; done) | skip)
        all_goals (try (refine ⟨_, Wk.refl, _, rfl, [5000], [], rfl, rfl, ?_, ?_⟩ <;> simp only [go_sem]))
        all_goals (
          rw [hinv]
          cases u2 <;> simp [noteA, covs, cov, subs, names, namess]
          try rfl)
    · rw [decide_eq_false_iff_not] at h
      have hie : l.drop i = [] := List.drop_eq_nil_of_le (by omega)
      rw [hie, noteP] at hinv
      simp (disch := omega) only [go_sem, hD, hG', unbox]
      refine endW [] [] (by simp) rfl rfl rfl ?_ ?_ <;> simp only [go_sem]
      simp [hinv, noteA, note0, covs, cov, subs, names, namess]
  exact hcon _ rfl
def eLnote : Ent Tryz.prog D := ⟨97, List Wd, fun l => [.sl 1 (l.map strRow)], fun l => l.length ≤ 1048576 ∧ ∀ w ∈ l, w.length ≤ 8388608, fun l => ⟨.tup [noteA (noteP [] l).1, .bool (noteP [] l).2], []⟩, fun x y _ _ h => by
  simp only [List.cons.injEq, AV.sl.injEq, true_and, and_true] at h
  rw [strs_inj h], fun l h => con_lnote l h.1 h.2⟩
end Go.Proofs.YtmlejhpeoiicpaaGreatDoor.Ab
namespace Go.Proofs.YtmlejhpeoiicpaaGreatDoor.Ab
open Go Go.RowKit
set_option linter.unusedVariables false
set_option linter.unusedSimpArgs false

theorem con_words : Con Tryz.prog D 55 [] ⟨.os 0, [(9, 1, wordsL.map strRow)]⟩ := by
  have hok : GOk Tryz.prog D (tabG []) := tabG_ok _
  generalize tabG [] = G at *
  refine conW (G := G) (rs := [(0, none)]) hok Tryz.func55 Tryz.results55 Tryz.ntmps55 (fun _ => {}) fun X hP hD hG' hX => ?_
  simp only [argS, num]
  simp (disch := omega) only [go_sem, hD, hG', unbox]
  (repeat (with_reducible refine And.intro (by first | omega | decide | (simp; done) | (simp only [List.length_append, List.length_cons, List.length_nil, List.length_map]; omega)) ?_))
  refine endW [] [(0, 1)] (by simp) rfl rfl rfl ?_ ?_ <;> simp only [go_sem]
  simp [wordsL, strRow]
def eWords : Ent Tryz.prog D := ⟨55, Unit, fun _ => [], fun _ => True, fun _ => ⟨.os 0, [(9, 1, wordsL.map strRow)]⟩, fun x y _ _ h => rfl, fun _ _ => con_words⟩
structure ABOk (a : LAsk) : Prop where
  k : 1 ≤ a.kind ∧ a.kind ≤ 9
  n : -9223372036854775808 ≤ a.n ∧ a.n ≤ 9223372036854775807
  o : a.kind = 4 → NOk a.note
  l : (Lib.join (askW a) [32]).length ≤ 1000000 ∧ (askW a).length ≤ 1000000
def laskLo : Nat → Lo := fun _ => {}
set_option maxRecDepth 100000 in
set_option maxHeartbeats 1000000 in
theorem con_laskbytes (a : LAsk) (ha : ABOk a) : Con Tryz.prog D 19 [askA a] ⟨.sl 1 ((lineB (askW a)).map byteRow), []⟩ := by
  have hok : GOk Tryz.prog D (tabG [eWords, eItoa, eNoted, eJoin]) := tabG_ok _
  have g1 := tabG_use (T := [eWords, eItoa, eNoted, eJoin]) (E := eWords) (i := 0) rfl (by decide) (()) (trivial)
  have g2 := tabG_use (T := [eWords, eItoa, eNoted, eJoin]) (E := eItoa) (i := 1) rfl (by decide) (a.n) (ha.n)
  have g3 := fun (h : a.kind = 4) => tabG_use (T := [eWords, eItoa, eNoted, eJoin]) (E := eNoted) (i := 2) rfl (by decide) (a.note) (ha.o h)
  have g4 := tabG_use (T := [eWords, eItoa, eNoted, eJoin]) (E := eJoin) (i := 3) rfl (by decide) ((askW a, [32])) (⟨by have := ha.l.1; show (Lib.join (askW a) [32]).length ≤ 1099511627776; omega, by have := ha.l.2; show (askW a).length ≤ 1099511627776; omega⟩)
  generalize tabG [eWords, eItoa, eNoted, eJoin] = G at *
  dsimp only [eWords] at g1
  dsimp only [eItoa] at g2
  dsimp only [eNoted] at g3
  dsimp only [eJoin] at g4
  have hwl : (a.kind - 1).toNat < wordsL.length := by have := ha.k; simp [wordsL]; omega
  have hgx := strGet hwl
  have hwl' : wordsL.length = 9 := rfl
  have hk := ha.k
  have hjl := ha.l.1
  have hnl : (notedS a.note).length = a.note.props.length + 1 := by simp [notedS, propsW]
  have ho := ha.o
  clear ha
  obtain ⟨k, q, n, ⟨ps, bs⟩⟩ := a
  unfold lineB
  unfold askW at *
  simp only at hk hgx hjl g2 g3 g4 hnl ho
  simp only
  generalize hw : wordsL.getD (k - 1).toNat [] = w at *
  generalize wordsL = wl at *
  generalize Lib.itoa n = it at *
  generalize notedS ⟨ps, bs⟩ = ns at *
  simp only [strRow] at hgx
  simp only [noteA] at g3
  have hcon : ∀ qs, q.data.toList = qs → ∀ r, r = Lib.join ([w] ++ (if qs = [] then [] else [qs]) ++ (if k = 2 ∨ k = 6 ∨ k = 7 ∨ k = 8 then [it] else if k = 4 then ns else [])) [32] → r.length ≤ 1000000 →
      G 57 [.sl 1 (([w] ++ (if qs = [] then [] else [qs]) ++ (if k = 2 ∨ k = 6 ∨ k = 7 ∨ k = 8 then [it] else if k = 4 then ns else [])).map strRow), .str [32]] = some ⟨.str r, []⟩ →
      Con Tryz.prog D 19 [.agg [.int .i64 k, .str qs, .int .i64 n, .sl 4 (ps.map propRow), .sl 1 (bs.map byteRow)]] ⟨.sl 1 ((r ++ [10]).map byteRow), []⟩ := by
    intro qs hqs r hr hrl g9
    clear g4 hjl
    refine conW (G := G) (rs := [(2, none)]) hok Tryz.func19 Tryz.results19 Tryz.ntmps19 (laskLo) fun X hP hD hG' hX => ?_
    simp only [argS, num]
    by_cases hq : qs = []
    · have dq : (!(qs == [])) = false := by simp [hq]
      rw [if_pos hq] at g9
      by_cases hn : k = 2 ∨ k = 6 ∨ k = 7 ∨ k = 8
      · rw [if_pos hn] at g9
        simp only [List.append_nil, List.cons_append, List.nil_append, List.map_cons, List.map_nil, strRow] at g9
        have key : (k == 2) = true ∨ ((k == 2) = false ∧ (k == 6) = true) ∨ ((k == 2) = false ∧ (k == 6) = false ∧ (k == 7) = true) ∨ ((k == 2) = false ∧ (k == 6) = false ∧ (k == 7) = false ∧ (k == 8) = true) := by rcases hn with h | h | h | h <;> simp [h]
        have e4 : (k == 4) = false := by simp; omega
        rcases key with e2 | ⟨e2, e6⟩ | ⟨e2, e6, e7⟩ | ⟨e2, e6, e7, e8⟩
        · simp (disch := omega) only [go_sem, hD, hG', laskLo, g1, hgx, dq, e2, e4, g2, g9, unbox]
          (repeat (with_reducible refine And.intro (by first | omega | decide | (simp; done) | (simp only [List.length_append, List.length_cons, List.length_nil, List.length_map]; omega)) ?_))
          refine endW [] [] (by simp) rfl rfl rfl ?_ ?_ <;> simp only [go_sem]
        · simp (disch := omega) only [go_sem, hD, hG', laskLo, g1, hgx, dq, e2, e6, e4, g2, g9, unbox]
          (repeat (with_reducible refine And.intro (by first | omega | decide | (simp; done) | (simp only [List.length_append, List.length_cons, List.length_nil, List.length_map]; omega)) ?_))
          refine endW [] [] (by simp) rfl rfl rfl ?_ ?_ <;> simp only [go_sem]
        · simp (disch := omega) only [go_sem, hD, hG', laskLo, g1, hgx, dq, e2, e6, e7, e4, g2, g9, unbox]
          (repeat (with_reducible refine And.intro (by first | omega | decide | (simp; done) | (simp only [List.length_append, List.length_cons, List.length_nil, List.length_map]; omega)) ?_))
          refine endW [] [] (by simp) rfl rfl rfl ?_ ?_ <;> simp only [go_sem]
        · simp (disch := omega) only [go_sem, hD, hG', laskLo, g1, hgx, dq, e2, e6, e7, e8, e4, g2, g9, unbox]
          (repeat (with_reducible refine And.intro (by first | omega | decide | (simp; done) | (simp only [List.length_append, List.length_cons, List.length_nil, List.length_map]; omega)) ?_))
          refine endW [] [] (by simp) rfl rfl rfl ?_ ?_ <;> simp only [go_sem]
      · rw [if_neg hn] at g9
        have e2 : (k == 2) = false := by simp; omega
        have e6 : (k == 6) = false := by simp; omega
        have e7 : (k == 7) = false := by simp; omega
        have e8 : (k == 8) = false := by simp; omega
        by_cases h4 : k = 4
        · have e4 : (k == 4) = true := by simp [h4]
          have g3 := g3 h4
          have := (ho h4).1
          simp only at this
          rw [if_pos h4] at g9
          simp only [List.append_nil, List.cons_append, List.nil_append, List.map_cons, List.map_nil, strRow] at g9
          simp (disch := omega) only [go_sem, hD, hG', laskLo, g1, hgx, dq, e2, e6, e7, e8, e4, g3, g9, unbox]
          (repeat (with_reducible refine And.intro (by first | omega | decide | (simp; done) | (simp only [List.length_append, List.length_cons, List.length_nil, List.length_map]; omega)) ?_))
          refine endW [] [] (by simp) rfl rfl rfl ?_ ?_ <;> simp only [go_sem]
        · have e4 : (k == 4) = false := by simp; omega
          rw [if_neg h4] at g9
          simp only [List.append_nil, List.cons_append, List.nil_append, List.map_cons, List.map_nil, strRow] at g9
          simp (disch := omega) only [go_sem, hD, hG', laskLo, g1, hgx, dq, e2, e6, e7, e8, e4, g9, unbox]
          (repeat (with_reducible refine And.intro (by first | omega | decide | (simp; done) | (simp only [List.length_append, List.length_cons, List.length_nil, List.length_map]; omega)) ?_))
          refine endW [] [] (by simp) rfl rfl rfl ?_ ?_ <;> simp only [go_sem]
    · have dq : (!(qs == [])) = true := by simp [hq]
      rw [if_neg hq] at g9
      by_cases hn : k = 2 ∨ k = 6 ∨ k = 7 ∨ k = 8
      · rw [if_pos hn] at g9
        simp only [List.append_nil, List.cons_append, List.nil_append, List.map_cons, List.map_nil, strRow] at g9
        have key : (k == 2) = true ∨ ((k == 2) = false ∧ (k == 6) = true) ∨ ((k == 2) = false ∧ (k == 6) = false ∧ (k == 7) = true) ∨ ((k == 2) = false ∧ (k == 6) = false ∧ (k == 7) = false ∧ (k == 8) = true) := by rcases hn with h | h | h | h <;> simp [h]
        have e4 : (k == 4) = false := by simp; omega
        rcases key with e2 | ⟨e2, e6⟩ | ⟨e2, e6, e7⟩ | ⟨e2, e6, e7, e8⟩
        · simp (disch := omega) only [go_sem, hD, hG', laskLo, g1, hgx, dq, e2, e4, g2, g9, unbox]
          (repeat (with_reducible refine And.intro (by first | omega | decide | (simp; done) | (simp only [List.length_append, List.length_cons, List.length_nil, List.length_map]; omega)) ?_))
          refine endW [] [] (by simp) rfl rfl rfl ?_ ?_ <;> simp only [go_sem]
        · simp (disch := omega) only [go_sem, hD, hG', laskLo, g1, hgx, dq, e2, e6, e4, g2, g9, unbox]
          (repeat (with_reducible refine And.intro (by first | omega | decide | (simp; done) | (simp only [List.length_append, List.length_cons, List.length_nil, List.length_map]; omega)) ?_))
          refine endW [] [] (by simp) rfl rfl rfl ?_ ?_ <;> simp only [go_sem]
        · simp (disch := omega) only [go_sem, hD, hG', laskLo, g1, hgx, dq, e2, e6, e7, e4, g2, g9, unbox]
          (repeat (with_reducible refine And.intro (by first | omega | decide | (simp; done) | (simp only [List.length_append, List.length_cons, List.length_nil, List.length_map]; omega)) ?_))
          refine endW [] [] (by simp) rfl rfl rfl ?_ ?_ <;> simp only [go_sem]
        · simp (disch := omega) only [go_sem, hD, hG', laskLo, g1, hgx, dq, e2, e6, e7, e8, e4, g2, g9, unbox]
          (repeat (with_reducible refine And.intro (by first | omega | decide | (simp; done) | (simp only [List.length_append, List.length_cons, List.length_nil, List.length_map]; omega)) ?_))
          refine endW [] [] (by simp) rfl rfl rfl ?_ ?_ <;> simp only [go_sem]
      · rw [if_neg hn] at g9
        have e2 : (k == 2) = false := by simp; omega
        have e6 : (k == 6) = false := by simp; omega
        have e7 : (k == 7) = false := by simp; omega
        have e8 : (k == 8) = false := by simp; omega
        by_cases h4 : k = 4
        · have e4 : (k == 4) = true := by simp [h4]
          have g3 := g3 h4
          have := (ho h4).1
          simp only at this
          rw [if_pos h4] at g9
          simp only [List.append_nil, List.cons_append, List.nil_append, List.map_cons, List.map_nil, strRow] at g9
          simp (disch := omega) only [go_sem, hD, hG', laskLo, g1, hgx, dq, e2, e6, e7, e8, e4, g3, g9, unbox]
          (repeat (with_reducible refine And.intro (by first | omega | decide | (simp; done) | (simp only [List.length_append, List.length_cons, List.length_nil, List.length_map]; omega)) ?_))
          refine endW [] [] (by simp) rfl rfl rfl ?_ ?_ <;> simp only [go_sem]
        · have e4 : (k == 4) = false := by simp; omega
          rw [if_neg h4] at g9
          simp only [List.append_nil, List.cons_append, List.nil_append, List.map_cons, List.map_nil, strRow] at g9
          simp (disch := omega) only [go_sem, hD, hG', laskLo, g1, hgx, dq, e2, e6, e7, e8, e4, g9, unbox]
          (repeat (with_reducible refine And.intro (by first | omega | decide | (simp; done) | (simp only [List.length_append, List.length_cons, List.length_nil, List.length_map]; omega)) ?_))
          refine endW [] [] (by simp) rfl rfl rfl ?_ ?_ <;> simp only [go_sem]
  exact hcon _ rfl _ rfl hjl g4
def eLaskbytes : Ent Tryz.prog D := ⟨19, LAsk, fun a => [askA a], ABOk, fun a => ⟨.sl 1 ((lineB (askW a)).map byteRow), []⟩, fun x y _ _ h => by
  simp only [List.cons.injEq, and_true] at h
  rw [askA_inj h], con_laskbytes⟩
structure SBOk (s : LSay) : Prop where
  n : -9223372036854775808 ≤ s.n ∧ s.n ≤ 9223372036854775807
  m : -9223372036854775808 ≤ s.m ∧ s.m ≤ 9223372036854775807
  e : -9223372036854775808 ≤ s.err ∧ s.err ≤ 9223372036854775807
  o : s.kind = 2 → NOk s.note
  l : (Lib.join (sayW s) [32]).length ≤ 1000000 ∧ (sayW s).length ≤ 1000000
def lsayLo : Nat → Lo := fun id => match id with | 4 => {uo := [10], kn := [15], ex := [6]} | _ => {}
set_option maxRecDepth 100000 in
set_option maxHeartbeats 1000000 in
theorem con_lsaybytes (s : LSay) (hs : SBOk s) : Con Tryz.prog D 22 [sayA s] ⟨.sl 1 ((lineB (sayW s)).map byteRow), []⟩ := by
  have hok : GOk Tryz.prog D (tabG [eItoa, eNoted, eJoin]) := tabG_ok _
  have g1 := tabG_use (T := [eItoa, eNoted, eJoin]) (E := eItoa) (i := 0) rfl (by decide) (s.n) (hs.n)
  have g2 := tabG_use (T := [eItoa, eNoted, eJoin]) (E := eItoa) (i := 0) rfl (by decide) (s.m) (hs.m)
  have g5 := tabG_use (T := [eItoa, eNoted, eJoin]) (E := eItoa) (i := 0) rfl (by decide) (s.err) (hs.e)
  have g3 := fun (h : s.kind = 2) => tabG_use (T := [eItoa, eNoted, eJoin]) (E := eNoted) (i := 1) rfl (by decide) (s.note) (hs.o h)
  have g4 := tabG_use (T := [eItoa, eNoted, eJoin]) (E := eJoin) (i := 2) rfl (by decide) ((sayW s, [32])) (⟨by have := hs.l.1; show (Lib.join (sayW s) [32]).length ≤ 1099511627776; omega, by have := hs.l.2; show (sayW s).length ≤ 1099511627776; omega⟩)
  generalize tabG [eItoa, eNoted, eJoin] = G at *
  dsimp only [eItoa] at g1
  dsimp only [eItoa] at g2
  dsimp only [eItoa] at g5
  dsimp only [eNoted] at g3
  dsimp only [eJoin] at g4
  have hjl := hs.l.1
  have hnl : (notedS s.note).length = s.note.props.length + 1 := by simp [notedS, propsW]
  have ho := hs.o
  have hil := Lib.itoa_length_le s.err hs.e.1 hs.e.2
  clear hs
  obtain ⟨k, n, m, e, ⟨ps, bs⟩⟩ := s
  unfold lineB
  unfold sayW at *
  simp only at hjl g1 g2 g5 g3 g4 hnl ho hil
  simp only
  generalize Lib.itoa n = it at *
  generalize Lib.itoa m = jt at *
  generalize Lib.itoa e = et at *
  generalize notedS ⟨ps, bs⟩ = ns at *
  simp only [noteA] at g3
  have hcon : ∀ r, r = Lib.join (if k = 2 then [[43, 105, 116, 101, 109], it, jt] ++ ns else if k = 3 then [[43, 110, 111, 110, 101]] else if k = 4 then [45 :: et] else [[43, 111, 107]]) [32] → r.length ≤ 1000000 →
      G 57 [.sl 1 ((if k = 2 then [[43, 105, 116, 101, 109], it, jt] ++ ns else if k = 3 then [[43, 110, 111, 110, 101]] else if k = 4 then [45 :: et] else [[43, 111, 107]]).map strRow), .str [32]] = some ⟨.str r, []⟩ →
      Con Tryz.prog D 22 [sayA ⟨k, n, m, e, ⟨ps, bs⟩⟩] ⟨.sl 1 ((r ++ [10]).map byteRow), []⟩ := by
    intro r hr hrl g9
    clear g4 hjl
    refine conW (G := G) (rs := [(2, none)]) hok Tryz.func22 Tryz.results22 Tryz.ntmps22 (lsayLo) fun X hP hD hG' hX => ?_
    simp only [argS, num, sayA]
    by_cases h2 : k = 2
    · have e2 : (k == 2) = true := by simp [h2]
      have g3 := g3 h2
      have := (ho h2).1
      simp only at this
      rw [if_pos h2] at g9
      simp only [List.cons_append, List.nil_append, List.map_cons, strRow] at g9
      simp (disch := omega) only [go_sem, hD, hG', lsayLo, e2, g1, g2, g3, g9, unbox]
      (repeat (with_reducible refine And.intro (by first | omega | decide | (simp; done) | (simp only [List.length_append, List.length_cons, List.length_nil, List.length_map]; omega)) ?_))
      refine endW [] [] (by simp) rfl rfl rfl ?_ ?_ <;> simp only [go_sem]
    have e2 : (k == 2) = false := by simp [h2]
    rw [if_neg h2] at g9
    by_cases h3 : k = 3
    · have e3 : (k == 3) = true := by simp [h3]
      rw [if_pos h3] at g9
      simp only [List.map_cons, List.map_nil, strRow] at g9
      simp (disch := omega) only [go_sem, hD, hG', lsayLo, e2, e3, g9, unbox]
      (repeat (with_reducible refine And.intro (by first | omega | decide | (simp; done) | (simp only [List.length_append, List.length_cons, List.length_nil, List.length_map]; omega)) ?_))
      refine endW [] [] (by simp) rfl rfl rfl ?_ ?_ <;> simp only [go_sem]
    have e3 : (k == 3) = false := by simp [h3]
    rw [if_neg h3] at g9
    by_cases h4 : k = 4
    · have e4 : (k == 4) = true := by simp [h4]
      rw [if_pos h4] at g9
      simp only [List.map_cons, List.map_nil, strRow] at g9
      simp (disch := omega) only [go_sem, hD, hG', lsayLo, e2, e3, e4, g5, g9, unbox]
      (repeat (with_reducible refine And.intro (by first | omega | decide | (simp; done) | (simp only [List.length_append, List.length_cons, List.length_nil, List.length_map]; omega)) ?_))
      refine endW [] [] (by simp) rfl rfl rfl ?_ ?_ <;> simp only [go_sem]
    have e4 : (k == 4) = false := by simp [h4]
    rw [if_neg h4] at g9
    simp only [List.map_cons, List.map_nil, strRow] at g9
    simp (disch := omega) only [go_sem, hD, hG', lsayLo, e2, e3, e4, g9, unbox]
    (repeat (with_reducible refine And.intro (by first | omega | decide | (simp; done) | (simp only [List.length_append, List.length_cons, List.length_nil, List.length_map]; omega)) ?_))
    refine endW [] [] (by simp) rfl rfl rfl ?_ ?_ <;> simp only [go_sem]
  exact hcon _ rfl hjl g4
def eLsaybytes : Ent Tryz.prog D := ⟨22, LSay, fun s => [sayA s], SBOk, fun s => ⟨.sl 1 ((lineB (sayW s)).map byteRow), []⟩, fun x y _ _ h => by
  simp only [List.cons.injEq, and_true] at h
  rw [sayA_inj h], con_lsaybytes⟩
end Go.Proofs.YtmlejhpeoiicpaaGreatDoor.Ab
namespace Go.Proofs.YtmlejhpeoiicpaaGreatDoor.Ab
open Go Go.RowKit
set_option linter.unusedVariables false
set_option linter.unusedSimpArgs false

theorem con_ixbyte (l : Wd) (c : UInt8) (hl : l.length ≤ 16777216) : Con Tryz.prog D 95 [.sl 1 (l.map byteRow), .int .u8 c.toNat] ⟨.int .i64 (placeG (fun b => c == b) l 0), []⟩ := by
  have hok : GOk Tryz.prog D (tabG []) := tabG_ok _
  generalize tabG [] = G at *
  have hcon : ∀ r, r = placeG (fun b => c == b) l 0 → Con Tryz.prog D 95 [.sl 1 (l.map byteRow), .int .u8 c.toNat] ⟨.int .i64 r, []⟩ := by
    intro r hr
    refine conW (G := G) (rs := [(4, none)]) hok Tryz.func95 Tryz.results95 Tryz.ntmps95 (fun _ => {}) fun X hP hD hG' hX => ?_
    simp only [argS, num]
    simp (disch := omega) only [go_sem, hD, hG', unbox]
    refine Tr.loop (ι := Nat) (fun i => i ≤ l.length ∧ ∀ j, j < i → (c == l.getD j 0) = false) (fun i => { nt := 19, tm := [(0, .sl 1 (l.map byteRow)), (1, .int .u8 c.toNat), (7, .int .i64 l.length), (8, .int .i64 i)], bl := [] }) (fun i => l.length - i) 0
      ⟨⟨Nat.zero_le _, fun j hj => absurd hj (Nat.not_lt_zero j)⟩, wk_of hD [] rfl rfl (by simp only [go_sem]; simp) (by simp only [go_sem])⟩ ?_
    rintro i ⟨hi, hnot⟩
    refine evC_sound hX (fun _ => {}) _ _ _ ?_
    simp (disch := omega) only [go_sem, hD, hG', unbox]
    refine condK_split (fun h => ?_) (fun h => ?_)
    · rw [decide_eq_true_eq] at h
      have hi1 : i < l.length := by omega
      have hgx := byteGet hi1
      have hit : ∀ x, l.getD i 0 = x → (c == x) = true → r = (i : Int) := fun x hx hp => by
        rw [hr, placeG_hit (d := (0 : UInt8)) hi1 hnot (by rw [hx]; exact hp)]
        omega
      generalize hx : l.getD i 0 = x at *
      have hit := hit x rfl
      have hce : ((c.toNat : Int) == (x.toNat : Int)) = (c == x) := by
        rw [Bool.eq_iff_iff]
        simp only [beq_iff_eq]
        exact ⟨fun h => UInt8.toNat_inj.1 (by omega), fun h => by rw [h]⟩
      cases hp : (c == x)
      · simp (disch := omega) only [go_sem, hD, hG', hgx, hce, hp, unbox]
        refine ⟨by omega, i + 1, ⟨⟨by omega, fun j hj => ?_⟩, by omega⟩, wk_of hD [] rfl rfl ?_ ?_⟩
        · by_cases hji : j = i
          · rw [hji, hx]; exact hp
          · exact hnot j (by omega)
        all_goals simp only [go_sem]
        simp
      · simp (disch := omega) only [go_sem, hD, hG', hgx, hce, hp, unbox]
        refine ⟨by omega, ?_⟩
        refine endW [] [] (by simp) rfl rfl rfl ?_ ?_ <;> simp only [go_sem]
        rw [hit hp]
    · rw [decide_eq_false_iff_not] at h
      have hie : i = l.length := by omega
      subst hie
      simp (disch := omega) only [go_sem, hD, hG', unbox]
      refine endW [] [] (by simp) rfl rfl rfl ?_ ?_ <;> simp only [go_sem]
      rw [hr, placeG_miss (d := (0 : UInt8)) hnot]
  exact hcon _ rfl
def eIxbyte : Ent Tryz.prog D := ⟨95, Wd × UInt8, fun x => [.sl 1 (x.1.map byteRow), .int .u8 x.2.toNat], fun x => x.1.length ≤ 16777216, fun x => ⟨.int .i64 (placeG (fun b => x.2 == b) x.1 0), []⟩, fun x y _ _ h => by
  obtain ⟨a, b⟩ := x
  obtain ⟨a', b'⟩ := y
  simp only [List.cons.injEq, AV.sl.injEq, AV.int.injEq, true_and, and_true] at h
  have : b = b' := UInt8.toNat_inj.1 (by omega)
  rw [bytes_inj h.1, this], fun x h => con_ixbyte x.1 x.2 h⟩
theorem con_ixstr (l : List Wd) (c : Wd) (hl : l.length ≤ 16777216) : Con Tryz.prog D 96 [.sl 1 (l.map strRow), .str c] ⟨.int .i64 (placeG (fun w => c == w) l 0), []⟩ := by
  have hok : GOk Tryz.prog D (tabG []) := tabG_ok _
  generalize tabG [] = G at *
  have hcon : ∀ r, r = placeG (fun w => c == w) l 0 → Con Tryz.prog D 96 [.sl 1 (l.map strRow), .str c] ⟨.int .i64 r, []⟩ := by
    intro r hr
    refine conW (G := G) (rs := [(4, none)]) hok Tryz.func96 Tryz.results96 Tryz.ntmps96 (fun _ => {}) fun X hP hD hG' hX => ?_
    simp only [argS, num]
    simp (disch := omega) only [go_sem, hD, hG', unbox]
    refine Tr.loop (ι := Nat) (fun i => i ≤ l.length ∧ ∀ j, j < i → (c == l.getD j []) = false) (fun i => { nt := 19, tm := [(0, .sl 1 (l.map strRow)), (1, .str c), (7, .int .i64 l.length), (8, .int .i64 i)], bl := [] }) (fun i => l.length - i) 0
      ⟨⟨Nat.zero_le _, fun j hj => absurd hj (Nat.not_lt_zero j)⟩, wk_of hD [] rfl rfl (by simp only [go_sem]; simp) (by simp only [go_sem])⟩ ?_
    rintro i ⟨hi, hnot⟩
    refine evC_sound hX (fun _ => {}) _ _ _ ?_
    simp (disch := omega) only [go_sem, hD, hG', unbox]
    refine condK_split (fun h => ?_) (fun h => ?_)
    · rw [decide_eq_true_eq] at h
      have hi1 : i < l.length := by omega
      have hgx := strGet hi1
      have hit : ∀ x, l.getD i [] = x → (c == x) = true → r = (i : Int) := fun x hx hp => by
        rw [hr, placeG_hit (d := ([] : Wd)) hi1 hnot (by rw [hx]; exact hp)]
        omega
      generalize hx : l.getD i [] = x at *
      have hit := hit x rfl
      simp only [strRow] at hgx
      cases hp : (c == x)
      · simp (disch := omega) only [go_sem, hD, hG', hgx, hp, unbox]
        refine ⟨by omega, i + 1, ⟨⟨by omega, fun j hj => ?_⟩, by omega⟩, wk_of hD [] rfl rfl ?_ ?_⟩
        · by_cases hji : j = i
          · rw [hji, hx]; exact hp
          · exact hnot j (by omega)
        all_goals simp only [go_sem]
        simp
      · simp (disch := omega) only [go_sem, hD, hG', hgx, hp, unbox]
        refine ⟨by omega, ?_⟩
        refine endW [] [] (by simp) rfl rfl rfl ?_ ?_ <;> simp only [go_sem]
        rw [hit hp]
    · rw [decide_eq_false_iff_not] at h
      have hie : i = l.length := by omega
      subst hie
      simp (disch := omega) only [go_sem, hD, hG', unbox]
      refine endW [] [] (by simp) rfl rfl rfl ?_ ?_ <;> simp only [go_sem]
      rw [hr, placeG_miss (d := ([] : Wd)) hnot]
  exact hcon _ rfl
def eIxstr : Ent Tryz.prog D := ⟨96, List Wd × Wd, fun x => [.sl 1 (x.1.map strRow), .str x.2], fun x => x.1.length ≤ 16777216, fun x => ⟨.int .i64 (placeG (fun w => x.2 == w) x.1 0), []⟩, fun x y _ _ h => by
  obtain ⟨a, b⟩ := x
  obtain ⟨a', b'⟩ := y
  simp only [List.cons.injEq, AV.sl.injEq, AV.str.injEq, true_and, and_true] at h
  rw [strs_inj h.1, h.2], fun x h => con_ixstr x.1 x.2 h⟩
theorem ixB_range (b : Wd) : ixB b = -1 ∨ (0 ≤ ixB b ∧ ixB b < b.length) := placeG_range
set_option maxRecDepth 100000 in
theorem con_line (b : Wd) (hb : b.length ≤ 16777216) : Con Tryz.prog D 60 [.sl 1 (b.map byteRow)] ⟨.tup [.sl 1 ((lineP b).1.map strRow), .int .i64 (lineP b).2.1, .int .i64 (lineP b).2.2], []⟩ := by
  have hok : GOk Tryz.prog D (tabG [eIxbyte, eSplit]) := tabG_ok _
  have g1 := tabG_use (T := [eIxbyte, eSplit]) (E := eIxbyte) (i := 0) rfl (by decide) ((b, 10)) (hb)
  have g2 := fun (w : Wd) (h : w.length ≤ 16777216) => tabG_use (T := [eIxbyte, eSplit]) (E := eSplit) (i := 1) rfl (by decide) ((w, [32])) (⟨by show w.length < 4294967281; omega, by show 1 ≤ ([32] : Wd).length; decide⟩)
  generalize tabG [eIxbyte, eSplit] = G at *
  dsimp only [eIxbyte] at g1
  dsimp only [eSplit] at g2
  have hcon : ∀ r, r = lineP b → Con Tryz.prog D 60 [.sl 1 (b.map byteRow)] ⟨.tup [.sl 1 (r.1.map strRow), .int .i64 r.2.1, .int .i64 r.2.2], []⟩ := by
    intro r hr
    have hrg := ixB_range b
    have g1 : G 95 [.sl 1 (b.map byteRow), .int .u8 10] = some ⟨.int .i64 (ixB b), []⟩ := g1
    unfold lineP at hr
    generalize ixB b = x at *
    have g2 := g2 (b.take x.toNat) (by rw [List.length_take]; omega)
    refine conW (G := G) (rs := [(2, none), (3, none), (4, none)]) hok Tryz.func60 Tryz.results60 Tryz.ntmps60 (fun _ => {}) fun X hP hD hG' hX => ?_
    simp only [argS, num]
    simp (disch := omega) only [go_sem, hD, hG', g1, unbox]
    refine RegT.mk [] ?_
    simp (disch := omega) only [go_sem, hD, hG', unbox]
    and_intros
    all_goals (try (first | (intro hk; refine ⟨hk, fun h2 => ?_⟩; first | (rw [hk, h2]; rfl) | (rw [hk, decide_eq_false h2]; rfl)) | (intro hk; rw [decide_eq_false hk]; rfl) | (intro hk; rw [hk]; rfl)))
    refine condK_split (fun h => ?_) (fun h => ?_)
    · have h : x < 0 ∧ (b.length : Int) < 400 := by simpa using h
      rw [if_pos h] at hr
      simp (disch := omega) only [go_sem, hD, hG', unbox]
      refine endW [] [] (by simp) rfl rfl rfl ?_ ?_ <;> simp only [go_sem]
      simp [hr]
    have h : ¬ (x < 0 ∧ (b.length : Int) < 400) := by simp at h; omega
    rw [if_neg h] at hr
    simp (disch := omega) only [go_sem, hD, hG', unbox]
    refine RegT.mk [] ?_
    simp (disch := omega) only [go_sem, hD, hG', unbox]
    and_intros
    all_goals (try (first | (intro hk; refine ⟨hk, fun h2 => ?_⟩; first | (rw [hk, h2]; rfl) | (rw [hk, decide_eq_false h2]; rfl)) | (intro hk; rw [decide_eq_false hk]; rfl) | (intro hk; rw [hk]; rfl)))
    refine condK_split (fun h => ?_) (fun h => ?_)
    · have h : x < 0 ∨ 400 ≤ x := by simpa using h
      rw [if_pos h] at hr
      simp (disch := omega) only [go_sem, hD, hG', unbox]
      refine endW [] [] (by simp) rfl rfl rfl ?_ ?_ <;> simp only [go_sem]
      simp [hr]
    have h : ¬ (x < 0 ∨ 400 ≤ x) := by simp at h; omega
    rw [if_neg h] at hr
    simp (disch := omega) only [go_sem, hD, hG', g2, unbox]
    (repeat (with_reducible refine And.intro (by first | omega | decide | (simp; done) | (simp only [List.length_append, List.length_cons, List.length_nil, List.length_map]; omega)) ?_))
    refine endW [] [] (by simp) rfl rfl rfl ?_ ?_ <;> simp only [go_sem]
    simp [hr]
  exact hcon _ rfl
def eLine : Ent Tryz.prog D := ⟨60, Wd, fun b => [.sl 1 (b.map byteRow)], fun b => b.length ≤ 16777216, fun b => ⟨.tup [.sl 1 ((lineP b).1.map strRow), .int .i64 (lineP b).2.1, .int .i64 (lineP b).2.2], []⟩, fun x y _ _ h => by
  simp only [List.cons.injEq, AV.sl.injEq, true_and, and_true] at h
  rw [bytes_inj h], con_line⟩
end Go.Proofs.YtmlejhpeoiicpaaGreatDoor.Ab
