/-
  Texts of the proof, one behind the other: RlE RlF RlG.
  No condition but those that each theorem names.
-/
import Derived.Test.YtmlejhpeoiicpaaGreatDoorGU
import Derived.Test.YtmlejhpeoiicpaaGreatDoorGC
import Derived.Test.YtmlejhpeoiicpaaGreatDoorGR
import Derived.Test.YtmlejhpeoiicpaaGreatDoorGG
import Derived.Test.YtmlejhpeoiicpaaGreatDoorGH
namespace Go.Proofs.YtmlejhpeoiicpaaGreatDoor.Ab
open Go Go.RowKit
set_option linter.unusedVariables false
set_option linter.unusedSimpArgs false

theorem con_rlano (e : Int) : Con Tryz.prog D 62 [.int .i64 e] ⟨.tup [.agg [.int .i64 0, .str [], .int .i64 0, .nils, .nils], .int .i64 0, .int .i64 e], []⟩ := by
  have hok : GOk Tryz.prog D (tabG []) := tabG_ok _
  generalize tabG [] = G at *
  refine conW (G := G) (rs := [(2, some 27), (3, none), (4, none)]) hok Tryz.func62 Tryz.results62 Tryz.ntmps62 (fun _ => {}) fun X hP hD hG' hX => ?_
  simp only [argS, num]
  simp (disch := omega) only [go_sem, hD, hG', unbox]
  refine endW [] [] (by simp) rfl rfl rfl ?_ ?_ <;> simp only [go_sem]
def eRlano : Ent Tryz.prog D := ⟨62, Int, fun e => [.int .i64 e], fun _ => True, fun e => ⟨.tup [.agg [.int .i64 0, .str [], .int .i64 0, .nils, .nils], .int .i64 0, .int .i64 e], []⟩, fun x y _ _ h => by
  simp only [List.cons.injEq, AV.int.injEq, true_and, and_true] at h
  rw [h], fun e _ => con_rlano e⟩
def eRnoteof : Ent Tryz.prog D := ⟨64, List Wd, fun l => [.sl 1 (l.map strRow)], fun l => l.length ≤ 1048576 ∧ ∀ w ∈ l, w.length ≤ 8388608, fun l => ⟨.tup [noteA (rnoteP [] l).1, .bool (rnoteP [] l).2], []⟩, fun x y _ _ h => by
  simp only [List.cons.injEq, AV.sl.injEq, true_and, and_true] at h
  rw [strs_inj h], fun l h => con_rnoteof l h.1 h.2⟩
def eRwrongF : Ent Tryz.prog D := ⟨18, LAsk × Bool, waE, fun x => x.1.Fits ∧ (x.2 = true → x.1.note = note0), fun x => ⟨.int .i64 (wrongAskS x.1), []⟩, fun x y hx hy h => by
  obtain ⟨a, b⟩ := x
  obtain ⟨a', b'⟩ := y
  have h1 := hx.2
  have h2 := hy.2
  simp only at h1 h2
  cases b <;> cases b' <;> simp only [waE, List.cons.injEq, and_true] at h
  · rw [askA_inj h]
  · simp [askA, nakedA] at h
  · simp [askA, nakedA] at h
  · rw [naked_inj (h1 rfl) (h2 rfl) h], fun x h => by
  obtain ⟨⟨k, q, n, m⟩, b⟩ := x
  obtain ⟨h1, h2⟩ := h
  cases b
  · exact con_refwrongask _ h1
  · have h2 := h2 rfl
    simp only at h1 h2
    subst h2
    exact Con.weak (con_refwrongask _ h1) (by simp [waE, nakedA, note0, askA, covs, cov])⟩
theorem ixW_hit {w : Wd} {i : Nat} {b : Bool} (hi : i < 10) (h : (decide ((i : Int) > 0) && (namesL.getD i [] == w)) = b) : (b = true → ixW w + 1 = i) ∧ (b = false → ixW w + 1 ≠ i ∨ i = 0) := by
  have := ixW_name w i hi
  rw [h] at this
  refine ⟨fun hb => ?_, fun hb => ?_⟩
  · rw [hb] at this
    exact (of_decide_eq_true this.symm).2
  · rw [hb] at this
    have := of_decide_eq_false this.symm
    omega
set_option maxRecDepth 100000 in
set_option maxHeartbeats 16000000 in
theorem con_rlineask (b : Wd) (hb : b.length ≤ 16777216) : Con Tryz.prog D 25 [.sl 1 (b.map byteRow)] ⟨.tup [askA (laskR b).1, .int .i64 (laskR b).2.1, .int .i64 (laskR b).2.2], []⟩ := by
  have hok : GOk Tryz.prog D (tabG [eRlano, eRline, eRnames, eRnumber, eRnoteof, eRwrongF]) := tabG_ok _
  have g0 := fun (e : Int) => tabG_use (T := [eRlano, eRline, eRnames, eRnumber, eRnoteof, eRwrongF]) (E := eRlano) (i := 0) rfl (by decide) (e) (trivial)
  have g1 := tabG_use (T := [eRlano, eRline, eRnames, eRnumber, eRnoteof, eRwrongF]) (E := eRline) (i := 1) rfl (by decide) (b) (hb)
  have g2 := tabG_use (T := [eRlano, eRline, eRnames, eRnumber, eRnoteof, eRwrongF]) (E := eRnames) (i := 2) rfl (by decide) (()) (trivial)
  have g3 := fun (x : Wd) (h : x.length ≤ 1000) => tabG_use (T := [eRlano, eRline, eRnames, eRnumber, eRnoteof, eRwrongF]) (E := eRnumber) (i := 3) rfl (by decide) (x) (by show x.length ≤ 281474976710656; omega)
  have g4 := fun (x : List Wd) (h : WsOk x) => tabG_use (T := [eRlano, eRline, eRnames, eRnumber, eRnoteof, eRwrongF]) (E := eRnoteof) (i := 4) rfl (by decide) (x) (h.big)
  have g5 := fun (a : LAsk) (h : a.Fits) => tabG_use (T := [eRlano, eRline, eRnames, eRnumber, eRnoteof, eRwrongF]) (E := eRwrongF) (i := 5) rfl (by decide) ((a, false)) (⟨h, fun h => by cases h⟩)
  have g6 := fun (k n : Int) (q : Wd) (h : q.length ≤ 1000) => tabG_use (T := [eRlano, eRline, eRnames, eRnumber, eRnoteof, eRwrongF]) (E := eRwrongF) (i := 5) rfl (by decide) ((⟨k, bA q, n, note0⟩, true)) (⟨⟨by show q.length ≤ 1048576; omega, fits_zero⟩, fun _ => rfl⟩)
  generalize tabG [eRlano, eRline, eRnames, eRnumber, eRnoteof, eRwrongF] = G at *
  dsimp only [eRlano] at g0
  dsimp only [eRline] at g1
  dsimp only [eRnames] at g2
  dsimp only [eRnumber] at g3
  dsimp only [eRnoteof] at g4
  dsimp only [eRwrongF] at g5
  dsimp only [eRwrongF] at g6
  have hcon : ∀ r, r = laskR b → Con Tryz.prog D 25 [.sl 1 (b.map byteRow)] ⟨.tup [askA r.1, .int .i64 r.2.1, .int .i64 r.2.2], []⟩ := by
    intro r hr
    have hok1 := @lineP_ok b
    unfold laskR at hr
    generalize lineP b = x at *
    obtain ⟨ws, n, e⟩ := x
    simp only at g1 hr hok1
    have z0 : (0 : Int).toNat = 0 := rfl
    have z1 : (1 : Int).toNat = 1 := rfl
    have n0 : ((0 : Nat) : Int) = 0 := rfl
    have n1 : ((1 : Nat) : Int) = 1 := rfl
    have hdr : ∀ (x : List AV) (l : List (List AV)), List.drop (1 : Int).toNat (List.take ((((x :: l).length : Nat) : Int)).toNat (x :: l)) = l := fun x l => by
      rw [Int.toNat_natCast, List.take_length]
      rfl
    refine conW (G := G) (rs := [(2, some 27), (3, none), (4, none)]) hok Tryz.func25 Tryz.results25 Tryz.ntmps25 (fun _ => {}) fun X hP hD hG' hX => ?_
    simp only [argS, num]
    by_cases he : e ≠ 0
    · have de : (e != 0) = true := by simp [he]
      rw [if_pos he] at hr
      simp (disch := omega) only [go_sem, hD, hG', g1, de, g0, unbox]
      refine endW [] [] (by simp) rfl rfl rfl ?_ ?_ <;> simp only [go_sem]
      simp [hr, askA, lask0, note0, bA, covs, cov, subs, names, namess]
    have he : e = 0 := by simpa using he
    have de : (e != 0) = false := by simp [he]
    rw [if_neg (by simp [he])] at hr
    obtain ⟨hne, HW⟩ := hok1 he
    cases ws with
    | nil => exact absurd rfl hne
    | cons w rest =>
    have hws : (w :: rest).map strRow = [AV.str w] :: rest.map strRow := rfl
    rw [hws] at g1
    have hnl : namesL.length = 10 := rfl
    simp (disch := omega) only [go_sem, hD, hG', g1, de, g2, unbox]
    (repeat (with_reducible refine And.intro (by first | omega | decide | (simp; done) | (simp only [List.length_append, List.length_cons, List.length_nil, List.length_map]; omega)) ?_))
    have hrg := ixW_range w
    refine Tr.loop (ι := Nat) (fun i => i ≤ 10) (fun i => { nt := 147, tm := [(0, .sl 1 (b.map byteRow)), (2, .ptr 2 0), (3, .int .i64 0), (4, .int .i64 0), (5, .func 62 []), (6, .sl 1 ([AV.str w] :: rest.map strRow)), (7, .int .i64 n), (9, .ptr 9 0), (29, .sl 1 (namesL.map strRow)), (30, .int .i64 10), (31, .int .i64 i)], bl := [(2, some (.cells [.int .i64 0, .str [], .int .i64 0, .nils, .nils])), (9, some (.cells [.int .i64 (if ixW w + 1 < i then ixW w + 1 else 0), .str [], .int .i64 0, .nils, .nils]))] }) (fun i => 10 - i) 0
      ⟨Nat.zero_le _, wkf_of hD [4125] [(2, 2), (9, 9)] rfl rfl (by simp only [go_sem, hnl]; simp) (by simp only [go_sem]; simp; omega)⟩ ?_
    intro i hi
    refine evC_sound hX (fun _ => {}) _ _ _ ?_
    simp (disch := omega) only [go_sem, hD, hG', unbox]
    refine condK_split (fun h => ?_) (fun h => ?_)
    · rw [decide_eq_true_eq] at h
      have hi1 : i < 10 := by omega
      have hgx := strGet (l := namesL) (i := i) (by rw [hnl]; exact hi1)
      have hixt := @ixW_hit w i true hi1
      have hixf := @ixW_hit w i false hi1
      generalize namesL.getD i [] = nm at *
      simp only [strRow] at hgx
      simp (disch := omega) only [go_sem, hD, hG', hgx, z0, unbox]
      (repeat (with_reducible refine And.intro (by first | omega | decide | (simp; done) | (simp only [List.length_append, List.length_cons, List.length_nil, List.length_map]; omega)) ?_))
      refine RegT.mk [] ?_
      simp (disch := omega) only [go_sem, hD, hG', hgx, z0, unbox]
      refine ⟨fun h => ⟨h, by omega⟩, fun h => by rw [decide_eq_true h]; rfl, ?_⟩
      have eq0 : (if (i : Int) > 0 then nm == w else false) = (decide ((i : Int) > 0) && (nm == w)) := by
        by_cases h3 : (i : Int) > 0
        · rw [if_pos h3, decide_eq_true h3, Bool.true_and]
        · rw [if_neg h3, decide_eq_false h3, Bool.false_and]
      rw [eq0]
      refine condK_split (fun h2 => ?_) (fun h2 => ?_)
      · have hx := (hixt h2).1 rfl
        simp (disch := omega) only [go_sem, hD, hG', unbox]
        (repeat (with_reducible refine And.intro (by first | omega | decide | (simp; done) | (simp only [List.length_append, List.length_cons, List.length_nil, List.length_map]; omega)) ?_))
        refine ⟨i + 1, ⟨by omega, by omega⟩, wk_of hD [(2, 2), (9, 9)] rfl rfl (by simp only [go_sem]; simp) (by simp only [go_sem]; simp; omega)⟩
      · have hx := (hixf h2).2 rfl
        simp (disch := omega) only [go_sem, hD, hG', unbox]
        (repeat (with_reducible refine And.intro (by first | omega | decide | (simp; done) | (simp only [List.length_append, List.length_cons, List.length_nil, List.length_map]; omega)) ?_))
        refine ⟨i + 1, ⟨by omega, by omega⟩, wk_of hD [(2, 2), (9, 9)] rfl rfl (by simp only [go_sem]; simp) (by simp only [go_sem]; simp; split <;> split <;> omega)⟩
    · rw [decide_eq_false_iff_not] at h
      have hie : i = 10 := by omega
      subst hie
      have hk9 : (if ixW w + 1 < ((10 : Nat) : Int) then ixW w + 1 else 0) = ixW w + 1 := by rw [if_pos (by omega)]
      rw [hk9]
      have lo2 : ∀ n : Nat, (((n + 1 + 1 : Nat) : Int) != 1) = true := fun n => by first | (simp; done) | (simp; omega)
      have lo1 : ∀ n : Nat, decide (((n + 1 : Nat) : Int) > 0) = true := fun n => by first | (simp; done) | (simp; omega)
      have lo0 : ∀ n : Nat, (((n + 1 : Nat) : Int) == 0) = false := fun n => by first | (simp; done) | (simp; omega)
      have HT := HW.tail
      have hk10 : ixW w + 1 = 0 ∨ (ixW w + 1 = 7 ∨ ixW w + 1 = 8) ∨ (ixW w + 1 = 2 ∨ ixW w + 1 = 6) ∨ ixW w + 1 = 1 ∨ (ixW w + 1 = 3 ∨ ixW w + 1 = 5 ∨ ixW w + 1 = 9) ∨ ixW w + 1 = 4 := by omega
      rcases hk10 with hk | hk | hk | hk | hk | hk
      · rw [hk]
        simp [laskP, hk, laskQ, isNd, laskM, laskN] at hr
        iterate 4 ((try (refine RegT.mk [] ?_)); (try (simp (disch := omega) only [go_sem, hD, hG', Int.reduceBEq, Int.reduceBNe, Int.reduceGE, Int.reduceGT, g0, z0, n0, n1, z1, hdr, strRow, lo2, lo1, lo0, unbox])); (repeat (with_reducible refine And.intro (by first | omega | decide | (simp; done) | (simp only [List.length_append, List.length_cons, List.length_nil, List.length_map]; omega)) ?_)))
        refine endW [] [] (by simp) rfl rfl rfl ?_ ?_ <;> simp only [go_sem]
        simp [hr, askA, lask0, note0, bA, covs, cov, subs, names, namess]
      · rcases hk with hk | hk <;> rw [hk]
        all_goals
          cases rest with
          | nil =>
            simp [laskP, hk, laskQ, isNd, laskM, laskN] at hr
            iterate 4 ((try (refine RegT.mk [] ?_)); (try (simp (disch := omega) only [go_sem, hD, hG', Int.reduceBEq, Int.reduceBNe, Int.reduceGE, Int.reduceGT, g0, z0, n0, n1, z1, hdr, strRow, lo2, lo1, lo0, unbox])); (repeat (with_reducible refine And.intro (by first | omega | decide | (simp; done) | (simp only [List.length_append, List.length_cons, List.length_nil, List.length_map]; omega)) ?_)))
            refine endW [] [] (by simp) rfl rfl rfl ?_ ?_ <;> simp only [go_sem]
            simp [hr, askA, lask0, note0, bA, covs, cov, subs, names, namess]
          | cons x l =>
            cases l with
            | cons y ys =>
              simp [laskP, hk, laskQ, isNd, laskM, laskN] at hr
              iterate 4 ((try (refine RegT.mk [] ?_)); (try (simp (disch := omega) only [go_sem, hD, hG', Int.reduceBEq, Int.reduceBNe, Int.reduceGE, Int.reduceGT, g0, z0, n0, n1, z1, hdr, strRow, lo2, lo1, lo0, unbox])); (repeat (with_reducible refine And.intro (by first | omega | decide | (simp; done) | (simp only [List.length_append, List.length_cons, List.length_nil, List.length_map]; omega)) ?_)))
              refine endW [] [] (by simp) rfl rfl rfl ?_ ?_ <;> simp only [go_sem]
              simp [hr, askA, lask0, note0, bA, covs, cov, subs, names, namess]
            | nil =>
              have g3 := g3 x (HT.head)
              have g6 := g6 (ixW w + 1) (numberS x).1 [] (by first | exact Nat.zero_le _ | simp)
              rw [hk] at g6
              generalize hny : numberS x = ny at *
              obtain ⟨ny, nb⟩ := ny
              simp only [nakedA, waE, bA] at g3 g6
              cases nb
              · simp [laskP, hk, laskQ, isNd, laskM, laskN, hny] at hr
                iterate 4 ((try (refine RegT.mk [] ?_)); (try (simp (disch := omega) only [go_sem, hD, hG', Int.reduceBEq, Int.reduceBNe, Int.reduceGE, Int.reduceGT, g0, z0, n0, n1, z1, hdr, strRow, lo2, lo1, lo0, g3, unbox])); (repeat (with_reducible refine And.intro (by first | omega | decide | (simp; done) | (simp only [List.length_append, List.length_cons, List.length_nil, List.length_map]; omega)) ?_)))
                refine endW [] [] (by simp) rfl rfl rfl ?_ ?_ <;> simp only [go_sem]
                simp [hr, askA, lask0, note0, bA, covs, cov, subs, names, namess]
              · simp only [laskP, hk, laskQ, isNd, laskM, laskN, hny] at hr
                simp [bA] at hr
                generalize wrongAskS _ = e at *
                by_cases he : e = 0
                · have de : (e != 0) = false := by simp [he]
                  rw [if_pos he] at hr
                  iterate 4 ((try (refine RegT.mk [] ?_)); (try (simp (disch := omega) only [go_sem, hD, hG', Int.reduceBEq, Int.reduceBNe, Int.reduceGE, Int.reduceGT, g0, z0, n0, n1, z1, hdr, strRow, lo2, lo1, lo0, g3, g6, de, unbox])); (repeat (with_reducible refine And.intro (by first | omega | decide | (simp; done) | (simp only [List.length_append, List.length_cons, List.length_nil, List.length_map]; omega)) ?_)))
                  refine endW [] [] (by simp) rfl rfl rfl ?_ ?_ <;> simp only [go_sem]
                  simp [hr, askA, lask0, note0, bA, covs, cov, subs, names, namess]
                · have de : (e != 0) = true := by simp [he]
                  rw [if_neg he] at hr
                  iterate 4 ((try (refine RegT.mk [] ?_)); (try (simp (disch := omega) only [go_sem, hD, hG', Int.reduceBEq, Int.reduceBNe, Int.reduceGE, Int.reduceGT, g0, z0, n0, n1, z1, hdr, strRow, lo2, lo1, lo0, g3, g6, de, unbox])); (repeat (with_reducible refine And.intro (by first | omega | decide | (simp; done) | (simp only [List.length_append, List.length_cons, List.length_nil, List.length_map]; omega)) ?_)))
                  refine endW [] [] (by simp) rfl rfl rfl ?_ ?_ <;> simp only [go_sem]
                  simp [hr, askA, lask0, note0, bA, covs, cov, subs, names, namess]
      · rcases hk with hk | hk <;> rw [hk]
        all_goals
          cases rest with
          | nil =>
            simp [laskP, hk, laskQ, isNd, laskM, laskN] at hr
            iterate 4 ((try (refine RegT.mk [] ?_)); (try (simp (disch := omega) only [go_sem, hD, hG', Int.reduceBEq, Int.reduceBNe, Int.reduceGE, Int.reduceGT, g0, z0, n0, n1, z1, hdr, strRow, lo2, lo1, lo0, unbox])); (repeat (with_reducible refine And.intro (by first | omega | decide | (simp; done) | (simp only [List.length_append, List.length_cons, List.length_nil, List.length_map]; omega)) ?_)))
            refine endW [] [] (by simp) rfl rfl rfl ?_ ?_ <;> simp only [go_sem]
            simp [hr, askA, lask0, note0, bA, covs, cov, subs, names, namess]
          | cons q l =>
            cases l with
            | nil =>
              simp [laskP, hk, laskQ, isNd, laskM, laskN] at hr
              iterate 4 ((try (refine RegT.mk [] ?_)); (try (simp (disch := omega) only [go_sem, hD, hG', Int.reduceBEq, Int.reduceBNe, Int.reduceGE, Int.reduceGT, g0, z0, n0, n1, z1, hdr, strRow, lo2, lo1, lo0, unbox])); (repeat (with_reducible refine And.intro (by first | omega | decide | (simp; done) | (simp only [List.length_append, List.length_cons, List.length_nil, List.length_map]; omega)) ?_)))
              refine endW [] [] (by simp) rfl rfl rfl ?_ ?_ <;> simp only [go_sem]
              simp [hr, askA, lask0, note0, bA, covs, cov, subs, names, namess]
            | cons x l =>
              cases l with
              | cons y ys =>
                simp [laskP, hk, laskQ, isNd, laskM, laskN] at hr
                iterate 4 ((try (refine RegT.mk [] ?_)); (try (simp (disch := omega) only [go_sem, hD, hG', Int.reduceBEq, Int.reduceBNe, Int.reduceGE, Int.reduceGT, g0, z0, n0, n1, z1, hdr, strRow, lo2, lo1, lo0, unbox])); (repeat (with_reducible refine And.intro (by first | omega | decide | (simp; done) | (simp only [List.length_append, List.length_cons, List.length_nil, List.length_map]; omega)) ?_)))
                refine endW [] [] (by simp) rfl rfl rfl ?_ ?_ <;> simp only [go_sem]
                simp [hr, askA, lask0, note0, bA, covs, cov, subs, names, namess]
              | nil =>
                have g3 := g3 x (HT.tail.head)
                have g6 := g6 (ixW w + 1) (numberS x).1 q (by first | exact HT.head | simp)
                rw [hk] at g6
                generalize hny : numberS x = ny at *
                obtain ⟨ny, nb⟩ := ny
                simp only [nakedA, waE, bA] at g3 g6
                cases nb
                · simp [laskP, hk, laskQ, isNd, laskM, laskN, hny] at hr
                  iterate 4 ((try (refine RegT.mk [] ?_)); (try (simp (disch := omega) only [go_sem, hD, hG', Int.reduceBEq, Int.reduceBNe, Int.reduceGE, Int.reduceGT, g0, z0, n0, n1, z1, hdr, strRow, lo2, lo1, lo0, g3, unbox])); (repeat (with_reducible refine And.intro (by first | omega | decide | (simp; done) | (simp only [List.length_append, List.length_cons, List.length_nil, List.length_map]; omega)) ?_)))
                  refine endW [] [] (by simp) rfl rfl rfl ?_ ?_ <;> simp only [go_sem]
                  simp [hr, askA, lask0, note0, bA, covs, cov, subs, names, namess]
                · simp only [laskP, hk, laskQ, isNd, laskM, laskN, hny] at hr
                  simp [bA] at hr
                  generalize wrongAskS _ = e at *
                  by_cases he : e = 0
                  · have de : (e != 0) = false := by simp [he]
                    rw [if_pos he] at hr
                    iterate 4 ((try (refine RegT.mk [] ?_)); (try (simp (disch := omega) only [go_sem, hD, hG', Int.reduceBEq, Int.reduceBNe, Int.reduceGE, Int.reduceGT, g0, z0, n0, n1, z1, hdr, strRow, lo2, lo1, lo0, g3, g6, de, unbox])); (repeat (with_reducible refine And.intro (by first | omega | decide | (simp; done) | (simp only [List.length_append, List.length_cons, List.length_nil, List.length_map]; omega)) ?_)))
                    refine endW [] [] (by simp) rfl rfl rfl ?_ ?_ <;> simp only [go_sem]
                    simp [hr, askA, lask0, note0, bA, covs, cov, subs, names, namess]
                  · have de : (e != 0) = true := by simp [he]
                    rw [if_neg he] at hr
                    iterate 4 ((try (refine RegT.mk [] ?_)); (try (simp (disch := omega) only [go_sem, hD, hG', Int.reduceBEq, Int.reduceBNe, Int.reduceGE, Int.reduceGT, g0, z0, n0, n1, z1, hdr, strRow, lo2, lo1, lo0, g3, g6, de, unbox])); (repeat (with_reducible refine And.intro (by first | omega | decide | (simp; done) | (simp only [List.length_append, List.length_cons, List.length_nil, List.length_map]; omega)) ?_)))
                    refine endW [] [] (by simp) rfl rfl rfl ?_ ?_ <;> simp only [go_sem]
                    simp [hr, askA, lask0, note0, bA, covs, cov, subs, names, namess]
      · rw [hk]
        cases rest with
        | cons y ys =>
          simp [laskP, hk, laskQ, isNd, laskM, laskN] at hr
          iterate 4 ((try (refine RegT.mk [] ?_)); (try (simp (disch := omega) only [go_sem, hD, hG', Int.reduceBEq, Int.reduceBNe, Int.reduceGE, Int.reduceGT, g0, z0, n0, n1, z1, hdr, strRow, lo2, lo1, lo0, unbox])); (repeat (with_reducible refine And.intro (by first | omega | decide | (simp; done) | (simp only [List.length_append, List.length_cons, List.length_nil, List.length_map]; omega)) ?_)))
          refine endW [] [] (by simp) rfl rfl rfl ?_ ?_ <;> simp only [go_sem]
          simp [hr, askA, lask0, note0, bA, covs, cov, subs, names, namess]
        | nil =>
          have g6 := g6 (ixW w + 1) 0 [] (by first | exact Nat.zero_le _ | simp)
          rw [hk] at g6
          simp only [nakedA, waE, bA] at g6
          simp only [laskP, hk, laskQ, isNd, laskM, laskN] at hr
          simp [bA] at hr
          generalize wrongAskS _ = e at *
          by_cases he : e = 0
          · have de : (e != 0) = false := by simp [he]
            rw [if_pos he] at hr
            iterate 4 ((try (refine RegT.mk [] ?_)); (try (simp (disch := omega) only [go_sem, hD, hG', Int.reduceBEq, Int.reduceBNe, Int.reduceGE, Int.reduceGT, g0, z0, n0, n1, z1, hdr, strRow, lo2, lo1, lo0, g6, de, unbox])); (repeat (with_reducible refine And.intro (by first | omega | decide | (simp; done) | (simp only [List.length_append, List.length_cons, List.length_nil, List.length_map]; omega)) ?_)))
            refine endW [] [] (by simp) rfl rfl rfl ?_ ?_ <;> simp only [go_sem]
            simp [hr, askA, lask0, note0, bA, covs, cov, subs, names, namess]
          · have de : (e != 0) = true := by simp [he]
            rw [if_neg he] at hr
            iterate 4 ((try (refine RegT.mk [] ?_)); (try (simp (disch := omega) only [go_sem, hD, hG', Int.reduceBEq, Int.reduceBNe, Int.reduceGE, Int.reduceGT, g0, z0, n0, n1, z1, hdr, strRow, lo2, lo1, lo0, g6, de, unbox])); (repeat (with_reducible refine And.intro (by first | omega | decide | (simp; done) | (simp only [List.length_append, List.length_cons, List.length_nil, List.length_map]; omega)) ?_)))
            refine endW [] [] (by simp) rfl rfl rfl ?_ ?_ <;> simp only [go_sem]
            simp [hr, askA, lask0, note0, bA, covs, cov, subs, names, namess]
      · rcases hk with hk | hk | hk <;> rw [hk]
        all_goals
          cases rest with
          | nil =>
            simp [laskP, hk, laskQ, isNd, laskM, laskN] at hr
            iterate 4 ((try (refine RegT.mk [] ?_)); (try (simp (disch := omega) only [go_sem, hD, hG', Int.reduceBEq, Int.reduceBNe, Int.reduceGE, Int.reduceGT, g0, z0, n0, n1, z1, hdr, strRow, lo2, lo1, lo0, unbox])); (repeat (with_reducible refine And.intro (by first | omega | decide | (simp; done) | (simp only [List.length_append, List.length_cons, List.length_nil, List.length_map]; omega)) ?_)))
            refine endW [] [] (by simp) rfl rfl rfl ?_ ?_ <;> simp only [go_sem]
            simp [hr, askA, lask0, note0, bA, covs, cov, subs, names, namess]
          | cons q l =>
            cases l with
            | cons y ys =>
              simp [laskP, hk, laskQ, isNd, laskM, laskN] at hr
              iterate 4 ((try (refine RegT.mk [] ?_)); (try (simp (disch := omega) only [go_sem, hD, hG', Int.reduceBEq, Int.reduceBNe, Int.reduceGE, Int.reduceGT, g0, z0, n0, n1, z1, hdr, strRow, lo2, lo1, lo0, unbox])); (repeat (with_reducible refine And.intro (by first | omega | decide | (simp; done) | (simp only [List.length_append, List.length_cons, List.length_nil, List.length_map]; omega)) ?_)))
              refine endW [] [] (by simp) rfl rfl rfl ?_ ?_ <;> simp only [go_sem]
              simp [hr, askA, lask0, note0, bA, covs, cov, subs, names, namess]
            | nil =>
              have g6 := g6 (ixW w + 1) 0 q (by first | exact HT.head | simp)
              rw [hk] at g6
              simp only [nakedA, waE, bA] at g6
              simp only [laskP, hk, laskQ, isNd, laskM, laskN] at hr
              simp [bA] at hr
              generalize wrongAskS _ = e at *
              by_cases he : e = 0
              · have de : (e != 0) = false := by simp [he]
                rw [if_pos he] at hr
                iterate 4 ((try (refine RegT.mk [] ?_)); (try (simp (disch := omega) only [go_sem, hD, hG', Int.reduceBEq, Int.reduceBNe, Int.reduceGE, Int.reduceGT, g0, z0, n0, n1, z1, hdr, strRow, lo2, lo1, lo0, g6, de, unbox])); (repeat (with_reducible refine And.intro (by first | omega | decide | (simp; done) | (simp only [List.length_append, List.length_cons, List.length_nil, List.length_map]; omega)) ?_)))
                refine endW [] [] (by simp) rfl rfl rfl ?_ ?_ <;> simp only [go_sem]
                simp [hr, askA, lask0, note0, bA, covs, cov, subs, names, namess]
              · have de : (e != 0) = true := by simp [he]
                rw [if_neg he] at hr
                iterate 4 ((try (refine RegT.mk [] ?_)); (try (simp (disch := omega) only [go_sem, hD, hG', Int.reduceBEq, Int.reduceBNe, Int.reduceGE, Int.reduceGT, g0, z0, n0, n1, z1, hdr, strRow, lo2, lo1, lo0, g6, de, unbox])); (repeat (with_reducible refine And.intro (by first | omega | decide | (simp; done) | (simp only [List.length_append, List.length_cons, List.length_nil, List.length_map]; omega)) ?_)))
                refine endW [] [] (by simp) rfl rfl rfl ?_ ?_ <;> simp only [go_sem]
                simp [hr, askA, lask0, note0, bA, covs, cov, subs, names, namess]
      · rw [hk]
        cases rest with
        | nil =>
          simp [laskP, hk, laskQ, isNd, laskM, laskN] at hr
          iterate 4 ((try (refine RegT.mk [] ?_)); (try (simp (disch := omega) only [go_sem, hD, hG', Int.reduceBEq, Int.reduceBNe, Int.reduceGE, Int.reduceGT, g0, z0, n0, n1, z1, hdr, strRow, lo2, lo1, lo0, unbox])); (repeat (with_reducible refine And.intro (by first | omega | decide | (simp; done) | (simp only [List.length_append, List.length_cons, List.length_nil, List.length_map]; omega)) ?_)))
          refine endW [] [] (by simp) rfl rfl rfl ?_ ?_ <;> simp only [go_sem]
          simp [hr, askA, lask0, note0, bA, covs, cov, subs, names, namess]
        | cons q l =>
          have g4 := g4 l HT.tail
          obtain ⟨hs1, hs2⟩ := rnote_same l []
          have hnf := noteP_fits l [] HT.tail (by have := HT.tail.1; simpa using this) (by simp)
          have hP4 : laskP (w :: q :: l) = if (noteP [] l).2 = true then (⟨4, bA q, 0, (noteP [] l).1⟩, wrongAskS ⟨4, bA q, 0, (noteP [] l).1⟩) else (lask0, 2) := by simp [laskP, hk, laskQ, isNd, laskM]
          rw [hP4] at hr
          clear hP4
          generalize hnp : noteP [] l = np at *
          generalize rnoteP [] l = rp at *
          obtain ⟨⟨p1, p2⟩, pb⟩ := np
          obtain ⟨⟨q1, q2⟩, qb⟩ := rp
          simp only at hs1 hs2 hnf
          subst hs1
          simp only [noteA] at g4
          cases qb
          · simp at hr
            iterate 6 ((try (refine RegT.mk [] ?_)); (try (simp (disch := omega) only [go_sem, hD, hG', Int.reduceBEq, Int.reduceBNe, Int.reduceGE, Int.reduceGT, g0, z0, n0, n1, z1, hdr, strRow, lo2, lo1, lo0, List.take_length, g4, unbox])); (repeat (with_reducible refine And.intro (by first | omega | decide | (simp; done) | (simp only [List.length_append, List.length_cons, List.length_nil, List.length_map]; omega)) ?_)))
            refine endW [] [] (by simp) rfl rfl rfl ?_ ?_ <;> simp only [go_sem]
            simp [hr, askA, lask0, note0, bA, covs, cov, subs, names, namess]
          · have hs2 := hs2 rfl
            cases hs2
            have g5 := g5 ⟨4, bA q, 0, ⟨p1, p2⟩⟩ ⟨by have := HT.head; show (q : Wd).length ≤ 1048576; omega, hnf⟩
            simp only [askA, waE, bA] at g5
            simp [bA] at hr
            generalize wrongAskS _ = e at *
            by_cases he : e = 0
            · have de : (e != 0) = false := by simp [he]
              rw [if_pos he] at hr
              iterate 6 ((try (refine RegT.mk [] ?_)); (try (simp (disch := omega) only [go_sem, hD, hG', Int.reduceBEq, Int.reduceBNe, Int.reduceGE, Int.reduceGT, g0, z0, n0, n1, z1, hdr, strRow, lo2, lo1, lo0, List.take_length, g4, g5, de, unbox])); (repeat (with_reducible refine And.intro (by first | omega | decide | (simp; done) | (simp only [List.length_append, List.length_cons, List.length_nil, List.length_map]; omega)) ?_)))
              refine endW [] [] (by simp) rfl rfl rfl ?_ ?_ <;> simp only [go_sem]
              simp [hr, askA, lask0, note0, bA, covs, cov, subs, names, namess]
            · have de : (e != 0) = true := by simp [he]
              rw [if_neg he] at hr
              iterate 6 ((try (refine RegT.mk [] ?_)); (try (simp (disch := omega) only [go_sem, hD, hG', Int.reduceBEq, Int.reduceBNe, Int.reduceGE, Int.reduceGT, g0, z0, n0, n1, z1, hdr, strRow, lo2, lo1, lo0, List.take_length, g4, g5, de, unbox])); (repeat (with_reducible refine And.intro (by first | omega | decide | (simp; done) | (simp only [List.length_append, List.length_cons, List.length_nil, List.length_map]; omega)) ?_)))
              refine endW [] [] (by simp) rfl rfl rfl ?_ ?_ <;> simp only [go_sem]
              simp [hr, askA, lask0, note0, bA, covs, cov, subs, names, namess]
  exact hcon _ rfl
def eRlineask : Ent Tryz.prog D := ⟨25, Wd, fun b => [.sl 1 (b.map byteRow)], fun b => b.length ≤ 16777216, fun b => ⟨.tup [askA (laskR b).1, .int .i64 (laskR b).2.1, .int .i64 (laskR b).2.2], []⟩, fun x y _ _ h => by
  simp only [List.cons.injEq, AV.sl.injEq, true_and, and_true] at h
  rw [bytes_inj h], con_rlineask⟩
end Go.Proofs.YtmlejhpeoiicpaaGreatDoor.Ab
namespace Go.Proofs.YtmlejhpeoiicpaaGreatDoor.Ab
open Go Go.RowKit
set_option linter.unusedVariables false
set_option linter.unusedSimpArgs false

theorem con_rlsno (e : Int) : Con Tryz.prog D 67 [.int .i64 e] ⟨.tup [.agg [.int .i64 0, .int .i64 0, .int .i64 0, .int .i64 0, .nils, .nils], .int .i64 0, .int .i64 e], []⟩ := by
  have hok : GOk Tryz.prog D (tabG []) := tabG_ok _
  generalize tabG [] = G at *
  refine conW (G := G) (rs := [(2, some 30), (3, none), (4, none)]) hok Tryz.func67 Tryz.results67 Tryz.ntmps67 (fun _ => {}) fun X hP hD hG' hX => ?_
  simp only [argS, num]
  simp (disch := omega) only [go_sem, hD, hG', unbox]
  refine endW [] [] (by simp) rfl rfl rfl ?_ ?_ <;> simp only [go_sem]
def eRlsno : Ent Tryz.prog D := ⟨67, Int, fun e => [.int .i64 e], fun _ => True, fun e => ⟨.tup [.agg [.int .i64 0, .int .i64 0, .int .i64 0, .int .i64 0, .nils, .nils], .int .i64 0, .int .i64 e], []⟩, fun x y _ _ h => by
  simp only [List.cons.injEq, AV.int.injEq, true_and, and_true] at h
  rw [h], fun e _ => con_rlsno e⟩
def eRwrongsF : Ent Tryz.prog D := ⟨21, LSay × Bool, wsE, fun x => x.1.note.Fits ∧ (x.2 = true → x.1.note = note0), fun x => ⟨.int .i64 (wrongSayS x.1), []⟩, fun x y hx hy h => by
  obtain ⟨a, b⟩ := x
  obtain ⟨a', b'⟩ := y
  have h1 := hx.2
  have h2 := hy.2
  simp only at h1 h2
  cases b <;> cases b' <;> simp only [wsE, List.cons.injEq, and_true] at h
  · rw [sayA_inj h]
  · simp [sayA, nakedS] at h
  · simp [sayA, nakedS] at h
  · rw [nakedS_inj (h1 rfl) (h2 rfl) h], fun x h => by
  obtain ⟨⟨k, q, n, e, m⟩, b⟩ := x
  obtain ⟨h1, h2⟩ := h
  cases b
  · exact con_refwrongsay _ h1
  · have h2 := h2 rfl
    simp only at h1 h2
    subst h2
    exact Con.weak (con_refwrongsay _ h1) (by simp [wsE, nakedS, note0, sayA, covs, cov])⟩
set_option maxRecDepth 100000 in
set_option maxHeartbeats 16000000 in
theorem con_rlinesay (b : Wd) (hb : b.length ≤ 16777216) : Con Tryz.prog D 28 [.sl 1 (b.map byteRow)] ⟨.tup [sayA (lsayR b).1, .int .i64 (lsayR b).2.1, .int .i64 (lsayR b).2.2], []⟩ := by
  have hok : GOk Tryz.prog D (tabG [eRlsno, eRline, eRnumber, eRnoteof, eRwrongsF]) := tabG_ok _
  have g0 := fun (e : Int) => tabG_use (T := [eRlsno, eRline, eRnumber, eRnoteof, eRwrongsF]) (E := eRlsno) (i := 0) rfl (by decide) (e) (trivial)
  have g1 := tabG_use (T := [eRlsno, eRline, eRnumber, eRnoteof, eRwrongsF]) (E := eRline) (i := 1) rfl (by decide) (b) (hb)
  have g3 := fun (x : Wd) (h : x.length ≤ 1000) => tabG_use (T := [eRlsno, eRline, eRnumber, eRnoteof, eRwrongsF]) (E := eRnumber) (i := 2) rfl (by decide) (x) (by show x.length ≤ 281474976710656; omega)
  have g4 := fun (x : List Wd) (h : WsOk x) => tabG_use (T := [eRlsno, eRline, eRnumber, eRnoteof, eRwrongsF]) (E := eRnoteof) (i := 3) rfl (by decide) (x) (h.big)
  have g5 := fun (s : LSay) (h : s.note.Fits) => tabG_use (T := [eRlsno, eRline, eRnumber, eRnoteof, eRwrongsF]) (E := eRwrongsF) (i := 4) rfl (by decide) ((s, false)) (⟨h, fun h => by cases h⟩)
  have g6 := fun (k e : Int) => tabG_use (T := [eRlsno, eRline, eRnumber, eRnoteof, eRwrongsF]) (E := eRwrongsF) (i := 4) rfl (by decide) ((⟨k, 0, 0, e, note0⟩, true)) (⟨fits_zero, fun _ => rfl⟩)
  generalize tabG [eRlsno, eRline, eRnumber, eRnoteof, eRwrongsF] = G at *
  dsimp only [eRlsno] at g0
  dsimp only [eRline] at g1
  dsimp only [eRnumber] at g3
  dsimp only [eRnoteof] at g4
  dsimp only [eRwrongsF] at g5
  dsimp only [eRwrongsF] at g6
  have hcon : ∀ r, r = lsayR b → Con Tryz.prog D 28 [.sl 1 (b.map byteRow)] ⟨.tup [sayA r.1, .int .i64 r.2.1, .int .i64 r.2.2], []⟩ := by
    intro r hr
    have hok1 := @lineP_ok b
    unfold lsayR at hr
    generalize lineP b = x at *
    obtain ⟨ws, n, e⟩ := x
    simp only at g1 hr hok1
    have z0 : (0 : Int).toNat = 0 := rfl
    have z1 : (1 : Int).toNat = 1 := rfl
    have z2 : (2 : Int).toNat = 2 := rfl
    have z3 : (3 : Int).toNat = 3 := rfl
    have n0 : ((0 : Nat) : Int) = 0 := rfl
    have n1 : ((1 : Nat) : Int) = 1 := rfl
    have n2 : ((2 : Nat) : Int) = 2 := rfl
    have n3 : ((3 : Nat) : Int) = 3 := rfl
    refine conW (G := G) (rs := [(2, some 30), (3, none), (4, none)]) hok Tryz.func28 Tryz.results28 Tryz.ntmps28 (fun _ => {}) fun X hP hD hG' hX => ?_
    simp only [argS, num]
    by_cases he : e ≠ 0
    · have de : (e != 0) = true := by simp [he]
      rw [if_pos he] at hr
      simp (disch := omega) only [go_sem, hD, hG', g1, de, g0, unbox]
      refine endW [] [] (by simp) rfl rfl rfl ?_ ?_ <;> simp only [go_sem]
      simp [hr, lsay0, note0, sayA, covs, cov, subs, names, namess]
    have he : e = 0 := by simpa using he
    have de : (e != 0) = false := by simp [he]
    rw [if_neg (by simp [he])] at hr
    obtain ⟨hne, HW⟩ := hok1 he
    cases ws with
    | nil => exact absurd rfl hne
    | cons w rest =>
    have hws : (w :: rest).map strRow = [AV.str w] :: rest.map strRow := rfl
    rw [hws] at g1
    have HT := HW.tail
    have lo2 : ∀ n : Nat, decide (((n + 1 + 1 : Nat) : Int) > 1) = true := fun n => by first | (simp; done) | (simp; omega)
    have l1 : decide ((1 : Int) > 1) = false := by decide
    have hl4 : ∀ n : Nat, decide (((n + 1 + 1 + 1 + 1 : Nat) : Int) < 4) = false := fun n => by simp; omega
    have p1 : Lib.hasPrefix w [45] = (decide ((w.length : Int) > 0) && ((w.getD 0 0).toNat : Int) == 45) := pre_byte 45 w
    by_cases h : w = [43, 105, 116, 101, 109]
    · have b0 : (w == [43, 105, 116, 101, 109]) = true := by simp [h]
      have hP : lsayP (w :: rest) = lsayI rest := by rw [h, lsayP]; simp
      rw [hP] at hr
      clear hP
      have d1 : decide ((1 : Int) < 4) = true := by decide
      have d2 : decide ((2 : Int) < 4) = true := by decide
      have d3 : decide ((3 : Int) < 4) = true := by decide
      cases rest with
      | nil =>
        simp [lsayI] at hr
        iterate 5 ((try (refine RegT.mk [] ?_)); (try (simp (disch := omega) only [go_sem, hD, hG', Int.reduceBEq, Int.reduceBNe, g1, de, g0, z0, z1, n0, n1, strRow, List.take_length, lo2, l1, b0, d1, unbox])); (repeat (with_reducible refine And.intro (by first | omega | decide | (simp; done) | (simp only [List.length_append, List.length_cons, List.length_nil, List.length_map]; omega)) ?_)))
        refine endW [] [] (by simp) rfl rfl rfl ?_ ?_ <;> simp only [go_sem]
        simp [hr, lsay0, note0, sayA, covs, cov, subs, names, namess]
      | cons x rest =>
      cases rest with
      | nil =>
        simp [lsayI] at hr
        iterate 5 ((try (refine RegT.mk [] ?_)); (try (simp (disch := omega) only [go_sem, hD, hG', Int.reduceBEq, Int.reduceBNe, g1, de, g0, z0, z1, n0, n1, strRow, List.take_length, lo2, l1, b0, d2, n2, unbox])); (repeat (with_reducible refine And.intro (by first | omega | decide | (simp; done) | (simp only [List.length_append, List.length_cons, List.length_nil, List.length_map]; omega)) ?_)))
        refine endW [] [] (by simp) rfl rfl rfl ?_ ?_ <;> simp only [go_sem]
        simp [hr, lsay0, note0, sayA, covs, cov, subs, names, namess]
      | cons y rest =>
      cases rest with
      | nil =>
        simp [lsayI] at hr
        iterate 5 ((try (refine RegT.mk [] ?_)); (try (simp (disch := omega) only [go_sem, hD, hG', Int.reduceBEq, Int.reduceBNe, g1, de, g0, z0, z1, n0, n1, strRow, List.take_length, lo2, l1, b0, d3, n3, unbox])); (repeat (with_reducible refine And.intro (by first | omega | decide | (simp; done) | (simp only [List.length_append, List.length_cons, List.length_nil, List.length_map]; omega)) ?_)))
        refine endW [] [] (by simp) rfl rfl rfl ?_ ?_ <;> simp only [go_sem]
        simp [hr, lsay0, note0, sayA, covs, cov, subs, names, namess]
      | cons z t =>
        have hdr : ∀ (a b c d : List AV), List.drop (3 : Int).toNat (List.take (((a :: b :: c :: d :: t.map strRow).length : Nat) : Int).toNat (a :: b :: c :: d :: t.map strRow)) = d :: t.map strRow := fun a b c d => by
          rw [Int.toNat_natCast, List.take_length]
          rfl
        have hd1 : ∀ (a : List AV) (l : List (List AV)), List.drop 0 (List.take (1 : Int).toNat (a :: l)) = [a] := fun a l => rfl
        have hzt := HT.tail.tail
        have gx := g3 x HT.head
        have gy := g3 y HT.tail.head
        have g4 := g4 (z :: t) hzt
        have hnf := noteP_fits (z :: t) [] hzt (by have := hzt.1; simpa using this) (by simp)
        obtain ⟨hs1, hs2⟩ := rnote_same (z :: t) []
        have hI : lsayI (x :: y :: z :: t) = lsayEnd ⟨2, (numberS x).1, (numberS y).1, 0, (noteP [] (z :: t)).1⟩ ((numberS x).2 && (numberS y).2 && (noteP [] (z :: t)).2) := rfl
        rw [hI] at hr
        clear hI
        generalize numberS x = nx at *
        generalize numberS y = ny at *
        generalize noteP [] (z :: t) = np at *
        generalize rnoteP [] (z :: t) = rp at *
        obtain ⟨x1, x2⟩ := nx
        obtain ⟨y1, y2⟩ := ny
        obtain ⟨⟨p1, p2⟩, pb⟩ := np
        obtain ⟨⟨q1, q2⟩, qb⟩ := rp
        simp only at hs1 hs2 hnf
        subst hs1
        simp only [List.map_cons, strRow, noteA] at gx gy g4
        by_cases hb3 : (x2 && y2 && qb) = true
        · simp only [Bool.and_eq_true] at hb3
          obtain ⟨⟨hx2, hy2⟩, hqb⟩ := hb3
          subst hx2 hy2 hqb
          have hs2 := hs2 rfl
          cases hs2
          have g5 := g5 ⟨2, x1, y1, 0, ⟨p1, p2⟩⟩ hnf
          simp only [sayA, wsE] at g5
          simp [lsayEnd] at hr
          generalize wrongSayS _ = e2 at *
          by_cases he2 : e2 = 0
          · have de2 : (e2 != 0) = false := by simp [he2]
            rw [if_pos he2] at hr
            iterate 5 ((try (refine RegT.mk [] ?_)); (try (simp (disch := omega) only [go_sem, hD, hG', Int.reduceBEq, Int.reduceBNe, g1, de, g0, z0, z1, n0, n1, strRow, List.take_length, lo2, l1, b0, hl4, hdr, hd1, z2, z3, gx, gy, g4, g5, de2, unbox])); (repeat (with_reducible refine And.intro (by first | omega | decide | (simp; done) | (simp only [List.length_append, List.length_cons, List.length_nil, List.length_map]; omega)) ?_)))
            refine endW [] [] (by simp) rfl rfl rfl ?_ ?_ <;> simp only [go_sem]
            simp [hr, lsay0, note0, sayA, covs, cov, subs, names, namess]
          · have de2 : (e2 != 0) = true := by simp [he2]
            rw [if_neg he2] at hr
            iterate 5 ((try (refine RegT.mk [] ?_)); (try (simp (disch := omega) only [go_sem, hD, hG', Int.reduceBEq, Int.reduceBNe, g1, de, g0, z0, z1, n0, n1, strRow, List.take_length, lo2, l1, b0, hl4, hdr, hd1, z2, z3, gx, gy, g4, g5, de2, unbox])); (repeat (with_reducible refine And.intro (by first | omega | decide | (simp; done) | (simp only [List.length_append, List.length_cons, List.length_nil, List.length_map]; omega)) ?_)))
            refine endW [] [] (by simp) rfl rfl rfl ?_ ?_ <;> simp only [go_sem]
            simp [hr, lsay0, note0, sayA, covs, cov, subs, names, namess]
        · have hr0 : r = (lsay0, 0, 2) := by
            rw [hr]
            cases x2 <;> cases y2 <;> cases qb <;> first | rfl | exact absurd rfl hb3
          clear hr
          have hr := hr0
          cases x2 <;> cases y2 <;> cases qb <;> first | exact absurd rfl hb3 | skip
          all_goals
            iterate 5 ((try (refine RegT.mk [] ?_)); (try (simp (disch := omega) only [go_sem, hD, hG', Int.reduceBEq, Int.reduceBNe, g1, de, g0, z0, z1, n0, n1, strRow, List.take_length, lo2, l1, b0, hl4, hdr, hd1, z2, z3, gx, gy, g4, unbox])); (repeat (with_reducible refine And.intro (by first | omega | decide | (simp; done) | (simp only [List.length_append, List.length_cons, List.length_nil, List.length_map]; omega)) ?_)))
            refine endW [] [] (by simp) rfl rfl rfl ?_ ?_ <;> simp only [go_sem]
            simp [hr, lsay0, note0, sayA, covs, cov, subs, names, namess]
    have b1 : (w == [43, 105, 116, 101, 109]) = false := by simp [h]
    have h1 := h
    clear h
    by_cases h : w = [43, 111, 107]
    · have hP : lsayP (w :: rest) = lsayEnd ⟨1, 0, 0, 0, note0⟩ rest.isEmpty := by rw [h, lsayP]; simp
      rw [hP] at hr
      clear hP
      have g6 := g6 1 0
      simp only [nakedS, wsE] at g6
      have b0 : (w == [43, 111, 107]) = true := by simp [h]
      cases rest with
      | cons y ys =>
        simp [lsayEnd] at hr
        iterate 5 ((try (refine RegT.mk [] ?_)); (try (simp (disch := omega) only [go_sem, hD, hG', Int.reduceBEq, Int.reduceBNe, g1, de, g0, z0, z1, n0, n1, strRow, List.take_length, lo2, l1, b1, b0, unbox])); (repeat (with_reducible refine And.intro (by first | omega | decide | (simp; done) | (simp only [List.length_append, List.length_cons, List.length_nil, List.length_map]; omega)) ?_)))
        refine endW [] [] (by simp) rfl rfl rfl ?_ ?_ <;> simp only [go_sem]
        simp [hr, lsay0, note0, sayA, covs, cov, subs, names, namess]
      | nil =>
        simp [lsayEnd] at hr
        generalize wrongSayS _ = e2 at *
        by_cases he2 : e2 = 0
        · have de2 : (e2 != 0) = false := by simp [he2]
          rw [if_pos he2] at hr
          iterate 5 ((try (refine RegT.mk [] ?_)); (try (simp (disch := omega) only [go_sem, hD, hG', Int.reduceBEq, Int.reduceBNe, g1, de, g0, z0, z1, n0, n1, strRow, List.take_length, lo2, l1, b1, b0, g6, de2, unbox])); (repeat (with_reducible refine And.intro (by first | omega | decide | (simp; done) | (simp only [List.length_append, List.length_cons, List.length_nil, List.length_map]; omega)) ?_)))
          refine endW [] [] (by simp) rfl rfl rfl ?_ ?_ <;> simp only [go_sem]
          simp [hr, lsay0, note0, sayA, covs, cov, subs, names, namess]
        · have de2 : (e2 != 0) = true := by simp [he2]
          rw [if_neg he2] at hr
          iterate 5 ((try (refine RegT.mk [] ?_)); (try (simp (disch := omega) only [go_sem, hD, hG', Int.reduceBEq, Int.reduceBNe, g1, de, g0, z0, z1, n0, n1, strRow, List.take_length, lo2, l1, b1, b0, g6, de2, unbox])); (repeat (with_reducible refine And.intro (by first | omega | decide | (simp; done) | (simp only [List.length_append, List.length_cons, List.length_nil, List.length_map]; omega)) ?_)))
          refine endW [] [] (by simp) rfl rfl rfl ?_ ?_ <;> simp only [go_sem]
          simp [hr, lsay0, note0, sayA, covs, cov, subs, names, namess]
    have b2 : (w == [43, 111, 107]) = false := by simp [h]
    have h2 := h
    clear h
    by_cases h : w = [43, 110, 111, 110, 101]
    · have hP : lsayP (w :: rest) = lsayEnd ⟨3, 0, 0, 0, note0⟩ rest.isEmpty := by rw [h, lsayP]; simp
      rw [hP] at hr
      clear hP
      have g6 := g6 3 0
      simp only [nakedS, wsE] at g6
      have b0 : (w == [43, 110, 111, 110, 101]) = true := by simp [h]
      cases rest with
      | cons y ys =>
        simp [lsayEnd] at hr
        iterate 5 ((try (refine RegT.mk [] ?_)); (try (simp (disch := omega) only [go_sem, hD, hG', Int.reduceBEq, Int.reduceBNe, g1, de, g0, z0, z1, n0, n1, strRow, List.take_length, lo2, l1, b1, b2, b0, unbox])); (repeat (with_reducible refine And.intro (by first | omega | decide | (simp; done) | (simp only [List.length_append, List.length_cons, List.length_nil, List.length_map]; omega)) ?_)))
        refine endW [] [] (by simp) rfl rfl rfl ?_ ?_ <;> simp only [go_sem]
        simp [hr, lsay0, note0, sayA, covs, cov, subs, names, namess]
      | nil =>
        simp [lsayEnd] at hr
        generalize wrongSayS _ = e2 at *
        by_cases he2 : e2 = 0
        · have de2 : (e2 != 0) = false := by simp [he2]
          rw [if_pos he2] at hr
          iterate 5 ((try (refine RegT.mk [] ?_)); (try (simp (disch := omega) only [go_sem, hD, hG', Int.reduceBEq, Int.reduceBNe, g1, de, g0, z0, z1, n0, n1, strRow, List.take_length, lo2, l1, b1, b2, b0, g6, de2, unbox])); (repeat (with_reducible refine And.intro (by first | omega | decide | (simp; done) | (simp only [List.length_append, List.length_cons, List.length_nil, List.length_map]; omega)) ?_)))
          refine endW [] [] (by simp) rfl rfl rfl ?_ ?_ <;> simp only [go_sem]
          simp [hr, lsay0, note0, sayA, covs, cov, subs, names, namess]
        · have de2 : (e2 != 0) = true := by simp [he2]
          rw [if_neg he2] at hr
          iterate 5 ((try (refine RegT.mk [] ?_)); (try (simp (disch := omega) only [go_sem, hD, hG', Int.reduceBEq, Int.reduceBNe, g1, de, g0, z0, z1, n0, n1, strRow, List.take_length, lo2, l1, b1, b2, b0, g6, de2, unbox])); (repeat (with_reducible refine And.intro (by first | omega | decide | (simp; done) | (simp only [List.length_append, List.length_cons, List.length_nil, List.length_map]; omega)) ?_)))
          refine endW [] [] (by simp) rfl rfl rfl ?_ ?_ <;> simp only [go_sem]
          simp [hr, lsay0, note0, sayA, covs, cov, subs, names, namess]
    have b3 : (w == [43, 110, 111, 110, 101]) = false := by simp [h]
    have hP : lsayP (w :: rest) = if Lib.hasPrefix w [45] = true then lsayEnd ⟨4, 0, 0, (numberS (Lib.trimPrefix w [45])).1, note0⟩ (rest.isEmpty && (numberS (Lib.trimPrefix w [45])).2) else (lsay0, 1) := by
      rw [lsayP, if_neg h2, if_neg h, if_neg h1]
    rw [hP] at hr
    clear hP
    by_cases hbw : Lib.hasPrefix w [45] = true
    · have hw0 : w ≠ [] := fun e => by rw [e] at hbw; cases hbw
      have htd := trim_drop hbw
      rw [if_pos hbw, htd] at hr
      rw [hbw] at p1
      have hl0 : 0 < w.length := by cases w with | nil => exact absurd rfl hw0 | cons a r => simp
      have dl : decide ((w.length : Int) > 0) = true := by simp only [decide_eq_true_eq]; omega
      rw [dl, Bool.true_and] at p1
      have p1 := p1.symm
      have g3 := g3 (w.drop 1) (by have := HW.head; rw [List.length_drop]; omega)
      generalize numberS (w.drop 1) = nt at *
      obtain ⟨n1', nb⟩ := nt
      simp only at g3 hr
      have g6 := g6 4 n1'
      simp only [nakedS, wsE] at g6
      cases nb
      · have hr0 : r = (lsay0, 0, 2) := by rw [hr]; cases rest <;> rfl
        clear hr
        have hr := hr0
        cases rest
        all_goals
          iterate 5 ((try (refine RegT.mk [] ?_)); (try (simp (disch := omega) only [go_sem, hD, hG', Int.reduceBEq, Int.reduceBNe, g1, de, g0, z0, z1, n0, n1, strRow, List.take_length, lo2, l1, b1, b2, b3, dl, p1, g3, unbox])); (repeat (with_reducible refine And.intro (by first | omega | decide | (simp; done) | (simp only [List.length_append, List.length_cons, List.length_nil, List.length_map]; omega)) ?_)))
          refine endW [] [] (by simp) rfl rfl rfl ?_ ?_ <;> simp only [go_sem]
          simp [hr, lsay0, note0, sayA, covs, cov, subs, names, namess]
      · cases rest with
        | cons y ys =>
          simp [lsayEnd] at hr
          iterate 5 ((try (refine RegT.mk [] ?_)); (try (simp (disch := omega) only [go_sem, hD, hG', Int.reduceBEq, Int.reduceBNe, g1, de, g0, z0, z1, n0, n1, strRow, List.take_length, lo2, l1, b1, b2, b3, dl, p1, g3, unbox])); (repeat (with_reducible refine And.intro (by first | omega | decide | (simp; done) | (simp only [List.length_append, List.length_cons, List.length_nil, List.length_map]; omega)) ?_)))
          refine endW [] [] (by simp) rfl rfl rfl ?_ ?_ <;> simp only [go_sem]
          simp [hr, lsay0, note0, sayA, covs, cov, subs, names, namess]
        | nil =>
          simp [lsayEnd] at hr
          generalize wrongSayS _ = e2 at *
          by_cases he2 : e2 = 0
          · have de2 : (e2 != 0) = false := by simp [he2]
            rw [if_pos he2] at hr
            iterate 5 ((try (refine RegT.mk [] ?_)); (try (simp (disch := omega) only [go_sem, hD, hG', Int.reduceBEq, Int.reduceBNe, g1, de, g0, z0, z1, n0, n1, strRow, List.take_length, lo2, l1, b1, b2, b3, dl, p1, g3, g6, de2, unbox])); (repeat (with_reducible refine And.intro (by first | omega | decide | (simp; done) | (simp only [List.length_append, List.length_cons, List.length_nil, List.length_map]; omega)) ?_)))
            refine endW [] [] (by simp) rfl rfl rfl ?_ ?_ <;> simp only [go_sem]
            simp [hr, lsay0, note0, sayA, covs, cov, subs, names, namess]
          · have de2 : (e2 != 0) = true := by simp [he2]
            rw [if_neg he2] at hr
            iterate 5 ((try (refine RegT.mk [] ?_)); (try (simp (disch := omega) only [go_sem, hD, hG', Int.reduceBEq, Int.reduceBNe, g1, de, g0, z0, z1, n0, n1, strRow, List.take_length, lo2, l1, b1, b2, b3, dl, p1, g3, g6, de2, unbox])); (repeat (with_reducible refine And.intro (by first | omega | decide | (simp; done) | (simp only [List.length_append, List.length_cons, List.length_nil, List.length_map]; omega)) ?_)))
            refine endW [] [] (by simp) rfl rfl rfl ?_ ?_ <;> simp only [go_sem]
            simp [hr, lsay0, note0, sayA, covs, cov, subs, names, namess]
    · rw [if_neg hbw] at hr
      simp at hr
      have hbw : Lib.hasPrefix w [45] = false := by simpa using hbw
      rw [hbw] at p1
      by_cases hw0 : w = []
      · subst hw0
        have z4 : (((0 : Nat) : Int) > 0) = False := by simp
        have z5 : decide ((0 : Int) > 0) = false := by decide
        iterate 5 ((try (refine RegT.mk [] ?_)); (try (simp (disch := omega) only [go_sem, hD, hG', Int.reduceBEq, Int.reduceBNe, g1, de, g0, z0, z1, n0, n1, strRow, List.take_length, lo2, l1, b1, b2, b3, z4, z5, unbox])); (repeat (with_reducible refine And.intro (by first | omega | decide | (simp; done) | (simp only [List.length_append, List.length_cons, List.length_nil, List.length_map]; omega)) ?_)))
        refine endW [] [] (by simp) rfl rfl rfl ?_ ?_ <;> simp only [go_sem]
        simp [hr, lsay0, note0, sayA, covs, cov, subs, names, namess]
      · have hl0 : 0 < w.length := by cases w with | nil => exact absurd rfl hw0 | cons a r => simp
        have dl : decide ((w.length : Int) > 0) = true := by simp only [decide_eq_true_eq]; omega
        rw [dl, Bool.true_and] at p1
        have p1 := p1.symm
        iterate 5 ((try (refine RegT.mk [] ?_)); (try (simp (disch := omega) only [go_sem, hD, hG', Int.reduceBEq, Int.reduceBNe, g1, de, g0, z0, z1, n0, n1, strRow, List.take_length, lo2, l1, b1, b2, b3, dl, p1, unbox])); (repeat (with_reducible refine And.intro (by first | omega | decide | (simp; done) | (simp only [List.length_append, List.length_cons, List.length_nil, List.length_map]; omega)) ?_)))
        refine endW [] [] (by simp) rfl rfl rfl ?_ ?_ <;> simp only [go_sem]
        simp [hr, lsay0, note0, sayA, covs, cov, subs, names, namess]
  exact hcon _ rfl
def eRlinesay : Ent Tryz.prog D := ⟨28, Wd, fun b => [.sl 1 (b.map byteRow)], fun b => b.length ≤ 16777216, fun b => ⟨.tup [sayA (lsayR b).1, .int .i64 (lsayR b).2.1, .int .i64 (lsayR b).2.2], []⟩, fun x y _ _ h => by
  simp only [List.cons.injEq, AV.sl.injEq, true_and, and_true] at h
  rw [bytes_inj h], con_rlinesay⟩
end Go.Proofs.YtmlejhpeoiicpaaGreatDoor.Ab
namespace Go.Proofs.YtmlejhpeoiicpaaGreatDoor.Ab
open Go Go.RowKit
set_option linter.unusedVariables false
set_option linter.unusedSimpArgs false

theorem nokL {n : LNote} (h : wrongS n = 0) : NOk n := by
  obtain ⟨h1, h2, h3⟩ := wrongS_ok h
  refine ⟨by omega, by omega, fun p hp => ?_⟩
  obtain ⟨q1, q2⟩ := propS_ok (h2 p hp)
  refine ⟨⟨?_, ?_⟩, ?_⟩ <;> omega
theorem abokL {a : LAsk} (h : wrongAskS a = 0) : ABOk a := by
  obtain ⟨h1, h2, h3, h4, h5, h6, _⟩ := wrongAsk_ok h
  obtain ⟨_, _, l1, l2⟩ := askW_ok h
  exact ⟨⟨h1, h2⟩, by omega, fun _ => nokL h6, by omega⟩
theorem sbokL {s : LSay} (h : wrongSayS s = 0) : SBOk s := by
  obtain ⟨_, _, h3, h4, h5, h6, h7, h8, h9, _⟩ := wrongSay_ok h
  obtain ⟨_, _, l1, l2⟩ := sayW_ok h
  exact ⟨by omega, by omega, by omega, fun _ => nokL h9, by omega⟩
theorem wnok {n : LNote} (h : wrongS n = 0) : WNOk n := by
  obtain ⟨h1, h2, h3⟩ := wrongS_ok h
  refine ⟨by omega, by omega, fun p hp => ?_⟩
  obtain ⟨q1, q2⟩ := propS_ok (h2 p hp)
  have hv : VOk p := by refine ⟨?_, ?_⟩ <;> omega
  refine ⟨hv, ?_⟩
  have a1 := hexS_len p.text.data.toList
  have a2 := Lib.itoa_length_le p.n hv.2.1 hv.2.2
  have a3 : p.text.data.toList.length = p.text.size := rfl
  unfold valueS
  split
  · simp only [List.length_cons]; omega
  · split
    · simp only [List.length_cons]; omega
    · omega
theorem rabok {a : LAsk} (h : wrongAskS a = 0) : RABOk a := by
  obtain ⟨h1, h2, h3, h4, h5, h6, _⟩ := wrongAsk_ok h
  exact ⟨⟨h1, h2⟩, by omega, by omega, fun _ => wnok h6⟩
theorem rsbok {s : LSay} (h : wrongSayS s = 0) : RSBOk s := by
  obtain ⟨_, _, h3, h4, h5, h6, h7, h8, h9, _⟩ := wrongSay_ok h
  exact ⟨by omega, by omega, by omega, fun _ => wnok h9⟩
theorem laskR_fits (l : Wd) : (laskR l).1.Fits := by
  rcases lask_right l with h1 | h1
  · exact ask_fits h1.2.1
  · rw [h1.2.2]; exact ⟨by decide, fits_right (by decide)⟩
theorem lsayR_fits (l : Wd) : (lsayR l).1.note.Fits := by
  rcases lsay_right l with h1 | h1
  · exact say_fits h1.2.1
  · rw [h1.2.2]; exact fits_right (by decide)
theorem numberS_rangeL (l : Wd) (h : (numberS l).2 = true) : -1073741824 ≤ (numberS l).1 ∧ (numberS l).1 ≤ 1073741824 := by
  unfold numberS at *
  simp only [Bool.and_eq_true, decide_eq_true_eq] at h
  exact h.2.2
theorem propW_vok {k s : Wd} (h : (propW k s).2 = true) (hs : s.length ≤ 8388608) : VOk (propW k s).1 := by
  have h1 := unhexR_len (Lib.trimPrefix s [36])
  have h2 := trimPrefix_len s [36]
  unfold propW at *
  split at h
  · rename_i h3
    rw [if_pos h3]
    refine ⟨?_, ?_⟩
    · show (unhexR (Lib.trimPrefix s [36])).1.length ≤ _
      omega
    · show -9223372036854775808 ≤ (0 : Int) ∧ (0 : Int) ≤ 9223372036854775807
      decide
  · rename_i h3
    rw [if_neg h3]
    split at h
    · rename_i h4
      rw [if_pos h4]
      have := numberS_rangeL _ h
      refine ⟨by show (0 : Nat) ≤ _; omega, ?_⟩
      simp only
      omega
    · rename_i h4
      rw [if_neg h4]
      have := numberS_rangeL _ h
      refine ⟨by show (0 : Nat) ≤ _; omega, ?_⟩
      simp only
      omega
def ltLo : Nat → Lo := fun id => match id with | 7 => {hand := true} | _ => {}
set_option maxRecDepth 100000 in
set_option maxHeartbeats 16000000 in
theorem con_linestells (a : LAsk) (s : LSay) (b key text : Wd) (fa : a.Fits) (fs : s.note.Fits) (hb : b.length ≤ 4194304) (ht : text.length ≤ 4194304) : Con Tryz.prog D 3 [askA a, sayA s, .sl 1 (b.map byteRow), .str key, .str text] ⟨.bool true, []⟩ := by
  obtain ⟨hu1, hu2⟩ := @ruh_ok text
  obtain ⟨hp1, hp2⟩ := rprop_same key text
  have hpv := fun h => propW_vok (k := key) (s := text) h (by omega)
  have hok : GOk Tryz.prog D (tabG [eNumber, eRnumber, eUnhex, eRunhex, eProp, eRprop, eHex, eRhex, eValue, eRvalue, eRefwrongask, eLaskbytes, eRaskline, eRefwrongsay, eLsaybytes, eRsayline, eLineask, eRlineask, eSameask, eLinesay, eRlinesay, eSamesay]) := tabG_ok _
  have g1 := tabG_use (T := [eNumber, eRnumber, eUnhex, eRunhex, eProp, eRprop, eHex, eRhex, eValue, eRvalue, eRefwrongask, eLaskbytes, eRaskline, eRefwrongsay, eLsaybytes, eRsayline, eLineask, eRlineask, eSameask, eLinesay, eRlinesay, eSamesay]) (E := eNumber) (i := 0) rfl (by decide) (text) (by show text.length ≤ _; omega)
  have g2 := tabG_use (T := [eNumber, eRnumber, eUnhex, eRunhex, eProp, eRprop, eHex, eRhex, eValue, eRvalue, eRefwrongask, eLaskbytes, eRaskline, eRefwrongsay, eLsaybytes, eRsayline, eLineask, eRlineask, eSameask, eLinesay, eRlinesay, eSamesay]) (E := eRnumber) (i := 1) rfl (by decide) (text) (by show text.length ≤ _; omega)
  have g3 := tabG_use (T := [eNumber, eRnumber, eUnhex, eRunhex, eProp, eRprop, eHex, eRhex, eValue, eRvalue, eRefwrongask, eLaskbytes, eRaskline, eRefwrongsay, eLsaybytes, eRsayline, eLineask, eRlineask, eSameask, eLinesay, eRlinesay, eSamesay]) (E := eUnhex) (i := 2) rfl (by decide) (text) (by show text.length ≤ _; omega)
  have g4 := tabG_use (T := [eNumber, eRnumber, eUnhex, eRunhex, eProp, eRprop, eHex, eRhex, eValue, eRvalue, eRefwrongask, eLaskbytes, eRaskline, eRefwrongsay, eLsaybytes, eRsayline, eLineask, eRlineask, eSameask, eLinesay, eRlinesay, eSamesay]) (E := eRunhex) (i := 3) rfl (by decide) (text) (by show text.length ≤ _; omega)
  have g5 := tabG_use (T := [eNumber, eRnumber, eUnhex, eRunhex, eProp, eRprop, eHex, eRhex, eValue, eRvalue, eRefwrongask, eLaskbytes, eRaskline, eRefwrongsay, eLsaybytes, eRsayline, eLineask, eRlineask, eSameask, eLinesay, eRlinesay, eSamesay]) (E := eProp) (i := 4) rfl (by decide) ((key, text)) (by show text.length ≤ _; omega)
  have g6 := tabG_use (T := [eNumber, eRnumber, eUnhex, eRunhex, eProp, eRprop, eHex, eRhex, eValue, eRvalue, eRefwrongask, eLaskbytes, eRaskline, eRefwrongsay, eLsaybytes, eRsayline, eLineask, eRlineask, eSameask, eLinesay, eRlinesay, eSamesay]) (E := eRprop) (i := 5) rfl (by decide) ((key, text)) (by show text.length ≤ _; omega)
  have g7 := tabG_use (T := [eNumber, eRnumber, eUnhex, eRunhex, eProp, eRprop, eHex, eRhex, eValue, eRvalue, eRefwrongask, eLaskbytes, eRaskline, eRefwrongsay, eLsaybytes, eRsayline, eLineask, eRlineask, eSameask, eLinesay, eRlinesay, eSamesay]) (E := eHex) (i := 6) rfl (by decide) (b) (by show b.length ≤ _; omega)
  have g8 := tabG_use (T := [eNumber, eRnumber, eUnhex, eRunhex, eProp, eRprop, eHex, eRhex, eValue, eRvalue, eRefwrongask, eLaskbytes, eRaskline, eRefwrongsay, eLsaybytes, eRsayline, eLineask, eRlineask, eSameask, eLinesay, eRlinesay, eSamesay]) (E := eRhex) (i := 7) rfl (by decide) (b) (by show b.length ≤ _; omega)
  have g9 := fun (h : (propW key text).2 = true) => tabG_use (T := [eNumber, eRnumber, eUnhex, eRunhex, eProp, eRprop, eHex, eRhex, eValue, eRvalue, eRefwrongask, eLaskbytes, eRaskline, eRefwrongsay, eLsaybytes, eRsayline, eLineask, eRlineask, eSameask, eLinesay, eRlinesay, eSamesay]) (E := eValue) (i := 8) rfl (by decide) ((propW key text).1) (hpv h)
  have g10 := fun (h : (propW key text).2 = true) => tabG_use (T := [eNumber, eRnumber, eUnhex, eRunhex, eProp, eRprop, eHex, eRhex, eValue, eRvalue, eRefwrongask, eLaskbytes, eRaskline, eRefwrongsay, eLsaybytes, eRsayline, eLineask, eRlineask, eSameask, eLinesay, eRlinesay, eSamesay]) (E := eRvalue) (i := 9) rfl (by decide) ((propW key text).1) (hpv h)
  have g11 := tabG_use (T := [eNumber, eRnumber, eUnhex, eRunhex, eProp, eRprop, eHex, eRhex, eValue, eRvalue, eRefwrongask, eLaskbytes, eRaskline, eRefwrongsay, eLsaybytes, eRsayline, eLineask, eRlineask, eSameask, eLinesay, eRlinesay, eSamesay]) (E := eRefwrongask) (i := 10) rfl (by decide) (a) (fa)
  have g12 := fun (h : wrongAskS a = 0) => tabG_use (T := [eNumber, eRnumber, eUnhex, eRunhex, eProp, eRprop, eHex, eRhex, eValue, eRvalue, eRefwrongask, eLaskbytes, eRaskline, eRefwrongsay, eLsaybytes, eRsayline, eLineask, eRlineask, eSameask, eLinesay, eRlinesay, eSamesay]) (E := eLaskbytes) (i := 11) rfl (by decide) (a) (abokL h)
  have g13 := fun (h : wrongAskS a = 0) => tabG_use (T := [eNumber, eRnumber, eUnhex, eRunhex, eProp, eRprop, eHex, eRhex, eValue, eRvalue, eRefwrongask, eLaskbytes, eRaskline, eRefwrongsay, eLsaybytes, eRsayline, eLineask, eRlineask, eSameask, eLinesay, eRlinesay, eSamesay]) (E := eRaskline) (i := 12) rfl (by decide) (a) (rabok h)
  have g14 := tabG_use (T := [eNumber, eRnumber, eUnhex, eRunhex, eProp, eRprop, eHex, eRhex, eValue, eRvalue, eRefwrongask, eLaskbytes, eRaskline, eRefwrongsay, eLsaybytes, eRsayline, eLineask, eRlineask, eSameask, eLinesay, eRlinesay, eSamesay]) (E := eRefwrongsay) (i := 13) rfl (by decide) (s) (fs)
  have g15 := fun (h : wrongSayS s = 0) => tabG_use (T := [eNumber, eRnumber, eUnhex, eRunhex, eProp, eRprop, eHex, eRhex, eValue, eRvalue, eRefwrongask, eLaskbytes, eRaskline, eRefwrongsay, eLsaybytes, eRsayline, eLineask, eRlineask, eSameask, eLinesay, eRlinesay, eSamesay]) (E := eLsaybytes) (i := 14) rfl (by decide) (s) (sbokL h)
  have g16 := fun (h : wrongSayS s = 0) => tabG_use (T := [eNumber, eRnumber, eUnhex, eRunhex, eProp, eRprop, eHex, eRhex, eValue, eRvalue, eRefwrongask, eLaskbytes, eRaskline, eRefwrongsay, eLsaybytes, eRsayline, eLineask, eRlineask, eSameask, eLinesay, eRlinesay, eSamesay]) (E := eRsayline) (i := 15) rfl (by decide) (s) (rsbok h)
  have g17 := tabG_use (T := [eNumber, eRnumber, eUnhex, eRunhex, eProp, eRprop, eHex, eRhex, eValue, eRvalue, eRefwrongask, eLaskbytes, eRaskline, eRefwrongsay, eLsaybytes, eRsayline, eLineask, eRlineask, eSameask, eLinesay, eRlinesay, eSamesay]) (E := eLineask) (i := 16) rfl (by decide) (b) (by show b.length ≤ _; omega)
  have g18 := tabG_use (T := [eNumber, eRnumber, eUnhex, eRunhex, eProp, eRprop, eHex, eRhex, eValue, eRvalue, eRefwrongask, eLaskbytes, eRaskline, eRefwrongsay, eLsaybytes, eRsayline, eLineask, eRlineask, eSameask, eLinesay, eRlinesay, eSamesay]) (E := eRlineask) (i := 17) rfl (by decide) (b) (by show b.length ≤ _; omega)
  have g19 := tabG_use (T := [eNumber, eRnumber, eUnhex, eRunhex, eProp, eRprop, eHex, eRhex, eValue, eRvalue, eRefwrongask, eLaskbytes, eRaskline, eRefwrongsay, eLsaybytes, eRsayline, eLineask, eRlineask, eSameask, eLinesay, eRlinesay, eSamesay]) (E := eSameask) (i := 18) rfl (by decide) (((laskR b).1, (laskR b).1)) (⟨laskR_fits b, laskR_fits b⟩)
  have g20 := tabG_use (T := [eNumber, eRnumber, eUnhex, eRunhex, eProp, eRprop, eHex, eRhex, eValue, eRvalue, eRefwrongask, eLaskbytes, eRaskline, eRefwrongsay, eLsaybytes, eRsayline, eLineask, eRlineask, eSameask, eLinesay, eRlinesay, eSamesay]) (E := eLinesay) (i := 19) rfl (by decide) (b) (by show b.length ≤ _; omega)
  have g21 := tabG_use (T := [eNumber, eRnumber, eUnhex, eRunhex, eProp, eRprop, eHex, eRhex, eValue, eRvalue, eRefwrongask, eLaskbytes, eRaskline, eRefwrongsay, eLsaybytes, eRsayline, eLineask, eRlineask, eSameask, eLinesay, eRlinesay, eSamesay]) (E := eRlinesay) (i := 20) rfl (by decide) (b) (by show b.length ≤ _; omega)
  have g22 := tabG_use (T := [eNumber, eRnumber, eUnhex, eRunhex, eProp, eRprop, eHex, eRhex, eValue, eRvalue, eRefwrongask, eLaskbytes, eRaskline, eRefwrongsay, eLsaybytes, eRsayline, eLineask, eRlineask, eSameask, eLinesay, eRlinesay, eSamesay]) (E := eSamesay) (i := 21) rfl (by decide) (((lsayR b).1, (lsayR b).1)) (⟨lsayR_fits b, lsayR_fits b⟩)
  generalize tabG [eNumber, eRnumber, eUnhex, eRunhex, eProp, eRprop, eHex, eRhex, eValue, eRvalue, eRefwrongask, eLaskbytes, eRaskline, eRefwrongsay, eLsaybytes, eRsayline, eLineask, eRlineask, eSameask, eLinesay, eRlinesay, eSamesay] = G at *
  dsimp only [eNumber] at g1
  dsimp only [eRnumber] at g2
  dsimp only [eUnhex] at g3
  dsimp only [eRunhex] at g4
  dsimp only [eProp] at g5
  dsimp only [eRprop] at g6
  dsimp only [eHex] at g7
  dsimp only [eRhex] at g8
  dsimp only [eValue] at g9
  dsimp only [eRvalue] at g10
  dsimp only [eRefwrongask] at g11
  dsimp only [eLaskbytes] at g12
  dsimp only [eRaskline] at g13
  dsimp only [eRefwrongsay] at g14
  dsimp only [eLsaybytes] at g15
  dsimp only [eRsayline] at g16
  dsimp only [eLineask] at g17
  dsimp only [eRlineask] at g18
  dsimp only [eSameask] at g19
  dsimp only [eLinesay] at g20
  dsimp only [eRlinesay] at g21
  dsimp only [eSamesay] at g22
  have ea := fun h => @rask_same a h
  have es := fun h => @rsay_same s h
  clear fa fs hpv
  generalize lineB (askW a) = xa at *
  generalize raskB a = xb at *
  generalize lineB (sayW s) = ya at *
  generalize rsayB s = yb at *
  generalize wrongAskS a = wa at *
  generalize wrongSayS s = ws at *
  generalize laskR b = pa at *
  generalize lsayR b = ps at *
  generalize numberS text = nu at *
  generalize unhexR text = u at *
  generalize ruh [] text = v at *
  generalize propW key text = p at *
  generalize rpropW key text = q at *
  generalize hexS b = hx at *
  obtain ⟨ak, aq, an, ⟨ap, ab⟩⟩ := a
  obtain ⟨sk, sn, sm, se, ⟨sp, sb⟩⟩ := s
  obtain ⟨⟨bk, bq, bn, ⟨bp, bb⟩⟩, b1, b2⟩ := pa
  obtain ⟨⟨tk, tn, tm, te, ⟨tp, tb⟩⟩, t1, t2⟩ := ps
  obtain ⟨nu1, nu2⟩ := nu
  obtain ⟨u1, u2⟩ := u
  obtain ⟨v1, v2⟩ := v
  obtain ⟨p, pb⟩ := p
  obtain ⟨q, qb⟩ := q
  simp only at hu1 hu2 hp1 hp2 g1 g2 g3 g4 g5 g6 g9 g10
  subst hu1 hp1
  have hvk : (if v2 = true then !(u1 == v1) else false) = false := by
    cases v2
    · rfl
    · rw [hu2 rfl]; simp
  simp only [askA, sayA, decide_true] at g11 g12 g13 g14 g15 g16 g17 g18 g19 g20 g21 g22
  obtain ⟨p1, p2, p3, p4⟩ := p
  obtain ⟨q1, q2, q3, q4⟩ := q
  have hcon : ∀ r, r = true → Con Tryz.prog D 3 [askA ⟨ak, aq, an, ⟨ap, ab⟩⟩, sayA ⟨sk, sn, sm, se, ⟨sp, sb⟩⟩, .sl 1 (b.map byteRow), .str key, .str text] ⟨.bool r, []⟩ := by
    intro r hr
    cases qb
    · refine conW (G := G) (rs := [(10, none)]) hok Tryz.func3 Tryz.results3 Tryz.ntmps3 (fun _ => {}) fun X hP hD hG' hX => ?_
      simp only [argS, num, askA, sayA]
      simp only [propRow] at g5 g6
      simp (disch := omega) only [go_sem, hD, hG', g1, g2, g3, g4, g5, g6, unbox]
      refine RegT.mk [(33, true)] ?_
      simp (disch := omega) only [go_sem, hD, hG', hvk, g7, g8, unbox]
      refine ⟨fun h => by rw [h]; rfl, fun h => by rw [h]; rfl, ?_⟩
      refine RegA.mk [(1, true)] (by decide) ?_
      simp (disch := omega) only [go_sem, hD, hG', hvk, g7, g8, g11, unbox]
      by_cases hA : wa = 0 <;> by_cases hS : ws = 0
      · have hA1 : (wa == 0) = true := by simp [hA]
        have hS1 : (ws == 0) = true := by simp [hS]
        have g12 := g12 hA
        have g13 := g13 hA
        have ea := ea hA
        subst ea
        have g15 := g15 hS
        have g16 := g16 hS
        have es := es hS
        subst es
        refine RegA.mk [] (by decide) ?_
        simp (disch := omega) only [go_sem, hD, hG', g11, g14, g17, g18, g19, g20, g21, g22, hA1, hS1, g12, g13, g15, g16, unbox]
        iterate 4 ((try (refine RegT.mk [] ?_)); (try (simp (disch := omega) only [go_sem, hD, hG', g11, g14, g17, g18, g19, g20, g21, g22, hA1, hS1, g12, g13, g15, g16, unbox])); (repeat (with_reducible refine And.intro (by first | omega | decide | (simp; done) | (simp only [List.length_append, List.length_cons, List.length_nil, List.length_map]; omega)) ?_)))
        refine endW [] [] (by simp) rfl rfl rfl ?_ ?_ <;> simp only [go_sem]
        subst hr; rfl
      · have hA1 : (wa == 0) = true := by simp [hA]
        have hS1 : (ws == 0) = false := by simp [hS]
        have g12 := g12 hA
        have g13 := g13 hA
        have ea := ea hA
        subst ea
        refine RegA.mk [(16, true)] (by decide) ?_
        simp (disch := omega) only [go_sem, hD, hG', g11, g14, g17, g18, g19, g20, g21, g22, hA1, hS1, g12, g13, unbox]
        iterate 4 ((try (refine RegT.mk [] ?_)); (try (simp (disch := omega) only [go_sem, hD, hG', g11, g14, g17, g18, g19, g20, g21, g22, hA1, hS1, g12, g13, unbox])); (repeat (with_reducible refine And.intro (by first | omega | decide | (simp; done) | (simp only [List.length_append, List.length_cons, List.length_nil, List.length_map]; omega)) ?_)))
        refine endW [] [] (by simp) rfl rfl rfl ?_ ?_ <;> simp only [go_sem]
        subst hr; rfl
      · have hA1 : (wa == 0) = false := by simp [hA]
        have hS1 : (ws == 0) = true := by simp [hS]
        have g15 := g15 hS
        have g16 := g16 hS
        have es := es hS
        subst es
        refine RegA.mk [(3, true)] (by decide) ?_
        simp (disch := omega) only [go_sem, hD, hG', g11, g14, g17, g18, g19, g20, g21, g22, hA1, hS1, g15, g16, unbox]
        iterate 4 ((try (refine RegT.mk [] ?_)); (try (simp (disch := omega) only [go_sem, hD, hG', g11, g14, g17, g18, g19, g20, g21, g22, hA1, hS1, g15, g16, unbox])); (repeat (with_reducible refine And.intro (by first | omega | decide | (simp; done) | (simp only [List.length_append, List.length_cons, List.length_nil, List.length_map]; omega)) ?_)))
        refine endW [] [] (by simp) rfl rfl rfl ?_ ?_ <;> simp only [go_sem]
        subst hr; rfl
      · have hA1 : (wa == 0) = false := by simp [hA]
        have hS1 : (ws == 0) = false := by simp [hS]
        refine RegA.mk [(3, true), (16, true)] (by decide) ?_
        simp (disch := omega) only [go_sem, hD, hG', g11, g14, g17, g18, g19, g20, g21, g22, hA1, hS1, unbox]
        iterate 4 ((try (refine RegT.mk [] ?_)); (try (simp (disch := omega) only [go_sem, hD, hG', g11, g14, g17, g18, g19, g20, g21, g22, hA1, hS1, unbox])); (repeat (with_reducible refine And.intro (by first | omega | decide | (simp; done) | (simp only [List.length_append, List.length_cons, List.length_nil, List.length_map]; omega)) ?_)))
        refine endW [] [] (by simp) rfl rfl rfl ?_ ?_ <;> simp only [go_sem]
        subst hr; rfl
    · have g9 := g9 rfl
      have g10 := g10 rfl
      have hpq := hp2 rfl
      cases hpq
      simp only [propRow] at g5 g6 g9 g10
      refine conW (G := G) (rs := [(10, none)]) hok Tryz.func3 Tryz.results3 Tryz.ntmps3 (ltLo) fun X hP hD hG' hX => ?_
      simp only [argS, num, askA, sayA]
      simp (disch := omega) only [go_sem, hD, hG', g1, g2, g3, g4, g5, g6, ltLo, unbox]
      refine Tr.regU hX [34, 35, 36] ?_
      simp (disch := omega) only [go_sem, hD, hG', hvk, g7, g8, unbox]
      refine ⟨fun h => by rw [h]; rfl, fun h => by rw [h]; rfl, ?_⟩
      refine inl_neq (p := ⟨p1, p2, p3, p4⟩) (q := ⟨p1, p2, p3, p4⟩) hP rfl rfl (show 99 < 194 by decide) ?_
      simp (disch := omega) only [go_sem, hD, hG', hvk, g7, g8, unbox]
      refine RegA.mk [] (by decide) ?_
      simp (disch := omega) only [go_sem, hD, hG', ltLo, g9, g10, g11, unbox]
      by_cases hA : wa = 0 <;> by_cases hS : ws = 0
      · have hA1 : (wa == 0) = true := by simp [hA]
        have hS1 : (ws == 0) = true := by simp [hS]
        have g12 := g12 hA
        have g13 := g13 hA
        have ea := ea hA
        subst ea
        have g15 := g15 hS
        have g16 := g16 hS
        have es := es hS
        subst es
        refine RegA.mk [] (by decide) ?_
        simp (disch := omega) only [go_sem, hD, hG', ltLo, g11, g14, g17, g18, g19, g20, g21, g22, hA1, hS1, g12, g13, g15, g16, unbox]
        iterate 4 ((try (refine RegT.mk [] ?_)); (try (simp (disch := omega) only [go_sem, hD, hG', ltLo, g11, g14, g17, g18, g19, g20, g21, g22, hA1, hS1, g12, g13, g15, g16, unbox])); (repeat (with_reducible refine And.intro (by first | omega | decide | (simp; done) | (simp only [List.length_append, List.length_cons, List.length_nil, List.length_map]; omega)) ?_)))
        refine endW [] [] (by simp) rfl rfl rfl ?_ ?_ <;> simp only [go_sem]
        subst hr; rfl
      · have hA1 : (wa == 0) = true := by simp [hA]
        have hS1 : (ws == 0) = false := by simp [hS]
        have g12 := g12 hA
        have g13 := g13 hA
        have ea := ea hA
        subst ea
        refine RegA.mk [(16, true)] (by decide) ?_
        simp (disch := omega) only [go_sem, hD, hG', ltLo, g11, g14, g17, g18, g19, g20, g21, g22, hA1, hS1, g12, g13, unbox]
        iterate 4 ((try (refine RegT.mk [] ?_)); (try (simp (disch := omega) only [go_sem, hD, hG', ltLo, g11, g14, g17, g18, g19, g20, g21, g22, hA1, hS1, g12, g13, unbox])); (repeat (with_reducible refine And.intro (by first | omega | decide | (simp; done) | (simp only [List.length_append, List.length_cons, List.length_nil, List.length_map]; omega)) ?_)))
        refine endW [] [] (by simp) rfl rfl rfl ?_ ?_ <;> simp only [go_sem]
        subst hr; rfl
      · have hA1 : (wa == 0) = false := by simp [hA]
        have hS1 : (ws == 0) = true := by simp [hS]
        have g15 := g15 hS
        have g16 := g16 hS
        have es := es hS
        subst es
        refine RegA.mk [(3, true)] (by decide) ?_
        simp (disch := omega) only [go_sem, hD, hG', ltLo, g11, g14, g17, g18, g19, g20, g21, g22, hA1, hS1, g15, g16, unbox]
        iterate 4 ((try (refine RegT.mk [] ?_)); (try (simp (disch := omega) only [go_sem, hD, hG', ltLo, g11, g14, g17, g18, g19, g20, g21, g22, hA1, hS1, g15, g16, unbox])); (repeat (with_reducible refine And.intro (by first | omega | decide | (simp; done) | (simp only [List.length_append, List.length_cons, List.length_nil, List.length_map]; omega)) ?_)))
        refine endW [] [] (by simp) rfl rfl rfl ?_ ?_ <;> simp only [go_sem]
        subst hr; rfl
      · have hA1 : (wa == 0) = false := by simp [hA]
        have hS1 : (ws == 0) = false := by simp [hS]
        refine RegA.mk [(3, true), (16, true)] (by decide) ?_
        simp (disch := omega) only [go_sem, hD, hG', ltLo, g11, g14, g17, g18, g19, g20, g21, g22, hA1, hS1, unbox]
        iterate 4 ((try (refine RegT.mk [] ?_)); (try (simp (disch := omega) only [go_sem, hD, hG', ltLo, g11, g14, g17, g18, g19, g20, g21, g22, hA1, hS1, unbox])); (repeat (with_reducible refine And.intro (by first | omega | decide | (simp; done) | (simp only [List.length_append, List.length_cons, List.length_nil, List.length_map]; omega)) ?_)))
        refine endW [] [] (by simp) rfl rfl rfl ?_ ?_ <;> simp only [go_sem]
        subst hr; rfl
  exact hcon _ rfl
end Go.Proofs.YtmlejhpeoiicpaaGreatDoor.Ab
