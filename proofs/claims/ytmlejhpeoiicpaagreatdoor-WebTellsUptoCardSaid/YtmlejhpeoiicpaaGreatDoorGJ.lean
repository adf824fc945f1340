/-
  Texts of the proof, one behind the other: WbD WbE.
  No condition but those that each theorem names.
-/
import Derived.Test.YtmlejhpeoiicpaaGreatDoorGI
import Derived.Test.YtmlejhpeoiicpaaGreatDoorGC
import Derived.Test.YtmlejhpeoiicpaaGreatDoorGE
import Derived.Test.YtmlejhpeoiicpaaGreatDoorGD
namespace Go.Proofs.YtmlejhpeoiicpaaGreatDoor.Ab
open Go Go.RowKit
set_option linter.unusedVariables false
set_option linter.unusedSimpArgs false

theorem con_wno (e : Int) : Con Tryz.prog D 99 [.int .i64 e] ⟨.tup [.str [], .nils, .agg [.nils, .nils], .int .i64 0, .int .i64 e], []⟩ := by
  have hok : GOk Tryz.prog D (tabG []) := tabG_ok _
  generalize tabG [] = G at *
  refine conW (G := G) (rs := [(2, none), (3, none), (4, some 25), (5, none), (6, none)]) hok Tryz.func99 Tryz.results99 Tryz.ntmps99 (fun _ => {}) fun X hP hD hG' hX => ?_
  simp only [argS, num]
  simp (disch := omega) only [go_sem, hD, hG', unbox]
  refine endW [] [] (by simp) rfl rfl rfl ?_ ?_ <;> simp only [go_sem]
def eWno : Ent Tryz.prog D := ⟨99, Int, fun e => [.int .i64 e], fun _ => True, fun e => ⟨.tup [.str [], .nils, .agg [.nils, .nils], .int .i64 0, .int .i64 e], []⟩, fun x y _ _ h => by
  simp only [List.cons.injEq, AV.int.injEq, true_and, and_true] at h
  rw [h], fun e _ => con_wno e⟩
def partsA (x : Parts) : AV := .tup [.str x.first, .sl 1 (x.heads.map strRow), noteA x.note, .int .i64 x.all, .int .i64 x.err]
theorem numberS_range (l : Wd) (h : (numberS l).2 = true) : -1073741824 ≤ (numberS l).1 ∧ (numberS l).1 ≤ 1073741824 := by
  unfold numberS at *
  simp only [Bool.and_eq_true, decide_eq_true_eq] at h
  exact h.2.2
theorem plines_ok {b : Wd} : plines b ≠ [] ∧ (plines b).length ≤ 401 ∧ ∀ w ∈ plines b, w.length ≤ 400 := by
  have h0 := cut_len (b.take 400) [13, 10, 13, 10]
  rw [List.length_take] at h0
  unfold plines pcut
  refine ⟨splitK_ne _ _ _, ?_, fun w hw => ?_⟩
  · have := splitK_len [13, 10] (Lib.count (Lib.cut (b.take 400) [13, 10, 13, 10]).1 [13, 10]) (Lib.cut (b.take 400) [13, 10, 13, 10]).1
    have h2 : Lib.count (Lib.cut (b.take 400) [13, 10, 13, 10]).1 [13, 10] ≤ _ := Lib.countB_le (bA [13, 10]) (by decide) _ (bA (Lib.cut (b.take 400) [13, 10, 13, 10]).1) (Nat.le_refl _)
    have h3 : (bA (Lib.cut (b.take 400) [13, 10, 13, 10]).1).size = (Lib.cut (b.take 400) [13, 10, 13, 10]).1.length := rfl
    show (Lib.splitK _ 0 _ _).length ≤ _
    omega
  · have := splitK_word [13, 10] _ _ w hw
    omega
theorem cut_at_len {s p : Wd} (h : (Lib.cut s p).2.2 = true) : (Lib.cut s p).1.length + p.length ≤ s.length := by
  unfold Lib.cut at *
  split at h
  · rename_i h0
    rw [if_pos h0]
    have := Lib.index_room s p h0
    rw [List.length_take]
    omega
  · cases h
def wpLo : Nat → Lo := fun id => match id with | 38 => {uo := [8], un := [4]} | _ => {}
set_option maxRecDepth 100000 in
set_option maxHeartbeats 4000000 in
theorem con_wparts (b : Wd) (hb : b.length ≤ 16777216) : Con Tryz.prog D 71 [.sl 1 (b.map byteRow)] ⟨partsA (partsR b), []⟩ := by
  obtain ⟨hpne, hpl, hpw⟩ := plines_ok (b := b)
  have hcl := cut_at_len (s := b.take 400) (p := [13, 10, 13, 10])
  rw [List.length_take] at hcl
  have hcl0 := (cut_len (b.take 400) [13, 10, 13, 10]).1
  rw [List.length_take] at hcl0
  have hok : GOk Tryz.prog D (tabG [eWno, eScut, eSplit, eCutp, eProp, eNumber, eCopy]) := tabG_ok _
  have g0 := fun (e : Int) => tabG_use (T := [eWno, eScut, eSplit, eCutp, eProp, eNumber, eCopy]) (E := eWno) (i := 0) rfl (by decide) (e) (trivial)
  have g1 := fun (m : Nat) (h : m = min b.length 400) => tabG_use (T := [eWno, eScut, eSplit, eCutp, eProp, eNumber, eCopy]) (E := eScut) (i := 1) rfl (by decide) ((b.take m, [13, 10, 13, 10])) (by show (b.take m).length < 4294967281; rw [List.length_take]; omega)
  have g2 := tabG_use (T := [eWno, eScut, eSplit, eCutp, eProp, eNumber, eCopy]) (E := eSplit) (i := 2) rfl (by decide) (((pcut b).1, [13, 10])) (⟨by show (Lib.cut (b.take 400) [13, 10, 13, 10]).1.length < 4294967281; omega, by show 1 ≤ ([13, 10] : Wd).length; decide⟩)
  have g3 := fun (w : Wd) (h : w.length ≤ 400) => tabG_use (T := [eWno, eScut, eSplit, eCutp, eProp, eNumber, eCopy]) (E := eScut) (i := 1) rfl (by decide) ((w, [58, 32])) (by show w.length < 4294967281; omega)
  have g4 := fun (w : Wd) => tabG_use (T := [eWno, eScut, eSplit, eCutp, eProp, eNumber, eCopy]) (E := eCutp) (i := 3) rfl (by decide) ((w, [112, 45])) (trivial)
  have g5 := fun (k w : Wd) (h : w.length ≤ 400) => tabG_use (T := [eWno, eScut, eSplit, eCutp, eProp, eNumber, eCopy]) (E := eProp) (i := 4) rfl (by decide) ((k, w)) (by show w.length ≤ 8388608; omega)
  have g6 := fun (w : Wd) (h : w.length ≤ 400) => tabG_use (T := [eWno, eScut, eSplit, eCutp, eProp, eNumber, eCopy]) (E := eNumber) (i := 5) rfl (by decide) (w) (by show w.length ≤ 281474976710656; omega)
  have g7 := fun (w : Wd) (h : w.length ≤ 400) => tabG_use (T := [eWno, eScut, eSplit, eCutp, eProp, eNumber, eCopy]) (E := eCopy) (i := 6) rfl (by decide) (w) (by show w.length ≤ 8388608; omega)
  generalize tabG [eWno, eScut, eSplit, eCutp, eProp, eNumber, eCopy] = G at *
  dsimp only [eWno] at g0
  dsimp only [eScut] at g1
  dsimp only [eSplit] at g2
  dsimp only [eScut] at g3
  dsimp only [eCutp] at g4
  dsimp only [eProp] at g5
  dsimp only [eNumber] at g6
  dsimp only [eCopy] at g7
  have g1 := g1 (min b.length 400) rfl
  have hbt : b.take (min b.length 400) = b.take 400 := by
    rcases Nat.le_total b.length 400 with h | h
    · rw [Nat.min_eq_left h, List.take_length, List.take_of_length_le h]
    · rw [Nat.min_eq_right h]
  have hmin : (if (400 : Int) < (b.length : Int) then (400 : Int) else (b.length : Int)) = ((min b.length 400 : Nat) : Int) := by
    split <;> omega
  have hcon : ∀ r, r = partsR b → Con Tryz.prog D 71 [.sl 1 (b.map byteRow)] ⟨partsA r, []⟩ := by
    intro r hr
    unfold partsR at hr
    have g2 : G 72 [.str (pcut b).1, .str [13, 10]] = some ⟨.sl 1 ((plines b).map strRow), []⟩ := g2
    have hpc : Lib.cut (b.take (min b.length 400)) [13, 10, 13, 10] = pcut b := by rw [hbt]; rfl
    rw [hpc] at g1
    unfold pcut at hr g1 g2 hpc
    generalize Lib.cut (b.take 400) [13, 10, 13, 10] = pc at *
    generalize plines b = ls at *
    generalize hmm : min b.length 400 = m at *
    obtain ⟨hd, tl, ok⟩ := pc
    simp only at hr g1 g2 hcl hcl0
    refine conW (G := G) (rs := [(2, none), (3, none), (4, some 25), (5, none), (6, none)]) hok Tryz.func71 Tryz.results71 Tryz.ntmps71 (wpLo) fun X hP hD hG' hX => ?_
    simp only [argS, num]
    cases ok
    · rw [if_pos rfl] at hr
      by_cases h4 : b.length < 400
      · rw [if_pos h4] at hr
        have d4 : decide ((b.length : Int) < 400) = true := by simp; omega
        subst hr
        simp only [partsA, noParts, noteA, note0, List.map_nil]
        simp (disch := omega) only [go_sem, hD, hG', hmin, g1, wpLo, unbox]
        (repeat (with_reducible refine And.intro (by first | omega | decide | (simp; done) | (simp only [List.length_append, List.length_cons, List.length_nil, List.length_map]; omega)) ?_))
        refine RegT.mk [] ?_
        simp (disch := omega) only [go_sem, hD, hG', d4, g0, wpLo, unbox]
        (repeat (with_reducible refine And.intro (by first | omega | decide | (simp; done) | (simp only [List.length_append, List.length_cons, List.length_nil, List.length_map]; omega)) ?_))
        refine endW [] [] (by simp) rfl rfl rfl ?_ ?_ <;> simp only [go_sem]
      · rw [if_neg h4] at hr
        have d4 : decide ((b.length : Int) < 400) = false := by simp; omega
        subst hr
        simp only [partsA, noParts, noteA, note0, List.map_nil]
        simp (disch := omega) only [go_sem, hD, hG', hmin, g1, wpLo, unbox]
        (repeat (with_reducible refine And.intro (by first | omega | decide | (simp; done) | (simp only [List.length_append, List.length_cons, List.length_nil, List.length_map]; omega)) ?_))
        refine RegT.mk [] ?_
        simp (disch := omega) only [go_sem, hD, hG', d4, g0, wpLo, unbox]
        (repeat (with_reducible refine And.intro (by first | omega | decide | (simp; done) | (simp only [List.length_append, List.length_cons, List.length_nil, List.length_map]; omega)) ?_))
        refine endW [] [] (by simp) rfl rfl rfl ?_ ?_ <;> simp only [go_sem]
    rw [if_neg (by simp)] at hr
    cases ls with
    | nil => exact absurd rfl hpne
    | cons w rest =>
    simp only [List.getD_cons_zero, List.tail_cons] at hr
    have hrl : rest.length ≤ 400 := by simp at hpl; omega
    have hdr : List.drop (1 : Int).toNat (List.take ((((strRow w :: rest.map strRow).length : Nat) : Int)).toNat (strRow w :: rest.map strRow)) = rest.map strRow := by
      rw [Int.toNat_natCast, List.take_length]
      rfl
    have hhd : hd.length ≤ 400 := by omega
    simp (disch := omega) only [go_sem, hD, hG', hmin, g1, wpLo, unbox]
    (repeat (with_reducible refine And.intro (by first | omega | decide | (simp; done) | (simp only [List.length_append, List.length_cons, List.length_nil, List.length_map]; omega)) ?_))
    refine RegT.mk [] ?_
    simp (disch := omega) only [go_sem, hD, hG', g2, hdr, wpLo, unbox]
    refine ⟨by omega, ?_⟩
    refine Tr.loop (ι := Nat × List LProp × List Wd × Int) (fun x => x.1 ≤ rest.length ∧ x.2.1.length ≤ x.1 ∧ x.2.2.1.length ≤ x.1 ∧ (-1 ≤ x.2.2.2 ∧ x.2.2.2 ≤ 1073741824) ∧ r = partsE b hd.length w (headsP x.2.1 x.2.2.1 x.2.2.2 (rest.drop x.1))) (fun x => { nt := 197, tm := [(0, .sl 1 (b.map byteRow)), (2, .str []), (3, .nils), (4, .ptr 4 0), (5, .int .i64 0), (6, .int .i64 0), (7, .func 99 []), (8, .str hd), (11, .sl 1 (strRow w :: rest.map strRow)), (12, .ptr 12 0), (13, .os 5001), (14, .int .i64 x.2.2.2), (66, .sl 1 (rest.map strRow)), (67, .int .i64 rest.length), (68, .int .i64 x.1)], bl := [(4, some (.cells [.nils, .nils])), (12, some (.cells [.os 5000, .nils])), (5000, some (.rows 36 4 (x.2.1.map propRow))), (5001, some (.rows 9 1 (x.2.2.1.map strRow)))] }) (fun x => rest.length - x.1) (0, [], [], -1)
      ⟨⟨Nat.zero_le _, by simp, by simp, by simp, by simpa using hr⟩, wk_of hD [(4, 4), (12, 12)] rfl rfl (by simp only [go_sem]; simp) (by simp only [go_sem])⟩ ?_
    rintro ⟨i, ps, hs, n⟩ ⟨hi, hpsl, hhsl, hn, hinv⟩
    simp only at hi hpsl hhsl hn hinv
    clear hr
    refine evC_sound hX wpLo _ _ _ ?_
    simp (disch := omega) only [go_sem, hD, hG', wpLo, unbox]
    refine condK_split (fun h => ?_) (fun h => ?_)
    · rw [decide_eq_true_eq] at h
      have hi1 : i < rest.length := by omega
      have hgx := strGet hi1
      have hd2 : rest.drop i = rest.getD i [] :: rest.drop (i + 1) := by
        rw [List.drop_eq_getElem_cons hi1]
        simp [hi1]
      have hwl : (rest.getD i []).length ≤ 400 := hpw _ (List.mem_cons_of_mem _ (getD_in (d := []) hi1))
      rw [hd2, headsP] at hinv
      generalize rest.getD i [] = x at *
      have g3 := g3 x hwl
      have hcl1 := cut_len x [58, 32]
      have g4 := g4 (Lib.cut x [58, 32]).1
      have g5 := g5 (Lib.trimPrefix (Lib.cut x [58, 32]).1 [112, 45]) (Lib.cut x [58, 32]).2.1 (by omega)
      have g6 := g6 (Lib.cut x [58, 32]).2.1 (by omega)
      have hnr := numberS_range (Lib.cut x [58, 32]).2.1
      generalize Lib.cut x [58, 32] = cx at *
      obtain ⟨k, v, ok⟩ := cx
      simp only at g3 g4 g5 g6 hinv hnr
      generalize Lib.trimPrefix k [112, 45] = tk at *
      generalize Lib.hasPrefix k [112, 45] = bk at *
      generalize propW tk v = pw at *
      obtain ⟨⟨p1, p2, p3, p4⟩, pb⟩ := pw
      generalize numberS v = nv at *
      obtain ⟨nn, nb⟩ := nv
      simp only [propRow] at g5
      simp only at g6 hinv hnr
      simp only [strRow] at hgx
      cases ok
      · rw [if_pos rfl] at hinv
        simp (disch := omega) only [go_sem, hD, hG', hgx, g3, g4, g0, wpLo, unbox]
        (repeat (with_reducible refine And.intro (by first | omega | decide | (simp; done) | (simp only [List.length_append, List.length_cons, List.length_nil, List.length_map]; omega)) ?_))
        subst hinv
        simp only [partsA, partsE, noParts, noteA, note0, List.map_nil]
        refine endW [] [] (by simp) rfl rfl rfl ?_ ?_ <;> simp only [go_sem]
      rw [if_neg (by simp)] at hinv
      cases bk
      · rw [if_neg (by simp)] at hinv
        by_cases hk : k = clenN
        · have dk : (k == [99, 111, 110, 116, 101, 110, 116, 45, 108, 101, 110, 103, 116, 104]) = true := by rw [hk]; rfl
          rw [if_pos hk] at hinv
          cases nb
          · rw [if_pos (by simp)] at hinv
            simp (disch := omega) only [go_sem, hD, hG', hgx, g3, g4, g6, dk, g0, wpLo, unbox]
            (repeat (with_reducible refine And.intro (by first | omega | decide | (simp; done) | (simp only [List.length_append, List.length_cons, List.length_nil, List.length_map]; omega)) ?_))
            refine RegT.mk [] ?_
            simp (disch := omega) only [go_sem, hD, hG', g0, wpLo, unbox]
            (repeat (with_reducible refine And.intro (by first | omega | decide | (simp; done) | (simp only [List.length_append, List.length_cons, List.length_nil, List.length_map]; omega)) ?_))
            subst hinv
            simp only [partsA, partsE, noParts, noteA, note0, List.map_nil]
            refine endW [] [] (by simp) rfl rfl rfl ?_ ?_ <;> simp only [go_sem]
          · have hnr := hnr rfl
            by_cases hnn : nn < 0 ∨ 0 ≤ n
            · rw [if_pos (.inr hnn)] at hinv
              have dc : (if nn < 0 then true else decide (n ≥ 0)) = true := by
                split
                · rfl
                · rename_i hq
                  exact decide_eq_true (hnn.resolve_left hq)
              simp (disch := omega) only [go_sem, hD, hG', hgx, g3, g4, g6, dk, g0, wpLo, unbox]
              (repeat (with_reducible refine And.intro (by first | omega | decide | (simp; done) | (simp only [List.length_append, List.length_cons, List.length_nil, List.length_map]; omega)) ?_))
              refine RegT.mk [] ?_
              simp (disch := omega) only [go_sem, hD, hG', dc, g0, wpLo, unbox]
              (repeat (with_reducible refine And.intro (by first | omega | decide | (simp; done) | (simp only [List.length_append, List.length_cons, List.length_nil, List.length_map]; omega)) ?_))
              subst hinv
              simp only [partsA, partsE, noParts, noteA, note0, List.map_nil]
              refine endW [] [] (by simp) rfl rfl rfl ?_ ?_ <;> simp only [go_sem]
            · rw [if_neg (fun h => h.elim (fun h => by cases h) hnn)] at hinv
              have dc : (if nn < 0 then true else decide (n ≥ 0)) = false := by
                split
                · rename_i hq
                  exact absurd (.inl hq) hnn
                · exact decide_eq_false fun hq => hnn (.inr hq)
              simp (disch := omega) only [go_sem, hD, hG', hgx, g3, g4, g6, dk, g0, wpLo, unbox]
              (repeat (with_reducible refine And.intro (by first | omega | decide | (simp; done) | (simp only [List.length_append, List.length_cons, List.length_nil, List.length_map]; omega)) ?_))
              refine RegT.mk [] ?_
              simp (disch := omega) only [go_sem, hD, hG', dc, g0, wpLo, unbox]
              (repeat (with_reducible refine And.intro (by first | omega | decide | (simp; done) | (simp only [List.length_append, List.length_cons, List.length_nil, List.length_map]; omega)) ?_))
              refine ⟨(i + 1, ps, hs, nn), ⟨⟨by omega, by simp only; omega, by simp only; omega, by simp only; omega, hinv⟩, by simp only; omega⟩, wk_of hD [(4, 4), (12, 12), (5000, 5000), (5001, 5001)] rfl rfl ?_ ?_⟩ <;> simp only [go_sem]
              simp
        · have dk : (k == [99, 111, 110, 116, 101, 110, 116, 45, 108, 101, 110, 103, 116, 104]) = false := by rw [beq_eq_false_iff_ne]; exact hk
          rw [if_neg hk] at hinv
          simp (disch := omega) only [go_sem, hD, hG', hgx, g3, g4, dk, wpLo, unbox]
          (repeat (with_reducible refine And.intro (by first | omega | decide | (simp; done) | (simp only [List.length_append, List.length_cons, List.length_nil, List.length_map]; omega)) ?_))
          refine ⟨(i + 1, ps, hs ++ [x], n), ⟨⟨by omega, by simp only; omega, by simp only [List.length_append, List.length_cons, List.length_nil]; omega, hn, hinv⟩, by simp only; omega⟩, wk_of hD [(4, 4), (12, 12), (5000, 5000), (5001, 86)] rfl rfl ?_ ?_⟩ <;> simp only [go_sem]
          · simp
          · simp [strRow]
      · rw [if_pos rfl] at hinv
        cases pb
        · rw [if_pos rfl] at hinv
          simp (disch := omega) only [go_sem, hD, hG', hgx, g3, g4, g5, g0, wpLo, unbox]
          (repeat (with_reducible refine And.intro (by first | omega | decide | (simp; done) | (simp only [List.length_append, List.length_cons, List.length_nil, List.length_map]; omega)) ?_))
          subst hinv
          simp only [partsA, partsE, noParts, noteA, note0, List.map_nil]
          refine endW [] [] (by simp) rfl rfl rfl ?_ ?_ <;> simp only [go_sem]
        · rw [if_neg (by simp)] at hinv
          simp (disch := omega) only [go_sem, hD, hG', hgx, g3, g4, g5, wpLo, unbox]
          (repeat (with_reducible refine And.intro (by first | omega | decide | (simp; done) | (simp only [List.length_append, List.length_cons, List.length_nil, List.length_map]; omega)) ?_))
          refine ⟨(i + 1, ps ++ [⟨p1, p2, p3, p4⟩], hs, n), ⟨⟨by omega, by simp only [List.length_append, List.length_cons, List.length_nil]; omega, by simp only; omega, hn, hinv⟩, by simp only; omega⟩, wk_of hD [(4, 4), (12, 12), (5000, 118), (5001, 5001)] rfl rfl ?_ ?_⟩ <;> simp only [go_sem]
          · simp
          · simp [propRow]
    · rw [decide_eq_false_iff_not] at h
      have hie : rest.drop i = [] := List.drop_eq_nil_of_le (by omega)
      rw [hie, headsP] at hinv
      simp only [partsE] at hinv
      by_cases h1 : n < 0
      · have d1 : decide (n < 0) = true := by simp [h1]
        rw [if_pos h1] at hinv
        simp (disch := omega) only [go_sem, hD, hG', d1, g0, wpLo, unbox]
        (repeat (with_reducible refine And.intro (by first | omega | decide | (simp; done) | (simp only [List.length_append, List.length_cons, List.length_nil, List.length_map]; omega)) ?_))
        subst hinv
        simp only [partsA, partsE, noParts, noteA, note0, List.map_nil]
        refine endW [] [] (by simp) rfl rfl rfl ?_ ?_ <;> simp only [go_sem]
      have d1 : decide (n < 0) = false := by simp [h1]
      rw [if_neg h1] at hinv
      by_cases h2 : 400 < (hd.length : Int) + 4 + n
      · have d2 : decide ((hd.length : Int) + 4 + n > 400) = true := by simp; omega
        rw [if_pos h2] at hinv
        simp (disch := omega) only [go_sem, hD, hG', d1, d2, g0, wpLo, unbox]
        (repeat (with_reducible refine And.intro (by first | omega | decide | (simp; done) | (simp only [List.length_append, List.length_cons, List.length_nil, List.length_map]; omega)) ?_))
        subst hinv
        simp only [partsA, partsE, noParts, noteA, note0, List.map_nil]
        refine endW [] [] (by simp) rfl rfl rfl ?_ ?_ <;> simp only [go_sem]
      have d2 : decide ((hd.length : Int) + 4 + n > 400) = false := by simp; omega
      rw [if_neg h2] at hinv
      by_cases h3 : (b.length : Int) < (hd.length : Int) + 4 + n
      · have d3 : decide ((b.length : Int) < (hd.length : Int) + 4 + n) = true := by simp; omega
        rw [if_pos h3] at hinv
        simp (disch := omega) only [go_sem, hD, hG', d1, d2, d3, g0, wpLo, unbox]
        (repeat (with_reducible refine And.intro (by first | omega | decide | (simp; done) | (simp only [List.length_append, List.length_cons, List.length_nil, List.length_map]; omega)) ?_))
        subst hinv
        simp only [partsA, partsE, noParts, noteA, note0, List.map_nil]
        refine endW [] [] (by simp) rfl rfl rfl ?_ ?_ <;> simp only [go_sem]
      have d3 : decide ((b.length : Int) < (hd.length : Int) + 4 + n) = false := by simp; omega
      rw [if_neg h3] at hinv
      have hbody : List.drop ((hd.length : Int) + 4).toNat (List.take ((hd.length : Int) + 4 + n).toNat b) = (b.take ((hd.length : Int) + 4 + n).toNat).drop (hd.length + 4) := by
        rw [show ((hd.length : Int) + 4).toNat = hd.length + 4 by omega]
      have g7 := g7 ((b.take ((hd.length : Int) + 4 + n).toNat).drop (hd.length + 4)) (by rw [List.length_drop, List.length_take]; omega)
      generalize (b.take ((hd.length : Int) + 4 + n).toNat).drop (hd.length + 4) = bd at *
      subst hinv
      simp only [partsA, noteA]
      simp (disch := omega) only [go_sem, hD, hG', d1, d2, d3, hbody, g7, strRow, wpLo, unbox]
      (repeat (with_reducible refine And.intro (by first | omega | decide | (simp; done) | (simp only [List.length_append, List.length_cons, List.length_nil, List.length_map]; omega)) ?_))
      refine endW [5000, 5001] [] (by simp) rfl rfl rfl ?_ ?_ <;> simp only [go_sem]
  exact hcon _ rfl
end Go.Proofs.YtmlejhpeoiicpaaGreatDoor.Ab
namespace Go.Proofs.YtmlejhpeoiicpaaGreatDoor.Ab
open Go Go.RowKit
set_option linter.unusedVariables false
set_option linter.unusedSimpArgs false

def sv (l : Wd) : Value := .string ⟨⟨l⟩⟩
def mapQ : List (Value × Value) := [(sv delW, .int .i64 3), (sv postW, .int .i64 4), (sv getW, .int .i64 5)]
def mapG : List (Value × Value) := [(sv delW, .int .i64 7), (sv postW, .int .i64 8)]
def mapN : List (Value × Value) := [(sv putW, .int .i64 2), (sv getW, .int .i64 6)]
theorem sv_same (a b : Wd) : Instr.sameNow .string (sv a) (sv b) = some (decide (a = b)) := by
  unfold sv
  simp only [Instr.sameNow]
  congr 1
  rw [Bool.eq_iff_iff, decide_eq_true_eq]
  constructor
  · intro h
    have h2 : (⟨a⟩ : Array UInt8) == ⟨b⟩ := h
    simpa using h2
  · rintro rfl
    show ((⟨a⟩ : Array UInt8) == ⟨a⟩) = true
    simp
theorem mapQ_look (m : Wd) : lookV .string (sv m) (.int .i64 0) mapQ = some (.int .i64 (kindQ m)) := by
  unfold mapQ kindQ
  simp only [lookV, sv_same]
  by_cases h1 : m = delW
  · subst h1; simp
  by_cases h2 : m = postW
  · subst h2; simp [h1]
  by_cases h3 : m = getW
  · subst h3; simp [h1, h2]
  simp [h1, h2, h3]
theorem mapG_look (m : Wd) : lookV .string (sv m) (.int .i64 0) mapG = some (.int .i64 (kindT m)) := by
  unfold mapG kindT
  simp only [lookV, sv_same]
  by_cases h1 : m = delW
  · subst h1; simp
  by_cases h2 : m = postW
  · subst h2; simp [h1]
  simp [h1, h2]
theorem mapN_look (m : Wd) : lookV .string (sv m) (.int .i64 0) mapN = some (.int .i64 (kindN m)) := by
  unfold mapN kindN
  simp only [lookV, sv_same]
  by_cases h1 : m = putW
  · subst h1; simp
  by_cases h2 : m = getW
  · subst h2; simp [h1]
  simp [h1, h2]
def wkLo : Nat → Lo := fun id => match id with | 8 => {hand := true} | 11 => {hand := true} | 16 => {hand := true} | _ => {}
structure AdOk (m p : Wd) : Prop where
  m : m.length ≤ 1000
  p : p.length ≤ 999
set_option maxRecDepth 100000 in
set_option maxHeartbeats 16000000 in
theorem con_wasked (m p : Wd) (h : AdOk m p) : Con Tryz.prog D 73 [.str m, .str p] ⟨.tup [askA (askedS m p).1, .bool (askedS m p).2], []⟩ := by
  have hok : GOk Tryz.prog D (tabG [eSplit, eNumber]) := tabG_ok _
  have g1 := tabG_use (T := [eSplit, eNumber]) (E := eSplit) (i := 0) rfl (by decide) ((p, [47])) (⟨by have := h.p; show p.length < 4294967281; omega, by show 1 ≤ ([47] : Wd).length; decide⟩)
  have g2 := fun (w : Wd) (h : w.length ≤ 1000) => tabG_use (T := [eSplit, eNumber]) (E := eNumber) (i := 1) rfl (by decide) (w) (by show w.length ≤ 281474976710656; omega)
  generalize tabG [eSplit, eNumber] = G at *
  dsimp only [eSplit] at g1
  dsimp only [eNumber] at g2
  have hsp := split_ok p [47] (by decide) h.p
  clear h
  have z0 : (0 : Int).toNat = 0 := rfl
  have z1 : (1 : Int).toNat = 1 := rfl
  have z2 : (2 : Int).toNat = 2 := rfl
  have z3 : (3 : Int).toNat = 3 := rfl
  have n1 : ((1 : Nat) : Int) = 1 := rfl
  have n2 : ((2 : Nat) : Int) = 2 := rfl
  have n3 : ((3 : Nat) : Int) = 3 := rfl
  have n4 : ((4 : Nat) : Int) = 4 := rfl
  have i1 : (1 : Int) - 1 = 0 := rfl
  have i2 : (2 : Int) - 1 = 1 := rfl
  have i3 : (3 : Int) - 1 = 2 := rfl
  have i4 : (4 : Int) - 1 = 3 := rfl
  have hcon : ∀ r, r = askedS m p → Con Tryz.prog D 73 [.str m, .str p] ⟨.tup [askA r.1, .bool r.2], []⟩ := by
    intro r hr
    by_cases hping : m = getW ∧ p = pingW
    · unfold askedS at hr
      rw [if_pos hping] at hr
      subst hr
      obtain ⟨rfl, rfl⟩ := hping
      have hl : Lib.split pingW [47] = [[], [112, 105, 110, 103]] := by decide +kernel
      rw [hl] at g1
      have g2 := g2 [112, 105, 110, 103] (by decide)
      generalize numberS [112, 105, 110, 103] = nw at *
      obtain ⟨nn, nb⟩ := nw
      simp only [pingW] at g1 g2
      simp only [getW, pingW]
      refine conW (G := G) (rs := [(4, some 27), (5, none)]) hok Tryz.func73 Tryz.results73 Tryz.ntmps73 (wkLo) fun X hP hD hG' hX => ?_
      simp only [argS, num]
      simp (disch := omega) only [go_sem, hD, hG', g1, wkLo, strRow, z0, z1, z2, z3, n1, n2, n3, n4, i1, i2, i3, i4, unbox]
      (repeat (with_reducible refine And.intro (by first | omega | decide | (simp; done) | (simp only [List.length_append, List.length_cons, List.length_nil, List.length_map]; omega)) ?_))
      refine RegA.mk [(3, true), (12, true), (18, true)] (by decide) ?_
      simp (disch := omega) only [go_sem, hD, hG', g2, wkLo, strRow, z0, z1, z2, z3, n1, n2, n3, n4, i1, i2, i3, i4, unbox]
      (repeat (with_reducible refine And.intro (by first | omega | decide | (simp; done) | (simp only [List.length_append, List.length_cons, List.length_nil, List.length_map]; omega)) ?_))
      refine RegT.mk [] ?_
      simp (disch := omega) only [go_sem, hD, hG', wkLo, strRow, z0, z1, z2, z3, n1, n2, n3, n4, i1, i2, i3, i4, unbox]
      (repeat (with_reducible refine And.intro (by first | omega | decide | (simp; done) | (simp only [List.length_append, List.length_cons, List.length_nil, List.length_map]; omega)) ?_))
      simp only [askA, lask0, note0, List.map_nil, bA]
      refine endW [] [] (by simp) rfl rfl rfl ?_ ?_ <;> simp only [go_sem]
    unfold askedS at hr
    rw [if_neg hping] at hr
    generalize Lib.split p [47] = l at *
    have hpp : (if (m == [71, 69, 84]) = true then (p == [47, 112, 105, 110, 103]) else false) = false := by
      split
      · rename_i h1
        rw [beq_iff_eq] at h1
        rw [beq_eq_false_iff_ne]
        exact fun h2 => hping ⟨h1, h2⟩
      · rfl
    match l, hsp, hr with
    | [], hsp, hr => exact absurd rfl hsp.1
    | [x], hsp, hr =>
      have hr : r = (lask0, false) := hr
      subst hr
      have g2 := g2 x (hsp.2.2 _ (by simp))
      generalize hnw : numberS x = nw at *
      obtain ⟨nn, nb⟩ := nw
      simp only at g2
      refine conW (G := G) (rs := [(4, some 27), (5, none)]) hok Tryz.func73 Tryz.results73 Tryz.ntmps73 (wkLo) fun X hP hD hG' hX => ?_
      simp only [argS, num]
      simp (disch := omega) only [go_sem, hD, hG', g1, wkLo, strRow, z0, z1, z2, z3, n1, n2, n3, n4, i1, i2, i3, i4, unbox]
      (repeat (with_reducible refine And.intro (by first | omega | decide | (simp; done) | (simp only [List.length_append, List.length_cons, List.length_nil, List.length_map]; omega)) ?_))
      refine RegA.mk [(3, true), (12, true), (18, true)] (by decide) ?_
      simp (disch := omega) only [go_sem, hD, hG', g2, wkLo, strRow, z0, z1, z2, z3, n1, n2, n3, n4, i1, i2, i3, i4, unbox]
      (repeat (with_reducible refine And.intro (by first | omega | decide | (simp; done) | (simp only [List.length_append, List.length_cons, List.length_nil, List.length_map]; omega)) ?_))
      refine RegT.mk [] ?_
      simp (disch := omega) only [go_sem, hD, hG', hpp, wkLo, strRow, z0, z1, z2, z3, n1, n2, n3, n4, i1, i2, i3, i4, unbox]
      (repeat (with_reducible refine And.intro (by first | omega | decide | (simp; done) | (simp only [List.length_append, List.length_cons, List.length_nil, List.length_map]; omega)) ?_))
      refine RegT.mk [(1, true)] ?_
      simp (disch := omega) only [go_sem, hD, hG', wkLo, strRow, z0, z1, z2, z3, n1, n2, n3, n4, i1, i2, i3, i4, unbox]
      (repeat (with_reducible refine And.intro (by first | omega | decide | (simp; done) | (simp only [List.length_append, List.length_cons, List.length_nil, List.length_map]; omega)) ?_))
      refine RegT.mk [(1, true), (7, true)] ?_
      simp (disch := omega) only [go_sem, hD, hG', wkLo, strRow, z0, z1, z2, z3, n1, n2, n3, n4, i1, i2, i3, i4, unbox]
      (repeat (with_reducible refine And.intro (by first | omega | decide | (simp; done) | (simp only [List.length_append, List.length_cons, List.length_nil, List.length_map]; omega)) ?_))
      refine RegT.mk [(1, true), (5, true)] ?_
      simp (disch := omega) only [go_sem, hD, hG', wkLo, strRow, z0, z1, z2, z3, n1, n2, n3, n4, i1, i2, i3, i4, unbox]
      (repeat (with_reducible refine And.intro (by first | omega | decide | (simp; done) | (simp only [List.length_append, List.length_cons, List.length_nil, List.length_map]; omega)) ?_))
      refine RegT.mk [(1, true)] ?_
      simp (disch := omega) only [go_sem, hD, hG', wkLo, strRow, z0, z1, z2, z3, n1, n2, n3, n4, i1, i2, i3, i4, unbox]
      (repeat (with_reducible refine And.intro (by first | omega | decide | (simp; done) | (simp only [List.length_append, List.length_cons, List.length_nil, List.length_map]; omega)) ?_))
      simp only [askA, lask0, note0, List.map_nil, bA]
      refine endW [] [] (by simp) rfl rfl rfl ?_ ?_ <;> simp only [go_sem]
    | [x, y], hsp, hr =>
      have hr : r = (lask0, false) := hr
      subst hr
      have g2 := g2 y (hsp.2.2 _ (by simp))
      generalize hnw : numberS y = nw at *
      obtain ⟨nn, nb⟩ := nw
      simp only at g2
      refine conW (G := G) (rs := [(4, some 27), (5, none)]) hok Tryz.func73 Tryz.results73 Tryz.ntmps73 (wkLo) fun X hP hD hG' hX => ?_
      simp only [argS, num]
      simp (disch := omega) only [go_sem, hD, hG', g1, wkLo, strRow, z0, z1, z2, z3, n1, n2, n3, n4, i1, i2, i3, i4, unbox]
      (repeat (with_reducible refine And.intro (by first | omega | decide | (simp; done) | (simp only [List.length_append, List.length_cons, List.length_nil, List.length_map]; omega)) ?_))
      refine RegA.mk [(3, true), (12, true), (18, true)] (by decide) ?_
      simp (disch := omega) only [go_sem, hD, hG', g2, wkLo, strRow, z0, z1, z2, z3, n1, n2, n3, n4, i1, i2, i3, i4, unbox]
      (repeat (with_reducible refine And.intro (by first | omega | decide | (simp; done) | (simp only [List.length_append, List.length_cons, List.length_nil, List.length_map]; omega)) ?_))
      refine RegT.mk [] ?_
      simp (disch := omega) only [go_sem, hD, hG', hpp, wkLo, strRow, z0, z1, z2, z3, n1, n2, n3, n4, i1, i2, i3, i4, unbox]
      (repeat (with_reducible refine And.intro (by first | omega | decide | (simp; done) | (simp only [List.length_append, List.length_cons, List.length_nil, List.length_map]; omega)) ?_))
      refine RegT.mk [(1, true)] ?_
      simp (disch := omega) only [go_sem, hD, hG', wkLo, strRow, z0, z1, z2, z3, n1, n2, n3, n4, i1, i2, i3, i4, unbox]
      (repeat (with_reducible refine And.intro (by first | omega | decide | (simp; done) | (simp only [List.length_append, List.length_cons, List.length_nil, List.length_map]; omega)) ?_))
      refine RegT.mk [(1, true), (7, true)] ?_
      simp (disch := omega) only [go_sem, hD, hG', wkLo, strRow, z0, z1, z2, z3, n1, n2, n3, n4, i1, i2, i3, i4, unbox]
      (repeat (with_reducible refine And.intro (by first | omega | decide | (simp; done) | (simp only [List.length_append, List.length_cons, List.length_nil, List.length_map]; omega)) ?_))
      refine RegT.mk [(1, true), (5, true)] ?_
      simp (disch := omega) only [go_sem, hD, hG', wkLo, strRow, z0, z1, z2, z3, n1, n2, n3, n4, i1, i2, i3, i4, unbox]
      (repeat (with_reducible refine And.intro (by first | omega | decide | (simp; done) | (simp only [List.length_append, List.length_cons, List.length_nil, List.length_map]; omega)) ?_))
      refine RegT.mk [(1, true)] ?_
      simp (disch := omega) only [go_sem, hD, hG', wkLo, strRow, z0, z1, z2, z3, n1, n2, n3, n4, i1, i2, i3, i4, unbox]
      (repeat (with_reducible refine And.intro (by first | omega | decide | (simp; done) | (simp only [List.length_append, List.length_cons, List.length_nil, List.length_map]; omega)) ?_))
      simp only [askA, lask0, note0, List.map_nil, bA]
      refine endW [] [] (by simp) rfl rfl rfl ?_ ?_ <;> simp only [go_sem]
    | [x, y, z], hsp, hr =>
      simp only [askedL] at hr
      have g2 := g2 z (hsp.2.2 _ (by simp))
      generalize hnw : numberS z = nw at *
      obtain ⟨nn, nb⟩ := nw
      simp only at g2
      by_cases hx : x = []
      · subst hx
        by_cases hy : y = queueW
        · subst hy
          rw [if_pos ⟨rfl, rfl⟩] at hr
          subst hr
          simp only [queueW] at g1
          refine conW (G := G) (rs := [(4, some 27), (5, none)]) hok Tryz.func73 Tryz.results73 Tryz.ntmps73 (wkLo) fun X hP hD hG' hX => ?_
          simp only [argS, num]
          simp (disch := omega) only [go_sem, hD, hG', g1, wkLo, strRow, z0, z1, z2, z3, n1, n2, n3, n4, i1, i2, i3, i4, unbox]
          (repeat (with_reducible refine And.intro (by first | omega | decide | (simp; done) | (simp only [List.length_append, List.length_cons, List.length_nil, List.length_map]; omega)) ?_))
          refine RegA.mk [(12, true), (18, true)] (by decide) ?_
          simp (disch := omega) only [go_sem, hD, hG', g2, wkLo, strRow, z0, z1, z2, z3, n1, n2, n3, n4, i1, i2, i3, i4, unbox]
          (repeat (with_reducible refine And.intro (by first | omega | decide | (simp; done) | (simp only [List.length_append, List.length_cons, List.length_nil, List.length_map]; omega)) ?_))
          refine RegT.mk [] ?_
          simp (disch := omega) only [go_sem, hD, hG', hpp, wkLo, strRow, z0, z1, z2, z3, n1, n2, n3, n4, i1, i2, i3, i4, unbox]
          (repeat (with_reducible refine And.intro (by first | omega | decide | (simp; done) | (simp only [List.length_append, List.length_cons, List.length_nil, List.length_map]; omega)) ?_))
          refine RegT.mk [] ?_
          simp (disch := omega) only [go_sem, hD, hG', wkLo, strRow, z0, z1, z2, z3, n1, n2, n3, n4, i1, i2, i3, i4, unbox]
          (repeat (with_reducible refine And.intro (by first | omega | decide | (simp; done) | (simp only [List.length_append, List.length_cons, List.length_nil, List.length_map]; omega)) ?_))
          have hu : X.P.underlying 133 = some (.map 9 3) := by rw [hP]; exact Tryz.underlying133
          have hku : X.P.underlying 9 = some .string := by rw [hP]; exact Tryz.underlying9
          refine Tr.lit hX 0 (d := 68) mapQ hu hku (by decide) ⟨_, rfl, rfl, rfl, rfl⟩ (by decide) ?_ ?_ ?_
          · unfold mapQ litOps
            repeat (first | exact trivial | refine ⟨⟨_, rfl, _, _, rfl, rfl, rfl, fun _ => rfl, fun _ => rfl⟩, ?_⟩ | unfold litOps)
          · unfold mapQ litNew
            repeat (first | exact trivial | refine ⟨trivial, rfl, ?_⟩ | unfold litNew)
          have hlen : mapQ.length = 3 := rfl
          have hlook := mapQ_look m
          generalize hnm : mapQ = nm at hlen hlook ⊢
          simp (disch := omega) only [go_sem, hD, hG', wkLo, strRow, z0, z1, z2, z3, n1, n2, n3, n4, i1, i2, i3, i4, hlen, unbox]
          (repeat (with_reducible refine And.intro (by first | omega | decide | (simp; done) | (simp only [List.length_append, List.length_cons, List.length_nil, List.length_map]; omega)) ?_))
          refine inl_look (dk := .string) (key := sv m) (z := .int .i64 0) (v := .int .i64 (kindQ m)) (av := .int .i64 (kindQ m)) hu hku rfl rfl trivial (by rw [hP]; exact zero_int) (by simp [cst, sv]) hlook (fun _ _ _ => .int _ _) rfl (by simp) ?_
          have hdk : decide (kindQ m > 0) = decide (0 < kindQ m) := rfl
          generalize kindQ m = kk at *
          simp (disch := omega) only [go_sem, hD, hG', wkLo, strRow, z0, z1, z2, z3, n1, n2, n3, n4, i1, i2, i3, i4, hlen, unbox]
          (repeat (with_reducible refine And.intro (by first | omega | decide | (simp; done) | (simp only [List.length_append, List.length_cons, List.length_nil, List.length_map]; omega)) ?_))
          simp only [askA, lask0, note0, List.map_nil, bA]
          refine endW [] [] (by simp) rfl rfl rfl ?_ ?_ <;> simp only [go_sem]
        have dy : (y == [113, 117, 101, 117, 101]) = false := by rw [beq_eq_false_iff_ne]; exact hy
        rw [if_neg (fun h => hy h.2)] at hr
        by_cases ht : y = tagW
        · subst ht
          simp only [tagW] at g1 dy
          cases nb
          · rw [if_neg (fun h => by have := h.2.2; simp at this)] at hr
            subst hr
            refine conW (G := G) (rs := [(4, some 27), (5, none)]) hok Tryz.func73 Tryz.results73 Tryz.ntmps73 (wkLo) fun X hP hD hG' hX => ?_
            simp only [argS, num]
            simp (disch := omega) only [go_sem, hD, hG', g1, wkLo, strRow, z0, z1, z2, z3, n1, n2, n3, n4, i1, i2, i3, i4, unbox]
            (repeat (with_reducible refine And.intro (by first | omega | decide | (simp; done) | (simp only [List.length_append, List.length_cons, List.length_nil, List.length_map]; omega)) ?_))
            refine RegA.mk [(12, true), (18, true)] (by decide) ?_
            simp (disch := omega) only [go_sem, hD, hG', g2, wkLo, strRow, z0, z1, z2, z3, n1, n2, n3, n4, i1, i2, i3, i4, unbox]
            (repeat (with_reducible refine And.intro (by first | omega | decide | (simp; done) | (simp only [List.length_append, List.length_cons, List.length_nil, List.length_map]; omega)) ?_))
            refine RegT.mk [] ?_
            simp (disch := omega) only [go_sem, hD, hG', hpp, wkLo, strRow, z0, z1, z2, z3, n1, n2, n3, n4, i1, i2, i3, i4, unbox]
            (repeat (with_reducible refine And.intro (by first | omega | decide | (simp; done) | (simp only [List.length_append, List.length_cons, List.length_nil, List.length_map]; omega)) ?_))
            refine RegT.mk [] ?_
            simp (disch := omega) only [go_sem, hD, hG', dy, wkLo, strRow, z0, z1, z2, z3, n1, n2, n3, n4, i1, i2, i3, i4, unbox]
            (repeat (with_reducible refine And.intro (by first | omega | decide | (simp; done) | (simp only [List.length_append, List.length_cons, List.length_nil, List.length_map]; omega)) ?_))
            refine RegT.mk [] ?_
            simp (disch := omega) only [go_sem, hD, hG', wkLo, strRow, z0, z1, z2, z3, n1, n2, n3, n4, i1, i2, i3, i4, unbox]
            (repeat (with_reducible refine And.intro (by first | omega | decide | (simp; done) | (simp only [List.length_append, List.length_cons, List.length_nil, List.length_map]; omega)) ?_))
            refine RegT.mk [(1, true), (5, true)] ?_
            simp (disch := omega) only [go_sem, hD, hG', wkLo, strRow, z0, z1, z2, z3, n1, n2, n3, n4, i1, i2, i3, i4, unbox]
            (repeat (with_reducible refine And.intro (by first | omega | decide | (simp; done) | (simp only [List.length_append, List.length_cons, List.length_nil, List.length_map]; omega)) ?_))
            refine RegT.mk [(1, true)] ?_
            simp (disch := omega) only [go_sem, hD, hG', wkLo, strRow, z0, z1, z2, z3, n1, n2, n3, n4, i1, i2, i3, i4, unbox]
            (repeat (with_reducible refine And.intro (by first | omega | decide | (simp; done) | (simp only [List.length_append, List.length_cons, List.length_nil, List.length_map]; omega)) ?_))
            simp only [askA, lask0, note0, List.map_nil, bA]
            refine endW [] [] (by simp) rfl rfl rfl ?_ ?_ <;> simp only [go_sem]
          · rw [if_pos ⟨rfl, rfl, rfl⟩] at hr
            subst hr
            refine conW (G := G) (rs := [(4, some 27), (5, none)]) hok Tryz.func73 Tryz.results73 Tryz.ntmps73 (wkLo) fun X hP hD hG' hX => ?_
            simp only [argS, num]
            simp (disch := omega) only [go_sem, hD, hG', g1, wkLo, strRow, z0, z1, z2, z3, n1, n2, n3, n4, i1, i2, i3, i4, unbox]
            (repeat (with_reducible refine And.intro (by first | omega | decide | (simp; done) | (simp only [List.length_append, List.length_cons, List.length_nil, List.length_map]; omega)) ?_))
            refine RegA.mk [(12, true), (18, true)] (by decide) ?_
            simp (disch := omega) only [go_sem, hD, hG', g2, wkLo, strRow, z0, z1, z2, z3, n1, n2, n3, n4, i1, i2, i3, i4, unbox]
            (repeat (with_reducible refine And.intro (by first | omega | decide | (simp; done) | (simp only [List.length_append, List.length_cons, List.length_nil, List.length_map]; omega)) ?_))
            refine RegT.mk [] ?_
            simp (disch := omega) only [go_sem, hD, hG', hpp, wkLo, strRow, z0, z1, z2, z3, n1, n2, n3, n4, i1, i2, i3, i4, unbox]
            (repeat (with_reducible refine And.intro (by first | omega | decide | (simp; done) | (simp only [List.length_append, List.length_cons, List.length_nil, List.length_map]; omega)) ?_))
            refine RegT.mk [] ?_
            simp (disch := omega) only [go_sem, hD, hG', dy, wkLo, strRow, z0, z1, z2, z3, n1, n2, n3, n4, i1, i2, i3, i4, unbox]
            (repeat (with_reducible refine And.intro (by first | omega | decide | (simp; done) | (simp only [List.length_append, List.length_cons, List.length_nil, List.length_map]; omega)) ?_))
            refine RegT.mk [] ?_
            simp (disch := omega) only [go_sem, hD, hG', wkLo, strRow, z0, z1, z2, z3, n1, n2, n3, n4, i1, i2, i3, i4, unbox]
            (repeat (with_reducible refine And.intro (by first | omega | decide | (simp; done) | (simp only [List.length_append, List.length_cons, List.length_nil, List.length_map]; omega)) ?_))
            have hu : X.P.underlying 133 = some (.map 9 3) := by rw [hP]; exact Tryz.underlying133
            have hku : X.P.underlying 9 = some .string := by rw [hP]; exact Tryz.underlying9
            refine Tr.lit hX 0 (d := 88) mapG hu hku (by decide) ⟨_, rfl, rfl, rfl, rfl⟩ (by decide) ?_ ?_ ?_
            · unfold mapG litOps
              repeat (first | exact trivial | refine ⟨⟨_, rfl, _, _, rfl, rfl, rfl, fun _ => rfl, fun _ => rfl⟩, ?_⟩ | unfold litOps)
            · unfold mapG litNew
              repeat (first | exact trivial | refine ⟨trivial, rfl, ?_⟩ | unfold litNew)
            have hlen : mapG.length = 2 := rfl
            have hlook := mapG_look m
            generalize hnm : mapG = nm at hlen hlook ⊢
            simp (disch := omega) only [go_sem, hD, hG', wkLo, strRow, z0, z1, z2, z3, n1, n2, n3, n4, i1, i2, i3, i4, hlen, unbox]
            (repeat (with_reducible refine And.intro (by first | omega | decide | (simp; done) | (simp only [List.length_append, List.length_cons, List.length_nil, List.length_map]; omega)) ?_))
            refine inl_look (dk := .string) (key := sv m) (z := .int .i64 0) (v := .int .i64 (kindT m)) (av := .int .i64 (kindT m)) hu hku rfl rfl trivial (by rw [hP]; exact zero_int) (by simp [cst, sv]) hlook (fun _ _ _ => .int _ _) rfl (by simp) ?_
            have hdk : decide (kindT m > 0) = decide (0 < kindT m) := rfl
            generalize kindT m = kk at *
            simp (disch := omega) only [go_sem, hD, hG', wkLo, strRow, z0, z1, z2, z3, n1, n2, n3, n4, i1, i2, i3, i4, hlen, unbox]
            (repeat (with_reducible refine And.intro (by first | omega | decide | (simp; done) | (simp only [List.length_append, List.length_cons, List.length_nil, List.length_map]; omega)) ?_))
            simp only [askA, lask0, note0, List.map_nil, bA]
            refine endW [] [] (by simp) rfl rfl rfl ?_ ?_ <;> simp only [go_sem]
        have dt : (y == [116, 97, 103]) = false := by rw [beq_eq_false_iff_ne]; exact ht
        rw [if_neg (fun h => ht h.2.1)] at hr
        subst hr
        refine conW (G := G) (rs := [(4, some 27), (5, none)]) hok Tryz.func73 Tryz.results73 Tryz.ntmps73 (wkLo) fun X hP hD hG' hX => ?_
        simp only [argS, num]
        simp (disch := omega) only [go_sem, hD, hG', g1, wkLo, strRow, z0, z1, z2, z3, n1, n2, n3, n4, i1, i2, i3, i4, unbox]
        (repeat (with_reducible refine And.intro (by first | omega | decide | (simp; done) | (simp only [List.length_append, List.length_cons, List.length_nil, List.length_map]; omega)) ?_))
        refine RegA.mk [(12, true), (18, true)] (by decide) ?_
        simp (disch := omega) only [go_sem, hD, hG', g2, wkLo, strRow, z0, z1, z2, z3, n1, n2, n3, n4, i1, i2, i3, i4, unbox]
        (repeat (with_reducible refine And.intro (by first | omega | decide | (simp; done) | (simp only [List.length_append, List.length_cons, List.length_nil, List.length_map]; omega)) ?_))
        refine RegT.mk [] ?_
        simp (disch := omega) only [go_sem, hD, hG', hpp, wkLo, strRow, z0, z1, z2, z3, n1, n2, n3, n4, i1, i2, i3, i4, unbox]
        (repeat (with_reducible refine And.intro (by first | omega | decide | (simp; done) | (simp only [List.length_append, List.length_cons, List.length_nil, List.length_map]; omega)) ?_))
        refine RegT.mk [] ?_
        simp (disch := omega) only [go_sem, hD, hG', dy, wkLo, strRow, z0, z1, z2, z3, n1, n2, n3, n4, i1, i2, i3, i4, unbox]
        (repeat (with_reducible refine And.intro (by first | omega | decide | (simp; done) | (simp only [List.length_append, List.length_cons, List.length_nil, List.length_map]; omega)) ?_))
        refine RegT.mk [(7, true)] ?_
        simp (disch := omega) only [go_sem, hD, hG', dt, wkLo, strRow, z0, z1, z2, z3, n1, n2, n3, n4, i1, i2, i3, i4, unbox]
        (repeat (with_reducible refine And.intro (by first | omega | decide | (simp; done) | (simp only [List.length_append, List.length_cons, List.length_nil, List.length_map]; omega)) ?_))
        refine RegT.mk [(1, true), (5, true)] ?_
        simp (disch := omega) only [go_sem, hD, hG', wkLo, strRow, z0, z1, z2, z3, n1, n2, n3, n4, i1, i2, i3, i4, unbox]
        (repeat (with_reducible refine And.intro (by first | omega | decide | (simp; done) | (simp only [List.length_append, List.length_cons, List.length_nil, List.length_map]; omega)) ?_))
        refine RegT.mk [(1, true)] ?_
        simp (disch := omega) only [go_sem, hD, hG', wkLo, strRow, z0, z1, z2, z3, n1, n2, n3, n4, i1, i2, i3, i4, unbox]
        (repeat (with_reducible refine And.intro (by first | omega | decide | (simp; done) | (simp only [List.length_append, List.length_cons, List.length_nil, List.length_map]; omega)) ?_))
        simp only [askA, lask0, note0, List.map_nil, bA]
        refine endW [] [] (by simp) rfl rfl rfl ?_ ?_ <;> simp only [go_sem]
      have dx : (x == []) = false := by rw [beq_eq_false_iff_ne]; exact hx
      rw [if_neg (fun h => hx h.1), if_neg (fun h => hx h.1)] at hr
      subst hr
      refine conW (G := G) (rs := [(4, some 27), (5, none)]) hok Tryz.func73 Tryz.results73 Tryz.ntmps73 (wkLo) fun X hP hD hG' hX => ?_
      simp only [argS, num]
      simp (disch := omega) only [go_sem, hD, hG', g1, wkLo, strRow, z0, z1, z2, z3, n1, n2, n3, n4, i1, i2, i3, i4, unbox]
      (repeat (with_reducible refine And.intro (by first | omega | decide | (simp; done) | (simp only [List.length_append, List.length_cons, List.length_nil, List.length_map]; omega)) ?_))
      refine RegA.mk [(12, true), (18, true)] (by decide) ?_
      simp (disch := omega) only [go_sem, hD, hG', g2, dx, wkLo, strRow, z0, z1, z2, z3, n1, n2, n3, n4, i1, i2, i3, i4, unbox]
      (repeat (with_reducible refine And.intro (by first | omega | decide | (simp; done) | (simp only [List.length_append, List.length_cons, List.length_nil, List.length_map]; omega)) ?_))
      refine RegT.mk [] ?_
      simp (disch := omega) only [go_sem, hD, hG', hpp, wkLo, strRow, z0, z1, z2, z3, n1, n2, n3, n4, i1, i2, i3, i4, unbox]
      (repeat (with_reducible refine And.intro (by first | omega | decide | (simp; done) | (simp only [List.length_append, List.length_cons, List.length_nil, List.length_map]; omega)) ?_))
      refine RegT.mk [(1, true)] ?_
      simp (disch := omega) only [go_sem, hD, hG', wkLo, strRow, z0, z1, z2, z3, n1, n2, n3, n4, i1, i2, i3, i4, unbox]
      (repeat (with_reducible refine And.intro (by first | omega | decide | (simp; done) | (simp only [List.length_append, List.length_cons, List.length_nil, List.length_map]; omega)) ?_))
      refine RegT.mk [(1, true), (7, true)] ?_
      simp (disch := omega) only [go_sem, hD, hG', wkLo, strRow, z0, z1, z2, z3, n1, n2, n3, n4, i1, i2, i3, i4, unbox]
      (repeat (with_reducible refine And.intro (by first | omega | decide | (simp; done) | (simp only [List.length_append, List.length_cons, List.length_nil, List.length_map]; omega)) ?_))
      refine RegT.mk [(1, true), (5, true)] ?_
      simp (disch := omega) only [go_sem, hD, hG', wkLo, strRow, z0, z1, z2, z3, n1, n2, n3, n4, i1, i2, i3, i4, unbox]
      (repeat (with_reducible refine And.intro (by first | omega | decide | (simp; done) | (simp only [List.length_append, List.length_cons, List.length_nil, List.length_map]; omega)) ?_))
      refine RegT.mk [(1, true)] ?_
      simp (disch := omega) only [go_sem, hD, hG', wkLo, strRow, z0, z1, z2, z3, n1, n2, n3, n4, i1, i2, i3, i4, unbox]
      (repeat (with_reducible refine And.intro (by first | omega | decide | (simp; done) | (simp only [List.length_append, List.length_cons, List.length_nil, List.length_map]; omega)) ?_))
      simp only [askA, lask0, note0, List.map_nil, bA]
      refine endW [] [] (by simp) rfl rfl rfl ?_ ?_ <;> simp only [go_sem]
    | [x, y, z, v], hsp, hr =>
      simp only [askedL] at hr
      have g2 := g2 v (hsp.2.2 _ (by simp))
      generalize hnw : numberS v = nw at *
      obtain ⟨nn, nb⟩ := nw
      simp only at g2
      by_cases hx : x = []
      · subst hx
        by_cases hy : y = queueW
        · subst hy
          rw [if_pos ⟨rfl, rfl⟩] at hr
          simp only [queueW] at g1
          by_cases hm : m = delW
          · have dm : (m == [68, 69, 76, 69, 84, 69]) = true := by rw [hm]; rfl
            by_cases hv : v = itemsW
            · have dv : (v == [105, 116, 101, 109, 115]) = true := by rw [hv]; rfl
              rw [if_pos ⟨hm, hv⟩] at hr
              subst hr
              refine conW (G := G) (rs := [(4, some 27), (5, none)]) hok Tryz.func73 Tryz.results73 Tryz.ntmps73 (wkLo) fun X hP hD hG' hX => ?_
              simp only [argS, num]
              simp (disch := omega) only [go_sem, hD, hG', g1, wkLo, strRow, z0, z1, z2, z3, n1, n2, n3, n4, i1, i2, i3, i4, unbox]
              (repeat (with_reducible refine And.intro (by first | omega | decide | (simp; done) | (simp only [List.length_append, List.length_cons, List.length_nil, List.length_map]; omega)) ?_))
              refine RegA.mk [(3, true)] (by decide) ?_
              simp (disch := omega) only [go_sem, hD, hG', g2, wkLo, strRow, z0, z1, z2, z3, n1, n2, n3, n4, i1, i2, i3, i4, unbox]
              (repeat (with_reducible refine And.intro (by first | omega | decide | (simp; done) | (simp only [List.length_append, List.length_cons, List.length_nil, List.length_map]; omega)) ?_))
              refine RegT.mk [] ?_
              simp (disch := omega) only [go_sem, hD, hG', hpp, wkLo, strRow, z0, z1, z2, z3, n1, n2, n3, n4, i1, i2, i3, i4, unbox]
              (repeat (with_reducible refine And.intro (by first | omega | decide | (simp; done) | (simp only [List.length_append, List.length_cons, List.length_nil, List.length_map]; omega)) ?_))
              refine RegT.mk [(1, true)] ?_
              simp (disch := omega) only [go_sem, hD, hG', wkLo, strRow, z0, z1, z2, z3, n1, n2, n3, n4, i1, i2, i3, i4, unbox]
              (repeat (with_reducible refine And.intro (by first | omega | decide | (simp; done) | (simp only [List.length_append, List.length_cons, List.length_nil, List.length_map]; omega)) ?_))
              refine RegT.mk [(1, true), (7, true)] ?_
              simp (disch := omega) only [go_sem, hD, hG', wkLo, strRow, z0, z1, z2, z3, n1, n2, n3, n4, i1, i2, i3, i4, unbox]
              (repeat (with_reducible refine And.intro (by first | omega | decide | (simp; done) | (simp only [List.length_append, List.length_cons, List.length_nil, List.length_map]; omega)) ?_))
              refine RegT.mk [] ?_
              simp (disch := omega) only [go_sem, hD, hG', dm, dv, wkLo, strRow, z0, z1, z2, z3, n1, n2, n3, n4, i1, i2, i3, i4, unbox]
              (repeat (with_reducible refine And.intro (by first | omega | decide | (simp; done) | (simp only [List.length_append, List.length_cons, List.length_nil, List.length_map]; omega)) ?_))
              simp only [askA, lask0, note0, List.map_nil, bA]
              refine endW [] [] (by simp) rfl rfl rfl ?_ ?_ <;> simp only [go_sem]
            have dv : (v == [105, 116, 101, 109, 115]) = false := by rw [beq_eq_false_iff_ne]; exact hv
            rw [if_neg (fun h => hv h.2)] at hr
            cases nb
            · rw [if_neg (by simp)] at hr
              subst hr
              refine conW (G := G) (rs := [(4, some 27), (5, none)]) hok Tryz.func73 Tryz.results73 Tryz.ntmps73 (wkLo) fun X hP hD hG' hX => ?_
              simp only [argS, num]
              simp (disch := omega) only [go_sem, hD, hG', g1, wkLo, strRow, z0, z1, z2, z3, n1, n2, n3, n4, i1, i2, i3, i4, unbox]
              (repeat (with_reducible refine And.intro (by first | omega | decide | (simp; done) | (simp only [List.length_append, List.length_cons, List.length_nil, List.length_map]; omega)) ?_))
              refine RegA.mk [(3, true)] (by decide) ?_
              simp (disch := omega) only [go_sem, hD, hG', g2, wkLo, strRow, z0, z1, z2, z3, n1, n2, n3, n4, i1, i2, i3, i4, unbox]
              (repeat (with_reducible refine And.intro (by first | omega | decide | (simp; done) | (simp only [List.length_append, List.length_cons, List.length_nil, List.length_map]; omega)) ?_))
              refine RegT.mk [] ?_
              simp (disch := omega) only [go_sem, hD, hG', hpp, wkLo, strRow, z0, z1, z2, z3, n1, n2, n3, n4, i1, i2, i3, i4, unbox]
              (repeat (with_reducible refine And.intro (by first | omega | decide | (simp; done) | (simp only [List.length_append, List.length_cons, List.length_nil, List.length_map]; omega)) ?_))
              refine RegT.mk [(1, true)] ?_
              simp (disch := omega) only [go_sem, hD, hG', wkLo, strRow, z0, z1, z2, z3, n1, n2, n3, n4, i1, i2, i3, i4, unbox]
              (repeat (with_reducible refine And.intro (by first | omega | decide | (simp; done) | (simp only [List.length_append, List.length_cons, List.length_nil, List.length_map]; omega)) ?_))
              refine RegT.mk [(1, true), (7, true)] ?_
              simp (disch := omega) only [go_sem, hD, hG', wkLo, strRow, z0, z1, z2, z3, n1, n2, n3, n4, i1, i2, i3, i4, unbox]
              (repeat (with_reducible refine And.intro (by first | omega | decide | (simp; done) | (simp only [List.length_append, List.length_cons, List.length_nil, List.length_map]; omega)) ?_))
              refine RegT.mk [] ?_
              simp (disch := omega) only [go_sem, hD, hG', dm, dv, wkLo, strRow, z0, z1, z2, z3, n1, n2, n3, n4, i1, i2, i3, i4, unbox]
              (repeat (with_reducible refine And.intro (by first | omega | decide | (simp; done) | (simp only [List.length_append, List.length_cons, List.length_nil, List.length_map]; omega)) ?_))
              refine RegT.mk [] ?_
              simp (disch := omega) only [go_sem, hD, hG', wkLo, strRow, z0, z1, z2, z3, n1, n2, n3, n4, i1, i2, i3, i4, unbox]
              (repeat (with_reducible refine And.intro (by first | omega | decide | (simp; done) | (simp only [List.length_append, List.length_cons, List.length_nil, List.length_map]; omega)) ?_))
              simp only [askA, lask0, note0, List.map_nil, bA]
              refine endW [] [] (by simp) rfl rfl rfl ?_ ?_ <;> simp only [go_sem]
            · rw [if_pos rfl] at hr
              subst hr
              refine conW (G := G) (rs := [(4, some 27), (5, none)]) hok Tryz.func73 Tryz.results73 Tryz.ntmps73 (wkLo) fun X hP hD hG' hX => ?_
              simp only [argS, num]
              simp (disch := omega) only [go_sem, hD, hG', g1, wkLo, strRow, z0, z1, z2, z3, n1, n2, n3, n4, i1, i2, i3, i4, unbox]
              (repeat (with_reducible refine And.intro (by first | omega | decide | (simp; done) | (simp only [List.length_append, List.length_cons, List.length_nil, List.length_map]; omega)) ?_))
              refine RegA.mk [(3, true)] (by decide) ?_
              simp (disch := omega) only [go_sem, hD, hG', g2, wkLo, strRow, z0, z1, z2, z3, n1, n2, n3, n4, i1, i2, i3, i4, unbox]
              (repeat (with_reducible refine And.intro (by first | omega | decide | (simp; done) | (simp only [List.length_append, List.length_cons, List.length_nil, List.length_map]; omega)) ?_))
              refine RegT.mk [] ?_
              simp (disch := omega) only [go_sem, hD, hG', hpp, wkLo, strRow, z0, z1, z2, z3, n1, n2, n3, n4, i1, i2, i3, i4, unbox]
              (repeat (with_reducible refine And.intro (by first | omega | decide | (simp; done) | (simp only [List.length_append, List.length_cons, List.length_nil, List.length_map]; omega)) ?_))
              refine RegT.mk [(1, true)] ?_
              simp (disch := omega) only [go_sem, hD, hG', wkLo, strRow, z0, z1, z2, z3, n1, n2, n3, n4, i1, i2, i3, i4, unbox]
              (repeat (with_reducible refine And.intro (by first | omega | decide | (simp; done) | (simp only [List.length_append, List.length_cons, List.length_nil, List.length_map]; omega)) ?_))
              refine RegT.mk [(1, true), (7, true)] ?_
              simp (disch := omega) only [go_sem, hD, hG', wkLo, strRow, z0, z1, z2, z3, n1, n2, n3, n4, i1, i2, i3, i4, unbox]
              (repeat (with_reducible refine And.intro (by first | omega | decide | (simp; done) | (simp only [List.length_append, List.length_cons, List.length_nil, List.length_map]; omega)) ?_))
              refine RegT.mk [] ?_
              simp (disch := omega) only [go_sem, hD, hG', dm, dv, wkLo, strRow, z0, z1, z2, z3, n1, n2, n3, n4, i1, i2, i3, i4, unbox]
              (repeat (with_reducible refine And.intro (by first | omega | decide | (simp; done) | (simp only [List.length_append, List.length_cons, List.length_nil, List.length_map]; omega)) ?_))
              refine RegT.mk [] ?_
              simp (disch := omega) only [go_sem, hD, hG', wkLo, strRow, z0, z1, z2, z3, n1, n2, n3, n4, i1, i2, i3, i4, unbox]
              (repeat (with_reducible refine And.intro (by first | omega | decide | (simp; done) | (simp only [List.length_append, List.length_cons, List.length_nil, List.length_map]; omega)) ?_))
              have hu : X.P.underlying 133 = some (.map 9 3) := by rw [hP]; exact Tryz.underlying133
              have hku : X.P.underlying 9 = some .string := by rw [hP]; exact Tryz.underlying9
              refine Tr.lit hX 0 (d := 116) mapN hu hku (by decide) ⟨_, rfl, rfl, rfl, rfl⟩ (by decide) ?_ ?_ ?_
              · unfold mapN litOps
                repeat (first | exact trivial | refine ⟨⟨_, rfl, _, _, rfl, rfl, rfl, fun _ => rfl, fun _ => rfl⟩, ?_⟩ | unfold litOps)
              · unfold mapN litNew
                repeat (first | exact trivial | refine ⟨trivial, rfl, ?_⟩ | unfold litNew)
              have hlen : mapN.length = 2 := rfl
              have hlook := mapN_look m
              generalize hnm : mapN = nm at hlen hlook ⊢
              simp (disch := omega) only [go_sem, hD, hG', wkLo, strRow, z0, z1, z2, z3, n1, n2, n3, n4, i1, i2, i3, i4, hlen, unbox]
              (repeat (with_reducible refine And.intro (by first | omega | decide | (simp; done) | (simp only [List.length_append, List.length_cons, List.length_nil, List.length_map]; omega)) ?_))
              refine inl_look (dk := .string) (key := sv m) (z := .int .i64 0) (v := .int .i64 (kindN m)) (av := .int .i64 (kindN m)) hu hku rfl rfl trivial (by rw [hP]; exact zero_int) (by simp [cst, sv]) hlook (fun _ _ _ => .int _ _) rfl (by simp) ?_
              have hdk : decide (kindN m > 0) = decide (0 < kindN m) := rfl
              generalize kindN m = kk at *
              simp (disch := omega) only [go_sem, hD, hG', wkLo, strRow, z0, z1, z2, z3, n1, n2, n3, n4, i1, i2, i3, i4, hlen, unbox]
              (repeat (with_reducible refine And.intro (by first | omega | decide | (simp; done) | (simp only [List.length_append, List.length_cons, List.length_nil, List.length_map]; omega)) ?_))
              simp only [askA, lask0, note0, List.map_nil, bA]
              refine endW [] [] (by simp) rfl rfl rfl ?_ ?_ <;> simp only [go_sem]
          have dm : (m == [68, 69, 76, 69, 84, 69]) = false := by rw [beq_eq_false_iff_ne]; exact hm
          rw [if_neg (fun h => hm h.1)] at hr
          cases nb
          · rw [if_neg (by simp)] at hr
            subst hr
            refine conW (G := G) (rs := [(4, some 27), (5, none)]) hok Tryz.func73 Tryz.results73 Tryz.ntmps73 (wkLo) fun X hP hD hG' hX => ?_
            simp only [argS, num]
            simp (disch := omega) only [go_sem, hD, hG', g1, wkLo, strRow, z0, z1, z2, z3, n1, n2, n3, n4, i1, i2, i3, i4, unbox]
            (repeat (with_reducible refine And.intro (by first | omega | decide | (simp; done) | (simp only [List.length_append, List.length_cons, List.length_nil, List.length_map]; omega)) ?_))
            refine RegA.mk [(3, true)] (by decide) ?_
            simp (disch := omega) only [go_sem, hD, hG', g2, wkLo, strRow, z0, z1, z2, z3, n1, n2, n3, n4, i1, i2, i3, i4, unbox]
            (repeat (with_reducible refine And.intro (by first | omega | decide | (simp; done) | (simp only [List.length_append, List.length_cons, List.length_nil, List.length_map]; omega)) ?_))
            refine RegT.mk [] ?_
            simp (disch := omega) only [go_sem, hD, hG', hpp, wkLo, strRow, z0, z1, z2, z3, n1, n2, n3, n4, i1, i2, i3, i4, unbox]
            (repeat (with_reducible refine And.intro (by first | omega | decide | (simp; done) | (simp only [List.length_append, List.length_cons, List.length_nil, List.length_map]; omega)) ?_))
            refine RegT.mk [(1, true)] ?_
            simp (disch := omega) only [go_sem, hD, hG', wkLo, strRow, z0, z1, z2, z3, n1, n2, n3, n4, i1, i2, i3, i4, unbox]
            (repeat (with_reducible refine And.intro (by first | omega | decide | (simp; done) | (simp only [List.length_append, List.length_cons, List.length_nil, List.length_map]; omega)) ?_))
            refine RegT.mk [(1, true), (7, true)] ?_
            simp (disch := omega) only [go_sem, hD, hG', wkLo, strRow, z0, z1, z2, z3, n1, n2, n3, n4, i1, i2, i3, i4, unbox]
            (repeat (with_reducible refine And.intro (by first | omega | decide | (simp; done) | (simp only [List.length_append, List.length_cons, List.length_nil, List.length_map]; omega)) ?_))
            refine RegT.mk [(5, true)] ?_
            simp (disch := omega) only [go_sem, hD, hG', dm, wkLo, strRow, z0, z1, z2, z3, n1, n2, n3, n4, i1, i2, i3, i4, unbox]
            (repeat (with_reducible refine And.intro (by first | omega | decide | (simp; done) | (simp only [List.length_append, List.length_cons, List.length_nil, List.length_map]; omega)) ?_))
            refine RegT.mk [] ?_
            simp (disch := omega) only [go_sem, hD, hG', wkLo, strRow, z0, z1, z2, z3, n1, n2, n3, n4, i1, i2, i3, i4, unbox]
            (repeat (with_reducible refine And.intro (by first | omega | decide | (simp; done) | (simp only [List.length_append, List.length_cons, List.length_nil, List.length_map]; omega)) ?_))
            simp only [askA, lask0, note0, List.map_nil, bA]
            refine endW [] [] (by simp) rfl rfl rfl ?_ ?_ <;> simp only [go_sem]
          · rw [if_pos rfl] at hr
            subst hr
            refine conW (G := G) (rs := [(4, some 27), (5, none)]) hok Tryz.func73 Tryz.results73 Tryz.ntmps73 (wkLo) fun X hP hD hG' hX => ?_
            simp only [argS, num]
            simp (disch := omega) only [go_sem, hD, hG', g1, wkLo, strRow, z0, z1, z2, z3, n1, n2, n3, n4, i1, i2, i3, i4, unbox]
            (repeat (with_reducible refine And.intro (by first | omega | decide | (simp; done) | (simp only [List.length_append, List.length_cons, List.length_nil, List.length_map]; omega)) ?_))
            refine RegA.mk [(3, true)] (by decide) ?_
            simp (disch := omega) only [go_sem, hD, hG', g2, wkLo, strRow, z0, z1, z2, z3, n1, n2, n3, n4, i1, i2, i3, i4, unbox]
            (repeat (with_reducible refine And.intro (by first | omega | decide | (simp; done) | (simp only [List.length_append, List.length_cons, List.length_nil, List.length_map]; omega)) ?_))
            refine RegT.mk [] ?_
            simp (disch := omega) only [go_sem, hD, hG', hpp, wkLo, strRow, z0, z1, z2, z3, n1, n2, n3, n4, i1, i2, i3, i4, unbox]
            (repeat (with_reducible refine And.intro (by first | omega | decide | (simp; done) | (simp only [List.length_append, List.length_cons, List.length_nil, List.length_map]; omega)) ?_))
            refine RegT.mk [(1, true)] ?_
            simp (disch := omega) only [go_sem, hD, hG', wkLo, strRow, z0, z1, z2, z3, n1, n2, n3, n4, i1, i2, i3, i4, unbox]
            (repeat (with_reducible refine And.intro (by first | omega | decide | (simp; done) | (simp only [List.length_append, List.length_cons, List.length_nil, List.length_map]; omega)) ?_))
            refine RegT.mk [(1, true), (7, true)] ?_
            simp (disch := omega) only [go_sem, hD, hG', wkLo, strRow, z0, z1, z2, z3, n1, n2, n3, n4, i1, i2, i3, i4, unbox]
            (repeat (with_reducible refine And.intro (by first | omega | decide | (simp; done) | (simp only [List.length_append, List.length_cons, List.length_nil, List.length_map]; omega)) ?_))
            refine RegT.mk [(5, true)] ?_
            simp (disch := omega) only [go_sem, hD, hG', dm, wkLo, strRow, z0, z1, z2, z3, n1, n2, n3, n4, i1, i2, i3, i4, unbox]
            (repeat (with_reducible refine And.intro (by first | omega | decide | (simp; done) | (simp only [List.length_append, List.length_cons, List.length_nil, List.length_map]; omega)) ?_))
            refine RegT.mk [] ?_
            simp (disch := omega) only [go_sem, hD, hG', wkLo, strRow, z0, z1, z2, z3, n1, n2, n3, n4, i1, i2, i3, i4, unbox]
            (repeat (with_reducible refine And.intro (by first | omega | decide | (simp; done) | (simp only [List.length_append, List.length_cons, List.length_nil, List.length_map]; omega)) ?_))
            have hu : X.P.underlying 133 = some (.map 9 3) := by rw [hP]; exact Tryz.underlying133
            have hku : X.P.underlying 9 = some .string := by rw [hP]; exact Tryz.underlying9
            refine Tr.lit hX 0 (d := 116) mapN hu hku (by decide) ⟨_, rfl, rfl, rfl, rfl⟩ (by decide) ?_ ?_ ?_
            · unfold mapN litOps
              repeat (first | exact trivial | refine ⟨⟨_, rfl, _, _, rfl, rfl, rfl, fun _ => rfl, fun _ => rfl⟩, ?_⟩ | unfold litOps)
            · unfold mapN litNew
              repeat (first | exact trivial | refine ⟨trivial, rfl, ?_⟩ | unfold litNew)
            have hlen : mapN.length = 2 := rfl
            have hlook := mapN_look m
            generalize hnm : mapN = nm at hlen hlook ⊢
            simp (disch := omega) only [go_sem, hD, hG', wkLo, strRow, z0, z1, z2, z3, n1, n2, n3, n4, i1, i2, i3, i4, hlen, unbox]
            (repeat (with_reducible refine And.intro (by first | omega | decide | (simp; done) | (simp only [List.length_append, List.length_cons, List.length_nil, List.length_map]; omega)) ?_))
            refine inl_look (dk := .string) (key := sv m) (z := .int .i64 0) (v := .int .i64 (kindN m)) (av := .int .i64 (kindN m)) hu hku rfl rfl trivial (by rw [hP]; exact zero_int) (by simp [cst, sv]) hlook (fun _ _ _ => .int _ _) rfl (by simp) ?_
            have hdk : decide (kindN m > 0) = decide (0 < kindN m) := rfl
            generalize kindN m = kk at *
            simp (disch := omega) only [go_sem, hD, hG', wkLo, strRow, z0, z1, z2, z3, n1, n2, n3, n4, i1, i2, i3, i4, hlen, unbox]
            (repeat (with_reducible refine And.intro (by first | omega | decide | (simp; done) | (simp only [List.length_append, List.length_cons, List.length_nil, List.length_map]; omega)) ?_))
            simp only [askA, lask0, note0, List.map_nil, bA]
            refine endW [] [] (by simp) rfl rfl rfl ?_ ?_ <;> simp only [go_sem]
        have dy : (y == [113, 117, 101, 117, 101]) = false := by rw [beq_eq_false_iff_ne]; exact hy
        rw [if_neg (fun h => hy h.2)] at hr
        subst hr
        refine conW (G := G) (rs := [(4, some 27), (5, none)]) hok Tryz.func73 Tryz.results73 Tryz.ntmps73 (wkLo) fun X hP hD hG' hX => ?_
        simp only [argS, num]
        simp (disch := omega) only [go_sem, hD, hG', g1, wkLo, strRow, z0, z1, z2, z3, n1, n2, n3, n4, i1, i2, i3, i4, unbox]
        (repeat (with_reducible refine And.intro (by first | omega | decide | (simp; done) | (simp only [List.length_append, List.length_cons, List.length_nil, List.length_map]; omega)) ?_))
        refine RegA.mk [(3, true)] (by decide) ?_
        simp (disch := omega) only [go_sem, hD, hG', g2, dy, wkLo, strRow, z0, z1, z2, z3, n1, n2, n3, n4, i1, i2, i3, i4, unbox]
        (repeat (with_reducible refine And.intro (by first | omega | decide | (simp; done) | (simp only [List.length_append, List.length_cons, List.length_nil, List.length_map]; omega)) ?_))
        refine RegT.mk [] ?_
        simp (disch := omega) only [go_sem, hD, hG', hpp, wkLo, strRow, z0, z1, z2, z3, n1, n2, n3, n4, i1, i2, i3, i4, unbox]
        (repeat (with_reducible refine And.intro (by first | omega | decide | (simp; done) | (simp only [List.length_append, List.length_cons, List.length_nil, List.length_map]; omega)) ?_))
        refine RegT.mk [(1, true)] ?_
        simp (disch := omega) only [go_sem, hD, hG', wkLo, strRow, z0, z1, z2, z3, n1, n2, n3, n4, i1, i2, i3, i4, unbox]
        (repeat (with_reducible refine And.intro (by first | omega | decide | (simp; done) | (simp only [List.length_append, List.length_cons, List.length_nil, List.length_map]; omega)) ?_))
        refine RegT.mk [(1, true), (7, true)] ?_
        simp (disch := omega) only [go_sem, hD, hG', wkLo, strRow, z0, z1, z2, z3, n1, n2, n3, n4, i1, i2, i3, i4, unbox]
        (repeat (with_reducible refine And.intro (by first | omega | decide | (simp; done) | (simp only [List.length_append, List.length_cons, List.length_nil, List.length_map]; omega)) ?_))
        refine RegT.mk [(1, true), (5, true)] ?_
        simp (disch := omega) only [go_sem, hD, hG', wkLo, strRow, z0, z1, z2, z3, n1, n2, n3, n4, i1, i2, i3, i4, unbox]
        (repeat (with_reducible refine And.intro (by first | omega | decide | (simp; done) | (simp only [List.length_append, List.length_cons, List.length_nil, List.length_map]; omega)) ?_))
        refine RegT.mk [(1, true)] ?_
        simp (disch := omega) only [go_sem, hD, hG', wkLo, strRow, z0, z1, z2, z3, n1, n2, n3, n4, i1, i2, i3, i4, unbox]
        (repeat (with_reducible refine And.intro (by first | omega | decide | (simp; done) | (simp only [List.length_append, List.length_cons, List.length_nil, List.length_map]; omega)) ?_))
        simp only [askA, lask0, note0, List.map_nil, bA]
        refine endW [] [] (by simp) rfl rfl rfl ?_ ?_ <;> simp only [go_sem]
      have dx : (x == []) = false := by rw [beq_eq_false_iff_ne]; exact hx
      rw [if_neg (fun h => hx h.1)] at hr
      subst hr
      refine conW (G := G) (rs := [(4, some 27), (5, none)]) hok Tryz.func73 Tryz.results73 Tryz.ntmps73 (wkLo) fun X hP hD hG' hX => ?_
      simp only [argS, num]
      simp (disch := omega) only [go_sem, hD, hG', g1, wkLo, strRow, z0, z1, z2, z3, n1, n2, n3, n4, i1, i2, i3, i4, unbox]
      (repeat (with_reducible refine And.intro (by first | omega | decide | (simp; done) | (simp only [List.length_append, List.length_cons, List.length_nil, List.length_map]; omega)) ?_))
      refine RegA.mk [(3, true), (18, true)] (by decide) ?_
      simp (disch := omega) only [go_sem, hD, hG', g2, dx, wkLo, strRow, z0, z1, z2, z3, n1, n2, n3, n4, i1, i2, i3, i4, unbox]
      (repeat (with_reducible refine And.intro (by first | omega | decide | (simp; done) | (simp only [List.length_append, List.length_cons, List.length_nil, List.length_map]; omega)) ?_))
      refine RegT.mk [] ?_
      simp (disch := omega) only [go_sem, hD, hG', hpp, wkLo, strRow, z0, z1, z2, z3, n1, n2, n3, n4, i1, i2, i3, i4, unbox]
      (repeat (with_reducible refine And.intro (by first | omega | decide | (simp; done) | (simp only [List.length_append, List.length_cons, List.length_nil, List.length_map]; omega)) ?_))
      refine RegT.mk [(1, true)] ?_
      simp (disch := omega) only [go_sem, hD, hG', wkLo, strRow, z0, z1, z2, z3, n1, n2, n3, n4, i1, i2, i3, i4, unbox]
      (repeat (with_reducible refine And.intro (by first | omega | decide | (simp; done) | (simp only [List.length_append, List.length_cons, List.length_nil, List.length_map]; omega)) ?_))
      refine RegT.mk [(1, true), (7, true)] ?_
      simp (disch := omega) only [go_sem, hD, hG', wkLo, strRow, z0, z1, z2, z3, n1, n2, n3, n4, i1, i2, i3, i4, unbox]
      (repeat (with_reducible refine And.intro (by first | omega | decide | (simp; done) | (simp only [List.length_append, List.length_cons, List.length_nil, List.length_map]; omega)) ?_))
      refine RegT.mk [(1, true), (5, true)] ?_
      simp (disch := omega) only [go_sem, hD, hG', wkLo, strRow, z0, z1, z2, z3, n1, n2, n3, n4, i1, i2, i3, i4, unbox]
      (repeat (with_reducible refine And.intro (by first | omega | decide | (simp; done) | (simp only [List.length_append, List.length_cons, List.length_nil, List.length_map]; omega)) ?_))
      refine RegT.mk [(1, true)] ?_
      simp (disch := omega) only [go_sem, hD, hG', wkLo, strRow, z0, z1, z2, z3, n1, n2, n3, n4, i1, i2, i3, i4, unbox]
      (repeat (with_reducible refine And.intro (by first | omega | decide | (simp; done) | (simp only [List.length_append, List.length_cons, List.length_nil, List.length_map]; omega)) ?_))
      simp only [askA, lask0, note0, List.map_nil, bA]
      refine endW [] [] (by simp) rfl rfl rfl ?_ ?_ <;> simp only [go_sem]
    | x :: y :: z :: v :: u :: rest, hsp, hr =>
      have hr : r = (lask0, false) := hr
      subst hr
      have e3 : ((((x :: y :: z :: v :: u :: rest).length : Nat) : Int) == 3) = false := by simp; omega
      have e4 : ((((x :: y :: z :: v :: u :: rest).length : Nat) : Int) == 4) = false := by simp; omega
      have hln : (x :: y :: z :: v :: u :: rest).length = rest.length + 5 := rfl
      rw [hln] at e3 e4
      generalize hL : (x :: y :: z :: v :: u :: rest : List Wd) = L at *
      have hrb : rest.length + 5 ≤ 1000 := by
        have := hsp.2.1
        omega
      have hge : L.getD (rest.length + 4) [] ∈ L := by
        refine getD_in (d := []) ?_
        omega
      have g2 := g2 (L.getD (rest.length + 4) []) (hsp.2.2 _ hge)
      generalize hnw : numberS (L.getD (rest.length + 4) []) = nw at *
      obtain ⟨nn, nb⟩ := nw
      simp only at g2
      have hgl : (L.map strRow).getD (rest.length + 4) [] = [.str (L.getD (rest.length + 4) [])] := by
        have hlt : rest.length + 4 < L.length := by omega
        simp [List.getD_eq_getElem?_getD, hlt, strRow]
      have hln2 : (((rest.length + 5 : Nat) : Int) - 1).toNat = rest.length + 4 := by omega
      refine conW (G := G) (rs := [(4, some 27), (5, none)]) hok Tryz.func73 Tryz.results73 Tryz.ntmps73 (wkLo) fun X hP hD hG' hX => ?_
      simp only [argS, num]
      simp (disch := omega) only [go_sem, hD, hG', g1, wkLo, z0, z1, z2, z3, hln, e3, e4, hgl, hln2, unbox]
      (repeat (with_reducible refine And.intro (by first | omega | decide | (simp; done) | (simp only [List.length_append, List.length_cons, List.length_nil, List.length_map]; omega)) ?_))
      refine RegA.mk [(3, true), (12, true), (18, true)] (by decide) ?_
      simp (disch := omega) only [go_sem, hD, hG', g2, wkLo, z0, z1, z2, z3, hln, e3, e4, hgl, hln2, unbox]
      (repeat (with_reducible refine And.intro (by first | omega | decide | (simp; done) | (simp only [List.length_append, List.length_cons, List.length_nil, List.length_map]; omega)) ?_))
      refine RegT.mk [] ?_
      simp (disch := omega) only [go_sem, hD, hG', hpp, wkLo, z0, z1, z2, z3, hln, e3, e4, hgl, hln2, unbox]
      (repeat (with_reducible refine And.intro (by first | omega | decide | (simp; done) | (simp only [List.length_append, List.length_cons, List.length_nil, List.length_map]; omega)) ?_))
      refine RegT.mk [(1, true)] ?_
      simp (disch := omega) only [go_sem, hD, hG', wkLo, z0, z1, z2, z3, hln, e3, e4, hgl, hln2, unbox]
      (repeat (with_reducible refine And.intro (by first | omega | decide | (simp; done) | (simp only [List.length_append, List.length_cons, List.length_nil, List.length_map]; omega)) ?_))
      refine RegT.mk [(1, true), (7, true)] ?_
      simp (disch := omega) only [go_sem, hD, hG', wkLo, z0, z1, z2, z3, hln, e3, e4, hgl, hln2, unbox]
      (repeat (with_reducible refine And.intro (by first | omega | decide | (simp; done) | (simp only [List.length_append, List.length_cons, List.length_nil, List.length_map]; omega)) ?_))
      refine RegT.mk [(1, true), (5, true)] ?_
      simp (disch := omega) only [go_sem, hD, hG', wkLo, z0, z1, z2, z3, hln, e3, e4, hgl, hln2, unbox]
      (repeat (with_reducible refine And.intro (by first | omega | decide | (simp; done) | (simp only [List.length_append, List.length_cons, List.length_nil, List.length_map]; omega)) ?_))
      refine RegT.mk [(1, true)] ?_
      simp (disch := omega) only [go_sem, hD, hG', wkLo, z0, z1, z2, z3, hln, e3, e4, hgl, hln2, unbox]
      (repeat (with_reducible refine And.intro (by first | omega | decide | (simp; done) | (simp only [List.length_append, List.length_cons, List.length_nil, List.length_map]; omega)) ?_))
      simp only [askA, lask0, note0, List.map_nil, bA]
      refine endW [] [] (by simp) rfl rfl rfl ?_ ?_ <;> simp only [go_sem]
  exact hcon _ rfl
def eWasked : Ent Tryz.prog D := ⟨73, Wd × Wd, fun x => [.str x.1, .str x.2], fun x => AdOk x.1 x.2, fun x => ⟨.tup [askA (askedS x.1 x.2).1, .bool (askedS x.1 x.2).2], []⟩, fun x y _ _ h => by
  obtain ⟨a, b⟩ := x
  obtain ⟨a', b'⟩ := y
  simp only [List.cons.injEq, AV.str.injEq, and_true] at h
  rw [h.1, h.2], fun x h => con_wasked x.1 x.2 h⟩
end Go.Proofs.YtmlejhpeoiicpaaGreatDoor.Ab
