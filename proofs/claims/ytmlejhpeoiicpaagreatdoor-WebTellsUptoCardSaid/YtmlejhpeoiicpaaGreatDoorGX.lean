/-
  Texts of the proof, one behind the other: RwE RwF RwG RwH.
  No condition but those that each theorem names.
-/
import Derived.Test.YtmlejhpeoiicpaaGreatDoorGW
import Derived.Test.YtmlejhpeoiicpaaGreatDoorGC
import Derived.Test.YtmlejhpeoiicpaaGreatDoorGJ
import Derived.Test.YtmlejhpeoiicpaaGreatDoorGK
import Derived.Test.YtmlejhpeoiicpaaGreatDoorGV
import Derived.Test.YtmlejhpeoiicpaaGreatDoorGL
namespace Go.Proofs.YtmlejhpeoiicpaaGreatDoor.Ab
open Go Go.RowKit
set_option linter.unusedVariables false
set_option linter.unusedSimpArgs false

theorem con_rpno (e : Int) : Con Tryz.prog D 105 [.int .i64 e] ⟨.tup [.str [], .nils, .agg [.nils, .nils], .int .i64 0, .int .i64 e], []⟩ := by
  have hok : GOk Tryz.prog D (tabG []) := tabG_ok _
  generalize tabG [] = G at *
  refine conW (G := G) (rs := [(2, none), (3, none), (4, some 25), (5, none), (6, none)]) hok Tryz.func105 Tryz.results105 Tryz.ntmps105 (fun _ => {}) fun X hP hD hG' hX => ?_
  simp only [argS, num]
  simp (disch := omega) only [go_sem, hD, hG', unbox]
  refine endW [] [] (by simp) rfl rfl rfl ?_ ?_ <;> simp only [go_sem]
def eRpno : Ent Tryz.prog D := ⟨105, Int, fun e => [.int .i64 e], fun _ => True, fun e => ⟨.tup [.str [], .nils, .agg [.nils, .nils], .int .i64 0, .int .i64 e], []⟩, fun x y _ _ h => by
  simp only [List.cons.injEq, AV.int.injEq, true_and, and_true] at h
  rw [h], fun e _ => con_rpno e⟩
def crlf2 : Wd := [13, 10, 13, 10]
def rqLo : Nat → Lo := fun id => match id with | 41 => {uo := [11], un := [4]} | _ => {}
theorem pcut_hit {b : Wd} {k : Nat} (h : Lib.index (b.take 400) crlf2 = k) : pcut b = (b.take k, (b.take 400).drop (k + 4), true) ∧ k + 4 ≤ b.length ∧ k + 4 ≤ 400 := by
  have hr := Lib.index_room (b.take 400) crlf2 (by omega)
  rw [h, List.length_take] at hr
  have hl : crlf2.length = 4 := rfl
  refine ⟨?_, by omega, by omega⟩
  show Lib.cut (b.take 400) crlf2 = _
  rw [cut_hit h, List.take_take]
  congr 2
  omega
set_option maxRecDepth 100000 in
set_option maxHeartbeats 8000000 in
theorem con_rparts (b : Wd) (hb : b.length ≤ 16777216) : Con Tryz.prog D 76 [.sl 1 (b.map byteRow)] ⟨partsA (partsR b), []⟩ := by
  obtain ⟨hpne, hpl, hpw⟩ := plines_ok (b := b)
  have hok : GOk Tryz.prog D (tabG [eRpno, eRsplit, eRcut, eRprop, eRnumber]) := tabG_ok _
  have g0 := fun (e : Int) => tabG_use (T := [eRpno, eRsplit, eRcut, eRprop, eRnumber]) (E := eRpno) (i := 0) rfl (by decide) (e) (trivial)
  have g2 := fun (w : Wd) (h : w.length ≤ 400) => tabG_use (T := [eRpno, eRsplit, eRcut, eRprop, eRnumber]) (E := eRsplit) (i := 1) rfl (by decide) ((w, [13, 10])) (⟨by show w.length ≤ 16777216; omega, by show 1 ≤ ([13, 10] : Wd).length; decide, by show ([13, 10] : Wd).length ≤ 256; decide⟩)
  have g3 := fun (w : Wd) (h : w.length ≤ 400) => tabG_use (T := [eRpno, eRsplit, eRcut, eRprop, eRnumber]) (E := eRcut) (i := 2) rfl (by decide) ((w, [58, 32])) (⟨by show w.length ≤ 16777216; omega, by show 1 ≤ ([58, 32] : Wd).length; decide, by show ([58, 32] : Wd).length ≤ 256; decide⟩)
  have g5 := fun (k w : Wd) (h : w.length ≤ 400) => tabG_use (T := [eRpno, eRsplit, eRcut, eRprop, eRnumber]) (E := eRprop) (i := 3) rfl (by decide) ((k, w)) (by show w.length ≤ 8388608; omega)
  have g6 := fun (w : Wd) (h : w.length ≤ 400) => tabG_use (T := [eRpno, eRsplit, eRcut, eRprop, eRnumber]) (E := eRnumber) (i := 4) rfl (by decide) (w) (by show w.length ≤ 281474976710656; omega)
  generalize tabG [eRpno, eRsplit, eRcut, eRprop, eRnumber] = G at *
  dsimp only [eRpno] at g0
  dsimp only [eRsplit] at g2
  dsimp only [eRcut] at g3
  dsimp only [eRprop] at g5
  dsimp only [eRnumber] at g6
  have hcon : ∀ r, r = partsR b → Con Tryz.prog D 76 [.sl 1 (b.map byteRow)] ⟨partsA r, []⟩ := by
    intro r hr
    have hsl : (b.take 400).length = min 400 b.length := List.length_take
    refine conW (G := G) (rs := [(2, none), (3, none), (4, some 25), (5, none), (6, none)]) hok Tryz.func76 Tryz.results76 Tryz.ntmps76 (rqLo) fun X hP hD hG' hX => ?_
    simp only [argS, num]
    simp (disch := omega) only [go_sem, hD, hG', rqLo, unbox]
    refine Tr.loop (ι := Nat × Int) (fun x => x.1 ≤ 401 ∧ ((x.2 = -1 ∧ ∀ j, j < x.1 → Lib.occAt (b.take 400) crlf2 j = false) ∨ (0 ≤ x.2 ∧ Lib.index (b.take 400) crlf2 = x.2))) (fun x => { nt := 212, tm := [(0, .sl 1 (b.map byteRow)), (2, .str []), (3, .nils), (4, .ptr 4 0), (5, .int .i64 0), (6, .int .i64 0), (7, .func 105 []), (8, .int .i64 x.2), (9, .int .i64 x.1)], bl := [(4, some (.cells [.nils, .nils]))] }) (fun x => 402 - x.1) (0, -1)
      ⟨⟨by simp only; omega, .inl ⟨rfl, fun j h => absurd h (Nat.not_lt_zero j)⟩⟩, wk_of hD [(4, 4)] rfl rfl (by simp only [go_sem]; simp) (by simp only [go_sem])⟩ ?_
    rintro ⟨i, e⟩ ⟨hi, hinv⟩
    simp only at hi hinv
    refine evC_sound hX rqLo _ _ _ ?_
    simp (disch := omega) only [go_sem, hD, hG', rqLo, unbox]
    refine RegT.mk [] ?_
    simp (disch := omega) only [go_sem, hD, hG', rqLo, unbox]
    have key : (if (if (i : Int) + 4 ≤ (b.length : Int) then decide ((i : Int) + 4 ≤ 400) else false) = true then decide (e < 0) else false) = decide ((i : Int) + 4 ≤ (b.length : Int) ∧ (i : Int) + 4 ≤ 400 ∧ e < 0) := by
      by_cases h1 : (i : Int) + 4 ≤ (b.length : Int) <;> by_cases h2 : (i : Int) + 4 ≤ 400 <;> by_cases h3 : e < 0 <;> simp [h1, h2, h3]
    rw [key]
    have hcl : crlf2.length = 4 := rfl
    refine condK_split (fun h => ?_) (fun h => ?_)
    · obtain ⟨h1, h2, h3⟩ := of_decide_eq_true h
      have hnot : e = -1 ∧ ∀ j, j < i → Lib.occAt (b.take 400) crlf2 j = false := by
        rcases hinv with h | h
        · exact h
        · omega
      obtain ⟨rfl, hnot⟩ := hnot
      have ho := occ_slice (s := b.take 400) (sub := crlf2) (i := i) (by rw [hsl, hcl]; omega)
      rw [List.take_take, hcl, show min (i + 4) 400 = i + 4 by omega] at ho
      have e1 : (i : Int).toNat = i := Int.toNat_natCast i
      have e2 : ((i : Int) + 4).toNat = i + 4 := by omega
      cases hp : Lib.occAt (b.take 400) crlf2 i
      · rw [hp, crlf2] at ho
        simp (disch := omega) only [go_sem, hD, hG', rqLo, e1, e2, ho, unbox]
        (repeat (with_reducible refine And.intro (by first | omega | decide | (simp; done) | (simp only [List.length_append, List.length_cons, List.length_nil, List.length_map]; omega)) ?_))
        refine ⟨(i + 1, -1), ⟨⟨by simp only; omega, .inl ⟨rfl, fun j hj => ?_⟩⟩, by simp only; omega⟩, wk_of hD [(4, 4)] rfl rfl ?_ ?_⟩
        · by_cases hji : j = i
          · rw [hji]; exact hp
          · exact hnot j (by simp only at hj; omega)
        all_goals simp only [go_sem]
        simp
      · have hx := index_here (s := b.take 400) (sub := crlf2) (k := i) (by rw [hsl]; omega) hp hnot
        rw [hp, crlf2] at ho
        simp (disch := omega) only [go_sem, hD, hG', rqLo, e1, e2, ho, unbox]
        (repeat (with_reducible refine And.intro (by first | omega | decide | (simp; done) | (simp only [List.length_append, List.length_cons, List.length_nil, List.length_map]; omega)) ?_))
        refine ⟨(i + 1, (i : Int)), ⟨⟨by simp only; omega, .inr ⟨by simp only; omega, hx⟩⟩, by simp only; omega⟩, wk_of hD [(4, 4)] rfl rfl ?_ ?_⟩
        all_goals simp only [go_sem]
        simp
    have h := of_decide_eq_false h
    clear key
    rcases hinv with ⟨rfl, hnot⟩ | ⟨he, hx⟩
    · have hg := index_gone (s := b.take 400) (sub := crlf2) (k := i) (by decide) (by rw [hsl, hcl]; omega) hnot
      have hpc : (pcut b).2.2 = false := by
        show (Lib.cut (b.take 400) crlf2).2.2 = false
        rw [cut_miss hg]
      have hinv := hr
      unfold partsR at hinv
      rw [if_pos hpc] at hinv
      by_cases h4 : b.length < 400
      · have d4 : decide ((b.length : Int) < 400) = true := by simp; omega
        rw [if_pos h4] at hinv
        subst hinv
        simp only [partsA, partsE, noParts, noteA, note0, List.map_nil]
        iterate 3 ((try (refine RegT.mk [] ?_)); (try (simp (disch := omega) only [go_sem, hD, hG', rqLo, g0, strRow, List.take_length, d4, Int.reduceLT, unbox])); (repeat (with_reducible refine And.intro (by first | omega | decide | (simp; done) | (simp only [List.length_append, List.length_cons, List.length_nil, List.length_map]; omega)) ?_)))
        refine endW [] [] (by simp) rfl rfl rfl ?_ ?_ <;> simp only [go_sem]
      · have d4 : decide ((b.length : Int) < 400) = false := by simp; omega
        rw [if_neg h4] at hinv
        subst hinv
        simp only [partsA, partsE, noParts, noteA, note0, List.map_nil]
        iterate 3 ((try (refine RegT.mk [] ?_)); (try (simp (disch := omega) only [go_sem, hD, hG', rqLo, g0, strRow, List.take_length, d4, Int.reduceLT, unbox])); (repeat (with_reducible refine And.intro (by first | omega | decide | (simp; done) | (simp only [List.length_append, List.length_cons, List.length_nil, List.length_map]; omega)) ?_)))
        refine endW [] [] (by simp) rfl rfl rfl ?_ ?_ <;> simp only [go_sem]
    obtain ⟨k, rfl⟩ : ∃ k : Nat, e = k := ⟨e.toNat, by omega⟩
    obtain ⟨hpc, hk1, hk2⟩ := pcut_hit hx
    have hpl0 : plines b = Lib.split (b.take k) [13, 10] := by unfold plines; rw [hpc]
    have hinv := hr
    unfold partsR at hinv
    rw [hpc, if_neg (by simp)] at hinv
    have hkl : (b.take k).length = k := by rw [List.length_take]; omega
    simp only [hkl] at hinv
    have g2 := g2 (b.take k) (by omega)
    rw [← hpl0] at g2
    clear hr hpc hpl0 hx h
    have dk : decide ((k : Int) < 0) = false := by simp
    have ek : (k : Int).toNat = k := Int.toNat_natCast k
    generalize plines b = ls at *
    cases ls with
    | nil => exact absurd rfl hpne
    | cons w rest =>
    simp only [List.getD_cons_zero, List.tail_cons] at hinv
    have hrl : rest.length ≤ 400 := by simp at hpl; omega
    have hdr : List.drop (1 : Int).toNat (List.take ((((strRow w :: rest.map strRow).length : Nat) : Int)).toNat (strRow w :: rest.map strRow)) = rest.map strRow := by
      rw [Int.toNat_natCast, List.take_length]
      rfl
    rw [List.map_cons] at g2
    simp (disch := omega) only [go_sem, hD, hG', rqLo, dk, unbox]
    (repeat (with_reducible refine And.intro (by first | omega | decide | (simp; done) | (simp only [List.length_append, List.length_cons, List.length_nil, List.length_map]; omega)) ?_))
    refine RegT.mk [] ?_
    simp (disch := omega) only [go_sem, hD, hG', rqLo, dk, ek, g2, hdr, unbox]
    (repeat (with_reducible refine And.intro (by first | omega | decide | (simp; done) | (simp only [List.length_append, List.length_cons, List.length_nil, List.length_map]; omega)) ?_))
    refine Tr.loop (ι := Nat × List LProp × List Wd × Int) (fun x => x.1 ≤ rest.length ∧ x.2.1.length ≤ x.1 ∧ x.2.2.1.length ≤ x.1 ∧ (-1 ≤ x.2.2.2 ∧ x.2.2.2 ≤ 1073741824) ∧ r = partsE b k w (headsP x.2.1 x.2.2.1 x.2.2.2 (rest.drop x.1))) (fun x => { nt := 212, tm := [(0, .sl 1 (b.map byteRow)), (2, .str []), (3, .nils), (4, .ptr 4 0), (5, .int .i64 0), (6, .int .i64 0), (7, .func 105 []), (8, .int .i64 k), (10, .ptr 10 0), (11, .os 5001), (12, .int .i64 x.2.2.2), (13, .sl 1 (strRow w :: rest.map strRow)), (76, .sl 1 (rest.map strRow)), (77, .int .i64 rest.length), (78, .int .i64 x.1)], bl := [(4, some (.cells [.nils, .nils])), (10, some (.cells [.os 5000, .nils])), (5000, some (.rows 36 4 (x.2.1.map propRow))), (5001, some (.rows 9 1 (x.2.2.1.map strRow)))] }) (fun x => rest.length - x.1) (0, [], [], -1)
      ⟨⟨Nat.zero_le _, by simp, by simp, by simp, by simpa using hinv⟩, wk_of hD [(4, 4), (10, 10)] rfl rfl (by simp only [go_sem]; simp) (by simp only [go_sem])⟩ ?_
    clear hinv
    rintro ⟨i, ps, hs, n⟩ ⟨hi, hpsl, hhsl, hn, hinv⟩
    simp only at hi hpsl hhsl hn hinv
    refine evC_sound hX rqLo _ _ _ ?_
    simp (disch := omega) only [go_sem, hD, hG', rqLo, unbox]
    refine condK_split (fun h => ?_) (fun h => ?_)
    · rw [decide_eq_true_eq] at h
      have hi1 : i < rest.length := by omega
      have hgx := strGet hi1
      have hd2 : rest.drop i = rest.getD i [] :: rest.drop (i + 1) := by
        rw [List.drop_eq_getElem_cons hi1]
        simp [hi1]
      have hwl : (rest.getD i []).length ≤ 400 := hpw _ (List.mem_cons_of_mem _ (getD_in (d := []) hi1))
      rw [hd2, headsP] at hinv
      generalize rest.getD i [] = x at *
      have g3 := g3 x hwl
      have hcl1 := cut_len x [58, 32]
      generalize Lib.cut x [58, 32] = cx at *
      obtain ⟨kk, v, ok⟩ := cx
      simp only at g3 hinv hcl1
      have g5 := g5 (kk.drop 2) v (by omega)
      have g6 := g6 v (by omega)
      have hnr := numberS_range v
      have hot := Lib.hasPrefix_of_take kk [112, 45]
      have htd : Lib.hasPrefix kk [112, 45] = true → Lib.trimPrefix kk [112, 45] = kk.drop 2 := fun h => by
        unfold Lib.trimPrefix
        rw [if_pos h]
        rfl
      have h2l : ([112, 45] : Wd).length = 2 := rfl
      rw [h2l] at hot
      have z2 : (2 : Int).toNat = 2 := rfl
      obtain ⟨hq1, hq2⟩ := rprop_same (kk.drop 2) v
      simp only [strRow] at hgx
      generalize rpropW (kk.drop 2) v = rp at *
      obtain ⟨⟨q1, q2, q3, q4⟩, qb⟩ := rp
      simp only [propRow] at g5 hq1 hq2
      cases ok
      · rw [if_pos rfl] at hinv
        subst hinv
        simp only [partsA, partsE, noParts, noteA, note0, List.map_nil]
        iterate 3 ((try (refine RegT.mk [] ?_)); (try (simp (disch := omega) only [go_sem, hD, hG', rqLo, g0, strRow, List.take_length, hgx, g3, unbox])); (repeat (with_reducible refine And.intro (by first | omega | decide | (simp; done) | (simp only [List.length_append, List.length_cons, List.length_nil, List.length_map]; omega)) ?_)))
        refine endW [] [] (by simp) rfl rfl rfl ?_ ?_ <;> simp only [go_sem]
      rw [if_neg (by simp)] at hinv
      cases bk : Lib.hasPrefix kk [112, 45]
      · rw [bk] at hinv hot
        rw [if_neg (by simp)] at hinv
        generalize numberS v = nv at *
        obtain ⟨nn, nb⟩ := nv
        simp only at g6 hinv hnr
        by_cases hc : 2 ≤ kk.length
        · have dc : decide ((kk.length : Int) ≥ 2) = true := by simp; omega
          rw [decide_eq_true hc, Bool.true_and] at hot
          by_cases hk : kk = clenN
          · have dk : (!(kk == [99, 111, 110, 116, 101, 110, 116, 45, 108, 101, 110, 103, 116, 104])) = false := by rw [hk]; rfl
            rw [if_pos hk] at hinv
            cases nb
            · rw [if_pos (by simp)] at hinv
              simp (disch := omega) only [go_sem, hD, hG', rqLo, hgx, g3, z2, dc, unbox]
              (repeat (with_reducible refine And.intro (by first | omega | decide | (simp; done) | (simp only [List.length_append, List.length_cons, List.length_nil, List.length_map]; omega)) ?_))
              refine RegT.mk [] ?_
              simp (disch := omega) only [go_sem, hD, hG', rqLo, dc, hot, dk, g6, g0, List.take_length, unbox]
              (repeat (with_reducible refine And.intro (by first | omega | decide | (simp; done) | (simp only [List.length_append, List.length_cons, List.length_nil, List.length_map]; omega)) ?_))
              refine RegT.mk [] ?_
              simp (disch := omega) only [go_sem, hD, hG', g0, rqLo, unbox]
              (repeat (with_reducible refine And.intro (by first | omega | decide | (simp; done) | (simp only [List.length_append, List.length_cons, List.length_nil, List.length_map]; omega)) ?_))
              subst hinv
              simp only [partsA, partsE, noParts, noteA, note0, List.map_nil]
              refine endW [] [] (by simp) rfl rfl rfl ?_ ?_ <;> simp only [go_sem]
            · have hnr := hnr rfl
              by_cases hnn : nn < 0 ∨ 0 ≤ n
              · rw [if_pos (.inr hnn)] at hinv
                have dn : (if nn < 0 then true else decide (n ≥ 0)) = true := by
                  split
                  · rfl
                  · rename_i hq
                    exact decide_eq_true (hnn.resolve_left hq)
                simp (disch := omega) only [go_sem, hD, hG', rqLo, hgx, g3, z2, dc, unbox]
                (repeat (with_reducible refine And.intro (by first | omega | decide | (simp; done) | (simp only [List.length_append, List.length_cons, List.length_nil, List.length_map]; omega)) ?_))
                refine RegT.mk [] ?_
                simp (disch := omega) only [go_sem, hD, hG', rqLo, dc, hot, dk, g6, g0, List.take_length, unbox]
                (repeat (with_reducible refine And.intro (by first | omega | decide | (simp; done) | (simp only [List.length_append, List.length_cons, List.length_nil, List.length_map]; omega)) ?_))
                refine RegT.mk [] ?_
                simp (disch := omega) only [go_sem, hD, hG', dn, g0, rqLo, unbox]
                (repeat (with_reducible refine And.intro (by first | omega | decide | (simp; done) | (simp only [List.length_append, List.length_cons, List.length_nil, List.length_map]; omega)) ?_))
                subst hinv
                simp only [partsA, partsE, noParts, noteA, note0, List.map_nil]
                refine endW [] [] (by simp) rfl rfl rfl ?_ ?_ <;> simp only [go_sem]
              · rw [if_neg (fun h => h.elim (fun h => by cases h) hnn)] at hinv
                have dn : (if nn < 0 then true else decide (n ≥ 0)) = false := by
                  split
                  · rename_i hq
                    exact absurd (.inl hq) hnn
                  · exact decide_eq_false fun hq => hnn (.inr hq)
                simp (disch := omega) only [go_sem, hD, hG', rqLo, hgx, g3, z2, dc, unbox]
                (repeat (with_reducible refine And.intro (by first | omega | decide | (simp; done) | (simp only [List.length_append, List.length_cons, List.length_nil, List.length_map]; omega)) ?_))
                refine RegT.mk [] ?_
                simp (disch := omega) only [go_sem, hD, hG', rqLo, dc, hot, dk, g6, g0, List.take_length, unbox]
                (repeat (with_reducible refine And.intro (by first | omega | decide | (simp; done) | (simp only [List.length_append, List.length_cons, List.length_nil, List.length_map]; omega)) ?_))
                refine RegT.mk [] ?_
                simp (disch := omega) only [go_sem, hD, hG', dn, g0, rqLo, unbox]
                (repeat (with_reducible refine And.intro (by first | omega | decide | (simp; done) | (simp only [List.length_append, List.length_cons, List.length_nil, List.length_map]; omega)) ?_))
                refine ⟨(i + 1, ps, hs, nn), ⟨⟨by omega, by simp only; omega, by simp only; omega, by simp only; omega, hinv⟩, by simp only; omega⟩, wk_of hD [(4, 4), (10, 10), (5000, 5000), (5001, 5001)] rfl rfl ?_ ?_⟩ <;> simp only [go_sem]
                simp
          · have dk : (!(kk == [99, 111, 110, 116, 101, 110, 116, 45, 108, 101, 110, 103, 116, 104])) = true := by rw [Bool.not_eq_true', beq_eq_false_iff_ne]; exact hk
            rw [if_neg hk] at hinv
            simp (disch := omega) only [go_sem, hD, hG', rqLo, hgx, g3, z2, dc, unbox]
            (repeat (with_reducible refine And.intro (by first | omega | decide | (simp; done) | (simp only [List.length_append, List.length_cons, List.length_nil, List.length_map]; omega)) ?_))
            refine RegT.mk [] ?_
            simp (disch := omega) only [go_sem, hD, hG', rqLo, dc, hot, dk, g6, g0, List.take_length, unbox]
            (repeat (with_reducible refine And.intro (by first | omega | decide | (simp; done) | (simp only [List.length_append, List.length_cons, List.length_nil, List.length_map]; omega)) ?_))
            refine ⟨(i + 1, ps, hs ++ [x], n), ⟨⟨by omega, by simp only; omega, by simp only [List.length_append, List.length_cons, List.length_nil]; omega, hn, hinv⟩, by simp only; omega⟩, wk_of hD [(4, 4), (10, 10), (5000, 5000), (5001, 132)] rfl rfl ?_ ?_⟩ <;> simp only [go_sem]
            · simp
            · simp [strRow]
        · have dc : decide ((kk.length : Int) ≥ 2) = false := by simp; omega
          by_cases hk : kk = clenN
          · have dk : (!(kk == [99, 111, 110, 116, 101, 110, 116, 45, 108, 101, 110, 103, 116, 104])) = false := by rw [hk]; rfl
            rw [if_pos hk] at hinv
            cases nb
            · rw [if_pos (by simp)] at hinv
              simp (disch := omega) only [go_sem, hD, hG', rqLo, hgx, g3, z2, dc, unbox]
              (repeat (with_reducible refine And.intro (by first | omega | decide | (simp; done) | (simp only [List.length_append, List.length_cons, List.length_nil, List.length_map]; omega)) ?_))
              refine RegT.mk [(3, true)] ?_
              simp (disch := omega) only [go_sem, hD, hG', rqLo, dc, dk, g6, g0, List.take_length, unbox]
              (repeat (with_reducible refine And.intro (by first | omega | decide | (simp; done) | (simp only [List.length_append, List.length_cons, List.length_nil, List.length_map]; omega)) ?_))
              refine RegT.mk [] ?_
              simp (disch := omega) only [go_sem, hD, hG', g0, rqLo, unbox]
              (repeat (with_reducible refine And.intro (by first | omega | decide | (simp; done) | (simp only [List.length_append, List.length_cons, List.length_nil, List.length_map]; omega)) ?_))
              subst hinv
              simp only [partsA, partsE, noParts, noteA, note0, List.map_nil]
              refine endW [] [] (by simp) rfl rfl rfl ?_ ?_ <;> simp only [go_sem]
            · have hnr := hnr rfl
              by_cases hnn : nn < 0 ∨ 0 ≤ n
              · rw [if_pos (.inr hnn)] at hinv
                have dn : (if nn < 0 then true else decide (n ≥ 0)) = true := by
                  split
                  · rfl
                  · rename_i hq
                    exact decide_eq_true (hnn.resolve_left hq)
                simp (disch := omega) only [go_sem, hD, hG', rqLo, hgx, g3, z2, dc, unbox]
                (repeat (with_reducible refine And.intro (by first | omega | decide | (simp; done) | (simp only [List.length_append, List.length_cons, List.length_nil, List.length_map]; omega)) ?_))
                refine RegT.mk [(3, true)] ?_
                simp (disch := omega) only [go_sem, hD, hG', rqLo, dc, dk, g6, g0, List.take_length, unbox]
                (repeat (with_reducible refine And.intro (by first | omega | decide | (simp; done) | (simp only [List.length_append, List.length_cons, List.length_nil, List.length_map]; omega)) ?_))
                refine RegT.mk [] ?_
                simp (disch := omega) only [go_sem, hD, hG', dn, g0, rqLo, unbox]
                (repeat (with_reducible refine And.intro (by first | omega | decide | (simp; done) | (simp only [List.length_append, List.length_cons, List.length_nil, List.length_map]; omega)) ?_))
                subst hinv
                simp only [partsA, partsE, noParts, noteA, note0, List.map_nil]
                refine endW [] [] (by simp) rfl rfl rfl ?_ ?_ <;> simp only [go_sem]
              · rw [if_neg (fun h => h.elim (fun h => by cases h) hnn)] at hinv
                have dn : (if nn < 0 then true else decide (n ≥ 0)) = false := by
                  split
                  · rename_i hq
                    exact absurd (.inl hq) hnn
                  · exact decide_eq_false fun hq => hnn (.inr hq)
                simp (disch := omega) only [go_sem, hD, hG', rqLo, hgx, g3, z2, dc, unbox]
                (repeat (with_reducible refine And.intro (by first | omega | decide | (simp; done) | (simp only [List.length_append, List.length_cons, List.length_nil, List.length_map]; omega)) ?_))
                refine RegT.mk [(3, true)] ?_
                simp (disch := omega) only [go_sem, hD, hG', rqLo, dc, dk, g6, g0, List.take_length, unbox]
                (repeat (with_reducible refine And.intro (by first | omega | decide | (simp; done) | (simp only [List.length_append, List.length_cons, List.length_nil, List.length_map]; omega)) ?_))
                refine RegT.mk [] ?_
                simp (disch := omega) only [go_sem, hD, hG', dn, g0, rqLo, unbox]
                (repeat (with_reducible refine And.intro (by first | omega | decide | (simp; done) | (simp only [List.length_append, List.length_cons, List.length_nil, List.length_map]; omega)) ?_))
                refine ⟨(i + 1, ps, hs, nn), ⟨⟨by omega, by simp only; omega, by simp only; omega, by simp only; omega, hinv⟩, by simp only; omega⟩, wk_of hD [(4, 4), (10, 10), (5000, 5000), (5001, 5001)] rfl rfl ?_ ?_⟩ <;> simp only [go_sem]
                simp
          · have dk : (!(kk == [99, 111, 110, 116, 101, 110, 116, 45, 108, 101, 110, 103, 116, 104])) = true := by rw [Bool.not_eq_true', beq_eq_false_iff_ne]; exact hk
            rw [if_neg hk] at hinv
            simp (disch := omega) only [go_sem, hD, hG', rqLo, hgx, g3, z2, dc, unbox]
            (repeat (with_reducible refine And.intro (by first | omega | decide | (simp; done) | (simp only [List.length_append, List.length_cons, List.length_nil, List.length_map]; omega)) ?_))
            refine RegT.mk [(3, true)] ?_
            simp (disch := omega) only [go_sem, hD, hG', rqLo, dc, dk, g6, g0, List.take_length, unbox]
            (repeat (with_reducible refine And.intro (by first | omega | decide | (simp; done) | (simp only [List.length_append, List.length_cons, List.length_nil, List.length_map]; omega)) ?_))
            refine ⟨(i + 1, ps, hs ++ [x], n), ⟨⟨by omega, by simp only; omega, by simp only [List.length_append, List.length_cons, List.length_nil]; omega, hn, hinv⟩, by simp only; omega⟩, wk_of hD [(4, 4), (10, 10), (5000, 5000), (5001, 132)] rfl rfl ?_ ?_⟩ <;> simp only [go_sem]
            · simp
            · simp [strRow]
      · rw [bk] at hinv hot
        rw [if_pos rfl, htd bk] at hinv
        have hc : 2 ≤ kk.length := by
          by_cases hc : 2 ≤ kk.length
          · exact hc
          · rw [decide_eq_false hc] at hot; cases hot
        have dc : decide ((kk.length : Int) ≥ 2) = true := by simp; omega
        rw [decide_eq_true hc, Bool.true_and] at hot
        cases qb
        · rw [← hq1, if_pos rfl] at hinv
          subst hinv
          simp only [partsA, partsE, noParts, noteA, note0, List.map_nil]
          iterate 3 ((try (refine RegT.mk [] ?_)); (try (simp (disch := omega) only [go_sem, hD, hG', rqLo, g0, strRow, List.take_length, hgx, g3, dc, hot, z2, g5, unbox])); (repeat (with_reducible refine And.intro (by first | omega | decide | (simp; done) | (simp only [List.length_append, List.length_cons, List.length_nil, List.length_map]; omega)) ?_)))
          refine endW [] [] (by simp) rfl rfl rfl ?_ ?_ <;> simp only [go_sem]
        · have hq2 := hq2 hq1.symm
          rw [← hq1, if_neg (by simp), ← hq2] at hinv
          simp (disch := omega) only [go_sem, hD, hG', rqLo, hgx, g3, z2, unbox]
          (repeat (with_reducible refine And.intro (by first | omega | decide | (simp; done) | (simp only [List.length_append, List.length_cons, List.length_nil, List.length_map]; omega)) ?_))
          refine RegT.mk [] ?_
          simp (disch := omega) only [go_sem, hD, hG', rqLo, dc, hot, z2, g5, List.take_length, unbox]
          (repeat (with_reducible refine And.intro (by first | omega | decide | (simp; done) | (simp only [List.length_append, List.length_cons, List.length_nil, List.length_map]; omega)) ?_))
          refine ⟨(i + 1, ps ++ [⟨q1, q2, q3, q4⟩], hs, n), ⟨⟨by omega, by simp only [List.length_append, List.length_cons, List.length_nil]; omega, by simp only; omega, hn, hinv⟩, by simp only; omega⟩, wk_of hD [(4, 4), (10, 10), (5000, 125), (5001, 5001)] rfl rfl ?_ ?_⟩ <;> simp only [go_sem]
          · simp
          · simp [propRow]
    · rw [decide_eq_false_iff_not] at h
      have hie : rest.drop i = [] := List.drop_eq_nil_of_le (by omega)
      rw [hie, headsP] at hinv
      simp only [partsE] at hinv
      by_cases h1 : n < 0
      · have d1 : decide (n < 0) = true := by simp [h1]
        rw [if_pos h1] at hinv
        subst hinv
        simp only [partsA, partsE, noParts, noteA, note0, List.map_nil]
        iterate 3 ((try (refine RegT.mk [] ?_)); (try (simp (disch := omega) only [go_sem, hD, hG', rqLo, g0, strRow, List.take_length, d1, unbox])); (repeat (with_reducible refine And.intro (by first | omega | decide | (simp; done) | (simp only [List.length_append, List.length_cons, List.length_nil, List.length_map]; omega)) ?_)))
        refine endW [] [] (by simp) rfl rfl rfl ?_ ?_ <;> simp only [go_sem]
      have d1 : decide (n < 0) = false := by simp [h1]
      rw [if_neg h1] at hinv
      by_cases h2 : 400 < (k : Int) + 4 + n
      · have d2 : decide ((k : Int) + 4 + n > 400) = true := by simp; omega
        rw [if_pos h2] at hinv
        subst hinv
        simp only [partsA, partsE, noParts, noteA, note0, List.map_nil]
        iterate 3 ((try (refine RegT.mk [] ?_)); (try (simp (disch := omega) only [go_sem, hD, hG', rqLo, g0, strRow, List.take_length, d1, d2, unbox])); (repeat (with_reducible refine And.intro (by first | omega | decide | (simp; done) | (simp only [List.length_append, List.length_cons, List.length_nil, List.length_map]; omega)) ?_)))
        refine endW [] [] (by simp) rfl rfl rfl ?_ ?_ <;> simp only [go_sem]
      have d2 : decide ((k : Int) + 4 + n > 400) = false := by simp; omega
      rw [if_neg h2] at hinv
      by_cases h3 : (b.length : Int) < (k : Int) + 4 + n
      · have d3 : decide ((k : Int) + 4 + n > (b.length : Int)) = true := by simp; omega
        rw [if_pos h3] at hinv
        subst hinv
        simp only [partsA, partsE, noParts, noteA, note0, List.map_nil]
        iterate 3 ((try (refine RegT.mk [] ?_)); (try (simp (disch := omega) only [go_sem, hD, hG', rqLo, g0, strRow, List.take_length, d1, d2, d3, unbox])); (repeat (with_reducible refine And.intro (by first | omega | decide | (simp; done) | (simp only [List.length_append, List.length_cons, List.length_nil, List.length_map]; omega)) ?_)))
        refine endW [] [] (by simp) rfl rfl rfl ?_ ?_ <;> simp only [go_sem]
      have d3 : decide ((k : Int) + 4 + n > (b.length : Int)) = false := by simp; omega
      rw [if_neg h3] at hinv
      have hbody : List.drop ((k : Int) + 4).toNat (List.take ((k : Int) + 4 + n).toNat b) = (b.take ((k : Int) + 4 + n).toNat).drop (k + 4) := by
        rw [show ((k : Int) + 4).toNat = k + 4 by omega]
      have hbl : ((b.take ((k : Int) + 4 + n).toNat).drop (k + 4)).length ≤ 16777216 := by rw [List.length_drop, List.length_take]; omega
      generalize (b.take ((k : Int) + 4 + n).toNat).drop (k + 4) = bd at *
      subst hinv
      simp only [partsA, noteA]
      simp (disch := omega) only [go_sem, hD, hG', rqLo, d1, d2, d3, hbody, strRow, unbox]
      (repeat (with_reducible refine And.intro (by first | omega | decide | (simp; done) | (simp only [List.length_append, List.length_cons, List.length_nil, List.length_map]; omega)) ?_))
      refine endW [5000, 5001, 201] [] (by simp) rfl rfl rfl ?_ ?_ <;> simp only [go_sem]
  exact hcon _ rfl
def eRparts : Ent Tryz.prog D := ⟨76, Wd, fun b => [.sl 1 (b.map byteRow)], fun b => b.length ≤ 16777216, fun b => ⟨partsA (partsR b), []⟩, fun x y _ _ h => by
  simp only [List.cons.injEq, AV.sl.injEq, true_and, and_true] at h
  rw [bytes_inj h], con_rparts⟩
end Go.Proofs.YtmlejhpeoiicpaaGreatDoor.Ab
namespace Go.Proofs.YtmlejhpeoiicpaaGreatDoor.Ab
open Go Go.RowKit
set_option linter.unusedVariables false
set_option linter.unusedSimpArgs false

theorem con_rpano (e : Int) : Con Tryz.prog D 75 [.int .i64 e] ⟨.tup [.agg [.int .i64 0, .str [], .int .i64 0, .nils, .nils], .int .i64 0, .int .i64 e], []⟩ := by
  have hok : GOk Tryz.prog D (tabG []) := tabG_ok _
  generalize tabG [] = G at *
  refine conW (G := G) (rs := [(2, some 27), (3, none), (4, none)]) hok Tryz.func75 Tryz.results75 Tryz.ntmps75 (fun _ => {}) fun X hP hD hG' hX => ?_
  simp only [argS, num]
  simp (disch := omega) only [go_sem, hD, hG', unbox]
  refine endW [] [] (by simp) rfl rfl rfl ?_ ?_ <;> simp only [go_sem]
def eRpano : Ent Tryz.prog D := ⟨75, Int, fun e => [.int .i64 e], fun _ => True, fun e => ⟨.tup [.agg [.int .i64 0, .str [], .int .i64 0, .nils, .nils], .int .i64 0, .int .i64 e], []⟩, fun x y _ _ h => by
  simp only [List.cons.injEq, AV.int.injEq, true_and, and_true] at h
  rw [h], fun e _ => con_rpano e⟩
theorem asked_kind (m p : Wd) (h : (askedS m p).2 = true) : 0 < (askedS m p).1.kind := by
  have hl : ∀ l : List Wd, (askedL m l).2 = true → 0 < (askedL m l).1.kind := fun l h => by
    match l with
    | [] => cases h
    | [_] => cases h
    | [_, _] => cases h
    | [a, b, c] =>
      simp only [askedL] at h ⊢
      split at h
      · rename_i h1; rw [if_pos h1]; exact of_decide_eq_true h
      · rename_i h1
        rw [if_neg h1]
        split at h
        · rename_i h2; rw [if_pos h2]; exact of_decide_eq_true h
        · cases h
    | [a, b, c, d] =>
      simp only [askedL] at h ⊢
      split at h
      · rename_i h1
        rw [if_pos h1]
        split at h
        · rename_i h2; rw [if_pos h2]; show (0 : Int) < 9; decide
        · rename_i h2
          rw [if_neg h2]
          split at h
          · rename_i h3; rw [if_pos h3]; exact of_decide_eq_true h
          · cases h
      · cases h
    | _ :: _ :: _ :: _ :: _ :: _ => cases h
  unfold askedS at h ⊢
  split at h
  · rename_i h1; rw [if_pos h1]; show (0 : Int) < 1; decide
  · rename_i h1; rw [if_neg h1]; exact hl _ h
def raLo : Nat → Lo := fun id => match id with | 8 => {uo := [8], un := [12], ex := [7]} | _ => {}
set_option maxRecDepth 100000 in
set_option maxHeartbeats 4000000 in
theorem con_rpageask (b : Wd) (hb : b.length ≤ 16777216) : Con Tryz.prog D 35 [.sl 1 (b.map byteRow)] ⟨.tup [askA (waskR b).1, .int .i64 (waskR b).2.1, .int .i64 (waskR b).2.2], []⟩ := by
  have hfit := parts_fit b
  have hok : GOk Tryz.prog D (tabG [eRparts, eRsplit, eRaskof, eRwrongF, eRpano]) := tabG_ok _
  have g1 := tabG_use (T := [eRparts, eRsplit, eRaskof, eRwrongF, eRpano]) (E := eRparts) (i := 0) rfl (by decide) (b) (hb)
  have g0 := fun (e : Int) => tabG_use (T := [eRparts, eRsplit, eRaskof, eRwrongF, eRpano]) (E := eRpano) (i := 4) rfl (by decide) (e) (trivial)
  have g2 := fun (w : Wd) (h : w.length ≤ 400) => tabG_use (T := [eRparts, eRsplit, eRaskof, eRwrongF, eRpano]) (E := eRsplit) (i := 1) rfl (by decide) ((w, [32])) (⟨by show w.length ≤ 16777216; omega, by show 1 ≤ ([32] : Wd).length; decide, by show ([32] : Wd).length ≤ 256; decide⟩)
  have g3 := fun (m p : Wd) (h1 : m.length ≤ 400) (h2 : p.length ≤ 400) => tabG_use (T := [eRparts, eRsplit, eRaskof, eRwrongF, eRpano]) (E := eRaskof) (i := 2) rfl (by decide) ((m, p)) (⟨by show m.length ≤ 1000; omega, by show p.length ≤ 999; omega⟩)
  have g4 := fun (a : LAsk) (h : a.Fits) => tabG_use (T := [eRparts, eRsplit, eRaskof, eRwrongF, eRpano]) (E := eRwrongF) (i := 3) rfl (by decide) ((a, false)) (⟨h, fun h => (by cases h)⟩)
  generalize tabG [eRparts, eRsplit, eRaskof, eRwrongF, eRpano] = G at *
  dsimp only [eRparts] at g1
  dsimp only [eRpano] at g0
  dsimp only [eRsplit] at g2
  dsimp only [eRaskof] at g3
  dsimp only [eRwrongF] at g4
  unfold waskR
  generalize partsR b = x at *
  obtain ⟨f, hs, ⟨ps, bs⟩, all, err⟩ := x
  obtain ⟨hf1, hf2, hf3, hf4⟩ := hfit
  simp only at hf1 hf2 hf3 hf4
  have g2 := g2 f hf2
  have hsp := splitK_word [32] (Lib.count f [32]) f
  have hsp : ∀ w ∈ Lib.split f [32], w.length ≤ 400 := fun w hw => by
    have := hsp w hw
    omega
  simp only [partsA, noteA] at g1
  have hcon : ∀ r, r = waskE ⟨f, hs, ⟨ps, bs⟩, all, err⟩ → Con Tryz.prog D 35 [.sl 1 (b.map byteRow)] ⟨.tup [askA r.1, .int .i64 r.2.1, .int .i64 r.2.2], []⟩ := by
    intro r hr
    simp only [waskE] at hr
    generalize Lib.split f [32] = l at *
    refine conW (G := G) (rs := [(2, some 27), (3, none), (4, none)]) hok Tryz.func35 Tryz.results35 Tryz.ntmps35 (raLo) fun X hP hD hG' hX => ?_
    simp only [argS, num]
    by_cases he : err = 0
    · have de : (err != 0) = false := by simp [he]
      rw [if_neg (by simpa using he)] at hr
      by_cases h3 : l.length = 3
      · match l, h3, hsp, hr with
        | [m, p, v], _, hsp, hr =>
        have g3 := g3 m p (hsp m (by simp)) (hsp p (by simp))
        have n3 : ((3 : Nat) : Int) = 3 := rfl
        have n0 : ((0 : Nat) : Int) = 0 := rfl
        have z0 : (0 : Int).toNat = 0 := rfl
        have z1 : (1 : Int).toNat = 1 := rfl
        have z2 : (2 : Int).toNat = 2 := rfl
        by_cases hv : v = httpW
        · have dv : (v == [72, 84, 84, 80, 47, 49, 46, 49]) = true := by rw [hv]; rfl
          cases hs with
          | cons h t =>
            have hw : waskW (h :: t) ⟨ps, bs⟩ [m, p, v] = (lask0, 2) := by rw [waskW, if_neg (fun h => by cases h.2)]
            rw [hw, if_pos (by simp)] at hr
            subst hr
            have d0 : decide (((t.length + 1 : Nat) : Int) > 0) = true := by simp only [decide_eq_true_eq]; omega
            simp only [askA, lask0, note0, List.map_nil]
            simp (disch := omega) only [go_sem, hD, hG', g1, g2, de, raLo, strRow, n3, z0, z1, z2, unbox]
            (repeat (with_reducible refine And.intro (by first | omega | decide | (simp; done) | (simp only [List.length_append, List.length_cons, List.length_nil, List.length_map]; omega)) ?_))
            refine RegT.mk [] ?_
            simp (disch := omega) only [go_sem, hD, hG', n3, dv, d0, g0, raLo, unbox]
            (repeat (with_reducible refine And.intro (by first | omega | decide | (simp; done) | (simp only [List.length_append, List.length_cons, List.length_nil, List.length_map]; omega)) ?_))
            refine endW [] [] (by simp) rfl rfl rfl ?_ ?_ <;> simp only [go_sem]
          | nil =>
            have hw : waskW [] ⟨ps, bs⟩ [m, p, v] = if (askedS m p).2 = true then (⟨(askedS m p).1.kind, (askedS m p).1.queue, (askedS m p).1.n, ⟨ps, bs⟩⟩, wrongAskS ⟨(askedS m p).1.kind, (askedS m p).1.queue, (askedS m p).1.n, ⟨ps, bs⟩⟩) else (lask0, 1) := by rw [waskW, if_pos ⟨hv, rfl⟩]
            rw [hw] at hr
            clear hw
            have hql := askedS_len m p
            have hpl := hsp p (by simp)
            have hkd := asked_kind m p
            unfold raskW at g3
            generalize askedS m p = y at *
            obtain ⟨⟨k, q, n, ⟨ps', bs'⟩⟩, ok⟩ := y
            simp only at hr hql hkd
            have d0 : decide ((0 : Int) > 0) = false := rfl
            cases ok
            · simp only [Bool.false_eq_true, if_false, askA, lask0] at hr g3
              rw [if_pos (by simp)] at hr
              subst hr
              simp only [askA, lask0, note0, List.map_nil]
              simp (disch := omega) only [go_sem, hD, hG', g1, g2, de, raLo, strRow, n3, z0, z1, z2, unbox]
              (repeat (with_reducible refine And.intro (by first | omega | decide | (simp; done) | (simp only [List.length_append, List.length_cons, List.length_nil, List.length_map]; omega)) ?_))
              refine RegT.mk [] ?_
              simp (disch := omega) only [go_sem, hD, hG', n3, dv, d0, n0, g0, Int.reduceBEq, g3, strRow, z0, z1, z2, raLo, unbox]
              (repeat (with_reducible refine And.intro (by first | omega | decide | (simp; done) | (simp only [List.length_append, List.length_cons, List.length_nil, List.length_map]; omega)) ?_))
              refine endW [] [] (by simp) rfl rfl rfl ?_ ?_ <;> simp only [go_sem]
            · simp only [if_true, askA] at hr g3
              have hk0 : (k == 0) = false := by have := hkd rfl; simp; omega
              have g4 := g4 ⟨k, q, n, ⟨ps, bs⟩⟩ ⟨by show q.data.toList.length ≤ 1048576; omega, hf1⟩
              simp only [askA, waE] at g4
              generalize wrongAskS ⟨k, q, n, ⟨ps, bs⟩⟩ = wr at *
              by_cases hwr : wr = 0
              · have dw : (wr != 0) = false := by simp [hwr]
                rw [if_neg (by simp [hwr])] at hr
                subst hr
                simp only [askA]
                simp (disch := omega) only [go_sem, hD, hG', g1, g2, de, raLo, strRow, n3, z0, z1, z2, unbox]
                (repeat (with_reducible refine And.intro (by first | omega | decide | (simp; done) | (simp only [List.length_append, List.length_cons, List.length_nil, List.length_map]; omega)) ?_))
                refine RegT.mk [] ?_
                simp (disch := omega) only [go_sem, hD, hG', n3, dv, d0, n0, g0, hk0, g3, g4, dw, strRow, z0, z1, z2, raLo, unbox]
                (repeat (with_reducible refine And.intro (by first | omega | decide | (simp; done) | (simp only [List.length_append, List.length_cons, List.length_nil, List.length_map]; omega)) ?_))
                refine endW [] [] (by simp) rfl rfl rfl ?_ ?_ <;> simp only [go_sem]
              · have dw : (wr != 0) = true := by simp [hwr]
                rw [if_pos (by simpa using hwr)] at hr
                subst hr
                simp only [askA, lask0, note0, List.map_nil]
                simp (disch := omega) only [go_sem, hD, hG', g1, g2, de, raLo, strRow, n3, z0, z1, z2, unbox]
                (repeat (with_reducible refine And.intro (by first | omega | decide | (simp; done) | (simp only [List.length_append, List.length_cons, List.length_nil, List.length_map]; omega)) ?_))
                refine RegT.mk [] ?_
                simp (disch := omega) only [go_sem, hD, hG', n3, dv, d0, n0, g0, hk0, g3, g4, dw, strRow, z0, z1, z2, raLo, unbox]
                (repeat (with_reducible refine And.intro (by first | omega | decide | (simp; done) | (simp only [List.length_append, List.length_cons, List.length_nil, List.length_map]; omega)) ?_))
                refine endW [] [] (by simp) rfl rfl rfl ?_ ?_ <;> simp only [go_sem]
        · have dv : (v == [72, 84, 84, 80, 47, 49, 46, 49]) = false := by rw [beq_eq_false_iff_ne]; exact hv
          have hw : waskW hs ⟨ps, bs⟩ [m, p, v] = (lask0, 2) := by rw [waskW, if_neg (fun h => hv h.1)]
          rw [hw, if_pos (by simp)] at hr
          subst hr
          simp only [askA, lask0, note0, List.map_nil]
          simp (disch := omega) only [go_sem, hD, hG', g1, g2, de, raLo, strRow, n3, z0, z1, z2, unbox]
          (repeat (with_reducible refine And.intro (by first | omega | decide | (simp; done) | (simp only [List.length_append, List.length_cons, List.length_nil, List.length_map]; omega)) ?_))
          refine RegT.mk [(9, false)] ?_
          simp (disch := omega) only [go_sem, hD, hG', n3, dv, g0, raLo, unbox]
          (repeat (with_reducible refine And.intro (by first | omega | decide | (simp; done) | (simp only [List.length_append, List.length_cons, List.length_nil, List.length_map]; omega)) ?_))
          refine endW [] [] (by simp) rfl rfl rfl ?_ ?_ <;> simp only [go_sem]
      · have d3 : (((l.length : Nat) : Int) != 3) = true := by simp; omega
        have hw : waskW hs ⟨ps, bs⟩ l = (lask0, 2) := by
          match l, h3 with
          | [], _ => rfl
          | [_], _ => rfl
          | [_, _], _ => rfl
          | _ :: _ :: _ :: _ :: _, _ => rfl
          | [_, _, _], h => exact absurd rfl h
        rw [hw, if_pos (by simp)] at hr
        subst hr
        simp only [askA, lask0, note0, List.map_nil]
        simp (disch := omega) only [go_sem, hD, hG', g1, g2, de, raLo, unbox]
        (repeat (with_reducible refine And.intro (by first | omega | decide | (simp; done) | (simp only [List.length_append, List.length_cons, List.length_nil, List.length_map]; omega)) ?_))
        refine RegT.mk [(3, false), (9, false)] ?_
        simp (disch := omega) only [go_sem, hD, hG', d3, g0, raLo, unbox]
        (repeat (with_reducible refine And.intro (by first | omega | decide | (simp; done) | (simp only [List.length_append, List.length_cons, List.length_nil, List.length_map]; omega)) ?_))
        refine endW [] [] (by simp) rfl rfl rfl ?_ ?_ <;> simp only [go_sem]
    · have de : (err != 0) = true := by simp [he]
      rw [if_pos (by simpa using he)] at hr
      subst hr
      simp only [askA, lask0, note0, List.map_nil]
      simp (disch := omega) only [go_sem, hD, hG', g1, de, g0, raLo, unbox]
      (repeat (with_reducible refine And.intro (by first | omega | decide | (simp; done) | (simp only [List.length_append, List.length_cons, List.length_nil, List.length_map]; omega)) ?_))
      refine endW [] [] (by simp) rfl rfl rfl ?_ ?_ <;> simp only [go_sem]
  exact hcon _ rfl
def eRpageask : Ent Tryz.prog D := ⟨35, Wd, fun b => [.sl 1 (b.map byteRow)], fun b => b.length ≤ 16777216, fun b => ⟨.tup [askA (waskR b).1, .int .i64 (waskR b).2.1, .int .i64 (waskR b).2.2], []⟩, fun x y _ _ h => by
  simp only [List.cons.injEq, AV.sl.injEq, true_and, and_true] at h
  rw [bytes_inj h], con_rpageask⟩
end Go.Proofs.YtmlejhpeoiicpaaGreatDoor.Ab
namespace Go.Proofs.YtmlejhpeoiicpaaGreatDoor.Ab
open Go Go.RowKit
set_option linter.unusedVariables false
set_option linter.unusedSimpArgs false

theorem con_rpsno (e : Int) : Con Tryz.prog D 80 [.int .i64 e] ⟨.tup [.agg [.int .i64 0, .int .i64 0, .int .i64 0, .int .i64 0, .nils, .nils], .int .i64 0, .int .i64 e], []⟩ := by
  have hok : GOk Tryz.prog D (tabG []) := tabG_ok _
  generalize tabG [] = G at *
  refine conW (G := G) (rs := [(2, some 30), (3, none), (4, none)]) hok Tryz.func80 Tryz.results80 Tryz.ntmps80 (fun _ => {}) fun X hP hD hG' hX => ?_
  simp only [argS, num]
  simp (disch := omega) only [go_sem, hD, hG', unbox]
  refine endW [] [] (by simp) rfl rfl rfl ?_ ?_ <;> simp only [go_sem]
def eRpsno : Ent Tryz.prog D := ⟨80, Int, fun e => [.int .i64 e], fun _ => True, fun e => ⟨.tup [.agg [.int .i64 0, .int .i64 0, .int .i64 0, .int .i64 0, .nils, .nils], .int .i64 0, .int .i64 e], []⟩, fun x y _ _ h => by
  simp only [List.cons.injEq, AV.int.injEq, true_and, and_true] at h
  rw [h], fun e _ => con_rpsno e⟩
theorem headed_two (hs : List Wd) : (∃ a b, hs = [a, b] ∧ (headN tagH a).2 = true ∧ (headN triesH b).2 = true ∧ headedS hs [tagH, triesH] = ([(headN tagH a).1, (headN triesH b).1], true)) ∨ ((headedS hs [tagH, triesH]) = ([], false) ∧ (match hs with | [a, b] => ¬ ((headN tagH a).2 = true ∧ (headN triesH b).2 = true) | _ => True)) := by
  match hs with
  | [] => exact .inr ⟨rfl, trivial⟩
  | [_] => exact .inr ⟨rfl, trivial⟩
  | [a, b] =>
    have hh : headedS [a, b] [tagH, triesH] = hdP [] [a, b] [tagH, triesH] := rfl
    by_cases h1 : (headN tagH a).2 = true
    · by_cases h2 : (headN triesH b).2 = true
      · exact .inl ⟨a, b, rfl, h1, h2, by rw [hh]; simp [hdP, h1, h2]⟩
      · exact .inr ⟨by rw [hh]; simp [hdP, h1, h2], fun h => h2 h.2⟩
    · exact .inr ⟨by rw [hh]; simp [hdP, h1], fun h => h1 h.1⟩
  | _ :: _ :: _ :: l => exact .inr ⟨by unfold headedS; rw [if_neg (by simp)], trivial⟩
theorem headed_one (hs : List Wd) : (∃ a, hs = [a] ∧ (headN errorH a).2 = true ∧ headedS hs [errorH] = ([(headN errorH a).1], true)) ∨ ((headedS hs [errorH]) = ([], false) ∧ (match hs with | [a] => ¬ ((headN errorH a).2 = true) | _ => True)) := by
  match hs with
  | [] => exact .inr ⟨rfl, trivial⟩
  | [a] =>
    have hh : headedS [a] [errorH] = hdP [] [a] [errorH] := rfl
    by_cases h1 : (headN errorH a).2 = true
    · exact .inl ⟨a, rfl, h1, by rw [hh]; simp [hdP, h1]⟩
    · exact .inr ⟨by rw [hh]; simp [hdP, h1], fun h => h1 h⟩
  | _ :: _ :: l => exact .inr ⟨by unfold headedS; rw [if_neg (by simp)], trivial⟩
def rsLo : Nat → Lo := fun id => match id with | 11 => {uo := [7, 9, 11], un := [11]} | 16 => {uo := [4, 6], un := [11]} | _ => {}
set_option maxRecDepth 100000 in
set_option maxHeartbeats 8000000 in
theorem con_rpagesay (b : Wd) (hb : b.length ≤ 16777216) : Con Tryz.prog D 37 [.sl 1 (b.map byteRow)] ⟨.tup [sayA (wsayR b).1, .int .i64 (wsayR b).2.1, .int .i64 (wsayR b).2.2], []⟩ := by
  have hfit := parts_fit b
  have hw2 : ([tagH, triesH] : List Wd).length ≤ 1000 ∧ ∀ w ∈ ([tagH, triesH] : List Wd), w.length ≤ 1000 := ⟨by decide, fun w hw => by simp at hw; rcases hw with rfl | rfl <;> decide⟩
  have hw1 : ([errorH] : List Wd).length ≤ 1000 ∧ ∀ w ∈ ([errorH] : List Wd), w.length ≤ 1000 := ⟨by decide, fun w hw => by simp at hw; subst hw; decide⟩
  have hhs : (partsR b).heads.length ≤ 1000 ∧ ∀ w ∈ (partsR b).heads, w.length ≤ 1000 := ⟨by have := hfit.h; omega, fun w hw => by have := hfit.w w hw; omega⟩
  have hok : GOk Tryz.prog D (tabG [eRparts, eRheaded, eRwrongsF, eRpsno]) := tabG_ok _
  have g0 := fun (e : Int) => tabG_use (T := [eRparts, eRheaded, eRwrongsF, eRpsno]) (E := eRpsno) (i := 3) rfl (by decide) (e) (trivial)
  have g1 := tabG_use (T := [eRparts, eRheaded, eRwrongsF, eRpsno]) (E := eRparts) (i := 0) rfl (by decide) (b) (hb)
  have g3 := tabG_use (T := [eRparts, eRheaded, eRwrongsF, eRpsno]) (E := eRheaded) (i := 1) rfl (by decide) (((partsR b).heads, [tagH, triesH])) (⟨hhs, hw2⟩)
  have g4 := tabG_use (T := [eRparts, eRheaded, eRwrongsF, eRpsno]) (E := eRheaded) (i := 1) rfl (by decide) (((partsR b).heads, [errorH])) (⟨hhs, hw1⟩)
  have g5 := fun (s : LSay) (h : s.note.Fits) => tabG_use (T := [eRparts, eRheaded, eRwrongsF, eRpsno]) (E := eRwrongsF) (i := 2) rfl (by decide) ((s, false)) (⟨h, fun h => (by cases h)⟩)
  generalize tabG [eRparts, eRheaded, eRwrongsF, eRpsno] = G at *
  dsimp only [eRpsno] at g0
  dsimp only [eRparts] at g1
  dsimp only [eRheaded] at g3
  dsimp only [eRheaded] at g4
  dsimp only [eRwrongsF] at g5
  clear hw1 hw2 hhs
  unfold wsayR
  generalize partsR b = x at *
  obtain ⟨f, hs, ⟨ps, bs⟩, all, err⟩ := x
  obtain ⟨hf1, hf2, hf3, hf4⟩ := hfit
  simp only at hf1 hf2 hf3 hf4 g3 g4
  simp only [partsA, noteA] at g1
  have hcon : ∀ r, r = wsayE ⟨f, hs, ⟨ps, bs⟩, all, err⟩ → Con Tryz.prog D 37 [.sl 1 (b.map byteRow)] ⟨.tup [sayA r.1, .int .i64 r.2.1, .int .i64 r.2.2], []⟩ := by
    intro r hr
    simp only [wsayE] at hr
    have z0 : (0 : Int).toNat = 0 := rfl
    have z1 : (1 : Int).toNat = 1 := rfl
    have n0 : ((0 : Nat) : Int) = 0 := rfl
    have n1 : ((1 : Nat) : Int) = 1 := rfl
    have n2 : ((2 : Nat) : Int) = 2 := rfl
    have dokn : ∀ n : Nat, decide (((n + 1 : Nat) : Int) > 0) = true := fun n => by first | (simp; done) | (simp; omega)
    refine conW (G := G) (rs := [(2, some 30), (3, none), (4, none)]) hok Tryz.func37 Tryz.results37 Tryz.ntmps37 (rsLo) fun X hP hD hG' hX => ?_
    simp only [argS, num]
    by_cases he : err ≠ 0
    · have de : (err != 0) = true := by simp [he]
      rw [if_pos he] at hr
      iterate 6 ((try (first | refine RegT.mk [] ?_ | refine RegA.mk [] (by decide) ?_)); (try (simp (disch := omega) only [go_sem, hD, hG', rsLo, strRow, n0, z0, z1, n1, n2, de, g0, g1, Int.reduceBEq, Int.reduceBNe, Int.reduceGT, dokn, n0, unbox])); (repeat (with_reducible refine And.intro (by first | omega | decide | (simp; done) | (simp only [List.length_append, List.length_cons, List.length_nil, List.length_map]; omega)) ?_)))
      refine endW [] [] (by simp) rfl rfl rfl ?_ ?_ <;> simp only [go_sem]
      simp [hr, lsay0, note0, sayA, covs, cov, subs, names, namess]
    have he : err = 0 := by simpa using he
    have de : (err != 0) = false := by simp [he]
    rw [if_neg (by simp [he])] at hr
    by_cases h1 : f = okW
    · have b1 : (f == [72, 84, 84, 80, 47, 49, 46, 49, 32, 50, 48, 48, 32, 79, 75]) = true := by rw [h1]; rfl
      have b2 : (f == [72, 84, 84, 80, 47, 49, 46, 49, 32, 52, 48, 48, 32, 87, 114, 111, 110, 103]) = false := by rw [h1]; rfl
      cases hs with
      | nil =>
        have hw : wsayB f [] ⟨ps, bs⟩ = (⟨1, 0, 0, 0, ⟨ps, bs⟩⟩, wrongSayS ⟨1, 0, 0, 0, ⟨ps, bs⟩⟩) := by
          unfold wsayB
          rw [if_neg (fun h => h.2 rfl), if_pos h1]
        rw [hw] at hr
        simp only at hr
        have g5 := g5 ⟨1, 0, 0, 0, ⟨ps, bs⟩⟩ hf1
        simp only [sayA, wsE] at g5
        generalize wrongSayS ⟨1, 0, 0, 0, ⟨ps, bs⟩⟩ = e2 at *
        by_cases he2 : e2 = 0
        · have de2 : (e2 != 0) = false := by simp [he2]
          rw [if_neg (by simp [he2])] at hr
          iterate 6 ((try (first | refine RegT.mk [] ?_ | refine RegA.mk [] (by decide) ?_)); (try (simp (disch := omega) only [go_sem, hD, hG', rsLo, strRow, n0, z0, z1, n1, n2, de, g0, g1, Int.reduceBEq, Int.reduceBNe, Int.reduceGT, dokn, b1, b2, g5, de2, unbox])); (repeat (with_reducible refine And.intro (by first | omega | decide | (simp; done) | (simp only [List.length_append, List.length_cons, List.length_nil, List.length_map]; omega)) ?_)))
          refine endW [] [] (by simp) rfl rfl rfl ?_ ?_ <;> simp only [go_sem]
          simp [hr, lsay0, note0, sayA, covs, cov, subs, names, namess]
        · have de2 : (e2 != 0) = true := by simp [he2]
          rw [if_pos (by simpa using he2)] at hr
          iterate 6 ((try (first | refine RegT.mk [] ?_ | refine RegA.mk [] (by decide) ?_)); (try (simp (disch := omega) only [go_sem, hD, hG', rsLo, strRow, n0, z0, z1, n1, n2, de, g0, g1, Int.reduceBEq, Int.reduceBNe, Int.reduceGT, dokn, b1, b2, g5, de2, unbox])); (repeat (with_reducible refine And.intro (by first | omega | decide | (simp; done) | (simp only [List.length_append, List.length_cons, List.length_nil, List.length_map]; omega)) ?_)))
          refine endW [] [] (by simp) rfl rfl rfl ?_ ?_ <;> simp only [go_sem]
          simp [hr, lsay0, note0, sayA, covs, cov, subs, names, namess]
      | cons h t =>
        rcases headed_two (h :: t) with ⟨a, c, e, q1, q2, hh⟩ | ⟨hh, hm⟩
        · obtain ⟨rfl, rfl⟩ : h = a ∧ t = [c] := by simpa using e
          rw [hh] at g3
          have hw : wsayB f [h, c] ⟨ps, bs⟩ = (⟨2, (headN tagH h).1, (headN triesH c).1, 0, ⟨ps, bs⟩⟩, wrongSayS ⟨2, (headN tagH h).1, (headN triesH c).1, 0, ⟨ps, bs⟩⟩) := by
            unfold wsayB
            rw [if_pos ⟨h1, by simp⟩]
            exact if_pos ⟨q1, q2⟩
          rw [hw] at hr
          clear hw g4 hh e q1 q2
          generalize (headN tagH h).1 = x1 at *
          generalize (headN triesH c).1 = x2 at *
          simp only [tagH, triesH, List.map_cons, List.map_nil, strRow, numRow] at g3
          simp only at hr
          simp only [List.map_cons, List.map_nil, strRow] at g1
          have g5 := g5 ⟨2, x1, x2, 0, ⟨ps, bs⟩⟩ hf1
          simp only [sayA, wsE] at g5
          generalize wrongSayS ⟨2, x1, x2, 0, ⟨ps, bs⟩⟩ = e2 at *
          by_cases he2 : e2 = 0
          · have de2 : (e2 != 0) = false := by simp [he2]
            rw [if_neg (by simp [he2])] at hr
            iterate 6 ((try (first | refine RegT.mk [] ?_ | refine RegA.mk [] (by decide) ?_)); (try (simp (disch := omega) only [go_sem, hD, hG', rsLo, strRow, n0, z0, z1, n1, n2, de, g0, g1, Int.reduceBEq, Int.reduceBNe, Int.reduceGT, dokn, b1, b2, g3, g5, de2, unbox])); (repeat (with_reducible refine And.intro (by first | omega | decide | (simp; done) | (simp only [List.length_append, List.length_cons, List.length_nil, List.length_map]; omega)) ?_)))
            refine endW [] [] (by simp) rfl rfl rfl ?_ ?_ <;> simp only [go_sem]
            simp [hr, lsay0, note0, sayA, covs, cov, subs, names, namess]
          · have de2 : (e2 != 0) = true := by simp [he2]
            rw [if_pos (by simpa using he2)] at hr
            iterate 6 ((try (first | refine RegT.mk [] ?_ | refine RegA.mk [] (by decide) ?_)); (try (simp (disch := omega) only [go_sem, hD, hG', rsLo, strRow, n0, z0, z1, n1, n2, de, g0, g1, Int.reduceBEq, Int.reduceBNe, Int.reduceGT, dokn, b1, b2, g3, g5, de2, unbox])); (repeat (with_reducible refine And.intro (by first | omega | decide | (simp; done) | (simp only [List.length_append, List.length_cons, List.length_nil, List.length_map]; omega)) ?_)))
            refine endW [] [] (by simp) rfl rfl rfl ?_ ?_ <;> simp only [go_sem]
            simp [hr, lsay0, note0, sayA, covs, cov, subs, names, namess]
        · rw [hh] at g3
          have hw : wsayB f (h :: t) ⟨ps, bs⟩ = (lsay0, 2) := by
            unfold wsayB
            rw [if_pos ⟨h1, by simp⟩]
            cases t with
            | nil => rfl
            | cons c t =>
              cases t with
              | nil => exact if_neg hm
              | cons d t => rfl
          rw [hw, if_pos (by simp)] at hr
          clear hw g4 hm hh
          simp only [tagH, triesH, List.map_cons, List.map_nil, strRow] at g3
          simp only [List.map_cons, strRow] at g1
          iterate 6 ((try (first | refine RegT.mk [] ?_ | refine RegA.mk [] (by decide) ?_)); (try (simp (disch := omega) only [go_sem, hD, hG', rsLo, strRow, n0, z0, z1, n1, n2, de, g0, g1, Int.reduceBEq, Int.reduceBNe, Int.reduceGT, dokn, b1, b2, g3, unbox])); (repeat (with_reducible refine And.intro (by first | omega | decide | (simp; done) | (simp only [List.length_append, List.length_cons, List.length_nil, List.length_map]; omega)) ?_)))
          refine endW [] [] (by simp) rfl rfl rfl ?_ ?_ <;> simp only [go_sem]
          simp [hr, lsay0, note0, sayA, covs, cov, subs, names, namess]
    have b1 : (f == [72, 84, 84, 80, 47, 49, 46, 49, 32, 50, 48, 48, 32, 79, 75]) = false := by rw [beq_eq_false_iff_ne]; exact h1
    by_cases h4 : f = wrongW
    · have b2 : (f == [72, 84, 84, 80, 47, 49, 46, 49, 32, 52, 48, 48, 32, 87, 114, 111, 110, 103]) = true := by rw [h4]; rfl
      have h3 : f ≠ noneW := by rw [h4]; decide
      rcases headed_one hs with ⟨a, e, q1, hh⟩ | ⟨hh, hm⟩
      · subst e
        rw [hh] at g4
        have hw : wsayB f [a] ⟨ps, bs⟩ = (⟨4, 0, 0, (headN errorH a).1, ⟨ps, bs⟩⟩, wrongSayS ⟨4, 0, 0, (headN errorH a).1, ⟨ps, bs⟩⟩) := by
          unfold wsayB
          rw [if_neg (fun h => h1 h.1), if_neg h1, if_neg h3, if_pos h4]
          exact if_pos q1
        rw [hw] at hr
        clear hw g3 hh q1
        generalize (headN errorH a).1 = x1 at *
        simp only [errorH, List.map_cons, List.map_nil, strRow, numRow] at g4
        simp only at hr
        simp only [List.map_cons, List.map_nil, strRow] at g1
        have g5 := g5 ⟨4, 0, 0, x1, ⟨ps, bs⟩⟩ hf1
        simp only [sayA, wsE] at g5
        generalize wrongSayS ⟨4, 0, 0, x1, ⟨ps, bs⟩⟩ = e2 at *
        by_cases he2 : e2 = 0
        · have de2 : (e2 != 0) = false := by simp [he2]
          rw [if_neg (by simp [he2])] at hr
          iterate 6 ((try (first | refine RegT.mk [] ?_ | refine RegA.mk [] (by decide) ?_)); (try (simp (disch := omega) only [go_sem, hD, hG', rsLo, strRow, n0, z0, z1, n1, n2, de, g0, g1, Int.reduceBEq, Int.reduceBNe, Int.reduceGT, dokn, b1, b2, g4, g5, de2, unbox])); (repeat (with_reducible refine And.intro (by first | omega | decide | (simp; done) | (simp only [List.length_append, List.length_cons, List.length_nil, List.length_map]; omega)) ?_)))
          refine endW [] [] (by simp) rfl rfl rfl ?_ ?_ <;> simp only [go_sem]
          simp [hr, lsay0, note0, sayA, covs, cov, subs, names, namess]
        · have de2 : (e2 != 0) = true := by simp [he2]
          rw [if_pos (by simpa using he2)] at hr
          iterate 6 ((try (first | refine RegT.mk [] ?_ | refine RegA.mk [] (by decide) ?_)); (try (simp (disch := omega) only [go_sem, hD, hG', rsLo, strRow, n0, z0, z1, n1, n2, de, g0, g1, Int.reduceBEq, Int.reduceBNe, Int.reduceGT, dokn, b1, b2, g4, g5, de2, unbox])); (repeat (with_reducible refine And.intro (by first | omega | decide | (simp; done) | (simp only [List.length_append, List.length_cons, List.length_nil, List.length_map]; omega)) ?_)))
          refine endW [] [] (by simp) rfl rfl rfl ?_ ?_ <;> simp only [go_sem]
          simp [hr, lsay0, note0, sayA, covs, cov, subs, names, namess]
      · rw [hh] at g4
        have hw : wsayB f hs ⟨ps, bs⟩ = (lsay0, 2) := by
          unfold wsayB
          rw [if_neg (fun h => h1 h.1), if_neg h1, if_neg h3, if_pos h4]
          cases hs with
          | nil => rfl
          | cons c t =>
            cases t with
            | nil => exact if_neg hm
            | cons d t => rfl
        rw [hw, if_pos (by simp)] at hr
        clear hw g3 hm hh
        simp only [errorH, List.map_cons, List.map_nil, strRow] at g4
        iterate 6 ((try (first | refine RegT.mk [] ?_ | refine RegA.mk [] (by decide) ?_)); (try (simp (disch := omega) only [go_sem, hD, hG', rsLo, strRow, n0, z0, z1, n1, n2, de, g0, g1, Int.reduceBEq, Int.reduceBNe, Int.reduceGT, dokn, b1, b2, g4, unbox])); (repeat (with_reducible refine And.intro (by first | omega | decide | (simp; done) | (simp only [List.length_append, List.length_cons, List.length_nil, List.length_map]; omega)) ?_)))
        refine endW [] [] (by simp) rfl rfl rfl ?_ ?_ <;> simp only [go_sem]
        simp [hr, lsay0, note0, sayA, covs, cov, subs, names, namess]
    have b2 : (f == [72, 84, 84, 80, 47, 49, 46, 49, 32, 52, 48, 48, 32, 87, 114, 111, 110, 103]) = false := by rw [beq_eq_false_iff_ne]; exact h4
    by_cases h3 : f = noneW
    · have b3 : (f == [72, 84, 84, 80, 47, 49, 46, 49, 32, 50, 48, 52, 32, 78, 111, 110, 101]) = true := by rw [h3]; rfl
      have hw0 : wsayB f hs ⟨ps, bs⟩ = if hs = [] then (⟨3, 0, 0, 0, ⟨ps, bs⟩⟩, wrongSayS ⟨3, 0, 0, 0, ⟨ps, bs⟩⟩) else (lsay0, 2) := by
        unfold wsayB
        rw [if_neg (fun h => h1 h.1), if_neg h1, if_pos h3]
      rw [hw0] at hr
      cases hs with
      | nil =>
        simp only [if_true] at hr
        have g5 := g5 ⟨3, 0, 0, 0, ⟨ps, bs⟩⟩ hf1
        simp only [sayA, wsE] at g5
        generalize wrongSayS ⟨3, 0, 0, 0, ⟨ps, bs⟩⟩ = e2 at *
        by_cases he2 : e2 = 0
        · have de2 : (e2 != 0) = false := by simp [he2]
          rw [if_neg (by simp [he2])] at hr
          iterate 6 ((try (first | refine RegT.mk [] ?_ | refine RegA.mk [] (by decide) ?_)); (try (simp (disch := omega) only [go_sem, hD, hG', rsLo, strRow, n0, z0, z1, n1, n2, de, g0, g1, Int.reduceBEq, Int.reduceBNe, Int.reduceGT, dokn, b1, b2, b3, g5, de2, unbox])); (repeat (with_reducible refine And.intro (by first | omega | decide | (simp; done) | (simp only [List.length_append, List.length_cons, List.length_nil, List.length_map]; omega)) ?_)))
          refine endW [] [] (by simp) rfl rfl rfl ?_ ?_ <;> simp only [go_sem]
          simp [hr, lsay0, note0, sayA, covs, cov, subs, names, namess]
        · have de2 : (e2 != 0) = true := by simp [he2]
          rw [if_pos (by simpa using he2)] at hr
          iterate 6 ((try (first | refine RegT.mk [] ?_ | refine RegA.mk [] (by decide) ?_)); (try (simp (disch := omega) only [go_sem, hD, hG', rsLo, strRow, n0, z0, z1, n1, n2, de, g0, g1, Int.reduceBEq, Int.reduceBNe, Int.reduceGT, dokn, b1, b2, b3, g5, de2, unbox])); (repeat (with_reducible refine And.intro (by first | omega | decide | (simp; done) | (simp only [List.length_append, List.length_cons, List.length_nil, List.length_map]; omega)) ?_)))
          refine endW [] [] (by simp) rfl rfl rfl ?_ ?_ <;> simp only [go_sem]
          simp [hr, lsay0, note0, sayA, covs, cov, subs, names, namess]
      | cons h t =>
        rw [if_neg (show ¬ (h :: t = []) by simp), if_pos (by simp)] at hr
        simp only [List.map_cons, strRow] at g1
        iterate 6 ((try (first | refine RegT.mk [] ?_ | refine RegA.mk [] (by decide) ?_)); (try (simp (disch := omega) only [go_sem, hD, hG', rsLo, strRow, n0, z0, z1, n1, n2, de, g0, g1, Int.reduceBEq, Int.reduceBNe, Int.reduceGT, dokn, b1, b2, b3, unbox])); (repeat (with_reducible refine And.intro (by first | omega | decide | (simp; done) | (simp only [List.length_append, List.length_cons, List.length_nil, List.length_map]; omega)) ?_)))
        refine endW [] [] (by simp) rfl rfl rfl ?_ ?_ <;> simp only [go_sem]
        simp [hr, lsay0, note0, sayA, covs, cov, subs, names, namess]
    have b3 : (f == [72, 84, 84, 80, 47, 49, 46, 49, 32, 50, 48, 52, 32, 78, 111, 110, 101]) = false := by rw [beq_eq_false_iff_ne]; exact h3
    have hw0 : wsayB f hs ⟨ps, bs⟩ = (lsay0, 1) := by
      unfold wsayB
      rw [if_neg (fun h => h1 h.1), if_neg h1, if_neg h3, if_neg h4]
    rw [hw0, if_pos (by simp)] at hr
    iterate 6 ((try (first | refine RegT.mk [] ?_ | refine RegA.mk [] (by decide) ?_)); (try (simp (disch := omega) only [go_sem, hD, hG', rsLo, strRow, n0, z0, z1, n1, n2, de, g0, g1, Int.reduceBEq, Int.reduceBNe, Int.reduceGT, dokn, b1, b2, b3, unbox])); (repeat (with_reducible refine And.intro (by first | omega | decide | (simp; done) | (simp only [List.length_append, List.length_cons, List.length_nil, List.length_map]; omega)) ?_)))
    refine endW [] [] (by simp) rfl rfl rfl ?_ ?_ <;> simp only [go_sem]
    simp [hr, lsay0, note0, sayA, covs, cov, subs, names, namess]
  exact hcon _ rfl
def eRpagesay : Ent Tryz.prog D := ⟨37, Wd, fun b => [.sl 1 (b.map byteRow)], fun b => b.length ≤ 16777216, fun b => ⟨.tup [sayA (wsayR b).1, .int .i64 (wsayR b).2.1, .int .i64 (wsayR b).2.2], []⟩, fun x y _ _ h => by
  simp only [List.cons.injEq, AV.sl.injEq, true_and, and_true] at h
  rw [bytes_inj h], con_rpagesay⟩
end Go.Proofs.YtmlejhpeoiicpaaGreatDoor.Ab
namespace Go.Proofs.YtmlejhpeoiicpaaGreatDoor.Ab
open Go Go.RowKit
set_option linter.unusedVariables false
set_option linter.unusedSimpArgs false

theorem rapok {a : LAsk} (h : wrongAskS a = 0) : RAPOk a := by
  obtain ⟨h1, h2, h3, h4, h5, h6, _⟩ := wrongAsk_ok h
  exact ⟨⟨h1, h2⟩, by omega, by omega, wnok h6⟩
theorem rspok {s : LSay} (h : wrongSayS s = 0) : RSPOk s := by
  obtain ⟨_, _, h3, h4, h5, h6, h7, h8, h9, _⟩ := wrongSay_ok h
  exact ⟨by omega, by omega, by omega, fun _ => wnok h9⟩
theorem waskR_fits (l : Wd) : (waskR l).1.Fits := by
  rcases wask_right l with h1 | h1
  · exact ask_fits h1.2.1
  · rw [h1.2.2]; exact ⟨by decide, fits_right (by decide)⟩
theorem wsayR_fits (l : Wd) : (wsayR l).1.note.Fits := by
  rcases wsay_right l with h1 | h1
  · exact say_fits h1.2.1
  · rw [h1.2.2]; exact fits_right (by decide)
set_option maxRecDepth 100000 in
set_option maxHeartbeats 16000000 in
theorem con_webtells (a : LAsk) (s : LSay) (b : Wd) (fa : a.Fits) (fs : s.note.Fits) (hb : b.length ≤ 4194304) : Con Tryz.prog D 4 [askA a, sayA s, .sl 1 (b.map byteRow)] ⟨.bool true, []⟩ := by
  have hok : GOk Tryz.prog D (tabG [eRefwrongask, eWaskbytes, eRaskpage, eRefwrongsay, eWsaybytes, eRsaypage, eWask, eRpageask, eSameask, eWsay, eRpagesay, eSamesay]) := tabG_ok _
  have g11 := tabG_use (T := [eRefwrongask, eWaskbytes, eRaskpage, eRefwrongsay, eWsaybytes, eRsaypage, eWask, eRpageask, eSameask, eWsay, eRpagesay, eSamesay]) (E := eRefwrongask) (i := 0) rfl (by decide) (a) (fa)
  have g12 := fun (h : wrongAskS a = 0) => tabG_use (T := [eRefwrongask, eWaskbytes, eRaskpage, eRefwrongsay, eWsaybytes, eRsaypage, eWask, eRpageask, eSameask, eWsay, eRpagesay, eSamesay]) (E := eWaskbytes) (i := 1) rfl (by decide) (a) (wabokG h)
  have g13 := fun (h : wrongAskS a = 0) => tabG_use (T := [eRefwrongask, eWaskbytes, eRaskpage, eRefwrongsay, eWsaybytes, eRsaypage, eWask, eRpageask, eSameask, eWsay, eRpagesay, eSamesay]) (E := eRaskpage) (i := 2) rfl (by decide) (a) (rapok h)
  have g14 := tabG_use (T := [eRefwrongask, eWaskbytes, eRaskpage, eRefwrongsay, eWsaybytes, eRsaypage, eWask, eRpageask, eSameask, eWsay, eRpagesay, eSamesay]) (E := eRefwrongsay) (i := 3) rfl (by decide) (s) (fs)
  have g15 := fun (h : wrongSayS s = 0) => tabG_use (T := [eRefwrongask, eWaskbytes, eRaskpage, eRefwrongsay, eWsaybytes, eRsaypage, eWask, eRpageask, eSameask, eWsay, eRpagesay, eSamesay]) (E := eWsaybytes) (i := 4) rfl (by decide) (s) (wsbokG h)
  have g16 := fun (h : wrongSayS s = 0) => tabG_use (T := [eRefwrongask, eWaskbytes, eRaskpage, eRefwrongsay, eWsaybytes, eRsaypage, eWask, eRpageask, eSameask, eWsay, eRpagesay, eSamesay]) (E := eRsaypage) (i := 5) rfl (by decide) (s) (rspok h)
  have g17 := tabG_use (T := [eRefwrongask, eWaskbytes, eRaskpage, eRefwrongsay, eWsaybytes, eRsaypage, eWask, eRpageask, eSameask, eWsay, eRpagesay, eSamesay]) (E := eWask) (i := 6) rfl (by decide) (b) (by show b.length ≤ _; omega)
  have g18 := tabG_use (T := [eRefwrongask, eWaskbytes, eRaskpage, eRefwrongsay, eWsaybytes, eRsaypage, eWask, eRpageask, eSameask, eWsay, eRpagesay, eSamesay]) (E := eRpageask) (i := 7) rfl (by decide) (b) (by show b.length ≤ _; omega)
  have g19 := tabG_use (T := [eRefwrongask, eWaskbytes, eRaskpage, eRefwrongsay, eWsaybytes, eRsaypage, eWask, eRpageask, eSameask, eWsay, eRpagesay, eSamesay]) (E := eSameask) (i := 8) rfl (by decide) (((waskR b).1, (waskR b).1)) (⟨waskR_fits b, waskR_fits b⟩)
  have g20 := tabG_use (T := [eRefwrongask, eWaskbytes, eRaskpage, eRefwrongsay, eWsaybytes, eRsaypage, eWask, eRpageask, eSameask, eWsay, eRpagesay, eSamesay]) (E := eWsay) (i := 9) rfl (by decide) (b) (by show b.length ≤ _; omega)
  have g21 := tabG_use (T := [eRefwrongask, eWaskbytes, eRaskpage, eRefwrongsay, eWsaybytes, eRsaypage, eWask, eRpageask, eSameask, eWsay, eRpagesay, eSamesay]) (E := eRpagesay) (i := 10) rfl (by decide) (b) (by show b.length ≤ _; omega)
  have g22 := tabG_use (T := [eRefwrongask, eWaskbytes, eRaskpage, eRefwrongsay, eWsaybytes, eRsaypage, eWask, eRpageask, eSameask, eWsay, eRpagesay, eSamesay]) (E := eSamesay) (i := 11) rfl (by decide) (((wsayR b).1, (wsayR b).1)) (⟨wsayR_fits b, wsayR_fits b⟩)
  generalize tabG [eRefwrongask, eWaskbytes, eRaskpage, eRefwrongsay, eWsaybytes, eRsaypage, eWask, eRpageask, eSameask, eWsay, eRpagesay, eSamesay] = G at *
  dsimp only [eRefwrongask] at g11
  dsimp only [eWaskbytes] at g12
  dsimp only [eRaskpage] at g13
  dsimp only [eRefwrongsay] at g14
  dsimp only [eWsaybytes] at g15
  dsimp only [eRsaypage] at g16
  dsimp only [eWask] at g17
  dsimp only [eRpageask] at g18
  dsimp only [eSameask] at g19
  dsimp only [eWsay] at g20
  dsimp only [eRpagesay] at g21
  dsimp only [eSamesay] at g22
  clear fa fs
  generalize askPg a = xa at *
  generalize sayPg s = ya at *
  generalize wrongAskS a = wa at *
  generalize wrongSayS s = ws at *
  generalize waskR b = pa at *
  generalize wsayR b = ps at *
  obtain ⟨ak, aq, an, ⟨ap, ab⟩⟩ := a
  obtain ⟨sk, sn, sm, se, ⟨sp, sb⟩⟩ := s
  obtain ⟨⟨bk, bq, bn, ⟨bp, bb⟩⟩, b1, b2⟩ := pa
  obtain ⟨⟨tk, tn, tm, te, ⟨tp, tb⟩⟩, t1, t2⟩ := ps
  simp only [askA, sayA, decide_true] at g11 g12 g13 g14 g15 g16 g17 g18 g19 g20 g21 g22
  refine conW (G := G) (rs := [(6, none)]) hok Tryz.func4 Tryz.results4 Tryz.ntmps4 (fun _ => {}) fun X hP hD hG' hX => ?_
  simp only [argS, num, askA, sayA]
  simp (disch := omega) only [go_sem, hD, hG', g11, unbox]
  by_cases hA : wa = 0 <;> by_cases hS : ws = 0
  · have hA1 : (wa == 0) = true := by simp [hA]
    have hS1 : (ws == 0) = true := by simp [hS]
    have g12 := g12 hA
    have g13 := g13 hA
    have g15 := g15 hS
    have g16 := g16 hS
    refine RegA.mk [] (by decide) ?_
    simp (disch := omega) only [go_sem, hD, hG', g11, g14, g17, g18, g19, g20, g21, g22, hA1, hS1, g12, g13, g15, g16, unbox]
    iterate 4 ((try (refine RegT.mk [] ?_)); (try (simp (disch := omega) only [go_sem, hD, hG', g11, g14, g17, g18, g19, g20, g21, g22, hA1, hS1, g12, g13, g15, g16, unbox])); (repeat (with_reducible refine And.intro (by first | omega | decide | (simp; done) | (simp only [List.length_append, List.length_cons, List.length_nil, List.length_map]; omega)) ?_)))
    refine endW [] [] (by simp) rfl rfl rfl ?_ ?_ <;> simp only [go_sem]
  · have hA1 : (wa == 0) = true := by simp [hA]
    have hS1 : (ws == 0) = false := by simp [hS]
    have g12 := g12 hA
    have g13 := g13 hA
    refine RegA.mk [(16, true)] (by decide) ?_
    simp (disch := omega) only [go_sem, hD, hG', g11, g14, g17, g18, g19, g20, g21, g22, hA1, hS1, g12, g13, unbox]
    iterate 4 ((try (refine RegT.mk [] ?_)); (try (simp (disch := omega) only [go_sem, hD, hG', g11, g14, g17, g18, g19, g20, g21, g22, hA1, hS1, g12, g13, unbox])); (repeat (with_reducible refine And.intro (by first | omega | decide | (simp; done) | (simp only [List.length_append, List.length_cons, List.length_nil, List.length_map]; omega)) ?_)))
    refine endW [] [] (by simp) rfl rfl rfl ?_ ?_ <;> simp only [go_sem]
  · have hA1 : (wa == 0) = false := by simp [hA]
    have hS1 : (ws == 0) = true := by simp [hS]
    have g15 := g15 hS
    have g16 := g16 hS
    refine RegA.mk [(3, true)] (by decide) ?_
    simp (disch := omega) only [go_sem, hD, hG', g11, g14, g17, g18, g19, g20, g21, g22, hA1, hS1, g15, g16, unbox]
    iterate 4 ((try (refine RegT.mk [] ?_)); (try (simp (disch := omega) only [go_sem, hD, hG', g11, g14, g17, g18, g19, g20, g21, g22, hA1, hS1, g15, g16, unbox])); (repeat (with_reducible refine And.intro (by first | omega | decide | (simp; done) | (simp only [List.length_append, List.length_cons, List.length_nil, List.length_map]; omega)) ?_)))
    refine endW [] [] (by simp) rfl rfl rfl ?_ ?_ <;> simp only [go_sem]
  · have hA1 : (wa == 0) = false := by simp [hA]
    have hS1 : (ws == 0) = false := by simp [hS]
    refine RegA.mk [(3, true), (16, true)] (by decide) ?_
    simp (disch := omega) only [go_sem, hD, hG', g11, g14, g17, g18, g19, g20, g21, g22, hA1, hS1, unbox]
    iterate 4 ((try (refine RegT.mk [] ?_)); (try (simp (disch := omega) only [go_sem, hD, hG', g11, g14, g17, g18, g19, g20, g21, g22, hA1, hS1, unbox])); (repeat (with_reducible refine And.intro (by first | omega | decide | (simp; done) | (simp only [List.length_append, List.length_cons, List.length_nil, List.length_map]; omega)) ?_)))
    refine endW [] [] (by simp) rfl rfl rfl ?_ ?_ <;> simp only [go_sem]
end Go.Proofs.YtmlejhpeoiicpaaGreatDoor.Ab
