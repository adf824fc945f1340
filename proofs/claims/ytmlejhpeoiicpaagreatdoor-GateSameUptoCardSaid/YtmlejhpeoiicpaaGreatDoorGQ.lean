/-
  Texts of the proof, one behind the other: GtC GtD.
  No condition but those that each theorem names.
-/
import Derived.Test.YtmlejhpeoiicpaaGreatDoorGO
import Derived.Test.YtmlejhpeoiicpaaGreatDoorGC
namespace Go.Proofs.YtmlejhpeoiicpaaGreatDoor.Ab
open Go Go.RowKit
set_option linter.unusedVariables false
set_option linter.unusedSimpArgs false

theorem tAskB_len {n : Int} (hn : isT n) {a : LAsk} (h : wrongAskS a = 0) : (tAskB n a).length ≤ 400 := by
  unfold tAskB
  rcases hn with rfl | rfl | rfl
  · have ht := ask_turn [] h
    rw [List.append_nil] at ht
    have hr := ask_right (framedS (askB a))
    rw [ht] at hr
    show (framedS (askB a)).length ≤ 400
    rcases hr with hr | hr
    · have := hr.2.2.2.2
      simp only at this
      omega
    · exact absurd rfl hr.1
  · exact (lask_turn h []).2
  · exact (wask_turn h []).2
theorem tSayB_len {n : Int} (hn : isT n) {s : LSay} (h : wrongSayS s = 0) : (tSayB n s).length ≤ 400 := by
  unfold tSayB
  rcases hn with rfl | rfl | rfl
  · have ht := say_turn [] h
    rw [List.append_nil] at ht
    have hr := say_right (framedS (sayB s))
    rw [ht] at hr
    show (framedS (sayB s)).length ≤ 400
    rcases hr with hr | hr
    · have := hr.2.2.2.2
      simp only at this
      omega
    · exact absurd rfl hr.1
  · exact (lsay_turn h []).2
  · exact (wsay_turn h []).2
def aT : LAsk := ⟨5, bA [113], 0, note0⟩
def sT : LSay := ⟨1, 0, 0, 0, note0⟩
def eGaskN : Ent Tryz.prog D := ⟨38, Unit, fun _ => [.int .i64 2, .agg [.int .i64 5, .str [113], .int .i64 0, .nils, .nils]], fun _ => True, fun _ => ⟨.tup [.sl 1 ((gaskB 2 aT).1.map byteRow), .int .i64 (gaskB 2 aT).2], []⟩, fun x y _ _ h => rfl, fun _ _ =>
  Con.weak (con_gaskbytes 2 aT ⟨by decide, fits_right (by decide)⟩) (by simp [aT, bA, note0, askA, covs, cov])⟩
def eGsayN : Ent Tryz.prog D := ⟨39, Unit, fun _ => [.int .i64 3, .agg [.int .i64 1, .int .i64 0, .int .i64 0, .int .i64 0, .nils, .nils]], fun _ => True, fun _ => ⟨.tup [.sl 1 ((gsayB 3 sT).1.map byteRow), .int .i64 (gsayB 3 sT).2], []⟩, fun x y _ _ h => rfl, fun _ _ =>
  Con.weak (con_gsaybytes 3 sT (fits_right (by decide))) (by simp [sT, note0, sayA, covs, cov])⟩
theorem aT_right : wrongAskS aT = 0 := by decide +kernel
theorem sT_right : wrongSayS sT = 0 := by decide +kernel
def bT : Wd := [116, 97, 107, 101, 32, 113, 10]
def tT : Wd := [116, 97, 107]
theorem rowAppG (l m : List UInt8) : l.map byteRow ++ m.map byteRow = (l ++ m).map byteRow := by simp
theorem aT_bytes : gaskB 2 aT = (bT, 0) := by
  unfold gaskB
  rw [if_pos (by decide), if_pos aT_right]
  show (lineB (askW aT), (0 : Int)) = _
  have : lineB (askW aT) = bT := by decide +kernel
  rw [this]
theorem bT_asks : gasks 2 (bT ++ tT) 5 = ([aT], tT, 0) := by
  unfold tT
  have e : bT = lineB (askW aT) := by decide +kernel
  have h1 := (lask_turn aT_right [116, 97, 107]).1
  have h2 : (tAsk 2 [116, 97, 107]).2.2 = 9 := by
    show (laskR [116, 97, 107]).2.2 = 9
    decide +kernel
  have hl : (lineB (askW aT)).length = 7 := by decide +kernel
  have ht : tAsk 2 (lineB (askW aT) ++ [116, 97, 107]) = (aT, ((lineB (askW aT)).length : Int), 0) := h1
  have hln : (lineB (askW aT) ++ [116, 97, 107]).length = 9 + 1 := by rw [List.length_append, hl]; rfl
  unfold gasks
  rw [if_pos (by decide), e, hln, allF, if_neg (by decide), ht]
  simp only [Int.toNat_natCast, List.drop_left]
  rw [if_neg (by decide), if_neg (by simp), allF, if_neg (by decide), if_pos h2]
def sTb : Wd := sayPg sT
theorem sTb_eq : tSayB 3 sT = sTb := by
  unfold tSayB sTb
  rw [if_neg (by decide), if_neg (by decide)]
theorem sT_bytes : gsayB 3 sT = (sTb, 0) := by
  unfold gsayB
  rw [if_pos (by decide), if_pos sT_right, sTb_eq]
theorem sT_says : gsays 3 sTb = ([sT], [], 0) := by
  have h := gsays_one (n := 3) (.inr (.inr rfl)) sT_right
  rw [sTb_eq] at h
  exact h
def gtLo : Nat → Lo := fun id => match id with | 5 => {lo := [6], uo := [2, 5], kn := [22, 24], ex := [0]} | _ => {}
set_option maxRecDepth 100000 in
set_option maxHeartbeats 4000000 in
theorem con_gtalive : Con Tryz.prog D 48 [] ⟨.bool true, []⟩ := by
  have hsl : sTb.length ≤ 400 := by
    have h := tSayB_len (n := 3) (.inr (.inr rfl)) sT_right
    rw [sTb_eq] at h
    exact h
  have hok : GOk Tryz.prog D (tabG [eGaskN, eGasks, eGsayN, eGsays]) := tabG_ok _
  have g1 := tabG_use (T := [eGaskN, eGasks, eGsayN, eGsays]) (E := eGaskN) (i := 0) rfl (by decide) (()) (trivial)
  have g2 := tabG_use (T := [eGaskN, eGasks, eGsayN, eGsays]) (E := eGasks) (i := 1) rfl (by decide) ((2, bT ++ tT, 5)) (by show (bT ++ tT).length ≤ 4194304; decide)
  have g3 := tabG_use (T := [eGaskN, eGasks, eGsayN, eGsays]) (E := eGsayN) (i := 2) rfl (by decide) (()) (trivial)
  have g4 := tabG_use (T := [eGaskN, eGasks, eGsayN, eGsays]) (E := eGsays) (i := 3) rfl (by decide) ((3, sTb)) (by show sTb.length ≤ _; omega)
  generalize tabG [eGaskN, eGasks, eGsayN, eGsays] = G at *
  dsimp only [eGaskN] at g1
  dsimp only [eGasks] at g2
  dsimp only [eGsayN] at g3
  dsimp only [eGsays] at g4
  rw [aT_bytes] at g1
  rw [bT_asks] at g2
  rw [sT_bytes] at g3
  rw [sT_says] at g4
  have hb7 : ((bT.length : Nat) : Int) = 7 := rfl
  have hb3 : List.take 3 bT = tT := rfl
  have ht3 : ((tT.length : Nat) : Int) = 3 := rfl
  have hbe : (bT == [116, 97, 107, 101, 32, 113, 10]) = true := by decide +kernel
  have z3 : (3 : Int).toNat = 3 := rfl
  have n1 : ((1 : Nat) : Int) = 1 := rfl
  have n0 : ((0 : Nat) : Int) = 0 := rfl
  simp only [List.map_cons, List.map_nil] at g2 g4
  simp only [aT, bA, sT, note0, askCs, sayCs, List.map_nil] at g2 g4
  generalize sTb = sb at *
  generalize bT = b at *
  generalize tT = t at *
  have hbl : b.length = 7 := by omega
  have htl : t.length = 3 := by omega
  refine conW (G := G) (rs := [(0, none)]) hok Tryz.func48 Tryz.results48 Tryz.ntmps48 (gtLo) fun X hP hD hG' hX => ?_
  simp only [argS, num]
  simp (disch := omega) only [go_sem, hD, hG', g1, g2, g3, g4, gtLo, hb7, hb3, ht3, hbe, z3, n1, n0, rowAppG, List.getD_nil, unbox]
  (repeat (with_reducible refine And.intro (by first | omega | decide | (simp; done) | (simp only [List.length_append, List.length_cons, List.length_nil, List.length_map]; omega)) ?_))
  iterate 4 (all_goals (try (first | (refine RegT.mk [] ?_; simp (disch := omega) only [go_sem, hD, hG', g1, g2, g3, g4, gtLo, hb7, hb3, ht3, hbe, z3, n1, n0, rowAppG, List.getD_nil, unbox]) | with_reducible refine And.intro (by first | omega | decide | (simp; done)) ?_)))
  refine endW [] [] (by simp) rfl rfl rfl ?_ ?_ <;> simp only [go_sem]
def eGtalive : Ent Tryz.prog D := ⟨48, Unit, fun _ => [], fun _ => True, fun _ => ⟨.bool true, []⟩, fun x y _ _ h => rfl, fun _ _ => con_gtalive⟩
end Go.Proofs.YtmlejhpeoiicpaaGreatDoor.Ab
namespace Go.Proofs.YtmlejhpeoiicpaaGreatDoor.Ab
open Go Go.RowKit
set_option linter.unusedVariables false
set_option linter.unusedSimpArgs false

theorem gaskB_ok {n : Int} (hn : isT n) {a : LAsk} (h : wrongAskS a = 0) : gaskB n a = (tAskB n a, 0) := by unfold gaskB; rw [if_pos hn, if_pos h]
theorem gaskB_no {n : Int} (hn : ¬ isT n) (a : LAsk) : gaskB n a = ([], 1) := by unfold gaskB; rw [if_neg hn]
theorem gaskB_wrong {n : Int} {a : LAsk} (h : wrongAskS a ≠ 0) : (gaskB n a).1 = [] ∧ (gaskB n a).2 ≠ 0 := by
  unfold gaskB
  split
  · exact ⟨rfl, h⟩
  · exact ⟨rfl, by decide⟩
theorem gsayB_ok {n : Int} (hn : isT n) {a : LSay} (h : wrongSayS a = 0) : gsayB n a = (tSayB n a, 0) := by unfold gsayB; rw [if_pos hn, if_pos h]
theorem gsayB_no {n : Int} (hn : ¬ isT n) (a : LSay) : gsayB n a = ([], 1) := by unfold gsayB; rw [if_neg hn]
theorem gsayB_wrong {n : Int} {a : LSay} (h : wrongSayS a ≠ 0) : (gsayB n a).1 = [] ∧ (gsayB n a).2 ≠ 0 := by
  unfold gsayB
  split
  · exact ⟨rfl, h⟩
  · exact ⟨rfl, by decide⟩
def gsLo : Nat → Lo := fun id => match id with | _ => {}
set_option maxRecDepth 100000 in
set_option maxHeartbeats 8000000 in
theorem con_gatesame (n m : Int) (a : LAsk) (s : LSay) (fa : a.Fits) (fs : s.note.Fits) : Con Tryz.prog D 6 [.int .i64 n, .int .i64 m, askA a, sayA s] ⟨.bool true, []⟩ := by
  have hok : GOk Tryz.prog D (tabG [eGtalive, eGaskbytes, eGsaybytes, eGasks, eGsays, eSameask, eSamesay]) := tabG_ok _
  have g1 := tabG_use (T := [eGtalive, eGaskbytes, eGsaybytes, eGasks, eGsays, eSameask, eSamesay]) (E := eGtalive) (i := 0) rfl (by decide) (()) (trivial)
  have g2 := tabG_use (T := [eGtalive, eGaskbytes, eGsaybytes, eGasks, eGsays, eSameask, eSamesay]) (E := eGaskbytes) (i := 1) rfl (by decide) ((n, a)) (fa)
  have g3 := tabG_use (T := [eGtalive, eGaskbytes, eGsaybytes, eGasks, eGsays, eSameask, eSamesay]) (E := eGaskbytes) (i := 1) rfl (by decide) ((m, a)) (fa)
  have g4 := tabG_use (T := [eGtalive, eGaskbytes, eGsaybytes, eGasks, eGsays, eSameask, eSamesay]) (E := eGsaybytes) (i := 2) rfl (by decide) ((n, s)) (fs)
  have g5 := tabG_use (T := [eGtalive, eGaskbytes, eGsaybytes, eGasks, eGsays, eSameask, eSamesay]) (E := eGsaybytes) (i := 2) rfl (by decide) ((m, s)) (fs)
  have g6 := fun (h1 : isT n) (h2 : wrongAskS a = 0) => tabG_use (T := [eGtalive, eGaskbytes, eGsaybytes, eGasks, eGsays, eSameask, eSamesay]) (E := eGasks) (i := 3) rfl (by decide) ((n, tAskB n a, 2)) (by have := tAskB_len h1 h2; show (tAskB n a).length ≤ _; omega)
  have g7 := fun (h1 : isT m) (h2 : wrongAskS a = 0) => tabG_use (T := [eGtalive, eGaskbytes, eGsaybytes, eGasks, eGsays, eSameask, eSamesay]) (E := eGasks) (i := 3) rfl (by decide) ((m, tAskB m a, 2)) (by have := tAskB_len h1 h2; show (tAskB m a).length ≤ _; omega)
  have g8 := fun (h1 : isT n) (h2 : wrongSayS s = 0) => tabG_use (T := [eGtalive, eGaskbytes, eGsaybytes, eGasks, eGsays, eSameask, eSamesay]) (E := eGsays) (i := 4) rfl (by decide) ((n, tSayB n s)) (by have := tSayB_len h1 h2; show (tSayB n s).length ≤ _; omega)
  have g9 := fun (h1 : isT m) (h2 : wrongSayS s = 0) => tabG_use (T := [eGtalive, eGaskbytes, eGsaybytes, eGasks, eGsays, eSameask, eSamesay]) (E := eGsays) (i := 4) rfl (by decide) ((m, tSayB m s)) (by have := tSayB_len h1 h2; show (tSayB m s).length ≤ _; omega)
  have g10 := tabG_use (T := [eGtalive, eGaskbytes, eGsaybytes, eGasks, eGsays, eSameask, eSamesay]) (E := eSameask) (i := 5) rfl (by decide) ((a, a)) (⟨fa, fa⟩)
  have g11 := tabG_use (T := [eGtalive, eGaskbytes, eGsaybytes, eGasks, eGsays, eSameask, eSamesay]) (E := eSamesay) (i := 6) rfl (by decide) ((s, s)) (⟨fs, fs⟩)
  generalize tabG [eGtalive, eGaskbytes, eGsaybytes, eGasks, eGsays, eSameask, eSamesay] = G at *
  dsimp only [eGtalive] at g1
  dsimp only [eGaskbytes] at g2
  dsimp only [eGaskbytes] at g3
  dsimp only [eGsaybytes] at g4
  dsimp only [eGsaybytes] at g5
  dsimp only [eGasks] at g6
  dsimp only [eGasks] at g7
  dsimp only [eGsays] at g8
  dsimp only [eGsays] at g9
  dsimp only [eSameask] at g10
  dsimp only [eSamesay] at g11
  have q1 : isT n → wrongAskS a = 0 → gaskB n a = (tAskB n a, 0) := fun h1 h2 => gaskB_ok h1 h2
  have q2 : isT m → wrongAskS a = 0 → gaskB m a = (tAskB m a, 0) := fun h1 h2 => gaskB_ok h1 h2
  have q3 : isT n → wrongSayS s = 0 → gsayB n s = (tSayB n s, 0) := fun h1 h2 => gsayB_ok h1 h2
  have q4 : isT m → wrongSayS s = 0 → gsayB m s = (tSayB m s, 0) := fun h1 h2 => gsayB_ok h1 h2
  have p1 : ¬ (isT n ∧ wrongAskS a = 0) → (gaskB n a).2 ≠ 0 := fun h => by
    by_cases hn : isT n
    · exact (gaskB_wrong fun h2 => h ⟨hn, h2⟩).2
    · rw [gaskB_no hn]; decide
  have p2 : ¬ isT m → gaskB m a = ([], 1) := fun h => gaskB_no h a
  have p3 : ¬ (isT n ∧ wrongSayS s = 0) → (gsayB n s).1 = [] ∧ (gsayB n s).2 ≠ 0 := fun h => by
    by_cases hn : isT n
    · exact gsayB_wrong fun h2 => h ⟨hn, h2⟩
    · rw [gsayB_no hn]; exact ⟨rfl, by decide⟩
  have p4 : ¬ isT m → gsayB m s = ([], 1) := fun h => gsayB_no h s
  have g6 : isT n → wrongAskS a = 0 → _ := fun h1 h2 => by have e := g6 h1 h2; rw [gasks_one h1 h2] at e; exact e
  have g7 : isT m → wrongAskS a = 0 → _ := fun h1 h2 => by have e := g7 h1 h2; rw [gasks_one h1 h2] at e; exact e
  have g8 : isT n → wrongSayS s = 0 → _ := fun h1 h2 => by have e := g8 h1 h2; rw [gsays_one h1 h2] at e; exact e
  have g9 : isT m → wrongSayS s = 0 → _ := fun h1 h2 => by have e := g9 h1 h2; rw [gsays_one h1 h2] at e; exact e
  have l1 : isT n → wrongAskS a = 0 → (tAskB n a).length ≤ 400 := fun h1 h2 => tAskB_len h1 h2
  have l2 : isT m → wrongAskS a = 0 → (tAskB m a).length ≤ 400 := fun h1 h2 => tAskB_len h1 h2
  generalize gaskB n a = ga at *
  generalize gaskB m a = gb at *
  generalize gsayB n s = gc at *
  generalize gsayB m s = gd at *
  generalize tAskB n a = ta at *
  generalize tAskB m a = tb at *
  generalize tSayB n s = tc at *
  generalize tSayB m s = td at *
  generalize wrongAskS a = wa at *
  generalize wrongSayS s = ws at *
  obtain ⟨ga1, ga2⟩ := ga
  obtain ⟨gb1, gb2⟩ := gb
  obtain ⟨gc1, gc2⟩ := gc
  obtain ⟨gd1, gd2⟩ := gd
  simp only at g2 g3 g4 g5 p1 p3
  simp only [decide_true] at g10 g11
  obtain ⟨ak, aq, an, ⟨ap, ab⟩⟩ := a
  obtain ⟨sk, sn, sm, se, ⟨sp, sb⟩⟩ := s
  have n1 : ((1 : Nat) : Int) = 1 := rfl
  have n0 : ((0 : Nat) : Int) = 0 := rfl
  have z0 : (0 : Int).toNat = 0 := rfl
  have g00 : decide ((0 : Int) > 0) = false := rfl
  have b00 : ((0 : Int) != 0) = false := rfl
  have b11 : ((1 : Int) != 1) = false := rfl
  have b10 : ((1 : Int) != 0) = true := rfl
  have hcon : ∀ r, r = true → Con Tryz.prog D 6 [.int .i64 n, .int .i64 m, askA ⟨ak, aq, an, ⟨ap, ab⟩⟩, sayA ⟨sk, sn, sm, se, ⟨sp, sb⟩⟩] ⟨.bool r, []⟩ := by
    intro r hr
    simp only [askA, sayA, askCs, sayCs, List.map_cons, List.map_nil] at g2 g3 g4 g5 g6 g7 g8 g9 g10 g11
    refine conW (G := G) (rs := [(8, none)]) hok Tryz.func6 Tryz.results6 Tryz.ntmps6 (gsLo) fun X hP hD hG' hX => ?_
    simp only [argS, num, askA, sayA]
    generalize aq.data.toList = aql at *
    by_cases hA : isT n ∧ wa = 0
    · obtain ⟨hn, hwa⟩ := hA
      have e1 := q1 hn hwa
      cases e1
      have g6 := g6 hn hwa
      have l1 := l1 hn hwa
      by_cases hm : isT m
      · have e2 := q2 hm hwa
        cases e2
        have g7 := g7 hm hwa
        have l2 := l2 hm hwa
        by_cases hws : ws = 0
        · have e3 := q3 hn hws
          cases e3
          have e4 := q4 hm hws
          cases e4
          have g8 := g8 hn hws
          have g9 := g9 hm hws
          simp (disch := omega) only [go_sem, hD, hG', g1, g2, g6, g3, g7, g10, g4, g8, g5, g9, g11, gsLo, n1, n0, z0, g00, b00, b11, b10, List.getD_nil, unbox]
          (repeat (with_reducible refine And.intro (by first | omega | decide | (simp; done) | (simp only [List.length_append, List.length_cons, List.length_nil, List.length_map]; omega)) ?_))
          iterate 12 (all_goals (try (first | ((first | refine RegT.mk [] ?_ | refine RegA.mk [] (by decide) ?_); simp (disch := omega) only [go_sem, hD, hG', g1, g2, g6, g3, g7, g10, g4, g8, g5, g9, g11, gsLo, n1, n0, z0, g00, b00, b11, b10, List.getD_nil, unbox]) | with_reducible refine And.intro (by first | omega | decide | (simp; done)) ?_)))
          refine endW [] [] (by simp) rfl rfl rfl ?_ ?_ <;> simp only [go_sem]
          subst hr; rfl
        · obtain ⟨rfl, h2⟩ := p3 (fun h => hws h.2)
          have d : (gc2 != 0) = true := by simp [h2]
          simp (disch := omega) only [go_sem, hD, hG', g1, g2, g6, g3, g7, g10, g4, d, gsLo, n1, n0, z0, g00, b00, b11, b10, List.getD_nil, unbox]
          (repeat (with_reducible refine And.intro (by first | omega | decide | (simp; done) | (simp only [List.length_append, List.length_cons, List.length_nil, List.length_map]; omega)) ?_))
          iterate 12 (all_goals (try (first | ((first | refine RegT.mk [] ?_ | refine RegA.mk [] (by decide) ?_); simp (disch := omega) only [go_sem, hD, hG', g1, g2, g6, g3, g7, g10, g4, d, gsLo, n1, n0, z0, g00, b00, b11, b10, List.getD_nil, unbox]) | with_reducible refine And.intro (by first | omega | decide | (simp; done)) ?_)))
          refine endW [] [] (by simp) rfl rfl rfl ?_ ?_ <;> simp only [go_sem]
          subst hr; rfl
      · have e2 := p2 hm
        cases e2
        simp (disch := omega) only [go_sem, hD, hG', g1, g2, g6, g3, gsLo, n1, n0, z0, g00, b00, b11, b10, List.getD_nil, unbox]
        (repeat (with_reducible refine And.intro (by first | omega | decide | (simp; done) | (simp only [List.length_append, List.length_cons, List.length_nil, List.length_map]; omega)) ?_))
        iterate 12 (all_goals (try (first | ((first | refine RegT.mk [] ?_ | refine RegA.mk [] (by decide) ?_); simp (disch := omega) only [go_sem, hD, hG', g1, g2, g6, g3, gsLo, n1, n0, z0, g00, b00, b11, b10, List.getD_nil, unbox]) | with_reducible refine And.intro (by first | omega | decide | (simp; done)) ?_)))
        refine endW [] [] (by simp) rfl rfl rfl ?_ ?_ <;> simp only [go_sem]
        subst hr; rfl
    · have h2 := p1 hA
      have d : (ga2 == 0) = false := by simp [h2]
      by_cases hS : isT n ∧ ws = 0
      · obtain ⟨hn, hws⟩ := hS
        have e3 := q3 hn hws
        cases e3
        have g8 := g8 hn hws
        by_cases hm : isT m
        · have e4 := q4 hm hws
          cases e4
          have g9 := g9 hm hws
          simp (disch := omega) only [go_sem, hD, hG', g1, g2, d, g4, g8, g5, g9, g11, gsLo, n1, n0, z0, g00, b00, b11, b10, List.getD_nil, unbox]
          (repeat (with_reducible refine And.intro (by first | omega | decide | (simp; done) | (simp only [List.length_append, List.length_cons, List.length_nil, List.length_map]; omega)) ?_))
          iterate 12 (all_goals (try (first | ((first | refine RegT.mk [] ?_ | refine RegA.mk [] (by decide) ?_); simp (disch := omega) only [go_sem, hD, hG', g1, g2, d, g4, g8, g5, g9, g11, gsLo, n1, n0, z0, g00, b00, b11, b10, List.getD_nil, unbox]) | with_reducible refine And.intro (by first | omega | decide | (simp; done)) ?_)))
          refine endW [] [] (by simp) rfl rfl rfl ?_ ?_ <;> simp only [go_sem]
          subst hr; rfl
        · have e4 := p4 hm
          cases e4
          simp (disch := omega) only [go_sem, hD, hG', g1, g2, d, g4, g8, g5, gsLo, n1, n0, z0, g00, b00, b11, b10, List.getD_nil, unbox]
          (repeat (with_reducible refine And.intro (by first | omega | decide | (simp; done) | (simp only [List.length_append, List.length_cons, List.length_nil, List.length_map]; omega)) ?_))
          iterate 12 (all_goals (try (first | ((first | refine RegT.mk [] ?_ | refine RegA.mk [] (by decide) ?_); simp (disch := omega) only [go_sem, hD, hG', g1, g2, d, g4, g8, g5, gsLo, n1, n0, z0, g00, b00, b11, b10, List.getD_nil, unbox]) | with_reducible refine And.intro (by first | omega | decide | (simp; done)) ?_)))
          refine endW [] [] (by simp) rfl rfl rfl ?_ ?_ <;> simp only [go_sem]
          subst hr; rfl
      · obtain ⟨rfl, h3⟩ := p3 hS
        have d3 : (gc2 != 0) = true := by simp [h3]
        simp (disch := omega) only [go_sem, hD, hG', g1, g2, d, g4, d3, gsLo, n1, n0, z0, g00, b00, b11, b10, List.getD_nil, unbox]
        (repeat (with_reducible refine And.intro (by first | omega | decide | (simp; done) | (simp only [List.length_append, List.length_cons, List.length_nil, List.length_map]; omega)) ?_))
        iterate 12 (all_goals (try (first | ((first | refine RegT.mk [] ?_ | refine RegA.mk [] (by decide) ?_); simp (disch := omega) only [go_sem, hD, hG', g1, g2, d, g4, d3, gsLo, n1, n0, z0, g00, b00, b11, b10, List.getD_nil, unbox]) | with_reducible refine And.intro (by first | omega | decide | (simp; done)) ?_)))
        refine endW [] [] (by simp) rfl rfl rfl ?_ ?_ <;> simp only [go_sem]
        subst hr; rfl
  exact hcon _ rfl
end Go.Proofs.YtmlejhpeoiicpaaGreatDoor.Ab
