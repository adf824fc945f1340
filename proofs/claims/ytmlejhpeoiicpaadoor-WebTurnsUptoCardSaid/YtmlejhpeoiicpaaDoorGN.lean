/-
  Texts of the proof, one behind the other: WbV.
  No condition but those that each theorem names.
-/
import Derived.Test.YtmlejhpeoiicpaaDoorGM
import Derived.Test.YtmlejhpeoiicpaaDoorGC
namespace Go.Proofs.YtmlejhpeoiicpaaDoor.Ab
open Go Go.RowKit
set_option linter.unusedVariables false
set_option linter.unusedSimpArgs false

theorem rowAppW (l m : List UInt8) : l.map byteRow ++ m.map byteRow = (l ++ m).map byteRow := by simp
set_option maxRecDepth 100000 in
set_option maxHeartbeats 4000000 in
theorem con_webturns (a : LAsk) (s : LSay) (more : List UInt8) (k : Int) (fa : a.Fits) (fs : s.note.Fits) (hm : more.length ≤ 1048576) : Con Tryd.prog D 5 [askA a, sayA s, .sl 1 (more.map byteRow), .int .i64 k] ⟨.bool true, []⟩ := by
  have ta : wrongAskS a = 0 → _ := fun h => wask_turn h more
  have ts : wrongSayS s = 0 → _ := fun h => wsay_turn h more
  have ma : wrongAskS a = 0 → 0 ≤ k → k < (askPg a).length → _ := fun h h1 h2 => wask_more (k := k.toNat) h (by omega)
  have ms : wrongSayS s = 0 → 0 ≤ k → k < (sayPg s).length → _ := fun h h1 h2 => wsay_more (k := k.toNat) h (by omega)
  have hok : GOk Tryd.prog D (tabG [eWbalive, eRefwrongask, eRefwrongsay, eWaskbytes, eWsaybytes, eWask, eWsay, eSameask, eSamesay]) := tabG_ok _
  have g1 := tabG_use (T := [eWbalive, eRefwrongask, eRefwrongsay, eWaskbytes, eWsaybytes, eWask, eWsay, eSameask, eSamesay]) (E := eWbalive) (i := 0) rfl (by decide) (()) (trivial)
  have g4 := tabG_use (T := [eWbalive, eRefwrongask, eRefwrongsay, eWaskbytes, eWsaybytes, eWask, eWsay, eSameask, eSamesay]) (E := eRefwrongask) (i := 1) rfl (by decide) (a) (fa)
  have g5 := tabG_use (T := [eWbalive, eRefwrongask, eRefwrongsay, eWaskbytes, eWsaybytes, eWask, eWsay, eSameask, eSamesay]) (E := eRefwrongsay) (i := 2) rfl (by decide) (s) (fs)
  have g6 := fun (h : wrongAskS a = 0) => tabG_use (T := [eWbalive, eRefwrongask, eRefwrongsay, eWaskbytes, eWsaybytes, eWask, eWsay, eSameask, eSamesay]) (E := eWaskbytes) (i := 3) rfl (by decide) (a) (wabok h)
  have g7 := fun (h : wrongSayS s = 0) => tabG_use (T := [eWbalive, eRefwrongask, eRefwrongsay, eWaskbytes, eWsaybytes, eWask, eWsay, eSameask, eSamesay]) (E := eWsaybytes) (i := 4) rfl (by decide) (s) (wsbok h)
  have g8 := fun (h : wrongAskS a = 0) => tabG_use (T := [eWbalive, eRefwrongask, eRefwrongsay, eWaskbytes, eWsaybytes, eWask, eWsay, eSameask, eSamesay]) (E := eWask) (i := 5) rfl (by decide) (askPg a ++ more) (by have := (ta h).2; show (askPg a ++ more).length ≤ _; rw [List.length_append]; omega)
  have g9 := fun (h : wrongSayS s = 0) => tabG_use (T := [eWbalive, eRefwrongask, eRefwrongsay, eWaskbytes, eWsaybytes, eWask, eWsay, eSameask, eSamesay]) (E := eWsay) (i := 6) rfl (by decide) (sayPg s ++ more) (by have := (ts h).2; show (sayPg s ++ more).length ≤ _; rw [List.length_append]; omega)
  have g10 := fun (h : wrongAskS a = 0) => tabG_use (T := [eWbalive, eRefwrongask, eRefwrongsay, eWaskbytes, eWsaybytes, eWask, eWsay, eSameask, eSamesay]) (E := eWask) (i := 5) rfl (by decide) ((askPg a).take k.toNat) (by have := (ta h).2; show ((askPg a).take k.toNat).length ≤ _; rw [List.length_take]; omega)
  have g11 := fun (h : wrongSayS s = 0) => tabG_use (T := [eWbalive, eRefwrongask, eRefwrongsay, eWaskbytes, eWsaybytes, eWask, eWsay, eSameask, eSamesay]) (E := eWsay) (i := 6) rfl (by decide) ((sayPg s).take k.toNat) (by have := (ts h).2; show ((sayPg s).take k.toNat).length ≤ _; rw [List.length_take]; omega)
  have g12 := tabG_use (T := [eWbalive, eRefwrongask, eRefwrongsay, eWaskbytes, eWsaybytes, eWask, eWsay, eSameask, eSamesay]) (E := eSameask) (i := 7) rfl (by decide) ((a, a)) (⟨fa, fa⟩)
  have g13 := tabG_use (T := [eWbalive, eRefwrongask, eRefwrongsay, eWaskbytes, eWsaybytes, eWask, eWsay, eSameask, eSamesay]) (E := eSamesay) (i := 8) rfl (by decide) ((s, s)) (⟨fs, fs⟩)
  generalize tabG [eWbalive, eRefwrongask, eRefwrongsay, eWaskbytes, eWsaybytes, eWask, eWsay, eSameask, eSamesay] = G at *
  dsimp only [eWbalive] at g1
  dsimp only [eRefwrongask] at g4
  dsimp only [eRefwrongsay] at g5
  dsimp only [eWaskbytes] at g6
  dsimp only [eWsaybytes] at g7
  dsimp only [eWask] at g8
  dsimp only [eWsay] at g9
  dsimp only [eWask] at g10
  dsimp only [eWsay] at g11
  dsimp only [eSameask] at g12
  dsimp only [eSamesay] at g13
  have la : wrongAskS a = 0 → (askPg a).length ≤ 400 := fun h => (ta h).2
  have ls : wrongSayS s = 0 → (sayPg s).length ≤ 400 := fun h => (ts h).2
  have g8 := fun h => by have e := g8 h; rw [(ta h).1] at e; exact e
  have g9 := fun h => by have e := g9 h; rw [(ts h).1] at e; exact e
  have g10 := fun h h1 h2 => by have e := g10 h; rw [ma h h1 h2] at e; exact e
  have g11 := fun h h1 h2 => by have e := g11 h; rw [ms h h1 h2] at e; exact e
  clear ta ts ma ms
  generalize askPg a = xa at *
  generalize sayPg s = xs at *
  generalize wrongAskS a = wa at *
  generalize wrongSayS s = ws at *
  simp only [decide_true] at g12 g13
  obtain ⟨ak, aq, an, ⟨ap, ab⟩⟩ := a
  obtain ⟨sk, sn, sm, se, ⟨sp, sb⟩⟩ := s
  have hcon : ∀ r, r = true → Con Tryd.prog D 5 [askA ⟨ak, aq, an, ⟨ap, ab⟩⟩, sayA ⟨sk, sn, sm, se, ⟨sp, sb⟩⟩, .sl 1 (more.map byteRow), .int .i64 k] ⟨.bool r, []⟩ := by
    intro r hr
    simp only [askA, sayA, lask0, lsay0, note0] at g4 g5 g6 g7 g8 g9 g10 g11 g12 g13
    refine conW (G := G) (rs := [(8, none)]) hok Tryd.func5 Tryd.results5 Tryd.ntmps5 (fun _ => {}) fun X hP hD hG' hX => ?_
    simp only [argS, num, askA, sayA]
    generalize aq.data.toList = aql at *
    by_cases hk : 0 ≤ k
    · have kz : decide (k ≥ 0) = true := by simp; omega
      by_cases hwa : wa = 0
      · have d1 : (wa == 0) = true := by simp [hwa]
        have g6 := g6 hwa
        have g8 := g8 hwa
        have dl := la hwa
        have d2 : decide ((xa.length : Int) > 400) = false := by simp; omega
        by_cases ka : k < xa.length
        · have g10 := g10 hwa hk ka
          have d4 : decide (k < (xa.length : Int)) = true := by simp; omega
          by_cases hws : ws = 0
          · have b1 : (ws == 0) = true := by simp [hws]
            have g7 := g7 hws
            have g9 := g9 hws
            have bl := ls hws
            have b2 : decide ((xs.length : Int) > 400) = false := by simp; omega
            by_cases ks : k < xs.length
            · have g11 := g11 hws hk ks
              have b4 : decide (k < (xs.length : Int)) = true := by simp; omega
              simp (disch := omega) only [go_sem, hD, hG', g1, g4, g5, g12, g13, rowAppW, kz, d1, g6, g8, d2, g10, d4, b1, g7, g9, b2, g11, b4, unbox]
              iterate 12 (all_goals (try (first | (refine RegT.mk [] ?_; simp (disch := omega) only [go_sem, hD, hG', g1, g4, g5, g12, g13, rowAppW, kz, d1, g6, g8, d2, g10, d4, b1, g7, g9, b2, g11, b4, unbox]) | refine ⟨by omega, ?_⟩)))
              refine endW [] [] (by simp) rfl rfl rfl ?_ ?_ <;> simp only [go_sem]
              subst hr; rfl
            · have b4 : decide (k < (xs.length : Int)) = false := by simp; omega
              simp (disch := omega) only [go_sem, hD, hG', g1, g4, g5, g12, g13, rowAppW, kz, d1, g6, g8, d2, g10, d4, b1, g7, g9, b2, b4, unbox]
              iterate 12 (all_goals (try (first | (refine RegT.mk [] ?_; simp (disch := omega) only [go_sem, hD, hG', g1, g4, g5, g12, g13, rowAppW, kz, d1, g6, g8, d2, g10, d4, b1, g7, g9, b2, b4, unbox]) | refine ⟨by omega, ?_⟩)))
              refine endW [] [] (by simp) rfl rfl rfl ?_ ?_ <;> simp only [go_sem]
              subst hr; rfl
          · have b1 : (ws == 0) = false := by simp [hws]
            simp (disch := omega) only [go_sem, hD, hG', g1, g4, g5, g12, g13, rowAppW, kz, d1, g6, g8, d2, g10, d4, b1, unbox]
            iterate 12 (all_goals (try (first | (refine RegT.mk [] ?_; simp (disch := omega) only [go_sem, hD, hG', g1, g4, g5, g12, g13, rowAppW, kz, d1, g6, g8, d2, g10, d4, b1, unbox]) | refine ⟨by omega, ?_⟩)))
            refine endW [] [] (by simp) rfl rfl rfl ?_ ?_ <;> simp only [go_sem]
            subst hr; rfl
        · have d4 : decide (k < (xa.length : Int)) = false := by simp; omega
          by_cases hws : ws = 0
          · have b1 : (ws == 0) = true := by simp [hws]
            have g7 := g7 hws
            have g9 := g9 hws
            have bl := ls hws
            have b2 : decide ((xs.length : Int) > 400) = false := by simp; omega
            by_cases ks : k < xs.length
            · have g11 := g11 hws hk ks
              have b4 : decide (k < (xs.length : Int)) = true := by simp; omega
              simp (disch := omega) only [go_sem, hD, hG', g1, g4, g5, g12, g13, rowAppW, kz, d1, g6, g8, d2, d4, b1, g7, g9, b2, g11, b4, unbox]
              iterate 12 (all_goals (try (first | (refine RegT.mk [] ?_; simp (disch := omega) only [go_sem, hD, hG', g1, g4, g5, g12, g13, rowAppW, kz, d1, g6, g8, d2, d4, b1, g7, g9, b2, g11, b4, unbox]) | refine ⟨by omega, ?_⟩)))
              refine endW [] [] (by simp) rfl rfl rfl ?_ ?_ <;> simp only [go_sem]
              subst hr; rfl
            · have b4 : decide (k < (xs.length : Int)) = false := by simp; omega
              simp (disch := omega) only [go_sem, hD, hG', g1, g4, g5, g12, g13, rowAppW, kz, d1, g6, g8, d2, d4, b1, g7, g9, b2, b4, unbox]
              iterate 12 (all_goals (try (first | (refine RegT.mk [] ?_; simp (disch := omega) only [go_sem, hD, hG', g1, g4, g5, g12, g13, rowAppW, kz, d1, g6, g8, d2, d4, b1, g7, g9, b2, b4, unbox]) | refine ⟨by omega, ?_⟩)))
              refine endW [] [] (by simp) rfl rfl rfl ?_ ?_ <;> simp only [go_sem]
              subst hr; rfl
          · have b1 : (ws == 0) = false := by simp [hws]
            simp (disch := omega) only [go_sem, hD, hG', g1, g4, g5, g12, g13, rowAppW, kz, d1, g6, g8, d2, d4, b1, unbox]
            iterate 12 (all_goals (try (first | (refine RegT.mk [] ?_; simp (disch := omega) only [go_sem, hD, hG', g1, g4, g5, g12, g13, rowAppW, kz, d1, g6, g8, d2, d4, b1, unbox]) | refine ⟨by omega, ?_⟩)))
            refine endW [] [] (by simp) rfl rfl rfl ?_ ?_ <;> simp only [go_sem]
            subst hr; rfl
      · have d1 : (wa == 0) = false := by simp [hwa]
        by_cases hws : ws = 0
        · have b1 : (ws == 0) = true := by simp [hws]
          have g7 := g7 hws
          have g9 := g9 hws
          have bl := ls hws
          have b2 : decide ((xs.length : Int) > 400) = false := by simp; omega
          by_cases ks : k < xs.length
          · have g11 := g11 hws hk ks
            have b4 : decide (k < (xs.length : Int)) = true := by simp; omega
            simp (disch := omega) only [go_sem, hD, hG', g1, g4, g5, g12, g13, rowAppW, kz, d1, b1, g7, g9, b2, g11, b4, unbox]
            iterate 12 (all_goals (try (first | (refine RegT.mk [] ?_; simp (disch := omega) only [go_sem, hD, hG', g1, g4, g5, g12, g13, rowAppW, kz, d1, b1, g7, g9, b2, g11, b4, unbox]) | refine ⟨by omega, ?_⟩)))
            refine endW [] [] (by simp) rfl rfl rfl ?_ ?_ <;> simp only [go_sem]
            subst hr; rfl
          · have b4 : decide (k < (xs.length : Int)) = false := by simp; omega
            simp (disch := omega) only [go_sem, hD, hG', g1, g4, g5, g12, g13, rowAppW, kz, d1, b1, g7, g9, b2, b4, unbox]
            iterate 12 (all_goals (try (first | (refine RegT.mk [] ?_; simp (disch := omega) only [go_sem, hD, hG', g1, g4, g5, g12, g13, rowAppW, kz, d1, b1, g7, g9, b2, b4, unbox]) | refine ⟨by omega, ?_⟩)))
            refine endW [] [] (by simp) rfl rfl rfl ?_ ?_ <;> simp only [go_sem]
            subst hr; rfl
        · have b1 : (ws == 0) = false := by simp [hws]
          simp (disch := omega) only [go_sem, hD, hG', g1, g4, g5, g12, g13, rowAppW, kz, d1, b1, unbox]
          iterate 12 (all_goals (try (first | (refine RegT.mk [] ?_; simp (disch := omega) only [go_sem, hD, hG', g1, g4, g5, g12, g13, rowAppW, kz, d1, b1, unbox]) | refine ⟨by omega, ?_⟩)))
          refine endW [] [] (by simp) rfl rfl rfl ?_ ?_ <;> simp only [go_sem]
          subst hr; rfl
    · have kz : decide (k ≥ 0) = false := by simp; omega
      by_cases hwa : wa = 0
      · have d1 : (wa == 0) = true := by simp [hwa]
        have g6 := g6 hwa
        have g8 := g8 hwa
        have dl := la hwa
        have d2 : decide ((xa.length : Int) > 400) = false := by simp; omega
        by_cases hws : ws = 0
        · have b1 : (ws == 0) = true := by simp [hws]
          have g7 := g7 hws
          have g9 := g9 hws
          have bl := ls hws
          have b2 : decide ((xs.length : Int) > 400) = false := by simp; omega
          simp (disch := omega) only [go_sem, hD, hG', g1, g4, g5, g12, g13, rowAppW, kz, d1, g6, g8, d2, b1, g7, g9, b2, unbox]
          iterate 12 (all_goals (try (first | (refine RegT.mk [] ?_; simp (disch := omega) only [go_sem, hD, hG', g1, g4, g5, g12, g13, rowAppW, kz, d1, g6, g8, d2, b1, g7, g9, b2, unbox]) | refine ⟨by omega, ?_⟩)))
          refine endW [] [] (by simp) rfl rfl rfl ?_ ?_ <;> simp only [go_sem]
          subst hr; rfl
        · have b1 : (ws == 0) = false := by simp [hws]
          simp (disch := omega) only [go_sem, hD, hG', g1, g4, g5, g12, g13, rowAppW, kz, d1, g6, g8, d2, b1, unbox]
          iterate 12 (all_goals (try (first | (refine RegT.mk [] ?_; simp (disch := omega) only [go_sem, hD, hG', g1, g4, g5, g12, g13, rowAppW, kz, d1, g6, g8, d2, b1, unbox]) | refine ⟨by omega, ?_⟩)))
          refine endW [] [] (by simp) rfl rfl rfl ?_ ?_ <;> simp only [go_sem]
          subst hr; rfl
      · have d1 : (wa == 0) = false := by simp [hwa]
        by_cases hws : ws = 0
        · have b1 : (ws == 0) = true := by simp [hws]
          have g7 := g7 hws
          have g9 := g9 hws
          have bl := ls hws
          have b2 : decide ((xs.length : Int) > 400) = false := by simp; omega
          simp (disch := omega) only [go_sem, hD, hG', g1, g4, g5, g12, g13, rowAppW, kz, d1, b1, g7, g9, b2, unbox]
          iterate 12 (all_goals (try (first | (refine RegT.mk [] ?_; simp (disch := omega) only [go_sem, hD, hG', g1, g4, g5, g12, g13, rowAppW, kz, d1, b1, g7, g9, b2, unbox]) | refine ⟨by omega, ?_⟩)))
          refine endW [] [] (by simp) rfl rfl rfl ?_ ?_ <;> simp only [go_sem]
          subst hr; rfl
        · have b1 : (ws == 0) = false := by simp [hws]
          simp (disch := omega) only [go_sem, hD, hG', g1, g4, g5, g12, g13, rowAppW, kz, d1, b1, unbox]
          iterate 12 (all_goals (try (first | (refine RegT.mk [] ?_; simp (disch := omega) only [go_sem, hD, hG', g1, g4, g5, g12, g13, rowAppW, kz, d1, b1, unbox]) | refine ⟨by omega, ?_⟩)))
          refine endW [] [] (by simp) rfl rfl rfl ?_ ?_ <;> simp only [go_sem]
          subst hr; rfl
  exact hcon _ rfl
end Go.Proofs.YtmlejhpeoiicpaaDoor.Ab
