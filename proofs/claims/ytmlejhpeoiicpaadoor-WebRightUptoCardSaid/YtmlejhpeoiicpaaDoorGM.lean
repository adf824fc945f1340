/-
  Texts of the proof, one behind the other: WbU.
  No condition but those that each theorem names.
-/
import Derived.Test.YtmlejhpeoiicpaaDoorGH
import Derived.Test.YtmlejhpeoiicpaaDoorGC
import Derived.Test.YtmlejhpeoiicpaaDoorGI
import Derived.Test.YtmlejhpeoiicpaaDoorGK
import Derived.Test.YtmlejhpeoiicpaaDoorGL
namespace Go.Proofs.YtmlejhpeoiicpaaDoor.Ab
open Go Go.RowKit
set_option linter.unusedVariables false
set_option linter.unusedSimpArgs false

attribute [go_sem] List.getD_nil
theorem nokW {n : LNote} (h : wrongS n = 0) : NOk n := by
  obtain ⟨h1, h2, h3⟩ := wrongS_ok h
  refine ⟨by omega, by omega, fun p hp => ?_⟩
  obtain ⟨q1, q2⟩ := propS_ok (h2 p hp)
  refine ⟨⟨?_, ?_⟩, ?_⟩ <;> omega
theorem pgok {f : Wd} {hs : List Wd} {n : LNote} (h : wrongS n = 0) (hl : (pageB f hs n).length ≤ 1000000) (hh : hs.length ≤ 1000000) : PgOk f hs n := ⟨nokW h, hh, by unfold pageB at hl; rw [List.length_append] at hl; omega⟩
theorem wabok {a : LAsk} (h : wrongAskS a = 0) : AQOk a := by
  obtain ⟨h1, h2, h3, h4, h5, h6⟩ := lwAsk_ok h
  have hn : -1073741824 ≤ a.n ∧ a.n ≤ 1073741824 := by
    unfold lowS highS at h4
    split at h4 <;> split at h4 <;> (try split at h4) <;> omega
  have hq : a.queue.data.toList.length ≤ 8 := by
    cases hn : namedS a.kind
    · rw [h3 hn]; simp
    · exact (key_seen (h2 hn)).2.2
  exact ⟨⟨by show a.queue.data.toList.length ≤ 1000000; omega, hn.1, hn.2⟩, pgok h6 (by have := (ask_good h).ln; omega) (by simp)⟩
theorem wsbok {s : LSay} (h : wrongSayS s = 0) : SQOk s := by
  have w0 : wrongS note0 = 0 := by decide
  obtain ⟨_, _, h3, h4, h5, h6, h7, h8, h9, _⟩ := wrongSay_ok h
  have hi1 := Lib.itoa_length_le s.n (by omega) (by omega)
  have hi2 := Lib.itoa_length_le s.m (by omega) (by omega)
  have hi3 := Lib.itoa_length_le s.err (by omega) (by omega)
  refine ⟨by omega, by omega, by omega, fun _ => pgok h9 ?_ (by simp), fun _ => pgok w0 ?_ (by simp)⟩
  · have := page_len (f := okW) (hs := [tagH ++ Lib.itoa s.n, triesH ++ Lib.itoa s.m]) h9
    simp only [okW, tagH, triesH, List.map_cons, List.map_nil, List.sum_cons, List.sum_nil, List.length_append, List.length_cons, List.length_nil] at this ⊢
    omega
  · have := page_len (f := wrongW) (hs := [errorH ++ Lib.itoa s.err]) w0
    simp only [wrongW, errorH, List.map_cons, List.map_nil, List.sum_cons, List.sum_nil, List.length_append, List.length_cons, List.length_nil] at this ⊢
    omega
def wbLo : Nat → Lo := fun id => match id with | 2 => {hand := true} | _ => {}
set_option maxRecDepth 100000 in
theorem con_wbalive : Con Tryd.prog D 16 [] ⟨.bool true, []⟩ := by
  have ha := wask_turn aL_right []
  have hs := wsay_turn sL_right []
  rw [List.append_nil] at ha hs
  have hok : GOk Tryd.prog D (tabG [eWaskbytes, eWsaybytes, eWask, eWsay, eSameask, eSamesay]) := tabG_ok _
  have g1 := tabG_use (T := [eWaskbytes, eWsaybytes, eWask, eWsay, eSameask, eSamesay]) (E := eWaskbytes) (i := 0) rfl (by decide) (aL) (wabok aL_right)
  have g2 := tabG_use (T := [eWaskbytes, eWsaybytes, eWask, eWsay, eSameask, eSamesay]) (E := eWsaybytes) (i := 1) rfl (by decide) (sL) (wsbok sL_right)
  have g3 := tabG_use (T := [eWaskbytes, eWsaybytes, eWask, eWsay, eSameask, eSamesay]) (E := eWask) (i := 2) rfl (by decide) (askPg aL) (by have := ha.2; show (askPg aL).length ≤ _; omega)
  have g4 := tabG_use (T := [eWaskbytes, eWsaybytes, eWask, eWsay, eSameask, eSamesay]) (E := eWsay) (i := 3) rfl (by decide) (sayPg sL) (by have := hs.2; show (sayPg sL).length ≤ _; omega)
  have g5 := tabG_use (T := [eWaskbytes, eWsaybytes, eWask, eWsay, eSameask, eSamesay]) (E := eSameask) (i := 4) rfl (by decide) ((aL, aL)) (⟨ask_fits aL_right, ask_fits aL_right⟩)
  have g6 := tabG_use (T := [eWaskbytes, eWsaybytes, eWask, eWsay, eSameask, eSamesay]) (E := eSamesay) (i := 5) rfl (by decide) ((sL, sL)) (⟨say_fits sL_right, say_fits sL_right⟩)
  generalize tabG [eWaskbytes, eWsaybytes, eWask, eWsay, eSameask, eSamesay] = G at *
  dsimp only [eWaskbytes] at g1
  dsimp only [eWsaybytes] at g2
  dsimp only [eWask] at g3
  dsimp only [eWsay] at g4
  dsimp only [eSameask] at g5
  dsimp only [eSamesay] at g6
  have hl1 : 10 < (askPg aL).length := by decide +kernel
  have hl2 : 10 < (sayPg sL).length := by decide +kernel
  rw [ha.1] at g3
  rw [hs.1] at g4
  have e1 : askA aL = .agg [.int .i64 4, .str [113], .int .i64 0, .sl 4 [[.str [107], .int .i64 2, .int .i64 0, .str [97, 32, 98]]], .sl 1 [[.int .u8 120]]] := rfl
  have e2 : sayA sL = .agg [.int .i64 2, .int .i64 3, .int .i64 1, .int .i64 0, .sl 4 [[.str [107], .int .i64 2, .int .i64 0, .str [97, 32, 98]]], .sl 1 [[.int .u8 120]]] := rfl
  simp only [e1, e2, decide_true] at g1 g2 g3 g4 g5 g6
  generalize askPg aL = la at *
  generalize sayPg sL = ls at *
  clear ha hs
  refine conW (G := G) (rs := [(0, none)]) hok Tryd.func16 Tryd.results16 Tryd.ntmps16 (wbLo) fun X hP hD hG' hX => ?_
  simp only [argS, num]
  have d1 : decide ((la.length : Int) > 10) = true := by simp; omega
  have d2 : decide ((ls.length : Int) > 10) = true := by simp; omega
  simp (disch := omega) only [go_sem, hD, hG', g1, g2, g3, g4, g5, g6, wbLo, unbox]
  ((try and_intros); all_goals (try first | omega | decide | (simp; done) | (simp only [List.length_append, List.length_cons, List.length_nil, List.length_map]; omega)))
  refine Tr.split hX 0 (by decide) ?_
  simp only [List.take_zero, regW_nil]
  refine ⟨_, Wk.freeze [12], ?_⟩
  simp (disch := omega) only [go_sem, hD, hG', g1, g2, g3, g4, g5, g6, d1, d2, wbLo, unbox]
  refine ⟨by decide, RegT.mk [] ?_⟩
  simp (disch := omega) only [go_sem, hD, hG', g1, g2, g3, g4, g5, g6, d1, d2, wbLo, unbox]
  refine endW [] [] (by simp) rfl rfl rfl ?_ ?_ <;> simp only [go_sem]
def eWbalive : Ent Tryd.prog D := ⟨16, Unit, fun _ => [], fun _ => True, fun _ => ⟨.bool true, []⟩, fun x y _ _ h => rfl, fun _ _ => con_wbalive⟩
set_option maxRecDepth 100000 in
set_option maxHeartbeats 2000000 in
theorem con_webright (l : Wd) (hl : l.length ≤ 4194304) : Con Tryd.prog D 6 [.sl 1 (l.map byteRow)] ⟨.bool true, []⟩ := by
  have ra := wask_right l
  have rs := wsay_right l
  have fa : (waskR l).1.Fits := by
    rcases ra with h1 | h1
    · exact ask_fits h1.2.1
    · rw [h1.2.2]; exact ⟨by decide, fits_right (by decide)⟩
  have fs : (wsayR l).1.note.Fits := by
    rcases rs with h1 | h1
    · exact say_fits h1.2.1
    · rw [h1.2.2]; exact fits_right (by decide)
  have hok : GOk Tryd.prog D (tabG [eWbalive, eWask, eWsay, eRefwrongask, eRefwrongsay]) := tabG_ok _
  have g1 := tabG_use (T := [eWbalive, eWask, eWsay, eRefwrongask, eRefwrongsay]) (E := eWbalive) (i := 0) rfl (by decide) (()) (trivial)
  have g2 := tabG_use (T := [eWbalive, eWask, eWsay, eRefwrongask, eRefwrongsay]) (E := eWask) (i := 1) rfl (by decide) (l) (by show l.length ≤ _; omega)
  have g3 := tabG_use (T := [eWbalive, eWask, eWsay, eRefwrongask, eRefwrongsay]) (E := eWsay) (i := 2) rfl (by decide) (l) (by show l.length ≤ _; omega)
  have g4 := tabG_use (T := [eWbalive, eWask, eWsay, eRefwrongask, eRefwrongsay]) (E := eRefwrongask) (i := 3) rfl (by decide) ((waskR l).1) (fa)
  have g5 := tabG_use (T := [eWbalive, eWask, eWsay, eRefwrongask, eRefwrongsay]) (E := eRefwrongsay) (i := 4) rfl (by decide) ((wsayR l).1) (fs)
  generalize tabG [eWbalive, eWask, eWsay, eRefwrongask, eRefwrongsay] = G at *
  dsimp only [eWbalive] at g1
  dsimp only [eWask] at g2
  dsimp only [eWsay] at g3
  dsimp only [eRefwrongask] at g4
  dsimp only [eRefwrongsay] at g5
  clear fa fs
  generalize waskR l = a at *
  generalize wsayR l = s at *
  obtain ⟨⟨ak, aq, an, ⟨ap, ab⟩⟩, n, e⟩ := a
  obtain ⟨⟨sk, sn, sm, se, ⟨sp, sb⟩⟩, m, f⟩ := s
  simp only [askA, sayA, lask0, lsay0, LAsk.mk.injEq, LSay.mk.injEq] at g2 g3 g4 g5 ra rs
  generalize wrongAskS ⟨ak, aq, an, ⟨ap, ab⟩⟩ = wa at *
  generalize wrongSayS ⟨sk, sn, sm, se, ⟨sp, sb⟩⟩ = ws at *
  have hcon : ∀ r, r = true → Con Tryd.prog D 6 [.sl 1 (l.map byteRow)] ⟨.bool r, []⟩ := by
    intro r hr
    refine conW (G := G) (rs := [(2, none)]) hok Tryd.func6 Tryd.results6 Tryd.ntmps6 (fun _ => {}) fun X hP hD hG' hX => ?_
    simp only [argS, num]
    by_cases he : e = 0
    · have de : (e == 0) = true := by simp [he]
      have dn : (e != 0) = false := by simp [he]
      have hw : wa = 0 ∧ 1 ≤ n ∧ n ≤ l.length ∧ n ≤ 400 := by omega
      have a1 : (wa != 0) = false := by simp [hw.1]
      have a2 : decide (n < 1) = false := by simp; omega
      have a3 : decide (n > (l.length : Int)) = false := by simp; omega
      have a4 : decide (n > 400) = false := by simp; omega
      by_cases hf : f = 0
      · have df : (f == 0) = true := by simp [hf]
        have dm : (f != 0) = false := by simp [hf]
        have hv : ws = 0 ∧ 1 ≤ m ∧ m ≤ l.length ∧ m ≤ 400 := by omega
        have b1 : (ws == 0) = true := by simp [hv.1]
        have b2 : decide (m ≥ 1) = true := by simp; omega
        have b3 : decide (m ≤ (l.length : Int)) = true := by simp; omega
        have b4 : decide (m ≤ 400) = true := by simp; omega
        simp (disch := omega) only [go_sem, hD, hG', g1, g2, g3, g4, g5, de, dn, a1, a2, a3, a4, df, dm, b1, b2, b3, b4, unbox]
        iterate 4 (all_goals (try (refine RegT.mk [] ?_; simp (disch := omega) only [go_sem, hD, hG', g1, g2, g3, g4, g5, de, dn, a1, a2, a3, a4, df, dm, b1, b2, b3, b4, unbox])))
        refine endW [] [] (by simp) rfl rfl rfl ?_ ?_ <;> simp only [go_sem]
        subst hr; rfl
      · have df : (f == 0) = false := by simp [hf]
        have dm : (f != 0) = true := by simp [hf]
        have hv : m = 0 ∧ sk = 0 := by
          rcases rs with h1 | h1
          · exact absurd h1.1 hf
          · exact ⟨h1.2.1, h1.2.2.1⟩
        obtain ⟨rfl, rfl⟩ := hv
        simp (disch := omega) only [go_sem, hD, hG', g1, g2, g3, g4, g5, de, dn, a1, a2, a3, a4, df, dm, unbox]
        iterate 4 (all_goals (try (refine RegT.mk [] ?_; simp (disch := omega) only [go_sem, hD, hG', g1, g2, g3, g4, g5, de, dn, a1, a2, a3, a4, df, dm, unbox])))
        refine endW [] [] (by simp) rfl rfl rfl ?_ ?_ <;> simp only [go_sem]
        subst hr; rfl
    · have de : (e == 0) = false := by simp [he]
      have dn : (e != 0) = true := by simp [he]
      have hw : n = 0 ∧ ak = 0 := by
        rcases ra with h1 | h1
        · exact absurd h1.1 he
        · exact ⟨h1.2.1, h1.2.2.1⟩
      obtain ⟨rfl, rfl⟩ := hw
      by_cases hf : f = 0
      · have df : (f == 0) = true := by simp [hf]
        have dm : (f != 0) = false := by simp [hf]
        have hv : ws = 0 ∧ 1 ≤ m ∧ m ≤ l.length ∧ m ≤ 400 := by omega
        have b1 : (ws == 0) = true := by simp [hv.1]
        have b2 : decide (m ≥ 1) = true := by simp; omega
        have b3 : decide (m ≤ (l.length : Int)) = true := by simp; omega
        have b4 : decide (m ≤ 400) = true := by simp; omega
        simp (disch := omega) only [go_sem, hD, hG', g1, g2, g3, g4, g5, de, dn, df, dm, b1, b2, b3, b4, unbox]
        iterate 4 (all_goals (try (refine RegT.mk [] ?_; simp (disch := omega) only [go_sem, hD, hG', g1, g2, g3, g4, g5, de, dn, df, dm, b1, b2, b3, b4, unbox])))
        refine endW [] [] (by simp) rfl rfl rfl ?_ ?_ <;> simp only [go_sem]
        subst hr; rfl
      · have df : (f == 0) = false := by simp [hf]
        have dm : (f != 0) = true := by simp [hf]
        have hv : m = 0 ∧ sk = 0 := by
          rcases rs with h1 | h1
          · exact absurd h1.1 hf
          · exact ⟨h1.2.1, h1.2.2.1⟩
        obtain ⟨rfl, rfl⟩ := hv
        simp (disch := omega) only [go_sem, hD, hG', g1, g2, g3, g4, g5, de, dn, df, dm, unbox]
        iterate 4 (all_goals (try (refine RegT.mk [] ?_; simp (disch := omega) only [go_sem, hD, hG', g1, g2, g3, g4, g5, de, dn, df, dm, unbox])))
        refine endW [] [] (by simp) rfl rfl rfl ?_ ?_ <;> simp only [go_sem]
        subst hr; rfl
  exact hcon _ rfl
end Go.Proofs.YtmlejhpeoiicpaaDoor.Ab
