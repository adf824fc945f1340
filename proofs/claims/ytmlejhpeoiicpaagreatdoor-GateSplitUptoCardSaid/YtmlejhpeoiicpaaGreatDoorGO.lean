/-
  Texts of the proof, one behind the other: GtS GtA GtB.
  No condition but those that each theorem names.
-/
import Derived.Test.YtmlejhpeoiicpaaGreatDoorGL
import Derived.Test.YtmlejhpeoiicpaaGreatDoorGP
import Derived.Test.YtmlejhpeoiicpaaGreatDoorGC
namespace Go.Proofs.YtmlejhpeoiicpaaGreatDoor.Ab
open Go Go.RowKit
set_option linter.unusedVariables false

def tAsk (n : Int) (b : Wd) : LAsk × Int × Int := if n = 1 then askP b else if n = 2 then laskR b else waskR b
def tSay (n : Int) (b : Wd) : LSay × Int × Int := if n = 1 then sayP b else if n = 2 then lsayR b else wsayR b
def tAskB (n : Int) (a : LAsk) : Wd := if n = 1 then framedS (askB a) else if n = 2 then lineB (askW a) else askPg a
def tSayB (n : Int) (s : LSay) : Wd := if n = 1 then framedS (sayB s) else if n = 2 then lineB (sayW s) else sayPg s
def isT (n : Int) : Prop := n = 1 ∨ n = 2 ∨ n = 3
instance (n : Int) : Decidable (isT n) := by unfold isT; infer_instance
def gaskB (n : Int) (a : LAsk) : Wd × Int := if isT n then (if wrongAskS a = 0 then (tAskB n a, 0) else ([], wrongAskS a)) else ([], 1)
def gsayB (n : Int) (s : LSay) : Wd × Int := if isT n then (if wrongSayS s = 0 then (tSayB n s, 0) else ([], wrongSayS s)) else ([], 1)
/-- all that bytes begin with, one by one -/
def allF {α : Type} (T : Wd → α × Int × Int) : Nat → Int → Wd → List α × Wd × Int
  | 0, _, b => ([], b, 0)
  | f + 1, most, b =>
    if most ≤ 0 then ([], b, 0)
    else if (T b).2.2 = 9 then ([], b, 0)
    else if (T b).2.2 ≠ 0 then ([], b, (T b).2.2)
    else ((T b).1 :: (allF T f (most - 1) (b.drop (T b).2.1.toNat)).1, (allF T f (most - 1) (b.drop (T b).2.1.toNat)).2)
def gasks (n : Int) (b : Wd) (most : Int) : List LAsk × Wd × Int := if isT n then allF (tAsk n) (b.length + 1) most b else ([], [], 1)
def gsays (n : Int) (b : Wd) : List LSay × Wd × Int := if isT n then allF (tSay n) (b.length + 1) (b.length + 1) b else ([], [], 1)
theorem tSay_turn {n : Int} (hn : isT n) {s : LSay} (h : wrongSayS s = 0) (more : Wd) : tSay n (tSayB n s ++ more) = (s, ((tSayB n s).length : Int), 0) := by
  unfold tSay tSayB
  rcases hn with rfl | rfl | rfl
  · exact say_turn more h
  · exact (lsay_turn h more).1
  · exact (wsay_turn h more).1
theorem tSay_nil {n : Int} (hn : isT n) : (tSay n []).2.2 = 9 := by
  rcases hn with rfl | rfl | rfl
  · rfl
  · rfl
  · decide +kernel
theorem gsays_one {n : Int} (hn : isT n) {s : LSay} (h : wrongSayS s = 0) : gsays n (tSayB n s) = ([s], [], 0) := by
  have ht := tSay_turn hn h []
  rw [List.append_nil] at ht
  unfold gsays
  rw [if_pos hn, allF, if_neg (by omega), ht]
  simp only [Int.toNat_natCast, List.drop_length]
  rw [if_neg (by decide), if_neg (by simp)]
  cases hl : (tSayB n s).length with
  | zero => rfl
  | succ k =>
    rw [allF, if_neg (by omega), if_pos (tSay_nil hn)]
end Go.Proofs.YtmlejhpeoiicpaaGreatDoor.Ab
namespace Go.Proofs.YtmlejhpeoiicpaaGreatDoor.Ab
open Go Go.RowKit
set_option linter.unusedVariables false
set_option linter.unusedSimpArgs false

theorem abokG {a : LAsk} (h : wrongAskS a = 0) : ABOk a := by
  obtain ⟨h1, h2, h3, h4, h5, h6, _⟩ := wrongAsk_ok h
  obtain ⟨_, _, l1, l2⟩ := askW_ok h
  exact ⟨⟨h1, h2⟩, by omega, fun _ => nokG h6, by omega⟩
theorem sbokG {s : LSay} (h : wrongSayS s = 0) : SBOk s := by
  obtain ⟨_, _, h3, h4, h5, h6, h7, h8, h9, _⟩ := wrongSay_ok h
  obtain ⟨_, _, l1, l2⟩ := sayW_ok h
  exact ⟨by omega, by omega, by omega, fun _ => nokG h9, by omega⟩
set_option maxRecDepth 100000 in
set_option maxHeartbeats 4000000 in
theorem con_gaskbytes (n : Int) (a : LAsk) (fa : a.Fits) : Con Tryz.prog D 38 [.int .i64 n, askA a] ⟨.tup [.sl 1 ((gaskB n a).1.map byteRow), .int .i64 (gaskB n a).2], []⟩ := by
  have hok : GOk Tryz.prog D (tabG [eWrongask, eAskbytes, eLaskbytes, eWaskbytes]) := tabG_ok _
  have g1 := tabG_use (T := [eWrongask, eAskbytes, eLaskbytes, eWaskbytes]) (E := eWrongask) (i := 0) rfl (by decide) (a) (fa)
  have g2 := fun (h : wrongAskS a = 0) => tabG_use (T := [eWrongask, eAskbytes, eLaskbytes, eWaskbytes]) (E := eAskbytes) (i := 1) rfl (by decide) (a) (h)
  have g3 := fun (h : wrongAskS a = 0) => tabG_use (T := [eWrongask, eAskbytes, eLaskbytes, eWaskbytes]) (E := eLaskbytes) (i := 2) rfl (by decide) (a) (abokG h)
  have g4 := fun (h : wrongAskS a = 0) => tabG_use (T := [eWrongask, eAskbytes, eLaskbytes, eWaskbytes]) (E := eWaskbytes) (i := 3) rfl (by decide) (a) (wabokG h)
  have gn : ∀ x, tabG [eWrongask, eAskbytes, eLaskbytes, eWaskbytes] 82 x = none := fun x => rfl
  generalize tabG [eWrongask, eAskbytes, eLaskbytes, eWaskbytes] = G at *
  dsimp only [eWrongask] at g1
  dsimp only [eAskbytes] at g2
  dsimp only [eLaskbytes] at g3
  dsimp only [eWaskbytes] at g4
  have hcon : ∀ r, r = gaskB n a → Con Tryz.prog D 38 [.int .i64 n, askA a] ⟨.tup [.sl 1 (r.1.map byteRow), .int .i64 r.2], []⟩ := by
    intro r hr
    unfold gaskB tAskB at hr
    generalize wrongAskS a = wa at *
    generalize framedS (askB a) = b1 at *
    generalize lineB (askW a) = b2 at *
    generalize askPg a = b3 at *
    obtain ⟨ak, aq, an, ⟨ap, ab⟩⟩ := a
    simp only [askA] at g1 g2 g3 g4
    refine conW (G := G) (rs := [(4, none), (5, none)]) hok Tryz.func38 Tryz.results38 Tryz.ntmps38 (fun _ => {}) fun X hP hD hG' hX => ?_
    simp only [argS, num, askA]
    by_cases h1 : n = 1
    · have e1 : (n == 1) = true := by simp [h1]
      rw [if_pos (.inl h1), if_pos h1] at hr
      by_cases hw : wa = 0
      · have d : (wa != 0) = false := by simp [hw]
        have g2 := g2 hw
        rw [if_pos hw] at hr
        subst hr
        simp (disch := omega) only [go_sem, hD, hG', gn, unbox]
        refine inlW (rs := [(2, some 116), (3, none)]) hX hP 70000 (fun _ => {}) Tryz.func82 Tryz.results82 Tryz.ntmps82 fun hX1 => ?_
        simp (disch := omega) only [go_sem, hD, hG', enterS, leaveS, shT, unT, resA, num, unbox, Option.some.injEq, exists_eq_left', tmv, e1, unbox]
        simp (disch := omega) only [go_sem, hD, hG', g1, d, g2, unbox]
        (repeat (with_reducible refine And.intro (by first | omega | decide | (simp; done) | (simp only [List.length_append, List.length_cons, List.length_nil, List.length_map]; omega)) ?_))
        refine endW [4120] [] (by simp) rfl rfl rfl ?_ ?_ <;> simp only [go_sem]
      · have d : (wa != 0) = true := by simp [hw]
        rw [if_neg hw] at hr
        subst hr
        simp (disch := omega) only [go_sem, hD, hG', gn, unbox]
        refine inlW (rs := [(2, some 116), (3, none)]) hX hP 70000 (fun _ => {}) Tryz.func82 Tryz.results82 Tryz.ntmps82 fun hX1 => ?_
        simp (disch := omega) only [go_sem, hD, hG', enterS, leaveS, shT, unT, resA, num, unbox, Option.some.injEq, exists_eq_left', tmv, e1, unbox]
        simp (disch := omega) only [go_sem, hD, hG', g1, d, unbox]
        (repeat (with_reducible refine And.intro (by first | omega | decide | (simp; done) | (simp only [List.length_append, List.length_cons, List.length_nil, List.length_map]; omega)) ?_))
        refine endW [] [] (by simp) rfl rfl rfl ?_ ?_ <;> simp only [go_sem]
    have e1 : (n == 1) = false := by simp [h1]
    by_cases h2 : n = 2
    · have e2 : (n == 2) = true := by simp [h2]
      rw [if_pos (.inr (.inl h2)), if_neg h1, if_pos h2] at hr
      by_cases hw : wa = 0
      · have d : (wa != 0) = false := by simp [hw]
        have g3 := g3 hw
        rw [if_pos hw] at hr
        subst hr
        simp (disch := omega) only [go_sem, hD, hG', gn, unbox]
        refine inlW (rs := [(2, some 116), (3, none)]) hX hP 70000 (fun _ => {}) Tryz.func82 Tryz.results82 Tryz.ntmps82 fun hX1 => ?_
        simp (disch := omega) only [go_sem, hD, hG', enterS, leaveS, shT, unT, resA, num, unbox, Option.some.injEq, exists_eq_left', tmv, e1, e2, unbox]
        simp (disch := omega) only [go_sem, hD, hG', g1, d, g3, unbox]
        (repeat (with_reducible refine And.intro (by first | omega | decide | (simp; done) | (simp only [List.length_append, List.length_cons, List.length_nil, List.length_map]; omega)) ?_))
        refine endW [] [] (by simp) rfl rfl rfl ?_ ?_ <;> simp only [go_sem]
      · have d : (wa != 0) = true := by simp [hw]
        rw [if_neg hw] at hr
        subst hr
        simp (disch := omega) only [go_sem, hD, hG', gn, unbox]
        refine inlW (rs := [(2, some 116), (3, none)]) hX hP 70000 (fun _ => {}) Tryz.func82 Tryz.results82 Tryz.ntmps82 fun hX1 => ?_
        simp (disch := omega) only [go_sem, hD, hG', enterS, leaveS, shT, unT, resA, num, unbox, Option.some.injEq, exists_eq_left', tmv, e1, e2, unbox]
        simp (disch := omega) only [go_sem, hD, hG', g1, d, unbox]
        (repeat (with_reducible refine And.intro (by first | omega | decide | (simp; done) | (simp only [List.length_append, List.length_cons, List.length_nil, List.length_map]; omega)) ?_))
        refine endW [] [] (by simp) rfl rfl rfl ?_ ?_ <;> simp only [go_sem]
    have e2 : (n == 2) = false := by simp [h2]
    by_cases h3 : n = 3
    · have e3 : (n == 3) = true := by simp [h3]
      rw [if_pos (.inr (.inr h3)), if_neg h1, if_neg h2] at hr
      by_cases hw : wa = 0
      · have d : (wa != 0) = false := by simp [hw]
        have g4 := g4 hw
        rw [if_pos hw] at hr
        subst hr
        simp (disch := omega) only [go_sem, hD, hG', gn, unbox]
        refine inlW (rs := [(2, some 116), (3, none)]) hX hP 70000 (fun _ => {}) Tryz.func82 Tryz.results82 Tryz.ntmps82 fun hX1 => ?_
        simp (disch := omega) only [go_sem, hD, hG', enterS, leaveS, shT, unT, resA, num, unbox, Option.some.injEq, exists_eq_left', tmv, e1, e2, e3, unbox]
        simp (disch := omega) only [go_sem, hD, hG', g1, d, g4, unbox]
        (repeat (with_reducible refine And.intro (by first | omega | decide | (simp; done) | (simp only [List.length_append, List.length_cons, List.length_nil, List.length_map]; omega)) ?_))
        refine endW [] [] (by simp) rfl rfl rfl ?_ ?_ <;> simp only [go_sem]
      · have d : (wa != 0) = true := by simp [hw]
        rw [if_neg hw] at hr
        subst hr
        simp (disch := omega) only [go_sem, hD, hG', gn, unbox]
        refine inlW (rs := [(2, some 116), (3, none)]) hX hP 70000 (fun _ => {}) Tryz.func82 Tryz.results82 Tryz.ntmps82 fun hX1 => ?_
        simp (disch := omega) only [go_sem, hD, hG', enterS, leaveS, shT, unT, resA, num, unbox, Option.some.injEq, exists_eq_left', tmv, e1, e2, e3, unbox]
        simp (disch := omega) only [go_sem, hD, hG', g1, d, unbox]
        (repeat (with_reducible refine And.intro (by first | omega | decide | (simp; done) | (simp only [List.length_append, List.length_cons, List.length_nil, List.length_map]; omega)) ?_))
        refine endW [] [] (by simp) rfl rfl rfl ?_ ?_ <;> simp only [go_sem]
    have e3 : (n == 3) = false := by simp [h3]
    rw [if_neg (fun h => h.elim h1 fun h => h.elim h2 h3)] at hr
    subst hr
    simp (disch := omega) only [go_sem, hD, hG', gn, unbox]
    refine inlW (rs := [(2, some 116), (3, none)]) hX hP 70000 (fun _ => {}) Tryz.func82 Tryz.results82 Tryz.ntmps82 fun hX1 => ?_
    simp (disch := omega) only [go_sem, hD, hG', enterS, leaveS, shT, unT, resA, num, unbox, Option.some.injEq, exists_eq_left', tmv, e1, e2, e3, unbox]
    try (simp (disch := omega) only [go_sem, hD, hG', unbox])
    (repeat (with_reducible refine And.intro (by first | omega | decide | (simp; done) | (simp only [List.length_append, List.length_cons, List.length_nil, List.length_map]; omega)) ?_))
    refine endW [] [] (by simp) rfl rfl rfl ?_ ?_ <;> simp only [go_sem]
  exact hcon _ rfl
set_option maxRecDepth 100000 in
set_option maxHeartbeats 4000000 in
theorem con_gsaybytes (n : Int) (a : LSay) (fa : a.note.Fits) : Con Tryz.prog D 39 [.int .i64 n, sayA a] ⟨.tup [.sl 1 ((gsayB n a).1.map byteRow), .int .i64 (gsayB n a).2], []⟩ := by
  have hok : GOk Tryz.prog D (tabG [eFrwrong, eSaybytes, eLsaybytes, eWsaybytes]) := tabG_ok _
  have g1 := tabG_use (T := [eFrwrong, eSaybytes, eLsaybytes, eWsaybytes]) (E := eFrwrong) (i := 0) rfl (by decide) (a) (fa)
  have g2 := fun (h : wrongSayS a = 0) => tabG_use (T := [eFrwrong, eSaybytes, eLsaybytes, eWsaybytes]) (E := eSaybytes) (i := 1) rfl (by decide) (a) (h)
  have g3 := fun (h : wrongSayS a = 0) => tabG_use (T := [eFrwrong, eSaybytes, eLsaybytes, eWsaybytes]) (E := eLsaybytes) (i := 2) rfl (by decide) (a) (sbokG h)
  have g4 := fun (h : wrongSayS a = 0) => tabG_use (T := [eFrwrong, eSaybytes, eLsaybytes, eWsaybytes]) (E := eWsaybytes) (i := 3) rfl (by decide) (a) (wsbokG h)
  have gn : ∀ x, tabG [eFrwrong, eSaybytes, eLsaybytes, eWsaybytes] 82 x = none := fun x => rfl
  generalize tabG [eFrwrong, eSaybytes, eLsaybytes, eWsaybytes] = G at *
  dsimp only [eFrwrong] at g1
  dsimp only [eSaybytes] at g2
  dsimp only [eLsaybytes] at g3
  dsimp only [eWsaybytes] at g4
  have hcon : ∀ r, r = gsayB n a → Con Tryz.prog D 39 [.int .i64 n, sayA a] ⟨.tup [.sl 1 (r.1.map byteRow), .int .i64 r.2], []⟩ := by
    intro r hr
    unfold gsayB tSayB at hr
    generalize wrongSayS a = wa at *
    generalize framedS (sayB a) = b1 at *
    generalize lineB (sayW a) = b2 at *
    generalize sayPg a = b3 at *
    obtain ⟨ak, an, am, ae, ⟨ap, ab⟩⟩ := a
    simp only [sayA] at g1 g2 g3 g4
    refine conW (G := G) (rs := [(4, none), (5, none)]) hok Tryz.func39 Tryz.results39 Tryz.ntmps39 (fun _ => {}) fun X hP hD hG' hX => ?_
    simp only [argS, num, sayA]
    by_cases h1 : n = 1
    · have e1 : (n == 1) = true := by simp [h1]
      rw [if_pos (.inl h1), if_pos h1] at hr
      by_cases hw : wa = 0
      · have d : (wa != 0) = false := by simp [hw]
        have g2 := g2 hw
        rw [if_pos hw] at hr
        subst hr
        simp (disch := omega) only [go_sem, hD, hG', gn, unbox]
        refine inlW (rs := [(2, some 116), (3, none)]) hX hP 70000 (fun _ => {}) Tryz.func82 Tryz.results82 Tryz.ntmps82 fun hX1 => ?_
        simp (disch := omega) only [go_sem, hD, hG', enterS, leaveS, shT, unT, resA, num, unbox, Option.some.injEq, exists_eq_left', tmv, e1, unbox]
        simp (disch := omega) only [go_sem, hD, hG', g1, d, g2, unbox]
        (repeat (with_reducible refine And.intro (by first | omega | decide | (simp; done) | (simp only [List.length_append, List.length_cons, List.length_nil, List.length_map]; omega)) ?_))
        refine endW [4120] [] (by simp) rfl rfl rfl ?_ ?_ <;> simp only [go_sem]
      · have d : (wa != 0) = true := by simp [hw]
        rw [if_neg hw] at hr
        subst hr
        simp (disch := omega) only [go_sem, hD, hG', gn, unbox]
        refine inlW (rs := [(2, some 116), (3, none)]) hX hP 70000 (fun _ => {}) Tryz.func82 Tryz.results82 Tryz.ntmps82 fun hX1 => ?_
        simp (disch := omega) only [go_sem, hD, hG', enterS, leaveS, shT, unT, resA, num, unbox, Option.some.injEq, exists_eq_left', tmv, e1, unbox]
        simp (disch := omega) only [go_sem, hD, hG', g1, d, unbox]
        (repeat (with_reducible refine And.intro (by first | omega | decide | (simp; done) | (simp only [List.length_append, List.length_cons, List.length_nil, List.length_map]; omega)) ?_))
        refine endW [] [] (by simp) rfl rfl rfl ?_ ?_ <;> simp only [go_sem]
    have e1 : (n == 1) = false := by simp [h1]
    by_cases h2 : n = 2
    · have e2 : (n == 2) = true := by simp [h2]
      rw [if_pos (.inr (.inl h2)), if_neg h1, if_pos h2] at hr
      by_cases hw : wa = 0
      · have d : (wa != 0) = false := by simp [hw]
        have g3 := g3 hw
        rw [if_pos hw] at hr
        subst hr
        simp (disch := omega) only [go_sem, hD, hG', gn, unbox]
        refine inlW (rs := [(2, some 116), (3, none)]) hX hP 70000 (fun _ => {}) Tryz.func82 Tryz.results82 Tryz.ntmps82 fun hX1 => ?_
        simp (disch := omega) only [go_sem, hD, hG', enterS, leaveS, shT, unT, resA, num, unbox, Option.some.injEq, exists_eq_left', tmv, e1, e2, unbox]
        simp (disch := omega) only [go_sem, hD, hG', g1, d, g3, unbox]
        (repeat (with_reducible refine And.intro (by first | omega | decide | (simp; done) | (simp only [List.length_append, List.length_cons, List.length_nil, List.length_map]; omega)) ?_))
        refine endW [] [] (by simp) rfl rfl rfl ?_ ?_ <;> simp only [go_sem]
      · have d : (wa != 0) = true := by simp [hw]
        rw [if_neg hw] at hr
        subst hr
        simp (disch := omega) only [go_sem, hD, hG', gn, unbox]
        refine inlW (rs := [(2, some 116), (3, none)]) hX hP 70000 (fun _ => {}) Tryz.func82 Tryz.results82 Tryz.ntmps82 fun hX1 => ?_
        simp (disch := omega) only [go_sem, hD, hG', enterS, leaveS, shT, unT, resA, num, unbox, Option.some.injEq, exists_eq_left', tmv, e1, e2, unbox]
        simp (disch := omega) only [go_sem, hD, hG', g1, d, unbox]
        (repeat (with_reducible refine And.intro (by first | omega | decide | (simp; done) | (simp only [List.length_append, List.length_cons, List.length_nil, List.length_map]; omega)) ?_))
        refine endW [] [] (by simp) rfl rfl rfl ?_ ?_ <;> simp only [go_sem]
    have e2 : (n == 2) = false := by simp [h2]
    by_cases h3 : n = 3
    · have e3 : (n == 3) = true := by simp [h3]
      rw [if_pos (.inr (.inr h3)), if_neg h1, if_neg h2] at hr
      by_cases hw : wa = 0
      · have d : (wa != 0) = false := by simp [hw]
        have g4 := g4 hw
        rw [if_pos hw] at hr
        subst hr
        simp (disch := omega) only [go_sem, hD, hG', gn, unbox]
        refine inlW (rs := [(2, some 116), (3, none)]) hX hP 70000 (fun _ => {}) Tryz.func82 Tryz.results82 Tryz.ntmps82 fun hX1 => ?_
        simp (disch := omega) only [go_sem, hD, hG', enterS, leaveS, shT, unT, resA, num, unbox, Option.some.injEq, exists_eq_left', tmv, e1, e2, e3, unbox]
        simp (disch := omega) only [go_sem, hD, hG', g1, d, g4, unbox]
        (repeat (with_reducible refine And.intro (by first | omega | decide | (simp; done) | (simp only [List.length_append, List.length_cons, List.length_nil, List.length_map]; omega)) ?_))
        refine endW [] [] (by simp) rfl rfl rfl ?_ ?_ <;> simp only [go_sem]
      · have d : (wa != 0) = true := by simp [hw]
        rw [if_neg hw] at hr
        subst hr
        simp (disch := omega) only [go_sem, hD, hG', gn, unbox]
        refine inlW (rs := [(2, some 116), (3, none)]) hX hP 70000 (fun _ => {}) Tryz.func82 Tryz.results82 Tryz.ntmps82 fun hX1 => ?_
        simp (disch := omega) only [go_sem, hD, hG', enterS, leaveS, shT, unT, resA, num, unbox, Option.some.injEq, exists_eq_left', tmv, e1, e2, e3, unbox]
        simp (disch := omega) only [go_sem, hD, hG', g1, d, unbox]
        (repeat (with_reducible refine And.intro (by first | omega | decide | (simp; done) | (simp only [List.length_append, List.length_cons, List.length_nil, List.length_map]; omega)) ?_))
        refine endW [] [] (by simp) rfl rfl rfl ?_ ?_ <;> simp only [go_sem]
    have e3 : (n == 3) = false := by simp [h3]
    rw [if_neg (fun h => h.elim h1 fun h => h.elim h2 h3)] at hr
    subst hr
    simp (disch := omega) only [go_sem, hD, hG', gn, unbox]
    refine inlW (rs := [(2, some 116), (3, none)]) hX hP 70000 (fun _ => {}) Tryz.func82 Tryz.results82 Tryz.ntmps82 fun hX1 => ?_
    simp (disch := omega) only [go_sem, hD, hG', enterS, leaveS, shT, unT, resA, num, unbox, Option.some.injEq, exists_eq_left', tmv, e1, e2, e3, unbox]
    try (simp (disch := omega) only [go_sem, hD, hG', unbox])
    (repeat (with_reducible refine And.intro (by first | omega | decide | (simp; done) | (simp only [List.length_append, List.length_cons, List.length_nil, List.length_map]; omega)) ?_))
    refine endW [] [] (by simp) rfl rfl rfl ?_ ?_ <;> simp only [go_sem]
  exact hcon _ rfl
end Go.Proofs.YtmlejhpeoiicpaaGreatDoor.Ab
namespace Go.Proofs.YtmlejhpeoiicpaaGreatDoor.Ab
open Go Go.RowKit
set_option linter.unusedVariables false
set_option linter.unusedSimpArgs false

def askCs (a : LAsk) : List AV := [.int .i64 a.kind, .str a.queue.data.toList, .int .i64 a.n, .sl 4 (a.note.props.map propRow), .sl 1 (a.note.body.map byteRow)]
def sayCs (s : LSay) : List AV := [.int .i64 s.kind, .int .i64 s.n, .int .i64 s.m, .int .i64 s.err, .sl 4 (s.note.props.map propRow), .sl 1 (s.note.body.map byteRow)]
theorem askA_cs (a : LAsk) : askA a = .agg (askCs a) := rfl
theorem names_askA (a : LAsk) : namess (askCs a) = [] := by simp [askCs, names, namess]
theorem names_sayA (s : LSay) : namess (sayCs s) = [] := by simp [sayCs, names, namess]
def fA (n : Int) : Nat := if n = 1 then 106 else if n = 2 then 24 else 34
def fB (n : Int) : Nat := if n = 1 then 107 else if n = 2 then 19 else 30
def fC (n : Int) : Nat := if n = 1 then 108 else if n = 2 then 27 else 36
def fD (n : Int) : Nat := if n = 1 then 109 else if n = 2 then 22 else 32
theorem tAsk_right (n : Int) (b : Wd) : ((tAsk n b).2.2 = 0 ∧ wrongAskS (tAsk n b).1 = 0 ∧ 1 ≤ (tAsk n b).2.1 ∧ (tAsk n b).2.1 ≤ b.length) ∨ ((tAsk n b).2.2 ≠ 0 ∧ (tAsk n b).2.1 = 0) := by
  unfold tAsk
  split
  · rcases ask_right b with h | h
    · exact .inl ⟨h.1, h.2.1, h.2.2.1, h.2.2.2.1⟩
    · exact .inr ⟨h.1, h.2.1⟩
  · split
    · rcases lask_right b with h | h
      · exact .inl ⟨h.1, h.2.1, h.2.2.1, h.2.2.2.1⟩
      · exact .inr ⟨h.1, h.2.1⟩
    · rcases wask_right b with h | h
      · exact .inl ⟨h.1, h.2.1, h.2.2.1, h.2.2.2.1⟩
      · exact .inr ⟨h.1, h.2.1⟩
theorem tSay_right (n : Int) (b : Wd) : ((tSay n b).2.2 = 0 ∧ wrongSayS (tSay n b).1 = 0 ∧ 1 ≤ (tSay n b).2.1 ∧ (tSay n b).2.1 ≤ b.length) ∨ ((tSay n b).2.2 ≠ 0 ∧ (tSay n b).2.1 = 0) := by
  unfold tSay
  split
  · rcases say_right b with h | h
    · exact .inl ⟨h.1, h.2.1, h.2.2.1, h.2.2.2.1⟩
    · exact .inr ⟨h.1, h.2.1⟩
  · split
    · rcases lsay_right b with h | h
      · exact .inl ⟨h.1, h.2.1, h.2.2.1, h.2.2.2.1⟩
      · exact .inr ⟨h.1, h.2.1⟩
    · rcases wsay_right b with h | h
      · exact .inl ⟨h.1, h.2.1, h.2.2.1, h.2.2.2.1⟩
      · exact .inr ⟨h.1, h.2.1⟩
def gaLo : Nat → Lo := fun id => match id with | 10 => {uo := [3], kn := [5000], ex := [0]} | _ => {}
set_option maxRecDepth 100000 in
set_option maxHeartbeats 8000000 in
theorem con_gasks (n : Int) (b : Wd) (most : Int) (hb : b.length ≤ 4194304) : Con Tryz.prog D 40 [.int .i64 n, .sl 1 (b.map byteRow), .int .i64 most] ⟨.tup [.sl 5 ((gasks n b most).1.map askCs), .sl 1 ((gasks n b most).2.1.map byteRow), .int .i64 (gasks n b most).2.2], []⟩ := by
  have hok : GOk Tryz.prog D (tabG [eAsk, eLineask, eWask]) := tabG_ok _
  have g1 := fun (c : Wd) (h : c.length ≤ 4194304) => tabG_use (T := [eAsk, eLineask, eWask]) (E := eAsk) (i := 0) rfl (by decide) (c) (h)
  have g2 := fun (c : Wd) (h : c.length ≤ 4194304) => tabG_use (T := [eAsk, eLineask, eWask]) (E := eLineask) (i := 1) rfl (by decide) (c) (by show c.length ≤ 16777216; omega)
  have g3 := fun (c : Wd) (h : c.length ≤ 4194304) => tabG_use (T := [eAsk, eLineask, eWask]) (E := eWask) (i := 2) rfl (by decide) (c) (by show c.length ≤ 16777216; omega)
  have gn : ∀ x, tabG [eAsk, eLineask, eWask] 82 x = none := fun x => rfl
  generalize tabG [eAsk, eLineask, eWask] = G at *
  dsimp only [eAsk] at g1
  dsimp only [eLineask] at g2
  dsimp only [eWask] at g3
  have hcon : ∀ r, r = gasks n b most → Con Tryz.prog D 40 [.int .i64 n, .sl 1 (b.map byteRow), .int .i64 most] ⟨.tup [.sl 5 (r.1.map askCs), .sl 1 (r.2.1.map byteRow), .int .i64 r.2.2], []⟩ := by
    intro r hr
    refine conW (G := G) (rs := [(6, none), (7, none), (8, none)]) hok Tryz.func40 Tryz.results40 Tryz.ntmps40 (gaLo) fun X hP hD hG' hX => ?_
    simp only [argS, num]
    by_cases hn : isT n
    case neg =>
      have e1 : (n == 1) = false := by rw [beq_eq_false_iff_ne]; exact fun h => hn (.inl h)
      have e2 : (n == 2) = false := by rw [beq_eq_false_iff_ne]; exact fun h => hn (.inr (.inl h))
      have e3 : (n == 3) = false := by rw [beq_eq_false_iff_ne]; exact fun h => hn (.inr (.inr h))
      have hr : r = ([], [], 1) := by rw [hr]; unfold gasks; rw [if_neg hn]
      subst hr
      simp only [List.map_nil]
      simp (disch := omega) only [go_sem, hD, hG', gn, gaLo, unbox]
      refine inlW (rs := [(2, some 116), (3, none)]) hX hP 70000 (fun _ => {}) Tryz.func82 Tryz.results82 Tryz.ntmps82 fun hX1 => ?_
      simp (disch := omega) only [go_sem, hD, hG', enterS, leaveS, shT, unT, resA, num, unbox, Option.some.injEq, exists_eq_left', tmv, e1, e2, e3, unbox]
      try (simp (disch := omega) only [go_sem, hD, hG', gaLo, unbox])
      (repeat (with_reducible refine And.intro (by first | omega | decide | (simp; done) | (simp only [List.length_append, List.length_cons, List.length_nil, List.length_map]; omega)) ?_))
      refine endW [] [] (by simp) rfl rfl rfl ?_ ?_ <;> simp only [go_sem]
    have gT : ∀ c : Wd, c.length ≤ 4194304 → G (fA n) [.sl 1 (c.map byteRow)] = some ⟨.tup [.agg (askCs (tAsk n c).1), .int .i64 (tAsk n c).2.1, .int .i64 (tAsk n c).2.2], []⟩ := fun c h => by
      unfold fA tAsk
      rcases hn with rfl | rfl | rfl
      · exact g1 c h
      · exact g2 c h
      · exact g3 c h
    have hTr := tAsk_right n
    have hr : r = allF (tAsk n) (b.length + 1) (most) b := by rw [hr]; unfold gasks; rw [if_pos hn]
    clear g1 g2 g3
    have hns : ∀ a, namess (askCs a) = [] := names_askA
    rcases (show n = 1 ∨ n = 2 ∨ n = 3 from hn) with h1 | h1 | h1
    have e1 : (n == 1) = true := by simp [h1]
    simp (disch := omega) only [go_sem, hD, hG', gn, gaLo, unbox]
    refine inlW (rs := [(2, some 116), (3, none)]) hX hP 70000 (fun _ => {}) Tryz.func82 Tryz.results82 Tryz.ntmps82 fun hX1 => ?_
    simp (disch := omega) only [go_sem, hD, hG', enterS, leaveS, shT, unT, resA, num, unbox, Option.some.injEq, exists_eq_left', tmv, e1, unbox]
    simp (disch := omega) only [go_sem, hD, hG', gaLo, unbox]
    refine Tr.loop (ι := Nat × List LAsk × Wd) (fun x => x.2.2.length ≤ 4194304 ∧ x.2.2.length < x.1 ∧ x.2.1.length + x.2.2.length ≤ b.length ∧ r = (x.2.1 ++ (allF (tAsk n) x.1 (most - x.2.1.length) x.2.2).1, (allF (tAsk n) x.1 (most - x.2.1.length) x.2.2).2)) (fun x => { nt := 52, tm := [(1, .sl 1 (x.2.2.map byteRow)), (2, .int .i64 most), (9, .ptr 9 0), (11, .os 5000)], bl := [(9, some (.cells [.func (fA n) [], .func (fB n) [], .func (fC n) [], .func (fD n) []])), (5000, some (.rows 27 5 (x.2.1.map askCs)))] }) (fun x => x.2.2.length) (b.length + 1, [], b)
        ⟨⟨hb, by simp, by simp, by simp [hr]⟩, wk_of hD [(9, 9)] rfl rfl (by simp only [go_sem]; try simp) (by simp only [go_sem]; try simp [fA, fB, fC, fD, h1])⟩ ?_
    rotate_left
    have e1 : (n == 1) = false := by simp [h1]
    have e2 : (n == 2) = true := by simp [h1]
    simp (disch := omega) only [go_sem, hD, hG', gn, gaLo, unbox]
    refine inlW (rs := [(2, some 116), (3, none)]) hX hP 70000 (fun _ => {}) Tryz.func82 Tryz.results82 Tryz.ntmps82 fun hX1 => ?_
    simp (disch := omega) only [go_sem, hD, hG', enterS, leaveS, shT, unT, resA, num, unbox, Option.some.injEq, exists_eq_left', tmv, e1, e2, unbox]
    simp (disch := omega) only [go_sem, hD, hG', gaLo, unbox]
    refine Tr.loop (ι := Nat × List LAsk × Wd) (fun x => x.2.2.length ≤ 4194304 ∧ x.2.2.length < x.1 ∧ x.2.1.length + x.2.2.length ≤ b.length ∧ r = (x.2.1 ++ (allF (tAsk n) x.1 (most - x.2.1.length) x.2.2).1, (allF (tAsk n) x.1 (most - x.2.1.length) x.2.2).2)) (fun x => { nt := 52, tm := [(1, .sl 1 (x.2.2.map byteRow)), (2, .int .i64 most), (9, .ptr 9 0), (11, .os 5000)], bl := [(9, some (.cells [.func (fA n) [], .func (fB n) [], .func (fC n) [], .func (fD n) []])), (5000, some (.rows 27 5 (x.2.1.map askCs)))] }) (fun x => x.2.2.length) (b.length + 1, [], b)
        ⟨⟨hb, by simp, by simp, by simp [hr]⟩, wk_of hD [(9, 9)] rfl rfl (by simp only [go_sem]; try simp) (by simp only [go_sem]; try simp [fA, fB, fC, fD, h1])⟩ ?_
    rotate_left
    have e1 : (n == 1) = false := by simp [h1]
    have e2 : (n == 2) = false := by simp [h1]
    have e3 : (n == 3) = true := by simp [h1]
    simp (disch := omega) only [go_sem, hD, hG', gn, gaLo, unbox]
    refine inlW (rs := [(2, some 116), (3, none)]) hX hP 70000 (fun _ => {}) Tryz.func82 Tryz.results82 Tryz.ntmps82 fun hX1 => ?_
    simp (disch := omega) only [go_sem, hD, hG', enterS, leaveS, shT, unT, resA, num, unbox, Option.some.injEq, exists_eq_left', tmv, e1, e2, e3, unbox]
    simp (disch := omega) only [go_sem, hD, hG', gaLo, unbox]
    refine Tr.loop (ι := Nat × List LAsk × Wd) (fun x => x.2.2.length ≤ 4194304 ∧ x.2.2.length < x.1 ∧ x.2.1.length + x.2.2.length ≤ b.length ∧ r = (x.2.1 ++ (allF (tAsk n) x.1 (most - x.2.1.length) x.2.2).1, (allF (tAsk n) x.1 (most - x.2.1.length) x.2.2).2)) (fun x => { nt := 52, tm := [(1, .sl 1 (x.2.2.map byteRow)), (2, .int .i64 most), (9, .ptr 9 0), (11, .os 5000)], bl := [(9, some (.cells [.func (fA n) [], .func (fB n) [], .func (fC n) [], .func (fD n) []])), (5000, some (.rows 27 5 (x.2.1.map askCs)))] }) (fun x => x.2.2.length) (b.length + 1, [], b)
        ⟨⟨hb, by simp, by simp, by simp [hr]⟩, wk_of hD [(9, 9)] rfl rfl (by simp only [go_sem]; try simp) (by simp only [go_sem]; try simp [fA, fB, fC, fD, h1])⟩ ?_
    rotate_left
    all_goals (
      rintro ⟨f, os, c⟩ ⟨hc, hf, ho, hinv⟩
      simp only at hc hf ho hinv
      clear hr
      refine evC_sound hX gaLo _ _ _ ?_
      obtain ⟨f, rfl⟩ : ∃ k, f = k + 1 := ⟨f - 1, by omega⟩
      rw [allF] at hinv
      have gc := gT c hc
      have hrt := hTr c
      generalize tAsk n c = t at *
      obtain ⟨⟨t1, t2, t3, ⟨t4, t5⟩⟩, tk, te⟩ := t
      simp only at hinv gc hrt
      simp only [askCs] at gc
      have htk : List.drop tk.toNat (List.take ((c.length : Nat) : Int).toNat c) = c.drop tk.toNat := by rw [Int.toNat_natCast, List.take_length]
      simp (disch := omega) only [go_sem, hD, hG', gaLo, unbox]
      refine condK_split (fun h => ?_) (fun h => ?_)
      · rw [decide_eq_true_eq] at h
        rw [if_neg (by omega)] at hinv
        by_cases h9 : te = 9
        · have d9 : (te == 9) = true := by simp [h9]
          rw [if_pos h9] at hinv
          subst hinv
          simp only [List.append_nil]
          simp (disch := omega) only [go_sem, hD, hG', gc, d9, gaLo, unbox]
          (repeat (with_reducible refine And.intro (by first | omega | decide | (simp; done) | (simp only [List.length_append, List.length_cons, List.length_nil, List.length_map]; omega)) ?_))
          refine endW [5000, 51] [] (by simp) rfl rfl rfl ?_ ?_ <;> simp only [go_sem]
        have d9 : (te == 9) = false := by simp [h9]
        rw [if_neg h9] at hinv
        by_cases h0 : te = 0
        · have d0 : (te != 0) = false := by simp [h0]
          rw [if_neg (by simpa using h0)] at hinv
          obtain ⟨_, _, k1, k2⟩ | hk := hrt
          · simp (disch := omega) only [go_sem, hD, hG', gc, d9, d0, htk, gaLo, unbox]
            (repeat (with_reducible refine And.intro (by first | omega | decide | (simp; done) | (simp only [List.length_append, List.length_cons, List.length_nil, List.length_map]; omega)) ?_))
            refine ⟨(f, os ++ [⟨t1, t2, t3, ⟨t4, t5⟩⟩], c.drop tk.toNat), ⟨⟨?_, ?_, ?_, ?_⟩, ?_⟩, wk_of hD [(9, 9), (5000, 45)] rfl rfl ?_ ?_⟩
            · simp only [List.length_drop]; omega
            · simp only [List.length_drop]; omega
            · simp only [List.length_drop, List.length_append, List.length_cons, List.length_nil]; omega
            · rw [hinv]
              simp only [List.length_append, List.length_cons, List.length_nil, List.append_assoc, List.cons_append, List.nil_append]
              rw [show most - ((os.length + (0 + 1) : Nat) : Int) = most - (os.length : Int) - 1 by omega]
            · simp only [List.length_drop]; omega
            · simp only [go_sem]
              try simp
            · simp only [go_sem]
              try simp [askCs]
          · exact absurd h0 hk.1
        · have d0 : (te != 0) = true := by simp [h0]
          rw [if_pos (by simpa using h0)] at hinv
          subst hinv
          simp only [List.append_nil]
          simp (disch := omega) only [go_sem, hD, hG', gc, d9, d0, gaLo, unbox]
          (repeat (with_reducible refine And.intro (by first | omega | decide | (simp; done) | (simp only [List.length_append, List.length_cons, List.length_nil, List.length_map]; omega)) ?_))
          refine endW [5000, 40] [] (by simp) rfl rfl rfl ?_ ?_ <;> simp only [go_sem]
      · rw [decide_eq_false_iff_not] at h
        rw [if_pos (by omega)] at hinv
        subst hinv
        simp only [List.append_nil]
        simp (disch := omega) only [go_sem, hD, hG', gaLo, unbox]
        (repeat (with_reducible refine And.intro (by first | omega | decide | (simp; done) | (simp only [List.length_append, List.length_cons, List.length_nil, List.length_map]; omega)) ?_))
        refine endW [5000, 51] [] (by simp) rfl rfl rfl ?_ ?_ <;> simp only [go_sem])
  exact hcon _ rfl
set_option maxRecDepth 100000 in
set_option maxHeartbeats 8000000 in
theorem con_gsays (n : Int) (b : Wd) (hb : b.length ≤ 4194304) : Con Tryz.prog D 41 [.int .i64 n, .sl 1 (b.map byteRow)] ⟨.tup [.sl 6 ((gsays n b).1.map sayCs), .sl 1 ((gsays n b).2.1.map byteRow), .int .i64 (gsays n b).2.2], []⟩ := by
  have hok : GOk Tryz.prog D (tabG [eSay, eLinesay, eWsay]) := tabG_ok _
  have g1 := fun (c : Wd) (h : c.length ≤ 4194304) => tabG_use (T := [eSay, eLinesay, eWsay]) (E := eSay) (i := 0) rfl (by decide) (c) (h)
  have g2 := fun (c : Wd) (h : c.length ≤ 4194304) => tabG_use (T := [eSay, eLinesay, eWsay]) (E := eLinesay) (i := 1) rfl (by decide) (c) (by show c.length ≤ 16777216; omega)
  have g3 := fun (c : Wd) (h : c.length ≤ 4194304) => tabG_use (T := [eSay, eLinesay, eWsay]) (E := eWsay) (i := 2) rfl (by decide) (c) (by show c.length ≤ 16777216; omega)
  have gn : ∀ x, tabG [eSay, eLinesay, eWsay] 82 x = none := fun x => rfl
  generalize tabG [eSay, eLinesay, eWsay] = G at *
  dsimp only [eSay] at g1
  dsimp only [eLinesay] at g2
  dsimp only [eWsay] at g3
  have hcon : ∀ r, r = gsays n b → Con Tryz.prog D 41 [.int .i64 n, .sl 1 (b.map byteRow)] ⟨.tup [.sl 6 (r.1.map sayCs), .sl 1 (r.2.1.map byteRow), .int .i64 r.2.2], []⟩ := by
    intro r hr
    refine conW (G := G) (rs := [(4, none), (5, none), (6, none)]) hok Tryz.func41 Tryz.results41 Tryz.ntmps41 (gaLo) fun X hP hD hG' hX => ?_
    simp only [argS, num]
    by_cases hn : isT n
    case neg =>
      have e1 : (n == 1) = false := by rw [beq_eq_false_iff_ne]; exact fun h => hn (.inl h)
      have e2 : (n == 2) = false := by rw [beq_eq_false_iff_ne]; exact fun h => hn (.inr (.inl h))
      have e3 : (n == 3) = false := by rw [beq_eq_false_iff_ne]; exact fun h => hn (.inr (.inr h))
      have hr : r = ([], [], 1) := by rw [hr]; unfold gsays; rw [if_neg hn]
      subst hr
      simp only [List.map_nil]
      simp (disch := omega) only [go_sem, hD, hG', gn, gaLo, unbox]
      refine inlW (rs := [(2, some 116), (3, none)]) hX hP 70000 (fun _ => {}) Tryz.func82 Tryz.results82 Tryz.ntmps82 fun hX1 => ?_
      simp (disch := omega) only [go_sem, hD, hG', enterS, leaveS, shT, unT, resA, num, unbox, Option.some.injEq, exists_eq_left', tmv, e1, e2, e3, unbox]
      try (simp (disch := omega) only [go_sem, hD, hG', gaLo, unbox])
      (repeat (with_reducible refine And.intro (by first | omega | decide | (simp; done) | (simp only [List.length_append, List.length_cons, List.length_nil, List.length_map]; omega)) ?_))
      refine endW [] [] (by simp) rfl rfl rfl ?_ ?_ <;> simp only [go_sem]
    have gT : ∀ c : Wd, c.length ≤ 4194304 → G (fC n) [.sl 1 (c.map byteRow)] = some ⟨.tup [.agg (sayCs (tSay n c).1), .int .i64 (tSay n c).2.1, .int .i64 (tSay n c).2.2], []⟩ := fun c h => by
      unfold fC tSay
      rcases hn with rfl | rfl | rfl
      · exact g1 c h
      · exact g2 c h
      · exact g3 c h
    have hTr := tSay_right n
    have hr : r = allF (tSay n) (b.length + 1) ((b.length + 1 : Int)) b := by rw [hr]; unfold gsays; rw [if_pos hn]
    clear g1 g2 g3
    have hns : ∀ a, namess (sayCs a) = [] := names_sayA
    rcases (show n = 1 ∨ n = 2 ∨ n = 3 from hn) with h1 | h1 | h1
    have e1 : (n == 1) = true := by simp [h1]
    simp (disch := omega) only [go_sem, hD, hG', gn, gaLo, unbox]
    refine inlW (rs := [(2, some 116), (3, none)]) hX hP 70000 (fun _ => {}) Tryz.func82 Tryz.results82 Tryz.ntmps82 fun hX1 => ?_
    simp (disch := omega) only [go_sem, hD, hG', enterS, leaveS, shT, unT, resA, num, unbox, Option.some.injEq, exists_eq_left', tmv, e1, unbox]
    simp (disch := omega) only [go_sem, hD, hG', gaLo, unbox]
    refine Tr.loop (ι := Nat × List LSay × Wd) (fun x => x.2.2.length ≤ 4194304 ∧ x.2.2.length < x.1 ∧ x.2.1.length + x.2.2.length ≤ b.length ∧ r = (x.2.1 ++ (allF (tSay n) x.1 ((b.length + 1 : Int) - x.2.1.length) x.2.2).1, (allF (tSay n) x.1 ((b.length + 1 : Int) - x.2.1.length) x.2.2).2)) (fun x => { nt := 46, tm := [(1, .sl 1 (x.2.2.map byteRow)), (7, .ptr 7 0), (9, .os 5000)], bl := [(7, some (.cells [.func (fA n) [], .func (fB n) [], .func (fC n) [], .func (fD n) []])), (5000, some (.rows 30 6 (x.2.1.map sayCs)))] }) (fun x => x.2.2.length) (b.length + 1, [], b)
        ⟨⟨hb, by simp, by simp, by simp [hr]⟩, wk_of hD [(7, 7)] rfl rfl (by simp only [go_sem]; try simp) (by simp only [go_sem]; try simp [fA, fB, fC, fD, h1])⟩ ?_
    rotate_left
    have e1 : (n == 1) = false := by simp [h1]
    have e2 : (n == 2) = true := by simp [h1]
    simp (disch := omega) only [go_sem, hD, hG', gn, gaLo, unbox]
    refine inlW (rs := [(2, some 116), (3, none)]) hX hP 70000 (fun _ => {}) Tryz.func82 Tryz.results82 Tryz.ntmps82 fun hX1 => ?_
    simp (disch := omega) only [go_sem, hD, hG', enterS, leaveS, shT, unT, resA, num, unbox, Option.some.injEq, exists_eq_left', tmv, e1, e2, unbox]
    simp (disch := omega) only [go_sem, hD, hG', gaLo, unbox]
    refine Tr.loop (ι := Nat × List LSay × Wd) (fun x => x.2.2.length ≤ 4194304 ∧ x.2.2.length < x.1 ∧ x.2.1.length + x.2.2.length ≤ b.length ∧ r = (x.2.1 ++ (allF (tSay n) x.1 ((b.length + 1 : Int) - x.2.1.length) x.2.2).1, (allF (tSay n) x.1 ((b.length + 1 : Int) - x.2.1.length) x.2.2).2)) (fun x => { nt := 46, tm := [(1, .sl 1 (x.2.2.map byteRow)), (7, .ptr 7 0), (9, .os 5000)], bl := [(7, some (.cells [.func (fA n) [], .func (fB n) [], .func (fC n) [], .func (fD n) []])), (5000, some (.rows 30 6 (x.2.1.map sayCs)))] }) (fun x => x.2.2.length) (b.length + 1, [], b)
        ⟨⟨hb, by simp, by simp, by simp [hr]⟩, wk_of hD [(7, 7)] rfl rfl (by simp only [go_sem]; try simp) (by simp only [go_sem]; try simp [fA, fB, fC, fD, h1])⟩ ?_
    rotate_left
    have e1 : (n == 1) = false := by simp [h1]
    have e2 : (n == 2) = false := by simp [h1]
    have e3 : (n == 3) = true := by simp [h1]
    simp (disch := omega) only [go_sem, hD, hG', gn, gaLo, unbox]
    refine inlW (rs := [(2, some 116), (3, none)]) hX hP 70000 (fun _ => {}) Tryz.func82 Tryz.results82 Tryz.ntmps82 fun hX1 => ?_
    simp (disch := omega) only [go_sem, hD, hG', enterS, leaveS, shT, unT, resA, num, unbox, Option.some.injEq, exists_eq_left', tmv, e1, e2, e3, unbox]
    simp (disch := omega) only [go_sem, hD, hG', gaLo, unbox]
    refine Tr.loop (ι := Nat × List LSay × Wd) (fun x => x.2.2.length ≤ 4194304 ∧ x.2.2.length < x.1 ∧ x.2.1.length + x.2.2.length ≤ b.length ∧ r = (x.2.1 ++ (allF (tSay n) x.1 ((b.length + 1 : Int) - x.2.1.length) x.2.2).1, (allF (tSay n) x.1 ((b.length + 1 : Int) - x.2.1.length) x.2.2).2)) (fun x => { nt := 46, tm := [(1, .sl 1 (x.2.2.map byteRow)), (7, .ptr 7 0), (9, .os 5000)], bl := [(7, some (.cells [.func (fA n) [], .func (fB n) [], .func (fC n) [], .func (fD n) []])), (5000, some (.rows 30 6 (x.2.1.map sayCs)))] }) (fun x => x.2.2.length) (b.length + 1, [], b)
        ⟨⟨hb, by simp, by simp, by simp [hr]⟩, wk_of hD [(7, 7)] rfl rfl (by simp only [go_sem]; try simp) (by simp only [go_sem]; try simp [fA, fB, fC, fD, h1])⟩ ?_
    rotate_left
    all_goals (
      rintro ⟨f, os, c⟩ ⟨hc, hf, ho, hinv⟩
      simp only at hc hf ho hinv
      clear hr
      refine evC_sound hX gaLo _ _ _ ?_
      obtain ⟨f, rfl⟩ : ∃ k, f = k + 1 := ⟨f - 1, by omega⟩
      rw [allF] at hinv
      have gc := gT c hc
      have hrt := hTr c
      generalize tSay n c = t at *
      obtain ⟨⟨t1, t2, t3, t6, ⟨t4, t5⟩⟩, tk, te⟩ := t
      simp only at hinv gc hrt
      simp only [sayCs] at gc
      have htk : List.drop tk.toNat (List.take ((c.length : Nat) : Int).toNat c) = c.drop tk.toNat := by rw [Int.toNat_natCast, List.take_length]
      simp (disch := omega) only [go_sem, hD, hG', gaLo, unbox]
      rw [if_neg (by omega)] at hinv
      by_cases h9 : te = 9
      · have d9 : (te == 9) = true := by simp [h9]
        rw [if_pos h9] at hinv
        subst hinv
        simp only [List.append_nil]
        simp (disch := omega) only [go_sem, hD, hG', gc, d9, gaLo, unbox]
        (repeat (with_reducible refine And.intro (by first | omega | decide | (simp; done) | (simp only [List.length_append, List.length_cons, List.length_nil, List.length_map]; omega)) ?_))
        refine endW [5000, 32] [] (by simp) rfl rfl rfl ?_ ?_ <;> simp only [go_sem]
      have d9 : (te == 9) = false := by simp [h9]
      rw [if_neg h9] at hinv
      by_cases h0 : te = 0
      · have d0 : (te != 0) = false := by simp [h0]
        rw [if_neg (by simpa using h0)] at hinv
        obtain ⟨_, _, k1, k2⟩ | hk := hrt
        · simp (disch := omega) only [go_sem, hD, hG', gc, d9, d0, htk, gaLo, unbox]
          (repeat (with_reducible refine And.intro (by first | omega | decide | (simp; done) | (simp only [List.length_append, List.length_cons, List.length_nil, List.length_map]; omega)) ?_))
          refine ⟨(f, os ++ [⟨t1, t2, t3, t6, ⟨t4, t5⟩⟩], c.drop tk.toNat), ⟨⟨?_, ?_, ?_, ?_⟩, ?_⟩, wk_of hD [(7, 7), (5000, 42)] rfl rfl ?_ ?_⟩
          · simp only [List.length_drop]; omega
          · simp only [List.length_drop]; omega
          · simp only [List.length_drop, List.length_append, List.length_cons, List.length_nil]; omega
          · rw [hinv]
            simp only [List.length_append, List.length_cons, List.length_nil, List.append_assoc, List.cons_append, List.nil_append]
            rw [show ((b.length : Int) + 1) - ((os.length + (0 + 1) : Nat) : Int) = ((b.length : Int) + 1) - (os.length : Int) - 1 by omega]
          · simp only [List.length_drop]; omega
          · simp only [go_sem]
            try simp
          · simp only [go_sem]
            try simp [sayCs]
        · exact absurd h0 hk.1
      · have d0 : (te != 0) = true := by simp [h0]
        rw [if_pos (by simpa using h0)] at hinv
        subst hinv
        simp only [List.append_nil]
        simp (disch := omega) only [go_sem, hD, hG', gc, d9, d0, gaLo, unbox]
        (repeat (with_reducible refine And.intro (by first | omega | decide | (simp; done) | (simp only [List.length_append, List.length_cons, List.length_nil, List.length_map]; omega)) ?_))
        refine endW [5000, 37] [] (by simp) rfl rfl rfl ?_ ?_ <;> simp only [go_sem])
  exact hcon _ rfl
def eGasks : Ent Tryz.prog D := ⟨40, Int × Wd × Int, fun x => [.int .i64 x.1, .sl 1 (x.2.1.map byteRow), .int .i64 x.2.2], fun x => x.2.1.length ≤ 4194304, fun x => ⟨.tup [.sl 5 ((gasks x.1 x.2.1 x.2.2).1.map askCs), .sl 1 ((gasks x.1 x.2.1 x.2.2).2.1.map byteRow), .int .i64 (gasks x.1 x.2.1 x.2.2).2.2], []⟩, fun x y _ _ h => by
  obtain ⟨n, b, m⟩ := x
  obtain ⟨n', b', m'⟩ := y
  simp only [List.cons.injEq, AV.int.injEq, AV.sl.injEq, true_and, and_true] at h
  rw [h.1, bytes_inj h.2.1, h.2.2], fun x h => con_gasks x.1 x.2.1 x.2.2 h⟩
def eGsays : Ent Tryz.prog D := ⟨41, Int × Wd, fun x => [.int .i64 x.1, .sl 1 (x.2.map byteRow)], fun x => x.2.length ≤ 4194304, fun x => ⟨.tup [.sl 6 ((gsays x.1 x.2).1.map sayCs), .sl 1 ((gsays x.1 x.2).2.1.map byteRow), .int .i64 (gsays x.1 x.2).2.2], []⟩, fun x y _ _ h => by
  obtain ⟨n, b⟩ := x
  obtain ⟨n', b'⟩ := y
  simp only [List.cons.injEq, AV.int.injEq, AV.sl.injEq, true_and, and_true] at h
  rw [h.1, bytes_inj h.2], fun x h => con_gsays x.1 x.2 h⟩
end Go.Proofs.YtmlejhpeoiicpaaGreatDoor.Ab
