/-
  Texts of the proof, one behind the other: GtC.
  No condition but those that each theorem names.
-/
import Derived.Test.YtmlejhpeoiicpaaGreatDoorGO
import Derived.Test.YtmlejhpeoiicpaaGreatDoorGC
namespace Go.Proofs.YtmlejhpeoiicpaaGreatDoor.Ab
open Go Go.RowKit
set_option linter.unusedVariables false
set_option linter.unusedSimpArgs false

theorem tSayB_len {n : Int} (hn : isT n) {s : LSay} (h : wrongSayS s = 0) : (tSayB n s).length ≤ 400 := by
  unfold tSayB
  rcases hn with rfl | rfl | rfl
  · have ht := say_turn [] h
    rw [List.append_nil] at ht
    have hr := say_right (framedS (sayB s))
    rw [ht] at hr
    show (framedS (sayB s)).length ≤ 400
    rcases hr with hr | hr
    · have := hr.2.2.2.2
      simp only at this
      omega
    · exact absurd rfl hr.1
  · exact (lsay_turn h []).2
  · exact (wsay_turn h []).2
def aT : LAsk := ⟨5, bA [113], 0, note0⟩
def sT : LSay := ⟨1, 0, 0, 0, note0⟩
def eGaskN : Ent Tryz.prog D := ⟨38, Unit, fun _ => [.int .i64 2, .agg [.int .i64 5, .str [113], .int .i64 0, .nils, .nils]], fun _ => True, fun _ => ⟨.tup [.sl 1 ((gaskB 2 aT).1.map byteRow), .int .i64 (gaskB 2 aT).2], []⟩, fun x y _ _ h => rfl, fun _ _ =>
  Con.weak (con_gaskbytes 2 aT ⟨by decide, fits_right (by decide)⟩) (by simp [aT, bA, note0, askA, covs, cov])⟩
def eGsayN : Ent Tryz.prog D := ⟨39, Unit, fun _ => [.int .i64 3, .agg [.int .i64 1, .int .i64 0, .int .i64 0, .int .i64 0, .nils, .nils]], fun _ => True, fun _ => ⟨.tup [.sl 1 ((gsayB 3 sT).1.map byteRow), .int .i64 (gsayB 3 sT).2], []⟩, fun x y _ _ h => rfl, fun _ _ =>
  Con.weak (con_gsaybytes 3 sT (fits_right (by decide))) (by simp [sT, note0, sayA, covs, cov])⟩
theorem aT_right : wrongAskS aT = 0 := by decide +kernel
theorem sT_right : wrongSayS sT = 0 := by decide +kernel
def bT : Wd := [116, 97, 107, 101, 32, 113, 10]
def tT : Wd := [116, 97, 107]
theorem rowAppG (l m : List UInt8) : l.map byteRow ++ m.map byteRow = (l ++ m).map byteRow := by simp
theorem aT_bytes : gaskB 2 aT = (bT, 0) := by
  unfold gaskB
  rw [if_pos (by decide), if_pos aT_right]
  show (lineB (askW aT), (0 : Int)) = _
  have : lineB (askW aT) = bT := by decide +kernel
  rw [this]
theorem bT_asks : gasks 2 (bT ++ tT) 5 = ([aT], tT, 0) := by
  unfold tT
  have e : bT = lineB (askW aT) := by decide +kernel
  have h1 := (lask_turn aT_right [116, 97, 107]).1
  have h2 : (tAsk 2 [116, 97, 107]).2.2 = 9 := by
    show (laskR [116, 97, 107]).2.2 = 9
    decide +kernel
  have hl : (lineB (askW aT)).length = 7 := by decide +kernel
  have ht : tAsk 2 (lineB (askW aT) ++ [116, 97, 107]) = (aT, ((lineB (askW aT)).length : Int), 0) := h1
  have hln : (lineB (askW aT) ++ [116, 97, 107]).length = 9 + 1 := by rw [List.length_append, hl]; rfl
  unfold gasks
  rw [if_pos (by decide), e, hln, allF, if_neg (by decide), ht]
  simp only [Int.toNat_natCast, List.drop_left]
  rw [if_neg (by decide), if_neg (by simp), allF, if_neg (by decide), if_pos h2]
def sTb : Wd := sayPg sT
theorem sTb_eq : tSayB 3 sT = sTb := by
  unfold tSayB sTb
  rw [if_neg (by decide), if_neg (by decide)]
theorem sT_bytes : gsayB 3 sT = (sTb, 0) := by
  unfold gsayB
  rw [if_pos (by decide), if_pos sT_right, sTb_eq]
theorem sT_says : gsays 3 sTb = ([sT], [], 0) := by
  have h := gsays_one (n := 3) (.inr (.inr rfl)) sT_right
  rw [sTb_eq] at h
  exact h
def gtLo : Nat → Lo := fun id => match id with | 5 => {lo := [6], uo := [2, 5], kn := [22, 24], ex := [0]} | _ => {}
set_option maxRecDepth 100000 in
set_option maxHeartbeats 4000000 in
theorem con_gtalive : Con Tryz.prog D 48 [] ⟨.bool true, []⟩ := by
  have hsl : sTb.length ≤ 400 := by
    have h := tSayB_len (n := 3) (.inr (.inr rfl)) sT_right
    rw [sTb_eq] at h
    exact h
  have hok : GOk Tryz.prog D (tabG [eGaskN, eGasks, eGsayN, eGsays]) := tabG_ok _
  have g1 := tabG_use (T := [eGaskN, eGasks, eGsayN, eGsays]) (E := eGaskN) (i := 0) rfl (by decide) (()) (trivial)
  have g2 := tabG_use (T := [eGaskN, eGasks, eGsayN, eGsays]) (E := eGasks) (i := 1) rfl (by decide) ((2, bT ++ tT, 5)) (by show (bT ++ tT).length ≤ 4194304; decide)
  have g3 := tabG_use (T := [eGaskN, eGasks, eGsayN, eGsays]) (E := eGsayN) (i := 2) rfl (by decide) (()) (trivial)
  have g4 := tabG_use (T := [eGaskN, eGasks, eGsayN, eGsays]) (E := eGsays) (i := 3) rfl (by decide) ((3, sTb)) (by show sTb.length ≤ _; omega)
  generalize tabG [eGaskN, eGasks, eGsayN, eGsays] = G at *
  dsimp only [eGaskN] at g1
  dsimp only [eGasks] at g2
  dsimp only [eGsayN] at g3
  dsimp only [eGsays] at g4
  rw [aT_bytes] at g1
  rw [bT_asks] at g2
  rw [sT_bytes] at g3
  rw [sT_says] at g4
  have hb7 : ((bT.length : Nat) : Int) = 7 := rfl
  have hb3 : List.take 3 bT = tT := rfl
  have ht3 : ((tT.length : Nat) : Int) = 3 := rfl
  have hbe : (bT == [116, 97, 107, 101, 32, 113, 10]) = true := by decide +kernel
  have z3 : (3 : Int).toNat = 3 := rfl
  have n1 : ((1 : Nat) : Int) = 1 := rfl
  have n0 : ((0 : Nat) : Int) = 0 := rfl
  simp only [List.map_cons, List.map_nil] at g2 g4
  simp only [aT, bA, sT, note0, askCs, sayCs, List.map_nil] at g2 g4
  generalize sTb = sb at *
  generalize bT = b at *
  generalize tT = t at *
  have hbl : b.length = 7 := by omega
  have htl : t.length = 3 := by omega
  refine conW (G := G) (rs := [(0, none)]) hok Tryz.func48 Tryz.results48 Tryz.ntmps48 (gtLo) fun X hP hD hG' hX => ?_
  simp only [argS, num]
  simp (disch := omega) only [go_sem, hD, hG', g1, g2, g3, g4, gtLo, hb7, hb3, ht3, hbe, z3, n1, n0, rowAppG, List.getD_nil, unbox]
  (repeat (with_reducible refine And.intro (by first | omega | decide | (simp; done) | (simp only [List.length_append, List.length_cons, List.length_nil, List.length_map]; omega)) ?_))
  iterate 4 (all_goals (try (first | (refine RegT.mk [] ?_; simp (disch := omega) only [go_sem, hD, hG', g1, g2, g3, g4, gtLo, hb7, hb3, ht3, hbe, z3, n1, n0, rowAppG, List.getD_nil, unbox]) | with_reducible refine And.intro (by first | omega | decide | (simp; done)) ?_)))
  refine endW [] [] (by simp) rfl rfl rfl ?_ ?_ <;> simp only [go_sem]
def eGtalive : Ent Tryz.prog D := ⟨48, Unit, fun _ => [], fun _ => True, fun _ => ⟨.bool true, []⟩, fun x y _ _ h => rfl, fun _ _ => con_gtalive⟩
end Go.Proofs.YtmlejhpeoiicpaaGreatDoor.Ab
