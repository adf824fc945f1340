/-
  Texts of the proof, one behind the other: LnE LnF.
  No condition but those that each theorem names.
-/
import Derived.Test.YtmlejhpeoiicpaaGreatDoorGE
import Derived.Test.YtmlejhpeoiicpaaGreatDoorGC
namespace Go.Proofs.YtmlejhpeoiicpaaGreatDoor.Ab
open Go Go.RowKit
set_option linter.unusedVariables false
set_option linter.unusedSimpArgs false

attribute [go_sem] Int.reduceBEq Int.reduceBNe
theorem ixW_range (x : Wd) : -1 ≤ ixW x ∧ ixW x < 9 := by
  have := @placeG_range _ (fun w => x == w) wordsL
  have e : wordsL.length = 9 := rfl
  unfold ixW
  omega
/-- few words, and short -/
def WsOk (l : List Wd) : Prop := l.length ≤ 1000 ∧ ∀ w ∈ l, w.length ≤ 1000
theorem WsOk.tail {w : Wd} {l : List Wd} (h : WsOk (w :: l)) : WsOk l := ⟨by have := h.1; simp at this; omega, fun x hx => h.2 x (List.mem_cons_of_mem _ hx)⟩
theorem WsOk.head {w : Wd} {l : List Wd} (h : WsOk (w :: l)) : w.length ≤ 1000 := h.2 w (List.mem_cons_self ..)
theorem WsOk.big {l : List Wd} (h : WsOk l) : l.length ≤ 1048576 ∧ ∀ w ∈ l, w.length ≤ 8388608 := ⟨by have := h.1; omega, fun w hw => by have := h.2 w hw; omega⟩
def PFit (p : LProp) : Prop := p.key.size ≤ 1048576 ∧ p.text.size ≤ 1048576
theorem propW_fit (k s : Wd) (hk : k.length ≤ 1000) (hs : s.length ≤ 1000) : PFit (propW k s).1 := by
  have h1 := unhexR_len (Lib.trimPrefix s [36])
  have h2 := trimPrefix_len s [36]
  unfold propW
  split
  · exact ⟨by show k.length ≤ _; omega, by show (unhexR (Lib.trimPrefix s [36])).1.length ≤ _; omega⟩
  · split
    · exact ⟨by show k.length ≤ _; omega, by show (0 : Nat) ≤ _; omega⟩
    · exact ⟨by show k.length ≤ _; omega, by show (0 : Nat) ≤ _; omega⟩
theorem noteP_fits : ∀ (l : List Wd) (ps : List LProp), WsOk l → ps.length + l.length ≤ 1000 → (∀ p ∈ ps, PFit p) → (noteP ps l).1.Fits
  | [], ps, _, _, _ => fits_zero
  | w :: r, ps, h, hl, hp => by
    have hw := h.head
    rw [noteP]
    split
    · have h1 := unhexR_len (Lib.trimPrefix w [35])
      have h2 := trimPrefix_len w [35]
      refine ⟨hp, ?_, ?_⟩
      · simp only [List.length_cons] at hl ⊢; omega
      · simp only; omega
    · split
      · exact fits_zero
      · split
        · exact fits_zero
        · have hc := cut_len w [61]
          refine noteP_fits r _ h.tail (by simp only [List.length_append, List.length_cons, List.length_nil] at hl ⊢; omega) fun p hm => ?_
          rcases List.mem_append.1 hm with hm | hm
          · exact hp p hm
          · rw [List.mem_singleton.1 hm]
            exact propW_fit _ _ (by omega) (by omega)
def waE (x : LAsk × Bool) : List AV := match x.2 with
  | true => [nakedA x.1]
  | false => [askA x.1]
def eWrongF : Ent Tryz.prog D := ⟨74, LAsk × Bool, waE, fun x => x.1.Fits ∧ (x.2 = true → x.1.note = note0), fun x => ⟨.int .i64 (wrongAskS x.1), []⟩, fun x y hx hy h => by
  obtain ⟨a, b⟩ := x
  obtain ⟨a', b'⟩ := y
  have h1 := hx.2
  have h2 := hy.2
  simp only at h1 h2
  cases b <;> cases b' <;> simp only [waE, List.cons.injEq, and_true] at h
  · rw [askA_inj h]
  · simp [askA, nakedA] at h
  · simp [askA, nakedA] at h
  · rw [naked_inj (h1 rfl) (h2 rfl) h], fun x h => by
  obtain ⟨⟨k, q, n, m⟩, b⟩ := x
  obtain ⟨h1, h2⟩ := h
  cases b
  · exact con_wrongask _ h1
  · have h2 := h2 rfl
    simp only at h1 h2
    subst h2
    exact (con_wrongask _ h1).weak (by simp [waE, nakedA, note0, askA, covs, cov])⟩
def lqLo : Nat → Lo := fun id => match id with | 1 => {uo := [8], un := [4]} | 8 => {uo := [6], un := [4]} | 22 => {uo := [3], un := [2]} | _ => {}
set_option maxRecDepth 100000 in
set_option maxHeartbeats 1000000 in
theorem con_lask (l : List Wd) (hne : l ≠ []) (hl : WsOk l) : Con Tryz.prog D 61 [.sl 1 (l.map strRow)] ⟨.tup [askA (laskP l).1, .int .i64 (laskP l).2], []⟩ := by
  cases l with
  | nil => exact absurd rfl hne
  | cons w rest =>
  have hok : GOk Tryz.prog D (tabG [eWords, eIxstr, eNumber, eLnote, eWrongF]) := tabG_ok _
  have g1 := tabG_use (T := [eWords, eIxstr, eNumber, eLnote, eWrongF]) (E := eWords) (i := 0) rfl (by decide) (()) (trivial)
  have g2 := tabG_use (T := [eWords, eIxstr, eNumber, eLnote, eWrongF]) (E := eIxstr) (i := 1) rfl (by decide) ((wordsL, w)) (by show (9 : Nat) ≤ _; omega)
  have g3 := fun (x : Wd) (h : x.length ≤ 1000) => tabG_use (T := [eWords, eIxstr, eNumber, eLnote, eWrongF]) (E := eNumber) (i := 2) rfl (by decide) (x) (by show x.length ≤ 281474976710656; omega)
  have g4 := fun (x : List Wd) (h : WsOk x) => tabG_use (T := [eWords, eIxstr, eNumber, eLnote, eWrongF]) (E := eLnote) (i := 3) rfl (by decide) (x) (h.big)
  have g5 := fun (a : LAsk) (h : a.Fits) => tabG_use (T := [eWords, eIxstr, eNumber, eLnote, eWrongF]) (E := eWrongF) (i := 4) rfl (by decide) ((a, false)) (⟨h, fun h => by cases h⟩)
  have g6 := fun (k n : Int) (q : Wd) (h : q.length ≤ 1000) => tabG_use (T := [eWords, eIxstr, eNumber, eLnote, eWrongF]) (E := eWrongF) (i := 4) rfl (by decide) ((⟨k, bA q, n, note0⟩, true)) (⟨⟨by show q.length ≤ 1048576; omega, fits_zero⟩, fun _ => rfl⟩)
  generalize tabG [eWords, eIxstr, eNumber, eLnote, eWrongF] = G at *
  dsimp only [eWords] at g1
  dsimp only [eIxstr] at g2
  dsimp only [eNumber] at g3
  dsimp only [eLnote] at g4
  dsimp only [eWrongF] at g5
  dsimp only [eWrongF] at g6
  have hrg := ixW_range w
  have g2 : G 96 [.sl 1 (wordsL.map strRow), .str w] = some ⟨.int .i64 (ixW w), []⟩ := g2
  have hwl : wordsL.length = 9 := rfl
  have hcon : ∀ r, r = laskP (w :: rest) → Con Tryz.prog D 61 [.sl 1 ((w :: rest).map strRow)] ⟨.tup [askA r.1, .int .i64 r.2], []⟩ := by
    intro r hr
    rw [laskP] at hr
    generalize ixW w = x at *
    generalize wordsL = wl at *
    have htl := hl.tail
    have hrl := htl.1
    refine conW (G := G) (rs := [(2, some 27), (3, none)]) hok Tryz.func61 Tryz.results61 Tryz.ntmps61 (lqLo) fun X hP hD hG' hX => ?_
    simp only [argS, num, List.map_cons, strRow]
    have z0 : (0 : Int).toNat = 0 := rfl
    have hdr : ∀ (y : List AV) (q : List Wd), List.drop (1 : Int).toNat (List.take (((y :: q.map strRow).length : Nat) : Int).toNat (y :: q.map strRow)) = q.map strRow := fun y q => by
      rw [Int.toNat_natCast, List.take_length]
      rfl
    by_cases hk0 : x + 1 = 0
    · have e0 : (x + 1 == 0) = true := by simp [hk0]
      rw [if_pos hk0] at hr
      simp (disch := omega) only [go_sem, hD, hG', lqLo, g1, g2, z0, e0, unbox]
      (repeat (with_reducible refine And.intro (by first | omega | decide | (simp; done) | (simp only [List.length_append, List.length_cons, List.length_nil, List.length_map]; omega)) ?_))
      refine endW [] [] (by simp) rfl rfl rfl ?_ ?_ <;> simp only [go_sem]
      simp [hr, lask0, note0, askA, covs, cov, subs, names, namess]
    have e0 : (x + 1 == 0) = false := by simp [hk0]
    rw [if_neg hk0] at hr
    have n0 : ((0 : Nat) : Int) = 0 := rfl
    generalize hk : x + 1 = k at *
    have lz : ∀ n : Nat, (((n + 1 : Nat) : Int) == 0) = false := fun n => by simp; omega
    have lo2 : ∀ n : Nat, (((n + 1 + 1 : Nat) : Int) == 1) = false := fun n => by simp; omega
    by_cases hn : k ≠ 1 ∧ k ≠ 7 ∧ k ≠ 8
    · have m1 : (k != 1) = true := by simp [hn.1]
      have m7 : (k != 7) = true := by simp [hn.2.1]
      have m8 : (k != 8) = true := by simp [hn.2.2]
      have e7 : (k == 7) = false := by simp [hn.2.1]
      have e8 : (k == 8) = false := by simp [hn.2.2]
      rw [if_pos hn] at hr
      cases rest with
      | nil =>
        have hr : r = (lask0, 2) := hr
        simp (disch := omega) only [go_sem, hD, hG', lqLo, g1, g2, z0, e0, hk, unbox]
        (repeat (with_reducible refine And.intro (by first | omega | decide | (simp; done) | (simp only [List.length_append, List.length_cons, List.length_nil, List.length_map]; omega)) ?_))
        refine RegT.mk [] ?_
        simp (disch := omega) only [go_sem, hD, hG', lqLo, n0, m1, m7, m8, unbox]
        (repeat (with_reducible refine And.intro (by first | omega | decide | (simp; done) | (simp only [List.length_append, List.length_cons, List.length_nil, List.length_map]; omega)) ?_))
        refine endW [] [] (by simp) rfl rfl rfl ?_ ?_ <;> simp only [go_sem]
        simp [hr, lask0, note0, askA, covs, cov, subs, names, namess]
      | cons q rs =>
        have hr : r = laskQ k q rs := hr
        have HQ := htl.head
        have HW := htl.tail
        have HL := HW.1
        unfold laskQ at hr
        by_cases h2 : k = 2
        · have e2 : (k == 2) = true := by simp [h2]
          rw [if_pos (by unfold isNd; omega)] at hr
          cases rs with
          | nil =>
            have hr : r = (lask0, 2) := hr
            simp (disch := omega) only [go_sem, hD, hG', lqLo, g1, g2, z0, e0, hk, unbox]
            (repeat (with_reducible refine And.intro (by first | omega | decide | (simp; done) | (simp only [List.length_append, List.length_cons, List.length_nil, List.length_map]; omega)) ?_))
            refine RegT.mk [] ?_
            simp (disch := omega) only [go_sem, hD, hG', lqLo, strRow, n0, m1, m7, m8, hdr, lz, lo2, z0, List.take_length, Int.cast_ofNat_Int, e2, unbox]
            (repeat (with_reducible refine And.intro (by first | omega | decide | (simp; done) | (simp only [List.length_append, List.length_cons, List.length_nil, List.length_map]; omega)) ?_))
            refine endW [] [] (by simp) rfl rfl rfl ?_ ?_ <;> simp only [go_sem]
            simp [hr, lask0, note0, askA, bA, covs, cov, subs, names, namess]
          | cons y ys =>
            cases ys with
            | nil =>
              have hyl := HW.head
              have g3 := g3 y hyl
              have hr : r = if (numberS y).2 = true then (⟨k, bA q, (numberS y).1, note0⟩, wrongAskS ⟨k, bA q, (numberS y).1, note0⟩) else (lask0, 2) := hr
              generalize numberS y = ny at *
              obtain ⟨ny, nb⟩ := ny
              have g6 := g6 k ny q HQ
              simp only at g3 hr
              simp only [nakedA, waE, bA] at g6
              cases nb
              · rw [if_neg (by simp)] at hr
                simp (disch := omega) only [go_sem, hD, hG', lqLo, g1, g2, z0, e0, hk, unbox]
                (repeat (with_reducible refine And.intro (by first | omega | decide | (simp; done) | (simp only [List.length_append, List.length_cons, List.length_nil, List.length_map]; omega)) ?_))
                refine RegT.mk [] ?_
                simp (disch := omega) only [go_sem, hD, hG', lqLo, strRow, n0, m1, m7, m8, hdr, lz, lo2, z0, List.take_length, Int.cast_ofNat_Int, e2, g3, unbox]
                (repeat (with_reducible refine And.intro (by first | omega | decide | (simp; done) | (simp only [List.length_append, List.length_cons, List.length_nil, List.length_map]; omega)) ?_))
                refine endW [] [] (by simp) rfl rfl rfl ?_ ?_ <;> simp only [go_sem]
                simp [hr, lask0, note0, askA, bA, covs, cov, subs, names, namess]
              · rw [if_pos rfl] at hr
                simp (disch := omega) only [go_sem, hD, hG', lqLo, g1, g2, z0, e0, hk, unbox]
                (repeat (with_reducible refine And.intro (by first | omega | decide | (simp; done) | (simp only [List.length_append, List.length_cons, List.length_nil, List.length_map]; omega)) ?_))
                refine RegT.mk [] ?_
                simp (disch := omega) only [go_sem, hD, hG', lqLo, strRow, n0, m1, m7, m8, hdr, lz, lo2, z0, List.take_length, Int.cast_ofNat_Int, e2, g3, g6, unbox]
                (repeat (with_reducible refine And.intro (by first | omega | decide | (simp; done) | (simp only [List.length_append, List.length_cons, List.length_nil, List.length_map]; omega)) ?_))
                refine endW [] [] (by simp) rfl rfl rfl ?_ ?_ <;> simp only [go_sem]
                simp [hr, lask0, note0, askA, bA, covs, cov, subs, names, namess]
            | cons y2 ys =>
              have hr : r = (lask0, 2) := hr
              simp (disch := omega) only [go_sem, hD, hG', lqLo, g1, g2, z0, e0, hk, unbox]
              (repeat (with_reducible refine And.intro (by first | omega | decide | (simp; done) | (simp only [List.length_append, List.length_cons, List.length_nil, List.length_map]; omega)) ?_))
              refine RegT.mk [] ?_
              simp (disch := omega) only [go_sem, hD, hG', lqLo, strRow, n0, m1, m7, m8, hdr, lz, lo2, z0, List.take_length, Int.cast_ofNat_Int, e2, unbox]
              (repeat (with_reducible refine And.intro (by first | omega | decide | (simp; done) | (simp only [List.length_append, List.length_cons, List.length_nil, List.length_map]; omega)) ?_))
              refine endW [] [] (by simp) rfl rfl rfl ?_ ?_ <;> simp only [go_sem]
              simp [hr, lask0, note0, askA, bA, covs, cov, subs, names, namess]
        have e2 : (k == 2) = false := by simp [h2]
        by_cases h6 : k = 6
        · have e6 : (k == 6) = true := by simp [h6]
          rw [if_pos (by unfold isNd; omega)] at hr
          cases rs with
          | nil =>
            have hr : r = (lask0, 2) := hr
            simp (disch := omega) only [go_sem, hD, hG', lqLo, g1, g2, z0, e0, hk, unbox]
            (repeat (with_reducible refine And.intro (by first | omega | decide | (simp; done) | (simp only [List.length_append, List.length_cons, List.length_nil, List.length_map]; omega)) ?_))
            refine RegT.mk [] ?_
            simp (disch := omega) only [go_sem, hD, hG', lqLo, strRow, n0, m1, m7, m8, hdr, lz, lo2, z0, List.take_length, Int.cast_ofNat_Int, e2, e6, unbox]
            (repeat (with_reducible refine And.intro (by first | omega | decide | (simp; done) | (simp only [List.length_append, List.length_cons, List.length_nil, List.length_map]; omega)) ?_))
            refine endW [] [] (by simp) rfl rfl rfl ?_ ?_ <;> simp only [go_sem]
            simp [hr, lask0, note0, askA, bA, covs, cov, subs, names, namess]
          | cons y ys =>
            cases ys with
            | nil =>
              have hyl := HW.head
              have g3 := g3 y hyl
              have hr : r = if (numberS y).2 = true then (⟨k, bA q, (numberS y).1, note0⟩, wrongAskS ⟨k, bA q, (numberS y).1, note0⟩) else (lask0, 2) := hr
              generalize numberS y = ny at *
              obtain ⟨ny, nb⟩ := ny
              have g6 := g6 k ny q HQ
              simp only at g3 hr
              simp only [nakedA, waE, bA] at g6
              cases nb
              · rw [if_neg (by simp)] at hr
                simp (disch := omega) only [go_sem, hD, hG', lqLo, g1, g2, z0, e0, hk, unbox]
                (repeat (with_reducible refine And.intro (by first | omega | decide | (simp; done) | (simp only [List.length_append, List.length_cons, List.length_nil, List.length_map]; omega)) ?_))
                refine RegT.mk [] ?_
                simp (disch := omega) only [go_sem, hD, hG', lqLo, strRow, n0, m1, m7, m8, hdr, lz, lo2, z0, List.take_length, Int.cast_ofNat_Int, e2, e6, g3, unbox]
                (repeat (with_reducible refine And.intro (by first | omega | decide | (simp; done) | (simp only [List.length_append, List.length_cons, List.length_nil, List.length_map]; omega)) ?_))
                refine endW [] [] (by simp) rfl rfl rfl ?_ ?_ <;> simp only [go_sem]
                simp [hr, lask0, note0, askA, bA, covs, cov, subs, names, namess]
              · rw [if_pos rfl] at hr
                simp (disch := omega) only [go_sem, hD, hG', lqLo, g1, g2, z0, e0, hk, unbox]
                (repeat (with_reducible refine And.intro (by first | omega | decide | (simp; done) | (simp only [List.length_append, List.length_cons, List.length_nil, List.length_map]; omega)) ?_))
                refine RegT.mk [] ?_
                simp (disch := omega) only [go_sem, hD, hG', lqLo, strRow, n0, m1, m7, m8, hdr, lz, lo2, z0, List.take_length, Int.cast_ofNat_Int, e2, e6, g3, g6, unbox]
                (repeat (with_reducible refine And.intro (by first | omega | decide | (simp; done) | (simp only [List.length_append, List.length_cons, List.length_nil, List.length_map]; omega)) ?_))
                refine endW [] [] (by simp) rfl rfl rfl ?_ ?_ <;> simp only [go_sem]
                simp [hr, lask0, note0, askA, bA, covs, cov, subs, names, namess]
            | cons y2 ys =>
              have hr : r = (lask0, 2) := hr
              simp (disch := omega) only [go_sem, hD, hG', lqLo, g1, g2, z0, e0, hk, unbox]
              (repeat (with_reducible refine And.intro (by first | omega | decide | (simp; done) | (simp only [List.length_append, List.length_cons, List.length_nil, List.length_map]; omega)) ?_))
              refine RegT.mk [] ?_
              simp (disch := omega) only [go_sem, hD, hG', lqLo, strRow, n0, m1, m7, m8, hdr, lz, lo2, z0, List.take_length, Int.cast_ofNat_Int, e2, e6, unbox]
              (repeat (with_reducible refine And.intro (by first | omega | decide | (simp; done) | (simp only [List.length_append, List.length_cons, List.length_nil, List.length_map]; omega)) ?_))
              refine endW [] [] (by simp) rfl rfl rfl ?_ ?_ <;> simp only [go_sem]
              simp [hr, lask0, note0, askA, bA, covs, cov, subs, names, namess]
        have e6 : (k == 6) = false := by simp [h6]
        rw [if_neg (by unfold isNd; omega)] at hr
        by_cases h4 : k = 4
        · have e4 : (k == 4) = true := by simp [h4]
          rw [if_pos h4] at hr
          have g4 := g4 rs HW
          have hnf := noteP_fits rs [] HW (by simpa using HL) (by simp)
          generalize noteP [] rs = np at *
          obtain ⟨⟨n1', n2'⟩, nb⟩ := np
          have g5 := g5 ⟨k, bA q, 0, ⟨n1', n2'⟩⟩ ⟨by show q.length ≤ 1048576; omega, hnf⟩
          simp only at g4 hr
          simp only [noteA] at g4
          simp only [askA, waE, bA] at g5
          cases nb
          · rw [if_neg (by simp)] at hr
            simp (disch := omega) only [go_sem, hD, hG', lqLo, g1, g2, z0, e0, hk, unbox]
            (repeat (with_reducible refine And.intro (by first | omega | decide | (simp; done) | (simp only [List.length_append, List.length_cons, List.length_nil, List.length_map]; omega)) ?_))
            refine RegT.mk [] ?_
            simp (disch := omega) only [go_sem, hD, hG', lqLo, strRow, n0, m1, m7, m8, hdr, lz, lo2, z0, List.take_length, Int.cast_ofNat_Int, e2, e6, e7, e8, e4, g4, unbox]
            (repeat (with_reducible refine And.intro (by first | omega | decide | (simp; done) | (simp only [List.length_append, List.length_cons, List.length_nil, List.length_map]; omega)) ?_))
            refine endW [] [] (by simp) rfl rfl rfl ?_ ?_ <;> simp only [go_sem]
            simp [hr, lask0, note0, askA, bA, covs, cov, subs, names, namess]
          · rw [if_pos rfl] at hr
            simp (disch := omega) only [go_sem, hD, hG', lqLo, g1, g2, z0, e0, hk, unbox]
            (repeat (with_reducible refine And.intro (by first | omega | decide | (simp; done) | (simp only [List.length_append, List.length_cons, List.length_nil, List.length_map]; omega)) ?_))
            refine RegT.mk [] ?_
            simp (disch := omega) only [go_sem, hD, hG', lqLo, strRow, n0, m1, m7, m8, hdr, lz, lo2, z0, List.take_length, Int.cast_ofNat_Int, e2, e6, e7, e8, e4, g4, g5, unbox]
            (repeat (with_reducible refine And.intro (by first | omega | decide | (simp; done) | (simp only [List.length_append, List.length_cons, List.length_nil, List.length_map]; omega)) ?_))
            refine endW [] [] (by simp) rfl rfl rfl ?_ ?_ <;> simp only [go_sem]
            simp [hr, lask0, note0, askA, bA, covs, cov, subs, names, namess]
        · have e4 : (k == 4) = false := by simp [h4]
          rw [if_neg h4] at hr
          have g6 := g6 k 0 q HQ
          simp only [nakedA, waE, bA] at g6
          cases rs with
          | nil =>
            rw [if_pos rfl] at hr
            simp (disch := omega) only [go_sem, hD, hG', lqLo, g1, g2, z0, e0, hk, unbox]
            (repeat (with_reducible refine And.intro (by first | omega | decide | (simp; done) | (simp only [List.length_append, List.length_cons, List.length_nil, List.length_map]; omega)) ?_))
            refine RegT.mk [] ?_
            simp (disch := omega) only [go_sem, hD, hG', lqLo, strRow, n0, m1, m7, m8, hdr, lz, lo2, z0, List.take_length, Int.cast_ofNat_Int, e2, e6, e7, e8, e4, g6, unbox]
            (repeat (with_reducible refine And.intro (by first | omega | decide | (simp; done) | (simp only [List.length_append, List.length_cons, List.length_nil, List.length_map]; omega)) ?_))
            refine endW [] [] (by simp) rfl rfl rfl ?_ ?_ <;> simp only [go_sem]
            simp [hr, lask0, note0, askA, bA, covs, cov, subs, names, namess]
          | cons y ys =>
            rw [if_neg (by simp)] at hr
            simp (disch := omega) only [go_sem, hD, hG', lqLo, g1, g2, z0, e0, hk, unbox]
            (repeat (with_reducible refine And.intro (by first | omega | decide | (simp; done) | (simp only [List.length_append, List.length_cons, List.length_nil, List.length_map]; omega)) ?_))
            refine RegT.mk [] ?_
            simp (disch := omega) only [go_sem, hD, hG', lqLo, strRow, n0, m1, m7, m8, hdr, lz, lo2, z0, List.take_length, Int.cast_ofNat_Int, e2, e6, e7, e8, e4, unbox]
            (repeat (with_reducible refine And.intro (by first | omega | decide | (simp; done) | (simp only [List.length_append, List.length_cons, List.length_nil, List.length_map]; omega)) ?_))
            refine endW [] [] (by simp) rfl rfl rfl ?_ ?_ <;> simp only [go_sem]
            simp [hr, lask0, note0, askA, bA, covs, cov, subs, names, namess]
    · rw [if_neg hn] at hr
      have hr : r = laskQ k [] rest := hr
      have HQ : ([] : Wd).length ≤ 1000 := by simp
      have HW := htl
      have HL := HW.1
      unfold laskQ at hr
      by_cases h1 : k = 1
      · have m1 : (k != 1) = false := by simp [h1]
        have e2 : (k == 2) = false := by simp [h1]
        have e6 : (k == 6) = false := by simp [h1]
        have e7 : (k == 7) = false := by simp [h1]
        have e8 : (k == 8) = false := by simp [h1]
        have e4 : (k == 4) = false := by simp [h1]
        rw [if_neg (by unfold isNd; omega), if_neg (by omega)] at hr
        have g6 := g6 k 0 [] HQ
        simp only [nakedA, waE, bA] at g6
        cases rest with
        | nil =>
          rw [if_pos rfl] at hr
          simp (disch := omega) only [go_sem, hD, hG', lqLo, g1, g2, z0, e0, hk, unbox]
          (repeat (with_reducible refine And.intro (by first | omega | decide | (simp; done) | (simp only [List.length_append, List.length_cons, List.length_nil, List.length_map]; omega)) ?_))
          refine RegT.mk [] ?_
          simp (disch := omega) only [go_sem, hD, hG', lqLo, strRow, n0, hdr, lz, lo2, z0, List.take_length, Int.cast_ofNat_Int, m1, e2, e6, e7, e8, e4, g6, unbox]
          (repeat (with_reducible refine And.intro (by first | omega | decide | (simp; done) | (simp only [List.length_append, List.length_cons, List.length_nil, List.length_map]; omega)) ?_))
          refine endW [] [] (by simp) rfl rfl rfl ?_ ?_ <;> simp only [go_sem]
          simp [hr, lask0, note0, askA, bA, covs, cov, subs, names, namess]
        | cons y ys =>
          rw [if_neg (by simp)] at hr
          simp (disch := omega) only [go_sem, hD, hG', lqLo, g1, g2, z0, e0, hk, unbox]
          (repeat (with_reducible refine And.intro (by first | omega | decide | (simp; done) | (simp only [List.length_append, List.length_cons, List.length_nil, List.length_map]; omega)) ?_))
          refine RegT.mk [] ?_
          simp (disch := omega) only [go_sem, hD, hG', lqLo, strRow, n0, hdr, lz, lo2, z0, List.take_length, Int.cast_ofNat_Int, m1, e2, e6, e7, e8, e4, unbox]
          (repeat (with_reducible refine And.intro (by first | omega | decide | (simp; done) | (simp only [List.length_append, List.length_cons, List.length_nil, List.length_map]; omega)) ?_))
          refine endW [] [] (by simp) rfl rfl rfl ?_ ?_ <;> simp only [go_sem]
          simp [hr, lask0, note0, askA, bA, covs, cov, subs, names, namess]
      have m1 : (k != 1) = true := by simp [h1]
      have e2 : (k == 2) = false := by simp; omega
      have e6 : (k == 6) = false := by simp; omega
      have e4 : (k == 4) = false := by simp; omega
      rw [if_pos (by unfold isNd; omega)] at hr
      by_cases h7 : k = 7
      · have m7 : (k != 7) = false := by simp [h7]
        have e7 : (k == 7) = true := by simp [h7]
        cases rest with
        | nil =>
          have hr : r = (lask0, 2) := hr
          simp (disch := omega) only [go_sem, hD, hG', lqLo, g1, g2, z0, e0, hk, unbox]
          (repeat (with_reducible refine And.intro (by first | omega | decide | (simp; done) | (simp only [List.length_append, List.length_cons, List.length_nil, List.length_map]; omega)) ?_))
          refine RegT.mk [] ?_
          simp (disch := omega) only [go_sem, hD, hG', lqLo, strRow, n0, hdr, lz, lo2, z0, List.take_length, Int.cast_ofNat_Int, m1, m7, e2, e6, e7, e4, unbox]
          (repeat (with_reducible refine And.intro (by first | omega | decide | (simp; done) | (simp only [List.length_append, List.length_cons, List.length_nil, List.length_map]; omega)) ?_))
          refine endW [] [] (by simp) rfl rfl rfl ?_ ?_ <;> simp only [go_sem]
          simp [hr, lask0, note0, askA, bA, covs, cov, subs, names, namess]
        | cons y ys =>
          cases ys with
          | nil =>
            have hyl := HW.head
            have g3 := g3 y hyl
            have hr : r = if (numberS y).2 = true then (⟨k, bA [], (numberS y).1, note0⟩, wrongAskS ⟨k, bA [], (numberS y).1, note0⟩) else (lask0, 2) := hr
            generalize numberS y = ny at *
            obtain ⟨ny, nb⟩ := ny
            have g6 := g6 k ny [] HQ
            simp only at g3 hr
            simp only [nakedA, waE, bA] at g6
            cases nb
            · rw [if_neg (by simp)] at hr
              simp (disch := omega) only [go_sem, hD, hG', lqLo, g1, g2, z0, e0, hk, unbox]
              (repeat (with_reducible refine And.intro (by first | omega | decide | (simp; done) | (simp only [List.length_append, List.length_cons, List.length_nil, List.length_map]; omega)) ?_))
              refine RegT.mk [] ?_
              simp (disch := omega) only [go_sem, hD, hG', lqLo, strRow, n0, hdr, lz, lo2, z0, List.take_length, Int.cast_ofNat_Int, m1, m7, e2, e6, e7, e4, g3, unbox]
              (repeat (with_reducible refine And.intro (by first | omega | decide | (simp; done) | (simp only [List.length_append, List.length_cons, List.length_nil, List.length_map]; omega)) ?_))
              refine endW [] [] (by simp) rfl rfl rfl ?_ ?_ <;> simp only [go_sem]
              simp [hr, lask0, note0, askA, bA, covs, cov, subs, names, namess]
            · rw [if_pos rfl] at hr
              simp (disch := omega) only [go_sem, hD, hG', lqLo, g1, g2, z0, e0, hk, unbox]
              (repeat (with_reducible refine And.intro (by first | omega | decide | (simp; done) | (simp only [List.length_append, List.length_cons, List.length_nil, List.length_map]; omega)) ?_))
              refine RegT.mk [] ?_
              simp (disch := omega) only [go_sem, hD, hG', lqLo, strRow, n0, hdr, lz, lo2, z0, List.take_length, Int.cast_ofNat_Int, m1, m7, e2, e6, e7, e4, g3, g6, unbox]
              (repeat (with_reducible refine And.intro (by first | omega | decide | (simp; done) | (simp only [List.length_append, List.length_cons, List.length_nil, List.length_map]; omega)) ?_))
              refine endW [] [] (by simp) rfl rfl rfl ?_ ?_ <;> simp only [go_sem]
              simp [hr, lask0, note0, askA, bA, covs, cov, subs, names, namess]
          | cons y2 ys =>
            have hr : r = (lask0, 2) := hr
            simp (disch := omega) only [go_sem, hD, hG', lqLo, g1, g2, z0, e0, hk, unbox]
            (repeat (with_reducible refine And.intro (by first | omega | decide | (simp; done) | (simp only [List.length_append, List.length_cons, List.length_nil, List.length_map]; omega)) ?_))
            refine RegT.mk [] ?_
            simp (disch := omega) only [go_sem, hD, hG', lqLo, strRow, n0, hdr, lz, lo2, z0, List.take_length, Int.cast_ofNat_Int, m1, m7, e2, e6, e7, e4, unbox]
            (repeat (with_reducible refine And.intro (by first | omega | decide | (simp; done) | (simp only [List.length_append, List.length_cons, List.length_nil, List.length_map]; omega)) ?_))
            refine endW [] [] (by simp) rfl rfl rfl ?_ ?_ <;> simp only [go_sem]
            simp [hr, lask0, note0, askA, bA, covs, cov, subs, names, namess]
      have m7 : (k != 7) = true := by simp [h7]
      have m8 : (k != 8) = false := by simp; omega
      have e7 : (k == 7) = false := by simp [h7]
      have e8 : (k == 8) = true := by simp; omega
      cases rest with
      | nil =>
        have hr : r = (lask0, 2) := hr
        simp (disch := omega) only [go_sem, hD, hG', lqLo, g1, g2, z0, e0, hk, unbox]
        (repeat (with_reducible refine And.intro (by first | omega | decide | (simp; done) | (simp only [List.length_append, List.length_cons, List.length_nil, List.length_map]; omega)) ?_))
        refine RegT.mk [] ?_
        simp (disch := omega) only [go_sem, hD, hG', lqLo, strRow, n0, hdr, lz, lo2, z0, List.take_length, Int.cast_ofNat_Int, m1, m7, m8, e2, e6, e7, e8, e4, unbox]
        (repeat (with_reducible refine And.intro (by first | omega | decide | (simp; done) | (simp only [List.length_append, List.length_cons, List.length_nil, List.length_map]; omega)) ?_))
        refine endW [] [] (by simp) rfl rfl rfl ?_ ?_ <;> simp only [go_sem]
        simp [hr, lask0, note0, askA, bA, covs, cov, subs, names, namess]
      | cons y ys =>
        cases ys with
        | nil =>
          have hyl := HW.head
          have g3 := g3 y hyl
          have hr : r = if (numberS y).2 = true then (⟨k, bA [], (numberS y).1, note0⟩, wrongAskS ⟨k, bA [], (numberS y).1, note0⟩) else (lask0, 2) := hr
          generalize numberS y = ny at *
          obtain ⟨ny, nb⟩ := ny
          have g6 := g6 k ny [] HQ
          simp only at g3 hr
          simp only [nakedA, waE, bA] at g6
          cases nb
          · rw [if_neg (by simp)] at hr
            simp (disch := omega) only [go_sem, hD, hG', lqLo, g1, g2, z0, e0, hk, unbox]
            (repeat (with_reducible refine And.intro (by first | omega | decide | (simp; done) | (simp only [List.length_append, List.length_cons, List.length_nil, List.length_map]; omega)) ?_))
            refine RegT.mk [] ?_
            simp (disch := omega) only [go_sem, hD, hG', lqLo, strRow, n0, hdr, lz, lo2, z0, List.take_length, Int.cast_ofNat_Int, m1, m7, m8, e2, e6, e7, e8, e4, g3, unbox]
            (repeat (with_reducible refine And.intro (by first | omega | decide | (simp; done) | (simp only [List.length_append, List.length_cons, List.length_nil, List.length_map]; omega)) ?_))
            refine endW [] [] (by simp) rfl rfl rfl ?_ ?_ <;> simp only [go_sem]
            simp [hr, lask0, note0, askA, bA, covs, cov, subs, names, namess]
          · rw [if_pos rfl] at hr
            simp (disch := omega) only [go_sem, hD, hG', lqLo, g1, g2, z0, e0, hk, unbox]
            (repeat (with_reducible refine And.intro (by first | omega | decide | (simp; done) | (simp only [List.length_append, List.length_cons, List.length_nil, List.length_map]; omega)) ?_))
            refine RegT.mk [] ?_
            simp (disch := omega) only [go_sem, hD, hG', lqLo, strRow, n0, hdr, lz, lo2, z0, List.take_length, Int.cast_ofNat_Int, m1, m7, m8, e2, e6, e7, e8, e4, g3, g6, unbox]
            (repeat (with_reducible refine And.intro (by first | omega | decide | (simp; done) | (simp only [List.length_append, List.length_cons, List.length_nil, List.length_map]; omega)) ?_))
            refine endW [] [] (by simp) rfl rfl rfl ?_ ?_ <;> simp only [go_sem]
            simp [hr, lask0, note0, askA, bA, covs, cov, subs, names, namess]
        | cons y2 ys =>
          have hr : r = (lask0, 2) := hr
          simp (disch := omega) only [go_sem, hD, hG', lqLo, g1, g2, z0, e0, hk, unbox]
          (repeat (with_reducible refine And.intro (by first | omega | decide | (simp; done) | (simp only [List.length_append, List.length_cons, List.length_nil, List.length_map]; omega)) ?_))
          refine RegT.mk [] ?_
          simp (disch := omega) only [go_sem, hD, hG', lqLo, strRow, n0, hdr, lz, lo2, z0, List.take_length, Int.cast_ofNat_Int, m1, m7, m8, e2, e6, e7, e8, e4, unbox]
          (repeat (with_reducible refine And.intro (by first | omega | decide | (simp; done) | (simp only [List.length_append, List.length_cons, List.length_nil, List.length_map]; omega)) ?_))
          refine endW [] [] (by simp) rfl rfl rfl ?_ ?_ <;> simp only [go_sem]
          simp [hr, lask0, note0, askA, bA, covs, cov, subs, names, namess]
  exact hcon _ rfl
def eLask : Ent Tryz.prog D := ⟨61, List Wd, fun l => [.sl 1 (l.map strRow)], fun l => l ≠ [] ∧ WsOk l, fun l => ⟨.tup [askA (laskP l).1, .int .i64 (laskP l).2], []⟩, fun x y _ _ h => by
  simp only [List.cons.injEq, AV.sl.injEq, true_and, and_true] at h
  rw [strs_inj h], fun l h => con_lask l h.1 h.2⟩
end Go.Proofs.YtmlejhpeoiicpaaGreatDoor.Ab
namespace Go.Proofs.YtmlejhpeoiicpaaGreatDoor.Ab
open Go Go.RowKit
set_option linter.unusedVariables false
set_option linter.unusedSimpArgs false

theorem splitK_len (sep : Wd) : ∀ (k : Nat) (s : Wd), (Lib.splitK sep 0 k s).length ≤ k + 1
  | 0, s => by simp [Lib.splitK]
  | k + 1, s => by
    rw [Lib.splitK]
    split
    · simp
    · simp only [List.length_cons]
      have := splitK_len sep k (s.drop ((Lib.index s sep).toNat + sep.length))
      omega
theorem splitK_ne (sep : Wd) : ∀ (k : Nat) (s : Wd), Lib.splitK sep 0 k s ≠ []
  | 0, s => by simp [Lib.splitK]
  | k + 1, s => by
    rw [Lib.splitK]
    split <;> simp
theorem splitK_word (sep : Wd) : ∀ (k : Nat) (s : Wd), ∀ w ∈ Lib.splitK sep 0 k s, w.length ≤ s.length
  | 0, s, w, h => by simp [Lib.splitK] at h; rw [h]; exact Nat.le_refl _
  | k + 1, s, w, h => by
    rw [Lib.splitK] at h
    split at h
    · simp at h; rw [h]; exact Nat.le_refl _
    · rcases List.mem_cons.1 h with h | h
      · rw [h, List.length_take]; omega
      · have := splitK_word sep k _ w h
        rw [List.length_drop] at this
        omega
theorem split_ok (s sep : Wd) (h1 : 1 ≤ sep.length) (hs : s.length ≤ 999) : Lib.split s sep ≠ [] ∧ WsOk (Lib.split s sep) := by
  refine ⟨splitK_ne _ _ _, ?_, fun w hw => ?_⟩
  · have := splitK_len sep (Lib.count s sep) s
    have h2 : Lib.count s sep ≤ s.length := Lib.countB_le (bA sep) h1 _ (bA s) (Nat.le_refl _)
    show (Lib.splitK sep 0 (Lib.count s sep) s).length ≤ 1000
    omega
  · have := splitK_word sep _ _ w hw
    omega
theorem lineP_ok {b : Wd} (h : (lineP b).2.2 = 0) : (lineP b).1 ≠ [] ∧ WsOk (lineP b).1 := by
  unfold lineP at *
  split at h
  · cases h
  · split at h
    · cases h
    · rename_i h1 h2
      rw [if_neg h1, if_neg h2]
      exact split_ok (b.take (ixB b).toNat) [32] (by decide) (by rw [List.length_take]; omega)
theorem con_lineask (b : Wd) (hb : b.length ≤ 16777216) : Con Tryz.prog D 24 [.sl 1 (b.map byteRow)] ⟨.tup [askA (laskR b).1, .int .i64 (laskR b).2.1, .int .i64 (laskR b).2.2], []⟩ := by
  have hok : GOk Tryz.prog D (tabG [eLine, eLask]) := tabG_ok _
  have g1 := tabG_use (T := [eLine, eLask]) (E := eLine) (i := 0) rfl (by decide) (b) (hb)
  have g2 := fun (h : (lineP b).2.2 = 0) => tabG_use (T := [eLine, eLask]) (E := eLask) (i := 1) rfl (by decide) ((lineP b).1) (lineP_ok h)
  generalize tabG [eLine, eLask] = G at *
  dsimp only [eLine] at g1
  dsimp only [eLask] at g2
  unfold laskR
  generalize lineP b = x at *
  obtain ⟨ws, n, e⟩ := x
  simp only at g1 g2
  refine conW (G := G) (rs := [(2, some 27), (3, none), (4, none)]) hok Tryz.func24 Tryz.results24 Tryz.ntmps24 (fun _ => {}) fun X hP hD hG' hX => ?_
  simp only [argS, num]
  by_cases he : e = 0
  · have de : (e != 0) = false := by simp [he]
    have g2 := g2 he
    rw [if_neg (by simp [he])]
    generalize laskP ws = y at *
    obtain ⟨⟨k, q, an, ⟨ps, bs⟩⟩, er⟩ := y
    simp only [askA] at g2
    by_cases hr : er = 0
    · have dr : (er != 0) = false := by simp [hr]
      rw [if_neg (by simp [hr])]
      simp (disch := omega) only [go_sem, hD, hG', g1, de, g2, dr, unbox]
      refine endW [] [] (by simp) rfl rfl rfl ?_ ?_ <;> simp only [go_sem]
      simp [askA, covs, cov, subs, names, namess]
    · have dr : (er != 0) = true := by simp [hr]
      rw [if_pos (by simpa using hr)]
      simp (disch := omega) only [go_sem, hD, hG', g1, de, g2, dr, unbox]
      refine endW [] [] (by simp) rfl rfl rfl ?_ ?_ <;> simp only [go_sem]
      simp [askA, lask0, note0, covs, cov, subs, names, namess]
  · have de : (e != 0) = true := by simp [he]
    rw [if_pos (by simpa using he)]
    simp (disch := omega) only [go_sem, hD, hG', g1, de, unbox]
    refine endW [] [] (by simp) rfl rfl rfl ?_ ?_ <;> simp only [go_sem]
    simp [askA, lask0, note0, covs, cov, subs, names, namess]
def eLineask : Ent Tryz.prog D := ⟨24, Wd, fun b => [.sl 1 (b.map byteRow)], fun b => b.length ≤ 16777216, fun b => ⟨.tup [askA (laskR b).1, .int .i64 (laskR b).2.1, .int .i64 (laskR b).2.2], []⟩, fun x y _ _ h => by
  simp only [List.cons.injEq, AV.sl.injEq, true_and, and_true] at h
  rw [bytes_inj h], con_lineask⟩
def nakedS (s : LSay) : AV := .agg [.int .i64 s.kind, .int .i64 s.n, .int .i64 s.m, .int .i64 s.err, .nils, .nils]
theorem nakedS_inj {a b : LSay} (ha : a.note = note0) (hb : b.note = note0) (h : nakedS a = nakedS b) : a = b := by
  obtain ⟨k, q, n, e, m⟩ := a
  obtain ⟨k', q', n', e', m'⟩ := b
  simp only at ha hb
  subst ha hb
  simp only [nakedS, AV.agg.injEq, List.cons.injEq, AV.int.injEq, true_and, and_true] at h
  obtain ⟨rfl, rfl, rfl, rfl⟩ := h
  rfl
def wsE (x : LSay × Bool) : List AV := match x.2 with
  | true => [nakedS x.1]
  | false => [sayA x.1]
def eFrwrongF : Ent Tryz.prog D := ⟨79, LSay × Bool, wsE, fun x => x.1.note.Fits ∧ (x.2 = true → x.1.note = note0), fun x => ⟨.int .i64 (wrongSayS x.1), []⟩, fun x y hx hy h => by
  obtain ⟨a, b⟩ := x
  obtain ⟨a', b'⟩ := y
  have h1 := hx.2
  have h2 := hy.2
  simp only at h1 h2
  cases b <;> cases b' <;> simp only [wsE, List.cons.injEq, and_true] at h
  · rw [sayA_inj h]
  · simp [sayA, nakedS] at h
  · simp [sayA, nakedS] at h
  · rw [nakedS_inj (h1 rfl) (h2 rfl) h], fun x h => by
  obtain ⟨⟨k, q, n, e, m⟩, b⟩ := x
  obtain ⟨h1, h2⟩ := h
  cases b
  · exact con_frwrong _ h1
  · have h2 := h2 rfl
    simp only at h1 h2
    subst h2
    exact Con.weak (con_frwrong _ h1) (by simp [wsE, nakedS, note0, sayA, covs, cov])⟩
def lsLo : Nat → Lo := fun id => match id with | 16 => {uo := [11, 13, 15], un := [4]} | 22 => {uo := [3], un := [2]} | _ => {}
set_option maxRecDepth 100000 in
set_option maxHeartbeats 2000000 in
theorem con_lsay (l : List Wd) (hne : l ≠ []) (hl : WsOk l) : Con Tryz.prog D 66 [.sl 1 (l.map strRow)] ⟨.tup [sayA (lsayP l).1, .int .i64 (lsayP l).2], []⟩ := by
  cases l with
  | nil => exact absurd rfl hne
  | cons w rest =>
  have hok : GOk Tryz.prog D (tabG [eCutp, eNumber, eLnote, eFrwrongF]) := tabG_ok _
  have g1 := tabG_use (T := [eCutp, eNumber, eLnote, eFrwrongF]) (E := eCutp) (i := 0) rfl (by decide) ((w, [45])) (trivial)
  have hpl := trimPrefix_len w [45]
  have hwl := hl.head
  have g3 := fun (x : Wd) (h : x.length ≤ 1000) => tabG_use (T := [eCutp, eNumber, eLnote, eFrwrongF]) (E := eNumber) (i := 1) rfl (by decide) (x) (by show x.length ≤ 281474976710656; omega)
  have g4 := fun (x : List Wd) (h : WsOk x) => tabG_use (T := [eCutp, eNumber, eLnote, eFrwrongF]) (E := eLnote) (i := 2) rfl (by decide) (x) (h.big)
  have g5 := fun (s : LSay) (h : s.note.Fits) => tabG_use (T := [eCutp, eNumber, eLnote, eFrwrongF]) (E := eFrwrongF) (i := 3) rfl (by decide) ((s, false)) (⟨h, fun h => by cases h⟩)
  have g6 := fun (k e : Int) => tabG_use (T := [eCutp, eNumber, eLnote, eFrwrongF]) (E := eFrwrongF) (i := 3) rfl (by decide) ((⟨k, 0, 0, e, note0⟩, true)) (⟨fits_zero, fun _ => rfl⟩)
  generalize tabG [eCutp, eNumber, eLnote, eFrwrongF] = G at *
  dsimp only [eCutp] at g1
  dsimp only [eNumber] at g3
  dsimp only [eLnote] at g4
  dsimp only [eFrwrongF] at g5
  dsimp only [eFrwrongF] at g6
  have hcon : ∀ r, r = lsayP (w :: rest) → Con Tryz.prog D 66 [.sl 1 ((w :: rest).map strRow)] ⟨.tup [sayA r.1, .int .i64 r.2], []⟩ := by
    intro r hr
    rw [lsayP] at hr
    have htl := hl.tail
    have hrl := htl.1
    have z0 : (0 : Int).toNat = 0 := rfl
    have n0 : ((0 : Nat) : Int) = 0 := rfl
    have lo2 : ∀ n : Nat, (((n + 1 + 1 : Nat) : Int) == 1) = false := fun n => by simp; omega
    have g3t := g3 (Lib.trimPrefix w [45]) (by omega)
    generalize Lib.trimPrefix w [45] = tw at *
    generalize Lib.hasPrefix w [45] = bw at *
    refine conW (G := G) (rs := [(2, some 30), (3, none)]) hok Tryz.func66 Tryz.results66 Tryz.ntmps66 (lsLo) fun X hP hD hG' hX => ?_
    simp only [argS, num, List.map_cons, strRow]
    by_cases h1 : w = [43, 111, 107]
    · have b1 : (w == [43, 111, 107]) = true := by simp [h1]
      rw [if_pos h1] at hr
      have g6 := g6 1 0
      simp only [nakedS, wsE] at g6
      cases rest with
      | nil =>
        have hr : r = (⟨1, 0, 0, 0, note0⟩, wrongSayS ⟨1, 0, 0, 0, note0⟩) := hr
        simp (disch := omega) only [go_sem, hD, hG', g1, n0, lo2, z0, Int.cast_ofNat_Int, strRow, b1, lsLo, g6, unbox]
        (repeat (with_reducible refine And.intro (by first | omega | decide | (simp; done) | (simp only [List.length_append, List.length_cons, List.length_nil, List.length_map]; omega)) ?_))
        refine endW [] [] (by simp) rfl rfl rfl ?_ ?_ <;> simp only [go_sem]
        simp [hr, lsay0, note0, sayA, covs, cov, subs, names, namess]
      | cons y ys =>
        have hr : r = (lsay0, 2) := hr
        simp (disch := omega) only [go_sem, hD, hG', g1, n0, lo2, z0, Int.cast_ofNat_Int, strRow, b1, lsLo, unbox]
        (repeat (with_reducible refine And.intro (by first | omega | decide | (simp; done) | (simp only [List.length_append, List.length_cons, List.length_nil, List.length_map]; omega)) ?_))
        refine endW [] [] (by simp) rfl rfl rfl ?_ ?_ <;> simp only [go_sem]
        simp [hr, lsay0, note0, sayA, covs, cov, subs, names, namess]
    have b1 : (w == [43, 111, 107]) = false := by simp [h1]
    rw [if_neg h1] at hr
    by_cases h2 : w = [43, 110, 111, 110, 101]
    · have b2 : (w == [43, 110, 111, 110, 101]) = true := by simp [h2]
      rw [if_pos h2] at hr
      have g6 := g6 3 0
      simp only [nakedS, wsE] at g6
      cases rest with
      | nil =>
        have hr : r = (⟨3, 0, 0, 0, note0⟩, wrongSayS ⟨3, 0, 0, 0, note0⟩) := hr
        simp (disch := omega) only [go_sem, hD, hG', g1, n0, lo2, z0, Int.cast_ofNat_Int, strRow, b1, b2, lsLo, g6, unbox]
        (repeat (with_reducible refine And.intro (by first | omega | decide | (simp; done) | (simp only [List.length_append, List.length_cons, List.length_nil, List.length_map]; omega)) ?_))
        refine endW [] [] (by simp) rfl rfl rfl ?_ ?_ <;> simp only [go_sem]
        simp [hr, lsay0, note0, sayA, covs, cov, subs, names, namess]
      | cons y ys =>
        have hr : r = (lsay0, 2) := hr
        simp (disch := omega) only [go_sem, hD, hG', g1, n0, lo2, z0, Int.cast_ofNat_Int, strRow, b1, b2, lsLo, unbox]
        (repeat (with_reducible refine And.intro (by first | omega | decide | (simp; done) | (simp only [List.length_append, List.length_cons, List.length_nil, List.length_map]; omega)) ?_))
        refine endW [] [] (by simp) rfl rfl rfl ?_ ?_ <;> simp only [go_sem]
        simp [hr, lsay0, note0, sayA, covs, cov, subs, names, namess]
    have b2 : (w == [43, 110, 111, 110, 101]) = false := by simp [h2]
    rw [if_neg h2] at hr
    by_cases h3 : w = [43, 105, 116, 101, 109]
    · have b3 : (w == [43, 105, 116, 101, 109]) = true := by simp [h3]
      rw [if_pos h3] at hr
      have d1 : decide ((1 : Int) > 3) = false := by decide
      have d2 : decide ((2 : Int) > 3) = false := by decide
      have d3 : decide ((3 : Int) > 3) = false := by decide
      have d4 : ∀ n : Nat, decide (((n + 1 + 1 + 1 + 1 : Nat) : Int) > 3) = true := fun n => decide_eq_true (by omega)
      cases rest with
      | nil =>
        have hr : r = (lsay0, 2) := hr
        simp (disch := omega) only [go_sem, hD, hG', g1, n0, lo2, z0, Int.cast_ofNat_Int, strRow, b1, b2, b3, d1, d2, d3, d4, lsLo, unbox]
        (repeat (with_reducible refine And.intro (by first | omega | decide | (simp; done) | (simp only [List.length_append, List.length_cons, List.length_nil, List.length_map]; omega)) ?_))
        refine endW [] [] (by simp) rfl rfl rfl ?_ ?_ <;> simp only [go_sem]
        simp [hr, lsay0, note0, sayA, covs, cov, subs, names, namess]
      | cons x rest =>
      cases rest with
      | nil =>
        have hr : r = (lsay0, 2) := hr
        simp (disch := omega) only [go_sem, hD, hG', g1, n0, lo2, z0, Int.cast_ofNat_Int, strRow, b1, b2, b3, d1, d2, d3, d4, lsLo, unbox]
        (repeat (with_reducible refine And.intro (by first | omega | decide | (simp; done) | (simp only [List.length_append, List.length_cons, List.length_nil, List.length_map]; omega)) ?_))
        refine endW [] [] (by simp) rfl rfl rfl ?_ ?_ <;> simp only [go_sem]
        simp [hr, lsay0, note0, sayA, covs, cov, subs, names, namess]
      | cons y rest =>
      cases rest with
      | nil =>
        have hr : r = (lsay0, 2) := hr
        simp (disch := omega) only [go_sem, hD, hG', g1, n0, lo2, z0, Int.cast_ofNat_Int, strRow, b1, b2, b3, d1, d2, d3, d4, lsLo, unbox]
        (repeat (with_reducible refine And.intro (by first | omega | decide | (simp; done) | (simp only [List.length_append, List.length_cons, List.length_nil, List.length_map]; omega)) ?_))
        refine endW [] [] (by simp) rfl rfl rfl ?_ ?_ <;> simp only [go_sem]
        simp [hr, lsay0, note0, sayA, covs, cov, subs, names, namess]
      | cons z t =>
        have hr : r = lsayEnd ⟨2, (numberS x).1, (numberS y).1, 0, (noteP [] (z :: t)).1⟩ ((numberS x).2 && (numberS y).2 && (noteP [] (z :: t)).2) := hr
        have hdr : ∀ (a b c d : List AV), List.drop (3 : Int).toNat (List.take (((a :: b :: c :: d :: t.map strRow).length : Nat) : Int).toNat (a :: b :: c :: d :: t.map strRow)) = d :: t.map strRow := fun a b c d => by
          rw [Int.toNat_natCast, List.take_length]
          rfl
        have hzt := htl.tail.tail
        have gx := g3 x htl.head
        have gy := g3 y htl.tail.head
        have g4 := g4 (z :: t) hzt
        have hnf := noteP_fits (z :: t) [] hzt (by have := hzt.1; simpa using this) (by simp)
        generalize numberS x = nx at *
        generalize numberS y = ny at *
        generalize noteP [] (z :: t) = np at *
        obtain ⟨x1, x2⟩ := nx
        obtain ⟨y1, y2⟩ := ny
        obtain ⟨⟨p1, p2⟩, pb⟩ := np
        have g5 := g5 ⟨2, x1, y1, 0, ⟨p1, p2⟩⟩ hnf
        simp only [List.map_cons, strRow, noteA] at gx gy g4 hr
        simp only [sayA, wsE] at g5
        have z1 : (1 : Int).toNat = 1 := rfl
        have z2 : (2 : Int).toNat = 2 := rfl
        simp (disch := omega) only [go_sem, hD, hG', g1, n0, lo2, z0, Int.cast_ofNat_Int, strRow, b1, b2, b3, d4, gx, gy, g4, hdr, z1, z2, List.take_length, lsLo, unbox]
        (repeat (with_reducible refine And.intro (by first | omega | decide | (simp; done) | (simp only [List.length_append, List.length_cons, List.length_nil, List.length_map]; omega)) ?_))
        refine RegA.mk [] (by decide) ?_
        simp (disch := omega) only [go_sem, hD, hG', lsLo, unbox]
        (repeat (with_reducible refine And.intro (by first | omega | decide | (simp; done) | (simp only [List.length_append, List.length_cons, List.length_nil, List.length_map]; omega)) ?_))
        have key : (if (if x2 = true then y2 else false) = true then pb else false) = (x2 && y2 && pb) := by cases x2 <;> cases y2 <;> rfl
        rw [key]
        generalize (x2 && y2 && pb) = bb at *
        cases bb
        · have hr : r = (lsay0, 2) := hr
          simp (disch := omega) only [go_sem, hD, hG', lsLo, unbox]
          (repeat (with_reducible refine And.intro (by first | omega | decide | (simp; done) | (simp only [List.length_append, List.length_cons, List.length_nil, List.length_map]; omega)) ?_))
          refine endW [] [] (by simp) rfl rfl rfl ?_ ?_ <;> simp only [go_sem]
          simp [hr, lsay0, note0, sayA, covs, cov, subs, names, namess]
        · have hr : r = (⟨2, x1, y1, 0, ⟨p1, p2⟩⟩, wrongSayS ⟨2, x1, y1, 0, ⟨p1, p2⟩⟩) := hr
          simp (disch := omega) only [go_sem, hD, hG', lsLo, g5, unbox]
          (repeat (with_reducible refine And.intro (by first | omega | decide | (simp; done) | (simp only [List.length_append, List.length_cons, List.length_nil, List.length_map]; omega)) ?_))
          refine endW [] [] (by simp) rfl rfl rfl ?_ ?_ <;> simp only [go_sem]
          simp [hr, lsay0, note0, sayA, covs, cov, subs, names, namess]
    have b3 : (w == [43, 105, 116, 101, 109]) = false := by simp [h3]
    rw [if_neg h3] at hr
    cases bw
    · have hr : r = (lsay0, 1) := hr
      simp (disch := omega) only [go_sem, hD, hG', g1, n0, lo2, z0, Int.cast_ofNat_Int, strRow, b1, b2, b3, lsLo, unbox]
      (repeat (with_reducible refine And.intro (by first | omega | decide | (simp; done) | (simp only [List.length_append, List.length_cons, List.length_nil, List.length_map]; omega)) ?_))
      refine endW [] [] (by simp) rfl rfl rfl ?_ ?_ <;> simp only [go_sem]
      simp [hr, lsay0, note0, sayA, covs, cov, subs, names, namess]
    · rw [if_pos rfl] at hr
      generalize numberS tw = nt at *
      obtain ⟨n1, nb⟩ := nt
      simp only at g3t hr
      have g6 := g6 4 n1
      simp only [nakedS, wsE] at g6
      cases rest with
      | cons y ys =>
        have hr : r = (lsay0, 2) := hr
        simp (disch := omega) only [go_sem, hD, hG', g1, n0, lo2, z0, Int.cast_ofNat_Int, strRow, b1, b2, b3, g3t, lsLo, unbox]
        (repeat (with_reducible refine And.intro (by first | omega | decide | (simp; done) | (simp only [List.length_append, List.length_cons, List.length_nil, List.length_map]; omega)) ?_))
        refine RegT.mk [] ?_
        simp (disch := omega) only [go_sem, hD, hG', g1, n0, lo2, z0, Int.cast_ofNat_Int, strRow, b1, b2, b3, g3t, lsLo, unbox]
        (repeat (with_reducible refine And.intro (by first | omega | decide | (simp; done) | (simp only [List.length_append, List.length_cons, List.length_nil, List.length_map]; omega)) ?_))
        refine endW [] [] (by simp) rfl rfl rfl ?_ ?_ <;> simp only [go_sem]
        simp [hr, lsay0, note0, sayA, covs, cov, subs, names, namess]
      | nil =>
        cases nb
        · have hr : r = (lsay0, 2) := hr
          simp (disch := omega) only [go_sem, hD, hG', g1, n0, lo2, z0, Int.cast_ofNat_Int, strRow, b1, b2, b3, g3t, lsLo, unbox]
          (repeat (with_reducible refine And.intro (by first | omega | decide | (simp; done) | (simp only [List.length_append, List.length_cons, List.length_nil, List.length_map]; omega)) ?_))
          refine RegT.mk [] ?_
          simp (disch := omega) only [go_sem, hD, hG', g1, n0, lo2, z0, Int.cast_ofNat_Int, strRow, b1, b2, b3, g3t, lsLo, unbox]
          (repeat (with_reducible refine And.intro (by first | omega | decide | (simp; done) | (simp only [List.length_append, List.length_cons, List.length_nil, List.length_map]; omega)) ?_))
          refine endW [] [] (by simp) rfl rfl rfl ?_ ?_ <;> simp only [go_sem]
          simp [hr, lsay0, note0, sayA, covs, cov, subs, names, namess]
        · have hr : r = (⟨4, 0, 0, n1, note0⟩, wrongSayS ⟨4, 0, 0, n1, note0⟩) := hr
          simp (disch := omega) only [go_sem, hD, hG', g1, n0, lo2, z0, Int.cast_ofNat_Int, strRow, b1, b2, b3, g3t, lsLo, unbox]
          (repeat (with_reducible refine And.intro (by first | omega | decide | (simp; done) | (simp only [List.length_append, List.length_cons, List.length_nil, List.length_map]; omega)) ?_))
          refine RegT.mk [] ?_
          simp (disch := omega) only [go_sem, hD, hG', g1, n0, lo2, z0, Int.cast_ofNat_Int, strRow, b1, b2, b3, g3t, lsLo, g6, unbox]
          (repeat (with_reducible refine And.intro (by first | omega | decide | (simp; done) | (simp only [List.length_append, List.length_cons, List.length_nil, List.length_map]; omega)) ?_))
          refine endW [] [] (by simp) rfl rfl rfl ?_ ?_ <;> simp only [go_sem]
          simp [hr, lsay0, note0, sayA, covs, cov, subs, names, namess]
  exact hcon _ rfl
def eLsay : Ent Tryz.prog D := ⟨66, List Wd, fun l => [.sl 1 (l.map strRow)], fun l => l ≠ [] ∧ WsOk l, fun l => ⟨.tup [sayA (lsayP l).1, .int .i64 (lsayP l).2], []⟩, fun x y _ _ h => by
  simp only [List.cons.injEq, AV.sl.injEq, true_and, and_true] at h
  rw [strs_inj h], fun l h => con_lsay l h.1 h.2⟩
theorem con_linesay (b : Wd) (hb : b.length ≤ 16777216) : Con Tryz.prog D 27 [.sl 1 (b.map byteRow)] ⟨.tup [sayA (lsayR b).1, .int .i64 (lsayR b).2.1, .int .i64 (lsayR b).2.2], []⟩ := by
  have hok : GOk Tryz.prog D (tabG [eLine, eLsay]) := tabG_ok _
  have g1 := tabG_use (T := [eLine, eLsay]) (E := eLine) (i := 0) rfl (by decide) (b) (hb)
  have g2 := fun (h : (lineP b).2.2 = 0) => tabG_use (T := [eLine, eLsay]) (E := eLsay) (i := 1) rfl (by decide) ((lineP b).1) (lineP_ok h)
  generalize tabG [eLine, eLsay] = G at *
  dsimp only [eLine] at g1
  dsimp only [eLsay] at g2
  unfold lsayR
  generalize lineP b = x at *
  obtain ⟨ws, n, e⟩ := x
  simp only at g1 g2
  refine conW (G := G) (rs := [(2, some 30), (3, none), (4, none)]) hok Tryz.func27 Tryz.results27 Tryz.ntmps27 (fun _ => {}) fun X hP hD hG' hX => ?_
  simp only [argS, num]
  by_cases he : e = 0
  · have de : (e != 0) = false := by simp [he]
    have g2 := g2 he
    rw [if_neg (by simp [he])]
    generalize lsayP ws = y at *
    obtain ⟨⟨k, q, an, ae, ⟨ps, bs⟩⟩, er⟩ := y
    simp only [sayA] at g2
    by_cases hr : er = 0
    · have dr : (er != 0) = false := by simp [hr]
      rw [if_neg (by simp [hr])]
      simp (disch := omega) only [go_sem, hD, hG', g1, de, g2, dr, unbox]
      refine endW [] [] (by simp) rfl rfl rfl ?_ ?_ <;> simp only [go_sem]
      simp [sayA, covs, cov, subs, names, namess]
    · have dr : (er != 0) = true := by simp [hr]
      rw [if_pos (by simpa using hr)]
      simp (disch := omega) only [go_sem, hD, hG', g1, de, g2, dr, unbox]
      refine endW [] [] (by simp) rfl rfl rfl ?_ ?_ <;> simp only [go_sem]
      simp [sayA, lsay0, note0, covs, cov, subs, names, namess]
  · have de : (e != 0) = true := by simp [he]
    rw [if_pos (by simpa using he)]
    simp (disch := omega) only [go_sem, hD, hG', g1, de, unbox]
    refine endW [] [] (by simp) rfl rfl rfl ?_ ?_ <;> simp only [go_sem]
    simp [sayA, lsay0, note0, covs, cov, subs, names, namess]
def eLinesay : Ent Tryz.prog D := ⟨27, Wd, fun b => [.sl 1 (b.map byteRow)], fun b => b.length ≤ 16777216, fun b => ⟨.tup [sayA (lsayR b).1, .int .i64 (lsayR b).2.1, .int .i64 (lsayR b).2.2], []⟩, fun x y _ _ h => by
  simp only [List.cons.injEq, AV.sl.injEq, true_and, and_true] at h
  rw [bytes_inj h], con_linesay⟩
end Go.Proofs.YtmlejhpeoiicpaaGreatDoor.Ab
