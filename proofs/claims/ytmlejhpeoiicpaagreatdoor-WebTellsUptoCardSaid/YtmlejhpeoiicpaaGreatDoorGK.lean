/-
  Texts of the proof, one behind the other: WbF WbG.
  No condition but those that each theorem names.
-/
import Derived.Test.YtmlejhpeoiicpaaGreatDoorGJ
import Derived.Test.YtmlejhpeoiicpaaGreatDoorGC
import Derived.Test.YtmlejhpeoiicpaaGreatDoorGF
namespace Go.Proofs.YtmlejhpeoiicpaaGreatDoor.Ab
open Go Go.RowKit
set_option linter.unusedVariables false
set_option linter.unusedSimpArgs false

def eWparts : Ent Tryz.prog D := ⟨71, Wd, fun b => [.sl 1 (b.map byteRow)], fun b => b.length ≤ 16777216, fun b => ⟨partsA (partsR b), []⟩, fun x y _ _ h => by
  simp only [List.cons.injEq, AV.sl.injEq, true_and, and_true] at h
  rw [bytes_inj h], con_wparts⟩
theorem headsP_fit : ∀ (l : List Wd) (ps : List LProp) (hs : List Wd) (n : Int), (∀ w ∈ l, w.length ≤ 400) → (∀ p ∈ ps, PFit p) → ∀ x, headsP ps hs n l = some x → (∀ p ∈ x.1, PFit p) ∧ x.1.length ≤ ps.length + l.length ∧ x.2.1.length ≤ hs.length + l.length
  | [], ps, hs, n, _, hp, x, h => by
    rw [headsP] at h
    cases h
    exact ⟨hp, by simp, by simp⟩
  | w :: r, ps, hs, n, hw, hp, x, h => by
    have hwl := hw w (List.mem_cons_self ..)
    have hr := fun v hv => hw v (List.mem_cons_of_mem w hv)
    have hc := cut_len w [58, 32]
    have ht := trimPrefix_len (Lib.cut w [58, 32]).1 [112, 45]
    rw [headsP] at h
    split at h
    · cases h
    · split at h
      · split at h
        · cases h
        · have ih := headsP_fit r _ hs n hr (fun p hm => by
            rcases List.mem_append.1 hm with hm | hm
            · exact hp p hm
            · rw [List.mem_singleton.1 hm]
              exact propW_fit _ _ (by omega) (by omega)) x h
          refine ⟨ih.1, ?_, ?_⟩
          · have := ih.2.1
            simp only [List.length_append, List.length_cons, List.length_nil] at this ⊢
            omega
          · have := ih.2.2
            simp only [List.length_cons]
            omega
      · split at h
        · split at h
          · cases h
          · have ih := headsP_fit r ps hs _ hr hp x h
            simp only [List.length_cons]
            exact ⟨ih.1, by omega, by omega⟩
        · have ih := headsP_fit r ps _ n hr hp x h
          simp only [List.length_append, List.length_cons, List.length_nil] at ih ⊢
          exact ⟨ih.1, by omega, by omega⟩
/-- what a page's parts may be -/
structure PaFit (x : Parts) : Prop where
  n : x.note.Fits
  f : x.first.length ≤ 400
  h : x.heads.length ≤ 401
  w : ∀ w ∈ x.heads, w.length ≤ 400
theorem noParts_fit (e : Int) : PaFit (noParts e) := ⟨fits_zero, by simp [noParts], by simp [noParts], fun w h => by cases h⟩
theorem headsP_word : ∀ (l : List Wd) (ps : List LProp) (hs : List Wd) (n : Int), (∀ w ∈ l, w.length ≤ 400) → (∀ w ∈ hs, w.length ≤ 400) → ∀ x, headsP ps hs n l = some x → ∀ w ∈ x.2.1, w.length ≤ 400
  | [], ps, hs, n, _, hh, x, h => by
    rw [headsP] at h
    cases h
    exact hh
  | w :: r, ps, hs, n, hw, hh, x, h => by
    have hwl := hw w (List.mem_cons_self ..)
    have hr := fun v hv => hw v (List.mem_cons_of_mem w hv)
    rw [headsP] at h
    split at h
    · cases h
    · split at h
      · split at h
        · cases h
        · exact headsP_word r _ hs n hr hh x h
      · split at h
        · split at h
          · cases h
          · exact headsP_word r ps hs _ hr hh x h
        · exact headsP_word r ps _ n hr (fun v hv => by
            rcases List.mem_append.1 hv with hv | hv
            · exact hh v hv
            · rw [List.mem_singleton.1 hv]; exact hwl) x h
theorem parts_fit (b : Wd) : PaFit (partsR b) := by
  obtain ⟨hpne, hpl, hpw⟩ := plines_ok (b := b)
  unfold partsR
  split
  · split <;> exact noParts_fit _
  · generalize plines b = ls at *
    cases ls with
    | nil => exact absurd rfl hpne
    | cons w rest =>
      simp only [List.getD_cons_zero, List.tail_cons]
      have hw := hpw w (List.mem_cons_self ..)
      have hr := fun v hv => hpw v (List.mem_cons_of_mem w hv)
      have hf := headsP_fit rest [] [] (-1) hr (by simp)
      have hv := headsP_word rest [] [] (-1) hr (by simp)
      cases hh : headsP [] [] (-1) rest with
      | none => exact noParts_fit _
      | some x =>
        have hf := hf x hh
        have hv := hv x hh
        obtain ⟨ps, hs, n⟩ := x
        simp only [partsE]
        split
        · exact noParts_fit _
        · split
          · exact noParts_fit _
          · split
            · exact noParts_fit _
            · simp only [List.length_cons, List.length_nil] at hf hpl
              refine ⟨⟨hf.1, ?_, ?_⟩, hw, ?_, hv⟩
              · simp only; omega
              · simp only [List.length_drop, List.length_take]; omega
              · simp only; omega
theorem askedL_len (m : Wd) (N : Nat) : ∀ l : List Wd, (∀ w ∈ l, w.length ≤ N) → (askedL m l).1.queue.data.toList.length ≤ N
  | [], _ => Nat.zero_le _
  | [_], _ => Nat.zero_le _
  | [_, _], _ => Nat.zero_le _
  | [a, b, c], h => by
    have hc : c.length ≤ N := h c (by simp)
    simp only [askedL]
    split
    · exact hc
    · split
      · exact Nat.zero_le _
      · exact Nat.zero_le _
  | [a, b, c, d], h => by
    have hc : c.length ≤ N := h c (by simp)
    simp only [askedL]
    split
    · split
      · exact hc
      · split
        · exact hc
        · exact Nat.zero_le _
    · exact Nat.zero_le _
  | _ :: _ :: _ :: _ :: _ :: _, _ => Nat.zero_le _
theorem askedS_len (m p : Wd) : (askedS m p).1.queue.data.toList.length ≤ p.length := by
  unfold askedS
  split
  · exact Nat.zero_le _
  · exact askedL_len m _ _ (splitK_word [47] (Lib.count p [47]) p)
def waLo : Nat → Lo := fun id => match id with | 7 => {uo := [11], un := [11], ex := [10]} | _ => {}
set_option maxRecDepth 100000 in
set_option maxHeartbeats 4000000 in
theorem con_wask (b : Wd) (hb : b.length ≤ 16777216) : Con Tryz.prog D 34 [.sl 1 (b.map byteRow)] ⟨.tup [askA (waskR b).1, .int .i64 (waskR b).2.1, .int .i64 (waskR b).2.2], []⟩ := by
  have hfit := parts_fit b
  have hok : GOk Tryz.prog D (tabG [eWparts, eSplit, eWasked, eWrongF]) := tabG_ok _
  have g1 := tabG_use (T := [eWparts, eSplit, eWasked, eWrongF]) (E := eWparts) (i := 0) rfl (by decide) (b) (hb)
  have g2 := fun (w : Wd) (h : w.length ≤ 400) => tabG_use (T := [eWparts, eSplit, eWasked, eWrongF]) (E := eSplit) (i := 1) rfl (by decide) ((w, [32])) (⟨by show w.length < 4294967281; omega, by show 1 ≤ ([32] : Wd).length; decide⟩)
  have g3 := fun (m p : Wd) (h1 : m.length ≤ 400) (h2 : p.length ≤ 400) => tabG_use (T := [eWparts, eSplit, eWasked, eWrongF]) (E := eWasked) (i := 2) rfl (by decide) ((m, p)) (⟨by show m.length ≤ 1000; omega, by show p.length ≤ 999; omega⟩)
  have g4 := fun (a : LAsk) (h : a.Fits) => tabG_use (T := [eWparts, eSplit, eWasked, eWrongF]) (E := eWrongF) (i := 3) rfl (by decide) ((a, false)) (⟨h, fun h => (by cases h)⟩)
  generalize tabG [eWparts, eSplit, eWasked, eWrongF] = G at *
  dsimp only [eWparts] at g1
  dsimp only [eSplit] at g2
  dsimp only [eWasked] at g3
  dsimp only [eWrongF] at g4
  unfold waskR
  generalize partsR b = x at *
  obtain ⟨f, hs, ⟨ps, bs⟩, all, err⟩ := x
  obtain ⟨hf1, hf2, hf3, hf4⟩ := hfit
  simp only at hf1 hf2 hf3 hf4
  have g2 := g2 f hf2
  have hsp := splitK_word [32] (Lib.count f [32]) f
  have hsp : ∀ w ∈ Lib.split f [32], w.length ≤ 400 := fun w hw => by
    have := hsp w hw
    omega
  simp only [partsA, noteA] at g1
  have hcon : ∀ r, r = waskE ⟨f, hs, ⟨ps, bs⟩, all, err⟩ → Con Tryz.prog D 34 [.sl 1 (b.map byteRow)] ⟨.tup [askA r.1, .int .i64 r.2.1, .int .i64 r.2.2], []⟩ := by
    intro r hr
    simp only [waskE] at hr
    generalize Lib.split f [32] = l at *
    refine conW (G := G) (rs := [(2, some 27), (3, none), (4, none)]) hok Tryz.func34 Tryz.results34 Tryz.ntmps34 (waLo) fun X hP hD hG' hX => ?_
    simp only [argS, num]
    by_cases he : err = 0
    · have de : (err != 0) = false := by simp [he]
      rw [if_neg (by simpa using he)] at hr
      by_cases h3 : l.length = 3
      · match l, h3, hsp, hr with
        | [m, p, v], _, hsp, hr =>
        have g3 := g3 m p (hsp m (by simp)) (hsp p (by simp))
        have n3 : ((3 : Nat) : Int) = 3 := rfl
        have n0 : ((0 : Nat) : Int) = 0 := rfl
        have z0 : (0 : Int).toNat = 0 := rfl
        have z1 : (1 : Int).toNat = 1 := rfl
        have z2 : (2 : Int).toNat = 2 := rfl
        by_cases hv : v = httpW
        · have dv : (v == [72, 84, 84, 80, 47, 49, 46, 49]) = true := by rw [hv]; rfl
          cases hs with
          | cons h t =>
            have hw : waskW (h :: t) ⟨ps, bs⟩ [m, p, v] = (lask0, 2) := by rw [waskW, if_neg (fun h => by cases h.2)]
            rw [hw, if_pos (by simp)] at hr
            subst hr
            have d0 : decide (((t.length + 1 : Nat) : Int) > 0) = true := by simp only [decide_eq_true_eq]; omega
            simp only [askA, lask0, note0, List.map_nil]
            simp (disch := omega) only [go_sem, hD, hG', g1, g2, de, waLo, strRow, n3, z0, z1, z2, unbox]
            (repeat (with_reducible refine And.intro (by first | omega | decide | (simp; done) | (simp only [List.length_append, List.length_cons, List.length_nil, List.length_map]; omega)) ?_))
            refine RegT.mk [] ?_
            simp (disch := omega) only [go_sem, hD, hG', n3, dv, d0, waLo, unbox]
            (repeat (with_reducible refine And.intro (by first | omega | decide | (simp; done) | (simp only [List.length_append, List.length_cons, List.length_nil, List.length_map]; omega)) ?_))
            refine endW [] [] (by simp) rfl rfl rfl ?_ ?_ <;> simp only [go_sem]
          | nil =>
            have hw : waskW [] ⟨ps, bs⟩ [m, p, v] = if (askedS m p).2 = true then (⟨(askedS m p).1.kind, (askedS m p).1.queue, (askedS m p).1.n, ⟨ps, bs⟩⟩, wrongAskS ⟨(askedS m p).1.kind, (askedS m p).1.queue, (askedS m p).1.n, ⟨ps, bs⟩⟩) else (lask0, 1) := by rw [waskW, if_pos ⟨hv, rfl⟩]
            rw [hw] at hr
            clear hw
            have hql := askedS_len m p
            have hpl := hsp p (by simp)
            generalize askedS m p = y at *
            obtain ⟨⟨k, q, n, ⟨ps', bs'⟩⟩, ok⟩ := y
            simp only [askA] at g3
            simp only at hr hql
            have d0 : decide ((0 : Int) > 0) = false := rfl
            cases ok
            · simp only [Bool.false_eq_true, if_false] at hr
              rw [if_pos (by simp)] at hr
              subst hr
              simp only [askA, lask0, note0, List.map_nil]
              simp (disch := omega) only [go_sem, hD, hG', g1, g2, de, waLo, strRow, n3, z0, z1, z2, unbox]
              (repeat (with_reducible refine And.intro (by first | omega | decide | (simp; done) | (simp only [List.length_append, List.length_cons, List.length_nil, List.length_map]; omega)) ?_))
              refine RegT.mk [] ?_
              simp (disch := omega) only [go_sem, hD, hG', n3, dv, d0, n0, g3, strRow, z0, z1, z2, waLo, unbox]
              (repeat (with_reducible refine And.intro (by first | omega | decide | (simp; done) | (simp only [List.length_append, List.length_cons, List.length_nil, List.length_map]; omega)) ?_))
              refine endW [] [] (by simp) rfl rfl rfl ?_ ?_ <;> simp only [go_sem]
            · simp only [if_true] at hr
              have g4 := g4 ⟨k, q, n, ⟨ps, bs⟩⟩ ⟨by show q.data.toList.length ≤ 1048576; omega, hf1⟩
              simp only [askA, waE] at g4
              generalize wrongAskS ⟨k, q, n, ⟨ps, bs⟩⟩ = wr at *
              by_cases hwr : wr = 0
              · have dw : (wr != 0) = false := by simp [hwr]
                rw [if_neg (by simp [hwr])] at hr
                subst hr
                simp only [askA]
                simp (disch := omega) only [go_sem, hD, hG', g1, g2, de, waLo, strRow, n3, z0, z1, z2, unbox]
                (repeat (with_reducible refine And.intro (by first | omega | decide | (simp; done) | (simp only [List.length_append, List.length_cons, List.length_nil, List.length_map]; omega)) ?_))
                refine RegT.mk [] ?_
                simp (disch := omega) only [go_sem, hD, hG', n3, dv, d0, n0, g3, g4, dw, strRow, z0, z1, z2, waLo, unbox]
                (repeat (with_reducible refine And.intro (by first | omega | decide | (simp; done) | (simp only [List.length_append, List.length_cons, List.length_nil, List.length_map]; omega)) ?_))
                refine endW [] [] (by simp) rfl rfl rfl ?_ ?_ <;> simp only [go_sem]
              · have dw : (wr != 0) = true := by simp [hwr]
                rw [if_pos (by simpa using hwr)] at hr
                subst hr
                simp only [askA, lask0, note0, List.map_nil]
                simp (disch := omega) only [go_sem, hD, hG', g1, g2, de, waLo, strRow, n3, z0, z1, z2, unbox]
                (repeat (with_reducible refine And.intro (by first | omega | decide | (simp; done) | (simp only [List.length_append, List.length_cons, List.length_nil, List.length_map]; omega)) ?_))
                refine RegT.mk [] ?_
                simp (disch := omega) only [go_sem, hD, hG', n3, dv, d0, n0, g3, g4, dw, strRow, z0, z1, z2, waLo, unbox]
                (repeat (with_reducible refine And.intro (by first | omega | decide | (simp; done) | (simp only [List.length_append, List.length_cons, List.length_nil, List.length_map]; omega)) ?_))
                refine endW [] [] (by simp) rfl rfl rfl ?_ ?_ <;> simp only [go_sem]
        · have dv : (v == [72, 84, 84, 80, 47, 49, 46, 49]) = false := by rw [beq_eq_false_iff_ne]; exact hv
          have hw : waskW hs ⟨ps, bs⟩ [m, p, v] = (lask0, 2) := by rw [waskW, if_neg (fun h => hv h.1)]
          rw [hw, if_pos (by simp)] at hr
          subst hr
          simp only [askA, lask0, note0, List.map_nil]
          simp (disch := omega) only [go_sem, hD, hG', g1, g2, de, waLo, strRow, n3, z0, z1, z2, unbox]
          (repeat (with_reducible refine And.intro (by first | omega | decide | (simp; done) | (simp only [List.length_append, List.length_cons, List.length_nil, List.length_map]; omega)) ?_))
          refine RegT.mk [(9, false)] ?_
          simp (disch := omega) only [go_sem, hD, hG', n3, dv, waLo, unbox]
          (repeat (with_reducible refine And.intro (by first | omega | decide | (simp; done) | (simp only [List.length_append, List.length_cons, List.length_nil, List.length_map]; omega)) ?_))
          refine endW [] [] (by simp) rfl rfl rfl ?_ ?_ <;> simp only [go_sem]
      · have d3 : (((l.length : Nat) : Int) != 3) = true := by simp; omega
        have hw : waskW hs ⟨ps, bs⟩ l = (lask0, 2) := by
          match l, h3 with
          | [], _ => rfl
          | [_], _ => rfl
          | [_, _], _ => rfl
          | _ :: _ :: _ :: _ :: _, _ => rfl
          | [_, _, _], h => exact absurd rfl h
        rw [hw, if_pos (by simp)] at hr
        subst hr
        simp only [askA, lask0, note0, List.map_nil]
        simp (disch := omega) only [go_sem, hD, hG', g1, g2, de, waLo, unbox]
        (repeat (with_reducible refine And.intro (by first | omega | decide | (simp; done) | (simp only [List.length_append, List.length_cons, List.length_nil, List.length_map]; omega)) ?_))
        refine RegT.mk [(3, false), (9, false)] ?_
        simp (disch := omega) only [go_sem, hD, hG', d3, waLo, unbox]
        (repeat (with_reducible refine And.intro (by first | omega | decide | (simp; done) | (simp only [List.length_append, List.length_cons, List.length_nil, List.length_map]; omega)) ?_))
        refine endW [] [] (by simp) rfl rfl rfl ?_ ?_ <;> simp only [go_sem]
    · have de : (err != 0) = true := by simp [he]
      rw [if_pos (by simpa using he)] at hr
      subst hr
      simp only [askA, lask0, note0, List.map_nil]
      simp (disch := omega) only [go_sem, hD, hG', g1, de, waLo, unbox]
      (repeat (with_reducible refine And.intro (by first | omega | decide | (simp; done) | (simp only [List.length_append, List.length_cons, List.length_nil, List.length_map]; omega)) ?_))
      refine endW [] [] (by simp) rfl rfl rfl ?_ ?_ <;> simp only [go_sem]
  exact hcon _ rfl
def eWask : Ent Tryz.prog D := ⟨34, Wd, fun b => [.sl 1 (b.map byteRow)], fun b => b.length ≤ 16777216, fun b => ⟨.tup [askA (waskR b).1, .int .i64 (waskR b).2.1, .int .i64 (waskR b).2.2], []⟩, fun x y _ _ h => by
  simp only [List.cons.injEq, AV.sl.injEq, true_and, and_true] at h
  rw [bytes_inj h], con_wask⟩
end Go.Proofs.YtmlejhpeoiicpaaGreatDoor.Ab
namespace Go.Proofs.YtmlejhpeoiicpaaGreatDoor.Ab
open Go Go.RowKit
set_option linter.unusedVariables false
set_option linter.unusedSimpArgs false

def wyLo : Nat → Lo := fun id => match id with | 22 => {} | _ => {}
set_option maxRecDepth 100000 in
set_option maxHeartbeats 16000000 in
theorem con_wsay (b : Wd) (hb : b.length ≤ 16777216) : Con Tryz.prog D 36 [.sl 1 (b.map byteRow)] ⟨.tup [sayA (wsayR b).1, .int .i64 (wsayR b).2.1, .int .i64 (wsayR b).2.2], []⟩ := by
  have hfit := parts_fit b
  have hok : GOk Tryz.prog D (tabG [eWparts, eCutp, eNumber, eFrwrongF]) := tabG_ok _
  have g1 := tabG_use (T := [eWparts, eCutp, eNumber, eFrwrongF]) (E := eWparts) (i := 0) rfl (by decide) (b) (hb)
  have g3 := fun (w p : Wd) => tabG_use (T := [eWparts, eCutp, eNumber, eFrwrongF]) (E := eCutp) (i := 1) rfl (by decide) ((w, p)) (trivial)
  have g4 := fun (w : Wd) (h : w.length ≤ 400) => tabG_use (T := [eWparts, eCutp, eNumber, eFrwrongF]) (E := eNumber) (i := 2) rfl (by decide) (w) (by show w.length ≤ 281474976710656; omega)
  have g5 := fun (s : LSay) (h : s.note.Fits) => tabG_use (T := [eWparts, eCutp, eNumber, eFrwrongF]) (E := eFrwrongF) (i := 3) rfl (by decide) ((s, false)) (⟨h, fun h => (by cases h)⟩)
  generalize tabG [eWparts, eCutp, eNumber, eFrwrongF] = G at *
  dsimp only [eWparts] at g1
  dsimp only [eCutp] at g3
  dsimp only [eNumber] at g4
  dsimp only [eFrwrongF] at g5
  unfold wsayR
  generalize partsR b = x at *
  obtain ⟨f, hs, ⟨ps, bs⟩, all, err⟩ := x
  obtain ⟨hf1, hf2, hf3, hf4⟩ := hfit
  simp only at hf1 hf2 hf3 hf4
  simp only [partsA, noteA] at g1
  have n0 : ((0 : Nat) : Int) = 0 := rfl
  have n1 : ((1 : Nat) : Int) = 1 := rfl
  have n2 : ((2 : Nat) : Int) = 2 := rfl
  have z0 : (0 : Int).toNat = 0 := rfl
  have z1 : (1 : Int).toNat = 1 := rfl
  have g00 : decide ((0 : Int) > 0) = false := rfl
  have g20 : decide ((2 : Int) > 0) = true := rfl
  have hcon : ∀ r, r = wsayE ⟨f, hs, ⟨ps, bs⟩, all, err⟩ → Con Tryz.prog D 36 [.sl 1 (b.map byteRow)] ⟨.tup [sayA r.1, .int .i64 r.2.1, .int .i64 r.2.2], []⟩ := by
    intro r hr
    simp only [wsayE] at hr
    refine conW (G := G) (rs := [(2, some 30), (3, none), (4, none)]) hok Tryz.func36 Tryz.results36 Tryz.ntmps36 (wyLo) fun X hP hD hG' hX => ?_
    simp only [argS, num]
    by_cases he : err = 0
    case neg =>
      have de : (err != 0) = true := by simp [he]
      rw [if_pos (by simpa using he)] at hr
      subst hr
      simp only [sayA, lsay0, note0, List.map_nil]
      simp (disch := omega) only [go_sem, hD, hG', g1, de, wyLo, strRow, z0, z1, n0, n1, n2, List.getD_nil, g00, g20, unbox]
      (repeat (with_reducible refine And.intro (by first | omega | decide | (simp; done) | (simp only [List.length_append, List.length_cons, List.length_nil, List.length_map]; omega)) ?_))
      refine endW [] [] (by simp) rfl rfl rfl ?_ ?_ <;> simp only [go_sem]
    have de : (err != 0) = false := by simp [he]
    rw [if_neg (by simpa using he)] at hr
    by_cases hok : f = okW
    · subst hok
      simp only [okW] at g1
      cases hs with
      | nil =>
        have hw : wsayB okW [] ⟨ps, bs⟩ = (⟨1, 0, 0, 0, ⟨ps, bs⟩⟩, wrongSayS ⟨1, 0, 0, 0, ⟨ps, bs⟩⟩) := by simp [wsayB]
        simp (disch := omega) only [go_sem, hD, hG', g1, de, wyLo, strRow, z0, z1, n0, n1, n2, List.getD_nil, g00, g20, unbox]
        (repeat (with_reducible refine And.intro (by first | omega | decide | (simp; done) | (simp only [List.length_append, List.length_cons, List.length_nil, List.length_map]; omega)) ?_))
        refine RegT.mk [] ?_
        simp (disch := omega) only [go_sem, hD, hG', wyLo, strRow, z0, z1, n0, n1, n2, List.getD_nil, g00, g20, unbox]
        (repeat (with_reducible refine And.intro (by first | omega | decide | (simp; done) | (simp only [List.length_append, List.length_cons, List.length_nil, List.length_map]; omega)) ?_))
        refine Tr.loop (ι := Unit) (fun _ => True) (fun _ => { nt := 117, tm := [(2, .ptr 2 0), (3, .int .i64 0), (4, .int .i64 0), (6, .sl 1 ([])), (7, .ptr 7 0), (8, .int .i64 all), (10, .ptr 10 0), (11, .os 35), (12, .os 36), (13, .ptr 13 0), (14, .bool (true)), (71, .int .i64 0), (72, .int .i64 (0))], bl := [(2, some (.cells [.int .i64 0, .int .i64 0, .int .i64 0, .int .i64 0, .nils, .nils])), (7, some (.cells [.sl 4 (ps.map propRow), .sl 1 (bs.map byteRow)])), (10, some (.cells [.int .i64 1, .int .i64 (0), .int .i64 (0), .int .i64 0, .sl 4 (ps.map propRow), .sl 1 (bs.map byteRow)])), (13, some (.cells [.int .i64 (0)])), (35, some (.rows 9 1 [])), (36, some (.rows 111 1 []))] }) (fun _ => 0) () ⟨trivial, wk_of hD [(2, 2), (7, 7), (10, 10), (13, 13), (35, 35), (36, 36)] rfl rfl (by simp only [go_sem]; try simp [strRow]) (by simp only [go_sem]; try simp [strRow])⟩ ?_
        rintro ⟨⟩ _
        refine evC_sound hX wyLo _ _ _ ?_
        simp (disch := omega) only [go_sem, hD, hG', wyLo, strRow, z0, z1, n0, n1, n2, List.getD_nil, g00, g20, unbox]
        (repeat (with_reducible refine And.intro (by first | omega | decide | (simp; done) | (simp only [List.length_append, List.length_cons, List.length_nil, List.length_map]; omega)) ?_))
        have g5 := g5 ⟨1, 0, 0, 0, ⟨ps, bs⟩⟩ hf1
        simp only [sayA, wsE] at g5
        generalize wrongSayS ⟨1, 0, 0, 0, ⟨ps, bs⟩⟩ = wr at *
        rw [hw] at hr
        by_cases hwr : wr = 0
        · have dw : (wr != 0) = false := by simp [hwr]
          rw [if_neg (by simp [hwr])] at hr
          subst hr
          simp only [sayA]
          simp (disch := omega) only [go_sem, hD, hG', g5, dw, wyLo, strRow, z0, z1, n0, n1, n2, List.getD_nil, g00, g20, unbox]
          (repeat (with_reducible refine And.intro (by first | omega | decide | (simp; done) | (simp only [List.length_append, List.length_cons, List.length_nil, List.length_map]; omega)) ?_))
          refine endW [] [] (by simp) rfl rfl rfl ?_ ?_ <;> simp only [go_sem]
        · have dw : (wr != 0) = true := by simp [hwr]
          rw [if_pos (by simpa using hwr)] at hr
          subst hr
          simp only [sayA, lsay0, note0, List.map_nil]
          simp (disch := omega) only [go_sem, hD, hG', g5, dw, wyLo, strRow, z0, z1, n0, n1, n2, List.getD_nil, g00, g20, unbox]
          (repeat (with_reducible refine And.intro (by first | omega | decide | (simp; done) | (simp only [List.length_append, List.length_cons, List.length_nil, List.length_map]; omega)) ?_))
          refine endW [] [] (by simp) rfl rfl rfl ?_ ?_ <;> simp only [go_sem]
      | cons a t =>
        have d0 : decide (((t.length + 1 : Nat) : Int) > 0) = true := by simp only [decide_eq_true_eq]; omega
        by_cases h2 : t.length = 1
        · match t, h2, hr, hf4, g1, d0 with
          | [c], _, hr, hf4, g1, d0 =>
          have hal := hf4 a (by simp)
          have hcl := hf4 c (by simp)
          have g3a := g3 a [116, 97, 103, 58, 32]
          have g3c := g3 c [116, 114, 105, 101, 115, 58, 32]
          have hta := trimPrefix_len a [116, 97, 103, 58, 32]
          have htc := trimPrefix_len c [116, 114, 105, 101, 115, 58, 32]
          have g4a := g4 (Lib.trimPrefix a [116, 97, 103, 58, 32]) (by omega)
          have g4c := g4 (Lib.trimPrefix c [116, 114, 105, 101, 115, 58, 32]) (by omega)
          have hw : wsayB okW [a, c] ⟨ps, bs⟩ = if (headN tagH a).2 = true ∧ (headN triesH c).2 = true then (⟨2, (headN tagH a).1, (headN triesH c).1, 0, ⟨ps, bs⟩⟩, wrongSayS ⟨2, (headN tagH a).1, (headN triesH c).1, 0, ⟨ps, bs⟩⟩) else (lsay0, 2) := by simp [wsayB]
          have e1 : headN tagH a = ((numberS (Lib.trimPrefix a [116, 97, 103, 58, 32])).1, Lib.hasPrefix a [116, 97, 103, 58, 32] && (numberS (Lib.trimPrefix a [116, 97, 103, 58, 32])).2) := rfl
          have e2 : headN triesH c = ((numberS (Lib.trimPrefix c [116, 114, 105, 101, 115, 58, 32])).1, Lib.hasPrefix c [116, 114, 105, 101, 115, 58, 32] && (numberS (Lib.trimPrefix c [116, 114, 105, 101, 115, 58, 32])).2) := rfl
          generalize Lib.trimPrefix a [116, 97, 103, 58, 32] = ta at *
          generalize Lib.hasPrefix a [116, 97, 103, 58, 32] = ba at *
          generalize Lib.trimPrefix c [116, 114, 105, 101, 115, 58, 32] = tc at *
          generalize Lib.hasPrefix c [116, 114, 105, 101, 115, 58, 32] = bc at *
          generalize numberS ta = na at *
          generalize numberS tc = nc at *
          obtain ⟨na, ka⟩ := na
          obtain ⟨nc, kc⟩ := nc
          simp only at g4a g4c e1 e2
          rw [e1, e2] at hw
          clear e1 e2
          simp (disch := omega) only [go_sem, hD, hG', g1, de, d0, wyLo, strRow, z0, z1, n0, n1, n2, List.getD_nil, g00, g20, unbox]
          (repeat (with_reducible refine And.intro (by first | omega | decide | (simp; done) | (simp only [List.length_append, List.length_cons, List.length_nil, List.length_map]; omega)) ?_))
          refine RegT.mk [] ?_
          simp (disch := omega) only [go_sem, hD, hG', wyLo, strRow, z0, z1, n0, n1, n2, List.getD_nil, g00, g20, d0, unbox]
          (repeat (with_reducible refine And.intro (by first | omega | decide | (simp; done) | (simp only [List.length_append, List.length_cons, List.length_nil, List.length_map]; omega)) ?_))
          cases ba
          · skip
            cases ka
            · skip
              cases bc
              · skip
                cases kc
                · skip
                  refine Tr.loop (ι := Nat) (fun i => i ≤ 2) (fun i => { nt := 117, tm := [(2, .ptr 2 0), (3, .int .i64 0), (4, .int .i64 0), (6, .sl 1 ([strRow a, strRow c])), (7, .ptr 7 0), (8, .int .i64 all), (10, .ptr 10 0), (11, .os 46), (12, .psl 49 2), (13, .ptr 13 0), (14, .bool (match i with | 0 => true | 1 => false | _ => false)), (71, .int .i64 2), (72, .int .i64 (i))], bl := [(2, some (.cells [.int .i64 0, .int .i64 0, .int .i64 0, .int .i64 0, .nils, .nils])), (7, some (.cells [.sl 4 (ps.map propRow), .sl 1 (bs.map byteRow)])), (10, some (.cells [.int .i64 2, .int .i64 (match i with | 0 => 0 | 1 => na | _ => na), .int .i64 (match i with | 0 => 0 | 1 => 0 | _ => 0), .int .i64 0, .sl 4 (ps.map propRow), .sl 1 (bs.map byteRow)])), (13, some (.cells [.int .i64 (0)])), (46, some (.rows 9 1 [[.str [116, 97, 103, 58, 32]], [.str [116, 114, 105, 101, 115, 58, 32]]])), (49, some (.cells [.ptr 10 1, .ptr 10 2]))] }) (fun i => 2 - i) 0 ⟨Nat.zero_le _, wk_of hD [(2, 2), (7, 7), (10, 10), (13, 13), (46, 46), (49, 49)] rfl rfl (by simp only [go_sem]; try simp [strRow]) (by simp only [go_sem]; try simp [strRow])⟩ ?_
                  intro i hi
                  refine evC_sound hX wyLo _ _ _ ?_
                  have hi : i = 0 ∨ i = 1 ∨ i = 2 := by omega
                  rcases hi with rfl | rfl | rfl
                  · simp only
                    simp (disch := omega) only [go_sem, hD, hG', g3a, g4a, g3c, g4c, wyLo, strRow, z0, z1, n0, n1, n2, List.getD_nil, g00, g20, unbox]
                    (repeat (with_reducible refine And.intro (by first | omega | decide | (simp; done) | (simp only [List.length_append, List.length_cons, List.length_nil, List.length_map]; omega)) ?_))
                    refine RegT.mk [(6, true)] ?_
                    simp (disch := omega) only [go_sem, hD, hG', g3a, g4a, g3c, g4c, wyLo, strRow, z0, z1, n0, n1, n2, List.getD_nil, g00, g20, unbox]
                    (repeat (with_reducible refine And.intro (by first | omega | decide | (simp; done) | (simp only [List.length_append, List.length_cons, List.length_nil, List.length_map]; omega)) ?_))
                    refine ⟨1, ⟨by omega, by omega⟩, wk_of hD [(2, 2), (7, 7), (10, 10), (13, 13), (46, 46), (49, 49)] rfl rfl ?_ ?_⟩ <;> simp only [go_sem]
                    all_goals (try simp [strRow])
                  · simp only
                    simp (disch := omega) only [go_sem, hD, hG', g3a, g4a, g3c, g4c, wyLo, strRow, z0, z1, n0, n1, n2, List.getD_nil, g00, g20, unbox]
                    (repeat (with_reducible refine And.intro (by first | omega | decide | (simp; done) | (simp only [List.length_append, List.length_cons, List.length_nil, List.length_map]; omega)) ?_))
                    refine ⟨2, ⟨by omega, by omega⟩, wk_of hD [(2, 2), (7, 7), (10, 10), (13, 13), (46, 46), (49, 49)] rfl rfl ?_ ?_⟩ <;> simp only [go_sem]
                    all_goals (try simp [strRow])
                  · simp only
                    rw [if_neg (by simp)] at hw
                    rw [hw, if_pos (by simp)] at hr
                    subst hr
                    simp only [sayA, lsay0, note0, List.map_nil]
                    try (simp (disch := omega) only [go_sem, hD, hG', wyLo, strRow, z0, z1, n0, n1, n2, List.getD_nil, g00, g20, unbox])
                    (repeat (with_reducible refine And.intro (by first | omega | decide | (simp; done) | (simp only [List.length_append, List.length_cons, List.length_nil, List.length_map]; omega)) ?_))
                    refine endW [] [] (by simp) rfl rfl rfl ?_ ?_ <;> simp only [go_sem]
                · skip
                  refine Tr.loop (ι := Nat) (fun i => i ≤ 2) (fun i => { nt := 117, tm := [(2, .ptr 2 0), (3, .int .i64 0), (4, .int .i64 0), (6, .sl 1 ([strRow a, strRow c])), (7, .ptr 7 0), (8, .int .i64 all), (10, .ptr 10 0), (11, .os 46), (12, .psl 49 2), (13, .ptr 13 0), (14, .bool (match i with | 0 => true | 1 => false | _ => false)), (71, .int .i64 2), (72, .int .i64 (i))], bl := [(2, some (.cells [.int .i64 0, .int .i64 0, .int .i64 0, .int .i64 0, .nils, .nils])), (7, some (.cells [.sl 4 (ps.map propRow), .sl 1 (bs.map byteRow)])), (10, some (.cells [.int .i64 2, .int .i64 (match i with | 0 => 0 | 1 => na | _ => na), .int .i64 (match i with | 0 => 0 | 1 => 0 | _ => 0), .int .i64 0, .sl 4 (ps.map propRow), .sl 1 (bs.map byteRow)])), (13, some (.cells [.int .i64 (0)])), (46, some (.rows 9 1 [[.str [116, 97, 103, 58, 32]], [.str [116, 114, 105, 101, 115, 58, 32]]])), (49, some (.cells [.ptr 10 1, .ptr 10 2]))] }) (fun i => 2 - i) 0 ⟨Nat.zero_le _, wk_of hD [(2, 2), (7, 7), (10, 10), (13, 13), (46, 46), (49, 49)] rfl rfl (by simp only [go_sem]; try simp [strRow]) (by simp only [go_sem]; try simp [strRow])⟩ ?_
                  intro i hi
                  refine evC_sound hX wyLo _ _ _ ?_
                  have hi : i = 0 ∨ i = 1 ∨ i = 2 := by omega
                  rcases hi with rfl | rfl | rfl
                  · simp only
                    simp (disch := omega) only [go_sem, hD, hG', g3a, g4a, g3c, g4c, wyLo, strRow, z0, z1, n0, n1, n2, List.getD_nil, g00, g20, unbox]
                    (repeat (with_reducible refine And.intro (by first | omega | decide | (simp; done) | (simp only [List.length_append, List.length_cons, List.length_nil, List.length_map]; omega)) ?_))
                    refine RegT.mk [(6, true)] ?_
                    simp (disch := omega) only [go_sem, hD, hG', g3a, g4a, g3c, g4c, wyLo, strRow, z0, z1, n0, n1, n2, List.getD_nil, g00, g20, unbox]
                    (repeat (with_reducible refine And.intro (by first | omega | decide | (simp; done) | (simp only [List.length_append, List.length_cons, List.length_nil, List.length_map]; omega)) ?_))
                    refine ⟨1, ⟨by omega, by omega⟩, wk_of hD [(2, 2), (7, 7), (10, 10), (13, 13), (46, 46), (49, 49)] rfl rfl ?_ ?_⟩ <;> simp only [go_sem]
                    all_goals (try simp [strRow])
                  · simp only
                    simp (disch := omega) only [go_sem, hD, hG', g3a, g4a, g3c, g4c, wyLo, strRow, z0, z1, n0, n1, n2, List.getD_nil, g00, g20, unbox]
                    (repeat (with_reducible refine And.intro (by first | omega | decide | (simp; done) | (simp only [List.length_append, List.length_cons, List.length_nil, List.length_map]; omega)) ?_))
                    refine ⟨2, ⟨by omega, by omega⟩, wk_of hD [(2, 2), (7, 7), (10, 10), (13, 13), (46, 46), (49, 49)] rfl rfl ?_ ?_⟩ <;> simp only [go_sem]
                    all_goals (try simp [strRow])
                  · simp only
                    rw [if_neg (by simp)] at hw
                    rw [hw, if_pos (by simp)] at hr
                    subst hr
                    simp only [sayA, lsay0, note0, List.map_nil]
                    try (simp (disch := omega) only [go_sem, hD, hG', wyLo, strRow, z0, z1, n0, n1, n2, List.getD_nil, g00, g20, unbox])
                    (repeat (with_reducible refine And.intro (by first | omega | decide | (simp; done) | (simp only [List.length_append, List.length_cons, List.length_nil, List.length_map]; omega)) ?_))
                    refine endW [] [] (by simp) rfl rfl rfl ?_ ?_ <;> simp only [go_sem]
              · skip
                cases kc
                · skip
                  refine Tr.loop (ι := Nat) (fun i => i ≤ 2) (fun i => { nt := 117, tm := [(2, .ptr 2 0), (3, .int .i64 0), (4, .int .i64 0), (6, .sl 1 ([strRow a, strRow c])), (7, .ptr 7 0), (8, .int .i64 all), (10, .ptr 10 0), (11, .os 46), (12, .psl 49 2), (13, .ptr 13 0), (14, .bool (match i with | 0 => true | 1 => false | _ => false)), (71, .int .i64 2), (72, .int .i64 (i))], bl := [(2, some (.cells [.int .i64 0, .int .i64 0, .int .i64 0, .int .i64 0, .nils, .nils])), (7, some (.cells [.sl 4 (ps.map propRow), .sl 1 (bs.map byteRow)])), (10, some (.cells [.int .i64 2, .int .i64 (match i with | 0 => 0 | 1 => na | _ => na), .int .i64 (match i with | 0 => 0 | 1 => 0 | _ => 0), .int .i64 0, .sl 4 (ps.map propRow), .sl 1 (bs.map byteRow)])), (13, some (.cells [.int .i64 (0)])), (46, some (.rows 9 1 [[.str [116, 97, 103, 58, 32]], [.str [116, 114, 105, 101, 115, 58, 32]]])), (49, some (.cells [.ptr 10 1, .ptr 10 2]))] }) (fun i => 2 - i) 0 ⟨Nat.zero_le _, wk_of hD [(2, 2), (7, 7), (10, 10), (13, 13), (46, 46), (49, 49)] rfl rfl (by simp only [go_sem]; try simp [strRow]) (by simp only [go_sem]; try simp [strRow])⟩ ?_
                  intro i hi
                  refine evC_sound hX wyLo _ _ _ ?_
                  have hi : i = 0 ∨ i = 1 ∨ i = 2 := by omega
                  rcases hi with rfl | rfl | rfl
                  · simp only
                    simp (disch := omega) only [go_sem, hD, hG', g3a, g4a, g3c, g4c, wyLo, strRow, z0, z1, n0, n1, n2, List.getD_nil, g00, g20, unbox]
                    (repeat (with_reducible refine And.intro (by first | omega | decide | (simp; done) | (simp only [List.length_append, List.length_cons, List.length_nil, List.length_map]; omega)) ?_))
                    refine RegT.mk [(6, true)] ?_
                    simp (disch := omega) only [go_sem, hD, hG', g3a, g4a, g3c, g4c, wyLo, strRow, z0, z1, n0, n1, n2, List.getD_nil, g00, g20, unbox]
                    (repeat (with_reducible refine And.intro (by first | omega | decide | (simp; done) | (simp only [List.length_append, List.length_cons, List.length_nil, List.length_map]; omega)) ?_))
                    refine ⟨1, ⟨by omega, by omega⟩, wk_of hD [(2, 2), (7, 7), (10, 10), (13, 13), (46, 46), (49, 49)] rfl rfl ?_ ?_⟩ <;> simp only [go_sem]
                    all_goals (try simp [strRow])
                  · simp only
                    simp (disch := omega) only [go_sem, hD, hG', g3a, g4a, g3c, g4c, wyLo, strRow, z0, z1, n0, n1, n2, List.getD_nil, g00, g20, unbox]
                    (repeat (with_reducible refine And.intro (by first | omega | decide | (simp; done) | (simp only [List.length_append, List.length_cons, List.length_nil, List.length_map]; omega)) ?_))
                    refine ⟨2, ⟨by omega, by omega⟩, wk_of hD [(2, 2), (7, 7), (10, 10), (13, 13), (46, 46), (49, 49)] rfl rfl ?_ ?_⟩ <;> simp only [go_sem]
                    all_goals (try simp [strRow])
                  · simp only
                    rw [if_neg (by simp)] at hw
                    rw [hw, if_pos (by simp)] at hr
                    subst hr
                    simp only [sayA, lsay0, note0, List.map_nil]
                    try (simp (disch := omega) only [go_sem, hD, hG', wyLo, strRow, z0, z1, n0, n1, n2, List.getD_nil, g00, g20, unbox])
                    (repeat (with_reducible refine And.intro (by first | omega | decide | (simp; done) | (simp only [List.length_append, List.length_cons, List.length_nil, List.length_map]; omega)) ?_))
                    refine endW [] [] (by simp) rfl rfl rfl ?_ ?_ <;> simp only [go_sem]
                · skip
                  refine Tr.loop (ι := Nat) (fun i => i ≤ 2) (fun i => { nt := 117, tm := [(2, .ptr 2 0), (3, .int .i64 0), (4, .int .i64 0), (6, .sl 1 ([strRow a, strRow c])), (7, .ptr 7 0), (8, .int .i64 all), (10, .ptr 10 0), (11, .os 46), (12, .psl 49 2), (13, .ptr 13 0), (14, .bool (match i with | 0 => true | 1 => false | _ => false)), (71, .int .i64 2), (72, .int .i64 (i))], bl := [(2, some (.cells [.int .i64 0, .int .i64 0, .int .i64 0, .int .i64 0, .nils, .nils])), (7, some (.cells [.sl 4 (ps.map propRow), .sl 1 (bs.map byteRow)])), (10, some (.cells [.int .i64 2, .int .i64 (match i with | 0 => 0 | 1 => na | _ => na), .int .i64 (match i with | 0 => 0 | 1 => 0 | _ => 0), .int .i64 0, .sl 4 (ps.map propRow), .sl 1 (bs.map byteRow)])), (13, some (.cells [.int .i64 (0)])), (46, some (.rows 9 1 [[.str [116, 97, 103, 58, 32]], [.str [116, 114, 105, 101, 115, 58, 32]]])), (49, some (.cells [.ptr 10 1, .ptr 10 2]))] }) (fun i => 2 - i) 0 ⟨Nat.zero_le _, wk_of hD [(2, 2), (7, 7), (10, 10), (13, 13), (46, 46), (49, 49)] rfl rfl (by simp only [go_sem]; try simp [strRow]) (by simp only [go_sem]; try simp [strRow])⟩ ?_
                  intro i hi
                  refine evC_sound hX wyLo _ _ _ ?_
                  have hi : i = 0 ∨ i = 1 ∨ i = 2 := by omega
                  rcases hi with rfl | rfl | rfl
                  · simp only
                    simp (disch := omega) only [go_sem, hD, hG', g3a, g4a, g3c, g4c, wyLo, strRow, z0, z1, n0, n1, n2, List.getD_nil, g00, g20, unbox]
                    (repeat (with_reducible refine And.intro (by first | omega | decide | (simp; done) | (simp only [List.length_append, List.length_cons, List.length_nil, List.length_map]; omega)) ?_))
                    refine RegT.mk [(6, true)] ?_
                    simp (disch := omega) only [go_sem, hD, hG', g3a, g4a, g3c, g4c, wyLo, strRow, z0, z1, n0, n1, n2, List.getD_nil, g00, g20, unbox]
                    (repeat (with_reducible refine And.intro (by first | omega | decide | (simp; done) | (simp only [List.length_append, List.length_cons, List.length_nil, List.length_map]; omega)) ?_))
                    refine ⟨1, ⟨by omega, by omega⟩, wk_of hD [(2, 2), (7, 7), (10, 10), (13, 13), (46, 46), (49, 49)] rfl rfl ?_ ?_⟩ <;> simp only [go_sem]
                    all_goals (try simp [strRow])
                  · simp only
                    simp (disch := omega) only [go_sem, hD, hG', g3a, g4a, g3c, g4c, wyLo, strRow, z0, z1, n0, n1, n2, List.getD_nil, g00, g20, unbox]
                    (repeat (with_reducible refine And.intro (by first | omega | decide | (simp; done) | (simp only [List.length_append, List.length_cons, List.length_nil, List.length_map]; omega)) ?_))
                    refine ⟨2, ⟨by omega, by omega⟩, wk_of hD [(2, 2), (7, 7), (10, 10), (13, 13), (46, 46), (49, 49)] rfl rfl ?_ ?_⟩ <;> simp only [go_sem]
                    all_goals (try simp [strRow])
                  · simp only
                    rw [if_neg (by simp)] at hw
                    rw [hw, if_pos (by simp)] at hr
                    subst hr
                    simp only [sayA, lsay0, note0, List.map_nil]
                    try (simp (disch := omega) only [go_sem, hD, hG', wyLo, strRow, z0, z1, n0, n1, n2, List.getD_nil, g00, g20, unbox])
                    (repeat (with_reducible refine And.intro (by first | omega | decide | (simp; done) | (simp only [List.length_append, List.length_cons, List.length_nil, List.length_map]; omega)) ?_))
                    refine endW [] [] (by simp) rfl rfl rfl ?_ ?_ <;> simp only [go_sem]
            · skip
              cases bc
              · skip
                cases kc
                · skip
                  refine Tr.loop (ι := Nat) (fun i => i ≤ 2) (fun i => { nt := 117, tm := [(2, .ptr 2 0), (3, .int .i64 0), (4, .int .i64 0), (6, .sl 1 ([strRow a, strRow c])), (7, .ptr 7 0), (8, .int .i64 all), (10, .ptr 10 0), (11, .os 46), (12, .psl 49 2), (13, .ptr 13 0), (14, .bool (match i with | 0 => true | 1 => false | _ => false)), (71, .int .i64 2), (72, .int .i64 (i))], bl := [(2, some (.cells [.int .i64 0, .int .i64 0, .int .i64 0, .int .i64 0, .nils, .nils])), (7, some (.cells [.sl 4 (ps.map propRow), .sl 1 (bs.map byteRow)])), (10, some (.cells [.int .i64 2, .int .i64 (match i with | 0 => 0 | 1 => na | _ => na), .int .i64 (match i with | 0 => 0 | 1 => 0 | _ => 0), .int .i64 0, .sl 4 (ps.map propRow), .sl 1 (bs.map byteRow)])), (13, some (.cells [.int .i64 (0)])), (46, some (.rows 9 1 [[.str [116, 97, 103, 58, 32]], [.str [116, 114, 105, 101, 115, 58, 32]]])), (49, some (.cells [.ptr 10 1, .ptr 10 2]))] }) (fun i => 2 - i) 0 ⟨Nat.zero_le _, wk_of hD [(2, 2), (7, 7), (10, 10), (13, 13), (46, 46), (49, 49)] rfl rfl (by simp only [go_sem]; try simp [strRow]) (by simp only [go_sem]; try simp [strRow])⟩ ?_
                  intro i hi
                  refine evC_sound hX wyLo _ _ _ ?_
                  have hi : i = 0 ∨ i = 1 ∨ i = 2 := by omega
                  rcases hi with rfl | rfl | rfl
                  · simp only
                    simp (disch := omega) only [go_sem, hD, hG', g3a, g4a, g3c, g4c, wyLo, strRow, z0, z1, n0, n1, n2, List.getD_nil, g00, g20, unbox]
                    (repeat (with_reducible refine And.intro (by first | omega | decide | (simp; done) | (simp only [List.length_append, List.length_cons, List.length_nil, List.length_map]; omega)) ?_))
                    refine RegT.mk [(6, true)] ?_
                    simp (disch := omega) only [go_sem, hD, hG', g3a, g4a, g3c, g4c, wyLo, strRow, z0, z1, n0, n1, n2, List.getD_nil, g00, g20, unbox]
                    (repeat (with_reducible refine And.intro (by first | omega | decide | (simp; done) | (simp only [List.length_append, List.length_cons, List.length_nil, List.length_map]; omega)) ?_))
                    refine ⟨1, ⟨by omega, by omega⟩, wk_of hD [(2, 2), (7, 7), (10, 10), (13, 13), (46, 46), (49, 49)] rfl rfl ?_ ?_⟩ <;> simp only [go_sem]
                    all_goals (try simp [strRow])
                  · simp only
                    simp (disch := omega) only [go_sem, hD, hG', g3a, g4a, g3c, g4c, wyLo, strRow, z0, z1, n0, n1, n2, List.getD_nil, g00, g20, unbox]
                    (repeat (with_reducible refine And.intro (by first | omega | decide | (simp; done) | (simp only [List.length_append, List.length_cons, List.length_nil, List.length_map]; omega)) ?_))
                    refine ⟨2, ⟨by omega, by omega⟩, wk_of hD [(2, 2), (7, 7), (10, 10), (13, 13), (46, 46), (49, 49)] rfl rfl ?_ ?_⟩ <;> simp only [go_sem]
                    all_goals (try simp [strRow])
                  · simp only
                    rw [if_neg (by simp)] at hw
                    rw [hw, if_pos (by simp)] at hr
                    subst hr
                    simp only [sayA, lsay0, note0, List.map_nil]
                    try (simp (disch := omega) only [go_sem, hD, hG', wyLo, strRow, z0, z1, n0, n1, n2, List.getD_nil, g00, g20, unbox])
                    (repeat (with_reducible refine And.intro (by first | omega | decide | (simp; done) | (simp only [List.length_append, List.length_cons, List.length_nil, List.length_map]; omega)) ?_))
                    refine endW [] [] (by simp) rfl rfl rfl ?_ ?_ <;> simp only [go_sem]
                · skip
                  refine Tr.loop (ι := Nat) (fun i => i ≤ 2) (fun i => { nt := 117, tm := [(2, .ptr 2 0), (3, .int .i64 0), (4, .int .i64 0), (6, .sl 1 ([strRow a, strRow c])), (7, .ptr 7 0), (8, .int .i64 all), (10, .ptr 10 0), (11, .os 46), (12, .psl 49 2), (13, .ptr 13 0), (14, .bool (match i with | 0 => true | 1 => false | _ => false)), (71, .int .i64 2), (72, .int .i64 (i))], bl := [(2, some (.cells [.int .i64 0, .int .i64 0, .int .i64 0, .int .i64 0, .nils, .nils])), (7, some (.cells [.sl 4 (ps.map propRow), .sl 1 (bs.map byteRow)])), (10, some (.cells [.int .i64 2, .int .i64 (match i with | 0 => 0 | 1 => na | _ => na), .int .i64 (match i with | 0 => 0 | 1 => 0 | _ => 0), .int .i64 0, .sl 4 (ps.map propRow), .sl 1 (bs.map byteRow)])), (13, some (.cells [.int .i64 (0)])), (46, some (.rows 9 1 [[.str [116, 97, 103, 58, 32]], [.str [116, 114, 105, 101, 115, 58, 32]]])), (49, some (.cells [.ptr 10 1, .ptr 10 2]))] }) (fun i => 2 - i) 0 ⟨Nat.zero_le _, wk_of hD [(2, 2), (7, 7), (10, 10), (13, 13), (46, 46), (49, 49)] rfl rfl (by simp only [go_sem]; try simp [strRow]) (by simp only [go_sem]; try simp [strRow])⟩ ?_
                  intro i hi
                  refine evC_sound hX wyLo _ _ _ ?_
                  have hi : i = 0 ∨ i = 1 ∨ i = 2 := by omega
                  rcases hi with rfl | rfl | rfl
                  · simp only
                    simp (disch := omega) only [go_sem, hD, hG', g3a, g4a, g3c, g4c, wyLo, strRow, z0, z1, n0, n1, n2, List.getD_nil, g00, g20, unbox]
                    (repeat (with_reducible refine And.intro (by first | omega | decide | (simp; done) | (simp only [List.length_append, List.length_cons, List.length_nil, List.length_map]; omega)) ?_))
                    refine RegT.mk [(6, true)] ?_
                    simp (disch := omega) only [go_sem, hD, hG', g3a, g4a, g3c, g4c, wyLo, strRow, z0, z1, n0, n1, n2, List.getD_nil, g00, g20, unbox]
                    (repeat (with_reducible refine And.intro (by first | omega | decide | (simp; done) | (simp only [List.length_append, List.length_cons, List.length_nil, List.length_map]; omega)) ?_))
                    refine ⟨1, ⟨by omega, by omega⟩, wk_of hD [(2, 2), (7, 7), (10, 10), (13, 13), (46, 46), (49, 49)] rfl rfl ?_ ?_⟩ <;> simp only [go_sem]
                    all_goals (try simp [strRow])
                  · simp only
                    simp (disch := omega) only [go_sem, hD, hG', g3a, g4a, g3c, g4c, wyLo, strRow, z0, z1, n0, n1, n2, List.getD_nil, g00, g20, unbox]
                    (repeat (with_reducible refine And.intro (by first | omega | decide | (simp; done) | (simp only [List.length_append, List.length_cons, List.length_nil, List.length_map]; omega)) ?_))
                    refine ⟨2, ⟨by omega, by omega⟩, wk_of hD [(2, 2), (7, 7), (10, 10), (13, 13), (46, 46), (49, 49)] rfl rfl ?_ ?_⟩ <;> simp only [go_sem]
                    all_goals (try simp [strRow])
                  · simp only
                    rw [if_neg (by simp)] at hw
                    rw [hw, if_pos (by simp)] at hr
                    subst hr
                    simp only [sayA, lsay0, note0, List.map_nil]
                    try (simp (disch := omega) only [go_sem, hD, hG', wyLo, strRow, z0, z1, n0, n1, n2, List.getD_nil, g00, g20, unbox])
                    (repeat (with_reducible refine And.intro (by first | omega | decide | (simp; done) | (simp only [List.length_append, List.length_cons, List.length_nil, List.length_map]; omega)) ?_))
                    refine endW [] [] (by simp) rfl rfl rfl ?_ ?_ <;> simp only [go_sem]
              · skip
                cases kc
                · skip
                  refine Tr.loop (ι := Nat) (fun i => i ≤ 2) (fun i => { nt := 117, tm := [(2, .ptr 2 0), (3, .int .i64 0), (4, .int .i64 0), (6, .sl 1 ([strRow a, strRow c])), (7, .ptr 7 0), (8, .int .i64 all), (10, .ptr 10 0), (11, .os 46), (12, .psl 49 2), (13, .ptr 13 0), (14, .bool (match i with | 0 => true | 1 => false | _ => false)), (71, .int .i64 2), (72, .int .i64 (i))], bl := [(2, some (.cells [.int .i64 0, .int .i64 0, .int .i64 0, .int .i64 0, .nils, .nils])), (7, some (.cells [.sl 4 (ps.map propRow), .sl 1 (bs.map byteRow)])), (10, some (.cells [.int .i64 2, .int .i64 (match i with | 0 => 0 | 1 => na | _ => na), .int .i64 (match i with | 0 => 0 | 1 => 0 | _ => 0), .int .i64 0, .sl 4 (ps.map propRow), .sl 1 (bs.map byteRow)])), (13, some (.cells [.int .i64 (0)])), (46, some (.rows 9 1 [[.str [116, 97, 103, 58, 32]], [.str [116, 114, 105, 101, 115, 58, 32]]])), (49, some (.cells [.ptr 10 1, .ptr 10 2]))] }) (fun i => 2 - i) 0 ⟨Nat.zero_le _, wk_of hD [(2, 2), (7, 7), (10, 10), (13, 13), (46, 46), (49, 49)] rfl rfl (by simp only [go_sem]; try simp [strRow]) (by simp only [go_sem]; try simp [strRow])⟩ ?_
                  intro i hi
                  refine evC_sound hX wyLo _ _ _ ?_
                  have hi : i = 0 ∨ i = 1 ∨ i = 2 := by omega
                  rcases hi with rfl | rfl | rfl
                  · simp only
                    simp (disch := omega) only [go_sem, hD, hG', g3a, g4a, g3c, g4c, wyLo, strRow, z0, z1, n0, n1, n2, List.getD_nil, g00, g20, unbox]
                    (repeat (with_reducible refine And.intro (by first | omega | decide | (simp; done) | (simp only [List.length_append, List.length_cons, List.length_nil, List.length_map]; omega)) ?_))
                    refine RegT.mk [(6, true)] ?_
                    simp (disch := omega) only [go_sem, hD, hG', g3a, g4a, g3c, g4c, wyLo, strRow, z0, z1, n0, n1, n2, List.getD_nil, g00, g20, unbox]
                    (repeat (with_reducible refine And.intro (by first | omega | decide | (simp; done) | (simp only [List.length_append, List.length_cons, List.length_nil, List.length_map]; omega)) ?_))
                    refine ⟨1, ⟨by omega, by omega⟩, wk_of hD [(2, 2), (7, 7), (10, 10), (13, 13), (46, 46), (49, 49)] rfl rfl ?_ ?_⟩ <;> simp only [go_sem]
                    all_goals (try simp [strRow])
                  · simp only
                    simp (disch := omega) only [go_sem, hD, hG', g3a, g4a, g3c, g4c, wyLo, strRow, z0, z1, n0, n1, n2, List.getD_nil, g00, g20, unbox]
                    (repeat (with_reducible refine And.intro (by first | omega | decide | (simp; done) | (simp only [List.length_append, List.length_cons, List.length_nil, List.length_map]; omega)) ?_))
                    refine ⟨2, ⟨by omega, by omega⟩, wk_of hD [(2, 2), (7, 7), (10, 10), (13, 13), (46, 46), (49, 49)] rfl rfl ?_ ?_⟩ <;> simp only [go_sem]
                    all_goals (try simp [strRow])
                  · simp only
                    rw [if_neg (by simp)] at hw
                    rw [hw, if_pos (by simp)] at hr
                    subst hr
                    simp only [sayA, lsay0, note0, List.map_nil]
                    try (simp (disch := omega) only [go_sem, hD, hG', wyLo, strRow, z0, z1, n0, n1, n2, List.getD_nil, g00, g20, unbox])
                    (repeat (with_reducible refine And.intro (by first | omega | decide | (simp; done) | (simp only [List.length_append, List.length_cons, List.length_nil, List.length_map]; omega)) ?_))
                    refine endW [] [] (by simp) rfl rfl rfl ?_ ?_ <;> simp only [go_sem]
                · skip
                  refine Tr.loop (ι := Nat) (fun i => i ≤ 2) (fun i => { nt := 117, tm := [(2, .ptr 2 0), (3, .int .i64 0), (4, .int .i64 0), (6, .sl 1 ([strRow a, strRow c])), (7, .ptr 7 0), (8, .int .i64 all), (10, .ptr 10 0), (11, .os 46), (12, .psl 49 2), (13, .ptr 13 0), (14, .bool (match i with | 0 => true | 1 => false | _ => false)), (71, .int .i64 2), (72, .int .i64 (i))], bl := [(2, some (.cells [.int .i64 0, .int .i64 0, .int .i64 0, .int .i64 0, .nils, .nils])), (7, some (.cells [.sl 4 (ps.map propRow), .sl 1 (bs.map byteRow)])), (10, some (.cells [.int .i64 2, .int .i64 (match i with | 0 => 0 | 1 => na | _ => na), .int .i64 (match i with | 0 => 0 | 1 => 0 | _ => 0), .int .i64 0, .sl 4 (ps.map propRow), .sl 1 (bs.map byteRow)])), (13, some (.cells [.int .i64 (0)])), (46, some (.rows 9 1 [[.str [116, 97, 103, 58, 32]], [.str [116, 114, 105, 101, 115, 58, 32]]])), (49, some (.cells [.ptr 10 1, .ptr 10 2]))] }) (fun i => 2 - i) 0 ⟨Nat.zero_le _, wk_of hD [(2, 2), (7, 7), (10, 10), (13, 13), (46, 46), (49, 49)] rfl rfl (by simp only [go_sem]; try simp [strRow]) (by simp only [go_sem]; try simp [strRow])⟩ ?_
                  intro i hi
                  refine evC_sound hX wyLo _ _ _ ?_
                  have hi : i = 0 ∨ i = 1 ∨ i = 2 := by omega
                  rcases hi with rfl | rfl | rfl
                  · simp only
                    simp (disch := omega) only [go_sem, hD, hG', g3a, g4a, g3c, g4c, wyLo, strRow, z0, z1, n0, n1, n2, List.getD_nil, g00, g20, unbox]
                    (repeat (with_reducible refine And.intro (by first | omega | decide | (simp; done) | (simp only [List.length_append, List.length_cons, List.length_nil, List.length_map]; omega)) ?_))
                    refine RegT.mk [(6, true)] ?_
                    simp (disch := omega) only [go_sem, hD, hG', g3a, g4a, g3c, g4c, wyLo, strRow, z0, z1, n0, n1, n2, List.getD_nil, g00, g20, unbox]
                    (repeat (with_reducible refine And.intro (by first | omega | decide | (simp; done) | (simp only [List.length_append, List.length_cons, List.length_nil, List.length_map]; omega)) ?_))
                    refine ⟨1, ⟨by omega, by omega⟩, wk_of hD [(2, 2), (7, 7), (10, 10), (13, 13), (46, 46), (49, 49)] rfl rfl ?_ ?_⟩ <;> simp only [go_sem]
                    all_goals (try simp [strRow])
                  · simp only
                    simp (disch := omega) only [go_sem, hD, hG', g3a, g4a, g3c, g4c, wyLo, strRow, z0, z1, n0, n1, n2, List.getD_nil, g00, g20, unbox]
                    (repeat (with_reducible refine And.intro (by first | omega | decide | (simp; done) | (simp only [List.length_append, List.length_cons, List.length_nil, List.length_map]; omega)) ?_))
                    refine ⟨2, ⟨by omega, by omega⟩, wk_of hD [(2, 2), (7, 7), (10, 10), (13, 13), (46, 46), (49, 49)] rfl rfl ?_ ?_⟩ <;> simp only [go_sem]
                    all_goals (try simp [strRow])
                  · simp only
                    rw [if_neg (by simp)] at hw
                    rw [hw, if_pos (by simp)] at hr
                    subst hr
                    simp only [sayA, lsay0, note0, List.map_nil]
                    try (simp (disch := omega) only [go_sem, hD, hG', wyLo, strRow, z0, z1, n0, n1, n2, List.getD_nil, g00, g20, unbox])
                    (repeat (with_reducible refine And.intro (by first | omega | decide | (simp; done) | (simp only [List.length_append, List.length_cons, List.length_nil, List.length_map]; omega)) ?_))
                    refine endW [] [] (by simp) rfl rfl rfl ?_ ?_ <;> simp only [go_sem]
          · skip
            cases ka
            · skip
              cases bc
              · skip
                cases kc
                · skip
                  refine Tr.loop (ι := Nat) (fun i => i ≤ 2) (fun i => { nt := 117, tm := [(2, .ptr 2 0), (3, .int .i64 0), (4, .int .i64 0), (6, .sl 1 ([strRow a, strRow c])), (7, .ptr 7 0), (8, .int .i64 all), (10, .ptr 10 0), (11, .os 46), (12, .psl 49 2), (13, .ptr 13 0), (14, .bool (match i with | 0 => true | 1 => false | _ => false)), (71, .int .i64 2), (72, .int .i64 (i))], bl := [(2, some (.cells [.int .i64 0, .int .i64 0, .int .i64 0, .int .i64 0, .nils, .nils])), (7, some (.cells [.sl 4 (ps.map propRow), .sl 1 (bs.map byteRow)])), (10, some (.cells [.int .i64 2, .int .i64 (match i with | 0 => 0 | 1 => na | _ => na), .int .i64 (match i with | 0 => 0 | 1 => 0 | _ => 0), .int .i64 0, .sl 4 (ps.map propRow), .sl 1 (bs.map byteRow)])), (13, some (.cells [.int .i64 (0)])), (46, some (.rows 9 1 [[.str [116, 97, 103, 58, 32]], [.str [116, 114, 105, 101, 115, 58, 32]]])), (49, some (.cells [.ptr 10 1, .ptr 10 2]))] }) (fun i => 2 - i) 0 ⟨Nat.zero_le _, wk_of hD [(2, 2), (7, 7), (10, 10), (13, 13), (46, 46), (49, 49)] rfl rfl (by simp only [go_sem]; try simp [strRow]) (by simp only [go_sem]; try simp [strRow])⟩ ?_
                  intro i hi
                  refine evC_sound hX wyLo _ _ _ ?_
                  have hi : i = 0 ∨ i = 1 ∨ i = 2 := by omega
                  rcases hi with rfl | rfl | rfl
                  · simp only
                    simp (disch := omega) only [go_sem, hD, hG', g3a, g4a, g3c, g4c, wyLo, strRow, z0, z1, n0, n1, n2, List.getD_nil, g00, g20, unbox]
                    (repeat (with_reducible refine And.intro (by first | omega | decide | (simp; done) | (simp only [List.length_append, List.length_cons, List.length_nil, List.length_map]; omega)) ?_))
                    refine RegT.mk [] ?_
                    simp (disch := omega) only [go_sem, hD, hG', g3a, g4a, g3c, g4c, wyLo, strRow, z0, z1, n0, n1, n2, List.getD_nil, g00, g20, unbox]
                    (repeat (with_reducible refine And.intro (by first | omega | decide | (simp; done) | (simp only [List.length_append, List.length_cons, List.length_nil, List.length_map]; omega)) ?_))
                    refine ⟨1, ⟨by omega, by omega⟩, wk_of hD [(2, 2), (7, 7), (10, 10), (13, 13), (46, 46), (49, 49)] rfl rfl ?_ ?_⟩ <;> simp only [go_sem]
                    all_goals (try simp [strRow])
                  · simp only
                    simp (disch := omega) only [go_sem, hD, hG', g3a, g4a, g3c, g4c, wyLo, strRow, z0, z1, n0, n1, n2, List.getD_nil, g00, g20, unbox]
                    (repeat (with_reducible refine And.intro (by first | omega | decide | (simp; done) | (simp only [List.length_append, List.length_cons, List.length_nil, List.length_map]; omega)) ?_))
                    refine ⟨2, ⟨by omega, by omega⟩, wk_of hD [(2, 2), (7, 7), (10, 10), (13, 13), (46, 46), (49, 49)] rfl rfl ?_ ?_⟩ <;> simp only [go_sem]
                    all_goals (try simp [strRow])
                  · simp only
                    rw [if_neg (by simp)] at hw
                    rw [hw, if_pos (by simp)] at hr
                    subst hr
                    simp only [sayA, lsay0, note0, List.map_nil]
                    try (simp (disch := omega) only [go_sem, hD, hG', wyLo, strRow, z0, z1, n0, n1, n2, List.getD_nil, g00, g20, unbox])
                    (repeat (with_reducible refine And.intro (by first | omega | decide | (simp; done) | (simp only [List.length_append, List.length_cons, List.length_nil, List.length_map]; omega)) ?_))
                    refine endW [] [] (by simp) rfl rfl rfl ?_ ?_ <;> simp only [go_sem]
                · skip
                  refine Tr.loop (ι := Nat) (fun i => i ≤ 2) (fun i => { nt := 117, tm := [(2, .ptr 2 0), (3, .int .i64 0), (4, .int .i64 0), (6, .sl 1 ([strRow a, strRow c])), (7, .ptr 7 0), (8, .int .i64 all), (10, .ptr 10 0), (11, .os 46), (12, .psl 49 2), (13, .ptr 13 0), (14, .bool (match i with | 0 => true | 1 => false | _ => false)), (71, .int .i64 2), (72, .int .i64 (i))], bl := [(2, some (.cells [.int .i64 0, .int .i64 0, .int .i64 0, .int .i64 0, .nils, .nils])), (7, some (.cells [.sl 4 (ps.map propRow), .sl 1 (bs.map byteRow)])), (10, some (.cells [.int .i64 2, .int .i64 (match i with | 0 => 0 | 1 => na | _ => na), .int .i64 (match i with | 0 => 0 | 1 => 0 | _ => 0), .int .i64 0, .sl 4 (ps.map propRow), .sl 1 (bs.map byteRow)])), (13, some (.cells [.int .i64 (0)])), (46, some (.rows 9 1 [[.str [116, 97, 103, 58, 32]], [.str [116, 114, 105, 101, 115, 58, 32]]])), (49, some (.cells [.ptr 10 1, .ptr 10 2]))] }) (fun i => 2 - i) 0 ⟨Nat.zero_le _, wk_of hD [(2, 2), (7, 7), (10, 10), (13, 13), (46, 46), (49, 49)] rfl rfl (by simp only [go_sem]; try simp [strRow]) (by simp only [go_sem]; try simp [strRow])⟩ ?_
                  intro i hi
                  refine evC_sound hX wyLo _ _ _ ?_
                  have hi : i = 0 ∨ i = 1 ∨ i = 2 := by omega
                  rcases hi with rfl | rfl | rfl
                  · simp only
                    simp (disch := omega) only [go_sem, hD, hG', g3a, g4a, g3c, g4c, wyLo, strRow, z0, z1, n0, n1, n2, List.getD_nil, g00, g20, unbox]
                    (repeat (with_reducible refine And.intro (by first | omega | decide | (simp; done) | (simp only [List.length_append, List.length_cons, List.length_nil, List.length_map]; omega)) ?_))
                    refine RegT.mk [] ?_
                    simp (disch := omega) only [go_sem, hD, hG', g3a, g4a, g3c, g4c, wyLo, strRow, z0, z1, n0, n1, n2, List.getD_nil, g00, g20, unbox]
                    (repeat (with_reducible refine And.intro (by first | omega | decide | (simp; done) | (simp only [List.length_append, List.length_cons, List.length_nil, List.length_map]; omega)) ?_))
                    refine ⟨1, ⟨by omega, by omega⟩, wk_of hD [(2, 2), (7, 7), (10, 10), (13, 13), (46, 46), (49, 49)] rfl rfl ?_ ?_⟩ <;> simp only [go_sem]
                    all_goals (try simp [strRow])
                  · simp only
                    simp (disch := omega) only [go_sem, hD, hG', g3a, g4a, g3c, g4c, wyLo, strRow, z0, z1, n0, n1, n2, List.getD_nil, g00, g20, unbox]
                    (repeat (with_reducible refine And.intro (by first | omega | decide | (simp; done) | (simp only [List.length_append, List.length_cons, List.length_nil, List.length_map]; omega)) ?_))
                    refine ⟨2, ⟨by omega, by omega⟩, wk_of hD [(2, 2), (7, 7), (10, 10), (13, 13), (46, 46), (49, 49)] rfl rfl ?_ ?_⟩ <;> simp only [go_sem]
                    all_goals (try simp [strRow])
                  · simp only
                    rw [if_neg (by simp)] at hw
                    rw [hw, if_pos (by simp)] at hr
                    subst hr
                    simp only [sayA, lsay0, note0, List.map_nil]
                    try (simp (disch := omega) only [go_sem, hD, hG', wyLo, strRow, z0, z1, n0, n1, n2, List.getD_nil, g00, g20, unbox])
                    (repeat (with_reducible refine And.intro (by first | omega | decide | (simp; done) | (simp only [List.length_append, List.length_cons, List.length_nil, List.length_map]; omega)) ?_))
                    refine endW [] [] (by simp) rfl rfl rfl ?_ ?_ <;> simp only [go_sem]
              · skip
                cases kc
                · skip
                  refine Tr.loop (ι := Nat) (fun i => i ≤ 2) (fun i => { nt := 117, tm := [(2, .ptr 2 0), (3, .int .i64 0), (4, .int .i64 0), (6, .sl 1 ([strRow a, strRow c])), (7, .ptr 7 0), (8, .int .i64 all), (10, .ptr 10 0), (11, .os 46), (12, .psl 49 2), (13, .ptr 13 0), (14, .bool (match i with | 0 => true | 1 => false | _ => false)), (71, .int .i64 2), (72, .int .i64 (i))], bl := [(2, some (.cells [.int .i64 0, .int .i64 0, .int .i64 0, .int .i64 0, .nils, .nils])), (7, some (.cells [.sl 4 (ps.map propRow), .sl 1 (bs.map byteRow)])), (10, some (.cells [.int .i64 2, .int .i64 (match i with | 0 => 0 | 1 => na | _ => na), .int .i64 (match i with | 0 => 0 | 1 => 0 | _ => 0), .int .i64 0, .sl 4 (ps.map propRow), .sl 1 (bs.map byteRow)])), (13, some (.cells [.int .i64 (0)])), (46, some (.rows 9 1 [[.str [116, 97, 103, 58, 32]], [.str [116, 114, 105, 101, 115, 58, 32]]])), (49, some (.cells [.ptr 10 1, .ptr 10 2]))] }) (fun i => 2 - i) 0 ⟨Nat.zero_le _, wk_of hD [(2, 2), (7, 7), (10, 10), (13, 13), (46, 46), (49, 49)] rfl rfl (by simp only [go_sem]; try simp [strRow]) (by simp only [go_sem]; try simp [strRow])⟩ ?_
                  intro i hi
                  refine evC_sound hX wyLo _ _ _ ?_
                  have hi : i = 0 ∨ i = 1 ∨ i = 2 := by omega
                  rcases hi with rfl | rfl | rfl
                  · simp only
                    simp (disch := omega) only [go_sem, hD, hG', g3a, g4a, g3c, g4c, wyLo, strRow, z0, z1, n0, n1, n2, List.getD_nil, g00, g20, unbox]
                    (repeat (with_reducible refine And.intro (by first | omega | decide | (simp; done) | (simp only [List.length_append, List.length_cons, List.length_nil, List.length_map]; omega)) ?_))
                    refine RegT.mk [] ?_
                    simp (disch := omega) only [go_sem, hD, hG', g3a, g4a, g3c, g4c, wyLo, strRow, z0, z1, n0, n1, n2, List.getD_nil, g00, g20, unbox]
                    (repeat (with_reducible refine And.intro (by first | omega | decide | (simp; done) | (simp only [List.length_append, List.length_cons, List.length_nil, List.length_map]; omega)) ?_))
                    refine ⟨1, ⟨by omega, by omega⟩, wk_of hD [(2, 2), (7, 7), (10, 10), (13, 13), (46, 46), (49, 49)] rfl rfl ?_ ?_⟩ <;> simp only [go_sem]
                    all_goals (try simp [strRow])
                  · simp only
                    simp (disch := omega) only [go_sem, hD, hG', g3a, g4a, g3c, g4c, wyLo, strRow, z0, z1, n0, n1, n2, List.getD_nil, g00, g20, unbox]
                    (repeat (with_reducible refine And.intro (by first | omega | decide | (simp; done) | (simp only [List.length_append, List.length_cons, List.length_nil, List.length_map]; omega)) ?_))
                    refine ⟨2, ⟨by omega, by omega⟩, wk_of hD [(2, 2), (7, 7), (10, 10), (13, 13), (46, 46), (49, 49)] rfl rfl ?_ ?_⟩ <;> simp only [go_sem]
                    all_goals (try simp [strRow])
                  · simp only
                    rw [if_neg (by simp)] at hw
                    rw [hw, if_pos (by simp)] at hr
                    subst hr
                    simp only [sayA, lsay0, note0, List.map_nil]
                    try (simp (disch := omega) only [go_sem, hD, hG', wyLo, strRow, z0, z1, n0, n1, n2, List.getD_nil, g00, g20, unbox])
                    (repeat (with_reducible refine And.intro (by first | omega | decide | (simp; done) | (simp only [List.length_append, List.length_cons, List.length_nil, List.length_map]; omega)) ?_))
                    refine endW [] [] (by simp) rfl rfl rfl ?_ ?_ <;> simp only [go_sem]
                · skip
                  refine Tr.loop (ι := Nat) (fun i => i ≤ 2) (fun i => { nt := 117, tm := [(2, .ptr 2 0), (3, .int .i64 0), (4, .int .i64 0), (6, .sl 1 ([strRow a, strRow c])), (7, .ptr 7 0), (8, .int .i64 all), (10, .ptr 10 0), (11, .os 46), (12, .psl 49 2), (13, .ptr 13 0), (14, .bool (match i with | 0 => true | 1 => false | _ => false)), (71, .int .i64 2), (72, .int .i64 (i))], bl := [(2, some (.cells [.int .i64 0, .int .i64 0, .int .i64 0, .int .i64 0, .nils, .nils])), (7, some (.cells [.sl 4 (ps.map propRow), .sl 1 (bs.map byteRow)])), (10, some (.cells [.int .i64 2, .int .i64 (match i with | 0 => 0 | 1 => na | _ => na), .int .i64 (match i with | 0 => 0 | 1 => 0 | _ => 0), .int .i64 0, .sl 4 (ps.map propRow), .sl 1 (bs.map byteRow)])), (13, some (.cells [.int .i64 (0)])), (46, some (.rows 9 1 [[.str [116, 97, 103, 58, 32]], [.str [116, 114, 105, 101, 115, 58, 32]]])), (49, some (.cells [.ptr 10 1, .ptr 10 2]))] }) (fun i => 2 - i) 0 ⟨Nat.zero_le _, wk_of hD [(2, 2), (7, 7), (10, 10), (13, 13), (46, 46), (49, 49)] rfl rfl (by simp only [go_sem]; try simp [strRow]) (by simp only [go_sem]; try simp [strRow])⟩ ?_
                  intro i hi
                  refine evC_sound hX wyLo _ _ _ ?_
                  have hi : i = 0 ∨ i = 1 ∨ i = 2 := by omega
                  rcases hi with rfl | rfl | rfl
                  · simp only
                    simp (disch := omega) only [go_sem, hD, hG', g3a, g4a, g3c, g4c, wyLo, strRow, z0, z1, n0, n1, n2, List.getD_nil, g00, g20, unbox]
                    (repeat (with_reducible refine And.intro (by first | omega | decide | (simp; done) | (simp only [List.length_append, List.length_cons, List.length_nil, List.length_map]; omega)) ?_))
                    refine RegT.mk [] ?_
                    simp (disch := omega) only [go_sem, hD, hG', g3a, g4a, g3c, g4c, wyLo, strRow, z0, z1, n0, n1, n2, List.getD_nil, g00, g20, unbox]
                    (repeat (with_reducible refine And.intro (by first | omega | decide | (simp; done) | (simp only [List.length_append, List.length_cons, List.length_nil, List.length_map]; omega)) ?_))
                    refine ⟨1, ⟨by omega, by omega⟩, wk_of hD [(2, 2), (7, 7), (10, 10), (13, 13), (46, 46), (49, 49)] rfl rfl ?_ ?_⟩ <;> simp only [go_sem]
                    all_goals (try simp [strRow])
                  · simp only
                    simp (disch := omega) only [go_sem, hD, hG', g3a, g4a, g3c, g4c, wyLo, strRow, z0, z1, n0, n1, n2, List.getD_nil, g00, g20, unbox]
                    (repeat (with_reducible refine And.intro (by first | omega | decide | (simp; done) | (simp only [List.length_append, List.length_cons, List.length_nil, List.length_map]; omega)) ?_))
                    refine ⟨2, ⟨by omega, by omega⟩, wk_of hD [(2, 2), (7, 7), (10, 10), (13, 13), (46, 46), (49, 49)] rfl rfl ?_ ?_⟩ <;> simp only [go_sem]
                    all_goals (try simp [strRow])
                  · simp only
                    rw [if_neg (by simp)] at hw
                    rw [hw, if_pos (by simp)] at hr
                    subst hr
                    simp only [sayA, lsay0, note0, List.map_nil]
                    try (simp (disch := omega) only [go_sem, hD, hG', wyLo, strRow, z0, z1, n0, n1, n2, List.getD_nil, g00, g20, unbox])
                    (repeat (with_reducible refine And.intro (by first | omega | decide | (simp; done) | (simp only [List.length_append, List.length_cons, List.length_nil, List.length_map]; omega)) ?_))
                    refine endW [] [] (by simp) rfl rfl rfl ?_ ?_ <;> simp only [go_sem]
            · skip
              cases bc
              · skip
                cases kc
                · skip
                  refine Tr.loop (ι := Nat) (fun i => i ≤ 2) (fun i => { nt := 117, tm := [(2, .ptr 2 0), (3, .int .i64 0), (4, .int .i64 0), (6, .sl 1 ([strRow a, strRow c])), (7, .ptr 7 0), (8, .int .i64 all), (10, .ptr 10 0), (11, .os 46), (12, .psl 49 2), (13, .ptr 13 0), (14, .bool (match i with | 0 => true | 1 => true | _ => false)), (71, .int .i64 2), (72, .int .i64 (i))], bl := [(2, some (.cells [.int .i64 0, .int .i64 0, .int .i64 0, .int .i64 0, .nils, .nils])), (7, some (.cells [.sl 4 (ps.map propRow), .sl 1 (bs.map byteRow)])), (10, some (.cells [.int .i64 2, .int .i64 (match i with | 0 => 0 | 1 => na | _ => na), .int .i64 (match i with | 0 => 0 | 1 => 0 | _ => nc), .int .i64 0, .sl 4 (ps.map propRow), .sl 1 (bs.map byteRow)])), (13, some (.cells [.int .i64 (0)])), (46, some (.rows 9 1 [[.str [116, 97, 103, 58, 32]], [.str [116, 114, 105, 101, 115, 58, 32]]])), (49, some (.cells [.ptr 10 1, .ptr 10 2]))] }) (fun i => 2 - i) 0 ⟨Nat.zero_le _, wk_of hD [(2, 2), (7, 7), (10, 10), (13, 13), (46, 46), (49, 49)] rfl rfl (by simp only [go_sem]; try simp [strRow]) (by simp only [go_sem]; try simp [strRow])⟩ ?_
                  intro i hi
                  refine evC_sound hX wyLo _ _ _ ?_
                  have hi : i = 0 ∨ i = 1 ∨ i = 2 := by omega
                  rcases hi with rfl | rfl | rfl
                  · simp only
                    simp (disch := omega) only [go_sem, hD, hG', g3a, g4a, g3c, g4c, wyLo, strRow, z0, z1, n0, n1, n2, List.getD_nil, g00, g20, unbox]
                    (repeat (with_reducible refine And.intro (by first | omega | decide | (simp; done) | (simp only [List.length_append, List.length_cons, List.length_nil, List.length_map]; omega)) ?_))
                    refine RegT.mk [] ?_
                    simp (disch := omega) only [go_sem, hD, hG', g3a, g4a, g3c, g4c, wyLo, strRow, z0, z1, n0, n1, n2, List.getD_nil, g00, g20, unbox]
                    (repeat (with_reducible refine And.intro (by first | omega | decide | (simp; done) | (simp only [List.length_append, List.length_cons, List.length_nil, List.length_map]; omega)) ?_))
                    refine ⟨1, ⟨by omega, by omega⟩, wk_of hD [(2, 2), (7, 7), (10, 10), (13, 13), (46, 46), (49, 49)] rfl rfl ?_ ?_⟩ <;> simp only [go_sem]
                    all_goals (try simp [strRow])
                  · simp only
                    simp (disch := omega) only [go_sem, hD, hG', g3a, g4a, g3c, g4c, wyLo, strRow, z0, z1, n0, n1, n2, List.getD_nil, g00, g20, unbox]
                    (repeat (with_reducible refine And.intro (by first | omega | decide | (simp; done) | (simp only [List.length_append, List.length_cons, List.length_nil, List.length_map]; omega)) ?_))
                    refine RegT.mk [(6, true)] ?_
                    simp (disch := omega) only [go_sem, hD, hG', g3a, g4a, g3c, g4c, wyLo, strRow, z0, z1, n0, n1, n2, List.getD_nil, g00, g20, unbox]
                    (repeat (with_reducible refine And.intro (by first | omega | decide | (simp; done) | (simp only [List.length_append, List.length_cons, List.length_nil, List.length_map]; omega)) ?_))
                    refine ⟨2, ⟨by omega, by omega⟩, wk_of hD [(2, 2), (7, 7), (10, 10), (13, 13), (46, 46), (49, 49)] rfl rfl ?_ ?_⟩ <;> simp only [go_sem]
                    all_goals (try simp [strRow])
                  · simp only
                    rw [if_neg (by simp)] at hw
                    rw [hw, if_pos (by simp)] at hr
                    subst hr
                    simp only [sayA, lsay0, note0, List.map_nil]
                    try (simp (disch := omega) only [go_sem, hD, hG', wyLo, strRow, z0, z1, n0, n1, n2, List.getD_nil, g00, g20, unbox])
                    (repeat (with_reducible refine And.intro (by first | omega | decide | (simp; done) | (simp only [List.length_append, List.length_cons, List.length_nil, List.length_map]; omega)) ?_))
                    refine endW [] [] (by simp) rfl rfl rfl ?_ ?_ <;> simp only [go_sem]
                · skip
                  refine Tr.loop (ι := Nat) (fun i => i ≤ 2) (fun i => { nt := 117, tm := [(2, .ptr 2 0), (3, .int .i64 0), (4, .int .i64 0), (6, .sl 1 ([strRow a, strRow c])), (7, .ptr 7 0), (8, .int .i64 all), (10, .ptr 10 0), (11, .os 46), (12, .psl 49 2), (13, .ptr 13 0), (14, .bool (match i with | 0 => true | 1 => true | _ => false)), (71, .int .i64 2), (72, .int .i64 (i))], bl := [(2, some (.cells [.int .i64 0, .int .i64 0, .int .i64 0, .int .i64 0, .nils, .nils])), (7, some (.cells [.sl 4 (ps.map propRow), .sl 1 (bs.map byteRow)])), (10, some (.cells [.int .i64 2, .int .i64 (match i with | 0 => 0 | 1 => na | _ => na), .int .i64 (match i with | 0 => 0 | 1 => 0 | _ => nc), .int .i64 0, .sl 4 (ps.map propRow), .sl 1 (bs.map byteRow)])), (13, some (.cells [.int .i64 (0)])), (46, some (.rows 9 1 [[.str [116, 97, 103, 58, 32]], [.str [116, 114, 105, 101, 115, 58, 32]]])), (49, some (.cells [.ptr 10 1, .ptr 10 2]))] }) (fun i => 2 - i) 0 ⟨Nat.zero_le _, wk_of hD [(2, 2), (7, 7), (10, 10), (13, 13), (46, 46), (49, 49)] rfl rfl (by simp only [go_sem]; try simp [strRow]) (by simp only [go_sem]; try simp [strRow])⟩ ?_
                  intro i hi
                  refine evC_sound hX wyLo _ _ _ ?_
                  have hi : i = 0 ∨ i = 1 ∨ i = 2 := by omega
                  rcases hi with rfl | rfl | rfl
                  · simp only
                    simp (disch := omega) only [go_sem, hD, hG', g3a, g4a, g3c, g4c, wyLo, strRow, z0, z1, n0, n1, n2, List.getD_nil, g00, g20, unbox]
                    (repeat (with_reducible refine And.intro (by first | omega | decide | (simp; done) | (simp only [List.length_append, List.length_cons, List.length_nil, List.length_map]; omega)) ?_))
                    refine RegT.mk [] ?_
                    simp (disch := omega) only [go_sem, hD, hG', g3a, g4a, g3c, g4c, wyLo, strRow, z0, z1, n0, n1, n2, List.getD_nil, g00, g20, unbox]
                    (repeat (with_reducible refine And.intro (by first | omega | decide | (simp; done) | (simp only [List.length_append, List.length_cons, List.length_nil, List.length_map]; omega)) ?_))
                    refine ⟨1, ⟨by omega, by omega⟩, wk_of hD [(2, 2), (7, 7), (10, 10), (13, 13), (46, 46), (49, 49)] rfl rfl ?_ ?_⟩ <;> simp only [go_sem]
                    all_goals (try simp [strRow])
                  · simp only
                    simp (disch := omega) only [go_sem, hD, hG', g3a, g4a, g3c, g4c, wyLo, strRow, z0, z1, n0, n1, n2, List.getD_nil, g00, g20, unbox]
                    (repeat (with_reducible refine And.intro (by first | omega | decide | (simp; done) | (simp only [List.length_append, List.length_cons, List.length_nil, List.length_map]; omega)) ?_))
                    refine RegT.mk [(6, true)] ?_
                    simp (disch := omega) only [go_sem, hD, hG', g3a, g4a, g3c, g4c, wyLo, strRow, z0, z1, n0, n1, n2, List.getD_nil, g00, g20, unbox]
                    (repeat (with_reducible refine And.intro (by first | omega | decide | (simp; done) | (simp only [List.length_append, List.length_cons, List.length_nil, List.length_map]; omega)) ?_))
                    refine ⟨2, ⟨by omega, by omega⟩, wk_of hD [(2, 2), (7, 7), (10, 10), (13, 13), (46, 46), (49, 49)] rfl rfl ?_ ?_⟩ <;> simp only [go_sem]
                    all_goals (try simp [strRow])
                  · simp only
                    rw [if_neg (by simp)] at hw
                    rw [hw, if_pos (by simp)] at hr
                    subst hr
                    simp only [sayA, lsay0, note0, List.map_nil]
                    try (simp (disch := omega) only [go_sem, hD, hG', wyLo, strRow, z0, z1, n0, n1, n2, List.getD_nil, g00, g20, unbox])
                    (repeat (with_reducible refine And.intro (by first | omega | decide | (simp; done) | (simp only [List.length_append, List.length_cons, List.length_nil, List.length_map]; omega)) ?_))
                    refine endW [] [] (by simp) rfl rfl rfl ?_ ?_ <;> simp only [go_sem]
              · skip
                cases kc
                · skip
                  refine Tr.loop (ι := Nat) (fun i => i ≤ 2) (fun i => { nt := 117, tm := [(2, .ptr 2 0), (3, .int .i64 0), (4, .int .i64 0), (6, .sl 1 ([strRow a, strRow c])), (7, .ptr 7 0), (8, .int .i64 all), (10, .ptr 10 0), (11, .os 46), (12, .psl 49 2), (13, .ptr 13 0), (14, .bool (match i with | 0 => true | 1 => true | _ => false)), (71, .int .i64 2), (72, .int .i64 (i))], bl := [(2, some (.cells [.int .i64 0, .int .i64 0, .int .i64 0, .int .i64 0, .nils, .nils])), (7, some (.cells [.sl 4 (ps.map propRow), .sl 1 (bs.map byteRow)])), (10, some (.cells [.int .i64 2, .int .i64 (match i with | 0 => 0 | 1 => na | _ => na), .int .i64 (match i with | 0 => 0 | 1 => 0 | _ => nc), .int .i64 0, .sl 4 (ps.map propRow), .sl 1 (bs.map byteRow)])), (13, some (.cells [.int .i64 (0)])), (46, some (.rows 9 1 [[.str [116, 97, 103, 58, 32]], [.str [116, 114, 105, 101, 115, 58, 32]]])), (49, some (.cells [.ptr 10 1, .ptr 10 2]))] }) (fun i => 2 - i) 0 ⟨Nat.zero_le _, wk_of hD [(2, 2), (7, 7), (10, 10), (13, 13), (46, 46), (49, 49)] rfl rfl (by simp only [go_sem]; try simp [strRow]) (by simp only [go_sem]; try simp [strRow])⟩ ?_
                  intro i hi
                  refine evC_sound hX wyLo _ _ _ ?_
                  have hi : i = 0 ∨ i = 1 ∨ i = 2 := by omega
                  rcases hi with rfl | rfl | rfl
                  · simp only
                    simp (disch := omega) only [go_sem, hD, hG', g3a, g4a, g3c, g4c, wyLo, strRow, z0, z1, n0, n1, n2, List.getD_nil, g00, g20, unbox]
                    (repeat (with_reducible refine And.intro (by first | omega | decide | (simp; done) | (simp only [List.length_append, List.length_cons, List.length_nil, List.length_map]; omega)) ?_))
                    refine RegT.mk [] ?_
                    simp (disch := omega) only [go_sem, hD, hG', g3a, g4a, g3c, g4c, wyLo, strRow, z0, z1, n0, n1, n2, List.getD_nil, g00, g20, unbox]
                    (repeat (with_reducible refine And.intro (by first | omega | decide | (simp; done) | (simp only [List.length_append, List.length_cons, List.length_nil, List.length_map]; omega)) ?_))
                    refine ⟨1, ⟨by omega, by omega⟩, wk_of hD [(2, 2), (7, 7), (10, 10), (13, 13), (46, 46), (49, 49)] rfl rfl ?_ ?_⟩ <;> simp only [go_sem]
                    all_goals (try simp [strRow])
                  · simp only
                    simp (disch := omega) only [go_sem, hD, hG', g3a, g4a, g3c, g4c, wyLo, strRow, z0, z1, n0, n1, n2, List.getD_nil, g00, g20, unbox]
                    (repeat (with_reducible refine And.intro (by first | omega | decide | (simp; done) | (simp only [List.length_append, List.length_cons, List.length_nil, List.length_map]; omega)) ?_))
                    refine RegT.mk [] ?_
                    simp (disch := omega) only [go_sem, hD, hG', g3a, g4a, g3c, g4c, wyLo, strRow, z0, z1, n0, n1, n2, List.getD_nil, g00, g20, unbox]
                    (repeat (with_reducible refine And.intro (by first | omega | decide | (simp; done) | (simp only [List.length_append, List.length_cons, List.length_nil, List.length_map]; omega)) ?_))
                    refine ⟨2, ⟨by omega, by omega⟩, wk_of hD [(2, 2), (7, 7), (10, 10), (13, 13), (46, 46), (49, 49)] rfl rfl ?_ ?_⟩ <;> simp only [go_sem]
                    all_goals (try simp [strRow])
                  · simp only
                    rw [if_neg (by simp)] at hw
                    rw [hw, if_pos (by simp)] at hr
                    subst hr
                    simp only [sayA, lsay0, note0, List.map_nil]
                    try (simp (disch := omega) only [go_sem, hD, hG', wyLo, strRow, z0, z1, n0, n1, n2, List.getD_nil, g00, g20, unbox])
                    (repeat (with_reducible refine And.intro (by first | omega | decide | (simp; done) | (simp only [List.length_append, List.length_cons, List.length_nil, List.length_map]; omega)) ?_))
                    refine endW [] [] (by simp) rfl rfl rfl ?_ ?_ <;> simp only [go_sem]
                · skip
                  refine Tr.loop (ι := Nat) (fun i => i ≤ 2) (fun i => { nt := 117, tm := [(2, .ptr 2 0), (3, .int .i64 0), (4, .int .i64 0), (6, .sl 1 ([strRow a, strRow c])), (7, .ptr 7 0), (8, .int .i64 all), (10, .ptr 10 0), (11, .os 46), (12, .psl 49 2), (13, .ptr 13 0), (14, .bool (match i with | 0 => true | 1 => true | _ => true)), (71, .int .i64 2), (72, .int .i64 (i))], bl := [(2, some (.cells [.int .i64 0, .int .i64 0, .int .i64 0, .int .i64 0, .nils, .nils])), (7, some (.cells [.sl 4 (ps.map propRow), .sl 1 (bs.map byteRow)])), (10, some (.cells [.int .i64 2, .int .i64 (match i with | 0 => 0 | 1 => na | _ => na), .int .i64 (match i with | 0 => 0 | 1 => 0 | _ => nc), .int .i64 0, .sl 4 (ps.map propRow), .sl 1 (bs.map byteRow)])), (13, some (.cells [.int .i64 (0)])), (46, some (.rows 9 1 [[.str [116, 97, 103, 58, 32]], [.str [116, 114, 105, 101, 115, 58, 32]]])), (49, some (.cells [.ptr 10 1, .ptr 10 2]))] }) (fun i => 2 - i) 0 ⟨Nat.zero_le _, wk_of hD [(2, 2), (7, 7), (10, 10), (13, 13), (46, 46), (49, 49)] rfl rfl (by simp only [go_sem]; try simp [strRow]) (by simp only [go_sem]; try simp [strRow])⟩ ?_
                  intro i hi
                  refine evC_sound hX wyLo _ _ _ ?_
                  have hi : i = 0 ∨ i = 1 ∨ i = 2 := by omega
                  rcases hi with rfl | rfl | rfl
                  · simp only
                    simp (disch := omega) only [go_sem, hD, hG', g3a, g4a, g3c, g4c, wyLo, strRow, z0, z1, n0, n1, n2, List.getD_nil, g00, g20, unbox]
                    (repeat (with_reducible refine And.intro (by first | omega | decide | (simp; done) | (simp only [List.length_append, List.length_cons, List.length_nil, List.length_map]; omega)) ?_))
                    refine RegT.mk [] ?_
                    simp (disch := omega) only [go_sem, hD, hG', g3a, g4a, g3c, g4c, wyLo, strRow, z0, z1, n0, n1, n2, List.getD_nil, g00, g20, unbox]
                    (repeat (with_reducible refine And.intro (by first | omega | decide | (simp; done) | (simp only [List.length_append, List.length_cons, List.length_nil, List.length_map]; omega)) ?_))
                    refine ⟨1, ⟨by omega, by omega⟩, wk_of hD [(2, 2), (7, 7), (10, 10), (13, 13), (46, 46), (49, 49)] rfl rfl ?_ ?_⟩ <;> simp only [go_sem]
                    all_goals (try simp [strRow])
                  · simp only
                    simp (disch := omega) only [go_sem, hD, hG', g3a, g4a, g3c, g4c, wyLo, strRow, z0, z1, n0, n1, n2, List.getD_nil, g00, g20, unbox]
                    (repeat (with_reducible refine And.intro (by first | omega | decide | (simp; done) | (simp only [List.length_append, List.length_cons, List.length_nil, List.length_map]; omega)) ?_))
                    refine RegT.mk [] ?_
                    simp (disch := omega) only [go_sem, hD, hG', g3a, g4a, g3c, g4c, wyLo, strRow, z0, z1, n0, n1, n2, List.getD_nil, g00, g20, unbox]
                    (repeat (with_reducible refine And.intro (by first | omega | decide | (simp; done) | (simp only [List.length_append, List.length_cons, List.length_nil, List.length_map]; omega)) ?_))
                    refine ⟨2, ⟨by omega, by omega⟩, wk_of hD [(2, 2), (7, 7), (10, 10), (13, 13), (46, 46), (49, 49)] rfl rfl ?_ ?_⟩ <;> simp only [go_sem]
                    all_goals (try simp [strRow])
                  · simp only
                    rw [if_pos ⟨rfl, rfl⟩] at hw
                    have g5 := g5 ⟨2, na, nc, 0, ⟨ps, bs⟩⟩ hf1
                    simp only [sayA, wsE] at g5
                    generalize wrongSayS ⟨2, na, nc, 0, ⟨ps, bs⟩⟩ = wr at *
                    rw [hw] at hr
                    by_cases hwr : wr = 0
                    · have dw : (wr != 0) = false := by simp [hwr]
                      rw [if_neg (by simp [hwr])] at hr
                      subst hr
                      simp only [sayA]
                      simp (disch := omega) only [go_sem, hD, hG', g5, dw, wyLo, strRow, z0, z1, n0, n1, n2, List.getD_nil, g00, g20, unbox]
                      (repeat (with_reducible refine And.intro (by first | omega | decide | (simp; done) | (simp only [List.length_append, List.length_cons, List.length_nil, List.length_map]; omega)) ?_))
                      refine endW [] [] (by simp) rfl rfl rfl ?_ ?_ <;> simp only [go_sem]
                    · have dw : (wr != 0) = true := by simp [hwr]
                      rw [if_pos (by simpa using hwr)] at hr
                      subst hr
                      simp only [sayA, lsay0, note0, List.map_nil]
                      simp (disch := omega) only [go_sem, hD, hG', g5, dw, wyLo, strRow, z0, z1, n0, n1, n2, List.getD_nil, g00, g20, unbox]
                      (repeat (with_reducible refine And.intro (by first | omega | decide | (simp; done) | (simp only [List.length_append, List.length_cons, List.length_nil, List.length_map]; omega)) ?_))
                      refine endW [] [] (by simp) rfl rfl rfl ?_ ?_ <;> simp only [go_sem]
        · have e2 : (((t.length + 1 : Nat) : Int) == 2) = false := by rw [beq_eq_false_iff_ne]; omega
          have hw : wsayB okW (a :: t) ⟨ps, bs⟩ = (lsay0, 2) := by
            match t, h2 with
            | [], _ => simp [wsayB]
            | _ :: _ :: _, _ => simp [wsayB]
            | [_], h => exact absurd rfl h
          simp (disch := omega) only [go_sem, hD, hG', g1, de, d0, e2, wyLo, strRow, z0, z1, n0, n1, n2, List.getD_nil, g00, g20, unbox]
          (repeat (with_reducible refine And.intro (by first | omega | decide | (simp; done) | (simp only [List.length_append, List.length_cons, List.length_nil, List.length_map]; omega)) ?_))
          refine RegT.mk [] ?_
          simp (disch := omega) only [go_sem, hD, hG', wyLo, strRow, z0, z1, n0, n1, n2, List.getD_nil, g00, g20, d0, e2, unbox]
          (repeat (with_reducible refine And.intro (by first | omega | decide | (simp; done) | (simp only [List.length_append, List.length_cons, List.length_nil, List.length_map]; omega)) ?_))
          refine Tr.loop (ι := Nat) (fun i => i ≤ 2) (fun i => { nt := 117, tm := [(2, .ptr 2 0), (3, .int .i64 0), (4, .int .i64 0), (6, .sl 1 ((strRow a :: t.map strRow))), (7, .ptr 7 0), (8, .int .i64 all), (10, .ptr 10 0), (11, .os 46), (12, .psl 49 2), (13, .ptr 13 0), (14, .bool (false)), (71, .int .i64 2), (72, .int .i64 (i))], bl := [(2, some (.cells [.int .i64 0, .int .i64 0, .int .i64 0, .int .i64 0, .nils, .nils])), (7, some (.cells [.sl 4 (ps.map propRow), .sl 1 (bs.map byteRow)])), (10, some (.cells [.int .i64 2, .int .i64 (0), .int .i64 (0), .int .i64 0, .sl 4 (ps.map propRow), .sl 1 (bs.map byteRow)])), (13, some (.cells [.int .i64 (0)])), (46, some (.rows 9 1 [[.str [116, 97, 103, 58, 32]], [.str [116, 114, 105, 101, 115, 58, 32]]])), (49, some (.cells [.ptr 10 1, .ptr 10 2]))] }) (fun i => 2 - i) 0 ⟨Nat.zero_le _, wk_of hD [(2, 2), (7, 7), (10, 10), (13, 13), (46, 46), (49, 49)] rfl rfl (by simp only [go_sem]; try simp [strRow]) (by simp only [go_sem]; try simp [strRow])⟩ ?_
          intro i hi
          refine evC_sound hX wyLo _ _ _ ?_
          simp (disch := omega) only [go_sem, hD, hG', wyLo, strRow, z0, z1, n0, n1, n2, List.getD_nil, g00, g20, unbox]
          (repeat (with_reducible refine And.intro (by first | omega | decide | (simp; done) | (simp only [List.length_append, List.length_cons, List.length_nil, List.length_map]; omega)) ?_))
          refine condK_split (fun h => ?_) (fun h => ?_)
          · rw [decide_eq_true_eq] at h
            simp (disch := omega) only [go_sem, hD, hG', wyLo, strRow, z0, z1, n0, n1, n2, List.getD_nil, g00, g20, unbox]
            (repeat (with_reducible refine And.intro (by first | omega | decide | (simp; done) | (simp only [List.length_append, List.length_cons, List.length_nil, List.length_map]; omega)) ?_))
            refine ⟨i + 1, ⟨by omega, by omega⟩, wk_of hD [(2, 2), (7, 7), (10, 10), (13, 13), (46, 46), (49, 49)] rfl rfl ?_ ?_⟩ <;> simp only [go_sem]
            all_goals (try simp [strRow])
          · skip
            rw [hw, if_pos (by simp)] at hr
            subst hr
            simp only [sayA, lsay0, note0, List.map_nil]
            try (simp (disch := omega) only [go_sem, hD, hG', wyLo, strRow, z0, z1, n0, n1, n2, List.getD_nil, g00, g20, unbox])
            (repeat (with_reducible refine And.intro (by first | omega | decide | (simp; done) | (simp only [List.length_append, List.length_cons, List.length_nil, List.length_map]; omega)) ?_))
            refine endW [] [] (by simp) rfl rfl rfl ?_ ?_ <;> simp only [go_sem]
    have dk : (f == [72, 84, 84, 80, 47, 49, 46, 49, 32, 50, 48, 48, 32, 79, 75]) = false := by rw [beq_eq_false_iff_ne]; exact hok
    by_cases hno : f = noneW
    · subst hno
      simp only [noneW] at g1 dk
      cases hs with
      | nil =>
        have hw : wsayB noneW [] ⟨ps, bs⟩ = (⟨3, 0, 0, 0, ⟨ps, bs⟩⟩, wrongSayS ⟨3, 0, 0, 0, ⟨ps, bs⟩⟩) := by simp [wsayB, noneW, okW]
        simp (disch := omega) only [go_sem, hD, hG', g1, de, wyLo, strRow, z0, z1, n0, n1, n2, List.getD_nil, g00, g20, dk, unbox]
        (repeat (with_reducible refine And.intro (by first | omega | decide | (simp; done) | (simp only [List.length_append, List.length_cons, List.length_nil, List.length_map]; omega)) ?_))
        refine RegT.mk [(2, true)] ?_
        simp (disch := omega) only [go_sem, hD, hG', wyLo, strRow, z0, z1, n0, n1, n2, List.getD_nil, g00, g20, dk, unbox]
        (repeat (with_reducible refine And.intro (by first | omega | decide | (simp; done) | (simp only [List.length_append, List.length_cons, List.length_nil, List.length_map]; omega)) ?_))
        refine Tr.loop (ι := Unit) (fun _ => True) (fun _ => { nt := 117, tm := [(2, .ptr 2 0), (3, .int .i64 0), (4, .int .i64 0), (6, .sl 1 ([])), (7, .ptr 7 0), (8, .int .i64 all), (10, .ptr 10 0), (11, .os 35), (12, .os 36), (13, .ptr 13 0), (14, .bool (true)), (71, .int .i64 0), (72, .int .i64 (0))], bl := [(2, some (.cells [.int .i64 0, .int .i64 0, .int .i64 0, .int .i64 0, .nils, .nils])), (7, some (.cells [.sl 4 (ps.map propRow), .sl 1 (bs.map byteRow)])), (10, some (.cells [.int .i64 3, .int .i64 (0), .int .i64 (0), .int .i64 0, .sl 4 (ps.map propRow), .sl 1 (bs.map byteRow)])), (13, some (.cells [.int .i64 (0)])), (35, some (.rows 9 1 [])), (36, some (.rows 111 1 []))] }) (fun _ => 0) () ⟨trivial, wk_of hD [(2, 2), (7, 7), (10, 10), (13, 13), (35, 35), (36, 36)] rfl rfl (by simp only [go_sem]; try simp [strRow]) (by simp only [go_sem]; try simp [strRow])⟩ ?_
        rintro ⟨⟩ _
        refine evC_sound hX wyLo _ _ _ ?_
        simp (disch := omega) only [go_sem, hD, hG', wyLo, strRow, z0, z1, n0, n1, n2, List.getD_nil, g00, g20, dk, unbox]
        (repeat (with_reducible refine And.intro (by first | omega | decide | (simp; done) | (simp only [List.length_append, List.length_cons, List.length_nil, List.length_map]; omega)) ?_))
        have g5 := g5 ⟨3, 0, 0, 0, ⟨ps, bs⟩⟩ hf1
        simp only [sayA, wsE] at g5
        generalize wrongSayS ⟨3, 0, 0, 0, ⟨ps, bs⟩⟩ = wr at *
        rw [hw] at hr
        by_cases hwr : wr = 0
        · have dw : (wr != 0) = false := by simp [hwr]
          rw [if_neg (by simp [hwr])] at hr
          subst hr
          simp only [sayA]
          simp (disch := omega) only [go_sem, hD, hG', g5, dw, wyLo, strRow, z0, z1, n0, n1, n2, List.getD_nil, g00, g20, dk, unbox]
          (repeat (with_reducible refine And.intro (by first | omega | decide | (simp; done) | (simp only [List.length_append, List.length_cons, List.length_nil, List.length_map]; omega)) ?_))
          refine endW [] [] (by simp) rfl rfl rfl ?_ ?_ <;> simp only [go_sem]
        · have dw : (wr != 0) = true := by simp [hwr]
          rw [if_pos (by simpa using hwr)] at hr
          subst hr
          simp only [sayA, lsay0, note0, List.map_nil]
          simp (disch := omega) only [go_sem, hD, hG', g5, dw, wyLo, strRow, z0, z1, n0, n1, n2, List.getD_nil, g00, g20, dk, unbox]
          (repeat (with_reducible refine And.intro (by first | omega | decide | (simp; done) | (simp only [List.length_append, List.length_cons, List.length_nil, List.length_map]; omega)) ?_))
          refine endW [] [] (by simp) rfl rfl rfl ?_ ?_ <;> simp only [go_sem]
      | cons a t =>
        have hw : wsayB noneW (a :: t) ⟨ps, bs⟩ = (lsay0, 2) := by simp [wsayB, noneW, okW]
        have e0 : (((t.length + 1 : Nat) : Int) == 0) = false := by rw [beq_eq_false_iff_ne]; omega
        simp (disch := omega) only [go_sem, hD, hG', g1, de, wyLo, strRow, z0, z1, n0, n1, n2, List.getD_nil, g00, g20, dk, unbox]
        (repeat (with_reducible refine And.intro (by first | omega | decide | (simp; done) | (simp only [List.length_append, List.length_cons, List.length_nil, List.length_map]; omega)) ?_))
        refine RegT.mk [(2, true)] ?_
        simp (disch := omega) only [go_sem, hD, hG', wyLo, strRow, z0, z1, n0, n1, n2, List.getD_nil, g00, g20, dk, e0, unbox]
        (repeat (with_reducible refine And.intro (by first | omega | decide | (simp; done) | (simp only [List.length_append, List.length_cons, List.length_nil, List.length_map]; omega)) ?_))
        refine Tr.loop (ι := Unit) (fun _ => True) (fun _ => { nt := 117, tm := [(2, .ptr 2 0), (3, .int .i64 0), (4, .int .i64 0), (6, .sl 1 ((strRow a :: t.map strRow))), (7, .ptr 7 0), (8, .int .i64 all), (10, .ptr 10 0), (11, .os 35), (12, .os 36), (13, .ptr 13 0), (14, .bool (false)), (71, .int .i64 0), (72, .int .i64 (0))], bl := [(2, some (.cells [.int .i64 0, .int .i64 0, .int .i64 0, .int .i64 0, .nils, .nils])), (7, some (.cells [.sl 4 (ps.map propRow), .sl 1 (bs.map byteRow)])), (10, some (.cells [.int .i64 3, .int .i64 (0), .int .i64 (0), .int .i64 0, .sl 4 (ps.map propRow), .sl 1 (bs.map byteRow)])), (13, some (.cells [.int .i64 (0)])), (35, some (.rows 9 1 [])), (36, some (.rows 111 1 []))] }) (fun _ => 0) () ⟨trivial, wk_of hD [(2, 2), (7, 7), (10, 10), (13, 13), (35, 35), (36, 36)] rfl rfl (by simp only [go_sem]; try simp [strRow]) (by simp only [go_sem]; try simp [strRow])⟩ ?_
        rintro ⟨⟩ _
        refine evC_sound hX wyLo _ _ _ ?_
        simp (disch := omega) only [go_sem, hD, hG', wyLo, strRow, z0, z1, n0, n1, n2, List.getD_nil, g00, g20, dk, unbox]
        (repeat (with_reducible refine And.intro (by first | omega | decide | (simp; done) | (simp only [List.length_append, List.length_cons, List.length_nil, List.length_map]; omega)) ?_))
        rw [hw, if_pos (by simp)] at hr
        subst hr
        simp only [sayA, lsay0, note0, List.map_nil]
        try (simp (disch := omega) only [go_sem, hD, hG', wyLo, strRow, z0, z1, n0, n1, n2, List.getD_nil, g00, g20, dk, unbox])
        (repeat (with_reducible refine And.intro (by first | omega | decide | (simp; done) | (simp only [List.length_append, List.length_cons, List.length_nil, List.length_map]; omega)) ?_))
        refine endW [] [] (by simp) rfl rfl rfl ?_ ?_ <;> simp only [go_sem]
    have dn : (f == [72, 84, 84, 80, 47, 49, 46, 49, 32, 50, 48, 52, 32, 78, 111, 110, 101]) = false := by rw [beq_eq_false_iff_ne]; exact hno
    by_cases hwg : f = wrongW
    · subst hwg
      simp only [wrongW] at g1 dk dn
      by_cases h1 : hs.length = 1
      · match hs, h1, hr, hf4, g1 with
        | [a], _, hr, hf4, g1 =>
        have hal := hf4 a (by simp)
        have g3a := g3 a [101, 114, 114, 111, 114, 58, 32]
        have hta := trimPrefix_len a [101, 114, 114, 111, 114, 58, 32]
        have g4a := g4 (Lib.trimPrefix a [101, 114, 114, 111, 114, 58, 32]) (by omega)
        have hw : wsayB wrongW [a] ⟨ps, bs⟩ = if (headN errorH a).2 = true then (⟨4, 0, 0, (headN errorH a).1, ⟨ps, bs⟩⟩, wrongSayS ⟨4, 0, 0, (headN errorH a).1, ⟨ps, bs⟩⟩) else (lsay0, 2) := by simp [wsayB, wrongW, okW, noneW]
        have e1 : headN errorH a = ((numberS (Lib.trimPrefix a [101, 114, 114, 111, 114, 58, 32])).1, Lib.hasPrefix a [101, 114, 114, 111, 114, 58, 32] && (numberS (Lib.trimPrefix a [101, 114, 114, 111, 114, 58, 32])).2) := rfl
        generalize Lib.trimPrefix a [101, 114, 114, 111, 114, 58, 32] = ta at *
        generalize Lib.hasPrefix a [101, 114, 114, 111, 114, 58, 32] = ba at *
        generalize numberS ta = na at *
        obtain ⟨na, ka⟩ := na
        simp only at g4a e1
        rw [e1] at hw
        clear e1
        simp (disch := omega) only [go_sem, hD, hG', g1, de, wyLo, strRow, z0, z1, n0, n1, n2, List.getD_nil, g00, g20, dk, dn, unbox]
        (repeat (with_reducible refine And.intro (by first | omega | decide | (simp; done) | (simp only [List.length_append, List.length_cons, List.length_nil, List.length_map]; omega)) ?_))
        refine RegT.mk [(2, true)] ?_
        simp (disch := omega) only [go_sem, hD, hG', wyLo, strRow, z0, z1, n0, n1, n2, List.getD_nil, g00, g20, dk, dn, unbox]
        (repeat (with_reducible refine And.intro (by first | omega | decide | (simp; done) | (simp only [List.length_append, List.length_cons, List.length_nil, List.length_map]; omega)) ?_))
        cases ba
        · cases ka
          · skip
            refine Tr.loop (ι := Nat) (fun i => i ≤ 1) (fun i => { nt := 117, tm := [(2, .ptr 2 0), (3, .int .i64 0), (4, .int .i64 0), (6, .sl 1 ([strRow a])), (7, .ptr 7 0), (8, .int .i64 all), (10, .ptr 10 0), (11, .os 62), (12, .psl 63 1), (13, .ptr 13 0), (14, .bool (match i with | 0 => true | _ => false)), (71, .int .i64 1), (72, .int .i64 (i))], bl := [(2, some (.cells [.int .i64 0, .int .i64 0, .int .i64 0, .int .i64 0, .nils, .nils])), (7, some (.cells [.sl 4 (ps.map propRow), .sl 1 (bs.map byteRow)])), (10, some (.cells [.int .i64 4, .int .i64 (0), .int .i64 (0), .int .i64 0, .sl 4 (ps.map propRow), .sl 1 (bs.map byteRow)])), (13, some (.cells [.int .i64 (match i with | 0 => 0 | _ => na)])), (62, some (.rows 9 1 [[.str [101, 114, 114, 111, 114, 58, 32]]])), (63, some (.cells [.ptr 13 0]))] }) (fun i => 1 - i) 0 ⟨Nat.zero_le _, wk_of hD [(2, 2), (7, 7), (10, 10), (13, 13), (62, 62), (63, 63)] rfl rfl (by simp only [go_sem]; try simp [strRow]) (by simp only [go_sem]; try simp [strRow])⟩ ?_
            intro i hi
            refine evC_sound hX wyLo _ _ _ ?_
            have hi : i = 0 ∨ i = 1 := by omega
            rcases hi with rfl | rfl
            · simp only
              simp (disch := omega) only [go_sem, hD, hG', g3a, g4a, wyLo, strRow, z0, z1, n0, n1, n2, List.getD_nil, g00, g20, dk, dn, unbox]
              (repeat (with_reducible refine And.intro (by first | omega | decide | (simp; done) | (simp only [List.length_append, List.length_cons, List.length_nil, List.length_map]; omega)) ?_))
              refine RegT.mk [(6, true)] ?_
              simp (disch := omega) only [go_sem, hD, hG', g3a, g4a, wyLo, strRow, z0, z1, n0, n1, n2, List.getD_nil, g00, g20, dk, dn, unbox]
              (repeat (with_reducible refine And.intro (by first | omega | decide | (simp; done) | (simp only [List.length_append, List.length_cons, List.length_nil, List.length_map]; omega)) ?_))
              refine ⟨1, ⟨by omega, by omega⟩, wk_of hD [(2, 2), (7, 7), (10, 10), (13, 13), (62, 62), (63, 63)] rfl rfl ?_ ?_⟩ <;> simp only [go_sem]
              all_goals (try simp [strRow])
            · simp only
              rw [if_neg (by simp)] at hw
              rw [hw, if_pos (by simp)] at hr
              subst hr
              simp only [sayA, lsay0, note0, List.map_nil]
              try (simp (disch := omega) only [go_sem, hD, hG', wyLo, strRow, z0, z1, n0, n1, n2, List.getD_nil, g00, g20, dk, dn, unbox])
              (repeat (with_reducible refine And.intro (by first | omega | decide | (simp; done) | (simp only [List.length_append, List.length_cons, List.length_nil, List.length_map]; omega)) ?_))
              refine endW [] [] (by simp) rfl rfl rfl ?_ ?_ <;> simp only [go_sem]
          · skip
            refine Tr.loop (ι := Nat) (fun i => i ≤ 1) (fun i => { nt := 117, tm := [(2, .ptr 2 0), (3, .int .i64 0), (4, .int .i64 0), (6, .sl 1 ([strRow a])), (7, .ptr 7 0), (8, .int .i64 all), (10, .ptr 10 0), (11, .os 62), (12, .psl 63 1), (13, .ptr 13 0), (14, .bool (match i with | 0 => true | _ => false)), (71, .int .i64 1), (72, .int .i64 (i))], bl := [(2, some (.cells [.int .i64 0, .int .i64 0, .int .i64 0, .int .i64 0, .nils, .nils])), (7, some (.cells [.sl 4 (ps.map propRow), .sl 1 (bs.map byteRow)])), (10, some (.cells [.int .i64 4, .int .i64 (0), .int .i64 (0), .int .i64 0, .sl 4 (ps.map propRow), .sl 1 (bs.map byteRow)])), (13, some (.cells [.int .i64 (match i with | 0 => 0 | _ => na)])), (62, some (.rows 9 1 [[.str [101, 114, 114, 111, 114, 58, 32]]])), (63, some (.cells [.ptr 13 0]))] }) (fun i => 1 - i) 0 ⟨Nat.zero_le _, wk_of hD [(2, 2), (7, 7), (10, 10), (13, 13), (62, 62), (63, 63)] rfl rfl (by simp only [go_sem]; try simp [strRow]) (by simp only [go_sem]; try simp [strRow])⟩ ?_
            intro i hi
            refine evC_sound hX wyLo _ _ _ ?_
            have hi : i = 0 ∨ i = 1 := by omega
            rcases hi with rfl | rfl
            · simp only
              simp (disch := omega) only [go_sem, hD, hG', g3a, g4a, wyLo, strRow, z0, z1, n0, n1, n2, List.getD_nil, g00, g20, dk, dn, unbox]
              (repeat (with_reducible refine And.intro (by first | omega | decide | (simp; done) | (simp only [List.length_append, List.length_cons, List.length_nil, List.length_map]; omega)) ?_))
              refine RegT.mk [(6, true)] ?_
              simp (disch := omega) only [go_sem, hD, hG', g3a, g4a, wyLo, strRow, z0, z1, n0, n1, n2, List.getD_nil, g00, g20, dk, dn, unbox]
              (repeat (with_reducible refine And.intro (by first | omega | decide | (simp; done) | (simp only [List.length_append, List.length_cons, List.length_nil, List.length_map]; omega)) ?_))
              refine ⟨1, ⟨by omega, by omega⟩, wk_of hD [(2, 2), (7, 7), (10, 10), (13, 13), (62, 62), (63, 63)] rfl rfl ?_ ?_⟩ <;> simp only [go_sem]
              all_goals (try simp [strRow])
            · simp only
              rw [if_neg (by simp)] at hw
              rw [hw, if_pos (by simp)] at hr
              subst hr
              simp only [sayA, lsay0, note0, List.map_nil]
              try (simp (disch := omega) only [go_sem, hD, hG', wyLo, strRow, z0, z1, n0, n1, n2, List.getD_nil, g00, g20, dk, dn, unbox])
              (repeat (with_reducible refine And.intro (by first | omega | decide | (simp; done) | (simp only [List.length_append, List.length_cons, List.length_nil, List.length_map]; omega)) ?_))
              refine endW [] [] (by simp) rfl rfl rfl ?_ ?_ <;> simp only [go_sem]
        · cases ka
          · skip
            refine Tr.loop (ι := Nat) (fun i => i ≤ 1) (fun i => { nt := 117, tm := [(2, .ptr 2 0), (3, .int .i64 0), (4, .int .i64 0), (6, .sl 1 ([strRow a])), (7, .ptr 7 0), (8, .int .i64 all), (10, .ptr 10 0), (11, .os 62), (12, .psl 63 1), (13, .ptr 13 0), (14, .bool (match i with | 0 => true | _ => false)), (71, .int .i64 1), (72, .int .i64 (i))], bl := [(2, some (.cells [.int .i64 0, .int .i64 0, .int .i64 0, .int .i64 0, .nils, .nils])), (7, some (.cells [.sl 4 (ps.map propRow), .sl 1 (bs.map byteRow)])), (10, some (.cells [.int .i64 4, .int .i64 (0), .int .i64 (0), .int .i64 0, .sl 4 (ps.map propRow), .sl 1 (bs.map byteRow)])), (13, some (.cells [.int .i64 (match i with | 0 => 0 | _ => na)])), (62, some (.rows 9 1 [[.str [101, 114, 114, 111, 114, 58, 32]]])), (63, some (.cells [.ptr 13 0]))] }) (fun i => 1 - i) 0 ⟨Nat.zero_le _, wk_of hD [(2, 2), (7, 7), (10, 10), (13, 13), (62, 62), (63, 63)] rfl rfl (by simp only [go_sem]; try simp [strRow]) (by simp only [go_sem]; try simp [strRow])⟩ ?_
            intro i hi
            refine evC_sound hX wyLo _ _ _ ?_
            have hi : i = 0 ∨ i = 1 := by omega
            rcases hi with rfl | rfl
            · simp only
              simp (disch := omega) only [go_sem, hD, hG', g3a, g4a, wyLo, strRow, z0, z1, n0, n1, n2, List.getD_nil, g00, g20, dk, dn, unbox]
              (repeat (with_reducible refine And.intro (by first | omega | decide | (simp; done) | (simp only [List.length_append, List.length_cons, List.length_nil, List.length_map]; omega)) ?_))
              refine RegT.mk [] ?_
              simp (disch := omega) only [go_sem, hD, hG', g3a, g4a, wyLo, strRow, z0, z1, n0, n1, n2, List.getD_nil, g00, g20, dk, dn, unbox]
              (repeat (with_reducible refine And.intro (by first | omega | decide | (simp; done) | (simp only [List.length_append, List.length_cons, List.length_nil, List.length_map]; omega)) ?_))
              refine ⟨1, ⟨by omega, by omega⟩, wk_of hD [(2, 2), (7, 7), (10, 10), (13, 13), (62, 62), (63, 63)] rfl rfl ?_ ?_⟩ <;> simp only [go_sem]
              all_goals (try simp [strRow])
            · simp only
              rw [if_neg (by simp)] at hw
              rw [hw, if_pos (by simp)] at hr
              subst hr
              simp only [sayA, lsay0, note0, List.map_nil]
              try (simp (disch := omega) only [go_sem, hD, hG', wyLo, strRow, z0, z1, n0, n1, n2, List.getD_nil, g00, g20, dk, dn, unbox])
              (repeat (with_reducible refine And.intro (by first | omega | decide | (simp; done) | (simp only [List.length_append, List.length_cons, List.length_nil, List.length_map]; omega)) ?_))
              refine endW [] [] (by simp) rfl rfl rfl ?_ ?_ <;> simp only [go_sem]
          · skip
            refine Tr.loop (ι := Nat) (fun i => i ≤ 1) (fun i => { nt := 117, tm := [(2, .ptr 2 0), (3, .int .i64 0), (4, .int .i64 0), (6, .sl 1 ([strRow a])), (7, .ptr 7 0), (8, .int .i64 all), (10, .ptr 10 0), (11, .os 62), (12, .psl 63 1), (13, .ptr 13 0), (14, .bool (match i with | 0 => true | _ => true)), (71, .int .i64 1), (72, .int .i64 (i))], bl := [(2, some (.cells [.int .i64 0, .int .i64 0, .int .i64 0, .int .i64 0, .nils, .nils])), (7, some (.cells [.sl 4 (ps.map propRow), .sl 1 (bs.map byteRow)])), (10, some (.cells [.int .i64 4, .int .i64 (0), .int .i64 (0), .int .i64 0, .sl 4 (ps.map propRow), .sl 1 (bs.map byteRow)])), (13, some (.cells [.int .i64 (match i with | 0 => 0 | _ => na)])), (62, some (.rows 9 1 [[.str [101, 114, 114, 111, 114, 58, 32]]])), (63, some (.cells [.ptr 13 0]))] }) (fun i => 1 - i) 0 ⟨Nat.zero_le _, wk_of hD [(2, 2), (7, 7), (10, 10), (13, 13), (62, 62), (63, 63)] rfl rfl (by simp only [go_sem]; try simp [strRow]) (by simp only [go_sem]; try simp [strRow])⟩ ?_
            intro i hi
            refine evC_sound hX wyLo _ _ _ ?_
            have hi : i = 0 ∨ i = 1 := by omega
            rcases hi with rfl | rfl
            · simp only
              simp (disch := omega) only [go_sem, hD, hG', g3a, g4a, wyLo, strRow, z0, z1, n0, n1, n2, List.getD_nil, g00, g20, dk, dn, unbox]
              (repeat (with_reducible refine And.intro (by first | omega | decide | (simp; done) | (simp only [List.length_append, List.length_cons, List.length_nil, List.length_map]; omega)) ?_))
              refine RegT.mk [] ?_
              simp (disch := omega) only [go_sem, hD, hG', g3a, g4a, wyLo, strRow, z0, z1, n0, n1, n2, List.getD_nil, g00, g20, dk, dn, unbox]
              (repeat (with_reducible refine And.intro (by first | omega | decide | (simp; done) | (simp only [List.length_append, List.length_cons, List.length_nil, List.length_map]; omega)) ?_))
              refine ⟨1, ⟨by omega, by omega⟩, wk_of hD [(2, 2), (7, 7), (10, 10), (13, 13), (62, 62), (63, 63)] rfl rfl ?_ ?_⟩ <;> simp only [go_sem]
              all_goals (try simp [strRow])
            · simp only
              rw [if_pos (by simp)] at hw
              have g5 := g5 ⟨4, 0, 0, na, ⟨ps, bs⟩⟩ hf1
              simp only [sayA, wsE] at g5
              generalize wrongSayS ⟨4, 0, 0, na, ⟨ps, bs⟩⟩ = wr at *
              rw [hw] at hr
              by_cases hwr : wr = 0
              · have dw : (wr != 0) = false := by simp [hwr]
                rw [if_neg (by simp [hwr])] at hr
                subst hr
                simp only [sayA]
                simp (disch := omega) only [go_sem, hD, hG', g5, dw, wyLo, strRow, z0, z1, n0, n1, n2, List.getD_nil, g00, g20, dk, dn, unbox]
                (repeat (with_reducible refine And.intro (by first | omega | decide | (simp; done) | (simp only [List.length_append, List.length_cons, List.length_nil, List.length_map]; omega)) ?_))
                refine endW [] [] (by simp) rfl rfl rfl ?_ ?_ <;> simp only [go_sem]
              · have dw : (wr != 0) = true := by simp [hwr]
                rw [if_pos (by simpa using hwr)] at hr
                subst hr
                simp only [sayA, lsay0, note0, List.map_nil]
                simp (disch := omega) only [go_sem, hD, hG', g5, dw, wyLo, strRow, z0, z1, n0, n1, n2, List.getD_nil, g00, g20, dk, dn, unbox]
                (repeat (with_reducible refine And.intro (by first | omega | decide | (simp; done) | (simp only [List.length_append, List.length_cons, List.length_nil, List.length_map]; omega)) ?_))
                refine endW [] [] (by simp) rfl rfl rfl ?_ ?_ <;> simp only [go_sem]
      · have e1 : (((hs.length : Nat) : Int) == 1) = false := by rw [beq_eq_false_iff_ne]; omega
        have hw : wsayB wrongW hs ⟨ps, bs⟩ = (lsay0, 2) := by
          match hs, h1 with
          | [], _ => simp [wsayB, wrongW, okW, noneW]
          | _ :: _ :: _, _ => simp [wsayB, wrongW, okW, noneW]
          | [_], h => exact absurd rfl h
        simp (disch := omega) only [go_sem, hD, hG', g1, de, e1, wyLo, strRow, z0, z1, n0, n1, n2, List.getD_nil, g00, g20, dk, dn, unbox]
        (repeat (with_reducible refine And.intro (by first | omega | decide | (simp; done) | (simp only [List.length_append, List.length_cons, List.length_nil, List.length_map]; omega)) ?_))
        refine RegT.mk [(2, true)] ?_
        simp (disch := omega) only [go_sem, hD, hG', wyLo, strRow, z0, z1, n0, n1, n2, List.getD_nil, g00, g20, dk, dn, e1, unbox]
        (repeat (with_reducible refine And.intro (by first | omega | decide | (simp; done) | (simp only [List.length_append, List.length_cons, List.length_nil, List.length_map]; omega)) ?_))
        refine Tr.loop (ι := Nat) (fun i => i ≤ 1) (fun i => { nt := 117, tm := [(2, .ptr 2 0), (3, .int .i64 0), (4, .int .i64 0), (6, .sl 1 (hs.map strRow)), (7, .ptr 7 0), (8, .int .i64 all), (10, .ptr 10 0), (11, .os 62), (12, .psl 63 1), (13, .ptr 13 0), (14, .bool (false)), (71, .int .i64 1), (72, .int .i64 (i))], bl := [(2, some (.cells [.int .i64 0, .int .i64 0, .int .i64 0, .int .i64 0, .nils, .nils])), (7, some (.cells [.sl 4 (ps.map propRow), .sl 1 (bs.map byteRow)])), (10, some (.cells [.int .i64 4, .int .i64 (0), .int .i64 (0), .int .i64 0, .sl 4 (ps.map propRow), .sl 1 (bs.map byteRow)])), (13, some (.cells [.int .i64 (0)])), (62, some (.rows 9 1 [[.str [101, 114, 114, 111, 114, 58, 32]]])), (63, some (.cells [.ptr 13 0]))] }) (fun i => 1 - i) 0 ⟨Nat.zero_le _, wk_of hD [(2, 2), (7, 7), (10, 10), (13, 13), (62, 62), (63, 63)] rfl rfl (by simp only [go_sem]; try simp [strRow]) (by simp only [go_sem]; try simp [strRow])⟩ ?_
        intro i hi
        refine evC_sound hX wyLo _ _ _ ?_
        simp (disch := omega) only [go_sem, hD, hG', wyLo, strRow, z0, z1, n0, n1, n2, List.getD_nil, g00, g20, dk, dn, unbox]
        (repeat (with_reducible refine And.intro (by first | omega | decide | (simp; done) | (simp only [List.length_append, List.length_cons, List.length_nil, List.length_map]; omega)) ?_))
        refine condK_split (fun h => ?_) (fun h => ?_)
        · rw [decide_eq_true_eq] at h
          simp (disch := omega) only [go_sem, hD, hG', wyLo, strRow, z0, z1, n0, n1, n2, List.getD_nil, g00, g20, dk, dn, unbox]
          (repeat (with_reducible refine And.intro (by first | omega | decide | (simp; done) | (simp only [List.length_append, List.length_cons, List.length_nil, List.length_map]; omega)) ?_))
          refine ⟨i + 1, ⟨by omega, by omega⟩, wk_of hD [(2, 2), (7, 7), (10, 10), (13, 13), (62, 62), (63, 63)] rfl rfl ?_ ?_⟩ <;> simp only [go_sem]
          all_goals (try simp [strRow])
        · skip
          rw [hw, if_pos (by simp)] at hr
          subst hr
          simp only [sayA, lsay0, note0, List.map_nil]
          try (simp (disch := omega) only [go_sem, hD, hG', wyLo, strRow, z0, z1, n0, n1, n2, List.getD_nil, g00, g20, dk, dn, unbox])
          (repeat (with_reducible refine And.intro (by first | omega | decide | (simp; done) | (simp only [List.length_append, List.length_cons, List.length_nil, List.length_map]; omega)) ?_))
          refine endW [] [] (by simp) rfl rfl rfl ?_ ?_ <;> simp only [go_sem]
    have dg : (f == [72, 84, 84, 80, 47, 49, 46, 49, 32, 52, 48, 48, 32, 87, 114, 111, 110, 103]) = false := by rw [beq_eq_false_iff_ne]; exact hwg
    have hw : wsayB f hs ⟨ps, bs⟩ = (lsay0, 1) := by simp [wsayB, hok, hno, hwg]
    rw [hw, if_pos (by simp)] at hr
    subst hr
    simp only [sayA, lsay0, note0, List.map_nil]
    simp (disch := omega) only [go_sem, hD, hG', g1, de, wyLo, strRow, z0, z1, n0, n1, n2, List.getD_nil, g00, g20, unbox]
    (repeat (with_reducible refine And.intro (by first | omega | decide | (simp; done) | (simp only [List.length_append, List.length_cons, List.length_nil, List.length_map]; omega)) ?_))
    refine RegT.mk [(2, true)] ?_
    simp (disch := omega) only [go_sem, hD, hG', dk, dn, dg, wyLo, strRow, z0, z1, n0, n1, n2, List.getD_nil, g00, g20, unbox]
    (repeat (with_reducible refine And.intro (by first | omega | decide | (simp; done) | (simp only [List.length_append, List.length_cons, List.length_nil, List.length_map]; omega)) ?_))
    refine endW [] [] (by simp) rfl rfl rfl ?_ ?_ <;> simp only [go_sem]
  exact hcon _ rfl
def eWsay : Ent Tryz.prog D := ⟨36, Wd, fun b => [.sl 1 (b.map byteRow)], fun b => b.length ≤ 16777216, fun b => ⟨.tup [sayA (wsayR b).1, .int .i64 (wsayR b).2.1, .int .i64 (wsayR b).2.2], []⟩, fun x y _ _ h => by
  simp only [List.cons.injEq, AV.sl.injEq, true_and, and_true] at h
  rw [bytes_inj h], con_wsay⟩
end Go.Proofs.YtmlejhpeoiicpaaGreatDoor.Ab
