/-
  Texts of the proof, one behind the other: HaR HaT HaU HaV HaW HaX Dp Dq HaY HaZ.
  No condition but those that each theorem names.
-/
import Derived.Test.YthbejciebmkclaaGH
import Derived.Test.YthbejciebmkclaaGC
import Derived.Test.YthbejciebmkclaaGR
namespace Go.Proofs.Ythbejciebmkclaa.Ab
open Go Go.RowKit
set_option linter.unusedVariables false
set_option linter.unusedSimpArgs false

set_option maxRecDepth 100000 in
set_option maxHeartbeats 1000000 in
theorem con_refwith (h : LHall) (k : Nat) (q : LQueue) (hk : k < h.queues.length) (hl : h.queues.length ≤ 1048576) : Con Try.prog D 85 [hallA h, .int .i64 k, queueA q] ⟨hallA (setQ h k q), []⟩ := by
  have hok : GOk Try.prog D (tabG []) := tabG_ok _
  generalize tabG [] = G at *
  obtain ⟨l, next⟩ := h
  obtain ⟨q1, q2, q3⟩ := q
  simp only at hk hl
  refine conW (G := G) (rs := [(6, some 24)]) hok Try.func85 Try.results85 Try.ntmps85 (fun _ => {}) fun X hP hD hG' hX => ?_
  simp only [argS, num, hallA, queueA]
  obtain ⟨x, hx, hgx⟩ := queueGet' hk
  simp (disch := omega) only [go_sem, Nat.reduceLeDiff, reduceCtorEq, Nat.reduceAdd, Nat.reduceSub, Nat.reduceMul, Nat.reduceLT, Nat.reduceEqDiff, Int.reduceEq, Int.reduceLE, Int.reduceLT, Int.reducePow, Int.reduceMul, Int.reduceToNat, Int.reduceNeg, ↓reduceIte, hD, hG', wrap64, hgx, unbox, tmv, Option.some.injEq, exists_eq_left']
  refine ⟨by omega, by omega, hk, ?_⟩
  refine endW [10] [] (by simp) rfl rfl rfl ?_ ?_ <;> simp only [go_sem, Nat.reduceEqDiff]
  simp [hallA, setQ, queueRow, cov, covs, subs, names, namess]
def eRefwith : Ent Try.prog D := ⟨85, LHall × Nat × LQueue, fun x => [hallA x.1, .int .i64 x.2.1, queueA x.2.2], fun x => x.2.1 < x.1.queues.length ∧ x.1.queues.length ≤ 1048576, fun x => ⟨hallA (setQ x.1 x.2.1 x.2.2), []⟩, fun x y _ _ h => by
  obtain ⟨a, b, c⟩ := x
  obtain ⟨a', b', c'⟩ := y
  simp only [List.cons.injEq, AV.int.injEq, and_true, true_and] at h
  obtain ⟨h1, h2, h3⟩ := h
  rw [hallA_inj h1, queueA_inj h3, Int.ofNat_inj.1 h2], fun x h => con_refwith _ _ _ h.1 h.2⟩
set_option maxRecDepth 100000 in
set_option maxHeartbeats 1000000 in
theorem con_refmakeq (h : LHall) (nm : ByteArray) (n : Int) (hh : h.Fits) (hn : nm.size ≤ 1048576) : Con Try.prog D 32 [hallA h, .str nm.data.toList, .int .i64 n] ⟨hres (makeS h nm n), []⟩ := by
  have hok : GOk Try.prog D (tabG [eReffind, eRefkey]) := tabG_ok _
  have g1 := tabG_use (T := [eReffind, eRefkey]) (E := eReffind) (i := 0) rfl (by decide) ((h, nmL nm)) (hh.1)
  have g3 := tabG_use (T := [eReffind, eRefkey]) (E := eRefkey) (i := 1) rfl (by decide) (nm) (hn)
  generalize tabG [eReffind, eRefkey] = G at *
  dsimp only [eReffind] at g1
  dsimp only [eRefkey] at g3
  have hl := hh.1
  obtain ⟨l, next⟩ := h
  simp only [hallA, nmL] at g1 hl
  have hcon : ∀ r, r = makeS ⟨l, next⟩ nm n → Con Try.prog D 32 [hallA ⟨l, next⟩, .str nm.data.toList, .int .i64 n] ⟨.tup [hallA r.1, entriesA r.2.1, .int .i64 r.2.2], []⟩ := by
    intro r hr
    unfold makeS at hr
    simp only [nmL] at hr
    refine conW (G := G) (rs := [(6, some 24), (7, none), (8, none)]) hok Try.func32 Try.results32 Try.ntmps32 (fun _ => {}) fun X hP hD hG' hX => ?_
    simp only [argS, num, hallA]
    generalize hnm : nm.data.toList = ns at *
    simp (disch := omega) only [go_sem, Nat.reduceLeDiff, reduceCtorEq, Nat.reduceAdd, Nat.reduceSub, Nat.reduceMul, Nat.reduceLT, Nat.reduceEqDiff, Int.reduceEq, Int.reduceLE, Int.reduceLT, Int.reducePow, Int.reduceMul, Int.reduceToNat, Int.reduceNeg, ↓reduceIte, hD, hG', wrap64, g1, g3, unbox, tmv, Option.some.injEq, exists_eq_left']
    refine RegT.mk [] ?_
    simp (disch := omega) only [go_sem, Nat.reduceLeDiff, reduceCtorEq, Nat.reduceAdd, Nat.reduceSub, Nat.reduceMul, Nat.reduceLT, Nat.reduceEqDiff, Int.reduceEq, Int.reduceLE, Int.reduceLT, Int.reducePow, Int.reduceMul, Int.reduceToNat, Int.reduceNeg, ↓reduceIte, hD, hG', wrap64, g1, g3, unbox, tmv, Option.some.injEq, exists_eq_left']
    and_intros
    all_goals (try (first | (intro hk; refine ⟨hk, fun h2 => ?_⟩; first | (rw [hk, h2]; rfl) | (rw [hk, decide_eq_false h2]; rfl)) | (intro hk; rw [decide_eq_false hk]; rfl) | (intro hk; rw [hk]; rfl)))
    refine condK_split (fun h1 => ?_) (fun h1 => ?_)
    · have e : r = (hall0, [], 7) := by rw [hr, if_pos (by grind)]
      simp (disch := omega) only [go_sem, Nat.reduceLeDiff, reduceCtorEq, Nat.reduceAdd, Nat.reduceSub, Nat.reduceMul, Nat.reduceLT, Nat.reduceEqDiff, Int.reduceEq, Int.reduceLE, Int.reduceLT, Int.reducePow, Int.reduceMul, Int.reduceToNat, Int.reduceNeg, ↓reduceIte, hD, hG', wrap64, unbox, tmv, Option.some.injEq, exists_eq_left']
      refine endW [] [] (by simp) rfl rfl rfl ?_ ?_ <;> simp only [go_sem, Nat.reduceEqDiff]
      rw [e]
      simp [hallA, entriesA, hall0, cov, covs, subs, names, namess]
    have h1' : ¬ (keyS nm = false ∨ 0 ≤ findS l ns) := by grind
    rw [if_neg h1'] at hr
    simp (disch := omega) only [go_sem, Nat.reduceLeDiff, reduceCtorEq, Nat.reduceAdd, Nat.reduceSub, Nat.reduceMul, Nat.reduceLT, Nat.reduceEqDiff, Int.reduceEq, Int.reduceLE, Int.reduceLT, Int.reducePow, Int.reduceMul, Int.reduceToNat, Int.reduceNeg, ↓reduceIte, hD, hG', wrap64, unbox, tmv, Option.some.injEq, exists_eq_left']
    refine RegT.mk [] ?_
    simp (disch := omega) only [go_sem, Nat.reduceLeDiff, reduceCtorEq, Nat.reduceAdd, Nat.reduceSub, Nat.reduceMul, Nat.reduceLT, Nat.reduceEqDiff, Int.reduceEq, Int.reduceLE, Int.reduceLT, Int.reducePow, Int.reduceMul, Int.reduceToNat, Int.reduceNeg, ↓reduceIte, hD, hG', wrap64, unbox, tmv, Option.some.injEq, exists_eq_left']
    and_intros
    all_goals (try (first | (intro hk; refine ⟨hk, fun h2 => ?_⟩; first | (rw [hk, h2]; rfl) | (rw [hk, decide_eq_false h2]; rfl)) | (intro hk; rw [decide_eq_false hk]; rfl) | (intro hk; rw [hk]; rfl)))
    refine condK_split (fun h2 => ?_) (fun h2 => ?_)
    · have e : r = (hall0, [], 3) := by rw [hr, if_pos (by grind)]
      simp (disch := omega) only [go_sem, Nat.reduceLeDiff, reduceCtorEq, Nat.reduceAdd, Nat.reduceSub, Nat.reduceMul, Nat.reduceLT, Nat.reduceEqDiff, Int.reduceEq, Int.reduceLE, Int.reduceLT, Int.reducePow, Int.reduceMul, Int.reduceToNat, Int.reduceNeg, ↓reduceIte, hD, hG', wrap64, unbox, tmv, Option.some.injEq, exists_eq_left']
      refine endW [] [] (by simp) rfl rfl rfl ?_ ?_ <;> simp only [go_sem, Nat.reduceEqDiff]
      rw [e]
      simp [hallA, entriesA, hall0, cov, covs, subs, names, namess]
    have h2' : ¬ (n < 1 ∨ 8 < n) := by grind
    rw [if_neg h2'] at hr
    simp (disch := omega) only [go_sem, Nat.reduceLeDiff, reduceCtorEq, Nat.reduceAdd, Nat.reduceSub, Nat.reduceMul, Nat.reduceLT, Nat.reduceEqDiff, Int.reduceEq, Int.reduceLE, Int.reduceLT, Int.reducePow, Int.reduceMul, Int.reduceToNat, Int.reduceNeg, ↓reduceIte, hD, hG', wrap64, unbox, tmv, Option.some.injEq, exists_eq_left']
    refine condK_split (fun h3 => ?_) (fun h3 => ?_)
    · rw [decide_eq_true_eq] at h3
      have e : r = (hall0, [], 5) := by rw [hr, if_pos (by omega)]
      simp (disch := omega) only [go_sem, Nat.reduceLeDiff, reduceCtorEq, Nat.reduceAdd, Nat.reduceSub, Nat.reduceMul, Nat.reduceLT, Nat.reduceEqDiff, Int.reduceEq, Int.reduceLE, Int.reduceLT, Int.reducePow, Int.reduceMul, Int.reduceToNat, Int.reduceNeg, ↓reduceIte, hD, hG', wrap64, unbox, tmv, Option.some.injEq, exists_eq_left']
      refine endW [] [] (by simp) rfl rfl rfl ?_ ?_ <;> simp only [go_sem, Nat.reduceEqDiff]
      rw [e]
      simp [hallA, entriesA, hall0, cov, covs, subs, names, namess]
    rw [decide_eq_false_iff_not] at h3
    rw [if_neg (show ¬ 4 ≤ l.length by omega)] at hr
    simp (disch := omega) only [go_sem, Nat.reduceLeDiff, reduceCtorEq, Nat.reduceAdd, Nat.reduceSub, Nat.reduceMul, Nat.reduceLT, Nat.reduceEqDiff, Int.reduceEq, Int.reduceLE, Int.reduceLT, Int.reducePow, Int.reduceMul, Int.reduceToNat, Int.reduceNeg, ↓reduceIte, hD, hG', wrap64, unbox, tmv, Option.some.injEq, exists_eq_left']
    refine ⟨by omega, by omega, ?_⟩
    have w1 : rowsNz (l.map queueRow ++ [[.str ns, .int .i64 n, .nils]]) ((l ++ [(⟨nm, n, []⟩ : LQueue)]).map queueRow) := by
      rw [List.map_append]
      exact rowsNz_append (rowsNz_refl _) (by simp [rowsNz, rowNz, cellNz, queueRow, hnm])
    refine endK ((Wk.nz 39 rfl w1).trans (Wk.nz 45 (rs' := [entryRow ⟨1, nm, n, 0, note0⟩]) rfl (by simp [rowsNz, rowNz, cellNz, entryRow, note0, hnm]))) [39, 45] [] (by simp) rfl rfl rfl ?_ ?_ <;> simp only [go_sem, Nat.reduceEqDiff]
    rw [hr]
    simp [hallA, entriesA, cov, covs, subs, names, namess]
  exact hcon _ rfl
end Go.Proofs.Ythbejciebmkclaa.Ab
namespace Go.Proofs.Ythbejciebmkclaa.Ab
open Go Go.RowKit
set_option linter.unusedVariables false
set_option linter.unusedSimpArgs false

def refdropLo : Nat → Lo := fun id => match id with | 4 => {uo := [5, 11], kn := [14, 19], ex := [0], uo2 := [13], un2 := [2], ex2 := [2, 7]} | _ => {}
set_option maxRecDepth 100000 in
set_option maxHeartbeats 1000000 in
theorem con_refdropq (h : LHall) (nm : ByteArray) (hh : h.Fits) : Con Try.prog D 33 [hallA h, .str nm.data.toList] ⟨hres (dropS h nm), []⟩ := by
  have hok : GOk Try.prog D (tabG [eReffind]) := tabG_ok _
  have g1 := tabG_use (T := [eReffind]) (E := eReffind) (i := 0) rfl (by decide) ((h, nmL nm)) (hh.1)
  generalize tabG [eReffind] = G at *
  dsimp only [eReffind] at g1
  have hl := hh.1
  have hpl := @findS_range h.queues (nmL nm)
  obtain ⟨l, next⟩ := h
  simp only [hallA, nmL] at g1 hl hpl
  have hcon : ∀ ns, nm.data.toList = ns → ∀ r, r = dropS ⟨l, next⟩ nm → Con Try.prog D 33 [hallA ⟨l, next⟩, .str ns] ⟨.tup [hallA r.1, entriesA r.2.1, .int .i64 r.2.2], []⟩ := by
    intro ns hnm r hr
    unfold dropS at hr
    simp only [nmL, hnm] at hr g1 hpl
    generalize findS l ns = k at *
    refine conW (G := G) (rs := [(4, some 24), (5, none), (6, none)]) hok Try.func33 Try.results33 Try.ntmps33 (refdropLo) fun X hP hD hG' hX => ?_
    simp only [argS, num, hallA]
    simp (disch := omega) only [go_sem, Nat.reduceLeDiff, reduceCtorEq, Nat.reduceAdd, Nat.reduceSub, Nat.reduceMul, Nat.reduceLT, Nat.reduceEqDiff, Int.reduceEq, Int.reduceLE, Int.reduceLT, Int.reducePow, Int.reduceMul, Int.reduceToNat, Int.reduceNeg, ↓reduceIte, hD, hG', wrap64, g1, unbox, tmv, Option.some.injEq, exists_eq_left']
    refine condK_split (fun h => ?_) (fun h => ?_)
    · rw [decide_eq_true_eq] at h
      simp (disch := omega) only [go_sem, Nat.reduceLeDiff, reduceCtorEq, Nat.reduceAdd, Nat.reduceSub, Nat.reduceMul, Nat.reduceLT, Nat.reduceEqDiff, Int.reduceEq, Int.reduceLE, Int.reduceLT, Int.reducePow, Int.reduceMul, Int.reduceToNat, Int.reduceNeg, ↓reduceIte, hD, hG', wrap64, unbox, tmv, Option.some.injEq, exists_eq_left']
      refine endW [] [] (by simp) rfl rfl rfl ?_ ?_ <;> simp only [go_sem, Nat.reduceEqDiff]
      rw [hr, if_pos h]
      simp [hallA, entriesA, hall0, cov, covs, subs, names, namess]
    · rw [decide_eq_false_iff_not] at h
      obtain ⟨k, rfl⟩ := Int.eq_ofNat_of_zero_le (show 0 ≤ k by omega)
      have h1 : k < l.length := by omega
      have hk1 : ((k : Int) + 1).toNat = k + 1 := by omega
      rw [if_neg h, Int.toNat_natCast] at hr
      simp (disch := omega) only [go_sem, Nat.reduceLeDiff, reduceCtorEq, Nat.reduceAdd, Nat.reduceSub, Nat.reduceMul, Nat.reduceLT, Nat.reduceEqDiff, Int.reduceEq, Int.reduceLE, Int.reduceLT, Int.reducePow, Int.reduceMul, Int.reduceToNat, Int.reduceNeg, ↓reduceIte, hD, hG', wrap64, refdropLo, hk1, unbox, tmv, Option.some.injEq, exists_eq_left']
      refine ⟨by decide, by omega, by rw [List.length_take]; omega, by omega, by simp only [List.length_take, List.length_drop]; omega, ?_⟩
      refine endK (Wk.nz 30 (rs' := [entryRow ⟨2, nm, 0, 0, note0⟩]) rfl ⟨nz_gone _ _ _ hnm _, trivial⟩) [25, 30] [] (by simp) rfl rfl rfl ?_ ?_ <;> simp only [go_sem, Nat.reduceEqDiff]
      rw [hr]
      simp [hallA, entriesA, cov, covs, subs, names, namess, List.eraseIdx_eq_take_drop_succ]
  exact hcon _ rfl _ rfl
def rhputLo : Nat → Lo := fun id => match id with | 7 => {uo := [13], un := [11]} | 12 => {uo := [8], un := [6]} | _ => {}
set_option maxRecDepth 100000 in
set_option maxHeartbeats 1000000 in
theorem con_refhput (h : LHall) (nm : ByteArray) (n : LNote) (hh : h.Fits) (hn : n.Fits) (hx : -1000000000 ≤ h.next ∧ h.next ≤ 1000000000) : Con Try.prog D 34 [hallA h, .str nm.data.toList, noteA n] ⟨hres (hputS h nm n), []⟩ := by
  have hok : GOk Try.prog D (tabG [eReffind, eRefputq, eRefwrong, eRefwith]) := tabG_ok _
  have g1 := tabG_use (T := [eReffind, eRefputq, eRefwrong, eRefwith]) (E := eReffind) (i := 0) rfl (by decide) ((h, nmL nm)) (hh.1)
  have g2 := fun (k : Nat) (q : LQueue) (h2 : k < h.queues.length) => tabG_use (T := [eReffind, eRefputq, eRefwrong, eRefwith]) (E := eRefwith) (i := 3) rfl (by decide) ((h, k, q)) (⟨h2, hh.1⟩)
  have g3 := fun (q : LQueue) (h2 : q.Fits) => tabG_use (T := [eReffind, eRefputq, eRefwrong, eRefwith]) (E := eRefputq) (i := 1) rfl (by decide) ((q, h.next, n)) (⟨h2, hn⟩)
  have g4 := tabG_use (T := [eReffind, eRefputq, eRefwrong, eRefwith]) (E := eRefwrong) (i := 2) rfl (by decide) (n) (hn)
  generalize tabG [eReffind, eRefputq, eRefwrong, eRefwith] = G at *
  dsimp only [eReffind] at g1
  dsimp only [eRefwith] at g2
  dsimp only [eRefputq] at g3
  dsimp only [eRefwrong] at g4
  have hl := hh.1
  have hfq := fun i hi => queue_fits (i := i) hh hi
  have hpl := @findS_range h.queues (nmL nm)
  have hfn := @find_name h.queues nm
  obtain ⟨l, next⟩ := h
  obtain ⟨np, nb⟩ := n
  simp only [hallA, nmL, noteA, setQ] at g1 g2 g3 g4 hl hpl hfq hx hfn
  have hcon : ∀ ns, nm.data.toList = ns → ∀ r, r = hputS ⟨l, next⟩ nm ⟨np, nb⟩ → Con Try.prog D 34 [hallA ⟨l, next⟩, .str ns, .agg [.sl 4 (np.map propRow), .sl 1 (nb.map byteRow)]] ⟨.tup [hallA r.1, entriesA r.2.1, .int .i64 r.2.2], []⟩ := by
    intro ns hnm r hr
    unfold hputS at hr
    simp only [nmL, qAt, hnm] at hr g1 hpl hfn
    generalize wrongS ⟨np, nb⟩ = wn at *
    generalize findS l ns = k at *
    refine conW (G := G) (rs := [(6, some 24), (7, none), (8, none)]) hok Try.func34 Try.results34 Try.ntmps34 (rhputLo) fun X hP hD hG' hX => ?_
    simp only [argS, num, hallA]
    simp (disch := omega) only [go_sem, Nat.reduceLeDiff, reduceCtorEq, Nat.reduceAdd, Nat.reduceSub, Nat.reduceMul, Nat.reduceLT, Nat.reduceEqDiff, Int.reduceEq, Int.reduceLE, Int.reduceLT, Int.reducePow, Int.reduceMul, Int.reduceToNat, Int.reduceNeg, ↓reduceIte, hD, hG', wrap64, g1, g4, unbox, tmv, Option.some.injEq, exists_eq_left']
    refine condK_split (fun h => ?_) (fun h => ?_)
    · have e : wn ≠ 0 := by simpa using h
      simp (disch := omega) only [go_sem, Nat.reduceLeDiff, reduceCtorEq, Nat.reduceAdd, Nat.reduceSub, Nat.reduceMul, Nat.reduceLT, Nat.reduceEqDiff, Int.reduceEq, Int.reduceLE, Int.reduceLT, Int.reducePow, Int.reduceMul, Int.reduceToNat, Int.reduceNeg, ↓reduceIte, hD, hG', wrap64, unbox, tmv, Option.some.injEq, exists_eq_left']
      refine endW [] [] (by simp) rfl rfl rfl ?_ ?_ <;> simp only [go_sem, Nat.reduceEqDiff]
      rw [hr, if_pos e]
      simp [hallA, entriesA, hall0, cov, covs, subs, names, namess]
    have e0 : ¬ wn ≠ 0 := by simpa using h
    rw [if_neg e0] at hr
    simp (disch := omega) only [go_sem, Nat.reduceLeDiff, reduceCtorEq, Nat.reduceAdd, Nat.reduceSub, Nat.reduceMul, Nat.reduceLT, Nat.reduceEqDiff, Int.reduceEq, Int.reduceLE, Int.reduceLT, Int.reducePow, Int.reduceMul, Int.reduceToNat, Int.reduceNeg, ↓reduceIte, hD, hG', wrap64, g1, g4, unbox, tmv, Option.some.injEq, exists_eq_left']
    refine condK_split (fun h => ?_) (fun h => ?_)
    · rw [decide_eq_true_eq] at h
      simp (disch := omega) only [go_sem, Nat.reduceLeDiff, reduceCtorEq, Nat.reduceAdd, Nat.reduceSub, Nat.reduceMul, Nat.reduceLT, Nat.reduceEqDiff, Int.reduceEq, Int.reduceLE, Int.reduceLT, Int.reducePow, Int.reduceMul, Int.reduceToNat, Int.reduceNeg, ↓reduceIte, hD, hG', wrap64, unbox, tmv, Option.some.injEq, exists_eq_left']
      refine endW [] [] (by simp) rfl rfl rfl ?_ ?_ <;> simp only [go_sem, Nat.reduceEqDiff]
      rw [hr, if_pos h]
      simp [hallA, entriesA, hall0, cov, covs, subs, names, namess]
    rw [decide_eq_false_iff_not] at h
    obtain ⟨k, rfl⟩ := Int.eq_ofNat_of_zero_le (show 0 ≤ k by omega)
    have h1 : k < l.length := by omega
    rw [if_neg h, Int.toNat_natCast] at hr
    rw [Int.toNat_natCast] at hfn
    have g3 := g3 _ (hfq k h1).1
    have g2 := fun q => g2 k q h1
    obtain ⟨q, hq, hgx⟩ := queueGet' h1
    simp only [putAt, qAt, hq] at hr
    rw [hq] at g3 hfn
    obtain ⟨q1, q2, q3⟩ := q
    simp only at hgx hfn
    have hfn := hfn h
    generalize putS ⟨q1, q2, q3⟩ next ⟨np, nb⟩ = rt at *
    obtain ⟨⟨t1, t2, t3⟩, t4⟩ := rt
    have g2 := g2 ⟨t1, t2, t3⟩
    simp only [queueA] at g3 g2
    simp (disch := omega) only [go_sem, Nat.reduceLeDiff, reduceCtorEq, Nat.reduceAdd, Nat.reduceSub, Nat.reduceMul, Nat.reduceLT, Nat.reduceEqDiff, Int.reduceEq, Int.reduceLE, Int.reduceLT, Int.reducePow, Int.reduceMul, Int.reduceToNat, Int.reduceNeg, ↓reduceIte, hD, hG', wrap64, rhputLo, hgx, g3, unbox, tmv, Option.some.injEq, exists_eq_left']
    refine ⟨by decide, by omega, condK_split (fun h2 => ?_) (fun h2 => ?_)⟩
    · have e : t4 ≠ 0 := by simpa using h2
      simp (disch := omega) only [go_sem, Nat.reduceLeDiff, reduceCtorEq, Nat.reduceAdd, Nat.reduceSub, Nat.reduceMul, Nat.reduceLT, Nat.reduceEqDiff, Int.reduceEq, Int.reduceLE, Int.reduceLT, Int.reducePow, Int.reduceMul, Int.reduceToNat, Int.reduceNeg, ↓reduceIte, hD, hG', wrap64, unbox, tmv, Option.some.injEq, exists_eq_left']
      refine endW [] [] (by simp) rfl rfl rfl ?_ ?_ <;> simp only [go_sem, Nat.reduceEqDiff]
      rw [hr]
      simp [e, hallA, entriesA, hall0, cov, covs, subs, names, namess]
    · have e : t4 = 0 := by simpa using h2
      have hnx : next + 1 - 1 = next := by omega
      subst e
      simp (disch := omega) only [go_sem, Nat.reduceLeDiff, reduceCtorEq, Nat.reduceAdd, Nat.reduceSub, Nat.reduceMul, Nat.reduceLT, Nat.reduceEqDiff, Int.reduceEq, Int.reduceLE, Int.reduceLT, Int.reducePow, Int.reduceMul, Int.reduceToNat, Int.reduceNeg, ↓reduceIte, hD, hG', wrap64, rhputLo, g2, hnx, unbox, tmv, Option.some.injEq, exists_eq_left']
      refine ⟨by decide, ?_⟩
      refine endW [56] [] (by simp) rfl rfl rfl ?_ ?_ <;> simp only [go_sem, Nat.reduceEqDiff]
      rw [hr]
      simp [hallA, entriesA, entryRow, cov, covs, subs, names, namess, hfn, hnm]
  exact hcon _ rfl _ rfl
end Go.Proofs.Ythbejciebmkclaa.Ab
namespace Go.Proofs.Ythbejciebmkclaa.Ab
open Go Go.RowKit
set_option linter.unusedVariables false
set_option linter.unusedSimpArgs false

def rhtakeLo : Nat → Lo := fun id => match id with | 7 => {uo := [5, 6], un := [6, 7]} | _ => {}
set_option maxRecDepth 100000 in
set_option maxHeartbeats 1000000 in
theorem con_refhtake (h : LHall) (nm : ByteArray) (now : Int) (hh : h.Fits) (ho : ∀ q ∈ h.queues, q.Ok) (hnow : -1000000 ≤ now ∧ now ≤ 1000000) : Con Try.prog D 53 [hallA h, .str nm.data.toList, .int .i64 now] ⟨.tup [hallA (htakeS h nm now).1, itemA (htakeS h nm now).2.1, .int .i64 (htakeS h nm now).2.2], []⟩ := by
  have hok : GOk Try.prog D (tabG [eReffind, eReftakeq, eRefwith]) := tabG_ok _
  have g1 := tabG_use (T := [eReffind, eReftakeq, eRefwith]) (E := eReffind) (i := 0) rfl (by decide) ((h, nmL nm)) (hh.1)
  have g2 := fun (k : Nat) (q : LQueue) (h2 : k < h.queues.length) => tabG_use (T := [eReffind, eReftakeq, eRefwith]) (E := eRefwith) (i := 2) rfl (by decide) ((h, k, q)) (⟨h2, hh.1⟩)
  have g3 := fun (q : LQueue) (h : q.Ok) => tabG_use (T := [eReffind, eReftakeq, eRefwith]) (E := eReftakeq) (i := 1) rfl (by decide) ((q, now)) (⟨h, hnow⟩)
  generalize tabG [eReffind, eReftakeq, eRefwith] = G at *
  dsimp only [eReffind] at g1
  dsimp only [eRefwith] at g2
  dsimp only [eReftakeq] at g3
  have hl := hh.1
  have hpl := @findS_range h.queues (nmL nm)
  obtain ⟨l, next⟩ := h
  simp only [hallA, nmL, setQ] at g1 g2 hl hpl ho
  have hcon : ∀ ns, nm.data.toList = ns → ∀ r, r = htakeS ⟨l, next⟩ nm now → Con Try.prog D 53 [hallA ⟨l, next⟩, .str ns, .int .i64 now] ⟨.tup [hallA r.1, itemA r.2.1, .int .i64 r.2.2], []⟩ := by
    intro ns hnm r hr
    unfold htakeS at hr
    simp only [nmL, qAt, setQ, hnm] at hr g1 hpl
    generalize findS l ns = k at *
    refine conW (G := G) (rs := [(6, some 24), (7, some 65), (8, none)]) hok Try.func53 Try.results53 Try.ntmps53 (rhtakeLo) fun X hP hD hG' hX => ?_
    simp only [argS, num, hallA]
    simp (disch := omega) only [go_sem, Nat.reduceLeDiff, reduceCtorEq, Nat.reduceAdd, Nat.reduceSub, Nat.reduceMul, Nat.reduceLT, Nat.reduceEqDiff, Int.reduceEq, Int.reduceLE, Int.reduceLT, Int.reducePow, Int.reduceMul, Int.reduceToNat, Int.reduceNeg, ↓reduceIte, hD, hG', wrap64, g1, unbox, tmv, Option.some.injEq, exists_eq_left']
    refine condK_split (fun h => ?_) (fun h => ?_)
    · rw [decide_eq_true_eq] at h
      simp (disch := omega) only [go_sem, Nat.reduceLeDiff, reduceCtorEq, Nat.reduceAdd, Nat.reduceSub, Nat.reduceMul, Nat.reduceLT, Nat.reduceEqDiff, Int.reduceEq, Int.reduceLE, Int.reduceLT, Int.reducePow, Int.reduceMul, Int.reduceToNat, Int.reduceNeg, ↓reduceIte, hD, hG', wrap64, unbox, tmv, Option.some.injEq, exists_eq_left']
      refine endW [] [] (by simp) rfl rfl rfl ?_ ?_ <;> simp only [go_sem, Nat.reduceEqDiff]
      rw [hr, if_pos h]
      simp [hallA, itemA, itemRow, item0, note0, hall0, cov, covs, subs, names, namess]
    · rw [decide_eq_false_iff_not] at h
      obtain ⟨k, rfl⟩ := Int.eq_ofNat_of_zero_le (show 0 ≤ k by omega)
      have h1 : k < l.length := by omega
      rw [if_neg h, Int.toNat_natCast] at hr
      have g2 := fun q => g2 k q h1
      have g3 := g3 _ (ho _ (getD_mem (d := queue0) h1))
      obtain ⟨q, hq, hgx⟩ := queueGet' h1
      rw [hq] at hr g3
      obtain ⟨q1, q2, q3⟩ := q
      simp only at hgx
      generalize takeS ⟨q1, q2, q3⟩ now = rt at *
      obtain ⟨⟨t1, t2, t3⟩, ⟨t4, t5, t6, t7, t8, ⟨t9, t10⟩⟩, t11⟩ := rt
      have g2 := g2 ⟨t1, t2, t3⟩
      simp only [queueA, itemA, itemRow] at g3 g2
      simp (disch := omega) only [go_sem, Nat.reduceLeDiff, reduceCtorEq, Nat.reduceAdd, Nat.reduceSub, Nat.reduceMul, Nat.reduceLT, Nat.reduceEqDiff, Int.reduceEq, Int.reduceLE, Int.reduceLT, Int.reducePow, Int.reduceMul, Int.reduceToNat, Int.reduceNeg, ↓reduceIte, hD, hG', wrap64, hgx, g3, rhtakeLo, unbox, tmv, Option.some.injEq, exists_eq_left']
      refine ⟨by omega, condK_split (fun h2 => ?_) (fun h2 => ?_)⟩
      · have e : t11 ≠ 0 := by simpa using h2
        simp (disch := omega) only [go_sem, Nat.reduceLeDiff, reduceCtorEq, Nat.reduceAdd, Nat.reduceSub, Nat.reduceMul, Nat.reduceLT, Nat.reduceEqDiff, Int.reduceEq, Int.reduceLE, Int.reduceLT, Int.reducePow, Int.reduceMul, Int.reduceToNat, Int.reduceNeg, ↓reduceIte, hD, hG', wrap64, unbox, tmv, Option.some.injEq, exists_eq_left']
        refine endW [] [] (by simp) rfl rfl rfl ?_ ?_ <;> simp only [go_sem, Nat.reduceEqDiff]
        rw [hr, if_pos e]
        simp [hallA, itemA, itemRow, item0, note0, hall0, cov, covs, subs, names, namess]
      · have e : t11 = 0 := by simpa using h2
        simp (disch := omega) only [go_sem, Nat.reduceLeDiff, reduceCtorEq, Nat.reduceAdd, Nat.reduceSub, Nat.reduceMul, Nat.reduceLT, Nat.reduceEqDiff, Int.reduceEq, Int.reduceLE, Int.reduceLT, Int.reducePow, Int.reduceMul, Int.reduceToNat, Int.reduceNeg, ↓reduceIte, hD, hG', wrap64, g2, rhtakeLo, hgx, unbox, tmv, Option.some.injEq, exists_eq_left']
        refine ⟨by decide, ?_⟩
        refine endW [] [] (by simp) rfl rfl rfl ?_ ?_ <;> simp only [go_sem, Nat.reduceEqDiff]
        rw [hr, if_neg (by simpa using e)]
        simp [hallA, itemA, itemRow, queueRow, cov, covs, subs, names, namess]
  exact hcon _ rfl _ rfl
def rhdoneLo : Nat → Lo := fun id => match id with | 4 => {uo := [14], un := [8]} | 7 => {uo := [10], un := [4]} | _ => {}
set_option maxRecDepth 100000 in
set_option maxHeartbeats 1000000 in
theorem con_refhdone (h : LHall) (t : LTag) (hh : h.Fits) : Con Try.prog D 35 [hallA h, tagA t] ⟨hres (hdoneS h t), []⟩ := by
  have hok : GOk Try.prog D (tabG [eReffind, eRefdoneq, eRefwith]) := tabG_ok _
  have g1 := tabG_use (T := [eReffind, eRefdoneq, eRefwith]) (E := eReffind) (i := 0) rfl (by decide) ((h, nmL t.queue)) (hh.1)
  have g2 := fun (k : Nat) (q : LQueue) (h2 : k < h.queues.length) => tabG_use (T := [eReffind, eRefdoneq, eRefwith]) (E := eRefwith) (i := 2) rfl (by decide) ((h, k, q)) (⟨h2, hh.1⟩)
  have g3 := fun (q : LQueue) (h : q.Fits) => tabG_use (T := [eReffind, eRefdoneq, eRefwith]) (E := eRefdoneq) (i := 1) rfl (by decide) ((q, t.id, t.turn)) (h)
  generalize tabG [eReffind, eRefdoneq, eRefwith] = G at *
  dsimp only [eReffind] at g1
  dsimp only [eRefwith] at g2
  dsimp only [eRefdoneq] at g3
  have hl := hh.1
  have hfq := fun i hi => queue_fits (i := i) hh hi
  have hpl := @findS_range h.queues (nmL t.queue)
  obtain ⟨l, next⟩ := h
  obtain ⟨tn, tq, ti, tt⟩ := t
  simp only [hallA, nmL, setQ] at g1 g2 hl hpl hfq g3
  have hcon : ∀ ns, tq.data.toList = ns → ∀ r, r = hdoneS ⟨l, next⟩ ⟨tn, tq, ti, tt⟩ → Con Try.prog D 35 [hallA ⟨l, next⟩, .agg [.int .i64 tn, .str ns, .int .i64 ti, .int .i64 tt]] ⟨.tup [hallA r.1, entriesA r.2.1, .int .i64 r.2.2], []⟩ := by
    intro ns hnm r hr
    unfold hdoneS at hr
    simp only [nmL, qAt, setQ, hnm] at hr g1 hpl
    generalize findS l ns = k at *
    refine conW (G := G) (rs := [(4, some 24), (5, none), (6, none)]) hok Try.func35 Try.results35 Try.ntmps35 (rhdoneLo) fun X hP hD hG' hX => ?_
    simp only [argS, num, hallA]
    simp (disch := omega) only [go_sem, Nat.reduceLeDiff, reduceCtorEq, Nat.reduceAdd, Nat.reduceSub, Nat.reduceMul, Nat.reduceLT, Nat.reduceEqDiff, Int.reduceEq, Int.reduceLE, Int.reduceLT, Int.reducePow, Int.reduceMul, Int.reduceToNat, Int.reduceNeg, ↓reduceIte, hD, hG', wrap64, g1, unbox, tmv, Option.some.injEq, exists_eq_left']
    refine condK_split (fun h => ?_) (fun h => ?_)
    · rw [decide_eq_true_eq] at h
      simp (disch := omega) only [go_sem, Nat.reduceLeDiff, reduceCtorEq, Nat.reduceAdd, Nat.reduceSub, Nat.reduceMul, Nat.reduceLT, Nat.reduceEqDiff, Int.reduceEq, Int.reduceLE, Int.reduceLT, Int.reducePow, Int.reduceMul, Int.reduceToNat, Int.reduceNeg, ↓reduceIte, hD, hG', wrap64, unbox, tmv, Option.some.injEq, exists_eq_left']
      refine endW [] [] (by simp) rfl rfl rfl ?_ ?_ <;> simp only [go_sem, Nat.reduceEqDiff]
      rw [hr, if_pos h]
      simp [hallA, entriesA, hall0, cov, covs, subs, names, namess]
    · rw [decide_eq_false_iff_not] at h
      obtain ⟨k, rfl⟩ := Int.eq_ofNat_of_zero_le (show 0 ≤ k by omega)
      have h1 : k < l.length := by omega
      rw [if_neg h, Int.toNat_natCast] at hr
      have g2 := fun q => g2 k q h1
      have g3 := g3 _ (hfq k h1).1
      obtain ⟨q, hq, hgx⟩ := queueGet' h1
      rw [hq] at hr g3
      obtain ⟨q1, q2, q3⟩ := q
      simp only at hgx
      generalize doneS ⟨q1, q2, q3⟩ ti tt = rt at *
      obtain ⟨⟨t1, t2, t3⟩, t4⟩ := rt
      have g2 := g2 ⟨t1, t2, t3⟩
      simp only [queueA] at g3 g2
      simp (disch := omega) only [go_sem, Nat.reduceLeDiff, reduceCtorEq, Nat.reduceAdd, Nat.reduceSub, Nat.reduceMul, Nat.reduceLT, Nat.reduceEqDiff, Int.reduceEq, Int.reduceLE, Int.reduceLT, Int.reducePow, Int.reduceMul, Int.reduceToNat, Int.reduceNeg, ↓reduceIte, hD, hG', wrap64, hgx, g3, rhdoneLo, unbox, tmv, Option.some.injEq, exists_eq_left']
      refine ⟨by decide, by omega, condK_split (fun h2 => ?_) (fun h2 => ?_)⟩
      · have e : t4 ≠ 0 := by simpa using h2
        simp (disch := omega) only [go_sem, Nat.reduceLeDiff, reduceCtorEq, Nat.reduceAdd, Nat.reduceSub, Nat.reduceMul, Nat.reduceLT, Nat.reduceEqDiff, Int.reduceEq, Int.reduceLE, Int.reduceLT, Int.reducePow, Int.reduceMul, Int.reduceToNat, Int.reduceNeg, ↓reduceIte, hD, hG', wrap64, unbox, tmv, Option.some.injEq, exists_eq_left']
        refine endW [] [] (by simp) rfl rfl rfl ?_ ?_ <;> simp only [go_sem, Nat.reduceEqDiff]
        rw [hr, if_pos e]
        simp [hallA, entriesA, hall0, cov, covs, subs, names, namess]
      · have e : t4 = 0 := by simpa using h2
        simp (disch := omega) only [go_sem, Nat.reduceLeDiff, reduceCtorEq, Nat.reduceAdd, Nat.reduceSub, Nat.reduceMul, Nat.reduceLT, Nat.reduceEqDiff, Int.reduceEq, Int.reduceLE, Int.reduceLT, Int.reducePow, Int.reduceMul, Int.reduceToNat, Int.reduceNeg, ↓reduceIte, hD, hG', wrap64, g2, rhdoneLo, hgx, unbox, tmv, Option.some.injEq, exists_eq_left']
        refine ⟨by decide, ?_⟩
        refine endK (Wk.nz 43 (rs' := [entryRow ⟨4, tq, 0, ti, note0⟩]) rfl ⟨nz_gone _ _ _ hnm _, trivial⟩) [43] [] (by simp) rfl rfl rfl ?_ ?_ <;> simp only [go_sem, Nat.reduceEqDiff]
        rw [hr, if_neg (by simpa using e)]
        simp [hallA, entriesA, queueRow, cov, covs, subs, names, namess]
  exact hcon _ rfl _ rfl
end Go.Proofs.Ythbejciebmkclaa.Ab
namespace Go.Proofs.Ythbejciebmkclaa.Ab
open Go Go.RowKit
set_option linter.unusedVariables false
set_option linter.unusedSimpArgs false

theorem back_wrong {q : LQueue} {id turn : Int} (h : ∀ i ∈ q.items, wrongS i.note = 0) : wrongS (backS q id turn).2.1.note = 0 := by
  unfold backS
  split
  · rfl
  · rename_i hp
    obtain ⟨k, hk, e, _⟩ := placeS_found hp
    split
    · rfl
    · rw [e, Int.toNat_natCast]
      have := h _ (getD_mem (d := item0) hk)
      exact this
theorem set_fits {h : LHall} {k : Nat} {q : LQueue} (hh : h.Fits) (hq : q.Fits) (hn : q.name.size ≤ 1048576) : (setQ h k q).Fits := by
  refine ⟨by simpa [setQ] using hh.1, fun p hp => ?_⟩
  rcases List.mem_or_eq_of_mem_set hp with hp | hp
  · exact hh.2 p hp
  · rw [hp]; exact ⟨hq, hn⟩
/-- the document puts aside as the program does -/
theorem dead_ref {g : LHall} {tq : ByteArray} {n : LNote} (hk : ¬ findS g.queues (nmL tq) < 0) (hw : wrongS n = 0) :
    (tq = deadB → deadS g (findS g.queues (nmL tq)) n = (g, [])) ∧
    (tq ≠ deadB → (hputS g deadB n).2.2 = 0 → deadS g (findS g.queues (nmL tq)) n = ((hputS g deadB n).1, (hputS g deadB n).2.1)) ∧
    (tq ≠ deadB → (hputS g deadB n).2.2 ≠ 0 → deadS g (findS g.queues (nmL tq)) n = (g, [])) := by
  refine ⟨fun e => ?_, fun e => ?_, fun e => ?_⟩
  · subst e
    unfold deadS
    rw [if_neg (fun h => h.2 rfl)]
  all_goals
    unfold hputS
    rw [if_neg (by simp [hw] : ¬ wrongS n ≠ 0)]
    by_cases hd : findS g.queues (nmL deadB) < 0
    · rw [if_pos hd]
      unfold deadS
      rw [if_neg (fun h => by omega)]
      simp
    rw [if_neg hd]
    have hne : findS g.queues (nmL deadB) ≠ findS g.queues (nmL tq) := fun he => e (by rw [← find_name hk, ← find_name hd, he])
    have hdd : deadS g (findS g.queues (nmL tq)) n = ((putAt g (findS g.queues (nmL deadB)).toNat n).1, (putAt g (findS g.queues (nmL deadB)).toNat n).2.1) := by
      unfold deadS
      rw [if_pos ⟨by omega, hne⟩]
    rw [hdd]
    have hz : (putAt g (findS g.queues (nmL deadB)).toNat n).2.2 ≠ 0 → (putAt g (findS g.queues (nmL deadB)).toNat n).1 = g ∧ (putAt g (findS g.queues (nmL deadB)).toNat n).2.1 = [] := by
      unfold putAt
      split
      · intro _; exact ⟨rfl, rfl⟩
      · intro h; exact absurd rfl h
    by_cases hp : (putAt g (findS g.queues (nmL deadB)).toNat n).2.2 ≠ 0
    · rw [if_pos hp]
      intro h
      first
        | exact absurd h hp
        | rw [(hz hp).1, (hz hp).2]
    · rw [if_neg hp]
      intro h
      first
        | rfl
        | exact absurd h hp
theorem hput_len (h : LHall) (nm : ByteArray) (n : LNote) : (hputS h nm n).2.1.length ≤ 1 := by
  unfold hputS
  split
  · simp
  · split
    · simp
    · split
      · simp
      · exact put_len _ _ _
def eRefhput : Ent Try.prog D := ⟨34, LHall × ByteArray × LNote, fun x => [hallA x.1, .str x.2.1.data.toList, noteA x.2.2], fun x => x.1.Fits ∧ x.2.2.Fits ∧ -1000000000 ≤ x.1.next ∧ x.1.next ≤ 1000000000, fun x => ⟨hres (hputS x.1 x.2.1 x.2.2), []⟩, fun x y _ _ h => by
  obtain ⟨a, b, c⟩ := x
  obtain ⟨a', b', c'⟩ := y
  simp only [List.cons.injEq, AV.str.injEq, and_true] at h
  obtain ⟨h1, h2, h3⟩ := h
  rw [hallA_inj h1, bytes_ext h2, noteA_inj h3], fun x h => con_refhput _ _ _ h.1 h.2.1 h.2.2⟩
def rhbackLo : Nat → Lo := fun id => match id with | 4 => {uo := [17, 18], un := [8, 9]} | 15 => {uo := [3], kn := [54], ex := [1], uo2 := [4], un2 := [4]} | _ => {}
def HallNice (x : LHall) : Prop := x.Fits ∧ (∀ q ∈ x.queues, q.Ok ∧ ∀ i ∈ q.items, wrongS i.note = 0) ∧ -1000000000 ≤ x.next ∧ x.next ≤ 1000000000
set_option maxRecDepth 100000 in
set_option maxHeartbeats 1000000 in
theorem con_refhback (h : LHall) (t : LTag) (hx : HallNice h) : Con Try.prog D 36 [hallA h, tagA t] ⟨hres (hbackS h t), []⟩ := by
  have hok : GOk Try.prog D (tabG [eReffind, eRefbackq, eRefwith, eRefhput]) := tabG_ok _
  have g1 := tabG_use (T := [eReffind, eRefbackq, eRefwith, eRefhput]) (E := eReffind) (i := 0) rfl (by decide) ((h, nmL t.queue)) (hx.1.1)
  have g2 := fun (k : Nat) (q : LQueue) (h2 : k < h.queues.length) => tabG_use (T := [eReffind, eRefbackq, eRefwith, eRefhput]) (E := eRefwith) (i := 2) rfl (by decide) ((h, k, q)) (⟨h2, hx.1.1⟩)
  have g3 := fun (q : LQueue) (h : q.Ok) => tabG_use (T := [eReffind, eRefbackq, eRefwith, eRefhput]) (E := eRefbackq) (i := 1) rfl (by decide) ((q, t.id, t.turn)) (h)
  have g4 := fun (g : LHall) (n : LNote) (h : g.Fits ∧ n.Fits ∧ -1000000000 ≤ g.next ∧ g.next ≤ 1000000000) => tabG_use (T := [eReffind, eRefbackq, eRefwith, eRefhput]) (E := eRefhput) (i := 3) rfl (by decide) ((g, deadB, n)) (h)
  generalize tabG [eReffind, eRefbackq, eRefwith, eRefhput] = G at *
  dsimp only [eReffind] at g1
  dsimp only [eRefwith] at g2
  dsimp only [eRefbackq] at g3
  dsimp only [eRefhput] at g4
  obtain ⟨hh, ho, hx⟩ := hx
  have hl := hh.1
  have hfq := fun i hi => queue_fits (i := i) hh hi
  have hpl := @findS_range h.queues (nmL t.queue)
  have hsf := fun k q => @set_fits h k q hh
  obtain ⟨l, next⟩ := h
  obtain ⟨tn, tq, ti, tt⟩ := t
  simp only [hallA, nmL, setQ] at g1 g2 hl hpl hfq g3 ho hsf hx
  have hcon : ∀ ns, tq.data.toList = ns → ∀ r, r = hbackS ⟨l, next⟩ ⟨tn, tq, ti, tt⟩ → Con Try.prog D 36 [hallA ⟨l, next⟩, .agg [.int .i64 tn, .str ns, .int .i64 ti, .int .i64 tt]] ⟨.tup [hallA r.1, entriesA r.2.1, .int .i64 r.2.2], []⟩ := by
    intro ns hnm r hr
    have hdr := fun g n => @dead_ref g tq n
    unfold hbackS at hr
    simp only [nmL, qAt, setQ, hnm] at hr g1 hpl hdr
    generalize hfk : findS l ns = k at *
    refine conW (G := G) (rs := [(4, some 24), (5, none), (6, none)]) hok Try.func36 Try.results36 Try.ntmps36 (rhbackLo) fun X hP hD hG' hX => ?_
    simp only [argS, num, hallA]
    simp (disch := omega) only [go_sem, Nat.reduceLeDiff, reduceCtorEq, Nat.reduceAdd, Nat.reduceSub, Nat.reduceMul, Nat.reduceLT, Nat.reduceEqDiff, Int.reduceEq, Int.reduceLE, Int.reduceLT, Int.reducePow, Int.reduceMul, Int.reduceToNat, Int.reduceNeg, ↓reduceIte, hD, hG', wrap64, g1, unbox, tmv, Option.some.injEq, exists_eq_left']
    refine condK_split (fun h => ?_) (fun h => ?_)
    · rw [decide_eq_true_eq] at h
      simp (disch := omega) only [go_sem, Nat.reduceLeDiff, reduceCtorEq, Nat.reduceAdd, Nat.reduceSub, Nat.reduceMul, Nat.reduceLT, Nat.reduceEqDiff, Int.reduceEq, Int.reduceLE, Int.reduceLT, Int.reducePow, Int.reduceMul, Int.reduceToNat, Int.reduceNeg, ↓reduceIte, hD, hG', wrap64, unbox, tmv, Option.some.injEq, exists_eq_left']
      refine endW [] [] (by simp) rfl rfl rfl ?_ ?_ <;> simp only [go_sem, Nat.reduceEqDiff]
      rw [hr, if_pos h]
      simp [hallA, entriesA, hall0, cov, covs, subs, names, namess]
    rw [decide_eq_false_iff_not] at h
    obtain ⟨k, rfl⟩ := Int.eq_ofNat_of_zero_le (show 0 ≤ k by omega)
    have h1 : k < l.length := by omega
    rw [if_neg h, Int.toNat_natCast] at hr
    have hok := ho _ (getD_mem (d := queue0) h1)
    have g2 := fun q => g2 k q h1
    have g3 := g3 _ hok.1
    have hbn := @backS_name (l.getD k queue0) ti tt
    have hbf := @fits_back (l.getD k queue0) ti tt (hfq k h1).1
    have hbw := @back_wrong (l.getD k queue0) ti tt hok.2
    have hns := (hfq k h1).2
    obtain ⟨q, hq, hgx⟩ := queueGet' h1
    rw [hq] at hr g3 hbn hbf hbw hns
    obtain ⟨q1, q2, q3⟩ := q
    simp only at hgx hbn hns
    generalize backS ⟨q1, q2, q3⟩ ti tt = rt at *
    obtain ⟨⟨t1, t2, t3⟩, ⟨i1, i2, i3, i4, i5, ⟨i6, i7⟩⟩, t4, t5⟩ := rt
    have g2 := g2 ⟨t1, t2, t3⟩
    simp only [queueA, itemA, itemRow] at g3 g2
    simp only at hbn hr hbf hbw
    simp (disch := omega) only [go_sem, Nat.reduceLeDiff, reduceCtorEq, Nat.reduceAdd, Nat.reduceSub, Nat.reduceMul, Nat.reduceLT, Nat.reduceEqDiff, Int.reduceEq, Int.reduceLE, Int.reduceLT, Int.reducePow, Int.reduceMul, Int.reduceToNat, Int.reduceNeg, ↓reduceIte, hD, hG', wrap64, hgx, g3, rhbackLo, unbox, tmv, Option.some.injEq, exists_eq_left']
    refine ⟨by decide, by omega, condK_split (fun h2 => ?_) (fun h2 => ?_)⟩
    · have e : t5 ≠ 0 := by simpa using h2
      simp (disch := omega) only [go_sem, Nat.reduceLeDiff, reduceCtorEq, Nat.reduceAdd, Nat.reduceSub, Nat.reduceMul, Nat.reduceLT, Nat.reduceEqDiff, Int.reduceEq, Int.reduceLE, Int.reduceLT, Int.reducePow, Int.reduceMul, Int.reduceToNat, Int.reduceNeg, ↓reduceIte, hD, hG', wrap64, unbox, tmv, Option.some.injEq, exists_eq_left']
      refine endW [] [] (by simp) rfl rfl rfl ?_ ?_ <;> simp only [go_sem, Nat.reduceEqDiff]
      rw [hr, if_pos e]
      simp [hallA, entriesA, hall0, cov, covs, subs, names, namess]
    have e : t5 = 0 := by simpa using h2
    rw [if_neg (by simpa using e)] at hr
    have hbn := hbn e
    have hfs : findS (l.set k ⟨t1, t2, t3⟩) ns = k := by rw [findS_set (by rw [hq]; exact hbn), hfk]
    have hdr := hdr ⟨l.set k ⟨t1, t2, t3⟩, next⟩ ⟨i6, i7⟩ (by simp only [hfs]; omega) hbw
    have hdead : tq = deadB ↔ ns = [100, 101, 97, 100] := by
      refine ⟨fun e => ?_, fun e => ?_⟩
      · rw [← hnm, e]; rfl
      · exact bytes_ext (by rw [hnm, e]; rfl)
    simp only [ne_eq, hdead] at hdr
    simp only [hfs] at hdr
    have g4 := g4 ⟨l.set k ⟨t1, t2, t3⟩, next⟩ ⟨i6, i7⟩ ⟨hsf k ⟨t1, t2, t3⟩ hbf.1 (by rw [hbn]; exact hns), hbf.2, hx⟩
    generalize deadS ⟨l.set k ⟨t1, t2, t3⟩, next⟩ k ⟨i6, i7⟩ = dd at hr hdr
    have hp3 := hput_len ⟨l.set k ⟨t1, t2, t3⟩, next⟩ deadB ⟨i6, i7⟩
    generalize hputS ⟨l.set k ⟨t1, t2, t3⟩, next⟩ deadB ⟨i6, i7⟩ = hp at hdr g4 hp3
    obtain ⟨⟨p1, p2⟩, p3, p4⟩ := hp
    simp only [hres, hallA, entriesA, noteA, show deadB.data.toList = [100, 101, 97, 100] from rfl] at g4
    simp only at hdr hp3
    simp (disch := omega) only [go_sem, Nat.reduceLeDiff, reduceCtorEq, Nat.reduceAdd, Nat.reduceSub, Nat.reduceMul, Nat.reduceLT, Nat.reduceEqDiff, Int.reduceEq, Int.reduceLE, Int.reduceLT, Int.reducePow, Int.reduceMul, Int.reduceToNat, Int.reduceNeg, ↓reduceIte, hD, hG', wrap64, g2, hgx, unbox, tmv, Option.some.injEq, exists_eq_left']
    refine condK_split (fun h3 => ?_) (fun h3 => ?_)
    · have e3 : t4 = false := by simpa using h3
      simp (disch := omega) only [go_sem, Nat.reduceLeDiff, reduceCtorEq, Nat.reduceAdd, Nat.reduceSub, Nat.reduceMul, Nat.reduceLT, Nat.reduceEqDiff, Int.reduceEq, Int.reduceLE, Int.reduceLT, Int.reducePow, Int.reduceMul, Int.reduceToNat, Int.reduceNeg, ↓reduceIte, hD, hG', wrap64, unbox, tmv, Option.some.injEq, exists_eq_left']
      refine endW [] [] (by simp) rfl rfl rfl ?_ ?_ <;> simp only [go_sem, Nat.reduceEqDiff]
      rw [hr, if_pos e3]
      simp [hallA, entriesA, hall0, cov, covs, subs, names, namess, queueRow]
    have e3 : ¬ t4 = false := by simpa using h3
    rw [if_neg e3] at hr
    simp (disch := omega) only [go_sem, Nat.reduceLeDiff, reduceCtorEq, Nat.reduceAdd, Nat.reduceSub, Nat.reduceMul, Nat.reduceLT, Nat.reduceEqDiff, Int.reduceEq, Int.reduceLE, Int.reduceLT, Int.reducePow, Int.reduceMul, Int.reduceToNat, Int.reduceNeg, ↓reduceIte, hD, hG', wrap64, unbox, tmv, Option.some.injEq, exists_eq_left']
    refine condK_split (fun h4 => ?_) (fun h4 => ?_)
    · have h4' : ns = [100, 101, 97, 100] := by simpa using h4
      have hdr := hdr.1 h4'
      simp (disch := omega) only [go_sem, Nat.reduceLeDiff, reduceCtorEq, Nat.reduceAdd, Nat.reduceSub, Nat.reduceMul, Nat.reduceLT, Nat.reduceEqDiff, Int.reduceEq, Int.reduceLE, Int.reduceLT, Int.reducePow, Int.reduceMul, Int.reduceToNat, Int.reduceNeg, ↓reduceIte, hD, hG', wrap64, unbox, tmv, Option.some.injEq, exists_eq_left']
      refine endK (Wk.nz 54 (rs' := [entryRow ⟨4, tq, 0, ti, note0⟩]) rfl ⟨nz_gone _ _ _ hnm _, trivial⟩) [54] [] (by simp) rfl rfl rfl ?_ ?_ <;> simp only [go_sem, Nat.reduceEqDiff]
      rw [hr, hdr]
      simp [hallA, entriesA, queueRow, cov, covs, subs, names, namess]
    have h4' : ¬ ns = [100, 101, 97, 100] := by simpa using h4
    have hdr := And.intro (hdr.2.1 h4') (hdr.2.2 h4')
    simp (disch := omega) only [go_sem, Nat.reduceLeDiff, reduceCtorEq, Nat.reduceAdd, Nat.reduceSub, Nat.reduceMul, Nat.reduceLT, Nat.reduceEqDiff, Int.reduceEq, Int.reduceLE, Int.reduceLT, Int.reducePow, Int.reduceMul, Int.reduceToNat, Int.reduceNeg, ↓reduceIte, hD, hG', wrap64, g4, unbox, tmv, Option.some.injEq, exists_eq_left']
    refine condK_split (fun h5 => ?_) (fun h5 => ?_)
    · have h5' : p4 = 0 := by simpa using h5
      have hdr := hdr.1 h5'
      simp (disch := omega) only [go_sem, Nat.reduceLeDiff, reduceCtorEq, Nat.reduceAdd, Nat.reduceSub, Nat.reduceMul, Nat.reduceLT, Nat.reduceEqDiff, Int.reduceEq, Int.reduceLE, Int.reduceLT, Int.reducePow, Int.reduceMul, Int.reduceToNat, Int.reduceNeg, ↓reduceIte, hD, hG', wrap64, rhbackLo, unbox, tmv, Option.some.injEq, exists_eq_left']
      refine ⟨by decide, by omega, ?_⟩
      have w1 : rowsNz ([[AV.int .i64 4, .str ns, .int .i64 0, .int .i64 ti, .nils, .nils]] ++ p3.map entryRow) ((⟨4, tq, 0, ti, note0⟩ :: p3 : List LEntry).map entryRow) := ⟨nz_gone _ _ _ hnm _, rowsNz_refl _⟩
      refine endK (Wk.nz 73 rfl w1) [73] [] (by simp) rfl rfl rfl ?_ ?_ <;> simp only [go_sem, Nat.reduceEqDiff]
      rw [hr, hdr]
      simp [hallA, entriesA, queueRow, cov, covs, subs, names, namess]
    · have h5' : ¬ p4 = 0 := by simpa using h5
      have hdr := hdr.2 h5'
      simp (disch := omega) only [go_sem, Nat.reduceLeDiff, reduceCtorEq, Nat.reduceAdd, Nat.reduceSub, Nat.reduceMul, Nat.reduceLT, Nat.reduceEqDiff, Int.reduceEq, Int.reduceLE, Int.reduceLT, Int.reducePow, Int.reduceMul, Int.reduceToNat, Int.reduceNeg, ↓reduceIte, hD, hG', wrap64, unbox, tmv, Option.some.injEq, exists_eq_left']
      refine endK (Wk.nz 54 (rs' := [entryRow ⟨4, tq, 0, ti, note0⟩]) rfl ⟨nz_gone _ _ _ hnm _, trivial⟩) [54] [] (by simp) rfl rfl rfl ?_ ?_ <;> simp only [go_sem, Nat.reduceEqDiff]
      rw [hr, hdr]
      simp [hallA, entriesA, queueRow, cov, covs, subs, names, namess]
  exact hcon _ rfl _ rfl
end Go.Proofs.Ythbejciebmkclaa.Ab
namespace Go.Proofs.Ythbejciebmkclaa.Ab
open Go Go.RowKit
set_option linter.unusedVariables false
set_option linter.unusedSimpArgs false

def eRefhback : Ent Try.prog D := ⟨36, LHall × LTag, fun x => [hallA x.1, tagA x.2], fun x => HallNice x.1, fun x => ⟨hres (hbackS x.1 x.2), []⟩, fun x y _ _ h => by
  obtain ⟨a, b⟩ := x
  obtain ⟨a', b'⟩ := y
  simp only [List.cons.injEq, and_true] at h
  rw [hallA_inj h.1, tagA_inj h.2], fun x h => con_refhback _ _ h⟩
theorem hallP_nice {T M : Int} {n : Nat} {g : LHall} (h : hallP T M n g) (hT : T ≤ 1000000) (hM : M ≤ 1000000000) (hn : n ≤ 1048576) : HallNice g := by
  have hi := hallP_in h hT hM hn
  exact ⟨hi.1, fun q hq => ⟨hi.2.1 q hq, fun i hi => ((h.1.2 q hq).2.2.2 i hi).1⟩, hi.2.2⟩
set_option maxRecDepth 100000 in
set_option maxHeartbeats 1000000 in
theorem con_refhpurge (h : LHall) (nm : ByteArray) (hh : h.Fits) : Con Try.prog D 37 [hallA h, .str nm.data.toList] ⟨hres (hpurgeS h nm), []⟩ := by
  have hok : GOk Try.prog D (tabG [eReffind, eRefwith, eRefpurgeq]) := tabG_ok _
  have g1 := tabG_use (T := [eReffind, eRefwith, eRefpurgeq]) (E := eReffind) (i := 0) rfl (by decide) ((h, nmL nm)) (hh.1)
  have g2 := fun (k : Nat) (q : LQueue) (h2 : k < h.queues.length) => tabG_use (T := [eReffind, eRefwith, eRefpurgeq]) (E := eRefwith) (i := 1) rfl (by decide) ((h, k, q)) (⟨h2, hh.1⟩)
  have g3 := fun (q : LQueue) (h : q.Fits) => tabG_use (T := [eReffind, eRefwith, eRefpurgeq]) (E := eRefpurgeq) (i := 2) rfl (by decide) (q) (h)
  generalize tabG [eReffind, eRefwith, eRefpurgeq] = G at *
  dsimp only [eReffind] at g1
  dsimp only [eRefwith] at g2
  dsimp only [eRefpurgeq] at g3
  have hl := hh.1
  have hfq := fun i hi => queue_fits (i := i) hh hi
  have hpl := @findS_range h.queues (nmL nm)
  obtain ⟨l, next⟩ := h
  simp only [hallA, nmL, setQ] at g1 g2 hl hpl hfq
  have hcon : ∀ ns, nm.data.toList = ns → ∀ r, r = hpurgeS ⟨l, next⟩ nm → Con Try.prog D 37 [hallA ⟨l, next⟩, .str ns] ⟨.tup [hallA r.1, entriesA r.2.1, .int .i64 r.2.2], []⟩ := by
    intro ns hnm r hr
    unfold hpurgeS at hr
    simp only [nmL, qAt, setQ, hnm] at hr g1 hpl
    generalize findS l ns = k at *
    refine conW (G := G) (rs := [(4, some 24), (5, none), (6, none)]) hok Try.func37 Try.results37 Try.ntmps37 (fun _ => {}) fun X hP hD hG' hX => ?_
    simp only [argS, num, hallA]
    simp (disch := omega) only [go_sem, Nat.reduceLeDiff, reduceCtorEq, Nat.reduceAdd, Nat.reduceSub, Nat.reduceMul, Nat.reduceLT, Nat.reduceEqDiff, Int.reduceEq, Int.reduceLE, Int.reduceLT, Int.reducePow, Int.reduceMul, Int.reduceToNat, Int.reduceNeg, ↓reduceIte, hD, hG', wrap64, g1, unbox, tmv, Option.some.injEq, exists_eq_left']
    refine condK_split (fun h => ?_) (fun h => ?_)
    · rw [decide_eq_true_eq] at h
      simp (disch := omega) only [go_sem, Nat.reduceLeDiff, reduceCtorEq, Nat.reduceAdd, Nat.reduceSub, Nat.reduceMul, Nat.reduceLT, Nat.reduceEqDiff, Int.reduceEq, Int.reduceLE, Int.reduceLT, Int.reducePow, Int.reduceMul, Int.reduceToNat, Int.reduceNeg, ↓reduceIte, hD, hG', wrap64, unbox, tmv, Option.some.injEq, exists_eq_left']
      refine endW [] [] (by simp) rfl rfl rfl ?_ ?_ <;> simp only [go_sem, Nat.reduceEqDiff]
      rw [hr, if_pos h]
      simp [hallA, entriesA, hall0, cov, covs, subs, names, namess]
    · rw [decide_eq_false_iff_not] at h
      obtain ⟨k, rfl⟩ := Int.eq_ofNat_of_zero_le (show 0 ≤ k by omega)
      have h1 : k < l.length := by omega
      rw [if_neg h, Int.toNat_natCast] at hr
      have g2 := fun q => g2 k q h1
      have g3 := g3 _ (hfq k h1).1
      have hgl := gone_len (l.getD k queue0).items
      have hql := (hfq k h1).1.1
      obtain ⟨q, hq, hgx⟩ := queueGet' h1
      rw [hq] at hr g3 hgl hql
      obtain ⟨q1, q2, q3⟩ := q
      simp only at hgx
      have hgl : (purgeS ⟨q1, q2, q3⟩).2.length ≤ 1048576 := Nat.le_trans hgl hql
      generalize purgeS ⟨q1, q2, q3⟩ = rt at *
      obtain ⟨⟨t1, t2, t3⟩, t4⟩ := rt
      have g2 := g2 ⟨t1, t2, t3⟩
      simp only [queueA] at g3 g2 hgl
      simp (disch := omega) only [go_sem, Nat.reduceLeDiff, reduceCtorEq, Nat.reduceAdd, Nat.reduceSub, Nat.reduceMul, Nat.reduceLT, Nat.reduceEqDiff, Int.reduceEq, Int.reduceLE, Int.reduceLT, Int.reducePow, Int.reduceMul, Int.reduceToNat, Int.reduceNeg, ↓reduceIte, hD, hG', wrap64, hgx, g3, unbox, tmv, Option.some.injEq, exists_eq_left']
      refine ⟨by omega, ?_⟩
      refine Tr.loop (ι := Nat) (fun i => i ≤ t4.length) (fun i => { nt := 46, tm := [(1, .str ns), (2, .ptr 2 0), (4, .ptr 4 0), (7, .int .i64 k), (8, .ptr 8 0), (10, .os 5000), (28, .sl 1 (t4.map intRow)), (29, .int .i64 t4.length), (30, .int .i64 i)], bl := [(2, some (.cells [.sl 3 (l.map queueRow), .int .i64 next])), (4, some (.cells [.nils, .int .i64 0])), (8, some (.cells [.str t1.data.toList, .int .i64 t2, .sl 7 (t3.map itemRow)])), (5000, some (.rows 30 6 ((t4.take i).map (goneR ns))))] }) (fun i => t4.length - i) 0
        ⟨Nat.zero_le _, (wk_of hD [(2, 2), (4, 4), (8, 8)] rfl rfl (by simp only [go_sem, Nat.reduceEqDiff]; simp) (by simp only [go_sem, Nat.reduceEqDiff, D_1, D_2, D_3, D_4, D_5, D_6, D_7, D_8, D_9, D_10, D_11, D_12, D_13, D_14, D_15, D_16, D_17, D_18, D_19, D_21, D_22, D_23, D_24, D_25, D_26, D_27, D_28, D_29, D_30, D_31, D_32, D_33, D_35, D_36, D_37, D_38, D_39, D_40, D_41, D_42, D_43, D_45, D_46, D_47, D_48, D_49, D_50, D_51, D_52, D_53, D_55, D_56, D_57, D_58, D_60, D_61, D_62, D_63, D_64, D_65, D_67, D_68, D_69, D_70, D_71, D_72, D_73, D_74, D_75, D_76, D_77, D_78, D_79, D_80, D_81, D_82, D_83, D_84, D_85, D_86, D_87, D_88, D_89, D_91, D_93, D_94, D_95, D_97, D_98, D_99, D_101, D_103, D_104, D_105, D_106, D_108, D_109, D_110, D_111, D_113, D_114, D_115, D_116, D_117, D_118, D_119, D_120, D_121, D_122, D_124, D_125, D_127, D_128, D_130, D_132, D_133, D_134, D_135, D_136, D_138, D_139, D_141, D_143, D_144, D_145, D_147, D_148, D_149, D_150, D_151, D_153, D_154, D_155, D_156, D_157, D_158, D_159, D_160, D_161, D_162, D_163, D_164, D_165, D_166, D_167, D_168, D_169, D_170, D_171, D_172, D_173, D_174, D_178, D_179, D_180, D_181, D_182, D_183, D_184, D_185, D_186]; simp))⟩ ?_
      intro i hi
      refine evC_sound hX (fun _ => {}) _ _ _ ?_
      simp (disch := omega) only [go_sem, Nat.reduceLeDiff, reduceCtorEq, Nat.reduceAdd, Nat.reduceSub, Nat.reduceMul, Nat.reduceLT, Nat.reduceEqDiff, Int.reduceEq, Int.reduceLE, Int.reduceLT, Int.reducePow, Int.reduceMul, Int.reduceToNat, Int.reduceNeg, ↓reduceIte, hD, hG', wrap64, unbox, tmv, Option.some.injEq, exists_eq_left']
      refine condK_split (fun h => ?_) (fun h => ?_)
      · rw [decide_eq_true_eq] at h
        have hi1 : i < t4.length := by omega
        have hgx := goneGet hi1
        have htk : t4.take (i + 1) = t4.take i ++ [t4.getD i 0] := by rw [List.take_succ_eq_append_getElem hi1]; simp [hi1]
        have htl : (t4.take i).length ≤ t4.length := by rw [List.length_take]; omega
        simp (disch := omega) only [go_sem, Nat.reduceLeDiff, reduceCtorEq, Nat.reduceAdd, Nat.reduceSub, Nat.reduceMul, Nat.reduceLT, Nat.reduceEqDiff, Int.reduceEq, Int.reduceLE, Int.reduceLT, Int.reducePow, Int.reduceMul, Int.reduceToNat, Int.reduceNeg, ↓reduceIte, hD, hG', wrap64, hgx, unbox, tmv, Option.some.injEq, exists_eq_left']
        ((try and_intros); all_goals (try first | omega | decide | (simp; done) | (simp only [List.length_append, List.length_cons, List.length_nil, List.length_map]; omega)))
        refine ⟨i + 1, ⟨by omega, by omega⟩, wk_of hD [(2, 2), (4, 4), (8, 8), (5000, 39)] rfl rfl ?_ ?_⟩ <;> simp only [go_sem, Nat.reduceEqDiff]
        · simp
        · simp [htk, goneR]
      · rw [decide_eq_false_iff_not] at h
        have hie : i = t4.length := by omega
        subst hie
        rw [List.take_length]
        simp (disch := omega) only [go_sem, Nat.reduceLeDiff, reduceCtorEq, Nat.reduceAdd, Nat.reduceSub, Nat.reduceMul, Nat.reduceLT, Nat.reduceEqDiff, Int.reduceEq, Int.reduceLE, Int.reduceLT, Int.reducePow, Int.reduceMul, Int.reduceToNat, Int.reduceNeg, ↓reduceIte, hD, hG', wrap64, g2, unbox, tmv, Option.some.injEq, exists_eq_left']
        refine endK (Wk.nz 5000 (rs' := (t4.map (goneE nm)).map entryRow) rfl (by rw [List.map_map]; exact rowsNz_map (fun i => nz_gone nm 4 i hnm 0) _)) [5000] [] (by simp) rfl rfl rfl ?_ ?_ <;> simp only [go_sem, Nat.reduceEqDiff]
        rw [hr]
        simp [hallA, entriesA, cov, covs, subs, names, namess, goneE]
  exact hcon _ rfl _ rfl
end Go.Proofs.Ythbejciebmkclaa.Ab
namespace Go.Proofs.Ythbejciebmkclaa.Ab
open Go Go.RowKit
set_option linter.unusedVariables false
set_option linter.unusedSimpArgs false

set_option maxRecDepth 100000 in
theorem con_samehall (h : LHall) (hh : h.Fits) : Con Try.prog D 15 [hallA h, hallA h] ⟨.bool true, []⟩ := by
  have hok : GOk Try.prog D (tabG [eSameq]) := tabG_ok _
  have g1 := fun (i : LQueue) (h : i.Fits) => tabG_use (T := [eSameq]) (E := eSameq) (i := 0) rfl (by decide) (i) (h)
  generalize tabG [eSameq] = G at *
  dsimp only [eSameq] at g1
  have hl := hh.1
  have hfq := fun i hi => queue_fits (i := i) hh hi
  obtain ⟨l, next⟩ := h
  simp only at hl hfq
  refine conW (G := G) (rs := [(4, none)]) hok Try.func15 Try.results15 Try.ntmps15 (fun _ => {}) fun X hP hD hG' hX => ?_
  simp only [argS, num, hallA]
  simp (disch := omega) only [go_sem, Nat.reduceLeDiff, reduceCtorEq, Nat.reduceAdd, Nat.reduceSub, Nat.reduceMul, Nat.reduceLT, Nat.reduceEqDiff, Int.reduceEq, Int.reduceLE, Int.reduceLT, Int.reducePow, Int.reduceMul, Int.reduceToNat, Int.reduceNeg, ↓reduceIte, hD, hG', wrap64, unbox, tmv, Option.some.injEq, exists_eq_left']
  refine RegT.mk [] ?_
  simp (disch := omega) only [go_sem, Nat.reduceLeDiff, reduceCtorEq, Nat.reduceAdd, Nat.reduceSub, Nat.reduceMul, Nat.reduceLT, Nat.reduceEqDiff, Int.reduceEq, Int.reduceLE, Int.reduceLT, Int.reducePow, Int.reduceMul, Int.reduceToNat, Int.reduceNeg, ↓reduceIte, hD, hG', wrap64, unbox, tmv, Option.some.injEq, exists_eq_left']
  and_intros
  all_goals (try (first | (intro hk; refine ⟨hk, fun h2 => ?_⟩; first | (rw [hk, h2]; rfl) | (rw [hk, decide_eq_false h2]; rfl)) | (intro hk; rw [decide_eq_false hk]; rfl) | (intro hk; rw [hk]; rfl)))
  refine Tr.loop (ι := Nat) (fun i => i ≤ l.length) (fun i => { nt := 39, tm := [(2, .ptr 2 0), (3, .ptr 3 0), (22, .int .i64 l.length), (23, .int .i64 i)], bl := [(2, some (.cells [.sl 3 (l.map queueRow), .int .i64 next])), (3, some (.cells [.sl 3 (l.map queueRow), .int .i64 next]))] }) (fun i => l.length - i) 0
    ⟨Nat.zero_le _, wk_of hD [(2, 2), (3, 3)] rfl rfl (by simp only [go_sem, Nat.reduceEqDiff]; simp) (by simp only [go_sem, Nat.reduceEqDiff])⟩ ?_
  intro i hi
  refine evC_sound hX (fun _ => {}) _ _ _ ?_
  simp (disch := omega) only [go_sem, Nat.reduceLeDiff, reduceCtorEq, Nat.reduceAdd, Nat.reduceSub, Nat.reduceMul, Nat.reduceLT, Nat.reduceEqDiff, Int.reduceEq, Int.reduceLE, Int.reduceLT, Int.reducePow, Int.reduceMul, Int.reduceToNat, Int.reduceNeg, ↓reduceIte, hD, hG', wrap64, unbox, tmv, Option.some.injEq, exists_eq_left']
  refine condK_split (fun h => ?_) (fun h => ?_)
  · rw [decide_eq_true_eq] at h
    have hi1 : i < l.length := by omega
    have hgx := queueGet hi1
    have g1 := g1 _ (hfq i hi1).1
    generalize l.getD i queue0 = x at *
    obtain ⟨a1, a2, a3⟩ := x
    simp only [queueRow] at hgx
    simp only [queueA] at g1
    simp (disch := omega) only [go_sem, Nat.reduceLeDiff, reduceCtorEq, Nat.reduceAdd, Nat.reduceSub, Nat.reduceMul, Nat.reduceLT, Nat.reduceEqDiff, Int.reduceEq, Int.reduceLE, Int.reduceLT, Int.reducePow, Int.reduceMul, Int.reduceToNat, Int.reduceNeg, ↓reduceIte, hD, hG', wrap64, hgx, g1, unbox, tmv, Option.some.injEq, exists_eq_left']
    refine ⟨by decide, by omega, by omega, i + 1, ⟨by omega, by omega⟩, wk_of hD [(2, 2), (3, 3)] rfl rfl ?_ ?_⟩ <;> simp only [go_sem, Nat.reduceEqDiff]
    simp
  · simp (disch := omega) only [go_sem, Nat.reduceLeDiff, reduceCtorEq, Nat.reduceAdd, Nat.reduceSub, Nat.reduceMul, Nat.reduceLT, Nat.reduceEqDiff, Int.reduceEq, Int.reduceLE, Int.reduceLT, Int.reducePow, Int.reduceMul, Int.reduceToNat, Int.reduceNeg, ↓reduceIte, hD, hG', wrap64, unbox, tmv, Option.some.injEq, exists_eq_left']
    refine endW [] [] (by simp) rfl rfl rfl ?_ ?_ <;> simp only [go_sem, Nat.reduceEqDiff]
def eSamehall : Ent Try.prog D := ⟨15, LHall, fun i => [hallA i, hallA i], LHall.Fits, fun i => ⟨.bool true, []⟩, fun x y _ _ h => rfl, fun x h => con_samehall x h⟩
theorem entryGet {l : List LEntry} {i : Nat} (h : i < l.length) : (l.map entryRow).getD i [] = entryRow (l.getD i entry0) := by
  simp [h]
end Go.Proofs.Ythbejciebmkclaa.Ab
namespace Go.Proofs.Ythbejciebmkclaa.Ab
open Go
set_option linter.unusedVariables false
set_option linter.unusedSimpArgs false

/-- the same but for the blocks of cells -/
def Core (i j : NI) : Prop := i.b = j.b ∧ i.A = j.A ∧ i.n = j.n ∧ i.c = j.c ∧ i.sz = j.sz
theorem Core.refl {i : NI} : Core i i := ⟨rfl, rfl, rfl, rfl, rfl⟩
theorem Core.of_eq {i j : NI} (h : i = j) : Core i j := h ▸ Core.refl
theorem Core.sv {i j : NI} (h : Core i j) : i.sv = j.sv := by
  obtain ⟨_, h2, h3, h4, _⟩ := h
  simp only [NI.sv, h2, h3, h4]
theorem Rel.core {w : World} {im im' : Nat → Prop} {ρ ρ' : Env} {x : AV} {v : Value} (h : Rel w im ρ x v) (him : ∀ b, im b → im' b) (hρ : ∀ n, n ∈ names x → Core (ρ' n) (ρ n)) : Rel w im' ρ' x v := by
  induction h with
  | junk v => exact .junk v
  | int k n => exact .int k n
  | bool b => exact .bool b
  | str l => exact .str l
  | nils => exact .nils
  | sl sz rs A c b o val hc hm hA hrow hcell hval ih =>
    exact .sl sz rs A c b o val hc hm (fun h => ⟨(hA h).1, him _ (hA h).2⟩) hrow hcell (fun i j row x h1 h2 => ih i j row x h1 h2 (fun n hn => by rw [(hcell i j row x h1 h2).2.2] at hn; cases hn))
  | os t => rw [← (hρ t (by simp [names])).sv]; exact .os t
  | ptr v off b h => exact .ptr v off b (by rw [(hρ v (by simp [names])).1]; exact h)
  | iptr cs b o val hb hcell hval ih => exact .iptr cs b o val (him _ hb) hcell (fun j x h1 => ih j x h1 (fun n hn => by rw [(hcell j x h1).2.2] at hn; cases hn))
  | eptr t i off b h =>
    have := hρ t (by simp [names])
    rw [← this.2.2.2.2]
    exact .eptr t i off b (by rw [this.1]; exact h)
  | lsl n A c hc hm => exact .lsl n A c hc hm
  | imap es b c arr hb ho he => exact .imap es b c arr (him _ hb) ho he
  | nilp => exact .nilp
  | tsl t i b A' h hA =>
    have := hρ t (by simp [names])
    rw [← this.2.2.1, ← this.2.2.2.1]
    exact .tsl t i b A' (by rw [this.1]; exact h) (by rw [this.2.2.1, this.2.2.2.2]; exact hA)
  | func f cs vs hl hval ih => exact .func f cs vs hl fun i x v h1 h2 => ih i x v h1 h2 fun n hn => hρ n (by rw [names]; exact mem_namess h1 hn)
  | agg cs vs hl h1 hval ih => exact .agg cs vs hl h1 fun i x v h1 h2 => ih i x v h1 h2 fun n hn => hρ n (by rw [names]; exact mem_namess h1 hn)
  | tup cs vs hl hval ih => exact .tup cs vs hl fun i x v h1 h2 => ih i x v h1 h2 fun n hn => hρ n (by rw [names]; exact mem_namess h1 hn)
  | opt g x v h1 h2 ih => exact .opt g x v (fun hg => ih hg fun n hn => hρ n (by rw [names]; exact hn)) h2
theorem RowsNI.to {D : Nat → TI} {w : World} {im im' : Nat → Prop} {ρ ρ' : Env} {i i' : NI} {e sz : Nat} {rs : List (List AV)} (h : RowsNI D w im ρ i e sz rs) (hi : i'.sz = i.sz ∧ i'.sv = i.sv ∧ i'.b = i.b) (him : ∀ b, im b → im' b) : RowsNI D w im' ρ' i' e sz rs := by
  obtain ⟨h1, h2, h2', A, c, h3, h4, h5, h6⟩ := h
  refine ⟨hi.1.trans h1, h2, h2', A, c, hi.2.1.trans h3, h4, h5, ?_⟩
  rw [hi.2.2]
  rcases h6 with ⟨e1, e0, e2, e3⟩ | ⟨b, arr, hb1, hA, hh, hsz, hr⟩
  · exact .inl ⟨e1, e0, e2, e3⟩
  · refine .inr ⟨b, arr, hb1, hA, hh, hsz, fun i row hi => ⟨(hr i row hi).1, fun j x hj => ?_⟩⟩
    obtain ⟨hn', v, hv, h1v, hrel⟩ := (hr i row hi).2 j x hj
    exact ⟨hn', v, hv, h1v, hrel.mono him (fun _ _ => rfl) (fun m hm => by rw [hn'] at hm; cases hm)⟩
/-- such a cell, read alone -/
theorem RowsNI.rel {D : Nat → TI} {w : World} {im : Nat → Prop} {ρ : Env} {i : NI} {e sz : Nat} {rs : List (List AV)} (h : RowsNI D w im ρ i e sz rs) (hb : ∀ b, i.b = some b → im b) : Rel w im ρ (.sl sz rs) i.sv := by
  have h' : BRel D w im (fun _ => i) 0 (.rows e sz rs) := h.to ⟨rfl, rfl, rfl⟩ fun _ h => h
  exact (Rel.plain h' (fun _ h => h) hb).mono (fun _ h => h) (fun _ _ => rfl) (fun n hn => by simp [names] at hn)
theorem CellD.to {D : Nat → TI} {w : World} {im im' : Nat → Prop} {ρ ρ' : Env} {hb : Option Nat} {col : Option (Nat × Nat)} {x : AV} {v : Value} (h : CellD D w im ρ hb col x v) (hn : names x = []) (him : ∀ b, im b → im' b) : CellD D w im' ρ' hb col x v :=
  h.mono hn (fun _ _ => rfl) him (fun _ _ => rfl)
theorem BRel.core {D : Nat → TI} {w : World} {im im' : Nat → Prop} {ρ ρ' : Env} {n : Nat} {x : Blk} (h : BRel D w im ρ n x) (hn : ρ' n = ρ n) (him : ∀ b, im b → im' b) (hρ : ∀ m ∈ bnames x, Core (ρ' m) (ρ m)) : BRel D w im' ρ' n x := by
  cases x with
  | cells cs =>
    obtain ⟨b, arr, T, h1, h2, h3, h5⟩ := h
    exact ⟨b, arr, T, by rw [hn]; exact h1, h2, h3, fun i x v hx hv => ⟨(h5 i x v hx hv).1, (h5 i x v hx hv).2.core him fun m hm => hρ m (mem_namess hx hm)⟩⟩
  | rows e sz rs =>
    have h' : RowsNI D w im ρ (ρ n) e sz rs := h
    exact h'.to (by rw [hn]; exact ⟨rfl, rfl, rfl⟩) him
  | deep e sz rs cols foc =>
    obtain ⟨h1, h2, h2', h0, hI, A, c, h3, h4, h5, h6⟩ := h
    refine ⟨by rw [hn]; exact h1, h2, h2', by rw [hn]; exact h0, hI, A, c, by rw [hn]; exact h3, h4, h5, ?_⟩
    rw [hn]
    refine h6.imp id ?_
    rintro ⟨b, arr, r1, r2, r3, r4, r5, r6⟩
    refine ⟨b, arr, r1, r2, r3, r4, fun i row hi => ⟨(r5 i row hi).1, fun j x hj => ?_⟩, fun i j m hm row x hi hj => ?_⟩
    · obtain ⟨s1, v, s2, s3, s4⟩ := (r5 i row hi).2 j x hj
      exact ⟨s1, v, s2, s3, s4.to s1 him⟩
    · rw [(hρ m (focN_mem.2 ⟨i, j, hm⟩)).sv]
      exact r6 i j m hm row x hi hj
theorem BRel.klB {D : Nat → TI} {w : World} {im : Nat → Prop} {ρ : Env} {n : Nat} {x : Blk} (h : BRel D w im ρ n x) (ks : List Nat) : BRel D w im ρ n (mapBlk (kl ks) x) := by
  cases x with
  | rows e sz rs => exact h
  | deep e sz rs cols foc => exact h.keepF
  | cells cs =>
    obtain ⟨b, arr, T, h1, h2, h3, h5⟩ := h
    refine ⟨b, arr, T, h1, h2, by simpa using h3, fun i x v hx hv => ?_⟩
    rw [List.getElem?_map] at hx
    obtain ⟨z, hz, rfl⟩ := Option.map_eq_some_iff.1 hx
    exact ⟨(h5 i z v hz hv).1, (h5 i z v hz hv).2.kill ks⟩

section
variable {D : Nat → TI} {S N0 : Nat → Prop} {B : Nat} {w0 : W0} {ρ : Env} {σ : AS} {a : Act} {w : World}
/-- names change hands; memory stays -/
theorem St0.rearr (h : St0 D S N0 B w0 ρ σ a w) {ρ' : Env} {ks : List Nat} {nw up : List (Nat × Blk)}
    (hcore : ∀ n, (blk σ n).isSome = true → n ∉ ks → Core (ρ' n) (ρ n)) (hsame : ∀ n, (blk σ n).isSome = true → n ∉ ks → n ∉ keys nw → n ∉ keys up → ρ' n = ρ n) (hnw : ∀ n ∈ keys nw, blk σ n = none)
    (hown : ∀ n y b, get n (nw ++ up) = some y → owns ρ' n y b → ∃ k x, blk σ k = some x ∧ owns ρ k x b ∧ (k ∈ ks ∨ k ∈ keys up))
    (hinj : ∀ n m y z b, get n (nw ++ up) = some y → get m (nw ++ up) = some z → owns ρ' n y b → owns ρ' m z b → n = m)
    (hblk : ∀ im' : Nat → Prop, (∀ b, imOf S N0 B w ρ (blk σ) b → im' b) → (∀ b k x, blk σ k = some x → owns ρ k x b → (k ∈ ks ∨ k ∈ keys up) → (∀ n y, get n (nw ++ up) = some y → ¬ owns ρ' n y b) → im' b) → ∀ n y, get n (nw ++ up) = some y → BRel D w im' ρ' n y)
    (hcl : ∀ n y, get n (nw ++ up) = some y → ∀ m ∈ bnames y, (m ∈ keys nw ∨ (blk σ m).isSome = true) ∧ m ∉ ks)
    (hup : ∀ n ∈ keys up, (blk σ n).isSome = true ∧ n ∉ ks) : St0 D S N0 B w0 ρ' (stepS σ ks nw up) a w := by
  have hb : ∀ n, blk (stepS σ ks nw up) n = match get n (nw ++ up) with | some y => some y | none => if n ∈ ks then none else (blk σ n).map (mapBlk (kl ks)) := fun n => by
    rw [blk_step, get_append]
    cases get n nw with
    | some y => rfl
    | none => rfl
  have hspec : ∀ n, get n (nw ++ up) = none → n ∉ keys nw ∧ n ∉ keys up := fun n hn => by
    rw [get_append] at hn
    cases h1 : get n nw with
    | some y => rw [h1] at hn; cases hn
    | none => rw [h1] at hn; exact ⟨get_none.1 h1, get_none.1 hn⟩
  have hspec' : ∀ n y, get n (nw ++ up) = some y → n ∈ keys nw ∨ n ∈ keys up := fun n y hn => by
    rw [get_append] at hn
    cases h1 : get n nw with
    | some z => exact .inl (mem_keys.2 ⟨z, h1⟩)
    | none => rw [h1] at hn; exact .inr (mem_keys.2 ⟨y, hn⟩)
  -- an ordinary name
  have ord : ∀ n x, get n (nw ++ up) = none → blk (stepS σ ks nw up) n = some x → ∃ y, blk σ n = some y ∧ n ∉ ks ∧ x = mapBlk (kl ks) y ∧ ρ' n = ρ n ∧ ∀ b, owns ρ' n x b → owns ρ n y b := fun n x hn hx => by
    rw [hb, hn] at hx
    simp only at hx
    split at hx
    · cases hx
    · rename_i hk
      obtain ⟨y, hy, rfl⟩ := mapBlk_some hx
      have he := hsame n (by rw [hy]; rfl) hk (hspec n hn).1 (hspec n hn).2
      exact ⟨y, hy, hk, rfl, he, fun b hb => (owns_congr he).1 (owns_map.1 hb)⟩
  have spec : ∀ n x y, get n (nw ++ up) = some y → blk (stepS σ ks nw up) n = some x → x = y := fun n x y hn hx => by
    rw [hb, hn] at hx
    exact (Option.some.inj hx).symm
  have him : ∀ b, imOf S N0 B w ρ (blk σ) b → imOf S N0 B w ρ' (blk (stepS σ ks nw up)) b := by
    rintro b ⟨h1, h2, h3⟩
    refine ⟨h1, h2, fun n x hx hbn => ?_⟩
    cases hg : get n (nw ++ up) with
    | some y =>
      have := spec n x y hg hx
      subst this
      obtain ⟨k, z, q1, q2, _⟩ := hown n x b hg hbn
      exact h3 k z q1 q2
    | none =>
      obtain ⟨y, hy, _, _, _, ho⟩ := ord n x hg hx
      exact h3 n y hy (ho b hbn)
  have himn : ∀ b k x, blk σ k = some x → owns ρ k x b → (k ∈ ks ∨ k ∈ keys up) → (∀ n y, get n (nw ++ up) = some y → ¬ owns ρ' n y b) → imOf S N0 B w ρ' (blk (stepS σ ks nw up)) b := fun b k x hk hkb hsp hno => by
    refine ⟨h.owns_lt hk hkb, .inr (h.own k x b hk hkb), fun n y hy hbn => ?_⟩
    cases hg : get n (nw ++ up) with
    | some z =>
      have := spec n y z hg hy
      subst this
      exact hno n y hg hbn
    | none =>
      obtain ⟨z, hz, hnk, _, _, ho⟩ := ord n y hg hy
      have := h.hp.inj n k b z x hz hk (ho b hbn) hkb
      subst this
      rcases hsp with hsp | hsp
      · exact hnk hsp
      · exact (hspec n hg).2 hsp
  have bnd : ∀ n, (blk σ n).isSome = true → n ∉ ks → (blk (stepS σ ks nw up) n).isSome = true := fun n hn hk => by
    rw [hb]
    split
    · rfl
    · rw [if_neg hk]; simpa using hn
  refine ⟨fun t x hx => ?_, ⟨fun n x hx => ?_, fun n m b x y hx hy hbx hby => ?_, fun n x b hx hbx hi => hi.2.2 n x hx hbx, fun b hb => hb.1, fun n x hx m hm => ?_⟩, h.nt, h.base, h.frm, fun n x b hx hbx => ?_, h.defers⟩
  · obtain ⟨y, hy, hxy⟩ := get_tm_kill σ ks t x hx
    obtain ⟨h1, h2⟩ := h.tm t y hy
    rcases hxy with rfl | ⟨rfl, rfl⟩
    · have hnm : ∀ n ∈ names (kl ks y), (blk σ n).isSome = true ∧ n ∉ ks := fun n hn => ⟨h2 n (names_kl ks y n hn).1, (names_kl ks y n hn).2⟩
      exact ⟨(h1.kill ks).core him fun n hn => hcore n (hnm n hn).1 (hnm n hn).2, fun n hn => bnd n (hnm n hn).1 (hnm n hn).2⟩
    · exact ⟨h1.core him fun n hn => hcore n (h2 n hn) (by simp), fun n hn => bnd n (h2 n hn) (by simp)⟩
  · cases hg : get n (nw ++ up) with
    | some y =>
      have := spec n x y hg hx
      subst this
      exact hblk _ him himn n x hg
    | none =>
      obtain ⟨y, hy, hnk, rfl, he, _⟩ := ord n x hg hx
      refine ((h.hp.blk n y hy).klB ks).core he him fun m hm => ?_
      obtain ⟨q1, q2⟩ := bnames_kl hm
      exact hcore m (h.hp.clos n y hy m q1) q2
  · cases hg : get n (nw ++ up) with
    | some x' =>
      have := spec n x x' hg hx
      subst this
      cases hg' : get m (nw ++ up) with
      | some y' =>
        have := spec m y y' hg' hy
        subst this
        exact hinj n m x y b hg hg' hbx hby
      | none =>
        exfalso
        obtain ⟨y', hy', hmk, _, _, ho⟩ := ord m y hg' hy
        obtain ⟨k, z, q1, q2, q3⟩ := hown n x b hg hbx
        have := h.hp.inj m k b y' z hy' q1 (ho b hby) q2
        subst this
        rcases q3 with q3 | q3
        · exact hmk q3
        · exact (hspec m hg').2 q3
    | none =>
      obtain ⟨x', hx', hnk, _, _, ho⟩ := ord n x hg hx
      cases hg' : get m (nw ++ up) with
      | some y' =>
        exfalso
        have := spec m y y' hg' hy
        subst this
        obtain ⟨k, z, q1, q2, q3⟩ := hown m y b hg' hby
        have := h.hp.inj n k b x' z hx' q1 (ho b hbx) q2
        subst this
        rcases q3 with q3 | q3
        · exact hnk q3
        · exact (hspec n hg).2 q3
      | none =>
        obtain ⟨y', hy', _, _, _, ho'⟩ := ord m y hg' hy
        exact h.hp.inj n m b x' y' hx' hy' (ho b hbx) (ho' b hby)
  · cases hg : get n (nw ++ up) with
    | some y =>
      have := spec n x y hg hx
      subst this
      obtain ⟨q1, q2⟩ := hcl n x hg m hm
      rcases q1 with q1 | q1
      · obtain ⟨z, hz⟩ := mem_keys.1 q1
        rw [hb, get_append, hz]
        rfl
      · exact bnd m q1 q2
    | none =>
      obtain ⟨y, hy, _, rfl, _, _⟩ := ord n x hg hx
      obtain ⟨q1, q2⟩ := bnames_kl hm
      exact bnd m (h.hp.clos n y hy m q1) q2
  · cases hg : get n (nw ++ up) with
    | some y =>
      have := spec n x y hg hx
      subst this
      obtain ⟨k, z, q1, q2, _⟩ := hown n x b hg hbx
      exact h.own k z b q1 q2
    | none =>
      obtain ⟨y, hy, _, _, _, ho⟩ := ord n x hg hx
      exact h.own n y b hy (ho b hbx)
end
end Go.Proofs.Ythbejciebmkclaa.Ab
namespace Go.Proofs.Ythbejciebmkclaa.Ab
open Go
set_option linter.unusedVariables false
set_option linter.unusedSimpArgs false

/-- rows that are only read in their cells from then on -/
theorem Wk.flat {X : Cx} {σ : AS} (t : Nat) {e sz : Nat} {rs : List (List AV)} {cols foc : List (Nat × Nat × Nat)} (hb : blk σ t = some (.deep e sz rs cols foc)) : Wk X σ (stepS σ [] [] [(t, .rows e sz rs)]) := by
  intro γ a w ⟨ρ, hs⟩
  have hB := hs.hp.blk t _ hb
  obtain ⟨h1, h2, h2', h0, hI, A, c, h3, h4, h5, h6⟩ := hB
  have hget : ∀ n y, get n ([] ++ [(t, Blk.rows e sz rs)]) = some y → n = t ∧ y = .rows e sz rs := fun n y h => by
    simp only [List.nil_append, get] at h
    split at h
    · rename_i q; cases h; exact ⟨q.symm, rfl⟩
    · cases h
  refine ⟨ρ, hs.rearr (fun n _ _ => Core.refl) (fun n _ _ _ _ => rfl) (fun n hn => by simp [keys] at hn) (fun n y b' hy hbn => ?_) (fun n k y z b' hy hz _ _ => ?_) (fun im' him himn n y hy => ?_) (fun n y hy k hk => ?_) (fun n hn => by simp [keys] at hn; subst hn; exact ⟨by rw [hb]; rfl, by simp⟩)⟩
  · obtain ⟨rfl, rfl⟩ := hget n y hy
    exact ⟨n, _, hb, .inl hbn, .inr (by simp [keys])⟩
  · rw [(hget n y hy).1, (hget k z hz).1]
  · obtain ⟨rfl, rfl⟩ := hget n y hy
    refine ⟨h1, h2, h2', A, c, h3, h4, h5, ?_⟩
    refine h6.imp id ?_
    rintro ⟨b, arr, hb1, hA, hh, hsz, hr, hf⟩
    refine ⟨b, arr, hb1, hA, hh, hsz, fun i row hi => ⟨(hr i row hi).1, fun j x hj => ?_⟩⟩
    obtain ⟨s1, u, s2, s3, s4⟩ := (hr i row hi).2 j x hj
    refine ⟨s1, u, s2, s3, ?_⟩
    have key : ∀ {col : Option (Nat × Nat)}, CellD X.D w (imOf X.S X.N0 X.B w ρ (blk σ)) ρ ((ρ n).h (i * sz + j)) col x u → Rel w im' ρ x u := fun {col} s4 => by
      unfold CellD at s4
      split at s4
      · obtain ⟨rfl, i0, q1, q2, q3⟩ := s4
        have q4 : RowsNI X.D w im' ρ i0 _ _ _ := q3.to ⟨rfl, rfl, rfl⟩ him
        rw [← q2]
        refine q4.rel fun b' hb' => himn b' n _ hb (.inr ⟨i * sz + j, by rw [← q1]; exact hb'⟩) (.inr (by simp [keys])) fun n' y' hy' ho => ?_
        obtain ⟨rfl, rfl⟩ := hget n' y' hy'
        exact (h0.1 (i * sz + j) b' (by rw [← q1]; exact hb')).1 ho
      · exact s4.mono him (fun _ _ => rfl) (fun m hm => absurd hm (by rw [s1]; simp))
    exact key s4
  · obtain ⟨rfl, rfl⟩ := hget n y hy
    cases hk
attribute [go_sem] stepS
end Go.Proofs.Ythbejciebmkclaa.Ab
namespace Go.Proofs.Ythbejciebmkclaa.Ab
open Go Go.RowKit
set_option linter.unusedVariables false
set_option linter.unusedSimpArgs false

end Go.Proofs.Ythbejciebmkclaa.Ab
namespace Go.Proofs.Ythbejciebmkclaa.Ab
open Go Go.RowKit
set_option linter.unusedVariables false
set_option linter.unusedSimpArgs false

end Go.Proofs.Ythbejciebmkclaa.Ab
