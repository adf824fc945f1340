/-
  Texts of the proof, one behind the other: FrS FrA FrB FrC FrD FrE FrF FrG FrH FrI FrJ FrK FrP FrL FrM FrN FrO OpenF.
  No condition but those that each theorem names.
-/
import Derived.Test.YtcgdjdlcecnanaaGD
import Derived.Test.YtcgdjdlcecnanaaGC
namespace Go.Proofs.Ytcgdjdlcecnanaa.Ab
open Go Go.RowKit
set_option linter.unusedVariables false
set_option linter.unusedSimpArgs false

structure LAsk where
  kind : Int
  queue : ByteArray
  n : Int
  note : LNote
structure LSay where
  kind : Int
  n : Int
  m : Int
  err : Int
  note : LNote
def LAsk.Fits (a : LAsk) : Prop := a.queue.size ≤ 1048576 ∧ a.note.Fits
def namedS (k : Int) : Bool := decide (k = 2 ∨ k = 3 ∨ k = 4 ∨ k = 5 ∨ k = 6 ∨ k = 9)
def lowS (k : Int) : Int := if k = 6 ∨ k = 7 ∨ k = 8 then 1 else 0
def highS (k : Int) : Int := if k = 2 ∨ k = 7 ∨ k = 8 then 1073741824 else if k = 6 then 9 else 0
def wrongAskS (a : LAsk) : Int :=
  if a.kind < 1 ∨ 9 < a.kind then 1
  else if (if namedS a.kind = true then keyS a.queue = false else a.queue.size ≠ 0) then 7
  else if a.n < lowS a.kind ∨ highS a.kind < a.n then 3
  else if a.kind ≠ 4 ∧ 0 < a.note.props.length + a.note.body.length then 2
  else wrongS a.note
def wrongSayS (s : LSay) : Int :=
  if s.kind < 1 ∨ 4 < s.kind then 1
  else if s.kind = 2 then (if s.n < 1 ∨ 1073741824 < s.n ∨ s.m < 0 ∨ 3 < s.m ∨ s.err ≠ 0 then 3 else wrongS s.note)
  else if s.n ≠ 0 ∨ s.m ≠ 0 ∨ (s.kind = 4 ∧ (s.err ≤ 0 ∨ 10 < s.err)) ∨ (s.kind ≠ 4 ∧ s.err ≠ 0) then 3
  else if 0 < s.note.props.length + s.note.body.length then 2
  else 0
def askA (a : LAsk) : AV := .agg [.int .i64 a.kind, .str a.queue.data.toList, .int .i64 a.n, .sl 4 (a.note.props.map propRow), .sl 1 (a.note.body.map byteRow)]
def sayA (s : LSay) : AV := .agg [.int .i64 s.kind, .int .i64 s.n, .int .i64 s.m, .int .i64 s.err, .sl 4 (s.note.props.map propRow), .sl 1 (s.note.body.map byteRow)]
theorem askA_inj {a b : LAsk} (h : askA a = askA b) : a = b := by
  obtain ⟨k, q, n, ⟨p, y⟩⟩ := a
  obtain ⟨k', q', n', ⟨p', y'⟩⟩ := b
  simp only [askA, AV.agg.injEq, List.cons.injEq, AV.int.injEq, AV.str.injEq, AV.sl.injEq, true_and, and_true] at h
  obtain ⟨rfl, h2, rfl, h4, h5⟩ := h
  rw [bytes_ext h2, props_inj h4, bytes_inj h5]
theorem sayA_inj {a b : LSay} (h : sayA a = sayA b) : a = b := by
  obtain ⟨k, n, m, e, ⟨p, y⟩⟩ := a
  obtain ⟨k', n', m', e', ⟨p', y'⟩⟩ := b
  simp only [sayA, AV.agg.injEq, List.cons.injEq, AV.int.injEq, AV.str.injEq, AV.sl.injEq, true_and, and_true] at h
  obtain ⟨rfl, rfl, rfl, rfl, h4, h5⟩ := h
  rw [props_inj h4, bytes_inj h5]
theorem wrongS_zero : wrongS note0 = 0 := rfl
theorem note_empty {n : LNote} (h : n.props.length + n.body.length = 0) : n = note0 := by
  obtain ⟨p, b⟩ := n
  simp only at h
  have h1 : p = [] := List.eq_nil_of_length_eq_zero (by omega)
  have h2 : b = [] := List.eq_nil_of_length_eq_zero (by omega)
  rw [h1, h2]
  rfl
end Go.Proofs.Ytcgdjdlcecnanaa.Ab
namespace Go.Proofs.Ytcgdjdlcecnanaa.Ab
open Go Go.RowKit
set_option linter.unusedVariables false
set_option linter.unusedSimpArgs false

set_option maxRecDepth 100000 in
set_option maxHeartbeats 2000000 in
theorem con_frwrong (s : LSay) (hs : s.note.Fits) : Con Try.prog D 58 [sayA s] ⟨.int .i64 (wrongSayS s), []⟩ := by
  obtain ⟨kind, n, m, err, ⟨ps, bs⟩⟩ := s
  have h1 := hs.2.1
  have h2 := hs.2.2
  simp only at h1 h2
  have g1 : tabG [eWrong] 29 [noteA ⟨ps, bs⟩] = some ⟨.int .i64 (wrongS ⟨ps, bs⟩), []⟩ := tabG_at (E := eWrong) (T := [eWrong]) (i := 0) rfl (by decide) _ hs rfl rfl
  have hok : GOk Try.prog D (tabG [eWrong]) := tabG_ok _
  generalize tabG [eWrong] = G at *
  simp only [noteA] at g1
  have hcon : ∀ r, r = wrongSayS ⟨kind, n, m, err, ⟨ps, bs⟩⟩ → Con Try.prog D 58 [sayA ⟨kind, n, m, err, ⟨ps, bs⟩⟩] ⟨.int .i64 r, []⟩ := by
    intro r hr
    refine con_of (G := G) (rs := [(2, none)]) mixed tok hok Try.func58 rfl (by decide) Try.results58 (by decide) rfl Try.ntmps58 (by simp) (by simp [sayA, namess, names]) fun X hP hD hG' hX => evC_sound hX (fun _ => {}) _ _ _ ?_
    simp only [argS, num, sayA]
    simp (disch := ((try simp only [List.length_drop, List.length_take, List.length_append, List.length_cons, List.length_nil, List.length_map]); omega)) only [go_sem, Nat.reduceLeDiff, reduceCtorEq, Nat.reduceAdd, Nat.reduceSub, Nat.reduceMul, Nat.reduceLT, Nat.reduceEqDiff, Int.reduceEq, Int.reduceLE, Int.reduceLT, Int.reducePow, Int.reduceMul, Int.reduceToNat, Int.reduceNeg, ↓reduceIte, ← List.map_take, ← List.map_drop, hD, hG', wrap64, g1, unbox, tmv, Option.some.injEq, exists_eq_left']
    have hz : ps.length + bs.length = 0 → wrongS ⟨ps, bs⟩ = 0 := fun h => by rw [note_empty (n := ⟨ps, bs⟩) h]; rfl
    iterate 24 (all_goals (try (first | (refine RegT.mk [] ?_; simp (disch := ((try simp only [List.length_drop, List.length_take, List.length_append, List.length_cons, List.length_nil, List.length_map]); omega)) only [go_sem, Nat.reduceLeDiff, reduceCtorEq, Nat.reduceAdd, Nat.reduceSub, Nat.reduceMul, Nat.reduceLT, Nat.reduceEqDiff, Int.reduceEq, Int.reduceLE, Int.reduceLT, Int.reducePow, Int.reduceMul, Int.reduceToNat, Int.reduceNeg, ↓reduceIte, ← List.map_take, ← List.map_drop, hD, hG', wrap64, g1, unbox, tmv, Option.some.injEq, exists_eq_left']) | (refine condK_split (fun h => ?_) (fun h => ?_) <;> simp (disch := ((try simp only [List.length_drop, List.length_take, List.length_append, List.length_cons, List.length_nil, List.length_map]); omega)) only [go_sem, Nat.reduceLeDiff, reduceCtorEq, Nat.reduceAdd, Nat.reduceSub, Nat.reduceMul, Nat.reduceLT, Nat.reduceEqDiff, Int.reduceEq, Int.reduceLE, Int.reduceLT, Int.reducePow, Int.reduceMul, Int.reduceToNat, Int.reduceNeg, ↓reduceIte, ← List.map_take, ← List.map_drop, hD, hG', wrap64, g1, unbox, tmv, Option.some.injEq, exists_eq_left']) | and_intros)))
    all_goals (try (refine ⟨[], [], rfl, rfl, ?_, ?_⟩ <;> simp only [freeze_nil, freeze_cons, mapT, mapB, mapL, gone, fz, fzs, plain, rowsAt, List.cons_append, List.nil_append, covT, covB, covBlk, cov, covs, keys, get, blk, jn, subs, mem, names, namess, Option.map_some, Option.map_none, Option.getD_some, Option.getD_none, resS, resT, resT.resT', ownS, Nat.reduceEqDiff, ↓reduceIte, if_true, if_false, and_true, true_and, and_self, Nat.reduceAdd, List.map_cons, List.map_nil, ite_true, ite_false, reduceCtorEq]))
    all_goals clear g1 hok hP hD hG' hX
    all_goals try (first | (intro hk; refine ⟨hk, fun h2 => ?_⟩; first | (rw [hk, h2]; rfl) | (rw [hk, decide_eq_false h2]; rfl)) | (intro hk; rw [decide_eq_false hk]; rfl) | (intro hk; rw [hk]; rfl))
    all_goals (subst hr; unfold wrongSayS; simp only)
    all_goals grind
  exact hcon _ rfl
set_option maxRecDepth 100000 in
set_option maxHeartbeats 2000000 in
theorem con_refwrongsay (s : LSay) (hs : s.note.Fits) : Con Try.prog D 59 [sayA s] ⟨.int .i64 (wrongSayS s), []⟩ := by
  obtain ⟨kind, n, m, err, ⟨ps, bs⟩⟩ := s
  have h1 := hs.2.1
  have h2 := hs.2.2
  simp only at h1 h2
  have g1 : tabG [eRefwrong] 30 [noteA ⟨ps, bs⟩] = some ⟨.int .i64 (wrongS ⟨ps, bs⟩), []⟩ := tabG_at (E := eRefwrong) (T := [eRefwrong]) (i := 0) rfl (by decide) _ hs rfl rfl
  have hok : GOk Try.prog D (tabG [eRefwrong]) := tabG_ok _
  generalize tabG [eRefwrong] = G at *
  simp only [noteA] at g1
  have hcon : ∀ r, r = wrongSayS ⟨kind, n, m, err, ⟨ps, bs⟩⟩ → Con Try.prog D 59 [sayA ⟨kind, n, m, err, ⟨ps, bs⟩⟩] ⟨.int .i64 r, []⟩ := by
    intro r hr
    refine con_of (G := G) (rs := [(2, none)]) mixed tok hok Try.func59 rfl (by decide) Try.results59 (by decide) rfl Try.ntmps59 (by simp) (by simp [sayA, namess, names]) fun X hP hD hG' hX => evC_sound hX (fun _ => {}) _ _ _ ?_
    simp only [argS, num, sayA]
    simp (disch := ((try simp only [List.length_drop, List.length_take, List.length_append, List.length_cons, List.length_nil, List.length_map]); omega)) only [go_sem, Nat.reduceLeDiff, reduceCtorEq, Nat.reduceAdd, Nat.reduceSub, Nat.reduceMul, Nat.reduceLT, Nat.reduceEqDiff, Int.reduceEq, Int.reduceLE, Int.reduceLT, Int.reducePow, Int.reduceMul, Int.reduceToNat, Int.reduceNeg, ↓reduceIte, ← List.map_take, ← List.map_drop, hD, hG', wrap64, g1, unbox, tmv, Option.some.injEq, exists_eq_left']
    iterate 24 (all_goals (try (first | (refine RegT.mk [] ?_; simp (disch := ((try simp only [List.length_drop, List.length_take, List.length_append, List.length_cons, List.length_nil, List.length_map]); omega)) only [go_sem, Nat.reduceLeDiff, reduceCtorEq, Nat.reduceAdd, Nat.reduceSub, Nat.reduceMul, Nat.reduceLT, Nat.reduceEqDiff, Int.reduceEq, Int.reduceLE, Int.reduceLT, Int.reducePow, Int.reduceMul, Int.reduceToNat, Int.reduceNeg, ↓reduceIte, ← List.map_take, ← List.map_drop, hD, hG', wrap64, g1, unbox, tmv, Option.some.injEq, exists_eq_left']) | (refine condK_split (fun h => ?_) (fun h => ?_) <;> simp (disch := ((try simp only [List.length_drop, List.length_take, List.length_append, List.length_cons, List.length_nil, List.length_map]); omega)) only [go_sem, Nat.reduceLeDiff, reduceCtorEq, Nat.reduceAdd, Nat.reduceSub, Nat.reduceMul, Nat.reduceLT, Nat.reduceEqDiff, Int.reduceEq, Int.reduceLE, Int.reduceLT, Int.reducePow, Int.reduceMul, Int.reduceToNat, Int.reduceNeg, ↓reduceIte, ← List.map_take, ← List.map_drop, hD, hG', wrap64, g1, unbox, tmv, Option.some.injEq, exists_eq_left']) | and_intros)))
    all_goals (try (refine ⟨[], [], rfl, rfl, ?_, ?_⟩ <;> simp only [freeze_nil, freeze_cons, mapT, mapB, mapL, gone, fz, fzs, plain, rowsAt, List.cons_append, List.nil_append, covT, covB, covBlk, cov, covs, keys, get, blk, jn, subs, mem, names, namess, Option.map_some, Option.map_none, Option.getD_some, Option.getD_none, resS, resT, resT.resT', ownS, Nat.reduceEqDiff, ↓reduceIte, if_true, if_false, and_true, true_and, and_self, Nat.reduceAdd, List.map_cons, List.map_nil, ite_true, ite_false, reduceCtorEq]))
    all_goals clear g1 hok hP hD hG' hX
    all_goals try (first | (intro hk; refine ⟨hk, fun h2 => ?_⟩; first | (rw [hk, h2]; rfl) | (rw [hk, decide_eq_false h2]; rfl)) | (intro hk; rw [decide_eq_false hk]; rfl) | (intro hk; rw [hk]; rfl))
    all_goals try ((try and_intros); all_goals (try first | omega | decide | (simp; done) | (simp only [List.length_append, List.length_cons, List.length_nil, List.length_map]; omega)))
    all_goals (subst hr; unfold wrongSayS; simp only)
    all_goals grind
  exact hcon _ rfl
end Go.Proofs.Ytcgdjdlcecnanaa.Ab
namespace Go.Proofs.Ytcgdjdlcecnanaa.Ab
open Go Go.RowKit
set_option linter.unusedVariables false
set_option linter.unusedSimpArgs false

set_option maxRecDepth 100000 in
set_option maxHeartbeats 4000000 in
theorem con_wrongask (s : LAsk) (hs : s.Fits) : Con Try.prog D 97 [askA s] ⟨.int .i64 (wrongAskS s), []⟩ := by
  obtain ⟨kind, q, n, ⟨ps, bs⟩⟩ := s
  obtain ⟨hq, hs⟩ := hs
  have h1 := hs.2.1
  have h2 := hs.2.2
  simp only at h1 h2 hq
  have g1 : tabG [eWrong, eKey] 29 [noteA ⟨ps, bs⟩] = some ⟨.int .i64 (wrongS ⟨ps, bs⟩), []⟩ := tabG_at (E := eWrong) (T := [eWrong, eKey]) (i := 0) rfl (by decide) _ hs rfl rfl
  have g2 : tabG [eWrong, eKey] 31 [.str q.data.toList] = some ⟨.bool (keyS q), []⟩ := tabG_at (E := eKey) (T := [eWrong, eKey]) (i := 1) rfl (by decide) q hq rfl rfl
  have hok : GOk Try.prog D (tabG [eWrong, eKey]) := tabG_ok _
  generalize tabG [eWrong, eKey] = G at *
  simp only [noteA] at g1
  have hl : q.data.toList.length = q.size := rfl
  have hcon : ∀ r, r = wrongAskS ⟨kind, q, n, ⟨ps, bs⟩⟩ → Con Try.prog D 97 [askA ⟨kind, q, n, ⟨ps, bs⟩⟩] ⟨.int .i64 r, []⟩ := by
    intro r hr
    refine con_of (G := G) (rs := [(2, none)]) mixed tok hok Try.func97 rfl (by decide) Try.results97 (by decide) rfl Try.ntmps97 (by simp) (by simp [askA, namess, names]) fun X hP hD hG' hX => evC_sound hX (fun _ => {}) _ _ _ ?_
    simp only [argS, num, askA]
    generalize q.data.toList = ql at *
    simp (disch := ((try simp only [List.length_drop, List.length_take, List.length_append, List.length_cons, List.length_nil, List.length_map]); omega)) only [go_sem, Nat.reduceLeDiff, reduceCtorEq, Nat.reduceAdd, Nat.reduceSub, Nat.reduceMul, Nat.reduceLT, Nat.reduceEqDiff, Int.reduceEq, Int.reduceLE, Int.reduceLT, Int.reducePow, Int.reduceMul, Int.reduceToNat, Int.reduceNeg, ↓reduceIte, ← List.map_take, ← List.map_drop, hD, hG', wrap64, g1, g2, unbox, tmv, Option.some.injEq, exists_eq_left']
    iterate 24 (all_goals (try (first | (refine RegT.mk [] ?_; simp (disch := ((try simp only [List.length_drop, List.length_take, List.length_append, List.length_cons, List.length_nil, List.length_map]); omega)) only [go_sem, Nat.reduceLeDiff, reduceCtorEq, Nat.reduceAdd, Nat.reduceSub, Nat.reduceMul, Nat.reduceLT, Nat.reduceEqDiff, Int.reduceEq, Int.reduceLE, Int.reduceLT, Int.reducePow, Int.reduceMul, Int.reduceToNat, Int.reduceNeg, ↓reduceIte, ← List.map_take, ← List.map_drop, hD, hG', wrap64, g1, g2, unbox, tmv, Option.some.injEq, exists_eq_left']) | (refine condK_split (fun h => ?_) (fun h => ?_) <;> simp (disch := ((try simp only [List.length_drop, List.length_take, List.length_append, List.length_cons, List.length_nil, List.length_map]); omega)) only [go_sem, Nat.reduceLeDiff, reduceCtorEq, Nat.reduceAdd, Nat.reduceSub, Nat.reduceMul, Nat.reduceLT, Nat.reduceEqDiff, Int.reduceEq, Int.reduceLE, Int.reduceLT, Int.reducePow, Int.reduceMul, Int.reduceToNat, Int.reduceNeg, ↓reduceIte, ← List.map_take, ← List.map_drop, hD, hG', wrap64, g1, g2, unbox, tmv, Option.some.injEq, exists_eq_left']) | and_intros)))
    all_goals (try (refine ⟨[], [], rfl, rfl, ?_, ?_⟩ <;> simp only [freeze_nil, freeze_cons, mapT, mapB, mapL, gone, fz, fzs, plain, rowsAt, List.cons_append, List.nil_append, covT, covB, covBlk, cov, covs, keys, get, blk, jn, subs, mem, names, namess, Option.map_some, Option.map_none, Option.getD_some, Option.getD_none, resS, resT, resT.resT', ownS, Nat.reduceEqDiff, ↓reduceIte, if_true, if_false, and_true, true_and, and_self, Nat.reduceAdd, List.map_cons, List.map_nil, ite_true, ite_false, reduceCtorEq]))
    all_goals clear g1 g2 hok hP hD hG' hX
    all_goals try (first | (intro hk; refine ⟨hk, fun h2 => ?_⟩; first | (rw [hk, h2]; rfl) | (rw [hk, decide_eq_false h2]; rfl)) | (intro hk; rw [decide_eq_false hk]; rfl) | (intro hk; rw [hk]; rfl))
    all_goals (subst hr; unfold wrongAskS namedS lowS highS; simp only)
    all_goals grind
  exact hcon _ rfl
end Go.Proofs.Ytcgdjdlcecnanaa.Ab
namespace Go.Proofs.Ytcgdjdlcecnanaa.Ab
open Go Go.RowKit
set_option linter.unusedVariables false
set_option linter.unusedSimpArgs false

def namedM : List (Value × Value) := [(.int .i64 2, .bool true), (.int .i64 3, .bool true), (.int .i64 4, .bool true), (.int .i64 5, .bool true), (.int .i64 6, .bool true), (.int .i64 9, .bool true)]
theorem namedM_look (k : Int) : lookV (.int .i64) (.int .i64 k) (.bool false) namedM = some (.bool (namedS k)) := by
  unfold namedM namedS
  simp only [lookV, Instr.sameNow]
  grind
theorem zero_bool (W : World) : (zeroValue 4).run Try.prog W = .ok (.bool false) W := by kernel_rfl
set_option maxRecDepth 100000 in
set_option maxHeartbeats 4000000 in
theorem con_refwrongask (s : LAsk) (hs : s.Fits) : Con Try.prog D 60 [askA s] ⟨.int .i64 (wrongAskS s), []⟩ := by
  obtain ⟨kind, q, n, ⟨ps, bs⟩⟩ := s
  obtain ⟨hq, hs⟩ := hs
  have h1 := hs.2.1
  have h2 := hs.2.2
  simp only at h1 h2 hq
  have g1 : tabG [eRefwrong, eRefkey] 30 [noteA ⟨ps, bs⟩] = some ⟨.int .i64 (wrongS ⟨ps, bs⟩), []⟩ := tabG_at (E := eRefwrong) (T := [eRefwrong, eRefkey]) (i := 0) rfl (by decide) _ hs rfl rfl
  have g2 : tabG [eRefwrong, eRefkey] 32 [.str q.data.toList] = some ⟨.bool (keyS q), []⟩ := tabG_at (E := eRefkey) (T := [eRefwrong, eRefkey]) (i := 1) rfl (by decide) q hq rfl rfl
  have hok : GOk Try.prog D (tabG [eRefwrong, eRefkey]) := tabG_ok _
  generalize tabG [eRefwrong, eRefkey] = G at *
  simp only [noteA] at g1
  have hl : q.data.toList.length = q.size := rfl
  have hcon : ∀ r, r = wrongAskS ⟨kind, q, n, ⟨ps, bs⟩⟩ → Con Try.prog D 60 [askA ⟨kind, q, n, ⟨ps, bs⟩⟩] ⟨.int .i64 r, []⟩ := by
    intro r hr
    refine con_of (G := G) (rs := [(2, none)]) mixed tok hok Try.func60 rfl (by decide) Try.results60 (by decide) rfl Try.ntmps60 (by simp) (by simp [askA, namess, names]) fun X hP hD hG' hX => evC_sound hX (fun id => match id with | 3 => {hand := true} | _ => {}) _ _ _ ?_
    simp only [argS, num, askA]
    generalize q.data.toList = ql at *
    simp (disch := ((try simp only [List.length_drop, List.length_take, List.length_append, List.length_cons, List.length_nil, List.length_map]); omega)) only [go_sem, Nat.reduceLeDiff, reduceCtorEq, Nat.reduceAdd, Nat.reduceSub, Nat.reduceMul, Nat.reduceLT, Nat.reduceEqDiff, Int.reduceEq, Int.reduceLE, Int.reduceLT, Int.reducePow, Int.reduceMul, Int.reduceToNat, Int.reduceNeg, ↓reduceIte, ← List.map_take, ← List.map_drop, hD, hG', wrap64, g1, g2, unbox, tmv, Option.some.injEq, exists_eq_left']
    refine RegT.mk [] ?_
    simp (disch := ((try simp only [List.length_drop, List.length_take, List.length_append, List.length_cons, List.length_nil, List.length_map]); omega)) only [go_sem, Nat.reduceLeDiff, reduceCtorEq, Nat.reduceAdd, Nat.reduceSub, Nat.reduceMul, Nat.reduceLT, Nat.reduceEqDiff, Int.reduceEq, Int.reduceLE, Int.reduceLT, Int.reducePow, Int.reduceMul, Int.reduceToNat, Int.reduceNeg, ↓reduceIte, ← List.map_take, ← List.map_drop, hD, hG', wrap64, g1, g2, unbox, tmv, Option.some.injEq, exists_eq_left']
    and_intros
    · (first | (intro hk; refine ⟨hk, fun h2 => ?_⟩; first | (rw [hk, h2]; rfl) | (rw [hk, decide_eq_false h2]; rfl)) | (intro hk; rw [decide_eq_false hk]; rfl) | (intro hk; rw [hk]; rfl))
    refine condK_split (fun h => ?_) (fun h => ?_)
    · simp (disch := ((try simp only [List.length_drop, List.length_take, List.length_append, List.length_cons, List.length_nil, List.length_map]); omega)) only [go_sem, Nat.reduceLeDiff, reduceCtorEq, Nat.reduceAdd, Nat.reduceSub, Nat.reduceMul, Nat.reduceLT, Nat.reduceEqDiff, Int.reduceEq, Int.reduceLE, Int.reduceLT, Int.reducePow, Int.reduceMul, Int.reduceToNat, Int.reduceNeg, ↓reduceIte, ← List.map_take, ← List.map_drop, hD, hG', wrap64, g1, g2, unbox, tmv, Option.some.injEq, exists_eq_left']
      refine ⟨[], [], rfl, rfl, ?_, ?_⟩ <;> simp only [freeze_nil, freeze_cons, mapT, mapB, mapL, gone, fz, fzs, plain, rowsAt, List.cons_append, List.nil_append, covT, covB, covBlk, cov, covs, keys, get, blk, jn, subs, mem, names, namess, Option.map_some, Option.map_none, Option.getD_some, Option.getD_none, resS, resT, resT.resT', ownS, Nat.reduceEqDiff, ↓reduceIte, if_true, if_false, and_true, true_and, and_self, Nat.reduceAdd, List.map_cons, List.map_nil, ite_true, ite_false, reduceCtorEq]
      subst hr
      unfold wrongAskS
      grind
    have hu : X.P.underlying 124 = some (.map 3 4) := by rw [hP]; exact Try.underlying124
    have hk : X.P.underlying 3 = some (.int .i64) := by rw [hP]; exact Try.underlying3
    simp (disch := ((try simp only [List.length_drop, List.length_take, List.length_append, List.length_cons, List.length_nil, List.length_map]); omega)) only [go_sem, Nat.reduceLeDiff, reduceCtorEq, Nat.reduceAdd, Nat.reduceSub, Nat.reduceMul, Nat.reduceLT, Nat.reduceEqDiff, Int.reduceEq, Int.reduceLE, Int.reduceLT, Int.reducePow, Int.reduceMul, Int.reduceToNat, Int.reduceNeg, ↓reduceIte, ← List.map_take, ← List.map_drop, hD, hG', wrap64, g1, g2, unbox, tmv, Option.some.injEq, exists_eq_left']
    refine Tr.lit hX 0 (d := 14) namedM hu hk (by decide) ⟨_, rfl, rfl, rfl, rfl⟩ (by decide) ?_ ?_ ?_
    · unfold namedM litOps
      repeat (first | exact trivial | refine ⟨⟨_, rfl, _, _, rfl, rfl, rfl, fun _ => rfl, fun _ => rfl⟩, ?_⟩ | unfold litOps)
    · unfold namedM litNew
      repeat (first | exact trivial | refine ⟨rfl, rfl, ?_⟩ | unfold litNew)
    have hlen : namedM.length = 6 := rfl
    generalize hnm : namedM = nm at hlen ⊢
    have hlook := namedM_look kind
    rw [hnm] at hlook
    generalize hnk : namedS kind = nk at hlook
    simp (disch := ((try simp only [List.length_drop, List.length_take, List.length_append, List.length_cons, List.length_nil, List.length_map]); omega)) only [go_sem, Nat.reduceLeDiff, reduceCtorEq, Nat.reduceAdd, Nat.reduceSub, Nat.reduceMul, Nat.reduceLT, Nat.reduceEqDiff, Int.reduceEq, Int.reduceLE, Int.reduceLT, Int.reducePow, Int.reduceMul, Int.reduceToNat, Int.reduceNeg, ↓reduceIte, ← List.map_take, ← List.map_drop, hD, hG', wrap64, g1, g2, hlen, unbox, tmv, Option.some.injEq, exists_eq_left']
    refine inl_look (dk := .int .i64) (key := .int .i64 kind) (z := .bool false) (v := .bool nk) (av := .bool nk) hu hk rfl rfl rfl (by rw [hP]; exact zero_bool) (by simp [cst]) hlook (fun _ _ _ => .bool _) rfl (by simp) ?_
    simp (disch := ((try simp only [List.length_drop, List.length_take, List.length_append, List.length_cons, List.length_nil, List.length_map]); omega)) only [go_sem, Nat.reduceLeDiff, reduceCtorEq, Nat.reduceAdd, Nat.reduceSub, Nat.reduceMul, Nat.reduceLT, Nat.reduceEqDiff, Int.reduceEq, Int.reduceLE, Int.reduceLT, Int.reducePow, Int.reduceMul, Int.reduceToNat, Int.reduceNeg, ↓reduceIte, ← List.map_take, ← List.map_drop, hD, hG', wrap64, g1, g2, unbox, tmv, Option.some.injEq, exists_eq_left']
    iterate 24 (all_goals (try (first | (refine RegT.mk [] ?_; simp (disch := ((try simp only [List.length_drop, List.length_take, List.length_append, List.length_cons, List.length_nil, List.length_map]); omega)) only [go_sem, Nat.reduceLeDiff, reduceCtorEq, Nat.reduceAdd, Nat.reduceSub, Nat.reduceMul, Nat.reduceLT, Nat.reduceEqDiff, Int.reduceEq, Int.reduceLE, Int.reduceLT, Int.reducePow, Int.reduceMul, Int.reduceToNat, Int.reduceNeg, ↓reduceIte, ← List.map_take, ← List.map_drop, hD, hG', wrap64, g1, g2, unbox, tmv, Option.some.injEq, exists_eq_left']) | (refine condK_split (fun h => ?_) (fun h => ?_) <;> simp (disch := ((try simp only [List.length_drop, List.length_take, List.length_append, List.length_cons, List.length_nil, List.length_map]); omega)) only [go_sem, Nat.reduceLeDiff, reduceCtorEq, Nat.reduceAdd, Nat.reduceSub, Nat.reduceMul, Nat.reduceLT, Nat.reduceEqDiff, Int.reduceEq, Int.reduceLE, Int.reduceLT, Int.reducePow, Int.reduceMul, Int.reduceToNat, Int.reduceNeg, ↓reduceIte, ← List.map_take, ← List.map_drop, hD, hG', wrap64, g1, g2, unbox, tmv, Option.some.injEq, exists_eq_left']) | and_intros)))
    all_goals (try (refine ⟨[], [], rfl, rfl, ?_, ?_⟩ <;> simp only [freeze_nil, freeze_cons, mapT, mapB, mapL, gone, fz, fzs, plain, rowsAt, List.cons_append, List.nil_append, covT, covB, covBlk, cov, covs, keys, get, blk, jn, subs, mem, names, namess, Option.map_some, Option.map_none, Option.getD_some, Option.getD_none, resS, resT, resT.resT', ownS, Nat.reduceEqDiff, ↓reduceIte, if_true, if_false, and_true, true_and, and_self, Nat.reduceAdd, List.map_cons, List.map_nil, ite_true, ite_false, reduceCtorEq]))
    all_goals clear g1 g2 hok hP hD hG' hX hu hk hlook
    all_goals try (first | (intro hk; refine ⟨hk, fun h2 => ?_⟩; first | (rw [hk, h2]; rfl) | (rw [hk, decide_eq_false h2]; rfl)) | (intro hk; rw [decide_eq_false hk]; rfl) | (intro hk; rw [hk]; rfl))
    all_goals (subst hr; unfold wrongAskS lowS highS; simp only)
    all_goals grind
  exact hcon _ rfl
end Go.Proofs.Ytcgdjdlcecnanaa.Ab
namespace Go.Proofs.Ytcgdjdlcecnanaa.Ab
open Go Go.RowKit
set_option linter.unusedVariables false
set_option linter.unusedSimpArgs false

theorem numS_flat (w : World) (im : Nat → Prop) (ρ : Env) (n : Int) : FlatRel w im ρ 1 ((numS n).map byteRow) ((numS n).map byteV) := by
  refine ⟨by simp, fun i row hi => ?_⟩
  rw [List.getElem?_map] at hi
  obtain ⟨b, hb, rfl⟩ := Option.map_eq_some_iff.1 hi
  refine ⟨rfl, fun j x hj => ?_⟩
  cases j with
  | succ j => simp [byteRow] at hj
  | zero =>
    simp [byteRow] at hj
    subst hj
    refine ⟨by simp [names], byteV b, ?_, rfl, .int _ _⟩
    rw [Nat.mul_one, Nat.add_zero, List.getElem?_map, hb]
    rfl
theorem numS_vals (n : Int) : (numS n).map byteV = [.int .u8 (n / 16777216 % 256), .int .u8 (n / 65536 % 256), .int .u8 (n / 256 % 256), .int .u8 (n % 256)] := by
  simp only [numS, List.map_cons, List.map_nil, byteV, byteI_nat]
set_option maxRecDepth 40000 in
set_option maxHeartbeats 400000 in
theorem frnum_calls (n : Int) (rs : List (List AV)) (hn : rs.length ≤ 8388608) (w : World) (im : Nat → Prop) (ρ : Env) (u : Value) (xs : List Value) (hown : w.ownsRow 0 5 1 u rs.length xs) (hf : FlatRel w im ρ 1 rs xs) :
    Calls Try.prog 91 #[u, .int .i64 n] w (RowsPost w im ρ 5 1 u (rs ++ (numS n).map byteRow)) := by
  obtain ⟨i0, hi0, hz0, hz1, hz2⟩ := info_parts info_u8
  have HO := Lib.hid hown
  have HF := Lib.hid hf
  clear hown hf
  go_enter Try.func91, Try.ntmps91
  have HN := Lib.hid (numS_vals n)
  go_wp2_with (at_builtin; refine wpList_append_any _ rfl (.tmp 5) (.tmp 17) _ rfl 0 5 i0 _ 1 1 Try.underlying22 hi0 hz0 hz1 hz2 rfl (by omega) u rs.length xs rfl (own_later HO.out (by repeat (first | exact Below.refl _ _ | apply below_alloc | apply Below.drew | apply below_drewN))) (· = w.heap.size) (some ⟨w.heap.size, 0, none⟩) 4 4 ((numS n).map byteV) rfl (by rw [HN.out]; exact reads_lit w _ 5 1 4 rfl) (one_bytes _) (by simp only [maxLen]; omega) (by omega) (by simp) ?_; intro v1 w1 hown1 hg1 hat1)
  go_ret
  have hlen : (rs ++ (numS n).map byteRow).length = rs.length + 4 := by simp [numS]
  refine ⟨v1, xs ++ (numS n).map byteV, rfl, ?_, HF.out.append (numS_flat w im ρ n), ?_, ?_⟩
  · rw [hlen]; exact hown1
  · exact ⟨hg1.os, hg1.tape, hg1.output, by have := hg1.size; simp at this; omega, fun g hg hne => by rw [hg1.block g (by simp; omega) hne]; exact Below.heap_alloc w _ g hg⟩
  · intro b hb
    rcases hat1 with h | h
    · rw [h] at hb; exact .inl hb
    · rw [h] at hb
      have : b = w.heap.size + 1 := by simpa using hb.symm
      exact .inr (by omega)
/-- what num does to bytes of our own -/
def frnumM : MCtr := fun dn f args bl => if f = 91 then
    match args with
    | [.os v, .int .i64 n] => match bl v with
      | some (.rows e sz rs) => some { v := .os dn, kl := [v], nw := [(dn, .rows e sz (rs ++ (numS n).map byteRow))], pre := (e = 5 ∧ sz = 1) ∧ rs.length ≤ 8388608 }
      | _ => none
    | _ => none
  else none
theorem mok_frnum {G : Ctr} : MOk Try.prog D G frnumM := by
  intro X hP hD hG hM hmx hT hok ops o σ e hgd he hpre hfr
  obtain ⟨dst, f, args, types, ty, pos, af, g, caps, rfl, hf, he⟩ := mEff_call he hgd
  unfold frnumM at he
  split at he
  case isFalse => cases he
  rename_i hg91
  subst hg91
  split at he
  case h_2 => cases he
  rename_i v n hargs
  split at he
  case h_2 => cases he
  rename_i e0 sz rs hbl
  have hbl := snap_some hbl
  injection he with he
  subst he
  obtain ⟨⟨rfl, rfl⟩, hl⟩ := hpre
  simp only [fresh, keys, unbound, Bool.and_eq_true, Option.isNone_iff_eq_none] at hfr
  refine inl_rows (by rw [hP, hD]; exact hT) hf hargs hbl (by rw [hP]; exact Try.func91) rfl (by decide) hfr.1.1 (fun k hk => ?_) (fun w im ρ u vs xs h1 h2 h3 h4 h5 => ?_)
  · have := hfr.2
    rw [hk] at this
    simpa using this
  · obtain ⟨h6, h7⟩ := h4
    match vs, h6 with
    | [y], _ =>
      have := h7 0 _ y rfl rfl
      rw [this.int_, hP]
      exact frnum_calls n rs hl w im ρ u xs h1 h2
end Go.Proofs.Ytcgdjdlcecnanaa.Ab
namespace Go.Proofs.Ytcgdjdlcecnanaa.Ab
open Go Go.RowKit
set_option linter.unusedVariables false
set_option linter.unusedSimpArgs false

theorem rowApp (a b : List UInt8) : a.map byteRow ++ b.map byteRow = (a ++ b).map byteRow := List.map_append.symm
theorem rowTail (a : List UInt8) (x y : UInt8) : a.map byteRow ++ [[AV.int .u8 (x.toNat : Int)], [AV.int .u8 (y.toNat : Int)]] = (a ++ [x, y]).map byteRow := by simp [byteRow]
def framedS (l : List UInt8) : List UInt8 := byteI (l.length / 256) :: byteI l.length :: l
def askB (a : LAsk) : List UInt8 := byteI a.kind :: (textS a.queue.data.toList ++ numS a.n ++ (if a.kind = 4 then bytesN a.note else []))
def sayB (s : LSay) : List UInt8 := byteI s.kind :: (numS s.n ++ [byteI s.m, byteI s.err] ++ (if s.kind = 2 then bytesN s.note else []))
theorem con_framed (l : List UInt8) (hl : l.length ≤ 8388608) : Con Try.prog D 92 [.sl 1 (l.map byteRow)] ⟨.os 0, [(5, 1, (framedS l).map byteRow)]⟩ := by
  have hok : GOk Try.prog D (tabG []) := tabG_ok _
  refine con_of (G := tabG []) (rs := [(2, none)]) mixed tok hok Try.func92 rfl (by decide) Try.results92 (by decide) rfl Try.ntmps92 (by simp) (by simp [namess, names]) fun X hP hD hG' hX => evC_sound hX (fun _ => {}) _ _ _ ?_
  simp only [argS, num]
  have hw : IntKind.wrap .i64 ((l.length : Int) / 256) = (l.length : Int) / 256 := wrap64 (by omega) (by omega)
  simp (disch := ((try simp only [List.length_drop, List.length_take, List.length_append, List.length_cons, List.length_nil, List.length_map]); omega)) only [go_sem, Nat.reduceLeDiff, reduceCtorEq, Nat.reduceAdd, Nat.reduceSub, Nat.reduceMul, Nat.reduceLT, Nat.reduceEqDiff, Int.reduceEq, Int.reduceLE, Int.reduceLT, Int.reducePow, Int.reduceMul, Int.reduceToNat, Int.reduceNeg, ↓reduceIte, ← List.map_take, ← List.map_drop, hD, hG', wrap64, wrap8, shr8, hw, unbox, tmv, Option.some.injEq, exists_eq_left']
  ((try and_intros); all_goals (try first | omega | decide | (simp; done) | (simp only [List.length_append, List.length_cons, List.length_nil, List.length_map]; omega)))
  refine ⟨[], [(0, 12)], rfl, rfl, ?_, ?_⟩ <;> simp only [freeze_nil, freeze_cons, mapT, mapB, mapL, gone, fz, fzs, plain, rowsAt, List.cons_append, List.nil_append, covT, covB, covBlk, cov, covs, keys, get, blk, jn, subs, mem, names, namess, Option.map_some, Option.map_none, Option.getD_some, Option.getD_none, resS, resT, resT.resT', ownS, Nat.reduceEqDiff, ↓reduceIte, if_true, if_false, and_true, true_and, and_self, Nat.reduceAdd, List.map_cons, List.map_nil, ite_true, ite_false, reduceCtorEq, D_3, D_5, D_9, D_22, D_40, D_42, D_80, D_99]
  all_goals simp [framedS, byteRow]
theorem con_refframed (l : List UInt8) (hl : l.length ≤ 8388608) : Con Try.prog D 93 [.sl 1 (l.map byteRow)] ⟨.os 0, [(5, 1, (framedS l).map byteRow)]⟩ := by
  have hok : GOk Try.prog D (tabG []) := tabG_ok _
  refine con_of (G := tabG []) (rs := [(2, none)]) mixed tok hok Try.func93 rfl (by decide) Try.results93 (by decide) rfl Try.ntmps93 (by simp) (by simp [namess, names]) fun X hP hD hG' hX => evC_sound hX (fun _ => {}) _ _ _ ?_
  simp only [argS, num]
  have hw : IntKind.wrap .i64 ((l.length : Int).tdiv 256) = (l.length : Int) / 256 := by rw [Int.tdiv_eq_ediv_of_nonneg (by omega)]; exact wrap64 (by omega) (by omega)
  have hm : (l.length : Int).tmod 256 = (l.length : Int) % 256 := Int.tmod_eq_emod_of_nonneg (by omega)
  have hb : byteI ((l.length : Int) % 256) = byteI l.length := byteI_eq (by omega)
  simp (disch := ((try simp only [List.length_drop, List.length_take, List.length_append, List.length_cons, List.length_nil, List.length_map]); omega)) only [go_sem, Nat.reduceLeDiff, reduceCtorEq, Nat.reduceAdd, Nat.reduceSub, Nat.reduceMul, Nat.reduceLT, Nat.reduceEqDiff, Int.reduceEq, Int.reduceLE, Int.reduceLT, Int.reducePow, Int.reduceMul, Int.reduceToNat, Int.reduceNeg, ↓reduceIte, ← List.map_take, ← List.map_drop, hD, hG', wrap64, wrap8, hw, hm, hb, unbox, tmv, Option.some.injEq, exists_eq_left']
  ((try and_intros); all_goals (try first | omega | decide | (simp; done) | (simp only [List.length_append, List.length_cons, List.length_nil, List.length_map]; omega)))
  refine ⟨[], [(0, 13)], rfl, rfl, ?_, ?_⟩ <;> simp only [freeze_nil, freeze_cons, mapT, mapB, mapL, gone, fz, fzs, plain, rowsAt, List.cons_append, List.nil_append, covT, covB, covBlk, cov, covs, keys, get, blk, jn, subs, mem, names, namess, Option.map_some, Option.map_none, Option.getD_some, Option.getD_none, resS, resT, resT.resT', ownS, Nat.reduceEqDiff, ↓reduceIte, if_true, if_false, and_true, true_and, and_self, Nat.reduceAdd, List.map_cons, List.map_nil, ite_true, ite_false, reduceCtorEq, D_3, D_5, D_9, D_22, D_40, D_42, D_80, D_99]
  all_goals simp [framedS, byteRow]
def eFramed : Ent Try.prog D := ⟨92, List UInt8, fun l => [.sl 1 (l.map byteRow)], fun l => l.length ≤ 8388608, fun l => ⟨.os 0, [(5, 1, (framedS l).map byteRow)]⟩, fun x y _ _ h => by
  simp only [List.cons.injEq, AV.sl.injEq, true_and, and_true] at h
  rw [bytes_inj h], con_framed⟩
def eReframed : Ent Try.prog D := ⟨93, List UInt8, fun l => [.sl 1 (l.map byteRow)], fun l => l.length ≤ 8388608, fun l => ⟨.os 0, [(5, 1, (framedS l).map byteRow)]⟩, fun x y _ _ h => by
  simp only [List.cons.injEq, AV.sl.injEq, true_and, and_true] at h
  rw [bytes_inj h], con_refframed⟩
theorem wrongAsk_ok {a : LAsk} (h : wrongAskS a = 0) : 1 ≤ a.kind ∧ a.kind ≤ 9 ∧ a.queue.size ≤ 8 ∧ 0 ≤ a.n ∧ a.n ≤ 1073741824 ∧ wrongS a.note = 0 ∧ (a.kind ≠ 4 → a.note = note0) := by
  unfold wrongAskS at h
  have hk : keyS a.queue = true → a.queue.size ≤ 8 := fun hk => by
    unfold keyS at hk
    simp at hk
    omega
  have h0 := @note_empty a.note
  have h1 : wrongS note0 = 0 := rfl
  by_cases h9 : a.kind < 1 ∨ 9 < a.kind
  · rw [if_pos h9] at h; cases h
  rw [if_neg h9] at h
  have hlo : 0 ≤ lowS a.kind := by unfold lowS; split <;> omega
  have hhi : highS a.kind ≤ 1073741824 := by unfold highS; split <;> (try split) <;> omega
  by_cases hq : (if namedS a.kind = true then keyS a.queue = false else a.queue.size ≠ 0)
  · rw [if_pos hq] at h; cases h
  rw [if_neg hq] at h
  by_cases hn : a.n < lowS a.kind ∨ highS a.kind < a.n
  · rw [if_pos hn] at h; cases h
  rw [if_neg hn] at h
  by_cases hb : a.kind ≠ 4 ∧ 0 < a.note.props.length + a.note.body.length
  · rw [if_pos hb] at h; cases h
  rw [if_neg hb] at h
  refine ⟨by omega, by omega, ?_, by omega, by omega, h, fun h4 => h0 (by omega)⟩
  cases hnm : namedS a.kind
  · rw [hnm, if_neg (by simp)] at hq; omega
  · rw [hnm, if_pos rfl] at hq; exact hk (by simpa using hq)
theorem wrongSay_ok {s : LSay} (h : wrongSayS s = 0) : 1 ≤ s.kind ∧ s.kind ≤ 4 ∧ 0 ≤ s.n ∧ s.n ≤ 1073741824 ∧ 0 ≤ s.m ∧ s.m ≤ 3 ∧ 0 ≤ s.err ∧ s.err ≤ 10 ∧ wrongS s.note = 0 ∧ (s.kind ≠ 2 → s.note = note0) := by
  unfold wrongSayS at h
  have h0 := @note_empty s.note
  have h1 : wrongS note0 = 0 := rfl
  by_cases hk : s.kind < 1 ∨ 4 < s.kind
  · rw [if_pos hk] at h; cases h
  rw [if_neg hk] at h
  by_cases h2 : s.kind = 2
  · rw [if_pos h2] at h
    split at h
    · cases h
    · exact ⟨by omega, by omega, by omega, by omega, by omega, by omega, by omega, by omega, h, fun h => absurd h2 h⟩
  rw [if_neg h2] at h
  split at h
  · cases h
  split at h
  · cases h
  have h3 := h0 (by omega)
  exact ⟨by omega, by omega, by omega, by omega, by omega, by omega, by omega, by omega, by rw [h3]; rfl, fun _ => h3⟩
theorem askB_len {a : LAsk} (h : wrongAskS a = 0) : (askB a).length ≤ 148 := by
  obtain ⟨_, _, h1, _, _, h2, _⟩ := wrongAsk_ok h
  have h3 := bytes_right h2
  have h4 := size_len a.queue
  simp only [askB, textS, numS, List.length_append, List.length_cons, List.length_nil]
  split
  · omega
  · simp only [List.length_nil]; omega
theorem sayB_len {s : LSay} (h : wrongSayS s = 0) : (sayB s).length ≤ 141 := by
  obtain ⟨_, _, _, _, _, _, _, _, h2, _⟩ := wrongSay_ok h
  have h3 := bytes_right h2
  simp only [sayB, numS, List.length_append, List.length_cons, List.length_nil]
  split
  · omega
  · simp only [List.length_nil]; omega
set_option maxRecDepth 100000 in
theorem con_askbytes (s : LAsk) (hs : wrongAskS s = 0) : Con Try.prog D 61 [askA s] ⟨.os 0, [(5, 1, (framedS (askB s)).map byteRow)]⟩ := by
  have hlen := askB_len hs
  obtain ⟨kind, q, n, ⟨ps, bs⟩⟩ := s
  obtain ⟨h1, h2, h3, h4, h5, h6, h7⟩ := wrongAsk_ok hs
  simp only at h1 h2 h3 h4 h5 h6 h7
  have hb := bytes_right h6
  have hl := size_len q
  have hn4 := num4 n
  have hok : GOk Try.prog D (tabG [eBytes, eFramed]) := tabG_ok _
  have g1 : tabG [eBytes, eFramed] 36 [noteA ⟨ps, bs⟩] = some ⟨.os 0, [(5, 1, (bytesN ⟨ps, bs⟩).map byteRow)]⟩ := tabG_at (E := eBytes) (T := [eBytes, eFramed]) (i := 0) rfl (by decide) _ ⟨fits_right h6, by omega⟩ rfl rfl
  have g2 : ∀ l : List UInt8, l.length ≤ 8388608 → tabG [eBytes, eFramed] 92 [.sl 1 (l.map byteRow)] = some ⟨.os 0, [(5, 1, (framedS l).map byteRow)]⟩ := fun l h => tabG_at (E := eFramed) (T := [eBytes, eFramed]) (i := 1) rfl (by decide) l h rfl rfl
  have g3 : ∀ (x y : UInt8) (l : List UInt8), l.length ≤ 8388600 → tabG [eBytes, eFramed] 92 [.sl 1 ([.int .u8 (x.toNat : Int)] :: [.int .u8 (y.toNat : Int)] :: l.map byteRow)] = some ⟨.os 0, [(5, 1, (framedS (x :: y :: l)).map byteRow)]⟩ := fun x y l h => g2 (x :: y :: l) (by simp only [List.length_cons]; omega)
  have gn : ∀ a, tabG [eBytes, eFramed] 91 a = none := fun a => rfl
  generalize tabG [eBytes, eFramed] = G at *
  simp only [noteA] at g1
  refine con_ofM mok_frnum (G := G) (rs := [(2, none)]) mixed tok hok Try.func61 rfl (by decide) Try.results61 (by decide) rfl Try.ntmps61 (by simp) (by simp [askA, namess, names]) fun X hP hD hG' hX => evC_sound hX (fun _ => {}) _ _ _ ?_
  simp only [argS, num, askA]
  simp (disch := ((try simp only [List.length_drop, List.length_take, List.length_append, List.length_cons, List.length_nil, List.length_map]); omega)) only [go_sem, Nat.reduceLeDiff, reduceCtorEq, Nat.reduceAdd, Nat.reduceSub, Nat.reduceMul, Nat.reduceLT, Nat.reduceEqDiff, Int.reduceEq, Int.reduceLE, Int.reduceLT, Int.reducePow, Int.reduceMul, Int.reduceToNat, Int.reduceNeg, ↓reduceIte, ← List.map_take, ← List.map_drop, hD, hG', wrap64, wrap8, gn, asked_none, frnumM, g1, rowApp, unbox, tmv, Option.some.injEq, exists_eq_left']
  ((try and_intros); all_goals (try first | omega | decide | (simp; done) | (simp only [List.length_append, List.length_cons, List.length_nil, List.length_map]; omega)))
  refine condK_split (fun h => ?_) (fun h => ?_)
  · have hk : kind = 4 := by simpa using h
    have he : askB ⟨kind, q, n, ⟨ps, bs⟩⟩ = byteI kind :: byteI q.data.toList.length :: (q.data.toList ++ numS n ++ bytesN ⟨ps, bs⟩) := by simp [askB, hk, textS]
    rw [he] at hlen
    rw [he]
    simp (disch := ((try simp only [List.length_drop, List.length_take, List.length_append, List.length_cons, List.length_nil, List.length_map]); omega)) only [go_sem, Nat.reduceLeDiff, reduceCtorEq, Nat.reduceAdd, Nat.reduceSub, Nat.reduceMul, Nat.reduceLT, Nat.reduceEqDiff, Int.reduceEq, Int.reduceLE, Int.reduceLT, Int.reducePow, Int.reduceMul, Int.reduceToNat, Int.reduceNeg, ↓reduceIte, ← List.map_take, ← List.map_drop, hD, hG', wrap64, wrap8, gn, asked_none, frnumM, g1, g3, rowApp, unbox, tmv, Option.some.injEq, exists_eq_left']
    ((try and_intros); all_goals (try first | omega | decide | (simp; done) | (simp only [List.length_append, List.length_cons, List.length_nil, List.length_map]; omega)))
    refine ⟨[], [(0, 4124)], rfl, rfl, ?_, ?_⟩ <;> simp only [freeze_nil, freeze_cons, mapT, mapB, mapL, gone, fz, fzs, plain, rowsAt, List.cons_append, List.nil_append, covT, covB, covBlk, cov, covs, keys, get, blk, jn, subs, mem, names, namess, Option.map_some, Option.map_none, Option.getD_some, Option.getD_none, resS, resT, resT.resT', ownS, Nat.reduceEqDiff, ↓reduceIte, if_true, if_false, and_true, true_and, and_self, Nat.reduceAdd, List.map_cons, List.map_nil, ite_true, ite_false, reduceCtorEq, D_3, D_5, D_9, D_22, D_40, D_42, D_80, D_99]
    all_goals rfl
  · have hk : ¬ kind = 4 := by simpa using h
    have he : askB ⟨kind, q, n, ⟨ps, bs⟩⟩ = byteI kind :: byteI q.data.toList.length :: (q.data.toList ++ numS n) := by simp [askB, hk, textS]
    rw [he] at hlen
    rw [he]
    simp (disch := ((try simp only [List.length_drop, List.length_take, List.length_append, List.length_cons, List.length_nil, List.length_map]); omega)) only [go_sem, Nat.reduceLeDiff, reduceCtorEq, Nat.reduceAdd, Nat.reduceSub, Nat.reduceMul, Nat.reduceLT, Nat.reduceEqDiff, Int.reduceEq, Int.reduceLE, Int.reduceLT, Int.reducePow, Int.reduceMul, Int.reduceToNat, Int.reduceNeg, ↓reduceIte, ← List.map_take, ← List.map_drop, hD, hG', wrap64, wrap8, gn, asked_none, frnumM, g1, g3, rowApp, unbox, tmv, Option.some.injEq, exists_eq_left']
    ((try and_intros); all_goals (try first | omega | decide | (simp; done) | (simp only [List.length_append, List.length_cons, List.length_nil, List.length_map]; omega)))
    refine ⟨[], [(0, 4124)], rfl, rfl, ?_, ?_⟩ <;> simp only [freeze_nil, freeze_cons, mapT, mapB, mapL, gone, fz, fzs, plain, rowsAt, List.cons_append, List.nil_append, covT, covB, covBlk, cov, covs, keys, get, blk, jn, subs, mem, names, namess, Option.map_some, Option.map_none, Option.getD_some, Option.getD_none, resS, resT, resT.resT', ownS, Nat.reduceEqDiff, ↓reduceIte, if_true, if_false, and_true, true_and, and_self, Nat.reduceAdd, List.map_cons, List.map_nil, ite_true, ite_false, reduceCtorEq, D_3, D_5, D_9, D_22, D_40, D_42, D_80, D_99]
    all_goals rfl
def refaskLo : Nat → Lo := fun id => match id with | 1 => {uo := [7], ex := [0, 1, 2, 3, 4, 5, 6, 8], kn := [7]} | _ => {}
set_option maxRecDepth 100000 in
theorem con_askframe (s : LAsk) (hs : wrongAskS s = 0) : Con Try.prog D 62 [askA s] ⟨.os 0, [(5, 1, (framedS (askB s)).map byteRow)]⟩ := by
  have hlen := askB_len hs
  obtain ⟨kind, q, n, ⟨ps, bs⟩⟩ := s
  obtain ⟨h1, h2, h3, h4, h5, h6, h7⟩ := wrongAsk_ok hs
  simp only at h1 h2 h3 h4 h5 h6 h7
  have hb := bytes_right h6
  have hl := size_len q
  have hn4 := num4 n
  have ht := textS_len q.data.toList
  have hok : GOk Try.prog D (tabG [eRefbytes, eReframed, eText, eNum]) := tabG_ok _
  have g1 : tabG [eRefbytes, eReframed, eText, eNum] 37 [noteA ⟨ps, bs⟩] = some ⟨.sl 1 ((bytesN ⟨ps, bs⟩).map byteRow), []⟩ := tabG_at (E := eRefbytes) (T := [eRefbytes, eReframed, eText, eNum]) (i := 0) rfl (by decide) _ ⟨fits_right h6, by omega⟩ rfl rfl
  have g2 : ∀ l : List UInt8, l.length ≤ 8388608 → tabG [eRefbytes, eReframed, eText, eNum] 93 [.sl 1 (l.map byteRow)] = some ⟨.os 0, [(5, 1, (framedS l).map byteRow)]⟩ := fun l h => tabG_at (E := eReframed) (T := [eRefbytes, eReframed, eText, eNum]) (i := 1) rfl (by decide) l h rfl rfl
  have g3 : ∀ (x : UInt8) (l : List UInt8), l.length ≤ 8388600 → tabG [eRefbytes, eReframed, eText, eNum] 93 [.sl 1 ([.int .u8 (x.toNat : Int)] :: l.map byteRow)] = some ⟨.os 0, [(5, 1, (framedS (x :: l)).map byteRow)]⟩ := fun x l h => g2 (x :: l) (by simp only [List.length_cons]; omega)
  have g4 : ∀ l : List UInt8, l.length ≤ 8388608 → tabG [eRefbytes, eReframed, eText, eNum] 78 [.str l] = some ⟨.sl 1 ((textS l).map byteRow), []⟩ := fun l h => tabG_at (E := eText) (T := [eRefbytes, eReframed, eText, eNum]) (i := 2) rfl (by decide) l h rfl rfl
  have g5 : ∀ n : Int, tabG [eRefbytes, eReframed, eText, eNum] 79 [.int .i64 n] = some ⟨.sl 1 ((numS n).map byteRow), []⟩ := fun n => tabG_at (E := eNum) (T := [eRefbytes, eReframed, eText, eNum]) (i := 3) rfl (by decide) n trivial rfl rfl
  generalize tabG [eRefbytes, eReframed, eText, eNum] = G at *
  simp only [noteA] at g1
  refine con_of (G := G) (rs := [(2, none)]) mixed tok hok Try.func62 rfl (by decide) Try.results62 (by decide) rfl Try.ntmps62 (by simp) (by simp [askA, namess, names]) fun X hP hD hG' hX => evC_sound hX refaskLo _ _ _ ?_
  simp only [argS, num, askA]
  simp (disch := ((try simp only [List.length_drop, List.length_take, List.length_append, List.length_cons, List.length_nil, List.length_map]); omega)) only [go_sem, Nat.reduceLeDiff, reduceCtorEq, Nat.reduceAdd, Nat.reduceSub, Nat.reduceMul, Nat.reduceLT, Nat.reduceEqDiff, Int.reduceEq, Int.reduceLE, Int.reduceLT, Int.reducePow, Int.reduceMul, Int.reduceToNat, Int.reduceNeg, ↓reduceIte, ← List.map_take, ← List.map_drop, hD, hG', wrap64, wrap8, g4, g5, g1, rowApp, refaskLo, unbox, tmv, Option.some.injEq, exists_eq_left']
  ((try and_intros); all_goals (try first | omega | decide | (simp; done) | (simp only [List.length_append, List.length_cons, List.length_nil, List.length_map]; omega)))
  refine condK_split (fun h => ?_) (fun h => ?_)
  · have hk : kind = 4 := by simpa using h
    have he : askB ⟨kind, q, n, ⟨ps, bs⟩⟩ = byteI kind :: (textS q.data.toList ++ numS n ++ bytesN ⟨ps, bs⟩) := by simp [askB, hk]
    rw [he] at hlen
    rw [he]
    simp (disch := ((try simp only [List.length_drop, List.length_take, List.length_append, List.length_cons, List.length_nil, List.length_map]); omega)) only [go_sem, Nat.reduceLeDiff, reduceCtorEq, Nat.reduceAdd, Nat.reduceSub, Nat.reduceMul, Nat.reduceLT, Nat.reduceEqDiff, Int.reduceEq, Int.reduceLE, Int.reduceLT, Int.reducePow, Int.reduceMul, Int.reduceToNat, Int.reduceNeg, ↓reduceIte, ← List.map_take, ← List.map_drop, hD, hG', wrap64, wrap8, g4, g5, g1, g3, rowApp, unbox, tmv, Option.some.injEq, exists_eq_left']
    ((try and_intros); all_goals (try first | omega | decide | (simp; done) | (simp only [List.length_append, List.length_cons, List.length_nil, List.length_map]; omega)))
    refine ⟨[], [(0, 4122)], rfl, rfl, ?_, ?_⟩ <;> simp only [freeze_nil, freeze_cons, mapT, mapB, mapL, gone, fz, fzs, plain, rowsAt, List.cons_append, List.nil_append, covT, covB, covBlk, cov, covs, keys, get, blk, jn, subs, mem, names, namess, Option.map_some, Option.map_none, Option.getD_some, Option.getD_none, resS, resT, resT.resT', ownS, Nat.reduceEqDiff, ↓reduceIte, if_true, if_false, and_true, true_and, and_self, Nat.reduceAdd, List.map_cons, List.map_nil, ite_true, ite_false, reduceCtorEq, D_3, D_5, D_9, D_22, D_40, D_42, D_80, D_99]
    all_goals rfl
  · have hk : ¬ kind = 4 := by simpa using h
    have he : askB ⟨kind, q, n, ⟨ps, bs⟩⟩ = byteI kind :: (textS q.data.toList ++ numS n) := by simp [askB, hk]
    rw [he] at hlen
    rw [he]
    simp (disch := ((try simp only [List.length_drop, List.length_take, List.length_append, List.length_cons, List.length_nil, List.length_map]); omega)) only [go_sem, Nat.reduceLeDiff, reduceCtorEq, Nat.reduceAdd, Nat.reduceSub, Nat.reduceMul, Nat.reduceLT, Nat.reduceEqDiff, Int.reduceEq, Int.reduceLE, Int.reduceLT, Int.reducePow, Int.reduceMul, Int.reduceToNat, Int.reduceNeg, ↓reduceIte, ← List.map_take, ← List.map_drop, hD, hG', wrap64, wrap8, g4, g5, g1, g3, rowApp, unbox, tmv, Option.some.injEq, exists_eq_left']
    ((try and_intros); all_goals (try first | omega | decide | (simp; done) | (simp only [List.length_append, List.length_cons, List.length_nil, List.length_map]; omega)))
    refine ⟨[], [(0, 4122)], rfl, rfl, ?_, ?_⟩ <;> simp only [freeze_nil, freeze_cons, mapT, mapB, mapL, gone, fz, fzs, plain, rowsAt, List.cons_append, List.nil_append, covT, covB, covBlk, cov, covs, keys, get, blk, jn, subs, mem, names, namess, Option.map_some, Option.map_none, Option.getD_some, Option.getD_none, resS, resT, resT.resT', ownS, Nat.reduceEqDiff, ↓reduceIte, if_true, if_false, and_true, true_and, and_self, Nat.reduceAdd, List.map_cons, List.map_nil, ite_true, ite_false, reduceCtorEq, D_3, D_5, D_9, D_22, D_40, D_42, D_80, D_99]
    all_goals rfl
end Go.Proofs.Ytcgdjdlcecnanaa.Ab
namespace Go.Proofs.Ytcgdjdlcecnanaa.Ab
open Go Go.RowKit
set_option linter.unusedVariables false
set_option linter.unusedSimpArgs false

def saybytesLo : Nat → Lo := fun id => match id with | 1 => {uo := [6, 14], ex := [0, 1, 2, 3, 4, 5, 15], kn := [7, 10]} | _ => {}
set_option maxRecDepth 100000 in
theorem con_saybytes (s : LSay) (hs : wrongSayS s = 0) : Con Try.prog D 63 [sayA s] ⟨.os 0, [(5, 1, (framedS (sayB s)).map byteRow)]⟩ := by
  have hlen := sayB_len hs
  obtain ⟨kind, n, m, err, ⟨ps, bs⟩⟩ := s
  obtain ⟨_, _, _, _, _, _, _, _, h6, _⟩ := wrongSay_ok hs
  simp only at h6
  have hb := bytes_right h6
  have hn4 := num4 n
  have hok : GOk Try.prog D (tabG [eBytes, eFramed]) := tabG_ok _
  have g1 : tabG [eBytes, eFramed] 36 [noteA ⟨ps, bs⟩] = some ⟨.os 0, [(5, 1, (bytesN ⟨ps, bs⟩).map byteRow)]⟩ := tabG_at (E := eBytes) (T := [eBytes, eFramed]) (i := 0) rfl (by decide) _ ⟨fits_right h6, by omega⟩ rfl rfl
  have g2 : ∀ l : List UInt8, l.length ≤ 8388608 → tabG [eBytes, eFramed] 92 [.sl 1 (l.map byteRow)] = some ⟨.os 0, [(5, 1, (framedS l).map byteRow)]⟩ := fun l h => tabG_at (E := eFramed) (T := [eBytes, eFramed]) (i := 1) rfl (by decide) l h rfl rfl
  have g3 : ∀ (x : UInt8) (l : List UInt8), l.length ≤ 8388600 → tabG [eBytes, eFramed] 92 [.sl 1 ([.int .u8 (x.toNat : Int)] :: l.map byteRow)] = some ⟨.os 0, [(5, 1, (framedS (x :: l)).map byteRow)]⟩ := fun x l h => g2 (x :: l) (by simp only [List.length_cons]; omega)
  have gn : ∀ a, tabG [eBytes, eFramed] 91 a = none := fun a => rfl
  generalize tabG [eBytes, eFramed] = G at *
  simp only [noteA] at g1
  refine con_ofM mok_frnum (G := G) (rs := [(2, none)]) mixed tok hok Try.func63 rfl (by decide) Try.results63 (by decide) rfl Try.ntmps63 (by simp) (by simp [sayA, namess, names]) fun X hP hD hG' hX => evC_sound hX saybytesLo _ _ _ ?_
  simp only [argS, num, sayA]
  simp (disch := ((try simp only [List.length_drop, List.length_take, List.length_append, List.length_cons, List.length_nil, List.length_map]); omega)) only [go_sem, Nat.reduceLeDiff, reduceCtorEq, Nat.reduceAdd, Nat.reduceSub, Nat.reduceMul, Nat.reduceLT, Nat.reduceEqDiff, Int.reduceEq, Int.reduceLE, Int.reduceLT, Int.reducePow, Int.reduceMul, Int.reduceToNat, Int.reduceNeg, ↓reduceIte, ← List.map_take, ← List.map_drop, hD, hG', wrap64, wrap8, gn, asked_none, frnumM, g1, rowApp, rowTail, saybytesLo, unbox, tmv, Option.some.injEq, exists_eq_left']
  ((try and_intros); all_goals (try first | omega | decide | (simp; done) | (simp only [List.length_append, List.length_cons, List.length_nil, List.length_map]; omega)))
  refine condK_split (fun h => ?_) (fun h => ?_)
  · have hk : kind = 2 := by simpa using h
    have he : sayB ⟨kind, n, m, err, ⟨ps, bs⟩⟩ = byteI kind :: (numS n ++ [byteI m, byteI err] ++ bytesN ⟨ps, bs⟩) := by simp [sayB, hk]
    rw [he] at hlen
    rw [he]
    simp (disch := ((try simp only [List.length_drop, List.length_take, List.length_append, List.length_cons, List.length_nil, List.length_map]); omega)) only [go_sem, Nat.reduceLeDiff, reduceCtorEq, Nat.reduceAdd, Nat.reduceSub, Nat.reduceMul, Nat.reduceLT, Nat.reduceEqDiff, Int.reduceEq, Int.reduceLE, Int.reduceLT, Int.reducePow, Int.reduceMul, Int.reduceToNat, Int.reduceNeg, ↓reduceIte, ← List.map_take, ← List.map_drop, hD, hG', wrap64, wrap8, gn, asked_none, frnumM, g1, g3, rowApp, rowTail, unbox, tmv, Option.some.injEq, exists_eq_left']
    ((try and_intros); all_goals (try first | omega | decide | (simp; done) | (simp only [List.length_append, List.length_cons, List.length_nil, List.length_map]; omega)))
    refine ⟨[], [(0, 4124)], rfl, rfl, ?_, ?_⟩ <;> simp only [freeze_nil, freeze_cons, mapT, mapB, mapL, gone, fz, fzs, plain, rowsAt, List.cons_append, List.nil_append, covT, covB, covBlk, cov, covs, keys, get, blk, jn, subs, mem, names, namess, Option.map_some, Option.map_none, Option.getD_some, Option.getD_none, resS, resT, resT.resT', ownS, Nat.reduceEqDiff, ↓reduceIte, if_true, if_false, and_true, true_and, and_self, Nat.reduceAdd, List.map_cons, List.map_nil, ite_true, ite_false, reduceCtorEq, D_3, D_5, D_9, D_22, D_30, D_40, D_42, D_82, D_99]
    all_goals rfl
  · have hk : ¬ kind = 2 := by simpa using h
    have he : sayB ⟨kind, n, m, err, ⟨ps, bs⟩⟩ = byteI kind :: (numS n ++ [byteI m, byteI err]) := by simp [sayB, hk]
    rw [he] at hlen
    rw [he]
    simp (disch := ((try simp only [List.length_drop, List.length_take, List.length_append, List.length_cons, List.length_nil, List.length_map]); omega)) only [go_sem, Nat.reduceLeDiff, reduceCtorEq, Nat.reduceAdd, Nat.reduceSub, Nat.reduceMul, Nat.reduceLT, Nat.reduceEqDiff, Int.reduceEq, Int.reduceLE, Int.reduceLT, Int.reducePow, Int.reduceMul, Int.reduceToNat, Int.reduceNeg, ↓reduceIte, ← List.map_take, ← List.map_drop, hD, hG', wrap64, wrap8, gn, asked_none, frnumM, g1, g3, rowApp, rowTail, unbox, tmv, Option.some.injEq, exists_eq_left']
    ((try and_intros); all_goals (try first | omega | decide | (simp; done) | (simp only [List.length_append, List.length_cons, List.length_nil, List.length_map]; omega)))
    refine ⟨[], [(0, 4124)], rfl, rfl, ?_, ?_⟩ <;> simp only [freeze_nil, freeze_cons, mapT, mapB, mapL, gone, fz, fzs, plain, rowsAt, List.cons_append, List.nil_append, covT, covB, covBlk, cov, covs, keys, get, blk, jn, subs, mem, names, namess, Option.map_some, Option.map_none, Option.getD_some, Option.getD_none, resS, resT, resT.resT', ownS, Nat.reduceEqDiff, ↓reduceIte, if_true, if_false, and_true, true_and, and_self, Nat.reduceAdd, List.map_cons, List.map_nil, ite_true, ite_false, reduceCtorEq, D_3, D_5, D_9, D_22, D_30, D_40, D_42, D_82, D_99]
    all_goals rfl
def refsayLo : Nat → Lo := fun id => match id with | 1 => {uo := [7], ex := [0, 1, 2, 3, 4, 5, 6, 8], kn := [7]} | _ => {}
set_option maxRecDepth 100000 in
theorem con_sayframe (s : LSay) (hs : wrongSayS s = 0) : Con Try.prog D 64 [sayA s] ⟨.os 0, [(5, 1, (framedS (sayB s)).map byteRow)]⟩ := by
  have hlen := sayB_len hs
  obtain ⟨kind, n, m, err, ⟨ps, bs⟩⟩ := s
  obtain ⟨_, _, _, _, _, _, _, _, h6, _⟩ := wrongSay_ok hs
  simp only at h6
  have hb := bytes_right h6
  have hn4 := num4 n
  have hok : GOk Try.prog D (tabG [eRefbytes, eReframed, eText, eNum]) := tabG_ok _
  have g1 : tabG [eRefbytes, eReframed, eText, eNum] 37 [noteA ⟨ps, bs⟩] = some ⟨.sl 1 ((bytesN ⟨ps, bs⟩).map byteRow), []⟩ := tabG_at (E := eRefbytes) (T := [eRefbytes, eReframed, eText, eNum]) (i := 0) rfl (by decide) _ ⟨fits_right h6, by omega⟩ rfl rfl
  have g2 : ∀ l : List UInt8, l.length ≤ 8388608 → tabG [eRefbytes, eReframed, eText, eNum] 93 [.sl 1 (l.map byteRow)] = some ⟨.os 0, [(5, 1, (framedS l).map byteRow)]⟩ := fun l h => tabG_at (E := eReframed) (T := [eRefbytes, eReframed, eText, eNum]) (i := 1) rfl (by decide) l h rfl rfl
  have g3 : ∀ (x : UInt8) (l : List UInt8), l.length ≤ 8388600 → tabG [eRefbytes, eReframed, eText, eNum] 93 [.sl 1 ([.int .u8 (x.toNat : Int)] :: l.map byteRow)] = some ⟨.os 0, [(5, 1, (framedS (x :: l)).map byteRow)]⟩ := fun x l h => g2 (x :: l) (by simp only [List.length_cons]; omega)
  have g4 : ∀ l : List UInt8, l.length ≤ 8388608 → tabG [eRefbytes, eReframed, eText, eNum] 78 [.str l] = some ⟨.sl 1 ((textS l).map byteRow), []⟩ := fun l h => tabG_at (E := eText) (T := [eRefbytes, eReframed, eText, eNum]) (i := 2) rfl (by decide) l h rfl rfl
  have g5 : ∀ n : Int, tabG [eRefbytes, eReframed, eText, eNum] 79 [.int .i64 n] = some ⟨.sl 1 ((numS n).map byteRow), []⟩ := fun n => tabG_at (E := eNum) (T := [eRefbytes, eReframed, eText, eNum]) (i := 3) rfl (by decide) n trivial rfl rfl
  generalize tabG [eRefbytes, eReframed, eText, eNum] = G at *
  simp only [noteA] at g1
  refine con_of (G := G) (rs := [(2, none)]) mixed tok hok Try.func64 rfl (by decide) Try.results64 (by decide) rfl Try.ntmps64 (by simp) (by simp [sayA, namess, names]) fun X hP hD hG' hX => evC_sound hX refsayLo _ _ _ ?_
  simp only [argS, num, sayA]
  simp (disch := ((try simp only [List.length_drop, List.length_take, List.length_append, List.length_cons, List.length_nil, List.length_map]); omega)) only [go_sem, Nat.reduceLeDiff, reduceCtorEq, Nat.reduceAdd, Nat.reduceSub, Nat.reduceMul, Nat.reduceLT, Nat.reduceEqDiff, Int.reduceEq, Int.reduceLE, Int.reduceLT, Int.reducePow, Int.reduceMul, Int.reduceToNat, Int.reduceNeg, ↓reduceIte, ← List.map_take, ← List.map_drop, hD, hG', wrap64, wrap8, g4, g5, g1, rowApp, rowTail, refsayLo, unbox, tmv, Option.some.injEq, exists_eq_left']
  ((try and_intros); all_goals (try first | omega | decide | (simp; done) | (simp only [List.length_append, List.length_cons, List.length_nil, List.length_map]; omega)))
  refine condK_split (fun h => ?_) (fun h => ?_)
  · have hk : kind = 2 := by simpa using h
    have he : sayB ⟨kind, n, m, err, ⟨ps, bs⟩⟩ = byteI kind :: (numS n ++ [byteI m, byteI err] ++ bytesN ⟨ps, bs⟩) := by simp [sayB, hk]
    rw [he] at hlen
    rw [he]
    simp (disch := ((try simp only [List.length_drop, List.length_take, List.length_append, List.length_cons, List.length_nil, List.length_map]); omega)) only [go_sem, Nat.reduceLeDiff, reduceCtorEq, Nat.reduceAdd, Nat.reduceSub, Nat.reduceMul, Nat.reduceLT, Nat.reduceEqDiff, Int.reduceEq, Int.reduceLE, Int.reduceLT, Int.reducePow, Int.reduceMul, Int.reduceToNat, Int.reduceNeg, ↓reduceIte, ← List.map_take, ← List.map_drop, hD, hG', wrap64, wrap8, g4, g5, g1, g3, rowApp, rowTail, unbox, tmv, Option.some.injEq, exists_eq_left']
    ((try and_intros); all_goals (try first | omega | decide | (simp; done) | (simp only [List.length_append, List.length_cons, List.length_nil, List.length_map]; omega)))
    refine ⟨[], [(0, 4126)], rfl, rfl, ?_, ?_⟩ <;> simp only [freeze_nil, freeze_cons, mapT, mapB, mapL, gone, fz, fzs, plain, rowsAt, List.cons_append, List.nil_append, covT, covB, covBlk, cov, covs, keys, get, blk, jn, subs, mem, names, namess, Option.map_some, Option.map_none, Option.getD_some, Option.getD_none, resS, resT, resT.resT', ownS, Nat.reduceEqDiff, ↓reduceIte, if_true, if_false, and_true, true_and, and_self, Nat.reduceAdd, List.map_cons, List.map_nil, ite_true, ite_false, reduceCtorEq, D_3, D_5, D_9, D_22, D_30, D_40, D_42, D_82, D_99]
    all_goals rfl
  · have hk : ¬ kind = 2 := by simpa using h
    have he : sayB ⟨kind, n, m, err, ⟨ps, bs⟩⟩ = byteI kind :: (numS n ++ [byteI m, byteI err]) := by simp [sayB, hk]
    rw [he] at hlen
    rw [he]
    simp (disch := ((try simp only [List.length_drop, List.length_take, List.length_append, List.length_cons, List.length_nil, List.length_map]); omega)) only [go_sem, Nat.reduceLeDiff, reduceCtorEq, Nat.reduceAdd, Nat.reduceSub, Nat.reduceMul, Nat.reduceLT, Nat.reduceEqDiff, Int.reduceEq, Int.reduceLE, Int.reduceLT, Int.reducePow, Int.reduceMul, Int.reduceToNat, Int.reduceNeg, ↓reduceIte, ← List.map_take, ← List.map_drop, hD, hG', wrap64, wrap8, g4, g5, g1, g3, rowApp, rowTail, unbox, tmv, Option.some.injEq, exists_eq_left']
    ((try and_intros); all_goals (try first | omega | decide | (simp; done) | (simp only [List.length_append, List.length_cons, List.length_nil, List.length_map]; omega)))
    refine ⟨[], [(0, 4126)], rfl, rfl, ?_, ?_⟩ <;> simp only [freeze_nil, freeze_cons, mapT, mapB, mapL, gone, fz, fzs, plain, rowsAt, List.cons_append, List.nil_append, covT, covB, covBlk, cov, covs, keys, get, blk, jn, subs, mem, names, namess, Option.map_some, Option.map_none, Option.getD_some, Option.getD_none, resS, resT, resT.resT', ownS, Nat.reduceEqDiff, ↓reduceIte, if_true, if_false, and_true, true_and, and_self, Nat.reduceAdd, List.map_cons, List.map_nil, ite_true, ite_false, reduceCtorEq, D_3, D_5, D_9, D_22, D_30, D_40, D_42, D_82, D_99]
    all_goals rfl
end Go.Proofs.Ytcgdjdlcecnanaa.Ab
namespace Go.Proofs.Ytcgdjdlcecnanaa.Ab
open Go Go.RowKit
set_option linter.unusedVariables false
set_option linter.unusedSimpArgs false

theorem orN64 (i a b : Nat) (hb : b < 2 ^ i) (ha : 2 ^ i * a + b < 4294967296) : orI .i64 ((2 ^ i * a : Nat) : Int) (b : Int) = ((2 ^ i * a + b : Nat) : Int) := by
  unfold orI
  have e : ∀ n : Nat, BitVec.ofInt 64 (n : Int) = BitVec.ofNat 64 n := fun n => by
    apply BitVec.eq_of_toNat_eq
    simp [BitVec.toNat_ofInt]
  show IntKind.wrap .i64 ((BitVec.ofInt 64 _ ||| BitVec.ofInt 64 _).toNat : Int) = _
  rw [e, e, BitVec.toNat_or, BitVec.toNat_ofNat, BitVec.toNat_ofNat, Nat.mod_eq_of_lt (by omega), Nat.mod_eq_of_lt (by omega), ← Nat.two_pow_add_eq_or_of_lt hb]
  exact wrap64 (by omega) (by omega)
theorem orBytes' (x y : UInt8) : orI .i64 (shlI .i64 (x.toNat : Int) 8) (y.toNat : Int) = ((256 * x.toNat + y.toNat : Nat) : Int) := by
  have hx := x.toNat_lt
  have hy := y.toNat_lt
  rw [shl8, show IntKind.wrap .i64 ((x.toNat : Int) * 256) = ((2 ^ 8 * x.toNat : Nat) : Int) from by rw [wrap64 (by omega) (by omega)]; omega]
  exact orN64 8 x.toNat y.toNat (by omega) (by omega)
def frameS (l : List UInt8) : List UInt8 × Int × Int :=
  if l.length < 2 then ([], 0, 9)
  else if 398 < 256 * (l.getD 0 0).toNat + (l.getD 1 0).toNat then ([], 0, 4)
  else if l.length < 256 * (l.getD 0 0).toNat + (l.getD 1 0).toNat + 2 then ([], 0, 9)
  else ((l.take (256 * (l.getD 0 0).toNat + (l.getD 1 0).toNat + 2)).drop 2, 256 * (l.getD 0 0).toNat + (l.getD 1 0).toNat + 2, 0)
set_option maxRecDepth 100000 in
theorem con_frame (l : List UInt8) (hl : l.length ≤ 8388608) : Con Try.prog D 94 [.sl 1 (l.map byteRow)] ⟨.tup [.sl 1 ((frameS l).1.map byteRow), .int .i64 (frameS l).2.1, .int .i64 (frameS l).2.2], []⟩ := by
  have hok : GOk Try.prog D (tabG []) := tabG_ok _
  have hcon : ∀ r, r = frameS l → Con Try.prog D 94 [.sl 1 (l.map byteRow)] ⟨.tup [.sl 1 (r.1.map byteRow), .int .i64 r.2.1, .int .i64 r.2.2], []⟩ := by
    intro r hr
    refine con_of (G := tabG []) (rs := [(2, none), (3, none), (4, none)]) mixed tok hok Try.func94 rfl (by decide) Try.results94 (by decide) rfl Try.ntmps94 (by simp) (by simp [namess, names]) fun X hP hD hG' hX => evC_sound hX (fun _ => {}) _ _ _ ?_
    simp only [argS, num]
    have ha := (l.getD 0 0).toNat_lt
    have hb := (l.getD 1 0).toNat_lt
    have e : ∀ a b : Nat, (256 * (a : Int) + b + 2).toNat = 256 * a + b + 2 := fun a b => by omega
    simp (disch := ((try simp only [List.length_drop, List.length_take, List.length_append, List.length_cons, List.length_nil, List.length_map]); omega)) only [go_sem, Nat.reduceLeDiff, reduceCtorEq, Nat.reduceAdd, Nat.reduceSub, Nat.reduceMul, Nat.reduceLT, Nat.reduceEqDiff, Int.reduceEq, Int.reduceLE, Int.reduceLT, Int.reducePow, Int.reduceMul, Int.reduceToNat, Int.reduceNeg, ↓reduceIte, ← List.map_take, ← List.map_drop, hD, hG', wrap64, wrap8, byteGet, wrap_byte, orBytes', unbox, tmv, Option.some.injEq, exists_eq_left']
    iterate 24 (all_goals (try (first | (refine RegT.mk [] ?_; simp (disch := ((try simp only [List.length_drop, List.length_take, List.length_append, List.length_cons, List.length_nil, List.length_map]); omega)) only [go_sem, Nat.reduceLeDiff, reduceCtorEq, Nat.reduceAdd, Nat.reduceSub, Nat.reduceMul, Nat.reduceLT, Nat.reduceEqDiff, Int.reduceEq, Int.reduceLE, Int.reduceLT, Int.reducePow, Int.reduceMul, Int.reduceToNat, Int.reduceNeg, ↓reduceIte, ← List.map_take, ← List.map_drop, hD, hG', wrap64, wrap8, byteGet, wrap_byte, orBytes', unbox, tmv, Option.some.injEq, exists_eq_left']) | (refine condK_split (fun h => ?_) (fun h => ?_) <;> ((try simp only [decide_eq_true_eq, decide_eq_false_iff_not, Int.not_lt, Int.not_le, Bool.not_eq_true] at h); simp (disch := ((try simp only [List.length_drop, List.length_take, List.length_append, List.length_cons, List.length_nil, List.length_map]); omega)) only [go_sem, Nat.reduceLeDiff, reduceCtorEq, Nat.reduceAdd, Nat.reduceSub, Nat.reduceMul, Nat.reduceLT, Nat.reduceEqDiff, Int.reduceEq, Int.reduceLE, Int.reduceLT, Int.reducePow, Int.reduceMul, Int.reduceToNat, Int.reduceNeg, ↓reduceIte, ← List.map_take, ← List.map_drop, hD, hG', wrap64, wrap8, byteGet, wrap_byte, orBytes', unbox, tmv, Option.some.injEq, exists_eq_left'])) | and_intros)))
    all_goals (try (first | decide | omega))
    all_goals (refine ⟨[], [], rfl, rfl, ?_, ?_⟩ <;> simp only [freeze_nil, freeze_cons, mapT, mapB, mapL, gone, fz, fzs, plain, rowsAt, List.cons_append, List.nil_append, covT, covB, covBlk, cov, covs, keys, get, blk, jn, subs, mem, names, namess, Option.map_some, Option.map_none, Option.getD_some, Option.getD_none, resS, resT, resT.resT', ownS, Nat.reduceEqDiff, ↓reduceIte, if_true, if_false, and_true, true_and, and_self, Nat.reduceAdd, List.map_cons, List.map_nil, ite_true, ite_false, reduceCtorEq])
    all_goals (subst hr; simp only [frameS])
    all_goals (try (first | rw [if_pos (by omega)] | rw [if_neg (by omega), if_pos (by omega)] | rw [if_neg (by omega), if_neg (by omega), if_pos (by omega)] | rw [if_neg (by omega), if_neg (by omega), if_neg (by omega)]))
    all_goals simp [e]
  exact hcon _ rfl
set_option maxRecDepth 100000 in
theorem con_unframe (l : List UInt8) (hl : l.length ≤ 8388608) : Con Try.prog D 98 [.sl 1 (l.map byteRow)] ⟨.tup [.sl 1 ((frameS l).1.map byteRow), .int .i64 (frameS l).2.1, .int .i64 (frameS l).2.2], []⟩ := by
  have hok : GOk Try.prog D (tabG []) := tabG_ok _
  have hcon : ∀ r, r = frameS l → Con Try.prog D 98 [.sl 1 (l.map byteRow)] ⟨.tup [.sl 1 (r.1.map byteRow), .int .i64 r.2.1, .int .i64 r.2.2], []⟩ := by
    intro r hr
    refine con_of (G := tabG []) (rs := [(2, none), (3, none), (4, none)]) mixed tok hok Try.func98 rfl (by decide) Try.results98 (by decide) rfl Try.ntmps98 (by simp) (by simp [namess, names]) fun X hP hD hG' hX => evC_sound hX (fun _ => {}) _ _ _ ?_
    simp only [argS, num]
    have ha := (l.getD 0 0).toNat_lt
    have hb := (l.getD 1 0).toNat_lt
    have e : ∀ a b : Nat, (256 * (a : Int) + b + 2).toNat = 256 * a + b + 2 := fun a b => by omega
    simp (disch := ((try simp only [List.length_drop, List.length_take, List.length_append, List.length_cons, List.length_nil, List.length_map]); omega)) only [go_sem, Nat.reduceLeDiff, reduceCtorEq, Nat.reduceAdd, Nat.reduceSub, Nat.reduceMul, Nat.reduceLT, Nat.reduceEqDiff, Int.reduceEq, Int.reduceLE, Int.reduceLT, Int.reducePow, Int.reduceMul, Int.reduceToNat, Int.reduceNeg, ↓reduceIte, ← List.map_take, ← List.map_drop, hD, hG', wrap64, wrap8, byteGet, wrap_byte, unbox, tmv, Option.some.injEq, exists_eq_left']
    iterate 24 (all_goals (try (first | (refine RegT.mk [] ?_; simp (disch := ((try simp only [List.length_drop, List.length_take, List.length_append, List.length_cons, List.length_nil, List.length_map]); omega)) only [go_sem, Nat.reduceLeDiff, reduceCtorEq, Nat.reduceAdd, Nat.reduceSub, Nat.reduceMul, Nat.reduceLT, Nat.reduceEqDiff, Int.reduceEq, Int.reduceLE, Int.reduceLT, Int.reducePow, Int.reduceMul, Int.reduceToNat, Int.reduceNeg, ↓reduceIte, ← List.map_take, ← List.map_drop, hD, hG', wrap64, wrap8, byteGet, wrap_byte, unbox, tmv, Option.some.injEq, exists_eq_left']) | (refine condK_split (fun h => ?_) (fun h => ?_) <;> ((try simp only [decide_eq_true_eq, decide_eq_false_iff_not, Int.not_lt, Int.not_le, Bool.not_eq_true] at h); simp (disch := ((try simp only [List.length_drop, List.length_take, List.length_append, List.length_cons, List.length_nil, List.length_map]); omega)) only [go_sem, Nat.reduceLeDiff, reduceCtorEq, Nat.reduceAdd, Nat.reduceSub, Nat.reduceMul, Nat.reduceLT, Nat.reduceEqDiff, Int.reduceEq, Int.reduceLE, Int.reduceLT, Int.reducePow, Int.reduceMul, Int.reduceToNat, Int.reduceNeg, ↓reduceIte, ← List.map_take, ← List.map_drop, hD, hG', wrap64, wrap8, byteGet, wrap_byte, unbox, tmv, Option.some.injEq, exists_eq_left'])) | and_intros)))
    all_goals (try (first | decide | omega))
    all_goals (refine ⟨[], [], rfl, rfl, ?_, ?_⟩ <;> simp only [freeze_nil, freeze_cons, mapT, mapB, mapL, gone, fz, fzs, plain, rowsAt, List.cons_append, List.nil_append, covT, covB, covBlk, cov, covs, keys, get, blk, jn, subs, mem, names, namess, Option.map_some, Option.map_none, Option.getD_some, Option.getD_none, resS, resT, resT.resT', ownS, Nat.reduceEqDiff, ↓reduceIte, if_true, if_false, and_true, true_and, and_self, Nat.reduceAdd, List.map_cons, List.map_nil, ite_true, ite_false, reduceCtorEq])
    all_goals (subst hr; simp only [frameS])
    all_goals (try (first | rw [if_pos (by omega)] | rw [if_neg (by omega), if_pos (by omega)] | rw [if_neg (by omega), if_neg (by omega), if_pos (by omega)] | rw [if_neg (by omega), if_neg (by omega), if_neg (by omega)]))
    all_goals simp [e]
  exact hcon _ rfl
set_option maxRecDepth 100000 in
theorem con_frget (l : List UInt8) (hl : 4 ≤ l.length) (hl2 : l.length ≤ 8388608) : Con Try.prog D 95 [.sl 1 (l.map byteRow)] ⟨.int .i64 (getS l), []⟩ := by
  have hok : GOk Try.prog D (tabG []) := tabG_ok _
  refine con_of (G := tabG []) (rs := [(2, none)]) mixed tok hok Try.func95 rfl (by decide) Try.results95 (by decide) rfl Try.ntmps95 (by simp) (by simp [namess, names]) fun X hP hD hG' hX => evC_sound hX (fun _ => {}) _ _ _ ?_
  simp only [argS, num]
  have hgs : IntKind.wrap .i64 (IntKind.wrap .i32 (numN l : Int)) = getS l := wrap64 (by have := getS_in l; unfold getS at this; omega) (by have := getS_in l; unfold getS at this; omega)
  simp (disch := ((try simp only [List.length_drop, List.length_take, List.length_append, List.length_cons, List.length_nil, List.length_map]); omega)) only [go_sem, Nat.reduceLeDiff, reduceCtorEq, Nat.reduceAdd, Nat.reduceSub, Nat.reduceMul, Nat.reduceLT, Nat.reduceEqDiff, Int.reduceEq, Int.reduceLE, Int.reduceLT, Int.reducePow, Int.reduceMul, Int.reduceToNat, Int.reduceNeg, ↓reduceIte, ← List.map_take, ← List.map_drop, hD, hG', wrap64, wrap8, byteGet, wrap32_byte, orGet, hgs, unbox, tmv, Option.some.injEq, exists_eq_left']
  ((try and_intros); all_goals (try first | omega | decide | (simp; done) | (simp only [List.length_append, List.length_cons, List.length_nil, List.length_map]; omega)))
  refine ⟨[], [], rfl, rfl, ?_, ?_⟩ <;> simp only [freeze_nil, freeze_cons, mapT, mapB, mapL, gone, fz, fzs, plain, rowsAt, List.cons_append, List.nil_append, covT, covB, covBlk, cov, covs, keys, get, blk, jn, subs, mem, names, namess, Option.map_some, Option.map_none, Option.getD_some, Option.getD_none, resS, resT, resT.resT', ownS, Nat.reduceEqDiff, ↓reduceIte, if_true, if_false, and_true, true_and, and_self, Nat.reduceAdd, List.map_cons, List.map_nil, ite_true, ite_false, reduceCtorEq]
/-- the note that is all of bytes; none, if it must be none -/
def tailS (l : List UInt8) (must : Bool) : LNote × Int :=
  if must = false then (if 0 < l.length then (note0, 2) else (note0, 0))
  else if (parseS l).2.2 ≠ 0 ∨ (parseS l).2.1 ≠ l.length then (note0, 2) else ((parseS l).1, 0)
set_option maxRecDepth 100000 in
theorem con_tail (l : List UInt8) (must : Bool) (hl : l.length ≤ 4194304) : Con Try.prog D 96 [.sl 1 (l.map byteRow), .bool must] ⟨.tup [noteA (tailS l must).1, .int .i64 (tailS l must).2], []⟩ := by
  have hok : GOk Try.prog D (tabG [eParse]) := tabG_ok _
  have g1 : tabG [eParse] 38 [.sl 1 (l.map byteRow)] = some ⟨.tup [noteA (parseS l).1, .int .i64 (parseS l).2.1, .int .i64 (parseS l).2.2], []⟩ := tabG_at (E := eParse) (T := [eParse]) (i := 0) rfl (by decide) l hl rfl rfl
  generalize tabG [eParse] = G at *
  simp only [noteA] at g1
  have hcon : ∀ r, r = tailS l must → Con Try.prog D 96 [.sl 1 (l.map byteRow), .bool must] ⟨.tup [noteA r.1, .int .i64 r.2], []⟩ := by
    intro r hr
    refine con_of (G := G) (rs := [(4, some 42), (5, none)]) mixed tok hok Try.func96 rfl (by decide) Try.results96 (by decide) rfl Try.ntmps96 (by simp) (by simp [namess, names]) fun X hP hD hG' hX => evC_sound hX (fun _ => {}) _ _ _ ?_
    simp only [argS, num]
    simp (disch := ((try simp only [List.length_drop, List.length_take, List.length_append, List.length_cons, List.length_nil, List.length_map]); omega)) only [go_sem, Nat.reduceLeDiff, reduceCtorEq, Nat.reduceAdd, Nat.reduceSub, Nat.reduceMul, Nat.reduceLT, Nat.reduceEqDiff, Int.reduceEq, Int.reduceLE, Int.reduceLT, Int.reducePow, Int.reduceMul, Int.reduceToNat, Int.reduceNeg, ↓reduceIte, ← List.map_take, ← List.map_drop, hD, hG', wrap64, g1]
    iterate 24 (all_goals (try (first | (refine RegT.mk [] ?_; simp (disch := ((try simp only [List.length_drop, List.length_take, List.length_append, List.length_cons, List.length_nil, List.length_map]); omega)) only [go_sem, Nat.reduceLeDiff, reduceCtorEq, Nat.reduceAdd, Nat.reduceSub, Nat.reduceMul, Nat.reduceLT, Nat.reduceEqDiff, Int.reduceEq, Int.reduceLE, Int.reduceLT, Int.reducePow, Int.reduceMul, Int.reduceToNat, Int.reduceNeg, ↓reduceIte, ← List.map_take, ← List.map_drop, hD, hG', wrap64, g1]) | (refine condK_split (fun h => ?_) (fun h => ?_) <;> ((try simp only [decide_eq_true_eq, decide_eq_false_iff_not, Int.not_lt, Int.not_le, Bool.not_eq_true] at h); simp (disch := ((try simp only [List.length_drop, List.length_take, List.length_append, List.length_cons, List.length_nil, List.length_map]); omega)) only [go_sem, Nat.reduceLeDiff, reduceCtorEq, Nat.reduceAdd, Nat.reduceSub, Nat.reduceMul, Nat.reduceLT, Nat.reduceEqDiff, Int.reduceEq, Int.reduceLE, Int.reduceLT, Int.reducePow, Int.reduceMul, Int.reduceToNat, Int.reduceNeg, ↓reduceIte, ← List.map_take, ← List.map_drop, hD, hG', wrap64, g1])) | and_intros)))
    all_goals (try (first | decide | omega | (first | (intro hk; refine ⟨hk, fun h2 => ?_⟩; first | (rw [hk, h2]; rfl) | (rw [hk, decide_eq_false h2]; rfl)) | (intro hk; rw [decide_eq_false hk]; rfl) | (intro hk; rw [hk]; rfl))))
    all_goals (simp (disch := ((try simp only [List.length_drop, List.length_take, List.length_append, List.length_cons, List.length_nil, List.length_map]); omega)) only [go_sem, Nat.reduceLeDiff, reduceCtorEq, Nat.reduceAdd, Nat.reduceSub, Nat.reduceMul, Nat.reduceLT, Nat.reduceEqDiff, Int.reduceEq, Int.reduceLE, Int.reduceLT, Int.reducePow, Int.reduceMul, Int.reduceToNat, Int.reduceNeg, ↓reduceIte, ← List.map_take, ← List.map_drop, hD, hG', wrap64, g1, unbox, tmv, Option.some.injEq, exists_eq_left'])
    all_goals (refine ⟨[], [], rfl, rfl, ?_, ?_⟩ <;> simp only [freeze_nil, freeze_cons, mapT, mapB, mapL, gone, fz, fzs, plain, rowsAt, List.cons_append, List.nil_append, covT, covB, covBlk, cov, covs, keys, get, blk, jn, subs, mem, names, namess, Option.map_some, Option.map_none, Option.getD_some, Option.getD_none, resS, resT, resT.resT', ownS, Nat.reduceEqDiff, ↓reduceIte, if_true, if_false, and_true, true_and, and_self, Nat.reduceAdd, List.map_cons, List.map_nil, ite_true, ite_false, reduceCtorEq, noteA])
    all_goals (subst hr; clear g1 hok hP hD hG' hX; unfold tailS)
    all_goals grind [note0]
  exact hcon _ rfl
end Go.Proofs.Ytcgdjdlcecnanaa.Ab
namespace Go.Proofs.Ytcgdjdlcecnanaa.Ab
open Go Go.RowKit
set_option linter.unusedVariables false
set_option linter.unusedSimpArgs false

def restS (l : List UInt8) (must : Bool) : LNote × Bool :=
  if must = false then (note0, decide (l.length = 0)) else ((parseS l).1, decide ((parseS l).2.2 = 0 ∧ (parseS l).2.1 = l.length))
set_option maxRecDepth 100000 in
theorem con_rest (l : List UInt8) (must : Bool) (hl : l.length ≤ 4194304) : Con Try.prog D 99 [.sl 1 (l.map byteRow), .bool must] ⟨.tup [noteA (restS l must).1, .bool (restS l must).2], []⟩ := by
  have hok : GOk Try.prog D (tabG [eRefparse]) := tabG_ok _
  have g1 : tabG [eRefparse] 39 [.sl 1 (l.map byteRow)] = some ⟨.tup [noteA (parseS l).1, .int .i64 (parseS l).2.1, .int .i64 (parseS l).2.2], []⟩ := tabG_at (E := eRefparse) (T := [eRefparse]) (i := 0) rfl (by decide) l hl rfl rfl
  generalize tabG [eRefparse] = G at *
  simp only [noteA] at g1
  have hcon : ∀ r, r = restS l must → Con Try.prog D 99 [.sl 1 (l.map byteRow), .bool must] ⟨.tup [noteA r.1, .bool r.2], []⟩ := by
    intro r hr
    refine con_of (G := G) (rs := [(4, some 42), (5, none)]) mixed tok hok Try.func99 rfl (by decide) Try.results99 (by decide) rfl Try.ntmps99 (by simp) (by simp [namess, names]) fun X hP hD hG' hX => evC_sound hX (fun _ => {}) _ _ _ ?_
    simp only [argS, num]
    simp (disch := ((try simp only [List.length_drop, List.length_take, List.length_append, List.length_cons, List.length_nil, List.length_map]); omega)) only [go_sem, Nat.reduceLeDiff, reduceCtorEq, Nat.reduceAdd, Nat.reduceSub, Nat.reduceMul, Nat.reduceLT, Nat.reduceEqDiff, Int.reduceEq, Int.reduceLE, Int.reduceLT, Int.reducePow, Int.reduceMul, Int.reduceToNat, Int.reduceNeg, ↓reduceIte, ← List.map_take, ← List.map_drop, hD, hG', wrap64, g1]
    iterate 24 (all_goals (try (first | (refine RegT.mk [] ?_; simp (disch := ((try simp only [List.length_drop, List.length_take, List.length_append, List.length_cons, List.length_nil, List.length_map]); omega)) only [go_sem, Nat.reduceLeDiff, reduceCtorEq, Nat.reduceAdd, Nat.reduceSub, Nat.reduceMul, Nat.reduceLT, Nat.reduceEqDiff, Int.reduceEq, Int.reduceLE, Int.reduceLT, Int.reducePow, Int.reduceMul, Int.reduceToNat, Int.reduceNeg, ↓reduceIte, ← List.map_take, ← List.map_drop, hD, hG', wrap64, g1]) | (refine condK_split (fun h => ?_) (fun h => ?_) <;> ((try simp only [decide_eq_true_eq, decide_eq_false_iff_not, Int.not_lt, Int.not_le, Bool.not_eq_true] at h); simp (disch := ((try simp only [List.length_drop, List.length_take, List.length_append, List.length_cons, List.length_nil, List.length_map]); omega)) only [go_sem, Nat.reduceLeDiff, reduceCtorEq, Nat.reduceAdd, Nat.reduceSub, Nat.reduceMul, Nat.reduceLT, Nat.reduceEqDiff, Int.reduceEq, Int.reduceLE, Int.reduceLT, Int.reducePow, Int.reduceMul, Int.reduceToNat, Int.reduceNeg, ↓reduceIte, ← List.map_take, ← List.map_drop, hD, hG', wrap64, g1])) | and_intros)))
    all_goals (try (first | decide | omega | (first | (intro hk; refine ⟨hk, fun h2 => ?_⟩; first | (rw [hk, h2]; rfl) | (rw [hk, decide_eq_false h2]; rfl)) | (intro hk; rw [decide_eq_false hk]; rfl) | (intro hk; rw [hk]; rfl))))
    all_goals (simp (disch := ((try simp only [List.length_drop, List.length_take, List.length_append, List.length_cons, List.length_nil, List.length_map]); omega)) only [go_sem, Nat.reduceLeDiff, reduceCtorEq, Nat.reduceAdd, Nat.reduceSub, Nat.reduceMul, Nat.reduceLT, Nat.reduceEqDiff, Int.reduceEq, Int.reduceLE, Int.reduceLT, Int.reducePow, Int.reduceMul, Int.reduceToNat, Int.reduceNeg, ↓reduceIte, ← List.map_take, ← List.map_drop, hD, hG', wrap64, g1, unbox, tmv, Option.some.injEq, exists_eq_left'])
    all_goals (refine ⟨[], [], rfl, rfl, ?_, ?_⟩ <;> simp only [freeze_nil, freeze_cons, mapT, mapB, mapL, gone, fz, fzs, plain, rowsAt, List.cons_append, List.nil_append, covT, covB, covBlk, cov, covs, keys, get, blk, jn, subs, mem, names, namess, Option.map_some, Option.map_none, Option.getD_some, Option.getD_none, resS, resT, resT.resT', ownS, Nat.reduceEqDiff, ↓reduceIte, if_true, if_false, and_true, true_and, and_self, Nat.reduceAdd, List.map_cons, List.map_nil, ite_true, ite_false, reduceCtorEq, noteA])
    all_goals (subst hr; clear g1 hok hP hD hG' hX; unfold restS)
    all_goals (cases must <;> simp [note0] at *)
    all_goals (try (by_cases hq : (parseS l).2.2 = 0 <;> simp [hq]))
    all_goals (rw [Bool.eq_iff_iff]; simp)
    all_goals (try omega)
  exact hcon _ rfl
def eFrame : Ent Try.prog D := ⟨94, List UInt8, fun l => [.sl 1 (l.map byteRow)], fun l => l.length ≤ 8388608, fun l => ⟨.tup [.sl 1 ((frameS l).1.map byteRow), .int .i64 (frameS l).2.1, .int .i64 (frameS l).2.2], []⟩, fun x y _ _ h => by
  simp only [List.cons.injEq, AV.sl.injEq, true_and, and_true] at h
  rw [bytes_inj h], con_frame⟩
def eUnframe : Ent Try.prog D := ⟨98, List UInt8, fun l => [.sl 1 (l.map byteRow)], fun l => l.length ≤ 8388608, fun l => ⟨.tup [.sl 1 ((frameS l).1.map byteRow), .int .i64 (frameS l).2.1, .int .i64 (frameS l).2.2], []⟩, fun x y _ _ h => by
  simp only [List.cons.injEq, AV.sl.injEq, true_and, and_true] at h
  rw [bytes_inj h], con_unframe⟩
def eFrget : Ent Try.prog D := ⟨95, List UInt8, fun l => [.sl 1 (l.map byteRow)], fun l => 4 ≤ l.length ∧ l.length ≤ 8388608, fun l => ⟨.int .i64 (getS l), []⟩, fun x y _ _ h => by
  simp only [List.cons.injEq, AV.sl.injEq, true_and, and_true] at h
  rw [bytes_inj h], fun l h => con_frget l h.1 h.2⟩
def eTail : Ent Try.prog D := ⟨96, List UInt8 × Bool, fun x => [.sl 1 (x.1.map byteRow), .bool x.2], fun x => x.1.length ≤ 4194304, fun x => ⟨.tup [noteA (tailS x.1 x.2).1, .int .i64 (tailS x.1 x.2).2], []⟩, fun x y _ _ h => by
  obtain ⟨a, b⟩ := x
  obtain ⟨c, d⟩ := y
  simp only [List.cons.injEq, AV.sl.injEq, AV.bool.injEq, true_and, and_true] at h
  rw [bytes_inj h.1, h.2], fun x h => con_tail x.1 x.2 h⟩
def eRest : Ent Try.prog D := ⟨99, List UInt8 × Bool, fun x => [.sl 1 (x.1.map byteRow), .bool x.2], fun x => x.1.length ≤ 4194304, fun x => ⟨.tup [noteA (restS x.1 x.2).1, .bool (restS x.1 x.2).2], []⟩, fun x y _ _ h => by
  obtain ⟨a, b⟩ := x
  obtain ⟨c, d⟩ := y
  simp only [List.cons.injEq, AV.sl.injEq, AV.bool.injEq, true_and, and_true] at h
  rw [bytes_inj h.1, h.2], fun x h => con_rest x.1 x.2 h⟩
def eWrongask : Ent Try.prog D := ⟨97, LAsk, fun x => [askA x], LAsk.Fits, fun x => ⟨.int .i64 (wrongAskS x), []⟩, fun x y _ _ h => by
  simp only [List.cons.injEq, and_true] at h
  rw [askA_inj h], con_wrongask⟩
def eRefwrongask : Ent Try.prog D := ⟨60, LAsk, fun x => [askA x], LAsk.Fits, fun x => ⟨.int .i64 (wrongAskS x), []⟩, fun x y _ _ h => by
  simp only [List.cons.injEq, and_true] at h
  rw [askA_inj h], con_refwrongask⟩
def eFrwrong : Ent Try.prog D := ⟨58, LSay, fun x => [sayA x], fun s => s.note.Fits, fun x => ⟨.int .i64 (wrongSayS x), []⟩, fun x y _ _ h => by
  simp only [List.cons.injEq, and_true] at h
  rw [sayA_inj h], con_frwrong⟩
def eRefwrongsay : Ent Try.prog D := ⟨59, LSay, fun x => [sayA x], fun s => s.note.Fits, fun x => ⟨.int .i64 (wrongSayS x), []⟩, fun x y _ _ h => by
  simp only [List.cons.injEq, and_true] at h
  rw [sayA_inj h], con_refwrongsay⟩

def ask0 : LAsk := ⟨0, ⟨#[]⟩, 0, note0⟩
def say0 : LSay := ⟨0, 0, 0, 0, note0⟩
/-- the ask that stands in a frame -/
def askIn (i : List UInt8) : LAsk := ⟨(i.getD 0 0).toNat, ⟨⟨(i.take (2 + (i.getD 1 0).toNat)).drop 2⟩⟩, getS (i.drop (2 + (i.getD 1 0).toNat)), (tailS (i.drop (6 + (i.getD 1 0).toNat)) (decide ((i.getD 0 0).toNat = 4))).1⟩
def askP (l : List UInt8) : LAsk × Int × Int :=
  if (frameS l).2.2 ≠ 0 then (ask0, 0, (frameS l).2.2)
  else if (frameS l).1.length < 6 + ((frameS l).1.getD 1 0).toNat then (ask0, 0, 2)
  else if (tailS ((frameS l).1.drop (6 + ((frameS l).1.getD 1 0).toNat)) (decide (((frameS l).1.getD 0 0).toNat = 4))).2 ≠ 0 then (ask0, 0, 2)
  else if wrongAskS (askIn (frameS l).1) ≠ 0 then (ask0, 0, wrongAskS (askIn (frameS l).1))
  else (askIn (frameS l).1, (frameS l).2.1, 0)
theorem frameS_len (l : List UInt8) : (frameS l).1.length ≤ 398 := by
  unfold frameS
  split
  · simp
  split
  · simp
  split
  · simp
  · simp only [List.length_drop, List.length_take]; omega
theorem tail_two (l : List UInt8) (b : Bool) : (tailS l b).2 = 0 ∨ (tailS l b).2 = 2 := by
  unfold tailS
  split
  · split
    · exact .inr rfl
    · exact .inl rfl
  · split
    · exact .inr rfl
    · exact .inl rfl
theorem tail_fits (l : List UInt8) (b : Bool) : (tailS l b).1.Fits := by
  unfold tailS
  split
  · split <;> exact fits_zero
  · split
    · exact fits_zero
    · exact fits_parse l
theorem askIn_fits (i : List UInt8) (h : i.length ≤ 398) : (askIn i).Fits := by
  refine ⟨?_, tail_fits _ _⟩
  show ((i.take _).drop 2).toArray.size ≤ _
  simp only [List.size_toArray, List.length_drop, List.length_take]
  omega
def askLo : Nat → Lo := fun id => match id with | 7 => {uo := [14], un := [9], ex := [13]} | 8 => {uo := [12], un := [9], ex := [4, 5, 6, 7, 8, 9, 11]} | _ => {}
set_option maxRecDepth 100000 in
theorem con_ask (l : List UInt8) (hl : l.length ≤ 4194304) : Con Try.prog D 65 [.sl 1 (l.map byteRow)] ⟨.tup [askA (askP l).1, .int .i64 (askP l).2.1, .int .i64 (askP l).2.2], []⟩ := by
  have hok : GOk Try.prog D (tabG [eFrame, eFrget, eTail, eWrongask]) := tabG_ok _
  have g1 : tabG [eFrame, eFrget, eTail, eWrongask] 94 [.sl 1 (l.map byteRow)] = some ⟨.tup [.sl 1 ((frameS l).1.map byteRow), .int .i64 (frameS l).2.1, .int .i64 (frameS l).2.2], []⟩ := tabG_at (E := eFrame) (T := [eFrame, eFrget, eTail, eWrongask]) (i := 0) rfl (by decide) l (show l.length ≤ 8388608 by omega) rfl rfl
  have g2 : ∀ m : List UInt8, 4 ≤ m.length → m.length ≤ 8388608 → tabG [eFrame, eFrget, eTail, eWrongask] 95 [.sl 1 (m.map byteRow)] = some ⟨.int .i64 (getS m), []⟩ := fun m h h' => tabG_at (E := eFrget) (T := [eFrame, eFrget, eTail, eWrongask]) (i := 1) rfl (by decide) m ⟨h, h'⟩ rfl rfl
  have g3 : ∀ (m : List UInt8) (b : Bool), m.length ≤ 4194304 → tabG [eFrame, eFrget, eTail, eWrongask] 96 [.sl 1 (m.map byteRow), .bool b] = some ⟨.tup [noteA (tailS m b).1, .int .i64 (tailS m b).2], []⟩ := fun m b h => tabG_at (E := eTail) (T := [eFrame, eFrget, eTail, eWrongask]) (i := 2) rfl (by decide) (m, b) h rfl rfl
  have g4 : ∀ a : LAsk, a.Fits → tabG [eFrame, eFrget, eTail, eWrongask] 97 [askA a] = some ⟨.int .i64 (wrongAskS a), []⟩ := fun a h => tabG_at (E := eWrongask) (T := [eFrame, eFrget, eTail, eWrongask]) (i := 3) rfl (by decide) a h rfl rfl
  have hfl := frameS_len l
  have g5 := g4 _ (askIn_fits _ hfl)
  clear g4
  generalize tabG [eFrame, eFrget, eTail, eWrongask] = G at *
  simp only [noteA, askA, askIn] at g1 g2 g3 g5
  have hcon : ∀ r, r = askP l → Con Try.prog D 65 [.sl 1 (l.map byteRow)] ⟨.tup [askA r.1, .int .i64 r.2.1, .int .i64 r.2.2], []⟩ := by
    intro r hr
    refine con_of (G := G) (rs := [(2, some 80), (3, none), (4, none)]) mixed tok hok Try.func65 rfl (by decide) Try.results65 (by decide) rfl Try.ntmps65 (by simp) (by simp [namess, names]) fun X hP hD hG' hX => evC_sound hX askLo _ _ _ ?_
    simp only [argS, num]
    unfold askP at hr
    generalize frameS l = f at *
    obtain ⟨i, n, e⟩ := f
    simp only at hr g1 g5 hfl
    have ha := (i.getD 0 0).toNat_lt
    have hb := (i.getD 1 0).toNat_lt
    simp (disch := ((try simp only [List.length_drop, List.length_take, List.length_append, List.length_cons, List.length_nil, List.length_map]); omega)) only [go_sem, Nat.reduceLeDiff, reduceCtorEq, Nat.reduceAdd, Nat.reduceSub, Nat.reduceMul, Nat.reduceLT, Nat.reduceEqDiff, Int.reduceEq, Int.reduceLE, Int.reduceLT, Int.reducePow, Int.reduceMul, Int.reduceToNat, Int.reduceNeg, ↓reduceIte, ← List.map_take, ← List.map_drop, hD, hG', wrap64, askLo, g1, g2, g3, g5]
    refine condK_split (fun h => ?_) (fun h => ?_)
    · simp (disch := ((try simp only [List.length_drop, List.length_take, List.length_append, List.length_cons, List.length_nil, List.length_map]); omega)) only [go_sem, Nat.reduceLeDiff, reduceCtorEq, Nat.reduceAdd, Nat.reduceSub, Nat.reduceMul, Nat.reduceLT, Nat.reduceEqDiff, Int.reduceEq, Int.reduceLE, Int.reduceLT, Int.reducePow, Int.reduceMul, Int.reduceToNat, Int.reduceNeg, ↓reduceIte, ← List.map_take, ← List.map_drop, hD, hG', wrap64, askLo, g1, g2, g3, g5, unbox, tmv, Option.some.injEq, exists_eq_left']
      refine ⟨[], [], rfl, rfl, ?_, ?_⟩ <;> simp only [freeze_nil, freeze_cons, mapT, mapB, mapL, gone, fz, fzs, plain, rowsAt, List.cons_append, List.nil_append, covT, covB, covBlk, cov, covs, keys, get, blk, jn, subs, mem, names, namess, Option.map_some, Option.map_none, Option.getD_some, Option.getD_none, resS, resT, resT.resT', ownS, Nat.reduceEqDiff, ↓reduceIte, if_true, if_false, and_true, true_and, and_self, Nat.reduceAdd, List.map_cons, List.map_nil, ite_true, ite_false, reduceCtorEq, noteA, askA]
      clear g1 g2 g3 g5 hok hP hD hG' hX
      grind [ask0, note0]
    have he : e = 0 := by simpa using h
    subst he
    by_cases h6 : i.length < 6
    · have hd6 : decide ((i.length : Int) < 6) = true := by simp; omega
      simp (disch := ((try simp only [List.length_drop, List.length_take, List.length_append, List.length_cons, List.length_nil, List.length_map]); omega)) only [go_sem, Nat.reduceLeDiff, reduceCtorEq, Nat.reduceAdd, Nat.reduceSub, Nat.reduceMul, Nat.reduceLT, Nat.reduceEqDiff, Int.reduceEq, Int.reduceLE, Int.reduceLT, Int.reducePow, Int.reduceMul, Int.reduceToNat, Int.reduceNeg, ↓reduceIte, ← List.map_take, ← List.map_drop, hD, hG', wrap64, askLo, g1, hd6]
      refine RegT.mk [(3, false)] ?_
      simp (disch := ((try simp only [List.length_drop, List.length_take, List.length_append, List.length_cons, List.length_nil, List.length_map]); omega)) only [go_sem, Nat.reduceLeDiff, reduceCtorEq, Nat.reduceAdd, Nat.reduceSub, Nat.reduceMul, Nat.reduceLT, Nat.reduceEqDiff, Int.reduceEq, Int.reduceLE, Int.reduceLT, Int.reducePow, Int.reduceMul, Int.reduceToNat, Int.reduceNeg, ↓reduceIte, ← List.map_take, ← List.map_drop, hD, hG', wrap64, askLo, g1, hd6, byteGet, wrap_byte, unbox, tmv, Option.some.injEq, exists_eq_left']
      refine ⟨[], [], rfl, rfl, ?_, ?_⟩ <;> simp only [freeze_nil, freeze_cons, mapT, mapB, mapL, gone, fz, fzs, plain, rowsAt, List.cons_append, List.nil_append, covT, covB, covBlk, cov, covs, keys, get, blk, jn, subs, mem, names, namess, Option.map_some, Option.map_none, Option.getD_some, Option.getD_none, resS, resT, resT.resT', ownS, Nat.reduceEqDiff, ↓reduceIte, if_true, if_false, and_true, true_and, and_self, Nat.reduceAdd, List.map_cons, List.map_nil, ite_true, ite_false, reduceCtorEq, noteA, askA]
      clear g1 g2 g3 g5 hok hP hD hG' hX
      rw [hr, if_neg (by decide), if_pos (by omega)]
      simp [ask0, note0]
    have hd6 : decide ((i.length : Int) < 6) = false := by simp; omega
    have t2 : (2 + ((i.getD 1 0).toNat : Int)).toNat = 2 + (i.getD 1 0).toNat := by omega
    have t6 : (2 + ((i.getD 1 0).toNat : Int) + 4).toNat = 6 + (i.getD 1 0).toNat := by omega
    have hkb : (((i.getD 0 0).toNat : Int) == 4) = decide ((i.getD 0 0).toNat = 4) := by rw [Bool.eq_iff_iff]; simp; omega
    simp (disch := ((try simp only [List.length_drop, List.length_take, List.length_append, List.length_cons, List.length_nil, List.length_map]); omega)) only [go_sem, Nat.reduceLeDiff, reduceCtorEq, Nat.reduceAdd, Nat.reduceSub, Nat.reduceMul, Nat.reduceLT, Nat.reduceEqDiff, Int.reduceEq, Int.reduceLE, Int.reduceLT, Int.reducePow, Int.reduceMul, Int.reduceToNat, Int.reduceNeg, ↓reduceIte, ← List.map_take, ← List.map_drop, hD, hG', wrap64, askLo, g1, hd6]
    refine RegT.mk [] ?_
    simp (disch := ((try simp only [List.length_drop, List.length_take, List.length_append, List.length_cons, List.length_nil, List.length_map]); omega)) only [go_sem, Nat.reduceLeDiff, reduceCtorEq, Nat.reduceAdd, Nat.reduceSub, Nat.reduceMul, Nat.reduceLT, Nat.reduceEqDiff, Int.reduceEq, Int.reduceLE, Int.reduceLT, Int.reducePow, Int.reduceMul, Int.reduceToNat, Int.reduceNeg, ↓reduceIte, ← List.map_take, ← List.map_drop, hD, hG', wrap64, askLo, g1, hd6, byteGet, wrap_byte]
    refine ⟨by omega, condK_split (fun h => ?_) (fun h => ?_)⟩
    · simp (disch := ((try simp only [List.length_drop, List.length_take, List.length_append, List.length_cons, List.length_nil, List.length_map]); omega)) only [go_sem, Nat.reduceLeDiff, reduceCtorEq, Nat.reduceAdd, Nat.reduceSub, Nat.reduceMul, Nat.reduceLT, Nat.reduceEqDiff, Int.reduceEq, Int.reduceLE, Int.reduceLT, Int.reducePow, Int.reduceMul, Int.reduceToNat, Int.reduceNeg, ↓reduceIte, ← List.map_take, ← List.map_drop, hD, hG', wrap64, askLo, g1, hd6, byteGet, wrap_byte, unbox, tmv, Option.some.injEq, exists_eq_left']
      refine ⟨[], [], rfl, rfl, ?_, ?_⟩ <;> simp only [freeze_nil, freeze_cons, mapT, mapB, mapL, gone, fz, fzs, plain, rowsAt, List.cons_append, List.nil_append, covT, covB, covBlk, cov, covs, keys, get, blk, jn, subs, mem, names, namess, Option.map_some, Option.map_none, Option.getD_some, Option.getD_none, resS, resT, resT.resT', ownS, Nat.reduceEqDiff, ↓reduceIte, if_true, if_false, and_true, true_and, and_self, Nat.reduceAdd, List.map_cons, List.map_nil, ite_true, ite_false, reduceCtorEq, noteA, askA]
      clear g1 g2 g3 g5 hok hP hD hG' hX
      rw [decide_eq_true_eq] at h
      rw [hr, if_neg (by decide), if_pos (by omega)]
      simp [ask0, note0]
    rw [decide_eq_false_iff_not] at h
    simp (disch := ((try simp only [List.length_drop, List.length_take, List.length_append, List.length_cons, List.length_nil, List.length_map]); omega)) only [go_sem, Nat.reduceLeDiff, reduceCtorEq, Nat.reduceAdd, Nat.reduceSub, Nat.reduceMul, Nat.reduceLT, Nat.reduceEqDiff, Int.reduceEq, Int.reduceLE, Int.reduceLT, Int.reducePow, Int.reduceMul, Int.reduceToNat, Int.reduceNeg, ↓reduceIte, ← List.map_take, ← List.map_drop, hD, hG', wrap64, askLo, g1, g2, g3, g5, byteGet, wrap_byte, t2, t6, hkb, List.take_length]
    ((try and_intros); all_goals (try first | omega | decide | (simp; done) | (simp only [List.length_append, List.length_cons, List.length_nil, List.length_map]; omega)))
    iterate 24 (all_goals (try (first | (refine RegT.mk [] ?_; simp (disch := ((try simp only [List.length_drop, List.length_take, List.length_append, List.length_cons, List.length_nil, List.length_map]); omega)) only [go_sem, Nat.reduceLeDiff, reduceCtorEq, Nat.reduceAdd, Nat.reduceSub, Nat.reduceMul, Nat.reduceLT, Nat.reduceEqDiff, Int.reduceEq, Int.reduceLE, Int.reduceLT, Int.reducePow, Int.reduceMul, Int.reduceToNat, Int.reduceNeg, ↓reduceIte, ← List.map_take, ← List.map_drop, hD, hG', wrap64, askLo, g5]) | (refine condK_split (fun h => ?_) (fun h => ?_) <;> ((try simp only [decide_eq_true_eq, decide_eq_false_iff_not, Int.not_lt, Int.not_le, Bool.not_eq_true] at h); simp (disch := ((try simp only [List.length_drop, List.length_take, List.length_append, List.length_cons, List.length_nil, List.length_map]); omega)) only [go_sem, Nat.reduceLeDiff, reduceCtorEq, Nat.reduceAdd, Nat.reduceSub, Nat.reduceMul, Nat.reduceLT, Nat.reduceEqDiff, Int.reduceEq, Int.reduceLE, Int.reduceLT, Int.reducePow, Int.reduceMul, Int.reduceToNat, Int.reduceNeg, ↓reduceIte, ← List.map_take, ← List.map_drop, hD, hG', wrap64, askLo, g5])) | and_intros)))
    all_goals (try (first | decide | omega | (first | (intro hk; refine ⟨hk, fun h2 => ?_⟩; first | (rw [hk, h2]; rfl) | (rw [hk, decide_eq_false h2]; rfl)) | (intro hk; rw [decide_eq_false hk]; rfl) | (intro hk; rw [hk]; rfl))))
    all_goals (simp (disch := ((try simp only [List.length_drop, List.length_take, List.length_append, List.length_cons, List.length_nil, List.length_map]); omega)) only [go_sem, Nat.reduceLeDiff, reduceCtorEq, Nat.reduceAdd, Nat.reduceSub, Nat.reduceMul, Nat.reduceLT, Nat.reduceEqDiff, Int.reduceEq, Int.reduceLE, Int.reduceLT, Int.reducePow, Int.reduceMul, Int.reduceToNat, Int.reduceNeg, ↓reduceIte, ← List.map_take, ← List.map_drop, hD, hG', wrap64, askLo, g5, unbox, tmv, Option.some.injEq, exists_eq_left'])
    all_goals (refine ⟨[], [], rfl, rfl, ?_, ?_⟩ <;> simp only [freeze_nil, freeze_cons, mapT, mapB, mapL, gone, fz, fzs, plain, rowsAt, List.cons_append, List.nil_append, covT, covB, covBlk, cov, covs, keys, get, blk, jn, subs, mem, names, namess, Option.map_some, Option.map_none, Option.getD_some, Option.getD_none, resS, resT, resT.resT', ownS, Nat.reduceEqDiff, ↓reduceIte, if_true, if_false, and_true, true_and, and_self, Nat.reduceAdd, List.map_cons, List.map_nil, ite_true, ite_false, reduceCtorEq, noteA, askA])
    all_goals clear g1 g2 g3 g5 hok hP hD hG' hX
    all_goals (rw [if_neg (by decide), if_neg (by omega)] at hr)
    all_goals (have htl := tail_two (i.drop (6 + (i.getD 1 0).toNat)) (decide ((i.getD 0 0).toNat = 4)))
    all_goals (simp only [askIn] at hr)
    all_goals (clear t2 t6 hkb hd6 h6 hb ha hfl hl)
    all_goals grind [ask0, note0]
  exact hcon _ rfl
end Go.Proofs.Ytcgdjdlcecnanaa.Ab
namespace Go.Proofs.Ytcgdjdlcecnanaa.Ab
open Go Go.RowKit
set_option linter.unusedVariables false
set_option linter.unusedSimpArgs false

theorem getS_take (l : List UInt8) (k : Nat) : getS ((l.take (k + 4)).drop k) = getS (l.drop k) := by
  have h : ∀ j, j < 4 → ((l.take (k + 4)).drop k).getD j 0 = (l.drop k).getD j 0 := fun j hj => by
    rw [List.getD_eq_getElem?_getD, List.getD_eq_getElem?_getD, List.getElem?_drop, List.getElem?_drop, List.getElem?_take, if_pos (by omega)]
  unfold getS numN
  rw [h 0 (by omega), h 1 (by omega), h 2 (by omega), h 3 (by omega)]
theorem rest_tail (l : List UInt8) (b : Bool) : ((restS l b).2 = true → tailS l b = ((restS l b).1, 0)) ∧ ((restS l b).2 = false → (tailS l b).2 = 2) := by
  unfold restS tailS
  cases b
  · by_cases h : l.length = 0
    · simp [h]
    · have : 0 < l.length := by omega
      simp [h, this]
  · by_cases h : (parseS l).2.2 = 0 ∧ (parseS l).2.1 = l.length
    · simp [h]
    · have : (parseS l).2.2 ≠ 0 ∨ (parseS l).2.1 ≠ l.length := by omega
      simp only [Bool.true_eq_false, if_false, if_pos this]
      simp [h]
theorem rest_fits (l : List UInt8) (b : Bool) : (restS l b).1.Fits := by
  unfold restS
  split
  · exact fits_zero
  · exact fits_parse l
def reframeaskLo : Nat → Lo := fun id => match id with | 7 => {uo := [16], un := [9], ex := [15]} | 8 => {uo := [12], un := [10], ex := [11]} | _ => {}
set_option maxRecDepth 100000 in
theorem con_frameask (l : List UInt8) (hl : l.length ≤ 4194304) : Con Try.prog D 66 [.sl 1 (l.map byteRow)] ⟨.tup [askA (askP l).1, .int .i64 (askP l).2.1, .int .i64 (askP l).2.2], []⟩ := by
  have hok : GOk Try.prog D (tabG [eUnframe, eGet, eRest, eRefwrongask]) := tabG_ok _
  have g1 : tabG [eUnframe, eGet, eRest, eRefwrongask] 98 [.sl 1 (l.map byteRow)] = some ⟨.tup [.sl 1 ((frameS l).1.map byteRow), .int .i64 (frameS l).2.1, .int .i64 (frameS l).2.2], []⟩ := tabG_at (E := eUnframe) (T := [eUnframe, eGet, eRest, eRefwrongask]) (i := 0) rfl (by decide) l (show l.length ≤ 8388608 by omega) rfl rfl
  have g2 : ∀ m : List UInt8, 4 ≤ m.length → m.length ≤ 8388608 → tabG [eUnframe, eGet, eRest, eRefwrongask] 84 [.sl 1 (m.map byteRow)] = some ⟨.int .i64 (getS m), []⟩ := fun m h h' => tabG_at (E := eGet) (T := [eUnframe, eGet, eRest, eRefwrongask]) (i := 1) rfl (by decide) m ⟨h, h'⟩ rfl rfl
  have g3 : ∀ (m : List UInt8) (b : Bool), m.length ≤ 4194304 → tabG [eUnframe, eGet, eRest, eRefwrongask] 99 [.sl 1 (m.map byteRow), .bool b] = some ⟨.tup [noteA (restS m b).1, .bool (restS m b).2], []⟩ := fun m b h => tabG_at (E := eRest) (T := [eUnframe, eGet, eRest, eRefwrongask]) (i := 2) rfl (by decide) (m, b) h rfl rfl
  have g4 : ∀ a : LAsk, a.Fits → tabG [eUnframe, eGet, eRest, eRefwrongask] 60 [askA a] = some ⟨.int .i64 (wrongAskS a), []⟩ := fun a h => tabG_at (E := eRefwrongask) (T := [eUnframe, eGet, eRest, eRefwrongask]) (i := 3) rfl (by decide) a h rfl rfl
  have hfl := frameS_len l
  have g5 := g4 ⟨((frameS l).1.getD 0 0).toNat, ⟨⟨((frameS l).1.take (((frameS l).1.getD 1 0).toNat + 2)).drop 2⟩⟩, getS (((frameS l).1.take (((frameS l).1.getD 1 0).toNat + 2 + 4)).drop (((frameS l).1.getD 1 0).toNat + 2)), (restS ((frameS l).1.drop (((frameS l).1.getD 1 0).toNat + 2 + 4)) (decide (((frameS l).1.getD 0 0).toNat = 4))).1⟩ ⟨by
    show (((frameS l).1.take _).drop 2).toArray.size ≤ _
    simp only [List.size_toArray, List.length_drop, List.length_take]
    omega, rest_fits _ _⟩
  clear g4
  generalize tabG [eUnframe, eGet, eRest, eRefwrongask] = G at *
  simp only [noteA, askA, askIn] at g1 g2 g3 g5
  have hcon : ∀ r, r = askP l → Con Try.prog D 66 [.sl 1 (l.map byteRow)] ⟨.tup [askA r.1, .int .i64 r.2.1, .int .i64 r.2.2], []⟩ := by
    intro r hr
    refine con_of (G := G) (rs := [(2, some 80), (3, none), (4, none)]) mixed tok hok Try.func66 rfl (by decide) Try.results66 (by decide) rfl Try.ntmps66 (by simp) (by simp [namess, names]) fun X hP hD hG' hX => evC_sound hX reframeaskLo _ _ _ ?_
    simp only [argS, num]
    unfold askP at hr
    generalize frameS l = f at *
    obtain ⟨i, n, e⟩ := f
    simp only at hr g1 g5 hfl
    have ha := (i.getD 0 0).toNat_lt
    have hb := (i.getD 1 0).toNat_lt
    simp (disch := ((try simp only [List.length_drop, List.length_take, List.length_append, List.length_cons, List.length_nil, List.length_map]); omega)) only [go_sem, Nat.reduceLeDiff, reduceCtorEq, Nat.reduceAdd, Nat.reduceSub, Nat.reduceMul, Nat.reduceLT, Nat.reduceEqDiff, Int.reduceEq, Int.reduceLE, Int.reduceLT, Int.reducePow, Int.reduceMul, Int.reduceToNat, Int.reduceNeg, ↓reduceIte, ← List.map_take, ← List.map_drop, hD, hG', wrap64, reframeaskLo, g1, g2, g3, g5]
    refine condK_split (fun h => ?_) (fun h => ?_)
    · simp (disch := ((try simp only [List.length_drop, List.length_take, List.length_append, List.length_cons, List.length_nil, List.length_map]); omega)) only [go_sem, Nat.reduceLeDiff, reduceCtorEq, Nat.reduceAdd, Nat.reduceSub, Nat.reduceMul, Nat.reduceLT, Nat.reduceEqDiff, Int.reduceEq, Int.reduceLE, Int.reduceLT, Int.reducePow, Int.reduceMul, Int.reduceToNat, Int.reduceNeg, ↓reduceIte, ← List.map_take, ← List.map_drop, hD, hG', wrap64, reframeaskLo, g1, g2, g3, g5, unbox, tmv, Option.some.injEq, exists_eq_left']
      refine ⟨[], [], rfl, rfl, ?_, ?_⟩ <;> simp only [freeze_nil, freeze_cons, mapT, mapB, mapL, gone, fz, fzs, plain, rowsAt, List.cons_append, List.nil_append, covT, covB, covBlk, cov, covs, keys, get, blk, jn, subs, mem, names, namess, Option.map_some, Option.map_none, Option.getD_some, Option.getD_none, resS, resT, resT.resT', ownS, Nat.reduceEqDiff, ↓reduceIte, if_true, if_false, and_true, true_and, and_self, Nat.reduceAdd, List.map_cons, List.map_nil, ite_true, ite_false, reduceCtorEq, noteA, askA]
      clear g1 g2 g3 g5 hok hP hD hG' hX
      grind [ask0, note0]
    have he : e = 0 := by simpa using h
    subst he
    by_cases h6 : i.length < 6
    · have hd6 : decide ((i.length : Int) < 6) = true := by simp; omega
      simp (disch := ((try simp only [List.length_drop, List.length_take, List.length_append, List.length_cons, List.length_nil, List.length_map]); omega)) only [go_sem, Nat.reduceLeDiff, reduceCtorEq, Nat.reduceAdd, Nat.reduceSub, Nat.reduceMul, Nat.reduceLT, Nat.reduceEqDiff, Int.reduceEq, Int.reduceLE, Int.reduceLT, Int.reducePow, Int.reduceMul, Int.reduceToNat, Int.reduceNeg, ↓reduceIte, ← List.map_take, ← List.map_drop, hD, hG', wrap64, reframeaskLo, g1, hd6]
      refine RegT.mk [(3, false)] ?_
      simp (disch := ((try simp only [List.length_drop, List.length_take, List.length_append, List.length_cons, List.length_nil, List.length_map]); omega)) only [go_sem, Nat.reduceLeDiff, reduceCtorEq, Nat.reduceAdd, Nat.reduceSub, Nat.reduceMul, Nat.reduceLT, Nat.reduceEqDiff, Int.reduceEq, Int.reduceLE, Int.reduceLT, Int.reducePow, Int.reduceMul, Int.reduceToNat, Int.reduceNeg, ↓reduceIte, ← List.map_take, ← List.map_drop, hD, hG', wrap64, reframeaskLo, g1, hd6, byteGet, wrap_byte, unbox, tmv, Option.some.injEq, exists_eq_left']
      refine ⟨[], [], rfl, rfl, ?_, ?_⟩ <;> simp only [freeze_nil, freeze_cons, mapT, mapB, mapL, gone, fz, fzs, plain, rowsAt, List.cons_append, List.nil_append, covT, covB, covBlk, cov, covs, keys, get, blk, jn, subs, mem, names, namess, Option.map_some, Option.map_none, Option.getD_some, Option.getD_none, resS, resT, resT.resT', ownS, Nat.reduceEqDiff, ↓reduceIte, if_true, if_false, and_true, true_and, and_self, Nat.reduceAdd, List.map_cons, List.map_nil, ite_true, ite_false, reduceCtorEq, noteA, askA]
      clear g1 g2 g3 g5 hok hP hD hG' hX
      rw [hr, if_neg (by decide), if_pos (by omega)]
      simp [ask0, note0]
    have hd6 : decide ((i.length : Int) < 6) = false := by simp; omega
    have t2 : (((i.getD 1 0).toNat : Int) + 2).toNat = (i.getD 1 0).toNat + 2 := by omega
    have t6 : (((i.getD 1 0).toNat : Int) + 2 + 4).toNat = (i.getD 1 0).toNat + 2 + 4 := by omega
    have hkb : (((i.getD 0 0).toNat : Int) == 4) = decide ((i.getD 0 0).toNat = 4) := by rw [Bool.eq_iff_iff]; simp; omega
    simp (disch := ((try simp only [List.length_drop, List.length_take, List.length_append, List.length_cons, List.length_nil, List.length_map]); omega)) only [go_sem, Nat.reduceLeDiff, reduceCtorEq, Nat.reduceAdd, Nat.reduceSub, Nat.reduceMul, Nat.reduceLT, Nat.reduceEqDiff, Int.reduceEq, Int.reduceLE, Int.reduceLT, Int.reducePow, Int.reduceMul, Int.reduceToNat, Int.reduceNeg, ↓reduceIte, ← List.map_take, ← List.map_drop, hD, hG', wrap64, reframeaskLo, g1, hd6]
    refine RegT.mk [] ?_
    simp (disch := ((try simp only [List.length_drop, List.length_take, List.length_append, List.length_cons, List.length_nil, List.length_map]); omega)) only [go_sem, Nat.reduceLeDiff, reduceCtorEq, Nat.reduceAdd, Nat.reduceSub, Nat.reduceMul, Nat.reduceLT, Nat.reduceEqDiff, Int.reduceEq, Int.reduceLE, Int.reduceLT, Int.reducePow, Int.reduceMul, Int.reduceToNat, Int.reduceNeg, ↓reduceIte, ← List.map_take, ← List.map_drop, hD, hG', wrap64, reframeaskLo, g1, hd6, byteGet, wrap_byte]
    refine ⟨by omega, condK_split (fun h => ?_) (fun h => ?_)⟩
    · simp (disch := ((try simp only [List.length_drop, List.length_take, List.length_append, List.length_cons, List.length_nil, List.length_map]); omega)) only [go_sem, Nat.reduceLeDiff, reduceCtorEq, Nat.reduceAdd, Nat.reduceSub, Nat.reduceMul, Nat.reduceLT, Nat.reduceEqDiff, Int.reduceEq, Int.reduceLE, Int.reduceLT, Int.reducePow, Int.reduceMul, Int.reduceToNat, Int.reduceNeg, ↓reduceIte, ← List.map_take, ← List.map_drop, hD, hG', wrap64, reframeaskLo, g1, hd6, byteGet, wrap_byte, unbox, tmv, Option.some.injEq, exists_eq_left']
      refine ⟨[], [], rfl, rfl, ?_, ?_⟩ <;> simp only [freeze_nil, freeze_cons, mapT, mapB, mapL, gone, fz, fzs, plain, rowsAt, List.cons_append, List.nil_append, covT, covB, covBlk, cov, covs, keys, get, blk, jn, subs, mem, names, namess, Option.map_some, Option.map_none, Option.getD_some, Option.getD_none, resS, resT, resT.resT', ownS, Nat.reduceEqDiff, ↓reduceIte, if_true, if_false, and_true, true_and, and_self, Nat.reduceAdd, List.map_cons, List.map_nil, ite_true, ite_false, reduceCtorEq, noteA, askA]
      clear g1 g2 g3 g5 hok hP hD hG' hX
      rw [decide_eq_true_eq] at h
      rw [hr, if_neg (by decide), if_pos (by omega)]
      simp [ask0, note0]
    rw [decide_eq_false_iff_not] at h
    simp (disch := ((try simp only [List.length_drop, List.length_take, List.length_append, List.length_cons, List.length_nil, List.length_map]); omega)) only [go_sem, Nat.reduceLeDiff, reduceCtorEq, Nat.reduceAdd, Nat.reduceSub, Nat.reduceMul, Nat.reduceLT, Nat.reduceEqDiff, Int.reduceEq, Int.reduceLE, Int.reduceLT, Int.reducePow, Int.reduceMul, Int.reduceToNat, Int.reduceNeg, ↓reduceIte, ← List.map_take, ← List.map_drop, hD, hG', wrap64, reframeaskLo, g1, g2, g3, g5, byteGet, wrap_byte, t2, t6, hkb, List.take_length]
    ((try and_intros); all_goals (try first | omega | decide | (simp; done) | (simp only [List.length_append, List.length_cons, List.length_nil, List.length_map]; omega)))
    iterate 24 (all_goals (try (first | (refine RegT.mk [] ?_; simp (disch := ((try simp only [List.length_drop, List.length_take, List.length_append, List.length_cons, List.length_nil, List.length_map]); omega)) only [go_sem, Nat.reduceLeDiff, reduceCtorEq, Nat.reduceAdd, Nat.reduceSub, Nat.reduceMul, Nat.reduceLT, Nat.reduceEqDiff, Int.reduceEq, Int.reduceLE, Int.reduceLT, Int.reducePow, Int.reduceMul, Int.reduceToNat, Int.reduceNeg, ↓reduceIte, ← List.map_take, ← List.map_drop, hD, hG', wrap64, reframeaskLo, g5]) | (refine condK_split (fun h => ?_) (fun h => ?_) <;> ((try simp only [decide_eq_true_eq, decide_eq_false_iff_not, Int.not_lt, Int.not_le, Bool.not_eq_true] at h); simp (disch := ((try simp only [List.length_drop, List.length_take, List.length_append, List.length_cons, List.length_nil, List.length_map]); omega)) only [go_sem, Nat.reduceLeDiff, reduceCtorEq, Nat.reduceAdd, Nat.reduceSub, Nat.reduceMul, Nat.reduceLT, Nat.reduceEqDiff, Int.reduceEq, Int.reduceLE, Int.reduceLT, Int.reducePow, Int.reduceMul, Int.reduceToNat, Int.reduceNeg, ↓reduceIte, ← List.map_take, ← List.map_drop, hD, hG', wrap64, reframeaskLo, g5])) | and_intros)))
    all_goals (try (first | decide | omega | (first | (intro hk; refine ⟨hk, fun h2 => ?_⟩; first | (rw [hk, h2]; rfl) | (rw [hk, decide_eq_false h2]; rfl)) | (intro hk; rw [decide_eq_false hk]; rfl) | (intro hk; rw [hk]; rfl))))
    all_goals (simp (disch := ((try simp only [List.length_drop, List.length_take, List.length_append, List.length_cons, List.length_nil, List.length_map]); omega)) only [go_sem, Nat.reduceLeDiff, reduceCtorEq, Nat.reduceAdd, Nat.reduceSub, Nat.reduceMul, Nat.reduceLT, Nat.reduceEqDiff, Int.reduceEq, Int.reduceLE, Int.reduceLT, Int.reducePow, Int.reduceMul, Int.reduceToNat, Int.reduceNeg, ↓reduceIte, ← List.map_take, ← List.map_drop, hD, hG', wrap64, reframeaskLo, g5, unbox, tmv, Option.some.injEq, exists_eq_left'])
    all_goals (refine ⟨[], [], rfl, rfl, ?_, ?_⟩ <;> simp only [freeze_nil, freeze_cons, mapT, mapB, mapL, gone, fz, fzs, plain, rowsAt, List.cons_append, List.nil_append, covT, covB, covBlk, cov, covs, keys, get, blk, jn, subs, mem, names, namess, Option.map_some, Option.map_none, Option.getD_some, Option.getD_none, resS, resT, resT.resT', ownS, Nat.reduceEqDiff, ↓reduceIte, if_true, if_false, and_true, true_and, and_self, Nat.reduceAdd, List.map_cons, List.map_nil, ite_true, ite_false, reduceCtorEq, noteA, askA])
    all_goals clear g1 g2 g3 g5 hok hP hD hG' hX
    all_goals (rw [if_neg (by decide), if_neg (by omega)] at hr)
    all_goals (have hrt := rest_tail (i.drop (6 + (i.getD 1 0).toNat)) (decide ((i.getD 0 0).toNat = 4)))
    all_goals (simp only [askIn, Nat.add_comm 2 (i.getD 1 0).toNat, show 6 + (i.getD 1 0).toNat = (i.getD 1 0).toNat + 2 + 4 from by omega, getS_take] at hr hrt h ⊢)
    all_goals (clear t2 t6 hkb hd6 h6 hb ha hfl hl)
    all_goals grind [ask0, note0]
  exact hcon _ rfl
end Go.Proofs.Ytcgdjdlcecnanaa.Ab
namespace Go.Proofs.Ytcgdjdlcecnanaa.Ab
open Go Go.RowKit
set_option linter.unusedVariables false
set_option linter.unusedSimpArgs false

/-- the answer that stands in a frame -/
def sayIn (i : List UInt8) : LSay := ⟨(i.getD 0 0).toNat, getS (i.drop 1), (i.getD 5 0).toNat, (i.getD 6 0).toNat, (tailS (i.drop 7) (decide ((i.getD 0 0).toNat = 2))).1⟩
def sayP (l : List UInt8) : LSay × Int × Int :=
  if (frameS l).2.2 ≠ 0 then (say0, 0, (frameS l).2.2)
  else if (frameS l).1.length < 7 then (say0, 0, 2)
  else if (tailS ((frameS l).1.drop 7) (decide (((frameS l).1.getD 0 0).toNat = 2))).2 ≠ 0 then (say0, 0, 2)
  else if wrongSayS (sayIn (frameS l).1) ≠ 0 then (say0, 0, wrongSayS (sayIn (frameS l).1))
  else (sayIn (frameS l).1, (frameS l).2.1, 0)
def sayLo : Nat → Lo := fun id => match id with | 6 => {uo := [17], un := [8], ex := [16]} | 7 => {uo := [10], un := [8], ex := [2, 3, 4, 5, 6, 7, 9]} | _ => {}
set_option maxRecDepth 100000 in
theorem con_say (l : List UInt8) (hl : l.length ≤ 4194304) : Con Try.prog D 68 [.sl 1 (l.map byteRow)] ⟨.tup [sayA (sayP l).1, .int .i64 (sayP l).2.1, .int .i64 (sayP l).2.2], []⟩ := by
  have hok : GOk Try.prog D (tabG [eFrame, eFrget, eTail, eFrwrong]) := tabG_ok _
  have g1 : tabG [eFrame, eFrget, eTail, eFrwrong] 94 [.sl 1 (l.map byteRow)] = some ⟨.tup [.sl 1 ((frameS l).1.map byteRow), .int .i64 (frameS l).2.1, .int .i64 (frameS l).2.2], []⟩ := tabG_at (E := eFrame) (T := [eFrame, eFrget, eTail, eFrwrong]) (i := 0) rfl (by decide) l (show l.length ≤ 8388608 by omega) rfl rfl
  have g2 : ∀ m : List UInt8, 4 ≤ m.length → m.length ≤ 8388608 → tabG [eFrame, eFrget, eTail, eFrwrong] 95 [.sl 1 (m.map byteRow)] = some ⟨.int .i64 (getS m), []⟩ := fun m h h' => tabG_at (E := eFrget) (T := [eFrame, eFrget, eTail, eFrwrong]) (i := 1) rfl (by decide) m ⟨h, h'⟩ rfl rfl
  have g3 : ∀ (m : List UInt8) (b : Bool), m.length ≤ 4194304 → tabG [eFrame, eFrget, eTail, eFrwrong] 96 [.sl 1 (m.map byteRow), .bool b] = some ⟨.tup [noteA (tailS m b).1, .int .i64 (tailS m b).2], []⟩ := fun m b h => tabG_at (E := eTail) (T := [eFrame, eFrget, eTail, eFrwrong]) (i := 2) rfl (by decide) (m, b) h rfl rfl
  have g4 : ∀ a : LSay, a.note.Fits → tabG [eFrame, eFrget, eTail, eFrwrong] 58 [sayA a] = some ⟨.int .i64 (wrongSayS a), []⟩ := fun a h => tabG_at (E := eFrwrong) (T := [eFrame, eFrget, eTail, eFrwrong]) (i := 3) rfl (by decide) a h rfl rfl
  have hfl := frameS_len l
  have g5 := g4 (sayIn (frameS l).1) (tail_fits _ _)
  clear g4
  generalize tabG [eFrame, eFrget, eTail, eFrwrong] = G at *
  simp only [noteA, sayA, sayIn] at g1 g2 g3 g5
  have hcon : ∀ r, r = sayP l → Con Try.prog D 68 [.sl 1 (l.map byteRow)] ⟨.tup [sayA r.1, .int .i64 r.2.1, .int .i64 r.2.2], []⟩ := by
    intro r hr
    refine con_of (G := G) (rs := [(2, some 82), (3, none), (4, none)]) mixed tok hok Try.func68 rfl (by decide) Try.results68 (by decide) rfl Try.ntmps68 (by simp) (by simp [namess, names]) fun X hP hD hG' hX => evC_sound hX sayLo _ _ _ ?_
    simp only [argS, num]
    unfold sayP at hr
    generalize frameS l = f at *
    obtain ⟨i, n, e⟩ := f
    simp only at hr g1 g5 hfl
    have ha := (i.getD 0 0).toNat_lt
    have hb := (i.getD 1 0).toNat_lt
    simp (disch := ((try simp only [List.length_drop, List.length_take, List.length_append, List.length_cons, List.length_nil, List.length_map]); omega)) only [go_sem, Nat.reduceLeDiff, reduceCtorEq, Nat.reduceAdd, Nat.reduceSub, Nat.reduceMul, Nat.reduceLT, Nat.reduceEqDiff, Int.reduceEq, Int.reduceLE, Int.reduceLT, Int.reducePow, Int.reduceMul, Int.reduceToNat, Int.reduceNeg, ↓reduceIte, ← List.map_take, ← List.map_drop, hD, hG', wrap64, sayLo, g1, g2, g3, g5]
    refine condK_split (fun h => ?_) (fun h => ?_)
    · simp (disch := ((try simp only [List.length_drop, List.length_take, List.length_append, List.length_cons, List.length_nil, List.length_map]); omega)) only [go_sem, Nat.reduceLeDiff, reduceCtorEq, Nat.reduceAdd, Nat.reduceSub, Nat.reduceMul, Nat.reduceLT, Nat.reduceEqDiff, Int.reduceEq, Int.reduceLE, Int.reduceLT, Int.reducePow, Int.reduceMul, Int.reduceToNat, Int.reduceNeg, ↓reduceIte, ← List.map_take, ← List.map_drop, hD, hG', wrap64, sayLo, g1, g2, g3, g5, unbox, tmv, Option.some.injEq, exists_eq_left']
      refine ⟨[], [], rfl, rfl, ?_, ?_⟩ <;> simp only [freeze_nil, freeze_cons, mapT, mapB, mapL, gone, fz, fzs, plain, rowsAt, List.cons_append, List.nil_append, covT, covB, covBlk, cov, covs, keys, get, blk, jn, subs, mem, names, namess, Option.map_some, Option.map_none, Option.getD_some, Option.getD_none, resS, resT, resT.resT', ownS, Nat.reduceEqDiff, ↓reduceIte, if_true, if_false, and_true, true_and, and_self, Nat.reduceAdd, List.map_cons, List.map_nil, ite_true, ite_false, reduceCtorEq, noteA, sayA]
      clear g1 g2 g3 g5 hok hP hD hG' hX
      grind [say0, note0]
    have he : e = 0 := by simpa using h
    subst he
    have hkb : (((i.getD 0 0).toNat : Int) == 2) = decide ((i.getD 0 0).toNat = 2) := by rw [Bool.eq_iff_iff]; simp; omega
    have t1 : (1 : Int).toNat = 1 := rfl
    have t7 : (7 : Int).toNat = 7 := rfl
    simp (disch := ((try simp only [List.length_drop, List.length_take, List.length_append, List.length_cons, List.length_nil, List.length_map]); omega)) only [go_sem, Nat.reduceLeDiff, reduceCtorEq, Nat.reduceAdd, Nat.reduceSub, Nat.reduceMul, Nat.reduceLT, Nat.reduceEqDiff, Int.reduceEq, Int.reduceLE, Int.reduceLT, Int.reducePow, Int.reduceMul, Int.reduceToNat, Int.reduceNeg, ↓reduceIte, ← List.map_take, ← List.map_drop, hD, hG', wrap64, sayLo, g1, byteGet, wrap_byte]
    refine condK_split (fun h => ?_) (fun h => ?_)
    · simp (disch := ((try simp only [List.length_drop, List.length_take, List.length_append, List.length_cons, List.length_nil, List.length_map]); omega)) only [go_sem, Nat.reduceLeDiff, reduceCtorEq, Nat.reduceAdd, Nat.reduceSub, Nat.reduceMul, Nat.reduceLT, Nat.reduceEqDiff, Int.reduceEq, Int.reduceLE, Int.reduceLT, Int.reducePow, Int.reduceMul, Int.reduceToNat, Int.reduceNeg, ↓reduceIte, ← List.map_take, ← List.map_drop, hD, hG', wrap64, sayLo, g1, byteGet, wrap_byte, unbox, tmv, Option.some.injEq, exists_eq_left']
      refine ⟨[], [], rfl, rfl, ?_, ?_⟩ <;> simp only [freeze_nil, freeze_cons, mapT, mapB, mapL, gone, fz, fzs, plain, rowsAt, List.cons_append, List.nil_append, covT, covB, covBlk, cov, covs, keys, get, blk, jn, subs, mem, names, namess, Option.map_some, Option.map_none, Option.getD_some, Option.getD_none, resS, resT, resT.resT', ownS, Nat.reduceEqDiff, ↓reduceIte, if_true, if_false, and_true, true_and, and_self, Nat.reduceAdd, List.map_cons, List.map_nil, ite_true, ite_false, reduceCtorEq, noteA, sayA]
      clear g1 g2 g3 g5 hok hP hD hG' hX
      rw [decide_eq_true_eq] at h
      rw [hr, if_neg (by decide), if_pos (by omega)]
      simp [say0, note0]
    rw [decide_eq_false_iff_not] at h
    simp (disch := ((try simp only [List.length_drop, List.length_take, List.length_append, List.length_cons, List.length_nil, List.length_map]); omega)) only [go_sem, Nat.reduceLeDiff, reduceCtorEq, Nat.reduceAdd, Nat.reduceSub, Nat.reduceMul, Nat.reduceLT, Nat.reduceEqDiff, Int.reduceEq, Int.reduceLE, Int.reduceLT, Int.reducePow, Int.reduceMul, Int.reduceToNat, Int.reduceNeg, ↓reduceIte, ← List.map_take, ← List.map_drop, hD, hG', wrap64, sayLo, g1, g2, g3, g5, byteGet, wrap_byte, t1, t7, hkb, List.take_length]
    ((try and_intros); all_goals (try first | omega | decide | (simp; done) | (simp only [List.length_append, List.length_cons, List.length_nil, List.length_map]; omega)))
    iterate 24 (all_goals (try (first | (refine RegT.mk [] ?_; simp (disch := ((try simp only [List.length_drop, List.length_take, List.length_append, List.length_cons, List.length_nil, List.length_map]); omega)) only [go_sem, Nat.reduceLeDiff, reduceCtorEq, Nat.reduceAdd, Nat.reduceSub, Nat.reduceMul, Nat.reduceLT, Nat.reduceEqDiff, Int.reduceEq, Int.reduceLE, Int.reduceLT, Int.reducePow, Int.reduceMul, Int.reduceToNat, Int.reduceNeg, ↓reduceIte, ← List.map_take, ← List.map_drop, hD, hG', wrap64, sayLo, g5]) | (refine condK_split (fun h => ?_) (fun h => ?_) <;> ((try simp only [decide_eq_true_eq, decide_eq_false_iff_not, Int.not_lt, Int.not_le, Bool.not_eq_true] at h); simp (disch := ((try simp only [List.length_drop, List.length_take, List.length_append, List.length_cons, List.length_nil, List.length_map]); omega)) only [go_sem, Nat.reduceLeDiff, reduceCtorEq, Nat.reduceAdd, Nat.reduceSub, Nat.reduceMul, Nat.reduceLT, Nat.reduceEqDiff, Int.reduceEq, Int.reduceLE, Int.reduceLT, Int.reducePow, Int.reduceMul, Int.reduceToNat, Int.reduceNeg, ↓reduceIte, ← List.map_take, ← List.map_drop, hD, hG', wrap64, sayLo, g5])) | and_intros)))
    all_goals (try (first | decide | omega | (first | (intro hk; refine ⟨hk, fun h2 => ?_⟩; first | (rw [hk, h2]; rfl) | (rw [hk, decide_eq_false h2]; rfl)) | (intro hk; rw [decide_eq_false hk]; rfl) | (intro hk; rw [hk]; rfl))))
    all_goals (simp (disch := ((try simp only [List.length_drop, List.length_take, List.length_append, List.length_cons, List.length_nil, List.length_map]); omega)) only [go_sem, Nat.reduceLeDiff, reduceCtorEq, Nat.reduceAdd, Nat.reduceSub, Nat.reduceMul, Nat.reduceLT, Nat.reduceEqDiff, Int.reduceEq, Int.reduceLE, Int.reduceLT, Int.reducePow, Int.reduceMul, Int.reduceToNat, Int.reduceNeg, ↓reduceIte, ← List.map_take, ← List.map_drop, hD, hG', wrap64, sayLo, g5, unbox, tmv, Option.some.injEq, exists_eq_left'])
    all_goals (refine ⟨[], [], rfl, rfl, ?_, ?_⟩ <;> simp only [freeze_nil, freeze_cons, mapT, mapB, mapL, gone, fz, fzs, plain, rowsAt, List.cons_append, List.nil_append, covT, covB, covBlk, cov, covs, keys, get, blk, jn, subs, mem, names, namess, Option.map_some, Option.map_none, Option.getD_some, Option.getD_none, resS, resT, resT.resT', ownS, Nat.reduceEqDiff, ↓reduceIte, if_true, if_false, and_true, true_and, and_self, Nat.reduceAdd, List.map_cons, List.map_nil, ite_true, ite_false, reduceCtorEq, noteA, sayA])
    all_goals clear g1 g2 g3 g5 hok hP hD hG' hX
    all_goals (rw [if_neg (by decide), if_neg (by omega)] at hr)
    all_goals (have htl := tail_two (i.drop 7) (decide ((i.getD 0 0).toNat = 2)))
    all_goals (simp only [sayIn] at hr)
    all_goals (clear t1 t7 hkb hb ha hfl hl)
    all_goals grind [say0, note0]
  exact hcon _ rfl
def reframesayLo : Nat → Lo := fun id => match id with | 6 => {uo := [17], un := [8], ex := [16]} | 7 => {uo := [10], un := [9], ex := [9]} | _ => {}
set_option maxRecDepth 100000 in
theorem con_framesay (l : List UInt8) (hl : l.length ≤ 4194304) : Con Try.prog D 69 [.sl 1 (l.map byteRow)] ⟨.tup [sayA (sayP l).1, .int .i64 (sayP l).2.1, .int .i64 (sayP l).2.2], []⟩ := by
  have hok : GOk Try.prog D (tabG [eUnframe, eGet, eRest, eRefwrongsay]) := tabG_ok _
  have g1 : tabG [eUnframe, eGet, eRest, eRefwrongsay] 98 [.sl 1 (l.map byteRow)] = some ⟨.tup [.sl 1 ((frameS l).1.map byteRow), .int .i64 (frameS l).2.1, .int .i64 (frameS l).2.2], []⟩ := tabG_at (E := eUnframe) (T := [eUnframe, eGet, eRest, eRefwrongsay]) (i := 0) rfl (by decide) l (show l.length ≤ 8388608 by omega) rfl rfl
  have g2 : ∀ m : List UInt8, 4 ≤ m.length → m.length ≤ 8388608 → tabG [eUnframe, eGet, eRest, eRefwrongsay] 84 [.sl 1 (m.map byteRow)] = some ⟨.int .i64 (getS m), []⟩ := fun m h h' => tabG_at (E := eGet) (T := [eUnframe, eGet, eRest, eRefwrongsay]) (i := 1) rfl (by decide) m ⟨h, h'⟩ rfl rfl
  have g3 : ∀ (m : List UInt8) (b : Bool), m.length ≤ 4194304 → tabG [eUnframe, eGet, eRest, eRefwrongsay] 99 [.sl 1 (m.map byteRow), .bool b] = some ⟨.tup [noteA (restS m b).1, .bool (restS m b).2], []⟩ := fun m b h => tabG_at (E := eRest) (T := [eUnframe, eGet, eRest, eRefwrongsay]) (i := 2) rfl (by decide) (m, b) h rfl rfl
  have g4 : ∀ a : LSay, a.note.Fits → tabG [eUnframe, eGet, eRest, eRefwrongsay] 59 [sayA a] = some ⟨.int .i64 (wrongSayS a), []⟩ := fun a h => tabG_at (E := eRefwrongsay) (T := [eUnframe, eGet, eRest, eRefwrongsay]) (i := 3) rfl (by decide) a h rfl rfl
  have hfl := frameS_len l
  have g5 := g4 ⟨((frameS l).1.getD 0 0).toNat, getS (((frameS l).1.take 5).drop 1), ((frameS l).1.getD 5 0).toNat, ((frameS l).1.getD 6 0).toNat, (restS ((frameS l).1.drop 7) (decide (((frameS l).1.getD 0 0).toNat = 2))).1⟩ (rest_fits _ _)
  clear g4
  generalize tabG [eUnframe, eGet, eRest, eRefwrongsay] = G at *
  simp only [noteA, sayA, sayIn] at g1 g2 g3 g5
  have hcon : ∀ r, r = sayP l → Con Try.prog D 69 [.sl 1 (l.map byteRow)] ⟨.tup [sayA r.1, .int .i64 r.2.1, .int .i64 r.2.2], []⟩ := by
    intro r hr
    refine con_of (G := G) (rs := [(2, some 82), (3, none), (4, none)]) mixed tok hok Try.func69 rfl (by decide) Try.results69 (by decide) rfl Try.ntmps69 (by simp) (by simp [namess, names]) fun X hP hD hG' hX => evC_sound hX reframesayLo _ _ _ ?_
    simp only [argS, num]
    unfold sayP at hr
    generalize frameS l = f at *
    obtain ⟨i, n, e⟩ := f
    simp only at hr g1 g5 hfl
    have ha := (i.getD 0 0).toNat_lt
    have hb := (i.getD 1 0).toNat_lt
    simp (disch := ((try simp only [List.length_drop, List.length_take, List.length_append, List.length_cons, List.length_nil, List.length_map]); omega)) only [go_sem, Nat.reduceLeDiff, reduceCtorEq, Nat.reduceAdd, Nat.reduceSub, Nat.reduceMul, Nat.reduceLT, Nat.reduceEqDiff, Int.reduceEq, Int.reduceLE, Int.reduceLT, Int.reducePow, Int.reduceMul, Int.reduceToNat, Int.reduceNeg, ↓reduceIte, ← List.map_take, ← List.map_drop, hD, hG', wrap64, reframesayLo, g1, g2, g3, g5]
    refine condK_split (fun h => ?_) (fun h => ?_)
    · simp (disch := ((try simp only [List.length_drop, List.length_take, List.length_append, List.length_cons, List.length_nil, List.length_map]); omega)) only [go_sem, Nat.reduceLeDiff, reduceCtorEq, Nat.reduceAdd, Nat.reduceSub, Nat.reduceMul, Nat.reduceLT, Nat.reduceEqDiff, Int.reduceEq, Int.reduceLE, Int.reduceLT, Int.reducePow, Int.reduceMul, Int.reduceToNat, Int.reduceNeg, ↓reduceIte, ← List.map_take, ← List.map_drop, hD, hG', wrap64, reframesayLo, g1, g2, g3, g5, unbox, tmv, Option.some.injEq, exists_eq_left']
      refine ⟨[], [], rfl, rfl, ?_, ?_⟩ <;> simp only [freeze_nil, freeze_cons, mapT, mapB, mapL, gone, fz, fzs, plain, rowsAt, List.cons_append, List.nil_append, covT, covB, covBlk, cov, covs, keys, get, blk, jn, subs, mem, names, namess, Option.map_some, Option.map_none, Option.getD_some, Option.getD_none, resS, resT, resT.resT', ownS, Nat.reduceEqDiff, ↓reduceIte, if_true, if_false, and_true, true_and, and_self, Nat.reduceAdd, List.map_cons, List.map_nil, ite_true, ite_false, reduceCtorEq, noteA, sayA]
      clear g1 g2 g3 g5 hok hP hD hG' hX
      grind [say0, note0]
    have he : e = 0 := by simpa using h
    subst he
    have hkb : (((i.getD 0 0).toNat : Int) == 2) = decide ((i.getD 0 0).toNat = 2) := by rw [Bool.eq_iff_iff]; simp; omega
    have t1 : (1 : Int).toNat = 1 := rfl
    have t5 : (5 : Int).toNat = 5 := rfl
    have t7 : (7 : Int).toNat = 7 := rfl
    simp (disch := ((try simp only [List.length_drop, List.length_take, List.length_append, List.length_cons, List.length_nil, List.length_map]); omega)) only [go_sem, Nat.reduceLeDiff, reduceCtorEq, Nat.reduceAdd, Nat.reduceSub, Nat.reduceMul, Nat.reduceLT, Nat.reduceEqDiff, Int.reduceEq, Int.reduceLE, Int.reduceLT, Int.reducePow, Int.reduceMul, Int.reduceToNat, Int.reduceNeg, ↓reduceIte, ← List.map_take, ← List.map_drop, hD, hG', wrap64, reframesayLo, g1, byteGet, wrap_byte]
    refine condK_split (fun h => ?_) (fun h => ?_)
    · simp (disch := ((try simp only [List.length_drop, List.length_take, List.length_append, List.length_cons, List.length_nil, List.length_map]); omega)) only [go_sem, Nat.reduceLeDiff, reduceCtorEq, Nat.reduceAdd, Nat.reduceSub, Nat.reduceMul, Nat.reduceLT, Nat.reduceEqDiff, Int.reduceEq, Int.reduceLE, Int.reduceLT, Int.reducePow, Int.reduceMul, Int.reduceToNat, Int.reduceNeg, ↓reduceIte, ← List.map_take, ← List.map_drop, hD, hG', wrap64, reframesayLo, g1, byteGet, wrap_byte, unbox, tmv, Option.some.injEq, exists_eq_left']
      refine ⟨[], [], rfl, rfl, ?_, ?_⟩ <;> simp only [freeze_nil, freeze_cons, mapT, mapB, mapL, gone, fz, fzs, plain, rowsAt, List.cons_append, List.nil_append, covT, covB, covBlk, cov, covs, keys, get, blk, jn, subs, mem, names, namess, Option.map_some, Option.map_none, Option.getD_some, Option.getD_none, resS, resT, resT.resT', ownS, Nat.reduceEqDiff, ↓reduceIte, if_true, if_false, and_true, true_and, and_self, Nat.reduceAdd, List.map_cons, List.map_nil, ite_true, ite_false, reduceCtorEq, noteA, sayA]
      clear g1 g2 g3 g5 hok hP hD hG' hX
      rw [decide_eq_true_eq] at h
      rw [hr, if_neg (by decide), if_pos (by omega)]
      simp [say0, note0]
    rw [decide_eq_false_iff_not] at h
    simp (disch := ((try simp only [List.length_drop, List.length_take, List.length_append, List.length_cons, List.length_nil, List.length_map]); omega)) only [go_sem, Nat.reduceLeDiff, reduceCtorEq, Nat.reduceAdd, Nat.reduceSub, Nat.reduceMul, Nat.reduceLT, Nat.reduceEqDiff, Int.reduceEq, Int.reduceLE, Int.reduceLT, Int.reducePow, Int.reduceMul, Int.reduceToNat, Int.reduceNeg, ↓reduceIte, ← List.map_take, ← List.map_drop, hD, hG', wrap64, reframesayLo, g1, g2, g3, g5, byteGet, wrap_byte, t1, t5, t7, hkb, List.take_length]
    ((try and_intros); all_goals (try first | omega | decide | (simp; done) | (simp only [List.length_append, List.length_cons, List.length_nil, List.length_map]; omega)))
    iterate 24 (all_goals (try (first | (refine RegT.mk [] ?_; simp (disch := ((try simp only [List.length_drop, List.length_take, List.length_append, List.length_cons, List.length_nil, List.length_map]); omega)) only [go_sem, Nat.reduceLeDiff, reduceCtorEq, Nat.reduceAdd, Nat.reduceSub, Nat.reduceMul, Nat.reduceLT, Nat.reduceEqDiff, Int.reduceEq, Int.reduceLE, Int.reduceLT, Int.reducePow, Int.reduceMul, Int.reduceToNat, Int.reduceNeg, ↓reduceIte, ← List.map_take, ← List.map_drop, hD, hG', wrap64, reframesayLo, g5]) | (refine condK_split (fun h => ?_) (fun h => ?_) <;> ((try simp only [decide_eq_true_eq, decide_eq_false_iff_not, Int.not_lt, Int.not_le, Bool.not_eq_true] at h); simp (disch := ((try simp only [List.length_drop, List.length_take, List.length_append, List.length_cons, List.length_nil, List.length_map]); omega)) only [go_sem, Nat.reduceLeDiff, reduceCtorEq, Nat.reduceAdd, Nat.reduceSub, Nat.reduceMul, Nat.reduceLT, Nat.reduceEqDiff, Int.reduceEq, Int.reduceLE, Int.reduceLT, Int.reducePow, Int.reduceMul, Int.reduceToNat, Int.reduceNeg, ↓reduceIte, ← List.map_take, ← List.map_drop, hD, hG', wrap64, reframesayLo, g5])) | and_intros)))
    all_goals (try (first | decide | omega | (first | (intro hk; refine ⟨hk, fun h2 => ?_⟩; first | (rw [hk, h2]; rfl) | (rw [hk, decide_eq_false h2]; rfl)) | (intro hk; rw [decide_eq_false hk]; rfl) | (intro hk; rw [hk]; rfl))))
    all_goals (simp (disch := ((try simp only [List.length_drop, List.length_take, List.length_append, List.length_cons, List.length_nil, List.length_map]); omega)) only [go_sem, Nat.reduceLeDiff, reduceCtorEq, Nat.reduceAdd, Nat.reduceSub, Nat.reduceMul, Nat.reduceLT, Nat.reduceEqDiff, Int.reduceEq, Int.reduceLE, Int.reduceLT, Int.reducePow, Int.reduceMul, Int.reduceToNat, Int.reduceNeg, ↓reduceIte, ← List.map_take, ← List.map_drop, hD, hG', wrap64, reframesayLo, g5, unbox, tmv, Option.some.injEq, exists_eq_left'])
    all_goals (refine ⟨[], [], rfl, rfl, ?_, ?_⟩ <;> simp only [freeze_nil, freeze_cons, mapT, mapB, mapL, gone, fz, fzs, plain, rowsAt, List.cons_append, List.nil_append, covT, covB, covBlk, cov, covs, keys, get, blk, jn, subs, mem, names, namess, Option.map_some, Option.map_none, Option.getD_some, Option.getD_none, resS, resT, resT.resT', ownS, Nat.reduceEqDiff, ↓reduceIte, if_true, if_false, and_true, true_and, and_self, Nat.reduceAdd, List.map_cons, List.map_nil, ite_true, ite_false, reduceCtorEq, noteA, sayA])
    all_goals clear g1 g2 g3 g5 hok hP hD hG' hX
    all_goals (rw [if_neg (by decide), if_neg (by omega)] at hr)
    all_goals (have hrt := rest_tail (i.drop 7) (decide ((i.getD 0 0).toNat = 2)))
    all_goals (simp only [sayIn, getS_take i 1] at hr hrt h ⊢)
    all_goals (clear t1 t5 t7 hkb hb ha hfl hl)
    all_goals grind [say0, note0]
  exact hcon _ rfl
end Go.Proofs.Ytcgdjdlcecnanaa.Ab
namespace Go.Proofs.Ytcgdjdlcecnanaa.Ab
open Go Go.RowKit
set_option linter.unusedVariables false
set_option linter.unusedSimpArgs false

instance : DecidableEq LAsk := fun a b => decidable_of_iff (a.kind = b.kind ∧ a.queue = b.queue ∧ a.n = b.n ∧ a.note = b.note) (by cases a; cases b; simp)
instance : DecidableEq LSay := fun a b => decidable_of_iff (a.kind = b.kind ∧ a.n = b.n ∧ a.m = b.m ∧ a.err = b.err ∧ a.note = b.note) (by cases a; cases b; simp)
theorem ask_dec (a b : LAsk) : decide (a = b) = (if a.kind = b.kind then (if a.queue.data.toList = b.queue.data.toList then (if a.n = b.n then decide (a.note = b.note) else false) else false) else false) := by
  obtain ⟨k, q, n, x⟩ := a
  obtain ⟨k', q', n', x'⟩ := b
  simp only [LAsk.mk.injEq]
  by_cases h1 : k = k'
  · by_cases h2 : q = q'
    · subst h2
      by_cases h3 : n = n'
      · simp [h1, h3]
      · simp [h1, h3]
    · have : ¬ q.data.toList = q'.data.toList := fun h => h2 (bytes_ext h)
      simp [h1, h2, this]
  · simp [h1]
theorem say_dec (a b : LSay) : decide (a = b) = (if a.kind = b.kind then (if a.n = b.n then (if a.m = b.m then (if a.err = b.err then decide (a.note = b.note) else false) else false) else false) else false) := by
  obtain ⟨k, n, m, e, x⟩ := a
  obtain ⟨k', n', m', e', x'⟩ := b
  simp only [LSay.mk.injEq]
  by_cases h1 : k = k'
  · by_cases h2 : n = n'
    · by_cases h3 : m = m'
      · by_cases h4 : e = e'
        · simp [h1, h2, h3, h4]
        · simp [h1, h2, h3, h4]
      · simp [h1, h2, h3]
    · simp [h1, h2]
  · simp [h1]
set_option maxRecDepth 100000 in
theorem con_sameask (a b : LAsk) (ha : a.Fits) (hb : b.Fits) : Con Try.prog D 67 [askA a, askA b] ⟨.bool (decide (a = b)), []⟩ := by
  have hok : GOk Try.prog D (tabG [eRefsame]) := tabG_ok _
  have g1 : tabG [eRefsame] 34 [noteA a.note, noteA b.note] = some ⟨.bool (decide (a.note = b.note)), []⟩ := tabG_at (E := eRefsame) (T := [eRefsame]) (i := 0) rfl (by decide) (a.note, b.note) ⟨ha.2, hb.2⟩ rfl rfl
  generalize tabG [eRefsame] = G at *
  simp only [noteA] at g1
  refine con_of (G := G) (rs := [(4, none)]) mixed tok hok Try.func67 rfl (by decide) Try.results67 (by decide) rfl Try.ntmps67 (by simp) (by simp [askA, namess, names]) fun X hP hD hG' hX => evC_sound hX (fun _ => {}) _ _ _ ?_
  simp only [argS, num, askA]
  simp (disch := ((try simp only [List.length_drop, List.length_take, List.length_append, List.length_cons, List.length_nil, List.length_map]); omega)) only [go_sem, Nat.reduceLeDiff, reduceCtorEq, Nat.reduceAdd, Nat.reduceSub, Nat.reduceMul, Nat.reduceLT, Nat.reduceEqDiff, Int.reduceEq, Int.reduceLE, Int.reduceLT, Int.reducePow, Int.reduceMul, Int.reduceToNat, Int.reduceNeg, ↓reduceIte, ← List.map_take, ← List.map_drop, hD, hG', wrap64, g1, unbox, tmv, Option.some.injEq, exists_eq_left']
  refine RegT.mk [] ?_
  simp (disch := ((try simp only [List.length_drop, List.length_take, List.length_append, List.length_cons, List.length_nil, List.length_map]); omega)) only [go_sem, Nat.reduceLeDiff, reduceCtorEq, Nat.reduceAdd, Nat.reduceSub, Nat.reduceMul, Nat.reduceLT, Nat.reduceEqDiff, Int.reduceEq, Int.reduceLE, Int.reduceLT, Int.reducePow, Int.reduceMul, Int.reduceToNat, Int.reduceNeg, ↓reduceIte, ← List.map_take, ← List.map_drop, hD, hG', wrap64, g1, unbox, tmv, Option.some.injEq, exists_eq_left']
  ((try and_intros); all_goals (try first | omega | decide | (simp; done) | (simp only [List.length_append, List.length_cons, List.length_nil, List.length_map]; omega)))
  all_goals (try (first | (intro hk; refine ⟨hk, fun h2 => ?_⟩; first | (rw [hk, h2]; rfl) | (rw [hk, decide_eq_false h2]; rfl)) | (intro hk; rw [decide_eq_false hk]; rfl) | (intro hk; rw [hk]; rfl)))
  refine ⟨[], [], rfl, rfl, ?_, ?_⟩ <;> simp only [freeze_nil, freeze_cons, mapT, mapB, mapL, gone, fz, fzs, plain, rowsAt, List.cons_append, List.nil_append, covT, covB, covBlk, cov, covs, keys, get, blk, jn, subs, mem, names, namess, Option.map_some, Option.map_none, Option.getD_some, Option.getD_none, resS, resT, resT.resT', ownS, Nat.reduceEqDiff, ↓reduceIte, if_true, if_false, and_true, true_and, and_self, Nat.reduceAdd, List.map_cons, List.map_nil, ite_true, ite_false, reduceCtorEq]
  rw [ask_dec]
  simp [Bool.and_assoc]
set_option maxRecDepth 100000 in
theorem con_samesay (a b : LSay) (ha : a.note.Fits) (hb : b.note.Fits) : Con Try.prog D 70 [sayA a, sayA b] ⟨.bool (decide (a = b)), []⟩ := by
  have hok : GOk Try.prog D (tabG [eRefsame]) := tabG_ok _
  have g1 : tabG [eRefsame] 34 [noteA a.note, noteA b.note] = some ⟨.bool (decide (a.note = b.note)), []⟩ := tabG_at (E := eRefsame) (T := [eRefsame]) (i := 0) rfl (by decide) (a.note, b.note) ⟨ha, hb⟩ rfl rfl
  generalize tabG [eRefsame] = G at *
  simp only [noteA] at g1
  refine con_of (G := G) (rs := [(4, none)]) mixed tok hok Try.func70 rfl (by decide) Try.results70 (by decide) rfl Try.ntmps70 (by simp) (by simp [sayA, namess, names]) fun X hP hD hG' hX => evC_sound hX (fun _ => {}) _ _ _ ?_
  simp only [argS, num, sayA]
  simp (disch := ((try simp only [List.length_drop, List.length_take, List.length_append, List.length_cons, List.length_nil, List.length_map]); omega)) only [go_sem, Nat.reduceLeDiff, reduceCtorEq, Nat.reduceAdd, Nat.reduceSub, Nat.reduceMul, Nat.reduceLT, Nat.reduceEqDiff, Int.reduceEq, Int.reduceLE, Int.reduceLT, Int.reducePow, Int.reduceMul, Int.reduceToNat, Int.reduceNeg, ↓reduceIte, ← List.map_take, ← List.map_drop, hD, hG', wrap64, g1, unbox, tmv, Option.some.injEq, exists_eq_left']
  refine RegT.mk [] ?_
  simp (disch := ((try simp only [List.length_drop, List.length_take, List.length_append, List.length_cons, List.length_nil, List.length_map]); omega)) only [go_sem, Nat.reduceLeDiff, reduceCtorEq, Nat.reduceAdd, Nat.reduceSub, Nat.reduceMul, Nat.reduceLT, Nat.reduceEqDiff, Int.reduceEq, Int.reduceLE, Int.reduceLT, Int.reducePow, Int.reduceMul, Int.reduceToNat, Int.reduceNeg, ↓reduceIte, ← List.map_take, ← List.map_drop, hD, hG', wrap64, g1, unbox, tmv, Option.some.injEq, exists_eq_left']
  ((try and_intros); all_goals (try first | omega | decide | (simp; done) | (simp only [List.length_append, List.length_cons, List.length_nil, List.length_map]; omega)))
  all_goals (try (first | (intro hk; refine ⟨hk, fun h2 => ?_⟩; first | (rw [hk, h2]; rfl) | (rw [hk, decide_eq_false h2]; rfl)) | (intro hk; rw [decide_eq_false hk]; rfl) | (intro hk; rw [hk]; rfl)))
  refine ⟨[], [], rfl, rfl, ?_, ?_⟩ <;> simp only [freeze_nil, freeze_cons, mapT, mapB, mapL, gone, fz, fzs, plain, rowsAt, List.cons_append, List.nil_append, covT, covB, covBlk, cov, covs, keys, get, blk, jn, subs, mem, names, namess, Option.map_some, Option.map_none, Option.getD_some, Option.getD_none, resS, resT, resT.resT', ownS, Nat.reduceEqDiff, ↓reduceIte, if_true, if_false, and_true, true_and, and_self, Nat.reduceAdd, List.map_cons, List.map_nil, ite_true, ite_false, reduceCtorEq]
  rw [say_dec]
  simp [Bool.and_assoc]
def eAsk : Ent Try.prog D := ⟨65, List UInt8, fun l => [.sl 1 (l.map byteRow)], fun l => l.length ≤ 4194304, fun l => ⟨.tup [askA (askP l).1, .int .i64 (askP l).2.1, .int .i64 (askP l).2.2], []⟩, fun x y _ _ h => by
  simp only [List.cons.injEq, AV.sl.injEq, true_and, and_true] at h
  rw [bytes_inj h], con_ask⟩
def eFrameask : Ent Try.prog D := ⟨66, List UInt8, fun l => [.sl 1 (l.map byteRow)], fun l => l.length ≤ 4194304, fun l => ⟨.tup [askA (askP l).1, .int .i64 (askP l).2.1, .int .i64 (askP l).2.2], []⟩, fun x y _ _ h => by
  simp only [List.cons.injEq, AV.sl.injEq, true_and, and_true] at h
  rw [bytes_inj h], con_frameask⟩
def eSay : Ent Try.prog D := ⟨68, List UInt8, fun l => [.sl 1 (l.map byteRow)], fun l => l.length ≤ 4194304, fun l => ⟨.tup [sayA (sayP l).1, .int .i64 (sayP l).2.1, .int .i64 (sayP l).2.2], []⟩, fun x y _ _ h => by
  simp only [List.cons.injEq, AV.sl.injEq, true_and, and_true] at h
  rw [bytes_inj h], con_say⟩
def eFramesay : Ent Try.prog D := ⟨69, List UInt8, fun l => [.sl 1 (l.map byteRow)], fun l => l.length ≤ 4194304, fun l => ⟨.tup [sayA (sayP l).1, .int .i64 (sayP l).2.1, .int .i64 (sayP l).2.2], []⟩, fun x y _ _ h => by
  simp only [List.cons.injEq, AV.sl.injEq, true_and, and_true] at h
  rw [bytes_inj h], con_framesay⟩
def eAskbytes : Ent Try.prog D := ⟨61, LAsk, fun x => [askA x], fun x => wrongAskS x = 0, fun x => ⟨.os 0, [(5, 1, (framedS (askB x)).map byteRow)]⟩, fun x y _ _ h => by
  simp only [List.cons.injEq, and_true] at h
  rw [askA_inj h], con_askbytes⟩
def eAskframe : Ent Try.prog D := ⟨62, LAsk, fun x => [askA x], fun x => wrongAskS x = 0, fun x => ⟨.os 0, [(5, 1, (framedS (askB x)).map byteRow)]⟩, fun x y _ _ h => by
  simp only [List.cons.injEq, and_true] at h
  rw [askA_inj h], con_askframe⟩
def eSaybytes : Ent Try.prog D := ⟨63, LSay, fun x => [sayA x], fun x => wrongSayS x = 0, fun x => ⟨.os 0, [(5, 1, (framedS (sayB x)).map byteRow)]⟩, fun x y _ _ h => by
  simp only [List.cons.injEq, and_true] at h
  rw [sayA_inj h], con_saybytes⟩
def eSayframe : Ent Try.prog D := ⟨64, LSay, fun x => [sayA x], fun x => wrongSayS x = 0, fun x => ⟨.os 0, [(5, 1, (framedS (sayB x)).map byteRow)]⟩, fun x y _ _ h => by
  simp only [List.cons.injEq, and_true] at h
  rw [sayA_inj h], con_sayframe⟩
def eSameask : Ent Try.prog D := ⟨67, LAsk × LAsk, fun x => [askA x.1, askA x.2], fun x => x.1.Fits ∧ x.2.Fits, fun x => ⟨.bool (decide (x.1 = x.2)), []⟩, fun x y _ _ h => by
  simp only [List.cons.injEq, and_true] at h
  rw [askA_inj h.1, askA_inj h.2], fun x h => con_sameask x.1 x.2 h.1 h.2⟩
def eSamesay : Ent Try.prog D := ⟨70, LSay × LSay, fun x => [sayA x.1, sayA x.2], fun x => x.1.note.Fits ∧ x.2.note.Fits, fun x => ⟨.bool (decide (x.1 = x.2)), []⟩, fun x y _ _ h => by
  simp only [List.cons.injEq, and_true] at h
  rw [sayA_inj h.1, sayA_inj h.2], fun x h => con_samesay x.1 x.2 h.1 h.2⟩
end Go.Proofs.Ytcgdjdlcecnanaa.Ab
namespace Go.Proofs.Ytcgdjdlcecnanaa.Ab
open Go Go.RowKit
set_option linter.unusedVariables false
set_option linter.unusedSimpArgs false

theorem framed_len (l : List UInt8) : (framedS l).length = l.length + 2 := rfl
theorem framed_val {l : List UInt8} (h : l.length ≤ 398) : 256 * (byteI ((l.length : Int) / 256)).toNat + (byteI l.length).toNat = l.length := by
  have h1 := byteI_nat ((l.length : Int) / 256)
  have h2 := byteI_nat (l.length : Int)
  omega
theorem frame_turn {l : List UInt8} (m : List UInt8) (h : l.length ≤ 398) : frameS (framedS l ++ m) = (l, ((l.length : Int) + 2, 0)) := by
  have hv := framed_val h
  have e : framedS l ++ m = byteI ((l.length : Int) / 256) :: byteI l.length :: (l ++ m) := rfl
  rw [e]
  simp only [frameS, List.getD_cons_zero, List.getD_cons_succ, hv, List.length_cons, List.length_append]
  rw [if_neg (by omega), if_neg (by omega), if_neg (by omega)]
  have h3 : ((byteI ((l.length : Int) / 256) :: byteI l.length :: (l ++ m)).take (l.length + 2)).drop 2 = l := by simp
  rw [h3]
  congr 2
  omega
theorem frame_more {l : List UInt8} {k : Nat} (h : l.length ≤ 398) (hk : k < (framedS l).length) : frameS ((framedS l).take k) = ([], 0, 9) := by
  have hv := framed_val h
  rw [framed_len] at hk
  match k, hk with
  | 0, _ => rfl
  | 1, _ => rfl
  | k + 2, hk =>
    have e : (framedS l).take (k + 2) = byteI ((l.length : Int) / 256) :: byteI l.length :: l.take k := rfl
    rw [e]
    simp only [frameS, List.getD_cons_zero, List.getD_cons_succ, hv, List.length_cons, List.length_take]
    rw [if_neg (by omega), if_neg (by omega), if_pos (by omega)]
theorem frame_ok {l : List UInt8} (h : (frameS l).2.2 = 0) : 2 ≤ (frameS l).2.1 ∧ (frameS l).2.1 ≤ l.length ∧ (frameS l).2.1 ≤ 400 := by
  unfold frameS at h ⊢
  split at h
  · cases h
  split at h
  · cases h
  split at h
  · cases h
  rename_i h1 h2 h3
  rw [if_neg h1, if_neg h2, if_neg h3]
  simp only
  omega
theorem getS_app {a b : List UInt8} (h : a.length = 4) : getS (a ++ b) = getS a := by
  match a, h with
  | [x, y, z, u], _ => rfl
theorem tail_bytes {n : LNote} (h : wrongS n = 0) : tailS (bytesN n) true = (n, 0) := by
  have h1 := parse_bytes (n := n) [] h
  rw [List.append_nil] at h1
  unfold tailS
  rw [h1]
  simp
theorem tail_nil : tailS [] false = (note0, 0) := rfl
theorem ask_parts {a : LAsk} (h : wrongAskS a = 0) : askIn (askB a) = a ∧ 6 + ((askB a).getD 1 0).toNat ≤ (askB a).length ∧ (tailS ((askB a).drop (6 + ((askB a).getD 1 0).toNat)) (decide (((askB a).getD 0 0).toNat = 4))).2 = 0 := by
  obtain ⟨kind, q, n, note⟩ := a
  obtain ⟨h1, h2, h3, h4, h5, h6, h7⟩ := wrongAsk_ok h
  simp only at h1 h2 h3 h4 h5 h6 h7
  have hq := size_len q
  have hkb := byteI_nat kind
  have hqb := byteI_nat (q.data.toList.length : Int)
  have hk0 : ((byteI kind).toNat : Int) = kind := by omega
  have hq0 : (byteI (q.data.toList.length : Int)).toNat = q.data.toList.length := by omega
  have e0 : (askB ⟨kind, q, n, note⟩).getD 0 0 = byteI kind := rfl
  have e1 : (askB ⟨kind, q, n, note⟩).getD 1 0 = byteI q.data.toList.length := rfl
  have e2 : askB ⟨kind, q, n, note⟩ = byteI kind :: byteI q.data.toList.length :: (q.data.toList ++ (numS n ++ (if kind = 4 then bytesN note else []))) := by simp [askB, textS]
  have hd : (askB ⟨kind, q, n, note⟩).drop (6 + q.data.toList.length) = if kind = 4 then bytesN note else [] := by
    rw [e2, show 6 + q.data.toList.length = (q.data.toList.length + 4) + 1 + 1 by omega, List.drop_succ_cons, List.drop_succ_cons, ← List.append_assoc]
    rw [List.drop_left' (by simp [numS])]
  have ht : (askB ⟨kind, q, n, note⟩).drop (2 + q.data.toList.length) = numS n ++ (if kind = 4 then bytesN note else []) := by
    rw [e2, show 2 + q.data.toList.length = (q.data.toList.length) + 1 + 1 by omega, List.drop_succ_cons, List.drop_succ_cons]
    rw [List.drop_left' rfl]
  have hx : ((askB ⟨kind, q, n, note⟩).take (2 + q.data.toList.length)).drop 2 = q.data.toList := by
    rw [e2, show 2 + q.data.toList.length = (q.data.toList.length) + 1 + 1 by omega, List.take_succ_cons, List.take_succ_cons, List.drop_succ_cons, List.drop_succ_cons, List.drop_zero]
    rw [List.take_left' rfl]
  have hk4 : decide ((byteI kind).toNat = 4) = decide (kind = 4) := by
    rw [Bool.eq_iff_iff]; simp; omega
  have htl : tailS (if kind = 4 then bytesN note else []) (decide (kind = 4)) = (note, 0) := by
    by_cases hk : kind = 4
    · simp only [hk, if_true, decide_true]; exact tail_bytes h6
    · simp only [hk, if_false, decide_false]; rw [h7 hk]; rfl
  refine ⟨?_, ?_, ?_⟩
  · unfold askIn
    rw [e0, e1, hq0, hx, hd, ht, hk4, htl, getS_app (num4 n), getS_num (by omega) (by omega), hk0]
  · rw [e1, hq0, e2]
    simp [numS]
    omega
  · rw [e0, e1, hq0, hd, hk4, htl]
theorem ask_turn {a : LAsk} (m : List UInt8) (h : wrongAskS a = 0) : askP (framedS (askB a) ++ m) = (a, ((framedS (askB a)).length : Int), 0) := by
  obtain ⟨h1, h2, h3⟩ := ask_parts h
  have hl := askB_len h
  unfold askP
  rw [frame_turn m (by omega)]
  simp only
  rw [if_neg (by decide), if_neg (by omega), if_neg (by rw [h3]; decide), h1, if_neg (by rw [h]; decide), framed_len]
  rfl
theorem ask_more {a : LAsk} {k : Nat} (h : wrongAskS a = 0) (hk : k < (framedS (askB a)).length) : askP ((framedS (askB a)).take k) = (ask0, 0, 9) := by
  have hl := askB_len h
  unfold askP
  rw [frame_more (by omega) hk]
  rfl
theorem say_parts {s : LSay} (h : wrongSayS s = 0) : sayIn (sayB s) = s ∧ 7 ≤ (sayB s).length ∧ (tailS ((sayB s).drop 7) (decide (((sayB s).getD 0 0).toNat = 2))).2 = 0 := by
  obtain ⟨kind, n, m, err, note⟩ := s
  obtain ⟨h1, h2, h3, h4, h5, h6, h7, h8, h9, h10⟩ := wrongSay_ok h
  simp only at h1 h2 h3 h4 h5 h6 h7 h8 h9 h10
  have hkb := byteI_nat kind
  have hmb := byteI_nat m
  have heb := byteI_nat err
  have hk0 : ((byteI kind).toNat : Int) = kind := by omega
  have hm0 : ((byteI m).toNat : Int) = m := by omega
  have he0 : ((byteI err).toNat : Int) = err := by omega
  have e2 : sayB ⟨kind, n, m, err, note⟩ = byteI kind :: (numS n ++ (byteI m :: byteI err :: (if kind = 2 then bytesN note else []))) := by simp [sayB]
  have e0 : (sayB ⟨kind, n, m, err, note⟩).getD 0 0 = byteI kind := rfl
  have e5 : (sayB ⟨kind, n, m, err, note⟩).getD 5 0 = byteI m := by rw [e2]; rfl
  have e6 : (sayB ⟨kind, n, m, err, note⟩).getD 6 0 = byteI err := by rw [e2]; rfl
  have hd : (sayB ⟨kind, n, m, err, note⟩).drop 7 = if kind = 2 then bytesN note else [] := by rw [e2]; rfl
  have ht : (sayB ⟨kind, n, m, err, note⟩).drop 1 = numS n ++ (byteI m :: byteI err :: (if kind = 2 then bytesN note else [])) := by rw [e2]; rfl
  have hk4 : decide ((byteI kind).toNat = 2) = decide (kind = 2) := by
    rw [Bool.eq_iff_iff]; simp; omega
  have htl : tailS (if kind = 2 then bytesN note else []) (decide (kind = 2)) = (note, 0) := by
    by_cases hk : kind = 2
    · simp only [hk, if_true, decide_true]; exact tail_bytes h9
    · simp only [hk, if_false, decide_false]; rw [h10 hk]; rfl
  refine ⟨?_, ?_, ?_⟩
  · unfold sayIn
    rw [e0, e5, e6, hd, ht, hk4, htl, getS_app (num4 n), getS_num (by omega) (by omega), hk0, hm0, he0]
  · rw [e2]
    simp [numS]
  · rw [e0, hd, hk4, htl]
theorem say_turn {s : LSay} (m : List UInt8) (h : wrongSayS s = 0) : sayP (framedS (sayB s) ++ m) = (s, ((framedS (sayB s)).length : Int), 0) := by
  obtain ⟨h1, h2, h3⟩ := say_parts h
  have hl := sayB_len h
  unfold sayP
  rw [frame_turn m (by omega)]
  simp only
  rw [if_neg (by decide), if_neg (by omega), if_neg (by rw [h3]; decide), h1, if_neg (by rw [h]; decide), framed_len]
  rfl
theorem say_more {s : LSay} {k : Nat} (h : wrongSayS s = 0) (hk : k < (framedS (sayB s)).length) : sayP ((framedS (sayB s)).take k) = (say0, 0, 9) := by
  have hl := sayB_len h
  unfold sayP
  rw [frame_more (by omega) hk]
  rfl
/-- what is read may be -/
theorem ask_right (l : List UInt8) : ((askP l).2.2 = 0 ∧ wrongAskS (askP l).1 = 0 ∧ 1 ≤ (askP l).2.1 ∧ (askP l).2.1 ≤ l.length ∧ (askP l).2.1 ≤ 400) ∨ ((askP l).2.2 ≠ 0 ∧ (askP l).2.1 = 0 ∧ (askP l).1 = ask0) := by
  unfold askP
  by_cases h1 : (frameS l).2.2 ≠ 0
  · rw [if_pos h1]; exact .inr ⟨h1, rfl, rfl⟩
  rw [if_neg h1]
  split
  · exact .inr ⟨by decide, rfl, rfl⟩
  split
  · exact .inr ⟨by decide, rfl, rfl⟩
  split
  · rename_i h4; exact .inr ⟨h4, rfl, rfl⟩
  · rename_i h4
    have := frame_ok (by omega : (frameS l).2.2 = 0)
    exact .inl ⟨rfl, by simpa using h4, by simp only; omega, this.2.1, this.2.2⟩
theorem say_right (l : List UInt8) : ((sayP l).2.2 = 0 ∧ wrongSayS (sayP l).1 = 0 ∧ 1 ≤ (sayP l).2.1 ∧ (sayP l).2.1 ≤ l.length ∧ (sayP l).2.1 ≤ 400) ∨ ((sayP l).2.2 ≠ 0 ∧ (sayP l).2.1 = 0 ∧ (sayP l).1 = say0) := by
  unfold sayP
  by_cases h1 : (frameS l).2.2 ≠ 0
  · rw [if_pos h1]; exact .inr ⟨h1, rfl, rfl⟩
  rw [if_neg h1]
  split
  · exact .inr ⟨by decide, rfl, rfl⟩
  split
  · exact .inr ⟨by decide, rfl, rfl⟩
  split
  · rename_i h4; exact .inr ⟨h4, rfl, rfl⟩
  · rename_i h4
    have := frame_ok (by omega : (frameS l).2.2 = 0)
    exact .inl ⟨rfl, by simpa using h4, by simp only; omega, this.2.1, this.2.2⟩
theorem askP_fits (l : List UInt8) : (askP l).1.Fits := by
  have h0 : ask0.Fits := ⟨Nat.zero_le _, fits_zero⟩
  unfold askP
  split
  · exact h0
  split
  · exact h0
  split
  · exact h0
  split
  · exact h0
  · exact askIn_fits _ (frameS_len l)
theorem sayP_fits (l : List UInt8) : (sayP l).1.note.Fits := by
  unfold sayP
  split
  · exact fits_zero
  split
  · exact fits_zero
  split
  · exact fits_zero
  split
  · exact fits_zero
  · exact tail_fits _ _
theorem ask_fits {a : LAsk} (h : wrongAskS a = 0) : a.Fits := by
  obtain ⟨_, _, h3, _, _, h6, _⟩ := wrongAsk_ok h
  exact ⟨by omega, fits_right h6⟩
theorem say_fits {s : LSay} (h : wrongSayS s = 0) : s.note.Fits := by
  obtain ⟨_, _, _, _, _, _, _, _, h6, _⟩ := wrongSay_ok h
  exact fits_right h6
end Go.Proofs.Ytcgdjdlcecnanaa.Ab
namespace Go.Proofs.Ytcgdjdlcecnanaa.Ab
open Go Go.RowKit
set_option linter.unusedVariables false
set_option linter.unusedSimpArgs false

def aL : LAsk := ⟨4, ⟨#[113]⟩, 0, ⟨[⟨⟨#[107]⟩, 2, 0, ⟨#[97, 32, 98]⟩⟩], [120]⟩⟩
def sL : LSay := ⟨2, 3, 1, 0, ⟨[⟨⟨#[107]⟩, 2, 0, ⟨#[97, 32, 98]⟩⟩], [120]⟩⟩
theorem aL_right : wrongAskS aL = 0 := by decide
theorem sL_right : wrongSayS sL = 0 := by decide
set_option maxRecDepth 100000 in
theorem con_fralive : Con Try.prog D 71 [] ⟨.bool true, []⟩ := by
  have hok : GOk Try.prog D (tabG [eAskbytes, eSaybytes, eAsk, eSay, eSameask, eSamesay]) := tabG_ok _
  have ha := ask_turn [] aL_right
  have hs := say_turn [] sL_right
  rw [List.append_nil] at ha hs
  have hla := askB_len aL_right
  have hls := sayB_len sL_right
  have g1 : tabG [eAskbytes, eSaybytes, eAsk, eSay, eSameask, eSamesay] 61 [.agg [.int .i64 4, .str [113], .int .i64 0, .sl 4 [[.str [107], .int .i64 2, .int .i64 0, .str [97, 32, 98]]], .sl 1 [[.int .u8 120]]]] = some ⟨.os 0, [(5, 1, (framedS (askB aL)).map byteRow)]⟩ := tabG_at (E := eAskbytes) (i := 0) rfl (by decide) aL aL_right rfl rfl
  have g2 : tabG [eAskbytes, eSaybytes, eAsk, eSay, eSameask, eSamesay] 63 [.agg [.int .i64 2, .int .i64 3, .int .i64 1, .int .i64 0, .sl 4 [[.str [107], .int .i64 2, .int .i64 0, .str [97, 32, 98]]], .sl 1 [[.int .u8 120]]]] = some ⟨.os 0, [(5, 1, (framedS (sayB sL)).map byteRow)]⟩ := tabG_at (E := eSaybytes) (i := 1) rfl (by decide) sL sL_right rfl rfl
  have g3 : tabG [eAskbytes, eSaybytes, eAsk, eSay, eSameask, eSamesay] 65 [.sl 1 ((framedS (askB aL)).map byteRow)] = some ⟨.tup [.agg [.int .i64 4, .str [113], .int .i64 0, .sl 4 [[.str [107], .int .i64 2, .int .i64 0, .str [97, 32, 98]]], .sl 1 [[.int .u8 120]]], .int .i64 ((framedS (askB aL)).length : Int), .int .i64 0], []⟩ := tabG_at (E := eAsk) (i := 2) rfl (by decide) (framedS (askB aL)) (show (framedS (askB aL)).length ≤ 4194304 by rw [framed_len]; omega) rfl (by
    show (⟨.tup [askA (askP (framedS (askB aL))).1, .int .i64 (askP (framedS (askB aL))).2.1, .int .i64 (askP (framedS (askB aL))).2.2], []⟩ : Res) = _
    rw [ha]
    rfl)
  have g4 : tabG [eAskbytes, eSaybytes, eAsk, eSay, eSameask, eSamesay] 68 [.sl 1 ((framedS (sayB sL)).map byteRow)] = some ⟨.tup [.agg [.int .i64 2, .int .i64 3, .int .i64 1, .int .i64 0, .sl 4 [[.str [107], .int .i64 2, .int .i64 0, .str [97, 32, 98]]], .sl 1 [[.int .u8 120]]], .int .i64 ((framedS (sayB sL)).length : Int), .int .i64 0], []⟩ := tabG_at (E := eSay) (i := 3) rfl (by decide) (framedS (sayB sL)) (show (framedS (sayB sL)).length ≤ 4194304 by rw [framed_len]; omega) rfl (by
    show (⟨.tup [sayA (sayP (framedS (sayB sL))).1, .int .i64 (sayP (framedS (sayB sL))).2.1, .int .i64 (sayP (framedS (sayB sL))).2.2], []⟩ : Res) = _
    rw [hs]
    rfl)
  have g5 : tabG [eAskbytes, eSaybytes, eAsk, eSay, eSameask, eSamesay] 67 [.agg [.int .i64 4, .str [113], .int .i64 0, .sl 4 [[.str [107], .int .i64 2, .int .i64 0, .str [97, 32, 98]]], .sl 1 [[.int .u8 120]]], .agg [.int .i64 4, .str [113], .int .i64 0, .sl 4 [[.str [107], .int .i64 2, .int .i64 0, .str [97, 32, 98]]], .sl 1 [[.int .u8 120]]]] = some ⟨.bool true, []⟩ := tabG_at (E := eSameask) (i := 4) rfl (by decide) (aL, aL) ⟨ask_fits aL_right, ask_fits aL_right⟩ rfl (congrArg (fun b => (⟨.bool b, []⟩ : Res)) (decide_eq_true rfl))
  have g6 : tabG [eAskbytes, eSaybytes, eAsk, eSay, eSameask, eSamesay] 70 [.agg [.int .i64 2, .int .i64 3, .int .i64 1, .int .i64 0, .sl 4 [[.str [107], .int .i64 2, .int .i64 0, .str [97, 32, 98]]], .sl 1 [[.int .u8 120]]], .agg [.int .i64 2, .int .i64 3, .int .i64 1, .int .i64 0, .sl 4 [[.str [107], .int .i64 2, .int .i64 0, .str [97, 32, 98]]], .sl 1 [[.int .u8 120]]]] = some ⟨.bool true, []⟩ := tabG_at (E := eSamesay) (i := 5) rfl (by decide) (sL, sL) ⟨say_fits sL_right, say_fits sL_right⟩ rfl (congrArg (fun b => (⟨.bool b, []⟩ : Res)) (decide_eq_true rfl))
  have hl1 : 10 < (framedS (askB aL)).length := by decide
  have hl2 : 10 < (framedS (sayB sL)).length := by decide
  generalize tabG [eAskbytes, eSaybytes, eAsk, eSay, eSameask, eSamesay] = G at *
  generalize framedS (askB aL) = la at *
  generalize framedS (sayB sL) = ls at *
  refine con_of (G := G) (rs := [(0, none)]) mixed tok hok Try.func71 rfl (by decide) Try.results71 (by decide) rfl Try.ntmps71 (by simp) (by simp [namess]) fun X hP hD hG' hX => evC_sound hX (fun id => match id with | 2 => {hand := true} | _ => {}) _ _ _ ?_
  simp only [argS, num]
  simp (disch := ((try simp only [List.length_drop, List.length_take, List.length_append, List.length_cons, List.length_nil, List.length_map]); omega)) only [go_sem, Nat.reduceLeDiff, reduceCtorEq, Nat.reduceAdd, Nat.reduceSub, Nat.reduceMul, Nat.reduceLT, Nat.reduceEqDiff, Int.reduceEq, Int.reduceLE, Int.reduceLT, Int.reducePow, Int.reduceMul, Int.reduceToNat, Int.reduceNeg, ↓reduceIte, ← List.map_take, ← List.map_drop, hD, hG', wrap64, g1, g2, g3, g4, g5, g6, unbox, tmv, Option.some.injEq, exists_eq_left']
  ((try and_intros); all_goals (try first | omega | decide | (simp; done) | (simp only [List.length_append, List.length_cons, List.length_nil, List.length_map]; omega)))
  refine Tr.split hX 0 (by decide) ?_
  simp only [List.take_zero, regW_nil]
  refine ⟨_, Wk.freeze [12], ?_⟩
  have d1 : decide ((la.length : Int) > 10) = true := by simp; omega
  have d2 : decide ((ls.length : Int) > 10) = true := by simp; omega
  simp (disch := ((try simp only [List.length_drop, List.length_take, List.length_append, List.length_cons, List.length_nil, List.length_map]); omega)) only [go_sem, Nat.reduceLeDiff, reduceCtorEq, Nat.reduceAdd, Nat.reduceSub, Nat.reduceMul, Nat.reduceLT, Nat.reduceEqDiff, Int.reduceEq, Int.reduceLE, Int.reduceLT, Int.reducePow, Int.reduceMul, Int.reduceToNat, Int.reduceNeg, ↓reduceIte, ← List.map_take, ← List.map_drop, hD, hG', wrap64, g1, g2, g3, g4, g5, g6, unbox, tmv, Option.some.injEq, exists_eq_left']
  refine ⟨by decide, RegT.mk [] ?_⟩
  simp (disch := ((try simp only [List.length_drop, List.length_take, List.length_append, List.length_cons, List.length_nil, List.length_map]); omega)) only [go_sem, Nat.reduceLeDiff, reduceCtorEq, Nat.reduceAdd, Nat.reduceSub, Nat.reduceMul, Nat.reduceLT, Nat.reduceEqDiff, Int.reduceEq, Int.reduceLE, Int.reduceLT, Int.reducePow, Int.reduceMul, Int.reduceToNat, Int.reduceNeg, ↓reduceIte, ← List.map_take, ← List.map_drop, hD, hG', wrap64, g1, g2, g3, g4, g5, g6, d1, d2, unbox, tmv, Option.some.injEq, exists_eq_left']
  ((try and_intros); all_goals (try first | omega | decide | (simp; done) | (simp only [List.length_append, List.length_cons, List.length_nil, List.length_map]; omega)))
  refine ⟨[], [], rfl, rfl, ?_, ?_⟩ <;> simp only [freeze_nil, freeze_cons, mapT, mapB, mapL, gone, fz, fzs, plain, rowsAt, List.cons_append, List.nil_append, covT, covB, covBlk, cov, covs, keys, get, blk, jn, subs, mem, names, namess, Option.map_some, Option.map_none, Option.getD_some, Option.getD_none, resS, resT, resT.resT', ownS, Nat.reduceEqDiff, ↓reduceIte, if_true, if_false, and_true, true_and, and_self, Nat.reduceAdd, List.map_cons, List.map_nil, ite_true, ite_false, reduceCtorEq]
end Go.Proofs.Ytcgdjdlcecnanaa.Ab
namespace Go.Proofs.Ytcgdjdlcecnanaa.Ab
open Go Go.RowKit
set_option linter.unusedVariables false
set_option linter.unusedSimpArgs false

def eFralive : Ent Try.prog D := ⟨71, Unit, fun _ => [], fun _ => True, fun _ => ⟨.bool true, []⟩, fun x y _ _ h => rfl, fun _ _ => con_fralive⟩
set_option maxRecDepth 100000 in
set_option maxHeartbeats 2000000 in
theorem con_framesright (l : List UInt8) (hl : l.length ≤ 4194304) : Con Try.prog D 14 [.sl 1 (l.map byteRow)] ⟨.bool true, []⟩ := by
  have hok : GOk Try.prog D (tabG [eFralive, eAsk, eSay, eRefwrongask, eRefwrongsay]) := tabG_ok _
  have g1 : tabG [eFralive, eAsk, eSay, eRefwrongask, eRefwrongsay] 71 [] = some ⟨.bool true, []⟩ := tabG_at (E := eFralive) (i := 0) rfl (by decide) () trivial rfl rfl
  have g2 : tabG [eFralive, eAsk, eSay, eRefwrongask, eRefwrongsay] 65 [.sl 1 (l.map byteRow)] = some ⟨.tup [askA (askP l).1, .int .i64 (askP l).2.1, .int .i64 (askP l).2.2], []⟩ := tabG_at (E := eAsk) (i := 1) rfl (by decide) l hl rfl rfl
  have g3 : tabG [eFralive, eAsk, eSay, eRefwrongask, eRefwrongsay] 68 [.sl 1 (l.map byteRow)] = some ⟨.tup [sayA (sayP l).1, .int .i64 (sayP l).2.1, .int .i64 (sayP l).2.2], []⟩ := tabG_at (E := eSay) (i := 2) rfl (by decide) l hl rfl rfl
  have g4 : tabG [eFralive, eAsk, eSay, eRefwrongask, eRefwrongsay] 60 [askA (askP l).1] = some ⟨.int .i64 (wrongAskS (askP l).1), []⟩ := tabG_at (E := eRefwrongask) (i := 3) rfl (by decide) (askP l).1 (askP_fits l) rfl rfl
  have g5 : tabG [eFralive, eAsk, eSay, eRefwrongask, eRefwrongsay] 59 [sayA (sayP l).1] = some ⟨.int .i64 (wrongSayS (sayP l).1), []⟩ := tabG_at (E := eRefwrongsay) (i := 4) rfl (by decide) (sayP l).1 (sayP_fits l) rfl rfl
  generalize tabG [eFralive, eAsk, eSay, eRefwrongask, eRefwrongsay] = G at *
  have ra := ask_right l
  have rs := say_right l
  generalize askP l = a at *
  generalize sayP l = s at *
  obtain ⟨⟨ak, aq, an, ⟨ap, ab⟩⟩, n, e⟩ := a
  obtain ⟨⟨sk, sn, sm, se, ⟨sp, sb⟩⟩, m, f⟩ := s
  simp only [askA, sayA, ask0, say0, LAsk.mk.injEq, LSay.mk.injEq] at g2 g3 g4 g5 ra rs
  generalize wrongAskS ⟨ak, aq, an, ⟨ap, ab⟩⟩ = wa at *
  generalize wrongSayS ⟨sk, sn, sm, se, ⟨sp, sb⟩⟩ = ws at *
  have hcon : ∀ r, r = true → Con Try.prog D 14 [.sl 1 (l.map byteRow)] ⟨.bool r, []⟩ := by
    intro r hr
    refine con_of (G := G) (rs := [(2, none)]) mixed tok hok Try.func14 rfl (by decide) Try.results14 (by decide) rfl Try.ntmps14 (by simp) (by simp [namess, names]) fun X hP hD hG' hX => evC_sound hX (fun _ => {}) _ _ _ ?_
    simp only [argS, num]
    simp (disch := ((try simp only [List.length_drop, List.length_take, List.length_append, List.length_cons, List.length_nil, List.length_map]); omega)) only [go_sem, Nat.reduceLeDiff, reduceCtorEq, Nat.reduceAdd, Nat.reduceSub, Nat.reduceMul, Nat.reduceLT, Nat.reduceEqDiff, Int.reduceEq, Int.reduceLE, Int.reduceLT, Int.reducePow, Int.reduceMul, Int.reduceToNat, Int.reduceNeg, ↓reduceIte, ← List.map_take, ← List.map_drop, hD, hG', wrap64, g1, g2, g3, g4, g5, unbox, tmv, Option.some.injEq, exists_eq_left']
    iterate 24 (all_goals (try (first | (refine RegT.mk [] ?_; simp (disch := ((try simp only [List.length_drop, List.length_take, List.length_append, List.length_cons, List.length_nil, List.length_map]); omega)) only [go_sem, Nat.reduceLeDiff, reduceCtorEq, Nat.reduceAdd, Nat.reduceSub, Nat.reduceMul, Nat.reduceLT, Nat.reduceEqDiff, Int.reduceEq, Int.reduceLE, Int.reduceLT, Int.reducePow, Int.reduceMul, Int.reduceToNat, Int.reduceNeg, ↓reduceIte, ← List.map_take, ← List.map_drop, hD, hG', wrap64, g1, g2, g3, g4, g5, unbox, tmv, Option.some.injEq, exists_eq_left']) | (refine condK_split (fun h => ?_) (fun h => ?_) <;> ((try simp only [decide_eq_true_eq, decide_eq_false_iff_not, Int.not_lt, Int.not_le, Bool.not_eq_true] at h); simp (disch := ((try simp only [List.length_drop, List.length_take, List.length_append, List.length_cons, List.length_nil, List.length_map]); omega)) only [go_sem, Nat.reduceLeDiff, reduceCtorEq, Nat.reduceAdd, Nat.reduceSub, Nat.reduceMul, Nat.reduceLT, Nat.reduceEqDiff, Int.reduceEq, Int.reduceLE, Int.reduceLT, Int.reducePow, Int.reduceMul, Int.reduceToNat, Int.reduceNeg, ↓reduceIte, ← List.map_take, ← List.map_drop, hD, hG', wrap64, g1, g2, g3, g4, g5, unbox, tmv, Option.some.injEq, exists_eq_left'])) | and_intros)))
    all_goals (try (refine ⟨[], [], rfl, rfl, ?_, ?_⟩ <;> simp only [freeze_nil, freeze_cons, mapT, mapB, mapL, gone, fz, fzs, plain, rowsAt, List.cons_append, List.nil_append, covT, covB, covBlk, cov, covs, keys, get, blk, jn, subs, mem, names, namess, Option.map_some, Option.map_none, Option.getD_some, Option.getD_none, resS, resT, resT.resT', ownS, Nat.reduceEqDiff, ↓reduceIte, if_true, if_false, and_true, true_and, and_self, Nat.reduceAdd, List.map_cons, List.map_nil, ite_true, ite_false, reduceCtorEq]))
    all_goals clear g1 g2 g3 g4 g5 hok hP hD hG' hX
    all_goals (try (first | (intro hk; refine ⟨hk, fun h2 => ?_⟩; first | (rw [hk, h2]; rfl) | (rw [hk, decide_eq_false h2]; rfl)) | (intro hk; rw [decide_eq_false hk]; rfl) | (intro hk; rw [hk]; rfl)))
    all_goals grind
  exact hcon _ rfl
end Go.Proofs.Ytcgdjdlcecnanaa.Ab
namespace Go.Proofs.Ytcgdjdlcecnanaa.Ab
open Go Go.RowKit
set_option linter.unusedVariables false
set_option linter.unusedSimpArgs false

set_option maxRecDepth 100000 in
set_option maxHeartbeats 4000000 in
theorem con_framesturns (a : LAsk) (s : LSay) (more : List UInt8) (k : Int) (fa : a.Fits) (fs : s.note.Fits) (hm : more.length ≤ 1048576) : Con Try.prog D 12 [askA a, sayA s, .sl 1 (more.map byteRow), .int .i64 k] ⟨.bool true, []⟩ := by
  have hok : GOk Try.prog D (tabG [eFralive, eAsk, eSay, eRefwrongask, eRefwrongsay, eAskbytes, eSaybytes, eSameask, eSamesay]) := tabG_ok _
  have g1 : tabG [eFralive, eAsk, eSay, eRefwrongask, eRefwrongsay, eAskbytes, eSaybytes, eSameask, eSamesay] 71 [] = some ⟨.bool true, []⟩ := tabG_at (E := eFralive) (i := 0) rfl (by decide) () trivial rfl rfl
  have g4 : tabG [eFralive, eAsk, eSay, eRefwrongask, eRefwrongsay, eAskbytes, eSaybytes, eSameask, eSamesay] 60 [askA a] = some ⟨.int .i64 (wrongAskS a), []⟩ := tabG_at (E := eRefwrongask) (i := 3) rfl (by decide) a fa rfl rfl
  have g5 : tabG [eFralive, eAsk, eSay, eRefwrongask, eRefwrongsay, eAskbytes, eSaybytes, eSameask, eSamesay] 59 [sayA s] = some ⟨.int .i64 (wrongSayS s), []⟩ := tabG_at (E := eRefwrongsay) (i := 4) rfl (by decide) s fs rfl rfl
  have g6 : wrongAskS a = 0 → tabG [eFralive, eAsk, eSay, eRefwrongask, eRefwrongsay, eAskbytes, eSaybytes, eSameask, eSamesay] 61 [askA a] = some ⟨.os 0, [(5, 1, (framedS (askB a)).map byteRow)]⟩ := fun h => tabG_at (E := eAskbytes) (i := 5) rfl (by decide) a h rfl rfl
  have g7 : wrongSayS s = 0 → tabG [eFralive, eAsk, eSay, eRefwrongask, eRefwrongsay, eAskbytes, eSaybytes, eSameask, eSamesay] 63 [sayA s] = some ⟨.os 0, [(5, 1, (framedS (sayB s)).map byteRow)]⟩ := fun h => tabG_at (E := eSaybytes) (i := 6) rfl (by decide) s h rfl rfl
  have la : wrongAskS a = 0 → (framedS (askB a)).length ≤ 150 := fun h => by have := askB_len h; rw [framed_len]; omega
  have ls : wrongSayS s = 0 → (framedS (sayB s)).length ≤ 150 := fun h => by have := sayB_len h; rw [framed_len]; omega
  have g8 : wrongAskS a = 0 → tabG [eFralive, eAsk, eSay, eRefwrongask, eRefwrongsay, eAskbytes, eSaybytes, eSameask, eSamesay] 65 [.sl 1 ((framedS (askB a) ++ more).map byteRow)] = some ⟨.tup [askA a, .int .i64 ((framedS (askB a)).length : Int), .int .i64 0], []⟩ := fun h => tabG_at (E := eAsk) (i := 1) rfl (by decide) (framedS (askB a) ++ more) (show (framedS (askB a) ++ more).length ≤ 4194304 by have := la h; rw [List.length_append]; omega) rfl (by
    show (⟨.tup [askA (askP (framedS (askB a) ++ more)).1, .int .i64 (askP (framedS (askB a) ++ more)).2.1, .int .i64 (askP (framedS (askB a) ++ more)).2.2], []⟩ : Res) = _
    rw [ask_turn more h])
  have g9 : wrongSayS s = 0 → tabG [eFralive, eAsk, eSay, eRefwrongask, eRefwrongsay, eAskbytes, eSaybytes, eSameask, eSamesay] 68 [.sl 1 ((framedS (sayB s) ++ more).map byteRow)] = some ⟨.tup [sayA s, .int .i64 ((framedS (sayB s)).length : Int), .int .i64 0], []⟩ := fun h => tabG_at (E := eSay) (i := 2) rfl (by decide) (framedS (sayB s) ++ more) (show (framedS (sayB s) ++ more).length ≤ 4194304 by have := ls h; rw [List.length_append]; omega) rfl (by
    show (⟨.tup [sayA (sayP (framedS (sayB s) ++ more)).1, .int .i64 (sayP (framedS (sayB s) ++ more)).2.1, .int .i64 (sayP (framedS (sayB s) ++ more)).2.2], []⟩ : Res) = _
    rw [say_turn more h])
  have g10 : wrongAskS a = 0 → 0 ≤ k → k < (framedS (askB a)).length → tabG [eFralive, eAsk, eSay, eRefwrongask, eRefwrongsay, eAskbytes, eSaybytes, eSameask, eSamesay] 65 [.sl 1 (((framedS (askB a)).take k.toNat).map byteRow)] = some ⟨.tup [askA ask0, .int .i64 0, .int .i64 9], []⟩ := fun h h1 h2 => tabG_at (E := eAsk) (i := 1) rfl (by decide) ((framedS (askB a)).take k.toNat) (show ((framedS (askB a)).take k.toNat).length ≤ 4194304 by have := la h; rw [List.length_take]; omega) rfl (by
    show (⟨.tup [askA (askP ((framedS (askB a)).take k.toNat)).1, .int .i64 (askP ((framedS (askB a)).take k.toNat)).2.1, .int .i64 (askP ((framedS (askB a)).take k.toNat)).2.2], []⟩ : Res) = _
    rw [ask_more h (by omega)])
  have g11 : wrongSayS s = 0 → 0 ≤ k → k < (framedS (sayB s)).length → tabG [eFralive, eAsk, eSay, eRefwrongask, eRefwrongsay, eAskbytes, eSaybytes, eSameask, eSamesay] 68 [.sl 1 (((framedS (sayB s)).take k.toNat).map byteRow)] = some ⟨.tup [sayA say0, .int .i64 0, .int .i64 9], []⟩ := fun h h1 h2 => tabG_at (E := eSay) (i := 2) rfl (by decide) ((framedS (sayB s)).take k.toNat) (show ((framedS (sayB s)).take k.toNat).length ≤ 4194304 by have := ls h; rw [List.length_take]; omega) rfl (by
    show (⟨.tup [sayA (sayP ((framedS (sayB s)).take k.toNat)).1, .int .i64 (sayP ((framedS (sayB s)).take k.toNat)).2.1, .int .i64 (sayP ((framedS (sayB s)).take k.toNat)).2.2], []⟩ : Res) = _
    rw [say_more h (by omega)])
  have g12 : tabG [eFralive, eAsk, eSay, eRefwrongask, eRefwrongsay, eAskbytes, eSaybytes, eSameask, eSamesay] 67 [askA a, askA a] = some ⟨.bool true, []⟩ := tabG_at (E := eSameask) (i := 7) rfl (by decide) (a, a) ⟨fa, fa⟩ rfl (congrArg (fun b => (⟨.bool b, []⟩ : Res)) (decide_eq_true rfl))
  have g13 : tabG [eFralive, eAsk, eSay, eRefwrongask, eRefwrongsay, eAskbytes, eSaybytes, eSameask, eSamesay] 70 [sayA s, sayA s] = some ⟨.bool true, []⟩ := tabG_at (E := eSamesay) (i := 8) rfl (by decide) (s, s) ⟨fs, fs⟩ rfl (congrArg (fun b => (⟨.bool b, []⟩ : Res)) (decide_eq_true rfl))
  generalize tabG [eFralive, eAsk, eSay, eRefwrongask, eRefwrongsay, eAskbytes, eSaybytes, eSameask, eSamesay] = G at *
  generalize framedS (askB a) = xa at *
  generalize framedS (sayB s) = xs at *
  generalize wrongAskS a = wa at *
  generalize wrongSayS s = ws at *
  obtain ⟨ak, aq, an, ⟨ap, ab⟩⟩ := a
  obtain ⟨sk, sn, sm, se, ⟨sp, sb⟩⟩ := s
  have hcon : ∀ r, r = true → Con Try.prog D 12 [askA ⟨ak, aq, an, ⟨ap, ab⟩⟩, sayA ⟨sk, sn, sm, se, ⟨sp, sb⟩⟩, .sl 1 (more.map byteRow), .int .i64 k] ⟨.bool r, []⟩ := by
    intro r hr
    refine con_of (G := G) (rs := [(8, none)]) mixed tok hok Try.func12 rfl (by decide) Try.results12 (by decide) rfl Try.ntmps12 (by simp) (by simp [askA, sayA, namess, names]) fun X hP hD hG' hX => evC_sound hX (fun _ => {}) _ _ _ ?_
    simp only [askA, sayA, ask0, say0, note0] at g4 g5 g6 g7 g8 g9 g10 g11 g12 g13
    simp only [argS, num, askA, sayA]
    generalize aq.data.toList = aql at *
    simp (disch := ((try simp only [List.length_drop, List.length_take, List.length_append, List.length_cons, List.length_nil, List.length_map]); omega)) only [go_sem, Nat.reduceLeDiff, reduceCtorEq, Nat.reduceAdd, Nat.reduceSub, Nat.reduceMul, Nat.reduceLT, Nat.reduceEqDiff, Int.reduceEq, Int.reduceLE, Int.reduceLT, Int.reducePow, Int.reduceMul, Int.reduceToNat, Int.reduceNeg, ↓reduceIte, ← List.map_take, ← List.map_drop, hD, hG', wrap64, g1, g4, g5, g6, g7, g8, g9, g10, g11, g12, g13, rowApp, unbox, tmv, Option.some.injEq, exists_eq_left']
    iterate 24 (all_goals (try (first | (refine RegT.mk [] ?_; simp (disch := ((try simp only [List.length_drop, List.length_take, List.length_append, List.length_cons, List.length_nil, List.length_map]); omega)) only [go_sem, Nat.reduceLeDiff, reduceCtorEq, Nat.reduceAdd, Nat.reduceSub, Nat.reduceMul, Nat.reduceLT, Nat.reduceEqDiff, Int.reduceEq, Int.reduceLE, Int.reduceLT, Int.reducePow, Int.reduceMul, Int.reduceToNat, Int.reduceNeg, ↓reduceIte, ← List.map_take, ← List.map_drop, hD, hG', wrap64, g1, g4, g5, g6, g7, g8, g9, g10, g11, g12, g13, rowApp, unbox, tmv, Option.some.injEq, exists_eq_left']) | (refine condK_split (fun h => ?_) (fun h => ?_) <;> ((try simp at h); (try simp (disch := ((try simp only [List.length_drop, List.length_take, List.length_append, List.length_cons, List.length_nil, List.length_map]); omega)) only [go_sem, Nat.reduceLeDiff, reduceCtorEq, Nat.reduceAdd, Nat.reduceSub, Nat.reduceMul, Nat.reduceLT, Nat.reduceEqDiff, Int.reduceEq, Int.reduceLE, Int.reduceLT, Int.reducePow, Int.reduceMul, Int.reduceToNat, Int.reduceNeg, ↓reduceIte, ← List.map_take, ← List.map_drop, hD, hG', wrap64, g1, g4, g5, g6, g7, g8, g9, g10, g11, g12, g13, rowApp, unbox, tmv, Option.some.injEq, exists_eq_left']))) | and_intros)))
    all_goals (try (refine ⟨[], [], rfl, rfl, ?_, ?_⟩ <;> simp only [freeze_nil, freeze_cons, mapT, mapB, mapL, gone, fz, fzs, plain, rowsAt, List.cons_append, List.nil_append, covT, covB, covBlk, cov, covs, keys, get, blk, jn, subs, mem, names, namess, Option.map_some, Option.map_none, Option.getD_some, Option.getD_none, resS, resT, resT.resT', ownS, Nat.reduceEqDiff, ↓reduceIte, if_true, if_false, and_true, true_and, and_self, Nat.reduceAdd, List.map_cons, List.map_nil, ite_true, ite_false, reduceCtorEq]))
    all_goals clear g1 g4 g5 g6 g7 g8 g9 g10 g11 g12 g13 hok hP hD hG' hX
    all_goals (try (first | decide | omega | (first | (intro hk; refine ⟨hk, fun h2 => ?_⟩; first | (rw [hk, h2]; rfl) | (rw [hk, decide_eq_false h2]; rfl)) | (intro hk; rw [decide_eq_false hk]; rfl) | (intro hk; rw [hk]; rfl))))
    all_goals grind
  exact hcon _ rfl
end Go.Proofs.Ytcgdjdlcecnanaa.Ab
namespace Go.Proofs.Ytcgdjdlcecnanaa.Ab
open Go Go.RowKit
set_option linter.unusedVariables false
set_option linter.unusedSimpArgs false

set_option maxRecDepth 100000 in
set_option maxHeartbeats 4000000 in
theorem con_framestells (a : LAsk) (s : LSay) (l : List UInt8) (fa : a.Fits) (fs : s.note.Fits) (hl : l.length ≤ 4194304) : Con Try.prog D 11 [askA a, sayA s, .sl 1 (l.map byteRow)] ⟨.bool true, []⟩ := by
  have hok : GOk Try.prog D (tabG [eFrwrong, eRefwrongsay, eRefwrongask, eAskbytes, eAskframe, eSaybytes, eSayframe, eAsk, eFrameask, eSay, eFramesay, eSameask, eSamesay]) := tabG_ok _
  have g1 : tabG [eFrwrong, eRefwrongsay, eRefwrongask, eAskbytes, eAskframe, eSaybytes, eSayframe, eAsk, eFrameask, eSay, eFramesay, eSameask, eSamesay] 58 [sayA s] = some ⟨.int .i64 (wrongSayS s), []⟩ := tabG_at (E := eFrwrong) (i := 0) rfl (by decide) s fs rfl rfl
  have g2 : tabG [eFrwrong, eRefwrongsay, eRefwrongask, eAskbytes, eAskframe, eSaybytes, eSayframe, eAsk, eFrameask, eSay, eFramesay, eSameask, eSamesay] 59 [sayA s] = some ⟨.int .i64 (wrongSayS s), []⟩ := tabG_at (E := eRefwrongsay) (i := 1) rfl (by decide) s fs rfl rfl
  have g3 : tabG [eFrwrong, eRefwrongsay, eRefwrongask, eAskbytes, eAskframe, eSaybytes, eSayframe, eAsk, eFrameask, eSay, eFramesay, eSameask, eSamesay] 60 [askA a] = some ⟨.int .i64 (wrongAskS a), []⟩ := tabG_at (E := eRefwrongask) (i := 2) rfl (by decide) a fa rfl rfl
  have g4 : wrongAskS a = 0 → tabG [eFrwrong, eRefwrongsay, eRefwrongask, eAskbytes, eAskframe, eSaybytes, eSayframe, eAsk, eFrameask, eSay, eFramesay, eSameask, eSamesay] 61 [askA a] = some ⟨.os 0, [(5, 1, (framedS (askB a)).map byteRow)]⟩ := fun h => tabG_at (E := eAskbytes) (i := 3) rfl (by decide) a h rfl rfl
  have g5 : wrongAskS a = 0 → tabG [eFrwrong, eRefwrongsay, eRefwrongask, eAskbytes, eAskframe, eSaybytes, eSayframe, eAsk, eFrameask, eSay, eFramesay, eSameask, eSamesay] 62 [askA a] = some ⟨.os 0, [(5, 1, (framedS (askB a)).map byteRow)]⟩ := fun h => tabG_at (E := eAskframe) (i := 4) rfl (by decide) a h rfl rfl
  have g6 : wrongSayS s = 0 → tabG [eFrwrong, eRefwrongsay, eRefwrongask, eAskbytes, eAskframe, eSaybytes, eSayframe, eAsk, eFrameask, eSay, eFramesay, eSameask, eSamesay] 63 [sayA s] = some ⟨.os 0, [(5, 1, (framedS (sayB s)).map byteRow)]⟩ := fun h => tabG_at (E := eSaybytes) (i := 5) rfl (by decide) s h rfl rfl
  have g7 : wrongSayS s = 0 → tabG [eFrwrong, eRefwrongsay, eRefwrongask, eAskbytes, eAskframe, eSaybytes, eSayframe, eAsk, eFrameask, eSay, eFramesay, eSameask, eSamesay] 64 [sayA s] = some ⟨.os 0, [(5, 1, (framedS (sayB s)).map byteRow)]⟩ := fun h => tabG_at (E := eSayframe) (i := 6) rfl (by decide) s h rfl rfl
  have g8 : tabG [eFrwrong, eRefwrongsay, eRefwrongask, eAskbytes, eAskframe, eSaybytes, eSayframe, eAsk, eFrameask, eSay, eFramesay, eSameask, eSamesay] 65 [.sl 1 (l.map byteRow)] = some ⟨.tup [askA (askP l).1, .int .i64 (askP l).2.1, .int .i64 (askP l).2.2], []⟩ := tabG_at (E := eAsk) (i := 7) rfl (by decide) l hl rfl rfl
  have g9 : tabG [eFrwrong, eRefwrongsay, eRefwrongask, eAskbytes, eAskframe, eSaybytes, eSayframe, eAsk, eFrameask, eSay, eFramesay, eSameask, eSamesay] 66 [.sl 1 (l.map byteRow)] = some ⟨.tup [askA (askP l).1, .int .i64 (askP l).2.1, .int .i64 (askP l).2.2], []⟩ := tabG_at (E := eFrameask) (i := 8) rfl (by decide) l hl rfl rfl
  have g10 : tabG [eFrwrong, eRefwrongsay, eRefwrongask, eAskbytes, eAskframe, eSaybytes, eSayframe, eAsk, eFrameask, eSay, eFramesay, eSameask, eSamesay] 68 [.sl 1 (l.map byteRow)] = some ⟨.tup [sayA (sayP l).1, .int .i64 (sayP l).2.1, .int .i64 (sayP l).2.2], []⟩ := tabG_at (E := eSay) (i := 9) rfl (by decide) l hl rfl rfl
  have g11 : tabG [eFrwrong, eRefwrongsay, eRefwrongask, eAskbytes, eAskframe, eSaybytes, eSayframe, eAsk, eFrameask, eSay, eFramesay, eSameask, eSamesay] 69 [.sl 1 (l.map byteRow)] = some ⟨.tup [sayA (sayP l).1, .int .i64 (sayP l).2.1, .int .i64 (sayP l).2.2], []⟩ := tabG_at (E := eFramesay) (i := 10) rfl (by decide) l hl rfl rfl
  have g12 : tabG [eFrwrong, eRefwrongsay, eRefwrongask, eAskbytes, eAskframe, eSaybytes, eSayframe, eAsk, eFrameask, eSay, eFramesay, eSameask, eSamesay] 67 [askA (askP l).1, askA (askP l).1] = some ⟨.bool true, []⟩ := tabG_at (E := eSameask) (i := 11) rfl (by decide) ((askP l).1, (askP l).1) ⟨askP_fits l, askP_fits l⟩ rfl (congrArg (fun b => (⟨.bool b, []⟩ : Res)) (decide_eq_true rfl))
  have g13 : tabG [eFrwrong, eRefwrongsay, eRefwrongask, eAskbytes, eAskframe, eSaybytes, eSayframe, eAsk, eFrameask, eSay, eFramesay, eSameask, eSamesay] 70 [sayA (sayP l).1, sayA (sayP l).1] = some ⟨.bool true, []⟩ := tabG_at (E := eSamesay) (i := 12) rfl (by decide) ((sayP l).1, (sayP l).1) ⟨sayP_fits l, sayP_fits l⟩ rfl (congrArg (fun b => (⟨.bool b, []⟩ : Res)) (decide_eq_true rfl))
  generalize tabG [eFrwrong, eRefwrongsay, eRefwrongask, eAskbytes, eAskframe, eSaybytes, eSayframe, eAsk, eFrameask, eSay, eFramesay, eSameask, eSamesay] = G at *
  have la : wrongAskS a = 0 → (framedS (askB a)).length ≤ 150 := fun h => by have := askB_len h; rw [framed_len]; omega
  have ls : wrongSayS s = 0 → (framedS (sayB s)).length ≤ 150 := fun h => by have := sayB_len h; rw [framed_len]; omega
  generalize framedS (askB a) = xa at *
  generalize framedS (sayB s) = xs at *
  generalize wrongAskS a = wa at *
  generalize wrongSayS s = ws at *
  generalize askP l = pa at *
  generalize sayP l = ps at *
  obtain ⟨ak, aq, an, ⟨ap, ab⟩⟩ := a
  obtain ⟨sk, sn, sm, se, ⟨sp, sb⟩⟩ := s
  obtain ⟨⟨bk, bq, bn, ⟨bp, bb⟩⟩, b1, b2⟩ := pa
  obtain ⟨⟨tk, tn, tm, te, ⟨tp, tb⟩⟩, t1, t2⟩ := ps
  refine con_of (G := G) (rs := [(6, none)]) mixed tok hok Try.func11 rfl (by decide) Try.results11 (by decide) rfl Try.ntmps11 (by simp) (by simp [askA, sayA, namess, names]) fun X hP hD hG' hX => evC_sound hX (fun _ => {}) _ _ _ ?_
  simp only [askA, sayA] at g1 g2 g3 g4 g5 g6 g7 g8 g9 g10 g11 g12 g13
  simp only [argS, num, askA, sayA]
  generalize aq.data.toList = aql at *
  generalize bq.data.toList = bql at *
  by_cases hA : wa = 0 <;> by_cases hS : ws = 0
  all_goals (first | (subst hA; have g4 := g4 rfl; have g5 := g5 rfl; have la := la rfl) | (have hA' : (wa == 0) = false := by simpa using hA))
  all_goals (first | (subst hS; have g6 := g6 rfl; have g7 := g7 rfl; have ls := ls rfl) | (have hS' : (ws == 0) = false := by simpa using hS))
  · simp (disch := ((try simp only [List.length_drop, List.length_take, List.length_append, List.length_cons, List.length_nil, List.length_map]); omega)) only [go_sem, Nat.reduceLeDiff, reduceCtorEq, Nat.reduceAdd, Nat.reduceSub, Nat.reduceMul, Nat.reduceLT, Nat.reduceEqDiff, Int.reduceEq, Int.reduceLE, Int.reduceLT, Int.reducePow, Int.reduceMul, Int.reduceToNat, Int.reduceNeg, ↓reduceIte, ← List.map_take, ← List.map_drop, hD, hG', wrap64, g1, g2, g3, g4, g5, g6, g7, g8, g9, g10, g11, g12, g13, unbox, tmv, Option.some.injEq, exists_eq_left']
    refine ⟨by decide, RegA.mk [] (by decide) ?_⟩
    simp (disch := ((try simp only [List.length_drop, List.length_take, List.length_append, List.length_cons, List.length_nil, List.length_map]); omega)) only [go_sem, Nat.reduceLeDiff, reduceCtorEq, Nat.reduceAdd, Nat.reduceSub, Nat.reduceMul, Nat.reduceLT, Nat.reduceEqDiff, Int.reduceEq, Int.reduceLE, Int.reduceLT, Int.reducePow, Int.reduceMul, Int.reduceToNat, Int.reduceNeg, ↓reduceIte, ← List.map_take, ← List.map_drop, hD, hG', wrap64, g1, g2, g3, g4, g5, g6, g7, g8, g9, g10, g11, g12, g13, unbox, tmv, Option.some.injEq, exists_eq_left']
    iterate 24 (all_goals (try (first | (refine RegT.mk [] ?_; simp (disch := ((try simp only [List.length_drop, List.length_take, List.length_append, List.length_cons, List.length_nil, List.length_map]); omega)) only [go_sem, Nat.reduceLeDiff, reduceCtorEq, Nat.reduceAdd, Nat.reduceSub, Nat.reduceMul, Nat.reduceLT, Nat.reduceEqDiff, Int.reduceEq, Int.reduceLE, Int.reduceLT, Int.reducePow, Int.reduceMul, Int.reduceToNat, Int.reduceNeg, ↓reduceIte, ← List.map_take, ← List.map_drop, hD, hG', wrap64, g1, g2, g3, g4, g5, g6, g7, g8, g9, g10, g11, g12, g13, unbox, tmv, Option.some.injEq, exists_eq_left']) | (refine condK_split (fun h => ?_) (fun h => ?_) <;> ((try simp at h); (try simp (disch := ((try simp only [List.length_drop, List.length_take, List.length_append, List.length_cons, List.length_nil, List.length_map]); omega)) only [go_sem, Nat.reduceLeDiff, reduceCtorEq, Nat.reduceAdd, Nat.reduceSub, Nat.reduceMul, Nat.reduceLT, Nat.reduceEqDiff, Int.reduceEq, Int.reduceLE, Int.reduceLT, Int.reducePow, Int.reduceMul, Int.reduceToNat, Int.reduceNeg, ↓reduceIte, ← List.map_take, ← List.map_drop, hD, hG', wrap64, g1, g2, g3, g4, g5, g6, g7, g8, g9, g10, g11, g12, g13, unbox, tmv, Option.some.injEq, exists_eq_left']))) | and_intros)))
    all_goals (try (first | decide | omega | (first | (intro hk; refine ⟨hk, fun h2 => ?_⟩; first | (rw [hk, h2]; rfl) | (rw [hk, decide_eq_false h2]; rfl)) | (intro hk; rw [decide_eq_false hk]; rfl) | (intro hk; rw [hk]; rfl))))
    all_goals (try (refine ⟨[], [], rfl, rfl, ?_, ?_⟩ <;> simp only [freeze_nil, freeze_cons, mapT, mapB, mapL, gone, fz, fzs, plain, rowsAt, List.cons_append, List.nil_append, covT, covB, covBlk, cov, covs, keys, get, blk, jn, subs, mem, names, namess, Option.map_some, Option.map_none, Option.getD_some, Option.getD_none, resS, resT, resT.resT', ownS, Nat.reduceEqDiff, ↓reduceIte, if_true, if_false, and_true, true_and, and_self, Nat.reduceAdd, List.map_cons, List.map_nil, ite_true, ite_false, reduceCtorEq]))
    all_goals (clear g1 g2 g3 g4 g5 g6 g7 g8 g9 g10 g11 g12 g13 hok hP hD hG' hX; try grind)
  · simp (disch := ((try simp only [List.length_drop, List.length_take, List.length_append, List.length_cons, List.length_nil, List.length_map]); omega)) only [go_sem, Nat.reduceLeDiff, reduceCtorEq, Nat.reduceAdd, Nat.reduceSub, Nat.reduceMul, Nat.reduceLT, Nat.reduceEqDiff, Int.reduceEq, Int.reduceLE, Int.reduceLT, Int.reducePow, Int.reduceMul, Int.reduceToNat, Int.reduceNeg, ↓reduceIte, ← List.map_take, ← List.map_drop, hD, hG', wrap64, g1, g2, g3, g4, g5, g6, g7, g8, g9, g10, g11, g12, g13, hS', unbox, tmv, Option.some.injEq, exists_eq_left']
    refine ⟨by decide, RegA.mk [(16, true)] (by decide) ?_⟩
    simp (disch := ((try simp only [List.length_drop, List.length_take, List.length_append, List.length_cons, List.length_nil, List.length_map]); omega)) only [go_sem, Nat.reduceLeDiff, reduceCtorEq, Nat.reduceAdd, Nat.reduceSub, Nat.reduceMul, Nat.reduceLT, Nat.reduceEqDiff, Int.reduceEq, Int.reduceLE, Int.reduceLT, Int.reducePow, Int.reduceMul, Int.reduceToNat, Int.reduceNeg, ↓reduceIte, ← List.map_take, ← List.map_drop, hD, hG', wrap64, g1, g2, g3, g4, g5, g6, g7, g8, g9, g10, g11, g12, g13, hS', unbox, tmv, Option.some.injEq, exists_eq_left']
    iterate 24 (all_goals (try (first | (refine RegT.mk [] ?_; simp (disch := ((try simp only [List.length_drop, List.length_take, List.length_append, List.length_cons, List.length_nil, List.length_map]); omega)) only [go_sem, Nat.reduceLeDiff, reduceCtorEq, Nat.reduceAdd, Nat.reduceSub, Nat.reduceMul, Nat.reduceLT, Nat.reduceEqDiff, Int.reduceEq, Int.reduceLE, Int.reduceLT, Int.reducePow, Int.reduceMul, Int.reduceToNat, Int.reduceNeg, ↓reduceIte, ← List.map_take, ← List.map_drop, hD, hG', wrap64, g1, g2, g3, g4, g5, g6, g7, g8, g9, g10, g11, g12, g13, hS', unbox, tmv, Option.some.injEq, exists_eq_left']) | (refine condK_split (fun h => ?_) (fun h => ?_) <;> ((try simp at h); (try simp (disch := ((try simp only [List.length_drop, List.length_take, List.length_append, List.length_cons, List.length_nil, List.length_map]); omega)) only [go_sem, Nat.reduceLeDiff, reduceCtorEq, Nat.reduceAdd, Nat.reduceSub, Nat.reduceMul, Nat.reduceLT, Nat.reduceEqDiff, Int.reduceEq, Int.reduceLE, Int.reduceLT, Int.reducePow, Int.reduceMul, Int.reduceToNat, Int.reduceNeg, ↓reduceIte, ← List.map_take, ← List.map_drop, hD, hG', wrap64, g1, g2, g3, g4, g5, g6, g7, g8, g9, g10, g11, g12, g13, hS', unbox, tmv, Option.some.injEq, exists_eq_left']))) | and_intros)))
    all_goals (try (first | decide | omega | (first | (intro hk; refine ⟨hk, fun h2 => ?_⟩; first | (rw [hk, h2]; rfl) | (rw [hk, decide_eq_false h2]; rfl)) | (intro hk; rw [decide_eq_false hk]; rfl) | (intro hk; rw [hk]; rfl))))
    all_goals (try (refine ⟨[], [], rfl, rfl, ?_, ?_⟩ <;> simp only [freeze_nil, freeze_cons, mapT, mapB, mapL, gone, fz, fzs, plain, rowsAt, List.cons_append, List.nil_append, covT, covB, covBlk, cov, covs, keys, get, blk, jn, subs, mem, names, namess, Option.map_some, Option.map_none, Option.getD_some, Option.getD_none, resS, resT, resT.resT', ownS, Nat.reduceEqDiff, ↓reduceIte, if_true, if_false, and_true, true_and, and_self, Nat.reduceAdd, List.map_cons, List.map_nil, ite_true, ite_false, reduceCtorEq]))
    all_goals (clear g1 g2 g3 g4 g5 g6 g7 g8 g9 g10 g11 g12 g13 hok hP hD hG' hX; try grind)
  · simp (disch := ((try simp only [List.length_drop, List.length_take, List.length_append, List.length_cons, List.length_nil, List.length_map]); omega)) only [go_sem, Nat.reduceLeDiff, reduceCtorEq, Nat.reduceAdd, Nat.reduceSub, Nat.reduceMul, Nat.reduceLT, Nat.reduceEqDiff, Int.reduceEq, Int.reduceLE, Int.reduceLT, Int.reducePow, Int.reduceMul, Int.reduceToNat, Int.reduceNeg, ↓reduceIte, ← List.map_take, ← List.map_drop, hD, hG', wrap64, g1, g2, g3, g4, g5, g6, g7, g8, g9, g10, g11, g12, g13, hA', unbox, tmv, Option.some.injEq, exists_eq_left']
    refine ⟨by decide, RegA.mk [(3, true)] (by decide) ?_⟩
    simp (disch := ((try simp only [List.length_drop, List.length_take, List.length_append, List.length_cons, List.length_nil, List.length_map]); omega)) only [go_sem, Nat.reduceLeDiff, reduceCtorEq, Nat.reduceAdd, Nat.reduceSub, Nat.reduceMul, Nat.reduceLT, Nat.reduceEqDiff, Int.reduceEq, Int.reduceLE, Int.reduceLT, Int.reducePow, Int.reduceMul, Int.reduceToNat, Int.reduceNeg, ↓reduceIte, ← List.map_take, ← List.map_drop, hD, hG', wrap64, g1, g2, g3, g4, g5, g6, g7, g8, g9, g10, g11, g12, g13, hA', unbox, tmv, Option.some.injEq, exists_eq_left']
    iterate 24 (all_goals (try (first | (refine RegT.mk [] ?_; simp (disch := ((try simp only [List.length_drop, List.length_take, List.length_append, List.length_cons, List.length_nil, List.length_map]); omega)) only [go_sem, Nat.reduceLeDiff, reduceCtorEq, Nat.reduceAdd, Nat.reduceSub, Nat.reduceMul, Nat.reduceLT, Nat.reduceEqDiff, Int.reduceEq, Int.reduceLE, Int.reduceLT, Int.reducePow, Int.reduceMul, Int.reduceToNat, Int.reduceNeg, ↓reduceIte, ← List.map_take, ← List.map_drop, hD, hG', wrap64, g1, g2, g3, g4, g5, g6, g7, g8, g9, g10, g11, g12, g13, hA', unbox, tmv, Option.some.injEq, exists_eq_left']) | (refine condK_split (fun h => ?_) (fun h => ?_) <;> ((try simp at h); (try simp (disch := ((try simp only [List.length_drop, List.length_take, List.length_append, List.length_cons, List.length_nil, List.length_map]); omega)) only [go_sem, Nat.reduceLeDiff, reduceCtorEq, Nat.reduceAdd, Nat.reduceSub, Nat.reduceMul, Nat.reduceLT, Nat.reduceEqDiff, Int.reduceEq, Int.reduceLE, Int.reduceLT, Int.reducePow, Int.reduceMul, Int.reduceToNat, Int.reduceNeg, ↓reduceIte, ← List.map_take, ← List.map_drop, hD, hG', wrap64, g1, g2, g3, g4, g5, g6, g7, g8, g9, g10, g11, g12, g13, hA', unbox, tmv, Option.some.injEq, exists_eq_left']))) | and_intros)))
    all_goals (try (first | decide | omega | (first | (intro hk; refine ⟨hk, fun h2 => ?_⟩; first | (rw [hk, h2]; rfl) | (rw [hk, decide_eq_false h2]; rfl)) | (intro hk; rw [decide_eq_false hk]; rfl) | (intro hk; rw [hk]; rfl))))
    all_goals (try (refine ⟨[], [], rfl, rfl, ?_, ?_⟩ <;> simp only [freeze_nil, freeze_cons, mapT, mapB, mapL, gone, fz, fzs, plain, rowsAt, List.cons_append, List.nil_append, covT, covB, covBlk, cov, covs, keys, get, blk, jn, subs, mem, names, namess, Option.map_some, Option.map_none, Option.getD_some, Option.getD_none, resS, resT, resT.resT', ownS, Nat.reduceEqDiff, ↓reduceIte, if_true, if_false, and_true, true_and, and_self, Nat.reduceAdd, List.map_cons, List.map_nil, ite_true, ite_false, reduceCtorEq]))
    all_goals (clear g1 g2 g3 g4 g5 g6 g7 g8 g9 g10 g11 g12 g13 hok hP hD hG' hX; try grind)
  · simp (disch := ((try simp only [List.length_drop, List.length_take, List.length_append, List.length_cons, List.length_nil, List.length_map]); omega)) only [go_sem, Nat.reduceLeDiff, reduceCtorEq, Nat.reduceAdd, Nat.reduceSub, Nat.reduceMul, Nat.reduceLT, Nat.reduceEqDiff, Int.reduceEq, Int.reduceLE, Int.reduceLT, Int.reducePow, Int.reduceMul, Int.reduceToNat, Int.reduceNeg, ↓reduceIte, ← List.map_take, ← List.map_drop, hD, hG', wrap64, g1, g2, g3, g4, g5, g6, g7, g8, g9, g10, g11, g12, g13, hA', hS', unbox, tmv, Option.some.injEq, exists_eq_left']
    refine ⟨by decide, RegA.mk [(3, true), (16, true)] (by decide) ?_⟩
    simp (disch := ((try simp only [List.length_drop, List.length_take, List.length_append, List.length_cons, List.length_nil, List.length_map]); omega)) only [go_sem, Nat.reduceLeDiff, reduceCtorEq, Nat.reduceAdd, Nat.reduceSub, Nat.reduceMul, Nat.reduceLT, Nat.reduceEqDiff, Int.reduceEq, Int.reduceLE, Int.reduceLT, Int.reducePow, Int.reduceMul, Int.reduceToNat, Int.reduceNeg, ↓reduceIte, ← List.map_take, ← List.map_drop, hD, hG', wrap64, g1, g2, g3, g4, g5, g6, g7, g8, g9, g10, g11, g12, g13, hA', hS', unbox, tmv, Option.some.injEq, exists_eq_left']
    iterate 24 (all_goals (try (first | (refine RegT.mk [] ?_; simp (disch := ((try simp only [List.length_drop, List.length_take, List.length_append, List.length_cons, List.length_nil, List.length_map]); omega)) only [go_sem, Nat.reduceLeDiff, reduceCtorEq, Nat.reduceAdd, Nat.reduceSub, Nat.reduceMul, Nat.reduceLT, Nat.reduceEqDiff, Int.reduceEq, Int.reduceLE, Int.reduceLT, Int.reducePow, Int.reduceMul, Int.reduceToNat, Int.reduceNeg, ↓reduceIte, ← List.map_take, ← List.map_drop, hD, hG', wrap64, g1, g2, g3, g4, g5, g6, g7, g8, g9, g10, g11, g12, g13, hA', hS', unbox, tmv, Option.some.injEq, exists_eq_left']) | (refine condK_split (fun h => ?_) (fun h => ?_) <;> ((try simp at h); (try simp (disch := ((try simp only [List.length_drop, List.length_take, List.length_append, List.length_cons, List.length_nil, List.length_map]); omega)) only [go_sem, Nat.reduceLeDiff, reduceCtorEq, Nat.reduceAdd, Nat.reduceSub, Nat.reduceMul, Nat.reduceLT, Nat.reduceEqDiff, Int.reduceEq, Int.reduceLE, Int.reduceLT, Int.reducePow, Int.reduceMul, Int.reduceToNat, Int.reduceNeg, ↓reduceIte, ← List.map_take, ← List.map_drop, hD, hG', wrap64, g1, g2, g3, g4, g5, g6, g7, g8, g9, g10, g11, g12, g13, hA', hS', unbox, tmv, Option.some.injEq, exists_eq_left']))) | and_intros)))
    all_goals (try (first | decide | omega | (first | (intro hk; refine ⟨hk, fun h2 => ?_⟩; first | (rw [hk, h2]; rfl) | (rw [hk, decide_eq_false h2]; rfl)) | (intro hk; rw [decide_eq_false hk]; rfl) | (intro hk; rw [hk]; rfl))))
    all_goals (try (refine ⟨[], [], rfl, rfl, ?_, ?_⟩ <;> simp only [freeze_nil, freeze_cons, mapT, mapB, mapL, gone, fz, fzs, plain, rowsAt, List.cons_append, List.nil_append, covT, covB, covBlk, cov, covs, keys, get, blk, jn, subs, mem, names, namess, Option.map_some, Option.map_none, Option.getD_some, Option.getD_none, resS, resT, resT.resT', ownS, Nat.reduceEqDiff, ↓reduceIte, if_true, if_false, and_true, true_and, and_self, Nat.reduceAdd, List.map_cons, List.map_nil, ite_true, ite_false, reduceCtorEq]))
    all_goals (clear g1 g2 g3 g4 g5 g6 g7 g8 g9 g10 g11 g12 g13 hok hP hD hG' hX; try grind)
end Go.Proofs.Ytcgdjdlcecnanaa.Ab
namespace Go.Proofs.Ytcgdjdlcecnanaa.Ab
open Go Go.RowKit
set_option linter.unusedVariables false
set_option linter.unusedSimpArgs false

theorem shp_ask {m : Nat} {B : Nat} {us : List AV} (h : Shp D B (m + 5) 80 us) : ∃ a : LAsk, AV.agg us = askA a ∧ a.queue.size ≤ B ∧ a.note.props.length ≤ B ∧ a.note.body.length ≤ B ∧ ∀ p ∈ a.note.props, p.key.size ≤ B ∧ p.text.size ≤ B := by
  have h := shp_struct (fs := [(0, 3), (1, 9), (2, 3), (3, 42)]) (by simp only [D_1, D_2, D_3, D_4, D_5, D_6, D_7, D_8, D_9, D_10, D_11, D_12, D_13, D_14, D_15, D_16, D_17, D_18, D_19, D_21, D_22, D_23, D_24, D_25, D_26, D_27, D_28, D_29, D_30, D_32, D_33, D_35, D_36, D_37, D_38, D_39, D_40, D_41, D_42, D_43, D_44, D_45, D_46, D_47, D_49, D_50, D_51, D_52, D_53, D_54, D_55, D_56, D_57, D_58, D_60, D_61, D_62, D_63, D_64, D_66, D_67, D_68, D_70, D_72, D_73, D_75, D_76, D_77, D_78, D_79, D_80, D_81, D_82, D_83, D_84, D_85, D_86, D_88, D_89, D_91, D_92, D_93, D_94, D_95, D_96, D_97, D_98, D_99, D_100, D_103, D_104, D_105, D_106, D_107, D_108, D_109, D_110, D_111, D_112, D_113, D_114, D_115, D_116, D_117, D_118, D_119, D_120, D_121, D_122, D_123, D_126, D_128, D_130, D_131, D_132, D_133, D_137, D_138, D_139, D_140, D_141, D_142, D_143, D_144, D_145]) h
  simp only [ShpF] at h
  obtain ⟨_, _, rfl, h1, _, _, rfl, h2, _, _, rfl, h3, _, _, rfl, h4, rfl⟩ := h
  obtain ⟨k, rfl, _⟩ := shp_i64 (t := 3) rfl h1
  obtain ⟨q, rfl, hq⟩ := shp_str (t := 9) rfl h2
  obtain ⟨n, rfl, _⟩ := shp_i64 (t := 3) rfl h3
  obtain ⟨x, _, rfl, q1, q2, q3⟩ := shp_note h4
  exact ⟨⟨k, q, n, x⟩, rfl, hq, q1, q2, q3⟩
theorem shp_say {m : Nat} {B : Nat} {us : List AV} (h : Shp D B (m + 5) 82 us) : ∃ a : LSay, AV.agg us = sayA a ∧ a.note.props.length ≤ B ∧ a.note.body.length ≤ B ∧ ∀ p ∈ a.note.props, p.key.size ≤ B ∧ p.text.size ≤ B := by
  have h := shp_struct (fs := [(0, 3), (1, 3), (2, 3), (3, 30), (4, 42)]) (by simp only [D_1, D_2, D_3, D_4, D_5, D_6, D_7, D_8, D_9, D_10, D_11, D_12, D_13, D_14, D_15, D_16, D_17, D_18, D_19, D_21, D_22, D_23, D_24, D_25, D_26, D_27, D_28, D_29, D_30, D_32, D_33, D_35, D_36, D_37, D_38, D_39, D_40, D_41, D_42, D_43, D_44, D_45, D_46, D_47, D_49, D_50, D_51, D_52, D_53, D_54, D_55, D_56, D_57, D_58, D_60, D_61, D_62, D_63, D_64, D_66, D_67, D_68, D_70, D_72, D_73, D_75, D_76, D_77, D_78, D_79, D_80, D_81, D_82, D_83, D_84, D_85, D_86, D_88, D_89, D_91, D_92, D_93, D_94, D_95, D_96, D_97, D_98, D_99, D_100, D_103, D_104, D_105, D_106, D_107, D_108, D_109, D_110, D_111, D_112, D_113, D_114, D_115, D_116, D_117, D_118, D_119, D_120, D_121, D_122, D_123, D_126, D_128, D_130, D_131, D_132, D_133, D_137, D_138, D_139, D_140, D_141, D_142, D_143, D_144, D_145]) h
  simp only [ShpF] at h
  obtain ⟨_, _, rfl, h1, _, _, rfl, h2, _, _, rfl, h3, _, _, rfl, h4, _, _, rfl, h5, rfl⟩ := h
  obtain ⟨k, rfl, _⟩ := shp_i64 (t := 3) rfl h1
  obtain ⟨n, rfl, _⟩ := shp_i64 (t := 3) rfl h2
  obtain ⟨m, rfl, _⟩ := shp_i64 (t := 3) rfl h3
  obtain ⟨e, rfl, _⟩ := shp_i64 (t := 30) rfl h4
  obtain ⟨x, _, rfl, q1, q2, q3⟩ := shp_note h5
  exact ⟨⟨k, n, m, e, x⟩, rfl, q1, q2, q3⟩
end Go.Proofs.Ytcgdjdlcecnanaa.Ab
