/-
  Texts of the proof, one behind the other: SeS SeA SeB SeC SeD SeE SeF SeG SeH SeI SeP SeQ SeR OpenS.
  No condition but those that each theorem names.
-/
import Derived.Test.YthbejciebmkclaaGK
import Derived.Test.YthbejciebmkclaaGC
import Derived.Test.YthbejciebmkclaaGL
import Derived.Test.YthbejciebmkclaaGJ
import Derived.Test.YthbejciebmkclaaGR
namespace Go.Proofs.Ythbejciebmkclaa.Ab
open Go Go.RowKit
set_option linter.unusedVariables false
set_option linter.unusedSimpArgs false

structure LSess where
  tags : List LTag
  next : Int
/-- a hall, its journal, a session -/
structure LW where
  h : LHall
  l : LLog
  s : LSess
def sessCs (s : LSess) : List AV := [.sl 4 (s.tags.map tagRow), .int .i64 s.next]
def sessA (s : LSess) : AV := .agg (sessCs s)
def logCs (l : LLog) : List AV := [.sl 1 (l.bytes.map byteRow), .int .i64 l.sure]
def llogA (l : LLog) : AV := .agg (logCs l)
/-- the doer's cells -/
def wCs (w : LW) : List AV := [.sl 3 (w.h.queues.map queueRow), .int .i64 w.h.next, .sl 1 (w.l.bytes.map byteRow), .int .i64 w.l.sure, .sl 4 (w.s.tags.map tagRow), .int .i64 w.s.next]
def wA (w : LW) : AV := .agg (wCs w)
def say0 : LSay := ⟨0, 0, 0, 0, note0⟩
def faultS (e : Int) : LSay := ⟨4, 0, 0, e, note0⟩
def sayOk : LSay := ⟨1, 0, 0, 0, note0⟩
theorem sessA_inj {a b : LSess} (h : sessA a = sessA b) : a = b := by
  obtain ⟨t, n⟩ := a
  obtain ⟨t', n'⟩ := b
  simp only [sessA, sessCs, AV.agg.injEq, List.cons.injEq, AV.int.injEq, AV.sl.injEq, true_and, and_true] at h
  rw [tags_inj h.1, h.2]
theorem llogA_inj {a b : LLog} (h : llogA a = llogA b) : a = b := by
  obtain ⟨t, n⟩ := a
  obtain ⟨t', n'⟩ := b
  simp only [llogA, logCs, AV.agg.injEq, List.cons.injEq, AV.int.injEq, AV.sl.injEq, true_and, and_true] at h
  rw [bytes_inj h.1, h.2]
theorem wCs_inj {a b : LW} (h : wCs a = wCs b) : a = b := by
  obtain ⟨⟨q, x⟩, ⟨y, s⟩, ⟨t, n⟩⟩ := a
  obtain ⟨⟨q', x'⟩, ⟨y', s'⟩, ⟨t', n'⟩⟩ := b
  simp only [wCs, List.cons.injEq, AV.int.injEq, AV.sl.injEq, true_and, and_true] at h
  obtain ⟨h1, rfl, h2, rfl, h3, rfl⟩ := h
  rw [queues_inj h1, bytes_inj h2, tags_inj h3]
theorem tagGet {l : List LTag} {i : Nat} (h : i < l.length) : (l.map tagRow).getD i [] = tagRow (l.getD i tag0) := by
  simp [h]

theorem names_sess (s : LSess) : names (sessA s) = [] := by simp [sessA, sessCs, names, namess]
theorem names_llog (s : LLog) : names (llogA s) = [] := by simp [llogA, logCs, names, namess]
theorem names_wA (s : LW) : names (wA s) = [] := by simp [wA, wCs, names, namess]
theorem names_ask (s : LAsk) : names (askA s) = [] := by simp [askA, names, namess]
theorem names_say (s : LSay) : names (sayA s) = [] := by simp [sayA, names, namess]
attribute [simp] names_sess names_llog names_wA names_ask names_say
theorem con_fault (e : Int) : Con Try.prog D 108 [.int .i64 e] ⟨sayA (faultS e), []⟩ := by
  have hok : GOk Try.prog D (tabG []) := tabG_ok _
  generalize tabG [] = G at *
  refine conW (G := G) (rs := [(2, some 89)]) hok Try.func108 Try.results108 Try.ntmps108 (fun _ => {}) fun X hP hD hG' hX => ?_
  simp only [argS, num]
  simp (disch := omega) only [go_sem, Nat.reduceLeDiff, reduceCtorEq, Nat.reduceAdd, Nat.reduceSub, Nat.reduceMul, Nat.reduceLT, Nat.reduceEqDiff, Int.reduceEq, Int.reduceLE, Int.reduceLT, Int.reducePow, Int.reduceMul, Int.reduceToNat, Int.reduceNeg, ↓reduceIte, hD, hG', wrap64, unbox, tmv, Option.some.injEq, exists_eq_left']
  refine endW [] [] (by simp) rfl rfl rfl ?_ ?_ <;> simp only [go_sem, Nat.reduceEqDiff]
  simp [sayA, faultS, note0, cov, covs, subs, names, namess]
def eFault : Ent Try.prog D := ⟨108, Int, fun e => [.int .i64 e], fun _ => True, fun e => ⟨sayA (faultS e), []⟩, fun x y _ _ h => by
  simp only [List.cons.injEq, AV.int.injEq, true_and, and_true] at h
  rw [h], fun e _ => con_fault e⟩

/-- is it nil: one that holds something is not -/
theorem inl_eqnil {X : Cx} (hP : X.P = Try.prog) {ops : Array Oper} {σ : AS} {R : AS → Prop} {d : Nat} {x : Operand} {T e U n : Nat} {ty : Nat} {pos : String} {af : Array Edge} {rs : List (List AV)} (hu : Try.prog.underlying T = some (.slice e)) (hx : ev σ x = .sl n rs) (hd : d < σ.nt)
    (h : ∀ b : Bool, (b = true → rs = []) → R { σ with tm := (d, .bool b) :: σ.tm }) : InlOp X ops ⟨some d, .binOp .eql T x (.const (.slice none 0 0)) U, ty, pos, af, none⟩ σ R := by
  refine ⟨fun γ a w i Qx hi ⟨ρ, hs⟩ => ?_⟩
  have hvx := (hs.ev x).1
  rw [hx] at hvx
  generalize hv : a.eval x = v at hvx
  cases hvx with
  | sl _ _ A c b o val hc hm hA hrow hcell hval =>
  unfold wpOp
  simp only [hi]
  rw [if_pos (by simp [Region.wanted])]
  left
  have hex : execOp a.eval ⟨some d, .binOp .eql T x (.const (.slice none 0 0)) U, ty, pos, af, none⟩ = (do pure (.value (← (do eqGuard .eql T x (.const (.slice none 0 0)) (a.eval x) (.slice none 0 0); binOp .eql T (a.eval x) (.slice none 0 0))))) := rfl
  refine wp_of_value hex (v := .bool A.isNone) (w' := w) ?_ ⟨_, h A.isNone (fun hn => ?_), ρ, hs.put hd (.bool _) (by simp [names])⟩
  · rw [hv, hP]
    rw [Sem.run_bind]
    show Result.andThen (.ok () w) _ = _
    rw [Result.andThen_ok, Lib.run_eql_slice_nil w _ _ _ _ _ _ _ hu]
  · rcases Nat.eq_zero_or_pos rs.length with h0 | h0
    · exact List.eq_nil_of_length_eq_zero h0
    · rw [(hA h0).1] at hn
      cases hn
theorem con_clonetags (l : List LTag) (hl : l.length ≤ 16777216) : Con Try.prog D 105 [.sl 4 (l.map tagRow)] ⟨.os 0, [(50, 4, l.map tagRow)]⟩ := by
  have hok : GOk Try.prog D (tabG []) := tabG_ok _
  generalize tabG [] = G at *
  refine conW (G := G) (rs := [(2, none)]) hok Try.func105 Try.results105 Try.ntmps105 (fun _ => {}) fun X hP hD hG' hX => ?_
  simp only [argS, num]
  simp (disch := omega) only [go_sem, Nat.reduceLeDiff, reduceCtorEq, Nat.reduceAdd, Nat.reduceSub, Nat.reduceMul, Nat.reduceLT, Nat.reduceEqDiff, Int.reduceEq, Int.reduceLE, Int.reduceLT, Int.reducePow, Int.reduceMul, Int.reduceToNat, Int.reduceNeg, ↓reduceIte, hD, hG', wrap64, unbox, tmv, Option.some.injEq, exists_eq_left']
  refine inl_eqnil hP Try.underlying77 rfl (by simp) fun b hb => ?_
  simp (disch := omega) only [go_sem, Nat.reduceLeDiff, reduceCtorEq, Nat.reduceAdd, Nat.reduceSub, Nat.reduceMul, Nat.reduceLT, Nat.reduceEqDiff, Int.reduceEq, Int.reduceLE, Int.reduceLT, Int.reducePow, Int.reduceMul, Int.reduceToNat, Int.reduceNeg, ↓reduceIte, hD, hG', wrap64, unbox, tmv, Option.some.injEq, exists_eq_left']
  cases b
  · simp (disch := omega) only [go_sem, Nat.reduceLeDiff, reduceCtorEq, Nat.reduceAdd, Nat.reduceSub, Nat.reduceMul, Nat.reduceLT, Nat.reduceEqDiff, Int.reduceEq, Int.reduceLE, Int.reduceLT, Int.reducePow, Int.reduceMul, Int.reduceToNat, Int.reduceNeg, ↓reduceIte, hD, hG', wrap64, unbox, tmv, Option.some.injEq, exists_eq_left']
    (repeat (with_reducible refine And.intro (by first | omega | decide | (simp; done) | (simp only [List.length_append, List.length_cons, List.length_nil, List.length_map]; omega)) ?_))
    refine endW [] [(0, 7)] (by simp) rfl rfl rfl ?_ ?_ <;> simp only [go_sem, Nat.reduceEqDiff]
  · have : l = [] := by simpa using hb rfl
    subst this
    simp (disch := omega) only [go_sem, Nat.reduceLeDiff, reduceCtorEq, Nat.reduceAdd, Nat.reduceSub, Nat.reduceMul, Nat.reduceLT, Nat.reduceEqDiff, Int.reduceEq, Int.reduceLE, Int.reduceLT, Int.reducePow, Int.reduceMul, Int.reduceToNat, Int.reduceNeg, ↓reduceIte, hD, hG', wrap64, unbox, tmv, Option.some.injEq, exists_eq_left']
    refine endW [] [] (by simp) rfl rfl rfl ?_ ?_ <;> simp only [go_sem, Nat.reduceEqDiff]
    simp
def eClonetags : Ent Try.prog D := ⟨105, List LTag, fun l => [.sl 4 (l.map tagRow)], fun l => l.length ≤ 16777216, fun l => ⟨.os 0, [(50, 4, l.map tagRow)]⟩, fun x y _ _ h => by
  simp only [List.cons.injEq, AV.sl.injEq, true_and, and_true] at h
  rw [tags_inj h], con_clonetags⟩
def sownLo : Nat → Lo := fun id => match id with | 1 => {uo := [6], un := [2]} | _ => {}
theorem con_sown (s : LSess) (hl : s.tags.length ≤ 16777216) : Con Try.prog D 62 [sessA s] ⟨.agg [.os 0, .int .i64 s.next], [(50, 4, s.tags.map tagRow)]⟩ := by
  have hok : GOk Try.prog D (tabG [eClonetags]) := tabG_ok _
  have g1 := tabG_use (T := [eClonetags]) (E := eClonetags) (i := 0) rfl (by decide) (s.tags) (hl)
  generalize tabG [eClonetags] = G at *
  dsimp only [eClonetags] at g1
  obtain ⟨t, n⟩ := s
  simp only at g1
  refine conW (G := G) (rs := [(2, some 79)]) hok Try.func62 Try.results62 Try.ntmps62 (sownLo) fun X hP hD hG' hX => ?_
  simp only [argS, num, sessA, sessCs]
  simp (disch := omega) only [go_sem, Nat.reduceLeDiff, reduceCtorEq, Nat.reduceAdd, Nat.reduceSub, Nat.reduceMul, Nat.reduceLT, Nat.reduceEqDiff, Int.reduceEq, Int.reduceLE, Int.reduceLT, Int.reducePow, Int.reduceMul, Int.reduceToNat, Int.reduceNeg, ↓reduceIte, hD, hG', wrap64, g1, sownLo, unbox, tmv, Option.some.injEq, exists_eq_left']
  (repeat (with_reducible refine And.intro (by first | omega | decide | (simp; done) | (simp only [List.length_append, List.length_cons, List.length_nil, List.length_map]; omega)) ?_))
  refine endW [] [(0, 4101)] (by simp) rfl rfl rfl ?_ ?_ <;> simp only [go_sem, Nat.reduceEqDiff]
end Go.Proofs.Ythbejciebmkclaa.Ab
namespace Go.Proofs.Ythbejciebmkclaa.Ab
open Go Go.RowKit
set_option linter.unusedVariables false
set_option linter.unusedSimpArgs false

def keepS (w : LW) (r : Res4) : LW × LSay :=
  if r.2.2 ≠ 0 then (w, faultS r.2.2)
  else if (writeS w.l.bytes w.l.sure r.2.1).2 ≠ 0 then (w, faultS (writeS w.l.bytes w.l.sure r.2.1).2)
  else (⟨r.1, (writeS w.l.bytes w.l.sure r.2.1).1, w.s⟩, sayOk)
abbrev KeepX := LW × Res4
def keepArgs (x : KeepX) : List AV := [.ptr 60000 0, .agg (hallCs x.2.1), entriesA x.2.2.1, .int .i64 x.2.2.2]
def wBl (w : LW) : List (Nat × Blk) := [(60000, .cells (wCs w))]
def KeepOk (x : KeepX) : Prop := x.2.2.2 = 0 → WOk ((x.1.l.bytes, x.1.l.sure), x.2.2.1)
def keepLo : Nat → Lo := fun id => match id with | 6 => {uo := [6, 9], un := [60000]} | _ => {}
set_option maxRecDepth 100000 in
set_option maxHeartbeats 1000000 in
theorem pc_keep (x : KeepX) (hx : KeepOk x) : PC Try.prog D 109 (keepArgs x) (wBl x.1) (sayA (keepS x.1 x.2).2) (wBl (keepS x.1 x.2).1) := by
  have hok : GOk Try.prog D (tabG [eFault, eWrite]) := tabG_ok _
  have g1 := fun (e : Int) => tabG_use (T := [eFault, eWrite]) (E := eFault) (i := 0) rfl (by decide) (e) (trivial)
  have g2 := fun (h : WOk ((x.1.l.bytes, x.1.l.sure), x.2.2.1)) => tabG_use (T := [eFault, eWrite]) (E := eWrite) (i := 1) rfl (by decide) (((x.1.l.bytes, x.1.l.sure), x.2.2.1)) (h)
  generalize tabG [eFault, eWrite] = G at *
  dsimp only [eFault] at g1
  dsimp only [eWrite] at g2
  obtain ⟨⟨⟨q, qn⟩, ⟨lb, ls⟩, ⟨ts, tn⟩⟩, ⟨⟨xq, xn⟩, es, er⟩⟩ := x
  unfold KeepOk at hx
  simp only at hx g2
  refine pc_of (G := G) (rs := [(8, some 89)]) MOk.none mixed tok hok [60000] Try.func109 rfl (by decide) Try.results109 (by decide) rfl (by decide) Try.ntmps109 (by simp [keepArgs]) (by simp [keepArgs, wBl, hallCs, entriesA, namess, names, keys])
    (closB_of (by simp [wBl, wCs, subs, namess, names])) (ndB_of (by simp [wBl, nd])) (ndB_of (by simp [wBl, nd])) (by simp [wBl, get]) (by simp [wBl, keys]) fun X hP hD hG' hX => evC_sound hX keepLo _ _ _ ?_
  simp only [argP, num, pinT, pin, keepArgs, wBl, wCs, hallCs, entriesA]
  by_cases h0 : er = 0
  · have e0 : (er != 0) = false := by simp [h0]
    have g2 := g2 (hx h0)
    have hk : keepS ⟨⟨q, qn⟩, ⟨lb, ls⟩, ⟨ts, tn⟩⟩ ⟨⟨xq, xn⟩, es, er⟩ = if (writeS lb ls es).2 ≠ 0 then (⟨⟨q, qn⟩, ⟨lb, ls⟩, ⟨ts, tn⟩⟩, faultS (writeS lb ls es).2) else (⟨⟨xq, xn⟩, (writeS lb ls es).1, ⟨ts, tn⟩⟩, sayOk) := by
      unfold keepS
      rw [if_neg (by simp [h0])]
    rw [hk]
    generalize writeS lb ls es = W at *
    obtain ⟨⟨wb, ws⟩, we⟩ := W
    simp only [writeA, entriesA] at g2
    simp (disch := omega) only [go_sem, Nat.reduceLeDiff, reduceCtorEq, Nat.reduceAdd, Nat.reduceSub, Nat.reduceMul, Nat.reduceLT, Nat.reduceEqDiff, Int.reduceEq, Int.reduceLE, Int.reduceLT, Int.reducePow, Int.reduceMul, Int.reduceToNat, Int.reduceNeg, ↓reduceIte, hD, hG', wrap64, e0, g2, keepLo, unbox, tmv, Option.some.injEq, exists_eq_left']
    by_cases h1 : we = 0
    · have e1 : (we != 0) = false := by simp [h1]
      rw [if_neg (by simp [h1])]
      simp (disch := omega) only [go_sem, Nat.reduceLeDiff, reduceCtorEq, Nat.reduceAdd, Nat.reduceSub, Nat.reduceMul, Nat.reduceLT, Nat.reduceEqDiff, Int.reduceEq, Int.reduceLE, Int.reduceLT, Int.reducePow, Int.reduceMul, Int.reduceToNat, Int.reduceNeg, ↓reduceIte, hD, hG', wrap64, e1, keepLo, unbox, tmv, Option.some.injEq, exists_eq_left']
      (repeat (with_reducible refine And.intro (by first | omega | decide | (simp; done) | (simp only [List.length_append, List.length_cons, List.length_nil, List.length_map]; omega)) ?_))
      refine ⟨[], [(60000, 60000)], rfl, rfl, ?_, ?_⟩ <;> simp only [go_sem, Nat.reduceEqDiff, resP, pinT, pin, here, Nat.reduceAdd, ↓reduceIte, reduceCtorEq]
      all_goals (try simp [sayA, faultS, sayOk, note0, wCs, cov, covs, subs, names, namess])
    · have e1 : (we != 0) = true := by simp [h1]
      rw [if_pos (by simp [h1])]
      have g1 := g1 we
      simp only [sayA, faultS] at g1
      simp (disch := omega) only [go_sem, Nat.reduceLeDiff, reduceCtorEq, Nat.reduceAdd, Nat.reduceSub, Nat.reduceMul, Nat.reduceLT, Nat.reduceEqDiff, Int.reduceEq, Int.reduceLE, Int.reduceLT, Int.reducePow, Int.reduceMul, Int.reduceToNat, Int.reduceNeg, ↓reduceIte, hD, hG', wrap64, e1, g1, keepLo, unbox, tmv, Option.some.injEq, exists_eq_left']
      refine ⟨[], [(60000, 60000)], rfl, rfl, ?_, ?_⟩ <;> simp only [go_sem, Nat.reduceEqDiff, resP, pinT, pin, here, Nat.reduceAdd, ↓reduceIte, reduceCtorEq]
      all_goals (try simp [sayA, faultS, sayOk, note0, wCs, cov, covs, subs, names, namess])
  · have e0 : (er != 0) = true := by simp [h0]
    have hk : keepS ⟨⟨q, qn⟩, ⟨lb, ls⟩, ⟨ts, tn⟩⟩ ⟨⟨xq, xn⟩, es, er⟩ = (⟨⟨q, qn⟩, ⟨lb, ls⟩, ⟨ts, tn⟩⟩, faultS er) := by
      unfold keepS
      rw [if_pos (by simpa using h0)]
    rw [hk]
    have g1 := g1 er
    simp only [sayA, faultS] at g1
    simp (disch := omega) only [go_sem, Nat.reduceLeDiff, reduceCtorEq, Nat.reduceAdd, Nat.reduceSub, Nat.reduceMul, Nat.reduceLT, Nat.reduceEqDiff, Int.reduceEq, Int.reduceLE, Int.reduceLT, Int.reducePow, Int.reduceMul, Int.reduceToNat, Int.reduceNeg, ↓reduceIte, hD, hG', wrap64, e0, g1, keepLo, unbox, tmv, Option.some.injEq, exists_eq_left']
    refine ⟨[], [(60000, 60000)], rfl, rfl, ?_, ?_⟩ <;> simp only [go_sem, Nat.reduceEqDiff, resP, pinT, pin, here, Nat.reduceAdd, ↓reduceIte, reduceCtorEq]
    all_goals (try simp [sayA, faultS, sayOk, note0, wCs, cov, covs, subs, names, namess])
end Go.Proofs.Ythbejciebmkclaa.Ab
namespace Go.Proofs.Ythbejciebmkclaa.Ab
open Go Go.RowKit
set_option linter.unusedVariables false
set_option linter.unusedSimpArgs false

def stakeS (w : LW) (nm : ByteArray) (now : Int) : LW × LSay × Int :=
  if 4 ≤ w.s.tags.length then (w, faultS 5, 0)
  else if (htakeS w.h nm now).2.2 = 9 then (w, say0, 9)
  else if (htakeS w.h nm now).2.2 ≠ 0 then (w, faultS (htakeS w.h nm now).2.2, 0)
  else (⟨(htakeS w.h nm now).1, w.l, ⟨w.s.tags ++ [⟨w.s.next + 1, nm, (htakeS w.h nm now).2.1.id, (htakeS w.h nm now).2.1.turn⟩], w.s.next + 1⟩⟩,
    ⟨2, w.s.next + 1, (htakeS w.h nm now).2.1.tries, 0, (htakeS w.h nm now).2.1.note⟩, 0)
def eSown : Ent Try.prog D := ⟨62, LSess, fun s => [sessA s], fun s => s.tags.length ≤ 16777216, fun s => ⟨.agg [.os 0, .int .i64 s.next], [(50, 4, s.tags.map tagRow)]⟩, fun x y _ _ h => by
  simp only [List.cons.injEq, and_true] at h
  rw [sessA_inj h], con_sown⟩
structure TakeX where
  w : LW
  nm : ByteArray
  now : Int
def takeArgs (x : TakeX) : List AV := [.ptr 60000 0, .str x.nm.data.toList, .int .i64 x.now]
def TakeOk (x : TakeX) : Prop := (x.w.h.Fits ∧ (∀ q ∈ x.w.h.queues, q.Ok) ∧ -1000000 ≤ x.now ∧ x.now ≤ 1000000) ∧ -1000000000000 ≤ x.w.s.next ∧ x.w.s.next ≤ 1000000000000
def takeV (x : TakeX) : AV := .tup [sayA (stakeS x.w x.nm x.now).2.1, .int .i64 (stakeS x.w x.nm x.now).2.2]
def stakeLo : Nat → Lo := fun id => match id with | 12 => {uo := [18, 22], un := [60000], kn := [4143], ex := [5, 10, 17]} | 13 => {uo := [10], un := [6]} | _ => {}
set_option maxRecDepth 100000 in
set_option maxHeartbeats 1000000 in
theorem pc_stake (x : TakeX) (hx : TakeOk x) : PC Try.prog D 110 (takeArgs x) (wBl x.w) (takeV x) (wBl (stakeS x.w x.nm x.now).1) := by
  have hok : GOk Try.prog D (tabG [eFault, eHtake, eSown]) := tabG_ok _
  have g1 := fun (e : Int) => tabG_use (T := [eFault, eHtake, eSown]) (E := eFault) (i := 0) rfl (by decide) (e) (trivial)
  have g2 := tabG_use (T := [eFault, eHtake, eSown]) (E := eHtake) (i := 1) rfl (by decide) ((x.w.h, x.nm, x.now)) (hx.1)
  have g3 := fun (h : x.w.s.tags.length ≤ 16777216) => tabG_use (T := [eFault, eHtake, eSown]) (E := eSown) (i := 2) rfl (by decide) (x.w.s) (h)
  generalize tabG [eFault, eHtake, eSown] = G at *
  dsimp only [eFault] at g1
  dsimp only [eHtake] at g2
  dsimp only [eSown] at g3
  obtain ⟨⟨⟨q, qn⟩, ⟨lb, ls⟩, ⟨ts, tn⟩⟩, nm, now⟩ := x
  obtain ⟨hx1, hx2⟩ := hx
  simp only at g2 g3 hx2
  refine pc_of (G := G) (rs := [(6, some 89), (7, none)]) MOk.none mixed tok hok [60000] Try.func110 rfl (by decide) Try.results110 (by decide) rfl (by decide) Try.ntmps110 (by simp [takeArgs]) (by simp [takeArgs, wBl, namess, names, keys])
    (closB_of (by simp [wBl, wCs, subs, namess, names])) (ndB_of (by simp [wBl, nd])) (ndB_of (by simp [wBl, nd])) (by simp [wBl, get]) (by simp [wBl, keys]) fun X hP hD hG' hX => evC_sound hX stakeLo _ _ _ ?_
  simp only [argP, num, pinT, pin, takeArgs, takeV, wBl, wCs]
  generalize hr : stakeS ⟨⟨q, qn⟩, ⟨lb, ls⟩, ⟨ts, tn⟩⟩ nm now = r
  unfold stakeS at hr
  simp only at hr
  by_cases h4 : 4 ≤ ts.length
  · have d4 : decide ((ts.length : Int) ≥ 4) = true := decide_eq_true (by omega)
    rw [if_pos h4] at hr
    subst hr
    have g1 := g1 5
    simp only [sayA, faultS] at g1
    simp (disch := omega) only [go_sem, Nat.reduceLeDiff, reduceCtorEq, Nat.reduceAdd, Nat.reduceSub, Nat.reduceMul, Nat.reduceLT, Nat.reduceEqDiff, Int.reduceEq, Int.reduceLE, Int.reduceLT, Int.reducePow, Int.reduceMul, Int.reduceToNat, Int.reduceNeg, ↓reduceIte, hD, hG', wrap64, d4, g1, stakeLo, unbox, tmv, Option.some.injEq, exists_eq_left']
    refine ⟨[], [(60000, 60000)], rfl, rfl, ?_, ?_⟩ <;> simp only [go_sem, Nat.reduceEqDiff, resP, pinT, pin, here, Nat.reduceAdd, ↓reduceIte, reduceCtorEq]
    all_goals (try simp [sayA, faultS, note0, wCs, cov, covs, subs, names, namess])
  have d4 : decide ((ts.length : Int) ≥ 4) = false := decide_eq_false (by omega)
  rw [if_neg h4] at hr
  generalize htakeS ⟨q, qn⟩ nm now = T at *
  obtain ⟨⟨xq, xn⟩, ⟨i1, i2, i3, i4, i5, ⟨i6, i7⟩⟩, e⟩ := T
  simp only [hallA, itemA, itemRow, sessA, sessCs] at g2 g3 hr
  by_cases h9 : e = 9
  · have e0 : (e == 0) = false := by simp [h9]
    have e9 : (e == 9) = true := by simp [h9]
    rw [if_pos h9] at hr
    subst hr
    simp (disch := omega) only [go_sem, Nat.reduceLeDiff, reduceCtorEq, Nat.reduceAdd, Nat.reduceSub, Nat.reduceMul, Nat.reduceLT, Nat.reduceEqDiff, Int.reduceEq, Int.reduceLE, Int.reduceLT, Int.reducePow, Int.reduceMul, Int.reduceToNat, Int.reduceNeg, ↓reduceIte, hD, hG', wrap64, d4, g2, e0, e9, stakeLo, unbox, tmv, Option.some.injEq, exists_eq_left']
    refine ⟨[], [(60000, 60000)], rfl, rfl, ?_, ?_⟩ <;> simp only [go_sem, Nat.reduceEqDiff, resP, pinT, pin, here, Nat.reduceAdd, ↓reduceIte, reduceCtorEq]
    all_goals (try simp [sayA, say0, note0, wCs, cov, covs, subs, names, namess])
  rw [if_neg h9] at hr
  by_cases h0 : e = 0
  · have e0 : (e == 0) = true := by simp [h0]
    rw [if_neg (by simp [h0])] at hr
    subst hr
    have g3 := g3 (by omega)
    simp (disch := omega) only [go_sem, Nat.reduceLeDiff, reduceCtorEq, Nat.reduceAdd, Nat.reduceSub, Nat.reduceMul, Nat.reduceLT, Nat.reduceEqDiff, Int.reduceEq, Int.reduceLE, Int.reduceLT, Int.reducePow, Int.reduceMul, Int.reduceToNat, Int.reduceNeg, ↓reduceIte, hD, hG', wrap64, d4, g2, g3, e0, stakeLo, unbox, tmv, Option.some.injEq, exists_eq_left']
    (repeat (with_reducible refine And.intro (by first | omega | decide | (simp; done) | (simp only [List.length_append, List.length_cons, List.length_nil, List.length_map]; omega)) ?_))
    refine ⟨[77], [(60000, 60000)], rfl, rfl, ?_, ?_⟩ <;> simp only [go_sem, Nat.reduceEqDiff, resP, pinT, pin, here, Nat.reduceAdd, ↓reduceIte, reduceCtorEq]
    all_goals (try simp [sayA, note0, wCs, tagRow, cov, covs, subs, names, namess])
  · have e0 : (e == 0) = false := by simp [h0]
    have e9 : (e == 9) = false := by simp [h9]
    rw [if_pos (by simpa using h0)] at hr
    subst hr
    have g1 := g1 e
    simp only [sayA, faultS] at g1
    simp (disch := omega) only [go_sem, Nat.reduceLeDiff, reduceCtorEq, Nat.reduceAdd, Nat.reduceSub, Nat.reduceMul, Nat.reduceLT, Nat.reduceEqDiff, Int.reduceEq, Int.reduceLE, Int.reduceLT, Int.reducePow, Int.reduceMul, Int.reduceToNat, Int.reduceNeg, ↓reduceIte, hD, hG', wrap64, d4, g1, g2, e0, e9, stakeLo, unbox, tmv, Option.some.injEq, exists_eq_left']
    refine ⟨[], [(60000, 60000)], rfl, rfl, ?_, ?_⟩ <;> simp only [go_sem, Nat.reduceEqDiff, resP, pinT, pin, here, Nat.reduceAdd, ↓reduceIte, reduceCtorEq]
    all_goals (try simp [sayA, faultS, note0, wCs, cov, covs, subs, names, namess])
end Go.Proofs.Ythbejciebmkclaa.Ab
namespace Go.Proofs.Ythbejciebmkclaa.Ab
open Go Go.RowKit
set_option linter.unusedVariables false
set_option linter.unusedSimpArgs false

theorem keepM_inj {x y : LW} {f g : Nat → Nat} {b : Option Blk} (h1 : b = some (renBl f (.cells (wCs x)))) (h2 : b = some (renBl g (.cells (wCs y)))) : x = y := by
  rw [h1] at h2
  have h2 := Option.some.inj h2
  refine wCs_inj ?_
  simpa [renBl, wCs, renFs, renF] using h2
def eKeep : PEnt Try.prog D where
  f := 109
  X := KeepX
  np := 1
  args := keepArgs
  bl0 := fun x => wBl x.1
  v0 := fun x => sayA (keepS x.1 x.2).2
  bl1 := fun x => wBl (keepS x.1 x.2).1
  ok := KeepOk
  k0 := fun x n h => by simp [wBl, keys] at h; omega
  k1 := fun x n h => by simp [wBl, keys] at h ⊢; omega
  nd := fun x => by simp [wBl, keys]
  inj := fun x y dn aa bs bl _ _ h1 h2 h hb1 hb2 => by
    obtain ⟨a, rfl⟩ : ∃ a, aa = [a] := List.length_eq_one_iff.1 h1
    obtain ⟨b, rfl⟩ : ∃ b, bs = [b] := List.length_eq_one_iff.1 h2
    obtain ⟨w, ⟨⟨q, nx⟩, es, e⟩⟩ := x
    obtain ⟨w', ⟨⟨q', nx'⟩, es', e'⟩⟩ := y
    simp only [keepArgs, hallCs, entriesA, renFs, renF, List.cons.injEq, AV.agg.injEq, AV.sl.injEq, AV.int.injEq, AV.ptr.injEq, true_and, and_true] at h
    obtain ⟨r3, ⟨r1, rfl⟩, r2, rfl⟩ := h
    have r1 := queues_inj r1
    have r2 := entries_inj r2
    subst r1 r2
    have r3 : a = b := by simpa [mkAct] using r3
    subst r3
    have hw : w = w' := keepM_inj (hb1 60000 _ (by simp [wBl, get])) (hb2 60000 _ (by simp [wBl, get]))
    rw [hw]
  con := fun x h => pc_keep x h
noncomputable def keepM : MCtr := pcM [eKeep]
theorem keepM_ok {G : Ctr} : MOk Try.prog D G keepM := mok_pc
open Classical in
theorem keepM_1 {w : LW} {r : Res4} (hx : KeepOk (w, r)) (n dn : Nat) (bl : Nat → Option Blk) :
    keepM dn 109 [.ptr n 0, .agg (hallCs r.1), entriesA r.2.1, .int .i64 r.2.2] bl =
      if bl n = some (.cells (wCs w)) then some { v := sayA (keepS w r).2, up := [(n, .cells (wCs (keepS w r).1))] }
      else keepM dn 109 [.ptr n 0, .agg (hallCs r.1), entriesA r.2.1, .int .i64 r.2.2] bl := by
  split
  · rename_i h
    have := pcM_use (T := [eKeep]) (E := eKeep) (i := 0) rfl (by decide) (w, r) hx [n] rfl (by simp) (args := [.ptr n 0, .agg (hallCs r.1), entriesA r.2.1, .int .i64 r.2.2]) (dn := dn) (bl := bl) (by simp [eKeep, keepArgs, renFs, renF, hallCs, entriesA, mkAct]) (fun k z hz => by
      simp only [eKeep, wBl, get] at hz
      split at hz
      · rename_i q; cases hz; subst q; simpa [mkAct, renBl, renFs, renF, wCs] using h
      · cases hz)
    refine Eq.trans this ?_
    simp [eKeep, pcE, wBl, mkAct, wCs, sayA, renFs, renF, renBl, pcU, pcN, pcK, keys, mem]
  · rfl
def tagged (n : Int) (t : LTag) : Bool := t.n == n
theorem names_tagRow (t : LTag) : namess (tagRow t) = [] := by simp [tagRow, names, namess]
attribute [simp] names_tagRow
def findT (l : List LTag) (n : Int) : Int := placeG (tagged n) l 0
theorem con_tag1 (t : LTag) (n : Int) : Con Try.prog D 132 [.agg (tagRow t), .iptr [.int .i64 n]] ⟨.bool (tagged n t), []⟩ := by
  have hok : GOk Try.prog D (tabG []) := tabG_ok _
  generalize tabG [] = G at *
  obtain ⟨t1, t2, t3, t4⟩ := t
  refine conW (G := G) (rs := [(3, none)]) hok Try.func132 Try.results132 Try.ntmps132 (fun _ => {}) fun X hP hD hG' hX => ?_
  simp only [argS, num, tagRow]
  simp (disch := omega) only [go_sem, Nat.reduceLeDiff, reduceCtorEq, Nat.reduceAdd, Nat.reduceSub, Nat.reduceMul, Nat.reduceLT, Nat.reduceEqDiff, Int.reduceEq, Int.reduceLE, Int.reduceLT, Int.reducePow, Int.reduceMul, Int.reduceToNat, Int.reduceNeg, ↓reduceIte, hD, hG', wrap64, unbox, tmv, Option.some.injEq, exists_eq_left']
  refine endW [] [] (by simp) rfl rfl rfl ?_ ?_ <;> simp only [go_sem, Nat.reduceEqDiff]
  simp [tagged]
def eTag1 : Ent Try.prog D := ⟨132, LTag × Int, fun x => [.agg (tagRow x.1), .iptr [.int .i64 x.2]], fun _ => True, fun x => ⟨.bool (tagged x.2 x.1), []⟩, fun x y _ _ h => by
  simp only [List.cons.injEq, AV.agg.injEq, AV.iptr.injEq, AV.int.injEq, true_and, and_true] at h
  rw [tagRow_inj h.1, h.2], fun x _ => con_tag1 x.1 x.2⟩
theorem con_indextag (l : List LTag) (n : Int) (hl : l.length ≤ 16777216) : Con Try.prog D 131 [.sl 4 (l.map tagRow), .func 132 [.iptr [.int .i64 n]]] ⟨.int .i64 (findT l n), []⟩ := by
  have hok : GOk Try.prog D (tabG [eTag1]) := tabG_ok _
  have g1 := fun (t : LTag) => tabG_use (T := [eTag1]) (E := eTag1) (i := 0) rfl (by decide) ((t, n)) (trivial)
  generalize tabG [eTag1] = G at *
  dsimp only [eTag1] at g1
  have hcon : ∀ r, r = findT l n → Con Try.prog D 131 [.sl 4 (l.map tagRow), .func 132 [.iptr [.int .i64 n]]] ⟨.int .i64 r, []⟩ := by
    intro r hr
    unfold findT at hr
    refine conW (G := G) (rs := [(4, none)]) hok Try.func131 Try.results131 Try.ntmps131 (fun _ => {}) fun X hP hD hG' hX => ?_
    simp only [argS, num]
    simp (disch := omega) only [go_sem, Nat.reduceLeDiff, reduceCtorEq, Nat.reduceAdd, Nat.reduceSub, Nat.reduceMul, Nat.reduceLT, Nat.reduceEqDiff, Int.reduceEq, Int.reduceLE, Int.reduceLT, Int.reducePow, Int.reduceMul, Int.reduceToNat, Int.reduceNeg, ↓reduceIte, hD, hG', wrap64, unbox, tmv, Option.some.injEq, exists_eq_left']
    refine Tr.loop (ι := Nat) (fun i => i ≤ l.length ∧ ∀ j, j < i → tagged n (l.getD j tag0) = false) (fun i => { nt := 19, tm := [(0, .sl 4 (l.map tagRow)), (1, .func 132 [.iptr [.int .i64 n]]), (7, .int .i64 l.length), (8, .int .i64 i)], bl := [] }) (fun i => l.length - i) 0
      ⟨⟨Nat.zero_le _, fun j hj => absurd hj (Nat.not_lt_zero j)⟩, wk_of hD [] rfl rfl (by simp only [go_sem, Nat.reduceEqDiff]; simp) (by simp only [go_sem, Nat.reduceEqDiff])⟩ ?_
    rintro i ⟨hi, hnot⟩
    refine evC_sound hX (fun _ => {}) _ _ _ ?_
    simp (disch := omega) only [go_sem, Nat.reduceLeDiff, reduceCtorEq, Nat.reduceAdd, Nat.reduceSub, Nat.reduceMul, Nat.reduceLT, Nat.reduceEqDiff, Int.reduceEq, Int.reduceLE, Int.reduceLT, Int.reducePow, Int.reduceMul, Int.reduceToNat, Int.reduceNeg, ↓reduceIte, hD, hG', wrap64, unbox, tmv, Option.some.injEq, exists_eq_left']
    refine condK_split (fun h => ?_) (fun h => ?_)
    · rw [decide_eq_true_eq] at h
      have hi1 : i < l.length := by omega
      have hgx := tagGet hi1
      have hit : ∀ x, l.getD i tag0 = x → tagged n x = true → r = (i : Int) := fun x hx hp => by
        rw [hr, placeG_hit hi1 hnot (by rw [hx]; exact hp)]
        omega
      generalize hx : l.getD i tag0 = x at *
      have hit := hit x rfl
      have g1 := g1 x
      obtain ⟨t1, t2, t3, t4⟩ := x
      simp only [tagRow] at hgx g1
      cases hp : tagged n ⟨t1, t2, t3, t4⟩
      · simp (disch := omega) only [go_sem, Nat.reduceLeDiff, reduceCtorEq, Nat.reduceAdd, Nat.reduceSub, Nat.reduceMul, Nat.reduceLT, Nat.reduceEqDiff, Int.reduceEq, Int.reduceLE, Int.reduceLT, Int.reducePow, Int.reduceMul, Int.reduceToNat, Int.reduceNeg, ↓reduceIte, hD, hG', wrap64, hgx, g1, hp, unbox, tmv, Option.some.injEq, exists_eq_left']
        refine ⟨by omega, i + 1, ⟨⟨by omega, fun j hj => ?_⟩, by omega⟩, wk_of hD [] rfl rfl ?_ ?_⟩
        · by_cases hji : j = i
          · rw [hji, hx]; exact hp
          · exact hnot j (by omega)
        all_goals simp only [go_sem, Nat.reduceEqDiff]
        simp
      · simp (disch := omega) only [go_sem, Nat.reduceLeDiff, reduceCtorEq, Nat.reduceAdd, Nat.reduceSub, Nat.reduceMul, Nat.reduceLT, Nat.reduceEqDiff, Int.reduceEq, Int.reduceLE, Int.reduceLT, Int.reducePow, Int.reduceMul, Int.reduceToNat, Int.reduceNeg, ↓reduceIte, hD, hG', wrap64, hgx, g1, hp, unbox, tmv, Option.some.injEq, exists_eq_left']
        refine ⟨by omega, ?_⟩
        refine endW [] [] (by simp) rfl rfl rfl ?_ ?_ <;> simp only [go_sem, Nat.reduceEqDiff]
        rw [hit hp]
    · rw [decide_eq_false_iff_not] at h
      have hie : i = l.length := by omega
      subst hie
      simp (disch := omega) only [go_sem, Nat.reduceLeDiff, reduceCtorEq, Nat.reduceAdd, Nat.reduceSub, Nat.reduceMul, Nat.reduceLT, Nat.reduceEqDiff, Int.reduceEq, Int.reduceLE, Int.reduceLT, Int.reducePow, Int.reduceMul, Int.reduceToNat, Int.reduceNeg, ↓reduceIte, hD, hG', wrap64, unbox, tmv, Option.some.injEq, exists_eq_left']
      refine endW [] [] (by simp) rfl rfl rfl ?_ ?_ <;> simp only [go_sem, Nat.reduceEqDiff]
      rw [hr, placeG_miss hnot]
  exact hcon _ rfl
def eIndextag : Ent Try.prog D := ⟨131, List LTag × Int, fun x => [.sl 4 (x.1.map tagRow), .func 132 [.iptr [.int .i64 x.2]]], fun x => x.1.length ≤ 16777216, fun x => ⟨.int .i64 (findT x.1 x.2), []⟩, fun x y _ _ h => by
  simp only [List.cons.injEq, AV.sl.injEq, AV.func.injEq, AV.iptr.injEq, AV.int.injEq, true_and, and_true] at h
  rw [tags_inj h.1, h.2], fun x h => con_indextag x.1 x.2 h⟩
theorem findT_range {l : List LTag} {n : Int} : findT l n = -1 ∨ (0 ≤ findT l n ∧ findT l n < l.length) := placeG_range
def stagS (w : LW) (n : Int) (back : Bool) : LW × LSay :=
  if findT w.s.tags n < 0 then (w, faultS 6)
  else
    let t := w.s.tags.getD (findT w.s.tags n).toNat tag0
    let K := keepS w (if back = true then hbackS w.h t else hdoneS w.h t)
    if K.2.err ≠ 8 then (⟨K.1.h, K.1.l, ⟨w.s.tags.eraseIdx (findT w.s.tags n).toNat, w.s.next⟩⟩, K.2) else K
structure TagX where
  w : LW
  n : Int
  back : Bool
def tagArgs (x : TagX) : List AV := [.ptr 60000 0, .int .i64 x.n, .bool x.back]
def TagOk (x : TagX) : Prop := (x.w.h.Fits ∧ HallIn x.w.h) ∧ x.w.s.tags.length ≤ 1048576 ∧ ∀ t ∈ x.w.s.tags, KeepOk (x.w, hdoneS x.w.h t) ∧ KeepOk (x.w, hbackS x.w.h t)
noncomputable def tagMM : MCtr := elseM deleteMT keepM
theorem keepS_s {w : LW} {r : Res4} : (keepS w r).1.s = w.s := by
  unfold keepS
  split
  · rfl
  · split <;> rfl
def stagLo : Nat → Lo := fun id => match id with | 1 => {hand := true} | 8 => {uo := [11], un := [60000], ex := [5], uo2 := [13], un2 := [10], ex2 := [12]} | _ => {}
set_option maxRecDepth 100000 in
set_option maxHeartbeats 2000000 in
theorem pc_stag (x : TagX) (hx : TagOk x) : PC Try.prog D 111 (tagArgs x) (wBl x.w) (sayA (stagS x.w x.n x.back).2) (wBl (stagS x.w x.n x.back).1) := by
  have hok : GOk Try.prog D (tabG [eFault, eIndextag, eHdone, eHback, eSown]) := tabG_ok _
  have g1 := fun (e : Int) => tabG_use (T := [eFault, eIndextag, eHdone, eHback, eSown]) (E := eFault) (i := 0) rfl (by decide) (e) (trivial)
  have g2 := tabG_use (T := [eFault, eIndextag, eHdone, eHback, eSown]) (E := eIndextag) (i := 1) rfl (by decide) ((x.w.s.tags, x.n)) (by have := hx.2.1; show x.w.s.tags.length ≤ 16777216; omega)
  have g3 := fun (t : LTag) => tabG_use (T := [eFault, eIndextag, eHdone, eHback, eSown]) (E := eHdone) (i := 2) rfl (by decide) ((x.w.h, t)) (hx.1.1)
  have g4 := fun (t : LTag) => tabG_use (T := [eFault, eIndextag, eHdone, eHback, eSown]) (E := eHback) (i := 3) rfl (by decide) ((x.w.h, t)) (hx.1.2)
  have g5 := fun (s : LSess) (h : s.tags.length ≤ 16777216) => tabG_use (T := [eFault, eIndextag, eHdone, eHback, eSown]) (E := eSown) (i := 4) rfl (by decide) (s) (h)
  have gd : ∀ a, tabG ([eFault, eIndextag, eHdone, eHback, eSown] : List (Ent Try.prog D)) 133 a = none := fun a => rfl
  have gk : ∀ a, tabG ([eFault, eIndextag, eHdone, eHback, eSown] : List (Ent Try.prog D)) 109 a = none := fun a => rfl
  generalize tabG [eFault, eIndextag, eHdone, eHback, eSown] = G at *
  dsimp only [eFault] at g1
  dsimp only [eIndextag] at g2
  dsimp only [eHdone] at g3
  dsimp only [eHback] at g4
  dsimp only [eSown] at g5
  obtain ⟨⟨⟨q, qn⟩, ⟨lb, ls⟩, ⟨ts, tn⟩⟩, n, back⟩ := x
  obtain ⟨hx1, hx2, hx3⟩ := hx
  simp only at g2 g3 g4 hx2 hx3
  refine pc_of (G := G) (M := tagMM) (rs := [(6, some 89)]) (mok_else mok_deleteT keepM_ok) mixed tok hok [60000] Try.func111 rfl (by decide) Try.results111 (by decide) rfl (by decide) Try.ntmps111 (by simp [tagArgs]) (by simp [tagArgs, wBl, namess, names, keys])
    (closB_of (by simp [wBl, wCs, subs, namess, names])) (ndB_of (by simp [wBl, nd])) (ndB_of (by simp [wBl, nd])) (by simp [wBl, get]) (by simp [wBl, keys]) fun X hP hD hG' hX => evC_sound hX stagLo _ _ _ ?_
  simp only [argP, num, pinT, pin, tagArgs, wBl, wCs]
  generalize hr : stagS ⟨⟨q, qn⟩, ⟨lb, ls⟩, ⟨ts, tn⟩⟩ n back = r
  unfold stagS at hr
  simp only at hr
  have hfr := @findT_range ts n
  simp (disch := omega) only [go_sem, Nat.reduceLeDiff, reduceCtorEq, Nat.reduceAdd, Nat.reduceSub, Nat.reduceMul, Nat.reduceLT, Nat.reduceEqDiff, Int.reduceEq, Int.reduceLE, Int.reduceLT, Int.reducePow, Int.reduceMul, Int.reduceToNat, Int.reduceNeg, ↓reduceIte, hD, hG', wrap64, stagLo, unbox, tmv, Option.some.injEq, exists_eq_left']
  refine Tr.wk (Wk.ice 4 (cs := [.int .i64 n]) (by rfl) rfl) (evC_sound hX (fun _ => {}) _ _ _ ?_)
  generalize findT ts n = k at *
  by_cases hk : k < 0
  · have d0 : decide (k < 0) = true := decide_eq_true hk
    rw [if_pos hk] at hr
    subst hr
    have g1 := g1 6
    simp only [sayA, faultS] at g1
    simp (disch := omega) only [go_sem, Nat.reduceLeDiff, reduceCtorEq, Nat.reduceAdd, Nat.reduceSub, Nat.reduceMul, Nat.reduceLT, Nat.reduceEqDiff, Int.reduceEq, Int.reduceLE, Int.reduceLT, Int.reducePow, Int.reduceMul, Int.reduceToNat, Int.reduceNeg, ↓reduceIte, hD, hG', wrap64, g1, g2, d0, stagLo, unbox, tmv, Option.some.injEq, exists_eq_left']
    refine ⟨[], [(60000, 60000)], rfl, rfl, ?_, ?_⟩ <;> simp only [go_sem, Nat.reduceEqDiff, resP, pinT, pin, here, Nat.reduceAdd, ↓reduceIte, reduceCtorEq]
    all_goals (try simp [sayA, faultS, note0, wCs, cov, covs, subs, names, namess])
  have d0 : decide (k < 0) = false := decide_eq_false hk
  obtain ⟨kn, rfl⟩ := Int.eq_ofNat_of_zero_le (by omega : 0 ≤ k)
  have hkl : kn < ts.length := by omega
  rw [if_neg hk] at hr
  have hgx := tagGet hkl
  have hx3 := hx3 _ (getD_mem (d := tag0) hkl)
  have g3 := g3 (ts.getD kn tag0)
  have g4 := g4 (ts.getD kn tag0)
  simp only [Int.toNat_natCast] at hr
  have hgl : (kn : Int) < (ts.length : Int) := by omega
  generalize ts.getD kn tag0 = t at *
  have g5 := g5 ⟨ts, tn⟩ (by show ts.length ≤ 16777216; omega)
  have key : ∀ R : Res4, R = (if back = true then hbackS ⟨q, qn⟩ t else hdoneS ⟨q, qn⟩ t) → KeepOk (⟨⟨q, qn⟩, ⟨lb, ls⟩, ⟨ts, tn⟩⟩, R) := fun R h => by
    subst h
    cases back
    · exact hx3.1
    · exact hx3.2
  generalize hR : (if back = true then hbackS ⟨q, qn⟩ t else hdoneS ⟨q, qn⟩ t) = R at *
  have c1 := keepM_1 (key R rfl)
  have hs := @keepS_s ⟨⟨q, qn⟩, ⟨lb, ls⟩, ⟨ts, tn⟩⟩ R
  generalize keepS ⟨⟨q, qn⟩, ⟨lb, ls⟩, ⟨ts, tn⟩⟩ R = K at *
  obtain ⟨⟨⟨kq, kqn⟩, ⟨klb, kls⟩, ⟨kts, ktn⟩⟩, ⟨s1, s2, s3, s4, ⟨s5, s6⟩⟩⟩ := K
  simp only [LSess.mk.injEq] at hs
  obtain ⟨rfl, rfl⟩ := hs
  have gR : (if back = true then G 49 [hallA ⟨q, qn⟩, tagA t] else G 48 [hallA ⟨q, qn⟩, tagA t]) = some ⟨hres R, []⟩ := by
    rw [← hR]
    cases back
    · exact g3
    · exact g4
  clear g3 g4 hR key hx3
  obtain ⟨⟨rq, rx⟩, re, rr⟩ := R
  obtain ⟨t1, t2, t3, t4⟩ := t
  simp only [hres, hallA, hallCs, entriesA, tagA, tagRow, sessA, sessCs, sayA, wCs] at gR g5 hgx c1
  simp only at hr
  cases back
  all_goals simp only [Bool.false_eq_true, if_false, if_true] at gR
  all_goals (
    by_cases h8 : s4 = 8)
  all_goals (first
    | (have e8 : (s4 != 8) = false := by simp [h8]
       rw [if_neg (by simp [h8])] at hr)
    | (have e8 : (s4 != 8) = true := by simp [h8]
       rw [if_pos (by simp [h8])] at hr))
  all_goals subst hr
  all_goals (
    simp (disch := omega) only [go_sem, Nat.reduceLeDiff, reduceCtorEq, Nat.reduceAdd, Nat.reduceSub, Nat.reduceMul, Nat.reduceLT, Nat.reduceEqDiff, Int.reduceEq, Int.reduceLE, Int.reduceLT, Int.reducePow, Int.reduceMul, Int.reduceToNat, Int.reduceNeg, ↓reduceIte, hD, hG', wrap64, g2, d0, hgx, hgl, gR, g5, c1, gk, gd, e8, stagLo, tagMM, elseM_at, deleteMT, unbox, tmv, Option.some.injEq, exists_eq_left'])
  all_goals (repeat (with_reducible refine And.intro (by first | omega | decide | (simp; done) | (simp only [List.length_append, List.length_cons, List.length_nil, List.length_map]; omega)) ?_))
  all_goals (first
    | (refine ⟨[], [(60000, 60000)], rfl, rfl, ?_, ?_⟩ <;> simp only [go_sem, Nat.reduceEqDiff, resP, pinT, pin, here, Nat.reduceAdd, ↓reduceIte, reduceCtorEq] <;> (try simp [sayA, wCs, cov, covs, subs, names, namess]); done)
    | (refine ⟨[62], [(60000, 60000)], rfl, rfl, ?_, ?_⟩ <;> simp only [go_sem, Nat.reduceEqDiff, resP, pinT, pin, here, Nat.reduceAdd, ↓reduceIte, reduceCtorEq] <;> (try simp [sayA, wCs, erase_map, cov, covs, subs, names, namess])))
end Go.Proofs.Ythbejciebmkclaa.Ab
namespace Go.Proofs.Ythbejciebmkclaa.Ab
open Go Go.RowKit
set_option linter.unusedVariables false
set_option linter.unusedSimpArgs false

def eStake : PEnt Try.prog D where
  f := 110
  X := TakeX
  np := 1
  args := takeArgs
  bl0 := fun x => wBl x.w
  v0 := takeV
  bl1 := fun x => wBl (stakeS x.w x.nm x.now).1
  ok := TakeOk
  k0 := fun x n h => by simp [wBl, keys] at h; omega
  k1 := fun x n h => by simp [wBl, keys] at h ⊢; omega
  nd := fun x => by simp [wBl, keys]
  inj := fun x y dn aa bs bl _ _ h1 h2 h hb1 hb2 => by
    obtain ⟨a, rfl⟩ : ∃ a, aa = [a] := List.length_eq_one_iff.1 h1
    obtain ⟨b, rfl⟩ : ∃ b, bs = [b] := List.length_eq_one_iff.1 h2
    obtain ⟨w, nm, now⟩ := x
    obtain ⟨w', nm', now'⟩ := y
    simp only [takeArgs, renFs, renF, List.cons.injEq, AV.str.injEq, AV.int.injEq, AV.ptr.injEq, true_and, and_true] at h
    obtain ⟨r3, r1, rfl⟩ := h
    have r1 := bytes_ext r1
    subst r1
    have r3 : a = b := by simpa [mkAct] using r3
    subst r3
    have hw : w = w' := keepM_inj (hb1 60000 _ (by simp [wBl, get])) (hb2 60000 _ (by simp [wBl, get]))
    rw [hw]
  con := fun x h => pc_stake x h
def eStag : PEnt Try.prog D where
  f := 111
  X := TagX
  np := 1
  args := tagArgs
  bl0 := fun x => wBl x.w
  v0 := fun x => sayA (stagS x.w x.n x.back).2
  bl1 := fun x => wBl (stagS x.w x.n x.back).1
  ok := TagOk
  k0 := fun x n h => by simp [wBl, keys] at h; omega
  k1 := fun x n h => by simp [wBl, keys] at h ⊢; omega
  nd := fun x => by simp [wBl, keys]
  inj := fun x y dn aa bs bl _ _ h1 h2 h hb1 hb2 => by
    obtain ⟨a, rfl⟩ : ∃ a, aa = [a] := List.length_eq_one_iff.1 h1
    obtain ⟨b, rfl⟩ : ∃ b, bs = [b] := List.length_eq_one_iff.1 h2
    obtain ⟨w, n, k⟩ := x
    obtain ⟨w', n', k'⟩ := y
    simp only [tagArgs, renFs, renF, List.cons.injEq, AV.bool.injEq, AV.int.injEq, AV.ptr.injEq, true_and, and_true] at h
    obtain ⟨r3, rfl, rfl⟩ := h
    have r3 : a = b := by simpa [mkAct] using r3
    subst r3
    have hw : w = w' := keepM_inj (hb1 60000 _ (by simp [wBl, get])) (hb2 60000 _ (by simp [wBl, get]))
    rw [hw]
  con := fun x h => pc_stag x h
noncomputable def doM : MCtr := pcM [eKeep, eStake, eStag]
theorem doM_ok {G : Ctr} : MOk Try.prog D G doM := mok_pc
open Classical in
theorem doM_1 {w : LW} {r : Res4} (hx : KeepOk (w, r)) (n dn : Nat) (bl : Nat → Option Blk) :
    doM dn 109 [.ptr n 0, .agg (hallCs r.1), entriesA r.2.1, .int .i64 r.2.2] bl =
      if bl n = some (.cells (wCs w)) then some { v := sayA (keepS w r).2, up := [(n, .cells (wCs (keepS w r).1))] }
      else doM dn 109 [.ptr n 0, .agg (hallCs r.1), entriesA r.2.1, .int .i64 r.2.2] bl := by
  split
  · rename_i h
    have := pcM_use (T := [eKeep, eStake, eStag]) (E := eKeep) (i := 0) rfl (by decide) (w, r) hx [n] rfl (by simp) (args := [.ptr n 0, .agg (hallCs r.1), entriesA r.2.1, .int .i64 r.2.2]) (dn := dn) (bl := bl) (by simp [eKeep, keepArgs, renFs, renF, hallCs, entriesA, mkAct]) (fun k z hz => by
      simp only [eKeep, wBl, get] at hz
      split at hz
      · rename_i q; cases hz; subst q; simpa [mkAct, renBl, renFs, renF, wCs] using h
      · cases hz)
    refine Eq.trans this ?_
    simp [eKeep, pcE, wBl, mkAct, wCs, sayA, keepArgs, renFs, renF, renBl, pcU, pcN, pcK, keys, mem]
  · rfl
open Classical in
theorem doM_2 {w : LW} {nm : ByteArray} {now : Int} (hx : TakeOk ⟨w, nm, now⟩) (n dn : Nat) (bl : Nat → Option Blk) :
    doM dn 110 [.ptr n 0, .str nm.data.toList, .int .i64 now] bl =
      if bl n = some (.cells (wCs w)) then some { v := .tup [sayA (stakeS w nm now).2.1, .int .i64 (stakeS w nm now).2.2], up := [(n, .cells (wCs (stakeS w nm now).1))] }
      else doM dn 110 [.ptr n 0, .str nm.data.toList, .int .i64 now] bl := by
  split
  · rename_i h
    have := pcM_use (T := [eKeep, eStake, eStag]) (E := eStake) (i := 1) rfl (by decide) ⟨w, nm, now⟩ hx [n] rfl (by simp) (args := [.ptr n 0, .str nm.data.toList, .int .i64 now]) (dn := dn) (bl := bl) (by simp [eStake, takeArgs, takeV, renFs, renF, hallCs, entriesA, mkAct]) (fun k z hz => by
      simp only [eStake, wBl, get] at hz
      split at hz
      · rename_i q; cases hz; subst q; simpa [mkAct, renBl, renFs, renF, wCs] using h
      · cases hz)
    refine Eq.trans this ?_
    simp [eStake, pcE, wBl, mkAct, wCs, sayA, takeArgs, takeV, renFs, renF, renBl, pcU, pcN, pcK, keys, mem]
  · rfl
open Classical in
theorem doM_3 {w : LW} {k : Int} {back : Bool} (hx : TagOk ⟨w, k, back⟩) (n dn : Nat) (bl : Nat → Option Blk) :
    doM dn 111 [.ptr n 0, .int .i64 k, .bool back] bl =
      if bl n = some (.cells (wCs w)) then some { v := sayA (stagS w k back).2, up := [(n, .cells (wCs (stagS w k back).1))] }
      else doM dn 111 [.ptr n 0, .int .i64 k, .bool back] bl := by
  split
  · rename_i h
    have := pcM_use (T := [eKeep, eStake, eStag]) (E := eStag) (i := 2) rfl (by decide) ⟨w, k, back⟩ hx [n] rfl (by simp) (args := [.ptr n 0, .int .i64 k, .bool back]) (dn := dn) (bl := bl) (by simp [eStag, tagArgs, renFs, renF, hallCs, entriesA, mkAct]) (fun k z hz => by
      simp only [eStag, wBl, get] at hz
      split at hz
      · rename_i q; cases hz; subst q; simpa [mkAct, renBl, renFs, renF, wCs] using h
      · cases hz)
    refine Eq.trans this ?_
    simp [eStag, pcE, wBl, mkAct, wCs, sayA, tagArgs, renFs, renF, renBl, pcU, pcN, pcK, keys, mem]
  · rfl
end Go.Proofs.Ythbejciebmkclaa.Ab
namespace Go.Proofs.Ythbejciebmkclaa.Ab
open Go Go.RowKit
set_option linter.unusedVariables false
set_option linter.unusedSimpArgs false

def sayNone : LSay := ⟨3, 0, 0, 0, note0⟩
def doS (w : LW) (a : LAsk) (now : Int) : LW × LSay × Bool :=
  if wrongAskS a ≠ 0 then (w, faultS (wrongAskS a), false)
  else if a.kind = 2 then ((keepS w (makeS w.h a.queue a.n)).1, (keepS w (makeS w.h a.queue a.n)).2, false)
  else if a.kind = 3 then ((keepS w (dropS w.h a.queue)).1, (keepS w (dropS w.h a.queue)).2, false)
  else if a.kind = 4 then ((keepS w (hputS w.h a.queue a.note)).1, (keepS w (hputS w.h a.queue a.note)).2, false)
  else if a.kind = 9 then ((keepS w (hpurgeS w.h a.queue)).1, (keepS w (hpurgeS w.h a.queue)).2, false)
  else if a.kind = 5 ∨ a.kind = 6 then
    if (stakeS w a.queue now).2.2 = 9 then (if a.kind = 6 then (w, say0, true) else ((stakeS w a.queue now).1, sayNone, false))
    else ((stakeS w a.queue now).1, (stakeS w a.queue now).2.1, false)
  else if a.kind = 7 ∨ a.kind = 8 then ((stagS w a.n (a.kind == 8)).1, (stagS w a.n (a.kind == 8)).2, false)
  else (w, sayOk, false)
structure DoOk (w : LW) (a : LAsk) (now : Int) : Prop where
  f : w.h.Fits
  q : a.queue.size ≤ 1048576
  n : a.note.Fits
  x : -1000000000 ≤ w.h.next ∧ w.h.next ≤ 1000000000
  t : TakeOk ⟨w, a.queue, now⟩
  g : ∀ b, TagOk ⟨w, a.n, b⟩
  k2 : KeepOk (w, makeS w.h a.queue a.n)
  k3 : KeepOk (w, dropS w.h a.queue)
  k4 : KeepOk (w, hputS w.h a.queue a.note)
  k9 : KeepOk (w, hpurgeS w.h a.queue)
def doV (r : LW × LSay × Bool) : AV := .tup [hallA r.1.h, llogA r.1.l, sessA r.1.s, sayA r.2.1, .int .i64 (if r.2.2 = true then 9 else 0)]
def doLo : Nat → Lo := fun id => match id with | 4 => {uo := [5, 6, 7, 8], un := [10, 11, 12, 13]} | 20 => {uo := [4, 5, 6, 7], un := [10, 11, 12, 13]} | 26 => {uo := [13, 14, 15, 16], un := [10, 11, 12, 13]} | _ => {}
set_option maxRecDepth 100000 in
set_option maxHeartbeats 4000000 in
theorem con_do (w : LW) (a : LAsk) (now : Int) (hx : DoOk w a now) : Con Try.prog D 65 [hallA w.h, llogA w.l, sessA w.s, askA a, .int .i64 now] ⟨doV (doS w a now), []⟩ := by
  have hok : GOk Try.prog D (tabG [eWrongask, eFault, eHmake, eHdrop, eHput, eHpurge]) := tabG_ok _
  have g1 := tabG_use (T := [eWrongask, eFault, eHmake, eHdrop, eHput, eHpurge]) (E := eWrongask) (i := 0) rfl (by decide) (a) (⟨hx.q, hx.n⟩)
  have g2 := fun (e : Int) => tabG_use (T := [eWrongask, eFault, eHmake, eHdrop, eHput, eHpurge]) (E := eFault) (i := 1) rfl (by decide) (e) (trivial)
  have g3 := tabG_use (T := [eWrongask, eFault, eHmake, eHdrop, eHput, eHpurge]) (E := eHmake) (i := 2) rfl (by decide) ((w.h, a.queue, a.n)) (⟨hx.f, hx.q⟩)
  have g4 := tabG_use (T := [eWrongask, eFault, eHmake, eHdrop, eHput, eHpurge]) (E := eHdrop) (i := 3) rfl (by decide) ((w.h, a.queue)) (hx.f)
  have g5 := tabG_use (T := [eWrongask, eFault, eHmake, eHdrop, eHput, eHpurge]) (E := eHput) (i := 4) rfl (by decide) ((w.h, a.queue, a.note)) (⟨hx.f, hx.n, hx.x⟩)
  have g6 := tabG_use (T := [eWrongask, eFault, eHmake, eHdrop, eHput, eHpurge]) (E := eHpurge) (i := 5) rfl (by decide) ((w.h, a.queue)) (hx.f)
  have gk : ∀ z, tabG ([eWrongask, eFault, eHmake, eHdrop, eHput, eHpurge] : List (Ent Try.prog D)) 109 z = none := fun z => rfl
  have gt : ∀ z, tabG ([eWrongask, eFault, eHmake, eHdrop, eHput, eHpurge] : List (Ent Try.prog D)) 110 z = none := fun z => rfl
  have gg : ∀ z, tabG ([eWrongask, eFault, eHmake, eHdrop, eHput, eHpurge] : List (Ent Try.prog D)) 111 z = none := fun z => rfl
  generalize tabG [eWrongask, eFault, eHmake, eHdrop, eHput, eHpurge] = G at *
  dsimp only [eWrongask] at g1
  dsimp only [eFault] at g2
  dsimp only [eHmake] at g3
  dsimp only [eHdrop] at g4
  dsimp only [eHput] at g5
  dsimp only [eHpurge] at g6
  generalize hr : doS w a now = r
  unfold doS at hr
  have c2 := doM_1 hx.k2
  have c3 := doM_1 hx.k3
  have c4 := doM_1 hx.k4
  have c9 := doM_1 hx.k9
  have c5 := doM_2 hx.t
  have c7 := doM_3 (hx.g true)
  have c8 := doM_3 (hx.g false)
  clear hx
  obtain ⟨ak, aq, an, ⟨ap, ab⟩⟩ := a
  simp only at hr g1 g3 g4 g5 g6 c2 c3 c4 c5 c7 c8 c9
  generalize wrongAskS ⟨ak, aq, an, ⟨ap, ab⟩⟩ = wr at *
  refine conM (G := G) (M := doM) (rs := [(10, some 24), (11, some 32), (12, some 79), (13, some 89), (14, none)]) doM_ok hok Try.func65 Try.results65 Try.ntmps65 doLo fun X hP hD hG' hX => ?_
  generalize doM = M at *
  by_cases hw : wr = 0
  · have dw : (wr != 0) = false := by simp [hw]
    rw [if_neg (by simp [hw])] at hr
    by_cases hk : ak = 2
    · have e2 : (ak == 2) = true := by simp [hk]
      have e3 : (ak == 3) = false := by simp [hk]
      have e4 : (ak == 4) = false := by simp [hk]
      have e9 : (ak == 9) = false := by simp [hk]
      have e5 : (ak == 5) = false := by simp [hk]
      have e6 : (ak == 6) = false := by simp [hk]
      have e7 : (ak == 7) = false := by simp [hk]
      have e8 : (ak == 8) = false := by simp [hk]
      rw [if_pos hk] at hr
      subst hr
      clear c3 c4 c9 c5 c7 c8
      generalize makeS w.h aq an = R at *
      generalize keepS w R = K at *
      obtain ⟨⟨⟨kq, kqn⟩, ⟨klb, kls⟩, ⟨kts, ktn⟩⟩, ⟨s1, s2, s3, s4, ⟨s5, s6⟩⟩⟩ := K
      obtain ⟨⟨rq, rx⟩, re, rr⟩ := R
      obtain ⟨⟨q, qn⟩, ⟨lb, ls⟩, ⟨ts, tn⟩⟩ := w
      simp only [hres, hallA, hallCs, entriesA, askA, noteA, sayA, wCs] at g1 g3 c2
      simp only [argS, num, doV, hallA, llogA, logCs, sessA, sessCs, askA, sayA, faultS, sayOk, say0, sayNone, Bool.false_eq_true, if_false, if_true]
      simp (disch := omega) only [go_sem, Nat.reduceLeDiff, reduceCtorEq, Nat.reduceAdd, Nat.reduceSub, Nat.reduceMul, Nat.reduceLT, Nat.reduceEqDiff, Int.reduceEq, Int.reduceLE, Int.reduceLT, Int.reducePow, Int.reduceMul, Int.reduceToNat, Int.reduceNeg, ↓reduceIte, hD, hG', wrap64, g1, g3, c2, gk, dw, e2, e3, e4, e9, e5, e6, e7, e8, doLo, unbox, tmv, Option.some.injEq, exists_eq_left']
      (repeat (with_reducible refine And.intro (by first | omega | decide | (simp; done) | (simp only [List.length_append, List.length_cons, List.length_nil, List.length_map]; omega)) ?_))
      refine endW [] [] (by simp) rfl rfl rfl ?_ ?_ <;> simp only [go_sem, Nat.reduceEqDiff]
    by_cases hk : ak = 3
    · have e2 : (ak == 2) = false := by simp [hk]
      have e3 : (ak == 3) = true := by simp [hk]
      have e4 : (ak == 4) = false := by simp [hk]
      have e9 : (ak == 9) = false := by simp [hk]
      have e5 : (ak == 5) = false := by simp [hk]
      have e6 : (ak == 6) = false := by simp [hk]
      have e7 : (ak == 7) = false := by simp [hk]
      have e8 : (ak == 8) = false := by simp [hk]
      rw [if_neg (by omega), if_pos hk] at hr
      subst hr
      clear c2 c4 c9 c5 c7 c8
      generalize dropS w.h aq = R at *
      generalize keepS w R = K at *
      obtain ⟨⟨⟨kq, kqn⟩, ⟨klb, kls⟩, ⟨kts, ktn⟩⟩, ⟨s1, s2, s3, s4, ⟨s5, s6⟩⟩⟩ := K
      obtain ⟨⟨rq, rx⟩, re, rr⟩ := R
      obtain ⟨⟨q, qn⟩, ⟨lb, ls⟩, ⟨ts, tn⟩⟩ := w
      simp only [hres, hallA, hallCs, entriesA, askA, noteA, sayA, wCs] at g1 g4 c3
      simp only [argS, num, doV, hallA, llogA, logCs, sessA, sessCs, askA, sayA, faultS, sayOk, say0, sayNone, Bool.false_eq_true, if_false, if_true]
      simp (disch := omega) only [go_sem, Nat.reduceLeDiff, reduceCtorEq, Nat.reduceAdd, Nat.reduceSub, Nat.reduceMul, Nat.reduceLT, Nat.reduceEqDiff, Int.reduceEq, Int.reduceLE, Int.reduceLT, Int.reducePow, Int.reduceMul, Int.reduceToNat, Int.reduceNeg, ↓reduceIte, hD, hG', wrap64, g1, g4, c3, gk, dw, e2, e3, e4, e9, e5, e6, e7, e8, doLo, unbox, tmv, Option.some.injEq, exists_eq_left']
      (repeat (with_reducible refine And.intro (by first | omega | decide | (simp; done) | (simp only [List.length_append, List.length_cons, List.length_nil, List.length_map]; omega)) ?_))
      refine endW [] [] (by simp) rfl rfl rfl ?_ ?_ <;> simp only [go_sem, Nat.reduceEqDiff]
    by_cases hk : ak = 4
    · have e2 : (ak == 2) = false := by simp [hk]
      have e3 : (ak == 3) = false := by simp [hk]
      have e4 : (ak == 4) = true := by simp [hk]
      have e9 : (ak == 9) = false := by simp [hk]
      have e5 : (ak == 5) = false := by simp [hk]
      have e6 : (ak == 6) = false := by simp [hk]
      have e7 : (ak == 7) = false := by simp [hk]
      have e8 : (ak == 8) = false := by simp [hk]
      rw [if_neg (by omega), if_neg (by omega), if_pos hk] at hr
      subst hr
      clear c2 c3 c9 c5 c7 c8
      generalize hputS w.h aq ⟨ap, ab⟩ = R at *
      generalize keepS w R = K at *
      obtain ⟨⟨⟨kq, kqn⟩, ⟨klb, kls⟩, ⟨kts, ktn⟩⟩, ⟨s1, s2, s3, s4, ⟨s5, s6⟩⟩⟩ := K
      obtain ⟨⟨rq, rx⟩, re, rr⟩ := R
      obtain ⟨⟨q, qn⟩, ⟨lb, ls⟩, ⟨ts, tn⟩⟩ := w
      simp only [hres, hallA, hallCs, entriesA, askA, noteA, sayA, wCs] at g1 g5 c4
      simp only [argS, num, doV, hallA, llogA, logCs, sessA, sessCs, askA, sayA, faultS, sayOk, say0, sayNone, Bool.false_eq_true, if_false, if_true]
      simp (disch := omega) only [go_sem, Nat.reduceLeDiff, reduceCtorEq, Nat.reduceAdd, Nat.reduceSub, Nat.reduceMul, Nat.reduceLT, Nat.reduceEqDiff, Int.reduceEq, Int.reduceLE, Int.reduceLT, Int.reducePow, Int.reduceMul, Int.reduceToNat, Int.reduceNeg, ↓reduceIte, hD, hG', wrap64, g1, g5, c4, gk, dw, e2, e3, e4, e9, e5, e6, e7, e8, doLo, unbox, tmv, Option.some.injEq, exists_eq_left']
      (repeat (with_reducible refine And.intro (by first | omega | decide | (simp; done) | (simp only [List.length_append, List.length_cons, List.length_nil, List.length_map]; omega)) ?_))
      refine endW [] [] (by simp) rfl rfl rfl ?_ ?_ <;> simp only [go_sem, Nat.reduceEqDiff]
    by_cases hk : ak = 9
    · have e2 : (ak == 2) = false := by simp [hk]
      have e3 : (ak == 3) = false := by simp [hk]
      have e4 : (ak == 4) = false := by simp [hk]
      have e9 : (ak == 9) = true := by simp [hk]
      have e5 : (ak == 5) = false := by simp [hk]
      have e6 : (ak == 6) = false := by simp [hk]
      have e7 : (ak == 7) = false := by simp [hk]
      have e8 : (ak == 8) = false := by simp [hk]
      rw [if_neg (by omega), if_neg (by omega), if_neg (by omega), if_pos hk] at hr
      subst hr
      clear c2 c3 c4 c5 c7 c8
      generalize hpurgeS w.h aq = R at *
      generalize keepS w R = K at *
      obtain ⟨⟨⟨kq, kqn⟩, ⟨klb, kls⟩, ⟨kts, ktn⟩⟩, ⟨s1, s2, s3, s4, ⟨s5, s6⟩⟩⟩ := K
      obtain ⟨⟨rq, rx⟩, re, rr⟩ := R
      obtain ⟨⟨q, qn⟩, ⟨lb, ls⟩, ⟨ts, tn⟩⟩ := w
      simp only [hres, hallA, hallCs, entriesA, askA, noteA, sayA, wCs] at g1 g6 c9
      simp only [argS, num, doV, hallA, llogA, logCs, sessA, sessCs, askA, sayA, faultS, sayOk, say0, sayNone, Bool.false_eq_true, if_false, if_true]
      simp (disch := omega) only [go_sem, Nat.reduceLeDiff, reduceCtorEq, Nat.reduceAdd, Nat.reduceSub, Nat.reduceMul, Nat.reduceLT, Nat.reduceEqDiff, Int.reduceEq, Int.reduceLE, Int.reduceLT, Int.reducePow, Int.reduceMul, Int.reduceToNat, Int.reduceNeg, ↓reduceIte, hD, hG', wrap64, g1, g6, c9, gk, dw, e2, e3, e4, e9, e5, e6, e7, e8, doLo, unbox, tmv, Option.some.injEq, exists_eq_left']
      (repeat (with_reducible refine And.intro (by first | omega | decide | (simp; done) | (simp only [List.length_append, List.length_cons, List.length_nil, List.length_map]; omega)) ?_))
      refine endW [] [] (by simp) rfl rfl rfl ?_ ?_ <;> simp only [go_sem, Nat.reduceEqDiff]
    by_cases hk : ak = 5 ∨ ak = 6
    · have e2 : (ak == 2) = false := by simp; omega
      have e3 : (ak == 3) = false := by simp; omega
      have e4 : (ak == 4) = false := by simp; omega
      have e9 : (ak == 9) = false := by simp; omega
      rw [if_neg (by omega), if_neg (by omega), if_neg (by omega), if_neg (by omega), if_pos hk] at hr
      clear c2 c3 c4 c9 c7 c8
      generalize stakeS w aq now = K at *
      obtain ⟨⟨⟨kq, kqn⟩, ⟨klb, kls⟩, ⟨kts, ktn⟩⟩, ⟨s1, s2, s3, s4, ⟨s5, s6⟩⟩, ke⟩ := K
      obtain ⟨⟨q, qn⟩, ⟨lb, ls⟩, ⟨ts, tn⟩⟩ := w
      simp only [askA, sayA, wCs] at g1 c5
      simp only at hr
      by_cases k9 : ke = 9
      · have d9 : (ke == 9) = true := by simp [k9]
        rw [if_pos k9] at hr
        by_cases h6 : ak = 6
        · have e5 : (ak == 5) = false := by simp; omega
          have e6 : (ak == 6) = true := by simp [h6]
          rw [if_pos h6] at hr
          subst hr
          simp only [argS, num, doV, hallA, llogA, logCs, sessA, sessCs, askA, sayA, faultS, sayOk, say0, sayNone, Bool.false_eq_true, if_false, if_true]
          simp (disch := omega) only [go_sem, Nat.reduceLeDiff, reduceCtorEq, Nat.reduceAdd, Nat.reduceSub, Nat.reduceMul, Nat.reduceLT, Nat.reduceEqDiff, Int.reduceEq, Int.reduceLE, Int.reduceLT, Int.reducePow, Int.reduceMul, Int.reduceToNat, Int.reduceNeg, ↓reduceIte, hD, hG', wrap64, g1, c5, gt, dw, d9, e2, e3, e4, e9, e5, e6, doLo, unbox, tmv, Option.some.injEq, exists_eq_left']
          refine RegT.mk [] ?_
          simp (disch := omega) only [go_sem, Nat.reduceLeDiff, reduceCtorEq, Nat.reduceAdd, Nat.reduceSub, Nat.reduceMul, Nat.reduceLT, Nat.reduceEqDiff, Int.reduceEq, Int.reduceLE, Int.reduceLT, Int.reducePow, Int.reduceMul, Int.reduceToNat, Int.reduceNeg, ↓reduceIte, hD, hG', wrap64, g1, c5, gt, dw, d9, e2, e3, e4, e9, e5, e6, doLo, unbox, tmv, Option.some.injEq, exists_eq_left']
          (repeat (with_reducible refine And.intro (by first | omega | decide | (simp; done) | (simp only [List.length_append, List.length_cons, List.length_nil, List.length_map]; omega)) ?_))
          refine endW [] [] (by simp) rfl rfl rfl ?_ ?_ <;> simp only [go_sem, Nat.reduceEqDiff]
          all_goals (try simp [note0, cov, covs, subs, names, namess])
        · have e5 : (ak == 5) = true := by simp; omega
          have e6 : (ak == 6) = false := by simp [h6]
          rw [if_neg h6] at hr
          subst hr
          simp only [argS, num, doV, hallA, llogA, logCs, sessA, sessCs, askA, sayA, faultS, sayOk, say0, sayNone, Bool.false_eq_true, if_false, if_true]
          simp (disch := omega) only [go_sem, Nat.reduceLeDiff, reduceCtorEq, Nat.reduceAdd, Nat.reduceSub, Nat.reduceMul, Nat.reduceLT, Nat.reduceEqDiff, Int.reduceEq, Int.reduceLE, Int.reduceLT, Int.reducePow, Int.reduceMul, Int.reduceToNat, Int.reduceNeg, ↓reduceIte, hD, hG', wrap64, g1, c5, gt, dw, d9, e2, e3, e4, e9, e5, e6, doLo, unbox, tmv, Option.some.injEq, exists_eq_left']
          refine RegT.mk [] ?_
          simp (disch := omega) only [go_sem, Nat.reduceLeDiff, reduceCtorEq, Nat.reduceAdd, Nat.reduceSub, Nat.reduceMul, Nat.reduceLT, Nat.reduceEqDiff, Int.reduceEq, Int.reduceLE, Int.reduceLT, Int.reducePow, Int.reduceMul, Int.reduceToNat, Int.reduceNeg, ↓reduceIte, hD, hG', wrap64, g1, c5, gt, dw, d9, e2, e3, e4, e9, e5, e6, doLo, unbox, tmv, Option.some.injEq, exists_eq_left']
          (repeat (with_reducible refine And.intro (by first | omega | decide | (simp; done) | (simp only [List.length_append, List.length_cons, List.length_nil, List.length_map]; omega)) ?_))
          refine endW [] [] (by simp) rfl rfl rfl ?_ ?_ <;> simp only [go_sem, Nat.reduceEqDiff]
          all_goals (try simp [note0, cov, covs, subs, names, namess])
      · have d9 : (ke == 9) = false := by simp [k9]
        rw [if_neg k9] at hr
        subst hr
        rcases hk with h5 | h6
        · have e5 : (ak == 5) = true := by simp [h5]
          simp only [argS, num, doV, hallA, llogA, logCs, sessA, sessCs, askA, sayA, faultS, sayOk, say0, sayNone, Bool.false_eq_true, if_false, if_true]
          simp (disch := omega) only [go_sem, Nat.reduceLeDiff, reduceCtorEq, Nat.reduceAdd, Nat.reduceSub, Nat.reduceMul, Nat.reduceLT, Nat.reduceEqDiff, Int.reduceEq, Int.reduceLE, Int.reduceLT, Int.reducePow, Int.reduceMul, Int.reduceToNat, Int.reduceNeg, ↓reduceIte, hD, hG', wrap64, g1, c5, gt, dw, d9, e2, e3, e4, e9, e5, doLo, unbox, tmv, Option.some.injEq, exists_eq_left']
          refine RegT.mk [(2, true)] ?_
          simp (disch := omega) only [go_sem, Nat.reduceLeDiff, reduceCtorEq, Nat.reduceAdd, Nat.reduceSub, Nat.reduceMul, Nat.reduceLT, Nat.reduceEqDiff, Int.reduceEq, Int.reduceLE, Int.reduceLT, Int.reducePow, Int.reduceMul, Int.reduceToNat, Int.reduceNeg, ↓reduceIte, hD, hG', wrap64, g1, c5, gt, dw, d9, e2, e3, e4, e9, e5, doLo, unbox, tmv, Option.some.injEq, exists_eq_left']
          (repeat (with_reducible refine And.intro (by first | omega | decide | (simp; done) | (simp only [List.length_append, List.length_cons, List.length_nil, List.length_map]; omega)) ?_))
          refine endW [] [] (by simp) rfl rfl rfl ?_ ?_ <;> simp only [go_sem, Nat.reduceEqDiff]
        · have e5 : (ak == 5) = false := by simp [h6]
          have e6 : (ak == 6) = true := by simp [h6]
          simp only [argS, num, doV, hallA, llogA, logCs, sessA, sessCs, askA, sayA, faultS, sayOk, say0, sayNone, Bool.false_eq_true, if_false, if_true]
          simp (disch := omega) only [go_sem, Nat.reduceLeDiff, reduceCtorEq, Nat.reduceAdd, Nat.reduceSub, Nat.reduceMul, Nat.reduceLT, Nat.reduceEqDiff, Int.reduceEq, Int.reduceLE, Int.reduceLT, Int.reducePow, Int.reduceMul, Int.reduceToNat, Int.reduceNeg, ↓reduceIte, hD, hG', wrap64, g1, c5, gt, dw, d9, e2, e3, e4, e9, e5, e6, doLo, unbox, tmv, Option.some.injEq, exists_eq_left']
          refine RegT.mk [(2, true)] ?_
          simp (disch := omega) only [go_sem, Nat.reduceLeDiff, reduceCtorEq, Nat.reduceAdd, Nat.reduceSub, Nat.reduceMul, Nat.reduceLT, Nat.reduceEqDiff, Int.reduceEq, Int.reduceLE, Int.reduceLT, Int.reducePow, Int.reduceMul, Int.reduceToNat, Int.reduceNeg, ↓reduceIte, hD, hG', wrap64, g1, c5, gt, dw, d9, e2, e3, e4, e9, e5, e6, doLo, unbox, tmv, Option.some.injEq, exists_eq_left']
          (repeat (with_reducible refine And.intro (by first | omega | decide | (simp; done) | (simp only [List.length_append, List.length_cons, List.length_nil, List.length_map]; omega)) ?_))
          refine endW [] [] (by simp) rfl rfl rfl ?_ ?_ <;> simp only [go_sem, Nat.reduceEqDiff]
    have e2 : (ak == 2) = false := by simp; omega
    have e3 : (ak == 3) = false := by simp; omega
    have e4 : (ak == 4) = false := by simp; omega
    have e9 : (ak == 9) = false := by simp; omega
    have e5 : (ak == 5) = false := by simp; omega
    have e6 : (ak == 6) = false := by simp; omega
    rw [if_neg (by omega), if_neg (by omega), if_neg (by omega), if_neg (by omega), if_neg hk] at hr
    by_cases h7 : ak = 7
    · have e7 : (ak == 7) = true := by simp [h7]
      have e8 : (ak == 8) = false := by simp [h7]
      rw [if_pos (by omega), e8] at hr
      subst hr
      clear c2 c3 c4 c9 c7 c5
      generalize stagS w an false = K at *
      obtain ⟨⟨⟨kq, kqn⟩, ⟨klb, kls⟩, ⟨kts, ktn⟩⟩, ⟨s1, s2, s3, s4, ⟨s5, s6⟩⟩⟩ := K
      obtain ⟨⟨q, qn⟩, ⟨lb, ls⟩, ⟨ts, tn⟩⟩ := w
      simp only [askA, sayA, wCs] at g1 c8
      simp only [argS, num, doV, hallA, llogA, logCs, sessA, sessCs, askA, sayA, faultS, sayOk, say0, sayNone, Bool.false_eq_true, if_false, if_true]
      simp (disch := omega) only [go_sem, Nat.reduceLeDiff, reduceCtorEq, Nat.reduceAdd, Nat.reduceSub, Nat.reduceMul, Nat.reduceLT, Nat.reduceEqDiff, Int.reduceEq, Int.reduceLE, Int.reduceLT, Int.reducePow, Int.reduceMul, Int.reduceToNat, Int.reduceNeg, ↓reduceIte, hD, hG', wrap64, g1, c8, gg, dw, e2, e3, e4, e9, e5, e6, e7, e8, doLo, unbox, tmv, Option.some.injEq, exists_eq_left']
      (repeat (with_reducible refine And.intro (by first | omega | decide | (simp; done) | (simp only [List.length_append, List.length_cons, List.length_nil, List.length_map]; omega)) ?_))
      refine endW [] [] (by simp) rfl rfl rfl ?_ ?_ <;> simp only [go_sem, Nat.reduceEqDiff]
    by_cases h8 : ak = 8
    · have e7 : (ak == 7) = false := by simp [h8]
      have e8 : (ak == 8) = true := by simp [h8]
      rw [if_pos (by omega), e8] at hr
      subst hr
      clear c2 c3 c4 c9 c8 c5
      generalize stagS w an true = K at *
      obtain ⟨⟨⟨kq, kqn⟩, ⟨klb, kls⟩, ⟨kts, ktn⟩⟩, ⟨s1, s2, s3, s4, ⟨s5, s6⟩⟩⟩ := K
      obtain ⟨⟨q, qn⟩, ⟨lb, ls⟩, ⟨ts, tn⟩⟩ := w
      simp only [askA, sayA, wCs] at g1 c7
      simp only [argS, num, doV, hallA, llogA, logCs, sessA, sessCs, askA, sayA, faultS, sayOk, say0, sayNone, Bool.false_eq_true, if_false, if_true]
      simp (disch := omega) only [go_sem, Nat.reduceLeDiff, reduceCtorEq, Nat.reduceAdd, Nat.reduceSub, Nat.reduceMul, Nat.reduceLT, Nat.reduceEqDiff, Int.reduceEq, Int.reduceLE, Int.reduceLT, Int.reducePow, Int.reduceMul, Int.reduceToNat, Int.reduceNeg, ↓reduceIte, hD, hG', wrap64, g1, c7, gg, dw, e2, e3, e4, e9, e5, e6, e7, e8, doLo, unbox, tmv, Option.some.injEq, exists_eq_left']
      (repeat (with_reducible refine And.intro (by first | omega | decide | (simp; done) | (simp only [List.length_append, List.length_cons, List.length_nil, List.length_map]; omega)) ?_))
      refine endW [] [] (by simp) rfl rfl rfl ?_ ?_ <;> simp only [go_sem, Nat.reduceEqDiff]
    have e7 : (ak == 7) = false := by simp [h7]
    have e8 : (ak == 8) = false := by simp [h8]
    rw [if_neg (by omega)] at hr
    subst hr
    clear c2 c3 c4 c9 c8 c5 c7
    obtain ⟨⟨q, qn⟩, ⟨lb, ls⟩, ⟨ts, tn⟩⟩ := w
    simp only [askA] at g1
    simp only [argS, num, doV, hallA, llogA, logCs, sessA, sessCs, askA, sayA, faultS, sayOk, say0, sayNone, Bool.false_eq_true, if_false, if_true]
    simp (disch := omega) only [go_sem, Nat.reduceLeDiff, reduceCtorEq, Nat.reduceAdd, Nat.reduceSub, Nat.reduceMul, Nat.reduceLT, Nat.reduceEqDiff, Int.reduceEq, Int.reduceLE, Int.reduceLT, Int.reducePow, Int.reduceMul, Int.reduceToNat, Int.reduceNeg, ↓reduceIte, hD, hG', wrap64, g1, dw, e2, e3, e4, e9, e5, e6, e7, e8, doLo, unbox, tmv, Option.some.injEq, exists_eq_left']
    (repeat (with_reducible refine And.intro (by first | omega | decide | (simp; done) | (simp only [List.length_append, List.length_cons, List.length_nil, List.length_map]; omega)) ?_))
    refine endW [] [] (by simp) rfl rfl rfl ?_ ?_ <;> simp only [go_sem, Nat.reduceEqDiff]
    all_goals (try simp [note0, cov, covs, subs, names, namess])
  · have dw : (wr != 0) = true := by simp [hw]
    rw [if_pos (by simp [hw])] at hr
    subst hr
    have g2 := g2 wr
    obtain ⟨⟨q, qn⟩, ⟨lb, ls⟩, ⟨ts, tn⟩⟩ := w
    simp only [askA, sayA, faultS] at g1 g2
    simp only [argS, num, doV, hallA, llogA, logCs, sessA, sessCs, askA, sayA, faultS, sayOk, say0, sayNone, Bool.false_eq_true, if_false, if_true]
    simp (disch := omega) only [go_sem, Nat.reduceLeDiff, reduceCtorEq, Nat.reduceAdd, Nat.reduceSub, Nat.reduceMul, Nat.reduceLT, Nat.reduceEqDiff, Int.reduceEq, Int.reduceLE, Int.reduceLT, Int.reducePow, Int.reduceMul, Int.reduceToNat, Int.reduceNeg, ↓reduceIte, hD, hG', wrap64, g1, g2, dw, doLo, unbox, tmv, Option.some.injEq, exists_eq_left']
    (repeat (with_reducible refine And.intro (by first | omega | decide | (simp; done) | (simp only [List.length_append, List.length_cons, List.length_nil, List.length_map]; omega)) ?_))
    refine endW [] [] (by simp) rfl rfl rfl ?_ ?_ <;> simp only [go_sem, Nat.reduceEqDiff]
    all_goals (try simp [note0, cov, covs, subs, names, namess])
end Go.Proofs.Ythbejciebmkclaa.Ab
namespace Go.Proofs.Ythbejciebmkclaa.Ab
open Go Go.RowKit
set_option linter.unusedVariables false
set_option linter.unusedSimpArgs false

def ansV (r : LW × LSay × Bool) : AV := .tup [wA r.1, sayA r.2.1, .bool r.2.2]
def noF (w : LW) : AV := .func 106 [.iptr (wCs w)]
def yesF (w : LW) : AV := .func 107 [.iptr [noF w], .iptr (wCs w)]
set_option maxRecDepth 100000 in
theorem con_no6 (w : LW) (e : Int) : Con Try.prog D 106 [.int .i64 e, .iptr (wCs w)] ⟨ansV (w, faultS e, false), []⟩ := by
  have hok : GOk Try.prog D (tabG []) := tabG_ok _
  generalize tabG [] = G at *
  obtain ⟨⟨q, qn⟩, ⟨lb, ls⟩, ⟨ts, tn⟩⟩ := w
  refine conW (G := G) (rs := [(3, some 87), (4, some 89), (5, none)]) hok Try.func106 Try.results106 Try.ntmps106 (fun _ => {}) fun X hP hD hG' hX => ?_
  simp only [argS, num, ansV, wA, wCs, sayA, faultS]
  simp (disch := omega) only [go_sem, Nat.reduceLeDiff, reduceCtorEq, Nat.reduceAdd, Nat.reduceSub, Nat.reduceMul, Nat.reduceLT, Nat.reduceEqDiff, Int.reduceEq, Int.reduceLE, Int.reduceLT, Int.reducePow, Int.reduceMul, Int.reduceToNat, Int.reduceNeg, ↓reduceIte, hD, hG', wrap64, unbox, tmv, Option.some.injEq, exists_eq_left']
  (repeat (with_reducible refine And.intro (by first | omega | decide | (simp; done) | (simp only [List.length_append, List.length_cons, List.length_nil, List.length_map]; omega)) ?_))
  refine endW [] [] (by simp) rfl rfl rfl ?_ ?_ <;> simp only [go_sem, Nat.reduceEqDiff]
  all_goals (try simp [ansV, wA, wCs, sayA, faultS, note0, cov, covs, subs, names, namess])
def eNo6 : Ent Try.prog D := ⟨106, LW × Int, fun x => [.int .i64 x.2, .iptr (wCs x.1)], fun _ => True, fun x => ⟨ansV (x.1, faultS x.2, false), []⟩, fun x y _ _ h => by
  simp only [List.cons.injEq, AV.iptr.injEq, AV.int.injEq, true_and, and_true] at h
  rw [h.1, wCs_inj h.2], fun x _ => con_no6 x.1 x.2⟩
set_option maxRecDepth 100000 in
set_option maxHeartbeats 1000000 in
theorem con_yes (w : LW) (r : Res4) (hx : KeepOk (w, r)) : Con Try.prog D 107 [.agg (hallCs r.1), entriesA r.2.1, .int .i64 r.2.2, .iptr [noF w], .iptr (wCs w)] ⟨ansV ((keepS w r).1, (keepS w r).2, false), []⟩ := by
  have hok : GOk Try.prog D (tabG [eNo6, eRwrite]) := tabG_ok _
  have g1 := fun (e : Int) => tabG_use (T := [eNo6, eRwrite]) (E := eNo6) (i := 0) rfl (by decide) ((w, e)) (trivial)
  have g2 := fun (h : WOk ((w.l.bytes, w.l.sure), r.2.1)) => tabG_use (T := [eNo6, eRwrite]) (E := eRwrite) (i := 1) rfl (by decide) (((w.l.bytes, w.l.sure), r.2.1)) (h)
  generalize tabG [eNo6, eRwrite] = G at *
  dsimp only [eNo6] at g1
  dsimp only [eRwrite] at g2
  obtain ⟨⟨q, qn⟩, ⟨lb, ls⟩, ⟨ts, tn⟩⟩ := w
  obtain ⟨⟨xq, xn⟩, es, er⟩ := r
  unfold KeepOk at hx
  simp only at hx g2
  refine conW (G := G) (rs := [(8, some 87), (9, some 89), (10, none)]) hok Try.func107 Try.results107 Try.ntmps107 (fun _ => {}) (hnm := by simp [noF, wCs, hallCs, entriesA, names, namess]) fun X hP hD hG' hX => ?_
  simp only [argS, num, wCs, hallCs, entriesA, noF]
  by_cases h0 : er = 0
  · have e0 : (er != 0) = false := by simp [h0]
    have g2 := g2 (hx h0)
    have hk : keepS ⟨⟨q, qn⟩, ⟨lb, ls⟩, ⟨ts, tn⟩⟩ ⟨⟨xq, xn⟩, es, er⟩ = if (writeS lb ls es).2 ≠ 0 then (⟨⟨q, qn⟩, ⟨lb, ls⟩, ⟨ts, tn⟩⟩, faultS (writeS lb ls es).2) else (⟨⟨xq, xn⟩, (writeS lb ls es).1, ⟨ts, tn⟩⟩, sayOk) := by
      unfold keepS
      rw [if_neg (by simp [h0])]
    rw [hk]
    generalize writeS lb ls es = W at *
    obtain ⟨⟨wb, ws⟩, we⟩ := W
    simp only [writeA, entriesA] at g2
    by_cases h1 : we = 0
    · have e1 : (we != 0) = false := by simp [h1]
      rw [if_neg (by simp [h1])]
      simp only [ansV, wA, wCs, sayA, sayOk]
      simp (disch := omega) only [go_sem, Nat.reduceLeDiff, reduceCtorEq, Nat.reduceAdd, Nat.reduceSub, Nat.reduceMul, Nat.reduceLT, Nat.reduceEqDiff, Int.reduceEq, Int.reduceLE, Int.reduceLT, Int.reducePow, Int.reduceMul, Int.reduceToNat, Int.reduceNeg, ↓reduceIte, hD, hG', wrap64, e0, g2, e1, unbox, tmv, Option.some.injEq, exists_eq_left']
      (repeat (with_reducible refine And.intro (by first | omega | decide | (simp; done) | (simp only [List.length_append, List.length_cons, List.length_nil, List.length_map]; omega)) ?_))
      refine endW [] [] (by simp) rfl rfl rfl ?_ ?_ <;> simp only [go_sem, Nat.reduceEqDiff]
      all_goals (try simp [ansV, wA, wCs, sayA, sayOk, note0, cov, covs, subs, names, namess])
    · have e1 : (we != 0) = true := by simp [h1]
      rw [if_pos (by simp [h1])]
      have g1 := g1 we
      simp only [ansV, wA, wCs, sayA, faultS] at g1
      simp only [ansV, wA, wCs, sayA, faultS]
      simp (disch := omega) only [go_sem, Nat.reduceLeDiff, reduceCtorEq, Nat.reduceAdd, Nat.reduceSub, Nat.reduceMul, Nat.reduceLT, Nat.reduceEqDiff, Int.reduceEq, Int.reduceLE, Int.reduceLT, Int.reducePow, Int.reduceMul, Int.reduceToNat, Int.reduceNeg, ↓reduceIte, hD, hG', wrap64, e0, g1, g2, e1, unbox, tmv, Option.some.injEq, exists_eq_left']
      (repeat (with_reducible refine And.intro (by first | omega | decide | (simp; done) | (simp only [List.length_append, List.length_cons, List.length_nil, List.length_map]; omega)) ?_))
      refine endW [] [] (by simp) rfl rfl rfl ?_ ?_ <;> simp only [go_sem, Nat.reduceEqDiff]
      all_goals (try simp [ansV, wA, wCs, sayA, faultS, note0, cov, covs, subs, names, namess])
  · have e0 : (er != 0) = true := by simp [h0]
    have hk : keepS ⟨⟨q, qn⟩, ⟨lb, ls⟩, ⟨ts, tn⟩⟩ ⟨⟨xq, xn⟩, es, er⟩ = (⟨⟨q, qn⟩, ⟨lb, ls⟩, ⟨ts, tn⟩⟩, faultS er) := by
      unfold keepS
      rw [if_pos (by simpa using h0)]
    rw [hk]
    have g1 := g1 er
    simp only [ansV, wA, wCs, sayA, faultS] at g1
    simp only [ansV, wA, wCs, sayA, faultS]
    simp (disch := omega) only [go_sem, Nat.reduceLeDiff, reduceCtorEq, Nat.reduceAdd, Nat.reduceSub, Nat.reduceMul, Nat.reduceLT, Nat.reduceEqDiff, Int.reduceEq, Int.reduceLE, Int.reduceLT, Int.reducePow, Int.reduceMul, Int.reduceToNat, Int.reduceNeg, ↓reduceIte, hD, hG', wrap64, e0, g1, unbox, tmv, Option.some.injEq, exists_eq_left']
    (repeat (with_reducible refine And.intro (by first | omega | decide | (simp; done) | (simp only [List.length_append, List.length_cons, List.length_nil, List.length_map]; omega)) ?_))
    refine endW [] [] (by simp) rfl rfl rfl ?_ ?_ <;> simp only [go_sem, Nat.reduceEqDiff]
    all_goals (try simp [ansV, wA, wCs, sayA, faultS, note0, cov, covs, subs, names, namess])
def eYes6 : Ent Try.prog D := ⟨107, LW × Res4, fun x => [.agg (hallCs x.2.1), entriesA x.2.2.1, .int .i64 x.2.2.2, .iptr [noF x.1], .iptr (wCs x.1)], fun x => KeepOk x, fun x => ⟨ansV ((keepS x.1 x.2).1, (keepS x.1 x.2).2, false), []⟩, fun x y _ _ h => by
  obtain ⟨w, h1, es, e⟩ := x
  obtain ⟨w', h1', es', e'⟩ := y
  simp only [List.cons.injEq, AV.agg.injEq, AV.iptr.injEq, AV.int.injEq, true_and, and_true] at h
  obtain ⟨r1, r2, rfl, _, r4⟩ := h
  rw [hallCs_inj r1, entriesA_inj r2, wCs_inj r4], fun x h => con_yes x.1 x.2 h⟩
end Go.Proofs.Ythbejciebmkclaa.Ab
namespace Go.Proofs.Ythbejciebmkclaa.Ab
open Go Go.RowKit
set_option linter.unusedVariables false
set_option linter.unusedSimpArgs false

structure RDoOk (w : LW) (a : LAsk) (now : Int) : Prop where
  f : w.h.Fits
  q : a.queue.size ≤ 1048576
  n : a.note.Fits
  x : -1000000000 ≤ w.h.next ∧ w.h.next ≤ 1000000000
  t : (∀ q ∈ w.h.queues, q.Ok) ∧ -1000000 ≤ now ∧ now ≤ 1000000
  i : HallNice w.h
  s : w.s.tags.length ≤ 1048576 ∧ -1000000000000 ≤ w.s.next ∧ w.s.next ≤ 1000000000000
  g : ∀ t ∈ w.s.tags, KeepOk (w, hdoneS w.h t) ∧ KeepOk (w, hbackS w.h t)
  k2 : KeepOk (w, makeS w.h a.queue a.n)
  k3 : KeepOk (w, dropS w.h a.queue)
  k4 : KeepOk (w, hputS w.h a.queue a.note)
  k9 : KeepOk (w, hpurgeS w.h a.queue)
def rdoLo : Nat → Lo := fun id => match id with | 1 => {hand := true} | 5 => {hand := true} | 35 => {hand := true} | 27 => {uo := [4, 14], kn := [145, 149], ex := [0]} | 28 => {uo := [13, 14], un := [6, 7]} | 38 => {uo := [6, 13, 19], un := [20], kn := [212, 218], ex := [0]} | 39 => {uo := [2, 3], un := [6, 7]} | _ => {}
theorem zero_hf (W : World) : (zeroValue 58).run Try.prog W = .ok .nilFunc W := by kernel_rfl
set_option maxRecDepth 100000 in
set_option maxHeartbeats 8000000 in
theorem con_rdo (w : LW) (a : LAsk) (now : Int) (hx : RDoOk w a now) : Con Try.prog D 64 [wA w, askA a, .int .i64 now] ⟨ansV (doS w a now), []⟩ := by
  have hok : GOk Try.prog D (tabG [eRefwrongask, eNo6, eYes6, eRmake, eRdrop, eRefhput, eRpurge, eRtake, eRdone, eRefhback]) := tabG_ok _
  have g1 := tabG_use (T := [eRefwrongask, eNo6, eYes6, eRmake, eRdrop, eRefhput, eRpurge, eRtake, eRdone, eRefhback]) (E := eRefwrongask) (i := 0) rfl (by decide) (a) (⟨hx.q, hx.n⟩)
  have g2 := fun (e : Int) => tabG_use (T := [eRefwrongask, eNo6, eYes6, eRmake, eRdrop, eRefhput, eRpurge, eRtake, eRdone, eRefhback]) (E := eNo6) (i := 1) rfl (by decide) ((w, e)) (trivial)
  have g0 := fun (r : Res4) (h : KeepOk (w, r)) => tabG_use (T := [eRefwrongask, eNo6, eYes6, eRmake, eRdrop, eRefhput, eRpurge, eRtake, eRdone, eRefhback]) (E := eYes6) (i := 2) rfl (by decide) ((w, r)) (h)
  have g3 := tabG_use (T := [eRefwrongask, eNo6, eYes6, eRmake, eRdrop, eRefhput, eRpurge, eRtake, eRdone, eRefhback]) (E := eRmake) (i := 3) rfl (by decide) ((w.h, a.queue, a.n)) (⟨hx.f, hx.q⟩)
  have g4 := tabG_use (T := [eRefwrongask, eNo6, eYes6, eRmake, eRdrop, eRefhput, eRpurge, eRtake, eRdone, eRefhback]) (E := eRdrop) (i := 4) rfl (by decide) ((w.h, a.queue)) (hx.f)
  have g5 := tabG_use (T := [eRefwrongask, eNo6, eYes6, eRmake, eRdrop, eRefhput, eRpurge, eRtake, eRdone, eRefhback]) (E := eRefhput) (i := 5) rfl (by decide) ((w.h, a.queue, a.note)) (⟨hx.f, hx.n, hx.x⟩)
  have g6 := tabG_use (T := [eRefwrongask, eNo6, eYes6, eRmake, eRdrop, eRefhput, eRpurge, eRtake, eRdone, eRefhback]) (E := eRpurge) (i := 6) rfl (by decide) ((w.h, a.queue)) (hx.f)
  have g7 := tabG_use (T := [eRefwrongask, eNo6, eYes6, eRmake, eRdrop, eRefhput, eRpurge, eRtake, eRdone, eRefhback]) (E := eRtake) (i := 7) rfl (by decide) ((w.h, a.queue, now)) (⟨hx.f, hx.t⟩)
  have g8 := fun (t : LTag) => tabG_use (T := [eRefwrongask, eNo6, eYes6, eRmake, eRdrop, eRefhput, eRpurge, eRtake, eRdone, eRefhback]) (E := eRdone) (i := 8) rfl (by decide) ((w.h, t)) (hx.f)
  have g9 := fun (t : LTag) => tabG_use (T := [eRefwrongask, eNo6, eYes6, eRmake, eRdrop, eRefhput, eRpurge, eRtake, eRdone, eRefhback]) (E := eRefhback) (i := 9) rfl (by decide) ((w.h, t)) (hx.i)
  generalize tabG [eRefwrongask, eNo6, eYes6, eRmake, eRdrop, eRefhput, eRpurge, eRtake, eRdone, eRefhback] = G at *
  dsimp only [eRefwrongask] at g1
  dsimp only [eNo6] at g2
  dsimp only [eYes6] at g0
  dsimp only [eRmake] at g3
  dsimp only [eRdrop] at g4
  dsimp only [eRefhput] at g5
  dsimp only [eRpurge] at g6
  dsimp only [eRtake] at g7
  dsimp only [eRdone] at g8
  dsimp only [eRefhback] at g9
  generalize hr : doS w a now = r
  unfold doS at hr
  have c2 := g0 _ hx.k2
  have c3 := g0 _ hx.k3
  have c4 := g0 _ hx.k4
  have c9 := g0 _ hx.k9
  have hg := hx.g
  have hsx := hx.s
  clear hx
  obtain ⟨ak, aq, an, ⟨ap, ab⟩⟩ := a
  simp only at hr g1 g3 g4 g5 g6 g7 c2 c3 c4 c9
  generalize wrongAskS ⟨ak, aq, an, ⟨ap, ab⟩⟩ = wr at *
  refine conW (G := G) (rs := [(6, some 87), (7, some 89), (8, none)]) hok Try.func64 Try.results64 Try.ntmps64 rdoLo fun X hP hD hG' hX => ?_
  have ice : ∀ z, z = wCs w → z = [.sl 3 (w.h.queues.map queueRow), .int .i64 w.h.next, .sl 1 (w.l.bytes.map byteRow), .int .i64 w.l.sure, .sl 4 (w.s.tags.map tagRow), .int .i64 w.s.next] := fun z h => h
  clear ice
  by_cases hw : wr = 0
  · have dw : (wr != 0) = false := by simp [hw]
    rw [if_neg (by simp [hw])] at hr
    by_cases hk : ak = 2
    · have e2 : (ak == 2) = true := by simp [hk]
      have e3 : (ak == 3) = false := by simp [hk]
      have e4 : (ak == 4) = false := by simp [hk]
      have e9 : (ak == 9) = false := by simp [hk]
      have e5 : (ak == 5) = false := by simp [hk]
      have e6 : (ak == 6) = false := by simp [hk]
      have e7 : (ak == 7) = false := by simp [hk]
      have e8 : (ak == 8) = false := by simp [hk]
      rw [if_pos hk] at hr
      subst hr
      clear c3 c4 c9 g7 g8 g9 g0
      generalize makeS w.h aq an = R at *
      generalize keepS w R = K at *
      obtain ⟨⟨⟨kq, kqn⟩, ⟨klb, kls⟩, ⟨kts, ktn⟩⟩, ⟨s1, s2, s3, s4, ⟨s5, s6⟩⟩⟩ := K
      obtain ⟨⟨rq, rx⟩, re, rr⟩ := R
      obtain ⟨⟨q, qn⟩, ⟨lb, ls⟩, ⟨ts, tn⟩⟩ := w
      simp only [hres, hallA, hallCs, entriesA, askA, noteA, ansV, wA, sayA, wCs, noF] at g1 g2 g3 c2
      simp only [argS, num, ansV, wA, wCs, askA, sayA, faultS, sayOk, say0, sayNone, noF, yesF]
      simp (disch := omega) only [go_sem, Nat.reduceLeDiff, reduceCtorEq, Nat.reduceAdd, Nat.reduceSub, Nat.reduceMul, Nat.reduceLT, Nat.reduceEqDiff, Int.reduceEq, Int.reduceLE, Int.reduceLT, Int.reducePow, Int.reduceMul, Int.reduceToNat, Int.reduceNeg, ↓reduceIte, hD, hG', wrap64, rdoLo, unbox, tmv, Option.some.injEq, exists_eq_left']
      refine Tr.wk (Wk.ice 3 (cs := [.sl 3 (q.map queueRow), .int .i64 qn, .sl 1 (lb.map byteRow), .int .i64 ls, .sl 4 (ts.map tagRow), .int .i64 tn]) (by rfl) rfl) (evC_sound hX (fun _ => {}) _ _ _ ?_)
      simp (disch := omega) only [go_sem, Nat.reduceLeDiff, reduceCtorEq, Nat.reduceAdd, Nat.reduceSub, Nat.reduceMul, Nat.reduceLT, Nat.reduceEqDiff, Int.reduceEq, Int.reduceLE, Int.reduceLT, Int.reducePow, Int.reduceMul, Int.reduceToNat, Int.reduceNeg, ↓reduceIte, hD, hG', wrap64, g1, g2, dw, rdoLo, unbox, tmv, Option.some.injEq, exists_eq_left']
      refine Tr.wk (Wk.ice 9 (cs := [.func 106 [.iptr [.sl 3 (q.map queueRow), .int .i64 qn, .sl 1 (lb.map byteRow), .int .i64 ls, .sl 4 (ts.map tagRow), .int .i64 tn]]]) (by rfl) rfl) (evC_sound hX (fun _ => {}) _ _ _ ?_)
      simp (disch := omega) only [go_sem, Nat.reduceLeDiff, reduceCtorEq, Nat.reduceAdd, Nat.reduceSub, Nat.reduceMul, Nat.reduceLT, Nat.reduceEqDiff, Int.reduceEq, Int.reduceLE, Int.reduceLT, Int.reducePow, Int.reduceMul, Int.reduceToNat, Int.reduceNeg, ↓reduceIte, hD, hG', wrap64, g3, c2, e2, e3, e4, e9, e5, e6, e7, e8, rdoLo, unbox, tmv, Option.some.injEq, exists_eq_left']
      (repeat (with_reducible refine And.intro (by first | omega | decide | (simp; done) | (simp only [List.length_append, List.length_cons, List.length_nil, List.length_map]; omega)) ?_))
      refine endW [] [] (by simp) rfl rfl rfl ?_ ?_ <;> simp only [go_sem, Nat.reduceEqDiff]
    by_cases hk : ak = 3
    · have e2 : (ak == 2) = false := by simp [hk]
      have e3 : (ak == 3) = true := by simp [hk]
      have e4 : (ak == 4) = false := by simp [hk]
      have e9 : (ak == 9) = false := by simp [hk]
      have e5 : (ak == 5) = false := by simp [hk]
      have e6 : (ak == 6) = false := by simp [hk]
      have e7 : (ak == 7) = false := by simp [hk]
      have e8 : (ak == 8) = false := by simp [hk]
      rw [if_neg (by omega), if_pos hk] at hr
      subst hr
      clear c2 c4 c9 g7 g8 g9 g0
      generalize dropS w.h aq = R at *
      generalize keepS w R = K at *
      obtain ⟨⟨⟨kq, kqn⟩, ⟨klb, kls⟩, ⟨kts, ktn⟩⟩, ⟨s1, s2, s3, s4, ⟨s5, s6⟩⟩⟩ := K
      obtain ⟨⟨rq, rx⟩, re, rr⟩ := R
      obtain ⟨⟨q, qn⟩, ⟨lb, ls⟩, ⟨ts, tn⟩⟩ := w
      simp only [hres, hallA, hallCs, entriesA, askA, noteA, ansV, wA, sayA, wCs, noF] at g1 g2 g4 c3
      simp only [argS, num, ansV, wA, wCs, askA, sayA, faultS, sayOk, say0, sayNone, noF, yesF]
      simp (disch := omega) only [go_sem, Nat.reduceLeDiff, reduceCtorEq, Nat.reduceAdd, Nat.reduceSub, Nat.reduceMul, Nat.reduceLT, Nat.reduceEqDiff, Int.reduceEq, Int.reduceLE, Int.reduceLT, Int.reducePow, Int.reduceMul, Int.reduceToNat, Int.reduceNeg, ↓reduceIte, hD, hG', wrap64, rdoLo, unbox, tmv, Option.some.injEq, exists_eq_left']
      refine Tr.wk (Wk.ice 3 (cs := [.sl 3 (q.map queueRow), .int .i64 qn, .sl 1 (lb.map byteRow), .int .i64 ls, .sl 4 (ts.map tagRow), .int .i64 tn]) (by rfl) rfl) (evC_sound hX (fun _ => {}) _ _ _ ?_)
      simp (disch := omega) only [go_sem, Nat.reduceLeDiff, reduceCtorEq, Nat.reduceAdd, Nat.reduceSub, Nat.reduceMul, Nat.reduceLT, Nat.reduceEqDiff, Int.reduceEq, Int.reduceLE, Int.reduceLT, Int.reducePow, Int.reduceMul, Int.reduceToNat, Int.reduceNeg, ↓reduceIte, hD, hG', wrap64, g1, g2, dw, rdoLo, unbox, tmv, Option.some.injEq, exists_eq_left']
      refine Tr.wk (Wk.ice 9 (cs := [.func 106 [.iptr [.sl 3 (q.map queueRow), .int .i64 qn, .sl 1 (lb.map byteRow), .int .i64 ls, .sl 4 (ts.map tagRow), .int .i64 tn]]]) (by rfl) rfl) (evC_sound hX (fun _ => {}) _ _ _ ?_)
      simp (disch := omega) only [go_sem, Nat.reduceLeDiff, reduceCtorEq, Nat.reduceAdd, Nat.reduceSub, Nat.reduceMul, Nat.reduceLT, Nat.reduceEqDiff, Int.reduceEq, Int.reduceLE, Int.reduceLT, Int.reducePow, Int.reduceMul, Int.reduceToNat, Int.reduceNeg, ↓reduceIte, hD, hG', wrap64, g4, c3, e2, e3, e4, e9, e5, e6, e7, e8, rdoLo, unbox, tmv, Option.some.injEq, exists_eq_left']
      (repeat (with_reducible refine And.intro (by first | omega | decide | (simp; done) | (simp only [List.length_append, List.length_cons, List.length_nil, List.length_map]; omega)) ?_))
      refine endW [] [] (by simp) rfl rfl rfl ?_ ?_ <;> simp only [go_sem, Nat.reduceEqDiff]
    by_cases hk : ak = 4
    · have e2 : (ak == 2) = false := by simp [hk]
      have e3 : (ak == 3) = false := by simp [hk]
      have e4 : (ak == 4) = true := by simp [hk]
      have e9 : (ak == 9) = false := by simp [hk]
      have e5 : (ak == 5) = false := by simp [hk]
      have e6 : (ak == 6) = false := by simp [hk]
      have e7 : (ak == 7) = false := by simp [hk]
      have e8 : (ak == 8) = false := by simp [hk]
      rw [if_neg (by omega), if_neg (by omega), if_pos hk] at hr
      subst hr
      clear c2 c3 c9 g7 g8 g9 g0
      generalize hputS w.h aq ⟨ap, ab⟩ = R at *
      generalize keepS w R = K at *
      obtain ⟨⟨⟨kq, kqn⟩, ⟨klb, kls⟩, ⟨kts, ktn⟩⟩, ⟨s1, s2, s3, s4, ⟨s5, s6⟩⟩⟩ := K
      obtain ⟨⟨rq, rx⟩, re, rr⟩ := R
      obtain ⟨⟨q, qn⟩, ⟨lb, ls⟩, ⟨ts, tn⟩⟩ := w
      simp only [hres, hallA, hallCs, entriesA, askA, noteA, ansV, wA, sayA, wCs, noF] at g1 g2 g5 c4
      simp only [argS, num, ansV, wA, wCs, askA, sayA, faultS, sayOk, say0, sayNone, noF, yesF]
      simp (disch := omega) only [go_sem, Nat.reduceLeDiff, reduceCtorEq, Nat.reduceAdd, Nat.reduceSub, Nat.reduceMul, Nat.reduceLT, Nat.reduceEqDiff, Int.reduceEq, Int.reduceLE, Int.reduceLT, Int.reducePow, Int.reduceMul, Int.reduceToNat, Int.reduceNeg, ↓reduceIte, hD, hG', wrap64, rdoLo, unbox, tmv, Option.some.injEq, exists_eq_left']
      refine Tr.wk (Wk.ice 3 (cs := [.sl 3 (q.map queueRow), .int .i64 qn, .sl 1 (lb.map byteRow), .int .i64 ls, .sl 4 (ts.map tagRow), .int .i64 tn]) (by rfl) rfl) (evC_sound hX (fun _ => {}) _ _ _ ?_)
      simp (disch := omega) only [go_sem, Nat.reduceLeDiff, reduceCtorEq, Nat.reduceAdd, Nat.reduceSub, Nat.reduceMul, Nat.reduceLT, Nat.reduceEqDiff, Int.reduceEq, Int.reduceLE, Int.reduceLT, Int.reducePow, Int.reduceMul, Int.reduceToNat, Int.reduceNeg, ↓reduceIte, hD, hG', wrap64, g1, g2, dw, rdoLo, unbox, tmv, Option.some.injEq, exists_eq_left']
      refine Tr.wk (Wk.ice 9 (cs := [.func 106 [.iptr [.sl 3 (q.map queueRow), .int .i64 qn, .sl 1 (lb.map byteRow), .int .i64 ls, .sl 4 (ts.map tagRow), .int .i64 tn]]]) (by rfl) rfl) (evC_sound hX (fun _ => {}) _ _ _ ?_)
      simp (disch := omega) only [go_sem, Nat.reduceLeDiff, reduceCtorEq, Nat.reduceAdd, Nat.reduceSub, Nat.reduceMul, Nat.reduceLT, Nat.reduceEqDiff, Int.reduceEq, Int.reduceLE, Int.reduceLT, Int.reducePow, Int.reduceMul, Int.reduceToNat, Int.reduceNeg, ↓reduceIte, hD, hG', wrap64, g5, c4, e2, e3, e4, e9, e5, e6, e7, e8, rdoLo, unbox, tmv, Option.some.injEq, exists_eq_left']
      (repeat (with_reducible refine And.intro (by first | omega | decide | (simp; done) | (simp only [List.length_append, List.length_cons, List.length_nil, List.length_map]; omega)) ?_))
      refine endW [] [] (by simp) rfl rfl rfl ?_ ?_ <;> simp only [go_sem, Nat.reduceEqDiff]
    by_cases hk : ak = 9
    · have e2 : (ak == 2) = false := by simp [hk]
      have e3 : (ak == 3) = false := by simp [hk]
      have e4 : (ak == 4) = false := by simp [hk]
      have e9 : (ak == 9) = true := by simp [hk]
      have e5 : (ak == 5) = false := by simp [hk]
      have e6 : (ak == 6) = false := by simp [hk]
      have e7 : (ak == 7) = false := by simp [hk]
      have e8 : (ak == 8) = false := by simp [hk]
      rw [if_neg (by omega), if_neg (by omega), if_neg (by omega), if_pos hk] at hr
      subst hr
      clear c2 c3 c4 g7 g8 g9 g0
      generalize hpurgeS w.h aq = R at *
      generalize keepS w R = K at *
      obtain ⟨⟨⟨kq, kqn⟩, ⟨klb, kls⟩, ⟨kts, ktn⟩⟩, ⟨s1, s2, s3, s4, ⟨s5, s6⟩⟩⟩ := K
      obtain ⟨⟨rq, rx⟩, re, rr⟩ := R
      obtain ⟨⟨q, qn⟩, ⟨lb, ls⟩, ⟨ts, tn⟩⟩ := w
      simp only [hres, hallA, hallCs, entriesA, askA, noteA, ansV, wA, sayA, wCs, noF] at g1 g2 g6 c9
      simp only [argS, num, ansV, wA, wCs, askA, sayA, faultS, sayOk, say0, sayNone, noF, yesF]
      simp (disch := omega) only [go_sem, Nat.reduceLeDiff, reduceCtorEq, Nat.reduceAdd, Nat.reduceSub, Nat.reduceMul, Nat.reduceLT, Nat.reduceEqDiff, Int.reduceEq, Int.reduceLE, Int.reduceLT, Int.reducePow, Int.reduceMul, Int.reduceToNat, Int.reduceNeg, ↓reduceIte, hD, hG', wrap64, rdoLo, unbox, tmv, Option.some.injEq, exists_eq_left']
      refine Tr.wk (Wk.ice 3 (cs := [.sl 3 (q.map queueRow), .int .i64 qn, .sl 1 (lb.map byteRow), .int .i64 ls, .sl 4 (ts.map tagRow), .int .i64 tn]) (by rfl) rfl) (evC_sound hX (fun _ => {}) _ _ _ ?_)
      simp (disch := omega) only [go_sem, Nat.reduceLeDiff, reduceCtorEq, Nat.reduceAdd, Nat.reduceSub, Nat.reduceMul, Nat.reduceLT, Nat.reduceEqDiff, Int.reduceEq, Int.reduceLE, Int.reduceLT, Int.reducePow, Int.reduceMul, Int.reduceToNat, Int.reduceNeg, ↓reduceIte, hD, hG', wrap64, g1, g2, dw, rdoLo, unbox, tmv, Option.some.injEq, exists_eq_left']
      refine Tr.wk (Wk.ice 9 (cs := [.func 106 [.iptr [.sl 3 (q.map queueRow), .int .i64 qn, .sl 1 (lb.map byteRow), .int .i64 ls, .sl 4 (ts.map tagRow), .int .i64 tn]]]) (by rfl) rfl) (evC_sound hX (fun _ => {}) _ _ _ ?_)
      simp (disch := omega) only [go_sem, Nat.reduceLeDiff, reduceCtorEq, Nat.reduceAdd, Nat.reduceSub, Nat.reduceMul, Nat.reduceLT, Nat.reduceEqDiff, Int.reduceEq, Int.reduceLE, Int.reduceLT, Int.reducePow, Int.reduceMul, Int.reduceToNat, Int.reduceNeg, ↓reduceIte, hD, hG', wrap64, g6, c9, e2, e3, e4, e9, e5, e6, e7, e8, rdoLo, unbox, tmv, Option.some.injEq, exists_eq_left']
      (repeat (with_reducible refine And.intro (by first | omega | decide | (simp; done) | (simp only [List.length_append, List.length_cons, List.length_nil, List.length_map]; omega)) ?_))
      refine endW [] [] (by simp) rfl rfl rfl ?_ ?_ <;> simp only [go_sem, Nat.reduceEqDiff]
    by_cases hk : ak = 5 ∨ ak = 6
    · have e2 : (ak == 2) = false := by simp; omega
      have e3 : (ak == 3) = false := by simp; omega
      have e4 : (ak == 4) = false := by simp; omega
      have e9 : (ak == 9) = false := by simp; omega
      rw [if_neg (by omega), if_neg (by omega), if_neg (by omega), if_neg (by omega), if_pos hk] at hr
      clear c2 c3 c4 c9 g0 g3 g4 g5 g6 g8 g9 hg
      unfold stakeS at hr
      obtain ⟨⟨q, qn⟩, ⟨lb, ls⟩, ⟨ts, tn⟩⟩ := w
      simp only at hr g7 hsx
      generalize htakeS ⟨q, qn⟩ aq now = T at *
      obtain ⟨⟨xq, xn⟩, ⟨i1, i2, i3, i4, i5, ⟨i6, i7⟩⟩, e⟩ := T
      simp only [hallA, askA, itemA, itemRow, ansV, wA, wCs, sayA, faultS] at g1 g2 g7
      simp only at hr
      have e56 : ((ak == 5) = true ∧ (ak == 6) = false ∧ ¬ ak = 6) ∨ ((ak == 5) = false ∧ (ak == 6) = true ∧ ak = 6) := by
        rcases hk with h | h <;> simp [h]
      by_cases h4 : 4 ≤ ts.length
      · have d4 : decide ((ts.length : Int) ≥ 4) = true := decide_eq_true (by omega)
        rw [if_pos h4] at hr
        simp only at hr
        rw [if_neg (by decide)] at hr
        subst hr
        rcases e56 with ⟨e5, e6, h6⟩ | ⟨e5, e6, h6⟩
        all_goals (
          simp only [argS, num, ansV, wA, wCs, askA, sayA, faultS, sayOk, say0, sayNone, noF, yesF]
          simp (disch := omega) only [go_sem, Nat.reduceLeDiff, reduceCtorEq, Nat.reduceAdd, Nat.reduceSub, Nat.reduceMul, Nat.reduceLT, Nat.reduceEqDiff, Int.reduceEq, Int.reduceLE, Int.reduceLT, Int.reducePow, Int.reduceMul, Int.reduceToNat, Int.reduceNeg, ↓reduceIte, hD, hG', wrap64, rdoLo, unbox, tmv, Option.some.injEq, exists_eq_left']
          refine Tr.wk (Wk.ice 3 (cs := [.sl 3 (q.map queueRow), .int .i64 qn, .sl 1 (lb.map byteRow), .int .i64 ls, .sl 4 (ts.map tagRow), .int .i64 tn]) (by rfl) rfl) (evC_sound hX (fun _ => {}) _ _ _ ?_)
          simp (disch := omega) only [go_sem, Nat.reduceLeDiff, reduceCtorEq, Nat.reduceAdd, Nat.reduceSub, Nat.reduceMul, Nat.reduceLT, Nat.reduceEqDiff, Int.reduceEq, Int.reduceLE, Int.reduceLT, Int.reducePow, Int.reduceMul, Int.reduceToNat, Int.reduceNeg, ↓reduceIte, hD, hG', wrap64, g1, g2, dw, rdoLo, unbox, tmv, Option.some.injEq, exists_eq_left']
          refine Tr.wk (Wk.ice 9 (cs := [.func 106 [.iptr [.sl 3 (q.map queueRow), .int .i64 qn, .sl 1 (lb.map byteRow), .int .i64 ls, .sl 4 (ts.map tagRow), .int .i64 tn]]]) (by rfl) rfl) (evC_sound hX (fun _ => {}) _ _ _ ?_)
          simp (disch := omega) only [go_sem, Nat.reduceLeDiff, reduceCtorEq, Nat.reduceAdd, Nat.reduceSub, Nat.reduceMul, Nat.reduceLT, Nat.reduceEqDiff, Int.reduceEq, Int.reduceLE, Int.reduceLT, Int.reducePow, Int.reduceMul, Int.reduceToNat, Int.reduceNeg, ↓reduceIte, hD, hG', wrap64, g7, g2, e2, e3, e4, e9, e5, e6, d4, rdoLo, unbox, tmv, Option.some.injEq, exists_eq_left']
          (repeat (with_reducible refine And.intro (by first | omega | decide | (simp; done) | (simp only [List.length_append, List.length_cons, List.length_nil, List.length_map]; omega)) ?_))
          refine endW [] [] (by simp) rfl rfl rfl ?_ ?_ <;> simp only [go_sem, Nat.reduceEqDiff]
          try simp [note0, cov, covs, subs, names, namess])
      have d4 : decide ((ts.length : Int) ≥ 4) = false := decide_eq_false (by omega)
      rw [if_neg h4] at hr
      by_cases h9 : e = 9
      · have d9 : (e == 9) = true := by simp [h9]
        rw [if_pos h9] at hr
        simp only at hr
        simp only [if_true] at hr
        rcases e56 with ⟨e5, e6, h6⟩ | ⟨e5, e6, h6⟩
        · rw [if_neg h6] at hr
          subst hr
          simp only [argS, num, ansV, wA, wCs, askA, sayA, faultS, sayOk, say0, sayNone, noF, yesF]
          simp (disch := omega) only [go_sem, Nat.reduceLeDiff, reduceCtorEq, Nat.reduceAdd, Nat.reduceSub, Nat.reduceMul, Nat.reduceLT, Nat.reduceEqDiff, Int.reduceEq, Int.reduceLE, Int.reduceLT, Int.reducePow, Int.reduceMul, Int.reduceToNat, Int.reduceNeg, ↓reduceIte, hD, hG', wrap64, rdoLo, unbox, tmv, Option.some.injEq, exists_eq_left']
          refine Tr.wk (Wk.ice 3 (cs := [.sl 3 (q.map queueRow), .int .i64 qn, .sl 1 (lb.map byteRow), .int .i64 ls, .sl 4 (ts.map tagRow), .int .i64 tn]) (by rfl) rfl) (evC_sound hX (fun _ => {}) _ _ _ ?_)
          simp (disch := omega) only [go_sem, Nat.reduceLeDiff, reduceCtorEq, Nat.reduceAdd, Nat.reduceSub, Nat.reduceMul, Nat.reduceLT, Nat.reduceEqDiff, Int.reduceEq, Int.reduceLE, Int.reduceLT, Int.reducePow, Int.reduceMul, Int.reduceToNat, Int.reduceNeg, ↓reduceIte, hD, hG', wrap64, g1, g2, dw, rdoLo, unbox, tmv, Option.some.injEq, exists_eq_left']
          refine Tr.wk (Wk.ice 9 (cs := [.func 106 [.iptr [.sl 3 (q.map queueRow), .int .i64 qn, .sl 1 (lb.map byteRow), .int .i64 ls, .sl 4 (ts.map tagRow), .int .i64 tn]]]) (by rfl) rfl) (evC_sound hX (fun _ => {}) _ _ _ ?_)
          simp (disch := omega) only [go_sem, Nat.reduceLeDiff, reduceCtorEq, Nat.reduceAdd, Nat.reduceSub, Nat.reduceMul, Nat.reduceLT, Nat.reduceEqDiff, Int.reduceEq, Int.reduceLE, Int.reduceLT, Int.reducePow, Int.reduceMul, Int.reduceToNat, Int.reduceNeg, ↓reduceIte, hD, hG', wrap64, g7, g2, e2, e3, e4, e9, e5, e6, d4, d9, rdoLo, unbox, tmv, Option.some.injEq, exists_eq_left']
          (repeat (with_reducible refine And.intro (by first | omega | decide | (simp; done) | (simp only [List.length_append, List.length_cons, List.length_nil, List.length_map]; omega)) ?_))
          refine endW [] [] (by simp) rfl rfl rfl ?_ ?_ <;> simp only [go_sem, Nat.reduceEqDiff]
          all_goals (try simp [note0, cov, covs, subs, names, namess])
        · rw [if_pos h6] at hr
          subst hr
          simp only [argS, num, ansV, wA, wCs, askA, sayA, faultS, sayOk, say0, sayNone, noF, yesF]
          simp (disch := omega) only [go_sem, Nat.reduceLeDiff, reduceCtorEq, Nat.reduceAdd, Nat.reduceSub, Nat.reduceMul, Nat.reduceLT, Nat.reduceEqDiff, Int.reduceEq, Int.reduceLE, Int.reduceLT, Int.reducePow, Int.reduceMul, Int.reduceToNat, Int.reduceNeg, ↓reduceIte, hD, hG', wrap64, rdoLo, unbox, tmv, Option.some.injEq, exists_eq_left']
          refine Tr.wk (Wk.ice 3 (cs := [.sl 3 (q.map queueRow), .int .i64 qn, .sl 1 (lb.map byteRow), .int .i64 ls, .sl 4 (ts.map tagRow), .int .i64 tn]) (by rfl) rfl) (evC_sound hX (fun _ => {}) _ _ _ ?_)
          simp (disch := omega) only [go_sem, Nat.reduceLeDiff, reduceCtorEq, Nat.reduceAdd, Nat.reduceSub, Nat.reduceMul, Nat.reduceLT, Nat.reduceEqDiff, Int.reduceEq, Int.reduceLE, Int.reduceLT, Int.reducePow, Int.reduceMul, Int.reduceToNat, Int.reduceNeg, ↓reduceIte, hD, hG', wrap64, g1, g2, dw, rdoLo, unbox, tmv, Option.some.injEq, exists_eq_left']
          refine Tr.wk (Wk.ice 9 (cs := [.func 106 [.iptr [.sl 3 (q.map queueRow), .int .i64 qn, .sl 1 (lb.map byteRow), .int .i64 ls, .sl 4 (ts.map tagRow), .int .i64 tn]]]) (by rfl) rfl) (evC_sound hX (fun _ => {}) _ _ _ ?_)
          simp (disch := omega) only [go_sem, Nat.reduceLeDiff, reduceCtorEq, Nat.reduceAdd, Nat.reduceSub, Nat.reduceMul, Nat.reduceLT, Nat.reduceEqDiff, Int.reduceEq, Int.reduceLE, Int.reduceLT, Int.reducePow, Int.reduceMul, Int.reduceToNat, Int.reduceNeg, ↓reduceIte, hD, hG', wrap64, g7, g2, e2, e3, e4, e9, e5, e6, d4, d9, rdoLo, unbox, tmv, Option.some.injEq, exists_eq_left']
          (repeat (with_reducible refine And.intro (by first | omega | decide | (simp; done) | (simp only [List.length_append, List.length_cons, List.length_nil, List.length_map]; omega)) ?_))
          refine endW [] [] (by simp) rfl rfl rfl ?_ ?_ <;> simp only [go_sem, Nat.reduceEqDiff]
          all_goals (try simp [note0, cov, covs, subs, names, namess])
      have d9 : (e == 9) = false := by simp [h9]
      rw [if_neg h9] at hr
      by_cases h0 : e = 0
      · have d0 : (e != 0) = false := by simp [h0]
        rw [if_neg (show ¬ (e ≠ 0) by simp [h0])] at hr
        simp only at hr
        rw [if_neg (by decide)] at hr
        subst hr
        rcases e56 with ⟨e5, e6, h6⟩ | ⟨e5, e6, h6⟩
        all_goals (
          simp only [argS, num, ansV, wA, wCs, askA, sayA, faultS, sayOk, say0, sayNone, noF, yesF]
          simp (disch := omega) only [go_sem, Nat.reduceLeDiff, reduceCtorEq, Nat.reduceAdd, Nat.reduceSub, Nat.reduceMul, Nat.reduceLT, Nat.reduceEqDiff, Int.reduceEq, Int.reduceLE, Int.reduceLT, Int.reducePow, Int.reduceMul, Int.reduceToNat, Int.reduceNeg, ↓reduceIte, hD, hG', wrap64, rdoLo, unbox, tmv, Option.some.injEq, exists_eq_left']
          refine Tr.wk (Wk.ice 3 (cs := [.sl 3 (q.map queueRow), .int .i64 qn, .sl 1 (lb.map byteRow), .int .i64 ls, .sl 4 (ts.map tagRow), .int .i64 tn]) (by rfl) rfl) (evC_sound hX (fun _ => {}) _ _ _ ?_)
          simp (disch := omega) only [go_sem, Nat.reduceLeDiff, reduceCtorEq, Nat.reduceAdd, Nat.reduceSub, Nat.reduceMul, Nat.reduceLT, Nat.reduceEqDiff, Int.reduceEq, Int.reduceLE, Int.reduceLT, Int.reducePow, Int.reduceMul, Int.reduceToNat, Int.reduceNeg, ↓reduceIte, hD, hG', wrap64, g1, g2, dw, rdoLo, unbox, tmv, Option.some.injEq, exists_eq_left']
          refine Tr.wk (Wk.ice 9 (cs := [.func 106 [.iptr [.sl 3 (q.map queueRow), .int .i64 qn, .sl 1 (lb.map byteRow), .int .i64 ls, .sl 4 (ts.map tagRow), .int .i64 tn]]]) (by rfl) rfl) (evC_sound hX (fun _ => {}) _ _ _ ?_)
          simp (disch := omega) only [go_sem, Nat.reduceLeDiff, reduceCtorEq, Nat.reduceAdd, Nat.reduceSub, Nat.reduceMul, Nat.reduceLT, Nat.reduceEqDiff, Int.reduceEq, Int.reduceLE, Int.reduceLT, Int.reducePow, Int.reduceMul, Int.reduceToNat, Int.reduceNeg, ↓reduceIte, hD, hG', wrap64, g7, g2, e2, e3, e4, e9, e5, e6, d4, d9, d0, rdoLo, unbox, tmv, Option.some.injEq, exists_eq_left']
          (repeat (with_reducible refine And.intro (by first | omega | decide | (simp; done) | (simp only [List.length_append, List.length_cons, List.length_nil, List.length_map]; omega)) ?_))
          refine endW [159] [] (by simp) rfl rfl rfl ?_ ?_ <;> simp only [go_sem, Nat.reduceEqDiff]
          try simp [tagRow, cov, covs, subs, names, namess])
      · have d0 : (e != 0) = true := by simp [h0]
        rw [if_pos (show e ≠ 0 from h0)] at hr
        simp only at hr
        rw [if_neg (by decide)] at hr
        subst hr
        have g2 := g2 e
        rcases e56 with ⟨e5, e6, h6⟩ | ⟨e5, e6, h6⟩
        all_goals (
          simp only [argS, num, ansV, wA, wCs, askA, sayA, faultS, sayOk, say0, sayNone, noF, yesF]
          simp (disch := omega) only [go_sem, Nat.reduceLeDiff, reduceCtorEq, Nat.reduceAdd, Nat.reduceSub, Nat.reduceMul, Nat.reduceLT, Nat.reduceEqDiff, Int.reduceEq, Int.reduceLE, Int.reduceLT, Int.reducePow, Int.reduceMul, Int.reduceToNat, Int.reduceNeg, ↓reduceIte, hD, hG', wrap64, rdoLo, unbox, tmv, Option.some.injEq, exists_eq_left']
          refine Tr.wk (Wk.ice 3 (cs := [.sl 3 (q.map queueRow), .int .i64 qn, .sl 1 (lb.map byteRow), .int .i64 ls, .sl 4 (ts.map tagRow), .int .i64 tn]) (by rfl) rfl) (evC_sound hX (fun _ => {}) _ _ _ ?_)
          simp (disch := omega) only [go_sem, Nat.reduceLeDiff, reduceCtorEq, Nat.reduceAdd, Nat.reduceSub, Nat.reduceMul, Nat.reduceLT, Nat.reduceEqDiff, Int.reduceEq, Int.reduceLE, Int.reduceLT, Int.reducePow, Int.reduceMul, Int.reduceToNat, Int.reduceNeg, ↓reduceIte, hD, hG', wrap64, g1, g2, dw, rdoLo, unbox, tmv, Option.some.injEq, exists_eq_left']
          refine Tr.wk (Wk.ice 9 (cs := [.func 106 [.iptr [.sl 3 (q.map queueRow), .int .i64 qn, .sl 1 (lb.map byteRow), .int .i64 ls, .sl 4 (ts.map tagRow), .int .i64 tn]]]) (by rfl) rfl) (evC_sound hX (fun _ => {}) _ _ _ ?_)
          simp (disch := omega) only [go_sem, Nat.reduceLeDiff, reduceCtorEq, Nat.reduceAdd, Nat.reduceSub, Nat.reduceMul, Nat.reduceLT, Nat.reduceEqDiff, Int.reduceEq, Int.reduceLE, Int.reduceLT, Int.reducePow, Int.reduceMul, Int.reduceToNat, Int.reduceNeg, ↓reduceIte, hD, hG', wrap64, g7, g2, e2, e3, e4, e9, e5, e6, d4, d9, d0, rdoLo, unbox, tmv, Option.some.injEq, exists_eq_left']
          (repeat (with_reducible refine And.intro (by first | omega | decide | (simp; done) | (simp only [List.length_append, List.length_cons, List.length_nil, List.length_map]; omega)) ?_))
          refine endW [] [] (by simp) rfl rfl rfl ?_ ?_ <;> simp only [go_sem, Nat.reduceEqDiff]
          try simp [note0, cov, covs, subs, names, namess])
    have e2 : (ak == 2) = false := by simp; omega
    have e3 : (ak == 3) = false := by simp; omega
    have e4 : (ak == 4) = false := by simp; omega
    have e9 : (ak == 9) = false := by simp; omega
    have e5 : (ak == 5) = false := by simp; omega
    have e6 : (ak == 6) = false := by simp; omega
    rw [if_neg (by omega), if_neg (by omega), if_neg (by omega), if_neg (by omega), if_neg hk] at hr
    clear c2 c3 c4 c9 g3 g4 g5 g6 g7
    by_cases h78 : ak = 7 ∨ ak = 8
    · have e78 : ((ak == 7) = true ∧ (ak == 8) = false) ∨ ((ak == 7) = false ∧ (ak == 8) = true) := by
        rcases h78 with h | h <;> simp [h]
      rw [if_pos h78] at hr
      obtain ⟨⟨q, qn⟩, ⟨lb, ls⟩, ⟨ts, tn⟩⟩ := w
      simp only at hsx hg g8 g9
      have hlook : ak = 7 ∧ lookV (.int .i64) (.int .i64 ak) .nilFunc [(.int .i64 7, .func (.func 35) #[] #[]), (.int .i64 8, .func (.func 36) #[] #[])] = some (.func (.func 35) #[] #[]) ∨
          ak = 8 ∧ lookV (.int .i64) (.int .i64 ak) .nilFunc [(.int .i64 7, .func (.func 35) #[] #[]), (.int .i64 8, .func (.func 36) #[] #[])] = some (.func (.func 36) #[] #[]) := by
        rcases h78 with h | h
        · exact .inl ⟨h, by rw [h]; simp [lookV, Instr.sameNow]⟩
        · exact .inr ⟨h, by rw [h]; simp [lookV, Instr.sameNow]⟩
      have hu : X.P.underlying 146 = some (.map 3 58) := by rw [hP]; exact Try.underlying146
      have hku : X.P.underlying 3 = some (.int .i64) := by rw [hP]; exact Try.underlying3
      have hback : (ak = 7 → (ak == 8) = false) ∧ (ak = 8 → (ak == 8) = true) := by constructor <;> intro h <;> simp [h]
      have gR : ∀ t, (if (ak == 8) = true then G 36 [hallA ⟨q, qn⟩, tagA t] else G 35 [hallA ⟨q, qn⟩, tagA t]) = some ⟨hres (if (ak == 8) = true then hbackS ⟨q, qn⟩ t else hdoneS ⟨q, qn⟩ t), []⟩ := fun t => by
        cases hb : (ak == 8)
        · simp only [Bool.false_eq_true, if_false]; exact g8 t
        · simp only [if_true]; exact g9 t
      have gK : ∀ t, t ∈ ts → KeepOk (⟨⟨q, qn⟩, ⟨lb, ls⟩, ⟨ts, tn⟩⟩, (if (ak == 8) = true then hbackS ⟨q, qn⟩ t else hdoneS ⟨q, qn⟩ t)) := fun t ht => by
        have := hg t ht
        cases (ak == 8)
        · exact this.1
        · exact this.2
      clear g8 g9 hg
      have g2' := g2
      simp only [ansV, wA, wCs, sayA, faultS] at g2
      simp only [askA] at g1
      have hst : ∀ b, stagS ⟨⟨q, qn⟩, ⟨lb, ls⟩, ⟨ts, tn⟩⟩ an b = if findT ts an < 0 then (⟨⟨q, qn⟩, ⟨lb, ls⟩, ⟨ts, tn⟩⟩, faultS 6) else
          let K := keepS ⟨⟨q, qn⟩, ⟨lb, ls⟩, ⟨ts, tn⟩⟩ (if b = true then hbackS ⟨q, qn⟩ (ts.getD (findT ts an).toNat tag0) else hdoneS ⟨q, qn⟩ (ts.getD (findT ts an).toNat tag0))
          if K.2.err ≠ 8 then (⟨K.1.h, K.1.l, ⟨ts.eraseIdx (findT ts an).toNat, tn⟩⟩, K.2) else K := fun b => rfl
      have hres0 : r = ((stagS ⟨⟨q, qn⟩, ⟨lb, ls⟩, ⟨ts, tn⟩⟩ an (ak == 8)).1, (stagS ⟨⟨q, qn⟩, ⟨lb, ls⟩, ⟨ts, tn⟩⟩ an (ak == 8)).2, false) := hr.symm
      rw [hst] at hres0
      clear hr hst
      rcases e78 with ⟨e7, e8⟩ | ⟨e7, e8⟩
      · simp only [argS, num, ansV, wA, wCs, askA, sayA, faultS, sayOk, say0, sayNone, noF, yesF]
        simp (disch := omega) only [go_sem, Nat.reduceLeDiff, reduceCtorEq, Nat.reduceAdd, Nat.reduceSub, Nat.reduceMul, Nat.reduceLT, Nat.reduceEqDiff, Int.reduceEq, Int.reduceLE, Int.reduceLT, Int.reducePow, Int.reduceMul, Int.reduceToNat, Int.reduceNeg, ↓reduceIte, hD, hG', wrap64, rdoLo, unbox, tmv, Option.some.injEq, exists_eq_left']
        refine Tr.wk (Wk.ice 3 (cs := [.sl 3 (q.map queueRow), .int .i64 qn, .sl 1 (lb.map byteRow), .int .i64 ls, .sl 4 (ts.map tagRow), .int .i64 tn]) (by rfl) rfl) (evC_sound hX (fun _ => {}) _ _ _ ?_)
        simp (disch := omega) only [go_sem, Nat.reduceLeDiff, reduceCtorEq, Nat.reduceAdd, Nat.reduceSub, Nat.reduceMul, Nat.reduceLT, Nat.reduceEqDiff, Int.reduceEq, Int.reduceLE, Int.reduceLT, Int.reducePow, Int.reduceMul, Int.reduceToNat, Int.reduceNeg, ↓reduceIte, hD, hG', wrap64, g1, g2, dw, rdoLo, unbox, tmv, Option.some.injEq, exists_eq_left']
        refine Tr.wk (Wk.ice 9 (cs := [.func 106 [.iptr [.sl 3 (q.map queueRow), .int .i64 qn, .sl 1 (lb.map byteRow), .int .i64 ls, .sl 4 (ts.map tagRow), .int .i64 tn]]]) (by rfl) rfl) (evC_sound hX (fun _ => {}) _ _ _ ?_)
        simp (disch := omega) only [go_sem, Nat.reduceLeDiff, reduceCtorEq, Nat.reduceAdd, Nat.reduceSub, Nat.reduceMul, Nat.reduceLT, Nat.reduceEqDiff, Int.reduceEq, Int.reduceLE, Int.reduceLT, Int.reducePow, Int.reduceMul, Int.reduceToNat, Int.reduceNeg, ↓reduceIte, hD, hG', wrap64, g2, e2, e3, e4, e9, e5, e6, e7, e8, rdoLo, unbox, tmv, Option.some.injEq, exists_eq_left']
        refine Tr.loop (ι := Nat) (fun i => i ≤ ts.length ∧ ∀ j, j < i → tagged an (ts.getD j tag0) = false) (fun i => { nt := 241, tm := [(3, .iptr [.sl 3 (q.map queueRow), .int .i64 qn, .sl 1 (lb.map byteRow), .int .i64 ls, .sl 4 (ts.map tagRow), .int .i64 tn]), (4, .ptr 4 0), (6, .ptr 6 0), (7, .ptr 7 0), (9, .iptr [.func 106 [.iptr [.sl 3 (q.map queueRow), .int .i64 qn, .sl 1 (lb.map byteRow), .int .i64 ls, .sl 4 (ts.map tagRow), .int .i64 tn]]]), (11, .func 107 [.iptr [.func 106 [.iptr [.sl 3 (q.map queueRow), .int .i64 qn, .sl 1 (lb.map byteRow), .int .i64 ls, .sl 4 (ts.map tagRow), .int .i64 tn]]], .iptr [.sl 3 (q.map queueRow), .int .i64 qn, .sl 1 (lb.map byteRow), .int .i64 ls, .sl 4 (ts.map tagRow), .int .i64 tn]]), (178, .sl 4 (ts.map tagRow)), (179, .int .i64 ts.length), (180, .int .i64 i)], bl := [(4, some (.cells [.int .i64 ak, .str aq.data.toList, .int .i64 an, .sl 4 (ap.map propRow), .sl 1 (ab.map byteRow)])), (6, some (.cells [.nils, .int .i64 0, .nils, .int .i64 0, .nils, .int .i64 0])), (7, some (.cells [.int .i64 0, .int .i64 0, .int .i64 0, .int .i64 0, .nils, .nils]))] }) (fun i => ts.length - i) 0
          ⟨⟨Nat.zero_le _, fun j hj => absurd hj (Nat.not_lt_zero j)⟩, wk_of hD [(4, 4), (6, 6), (7, 7)] rfl rfl (by simp only [go_sem, Nat.reduceEqDiff]; simp) (by simp only [go_sem, Nat.reduceEqDiff])⟩ ?_
        rintro i ⟨hi, hnot⟩
        refine evC_sound hX rdoLo _ _ _ ?_
        simp (disch := omega) only [go_sem, Nat.reduceLeDiff, reduceCtorEq, Nat.reduceAdd, Nat.reduceSub, Nat.reduceMul, Nat.reduceLT, Nat.reduceEqDiff, Int.reduceEq, Int.reduceLE, Int.reduceLT, Int.reducePow, Int.reduceMul, Int.reduceToNat, Int.reduceNeg, ↓reduceIte, hD, hG', wrap64, rdoLo, unbox, tmv, Option.some.injEq, exists_eq_left']
        refine condK_split (fun h => ?_) (fun h => ?_)
        · rw [decide_eq_true_eq] at h
          have hi1 : i < ts.length := by omega
          have hgx := tagGet hi1
          have hmem := getD_mem (d := tag0) hi1
          have hf : tagged an (ts.getD i tag0) = true → findT ts an = (i : Int) := fun hp => by
            unfold findT
            rw [placeG_hit hi1 hnot hp]
            omega
          have gR := gR (ts.getD i tag0)
          have gK := gK _ hmem
          generalize hx : ts.getD i tag0 = t at *
          obtain ⟨t1, t2, t3, t4⟩ := t
          simp only [tagRow] at hgx
          cases hp : tagged an ⟨t1, t2, t3, t4⟩
          · have ne : (t1 != an) = true := by
              have : (t1 == an) = false := hp
              simp only [bne, this, Bool.not_false]
            simp (disch := omega) only [go_sem, Nat.reduceLeDiff, reduceCtorEq, Nat.reduceAdd, Nat.reduceSub, Nat.reduceMul, Nat.reduceLT, Nat.reduceEqDiff, Int.reduceEq, Int.reduceLE, Int.reduceLT, Int.reducePow, Int.reduceMul, Int.reduceToNat, Int.reduceNeg, ↓reduceIte, hD, hG', wrap64, hgx, ne, rdoLo, unbox, tmv, Option.some.injEq, exists_eq_left']
            refine ⟨by omega, i + 1, ⟨⟨by omega, fun j hj => ?_⟩, by omega⟩, wk_of hD [(4, 4), (6, 6), (7, 7)] rfl rfl ?_ ?_⟩
            · by_cases hji : j = i
              · rw [hji, hx]; exact hp
              · exact hnot j (by omega)
            all_goals simp only [go_sem, Nat.reduceEqDiff]
            simp
          · have ne : (t1 != an) = false := by
              have : (t1 == an) = true := hp
              simp only [bne, this, Bool.not_true]
            have hkr := hf hp
            rw [hkr, if_neg (by omega)] at hres0
            simp only [Int.toNat_natCast, hx] at hres0
            have cK := g0 _ gK
            rw [e8] at cK gR hres0
            simp only [if_true, Bool.false_eq_true, if_false] at cK gR hres0
            clear gK hf g2 g2' g0
            generalize hRR : hdoneS ⟨q, qn⟩ ⟨t1, t2, t3, t4⟩ = R at *
            have hs := @keepS_s ⟨⟨q, qn⟩, ⟨lb, ls⟩, ⟨ts, tn⟩⟩ R
            generalize keepS ⟨⟨q, qn⟩, ⟨lb, ls⟩, ⟨ts, tn⟩⟩ R = K at *
            obtain ⟨⟨⟨kq, kqn⟩, ⟨klb, kls⟩, ⟨kts, ktn⟩⟩, ⟨s1, s2, s3, s4, ⟨s5, s6⟩⟩⟩ := K
            obtain ⟨⟨rq, rx⟩, re, rr⟩ := R
            simp only [LSess.mk.injEq] at hs
            obtain ⟨rfl, rfl⟩ := hs
            simp only [hres, hallA, hallCs, entriesA, tagA, tagRow, ansV, wA, wCs, sayA, noF] at gR cK
            simp only at hres0
            simp (disch := omega) only [go_sem, Nat.reduceLeDiff, reduceCtorEq, Nat.reduceAdd, Nat.reduceSub, Nat.reduceMul, Nat.reduceLT, Nat.reduceEqDiff, Int.reduceEq, Int.reduceLE, Int.reduceLT, Int.reducePow, Int.reduceMul, Int.reduceToNat, Int.reduceNeg, ↓reduceIte, hD, hG', wrap64, hgx, ne, rdoLo, unbox, tmv, Option.some.injEq, exists_eq_left']
            refine ⟨by omega, ?_⟩
            refine Tr.lit hX 0 (d := 190) [(.int .i64 7, .func (.func 35) #[] #[]), (.int .i64 8, .func (.func 36) #[] #[])] hu hku (by decide) ⟨_, rfl, rfl, rfl, rfl⟩ (by decide) ?_ ?_ ?_
            · unfold litOps
              repeat (first | exact trivial | refine ⟨⟨_, rfl, _, _, rfl, rfl, rfl, fun _ => rfl, fun _ => rfl⟩, ?_⟩ | unfold litOps)
            · unfold litNew
              repeat (first | exact trivial | refine ⟨rfl, rfl, ?_⟩ | unfold litNew)
            simp (disch := omega) only [go_sem, Nat.reduceLeDiff, reduceCtorEq, Nat.reduceAdd, Nat.reduceSub, Nat.reduceMul, Nat.reduceLT, Nat.reduceEqDiff, Int.reduceEq, Int.reduceLE, Int.reduceLT, Int.reducePow, Int.reduceMul, Int.reduceToNat, Int.reduceNeg, ↓reduceIte, hD, hG', wrap64, rdoLo, unbox, tmv, Option.some.injEq, exists_eq_left']
            refine inl_look (dk := .int .i64) (key := .int .i64 ak) (z := .nilFunc) (v := .func (.func 35) #[] #[]) (av := .func 35 []) hu hku rfl rfl rfl (by rw [hP]; exact zero_hf) (by simp [cst]) (hlook.elim (fun h => h.2) (fun h => by rw [h.1] at e8; exact absurd e8 (by decide))) (fun _ _ _ => .func _ [] #[] rfl (fun i x v h => by simp at h)) rfl (by simp) ?_
            simp (disch := omega) only [go_sem, Nat.reduceLeDiff, reduceCtorEq, Nat.reduceAdd, Nat.reduceSub, Nat.reduceMul, Nat.reduceLT, Nat.reduceEqDiff, Int.reduceEq, Int.reduceLE, Int.reduceLT, Int.reducePow, Int.reduceMul, Int.reduceToNat, Int.reduceNeg, ↓reduceIte, hD, hG', wrap64, gR, cK, rdoLo, unbox, tmv, Option.some.injEq, exists_eq_left']
            have htd : (kts.take i ++ kts.drop (i + 1)) = kts.eraseIdx i := (List.eraseIdx_eq_take_drop_succ ..).symm
            have hl1 : (kts.take i).length ≤ kts.length := by rw [List.length_take]; omega
            have hl2 : (kts.drop (i + 1)).length ≤ kts.length := by rw [List.length_drop]; omega
            have hkl := hsx.1
            have htn : ((i : Int) + 1).toNat = i + 1 := by omega
            by_cases h8 : s4 = 8
            · have d8 : (s4 != 8) = false := by simp [h8]
              rw [if_neg (by simp [h8])] at hres0
              subst hres0
              simp only [ansV, wA, wCs, sayA]
              simp (disch := omega) only [go_sem, Nat.reduceLeDiff, reduceCtorEq, Nat.reduceAdd, Nat.reduceSub, Nat.reduceMul, Nat.reduceLT, Nat.reduceEqDiff, Int.reduceEq, Int.reduceLE, Int.reduceLT, Int.reducePow, Int.reduceMul, Int.reduceToNat, Int.reduceNeg, ↓reduceIte, hD, hG', wrap64, d8, rdoLo, unbox, tmv, Option.some.injEq, exists_eq_left']
              (repeat (with_reducible refine And.intro (by first | omega | decide | (simp; done) | (simp only [List.length_append, List.length_cons, List.length_nil, List.length_map]; omega)) ?_))
              refine endW [] [] (by simp) rfl rfl rfl ?_ ?_ <;> simp only [go_sem, Nat.reduceEqDiff]
            · have d8 : (s4 != 8) = true := by simp [h8]
              rw [if_pos (by simpa using h8)] at hres0
              subst hres0
              simp only [ansV, wA, wCs, sayA]
              simp (disch := omega) only [go_sem, Nat.reduceLeDiff, reduceCtorEq, Nat.reduceAdd, Nat.reduceSub, Nat.reduceMul, Nat.reduceLT, Nat.reduceEqDiff, Int.reduceEq, Int.reduceLE, Int.reduceLT, Int.reducePow, Int.reduceMul, Int.reduceToNat, Int.reduceNeg, ↓reduceIte, hD, hG', wrap64, d8, htn, List.take_length, rdoLo, unbox, tmv, Option.some.injEq, exists_eq_left']
              (repeat (with_reducible refine And.intro (by first | omega | decide | (simp; done) | (simp only [List.length_append, List.length_cons, List.length_nil, List.length_map]; omega)) ?_))
              refine endW [225] [] (by simp) rfl rfl rfl ?_ ?_ <;> simp only [go_sem, Nat.reduceEqDiff]
              all_goals (try simp [← htd, cov, covs, subs, names, namess])
        · rw [decide_eq_false_iff_not] at h
          have hie : i = ts.length := by omega
          subst hie
          have hf : findT ts an < 0 := by
            unfold findT
            rw [placeG_miss hnot]
            decide
          rw [if_pos hf] at hres0
          subst hres0
          have g2 := g2 6
          simp only [argS, num, ansV, wA, wCs, askA, sayA, faultS, sayOk, say0, sayNone, noF, yesF]
          simp (disch := omega) only [go_sem, Nat.reduceLeDiff, reduceCtorEq, Nat.reduceAdd, Nat.reduceSub, Nat.reduceMul, Nat.reduceLT, Nat.reduceEqDiff, Int.reduceEq, Int.reduceLE, Int.reduceLT, Int.reducePow, Int.reduceMul, Int.reduceToNat, Int.reduceNeg, ↓reduceIte, hD, hG', wrap64, g2, rdoLo, unbox, tmv, Option.some.injEq, exists_eq_left']
          (repeat (with_reducible refine And.intro (by first | omega | decide | (simp; done) | (simp only [List.length_append, List.length_cons, List.length_nil, List.length_map]; omega)) ?_))
          refine endW [] [] (by simp) rfl rfl rfl ?_ ?_ <;> simp only [go_sem, Nat.reduceEqDiff]
          all_goals (try simp [note0, cov, covs, subs, names, namess])
      · simp only [argS, num, ansV, wA, wCs, askA, sayA, faultS, sayOk, say0, sayNone, noF, yesF]
        simp (disch := omega) only [go_sem, Nat.reduceLeDiff, reduceCtorEq, Nat.reduceAdd, Nat.reduceSub, Nat.reduceMul, Nat.reduceLT, Nat.reduceEqDiff, Int.reduceEq, Int.reduceLE, Int.reduceLT, Int.reducePow, Int.reduceMul, Int.reduceToNat, Int.reduceNeg, ↓reduceIte, hD, hG', wrap64, rdoLo, unbox, tmv, Option.some.injEq, exists_eq_left']
        refine Tr.wk (Wk.ice 3 (cs := [.sl 3 (q.map queueRow), .int .i64 qn, .sl 1 (lb.map byteRow), .int .i64 ls, .sl 4 (ts.map tagRow), .int .i64 tn]) (by rfl) rfl) (evC_sound hX (fun _ => {}) _ _ _ ?_)
        simp (disch := omega) only [go_sem, Nat.reduceLeDiff, reduceCtorEq, Nat.reduceAdd, Nat.reduceSub, Nat.reduceMul, Nat.reduceLT, Nat.reduceEqDiff, Int.reduceEq, Int.reduceLE, Int.reduceLT, Int.reducePow, Int.reduceMul, Int.reduceToNat, Int.reduceNeg, ↓reduceIte, hD, hG', wrap64, g1, g2, dw, rdoLo, unbox, tmv, Option.some.injEq, exists_eq_left']
        refine Tr.wk (Wk.ice 9 (cs := [.func 106 [.iptr [.sl 3 (q.map queueRow), .int .i64 qn, .sl 1 (lb.map byteRow), .int .i64 ls, .sl 4 (ts.map tagRow), .int .i64 tn]]]) (by rfl) rfl) (evC_sound hX (fun _ => {}) _ _ _ ?_)
        simp (disch := omega) only [go_sem, Nat.reduceLeDiff, reduceCtorEq, Nat.reduceAdd, Nat.reduceSub, Nat.reduceMul, Nat.reduceLT, Nat.reduceEqDiff, Int.reduceEq, Int.reduceLE, Int.reduceLT, Int.reducePow, Int.reduceMul, Int.reduceToNat, Int.reduceNeg, ↓reduceIte, hD, hG', wrap64, g2, e2, e3, e4, e9, e5, e6, e7, e8, rdoLo, unbox, tmv, Option.some.injEq, exists_eq_left']
        refine Tr.loop (ι := Nat) (fun i => i ≤ ts.length ∧ ∀ j, j < i → tagged an (ts.getD j tag0) = false) (fun i => { nt := 241, tm := [(3, .iptr [.sl 3 (q.map queueRow), .int .i64 qn, .sl 1 (lb.map byteRow), .int .i64 ls, .sl 4 (ts.map tagRow), .int .i64 tn]), (4, .ptr 4 0), (6, .ptr 6 0), (7, .ptr 7 0), (9, .iptr [.func 106 [.iptr [.sl 3 (q.map queueRow), .int .i64 qn, .sl 1 (lb.map byteRow), .int .i64 ls, .sl 4 (ts.map tagRow), .int .i64 tn]]]), (11, .func 107 [.iptr [.func 106 [.iptr [.sl 3 (q.map queueRow), .int .i64 qn, .sl 1 (lb.map byteRow), .int .i64 ls, .sl 4 (ts.map tagRow), .int .i64 tn]]], .iptr [.sl 3 (q.map queueRow), .int .i64 qn, .sl 1 (lb.map byteRow), .int .i64 ls, .sl 4 (ts.map tagRow), .int .i64 tn]]), (178, .sl 4 (ts.map tagRow)), (179, .int .i64 ts.length), (180, .int .i64 i)], bl := [(4, some (.cells [.int .i64 ak, .str aq.data.toList, .int .i64 an, .sl 4 (ap.map propRow), .sl 1 (ab.map byteRow)])), (6, some (.cells [.nils, .int .i64 0, .nils, .int .i64 0, .nils, .int .i64 0])), (7, some (.cells [.int .i64 0, .int .i64 0, .int .i64 0, .int .i64 0, .nils, .nils]))] }) (fun i => ts.length - i) 0
          ⟨⟨Nat.zero_le _, fun j hj => absurd hj (Nat.not_lt_zero j)⟩, wk_of hD [(4, 4), (6, 6), (7, 7)] rfl rfl (by simp only [go_sem, Nat.reduceEqDiff]; simp) (by simp only [go_sem, Nat.reduceEqDiff])⟩ ?_
        rintro i ⟨hi, hnot⟩
        refine evC_sound hX rdoLo _ _ _ ?_
        simp (disch := omega) only [go_sem, Nat.reduceLeDiff, reduceCtorEq, Nat.reduceAdd, Nat.reduceSub, Nat.reduceMul, Nat.reduceLT, Nat.reduceEqDiff, Int.reduceEq, Int.reduceLE, Int.reduceLT, Int.reducePow, Int.reduceMul, Int.reduceToNat, Int.reduceNeg, ↓reduceIte, hD, hG', wrap64, rdoLo, unbox, tmv, Option.some.injEq, exists_eq_left']
        refine condK_split (fun h => ?_) (fun h => ?_)
        · rw [decide_eq_true_eq] at h
          have hi1 : i < ts.length := by omega
          have hgx := tagGet hi1
          have hmem := getD_mem (d := tag0) hi1
          have hf : tagged an (ts.getD i tag0) = true → findT ts an = (i : Int) := fun hp => by
            unfold findT
            rw [placeG_hit hi1 hnot hp]
            omega
          have gR := gR (ts.getD i tag0)
          have gK := gK _ hmem
          generalize hx : ts.getD i tag0 = t at *
          obtain ⟨t1, t2, t3, t4⟩ := t
          simp only [tagRow] at hgx
          cases hp : tagged an ⟨t1, t2, t3, t4⟩
          · have ne : (t1 != an) = true := by
              have : (t1 == an) = false := hp
              simp only [bne, this, Bool.not_false]
            simp (disch := omega) only [go_sem, Nat.reduceLeDiff, reduceCtorEq, Nat.reduceAdd, Nat.reduceSub, Nat.reduceMul, Nat.reduceLT, Nat.reduceEqDiff, Int.reduceEq, Int.reduceLE, Int.reduceLT, Int.reducePow, Int.reduceMul, Int.reduceToNat, Int.reduceNeg, ↓reduceIte, hD, hG', wrap64, hgx, ne, rdoLo, unbox, tmv, Option.some.injEq, exists_eq_left']
            refine ⟨by omega, i + 1, ⟨⟨by omega, fun j hj => ?_⟩, by omega⟩, wk_of hD [(4, 4), (6, 6), (7, 7)] rfl rfl ?_ ?_⟩
            · by_cases hji : j = i
              · rw [hji, hx]; exact hp
              · exact hnot j (by omega)
            all_goals simp only [go_sem, Nat.reduceEqDiff]
            simp
          · have ne : (t1 != an) = false := by
              have : (t1 == an) = true := hp
              simp only [bne, this, Bool.not_true]
            have hkr := hf hp
            rw [hkr, if_neg (by omega)] at hres0
            simp only [Int.toNat_natCast, hx] at hres0
            have cK := g0 _ gK
            rw [e8] at cK gR hres0
            simp only [if_true, Bool.false_eq_true, if_false] at cK gR hres0
            clear gK hf g2 g2' g0
            generalize hRR : hbackS ⟨q, qn⟩ ⟨t1, t2, t3, t4⟩ = R at *
            have hs := @keepS_s ⟨⟨q, qn⟩, ⟨lb, ls⟩, ⟨ts, tn⟩⟩ R
            generalize keepS ⟨⟨q, qn⟩, ⟨lb, ls⟩, ⟨ts, tn⟩⟩ R = K at *
            obtain ⟨⟨⟨kq, kqn⟩, ⟨klb, kls⟩, ⟨kts, ktn⟩⟩, ⟨s1, s2, s3, s4, ⟨s5, s6⟩⟩⟩ := K
            obtain ⟨⟨rq, rx⟩, re, rr⟩ := R
            simp only [LSess.mk.injEq] at hs
            obtain ⟨rfl, rfl⟩ := hs
            simp only [hres, hallA, hallCs, entriesA, tagA, tagRow, ansV, wA, wCs, sayA, noF] at gR cK
            simp only at hres0
            simp (disch := omega) only [go_sem, Nat.reduceLeDiff, reduceCtorEq, Nat.reduceAdd, Nat.reduceSub, Nat.reduceMul, Nat.reduceLT, Nat.reduceEqDiff, Int.reduceEq, Int.reduceLE, Int.reduceLT, Int.reducePow, Int.reduceMul, Int.reduceToNat, Int.reduceNeg, ↓reduceIte, hD, hG', wrap64, hgx, ne, rdoLo, unbox, tmv, Option.some.injEq, exists_eq_left']
            refine ⟨by omega, ?_⟩
            refine Tr.lit hX 0 (d := 190) [(.int .i64 7, .func (.func 35) #[] #[]), (.int .i64 8, .func (.func 36) #[] #[])] hu hku (by decide) ⟨_, rfl, rfl, rfl, rfl⟩ (by decide) ?_ ?_ ?_
            · unfold litOps
              repeat (first | exact trivial | refine ⟨⟨_, rfl, _, _, rfl, rfl, rfl, fun _ => rfl, fun _ => rfl⟩, ?_⟩ | unfold litOps)
            · unfold litNew
              repeat (first | exact trivial | refine ⟨rfl, rfl, ?_⟩ | unfold litNew)
            simp (disch := omega) only [go_sem, Nat.reduceLeDiff, reduceCtorEq, Nat.reduceAdd, Nat.reduceSub, Nat.reduceMul, Nat.reduceLT, Nat.reduceEqDiff, Int.reduceEq, Int.reduceLE, Int.reduceLT, Int.reducePow, Int.reduceMul, Int.reduceToNat, Int.reduceNeg, ↓reduceIte, hD, hG', wrap64, rdoLo, unbox, tmv, Option.some.injEq, exists_eq_left']
            refine inl_look (dk := .int .i64) (key := .int .i64 ak) (z := .nilFunc) (v := .func (.func 36) #[] #[]) (av := .func 36 []) hu hku rfl rfl rfl (by rw [hP]; exact zero_hf) (by simp [cst]) (hlook.elim (fun h => by rw [h.1] at e7; exact absurd e7 (by decide)) (fun h => h.2)) (fun _ _ _ => .func _ [] #[] rfl (fun i x v h => by simp at h)) rfl (by simp) ?_
            simp (disch := omega) only [go_sem, Nat.reduceLeDiff, reduceCtorEq, Nat.reduceAdd, Nat.reduceSub, Nat.reduceMul, Nat.reduceLT, Nat.reduceEqDiff, Int.reduceEq, Int.reduceLE, Int.reduceLT, Int.reducePow, Int.reduceMul, Int.reduceToNat, Int.reduceNeg, ↓reduceIte, hD, hG', wrap64, gR, cK, rdoLo, unbox, tmv, Option.some.injEq, exists_eq_left']
            have htd : (kts.take i ++ kts.drop (i + 1)) = kts.eraseIdx i := (List.eraseIdx_eq_take_drop_succ ..).symm
            have hl1 : (kts.take i).length ≤ kts.length := by rw [List.length_take]; omega
            have hl2 : (kts.drop (i + 1)).length ≤ kts.length := by rw [List.length_drop]; omega
            have hkl := hsx.1
            have htn : ((i : Int) + 1).toNat = i + 1 := by omega
            by_cases h8 : s4 = 8
            · have d8 : (s4 != 8) = false := by simp [h8]
              rw [if_neg (by simp [h8])] at hres0
              subst hres0
              simp only [ansV, wA, wCs, sayA]
              simp (disch := omega) only [go_sem, Nat.reduceLeDiff, reduceCtorEq, Nat.reduceAdd, Nat.reduceSub, Nat.reduceMul, Nat.reduceLT, Nat.reduceEqDiff, Int.reduceEq, Int.reduceLE, Int.reduceLT, Int.reducePow, Int.reduceMul, Int.reduceToNat, Int.reduceNeg, ↓reduceIte, hD, hG', wrap64, d8, rdoLo, unbox, tmv, Option.some.injEq, exists_eq_left']
              (repeat (with_reducible refine And.intro (by first | omega | decide | (simp; done) | (simp only [List.length_append, List.length_cons, List.length_nil, List.length_map]; omega)) ?_))
              refine endW [] [] (by simp) rfl rfl rfl ?_ ?_ <;> simp only [go_sem, Nat.reduceEqDiff]
            · have d8 : (s4 != 8) = true := by simp [h8]
              rw [if_pos (by simpa using h8)] at hres0
              subst hres0
              simp only [ansV, wA, wCs, sayA]
              simp (disch := omega) only [go_sem, Nat.reduceLeDiff, reduceCtorEq, Nat.reduceAdd, Nat.reduceSub, Nat.reduceMul, Nat.reduceLT, Nat.reduceEqDiff, Int.reduceEq, Int.reduceLE, Int.reduceLT, Int.reducePow, Int.reduceMul, Int.reduceToNat, Int.reduceNeg, ↓reduceIte, hD, hG', wrap64, d8, htn, List.take_length, rdoLo, unbox, tmv, Option.some.injEq, exists_eq_left']
              (repeat (with_reducible refine And.intro (by first | omega | decide | (simp; done) | (simp only [List.length_append, List.length_cons, List.length_nil, List.length_map]; omega)) ?_))
              refine endW [225] [] (by simp) rfl rfl rfl ?_ ?_ <;> simp only [go_sem, Nat.reduceEqDiff]
              all_goals (try simp [← htd, cov, covs, subs, names, namess])
        · rw [decide_eq_false_iff_not] at h
          have hie : i = ts.length := by omega
          subst hie
          have hf : findT ts an < 0 := by
            unfold findT
            rw [placeG_miss hnot]
            decide
          rw [if_pos hf] at hres0
          subst hres0
          have g2 := g2 6
          simp only [argS, num, ansV, wA, wCs, askA, sayA, faultS, sayOk, say0, sayNone, noF, yesF]
          simp (disch := omega) only [go_sem, Nat.reduceLeDiff, reduceCtorEq, Nat.reduceAdd, Nat.reduceSub, Nat.reduceMul, Nat.reduceLT, Nat.reduceEqDiff, Int.reduceEq, Int.reduceLE, Int.reduceLT, Int.reducePow, Int.reduceMul, Int.reduceToNat, Int.reduceNeg, ↓reduceIte, hD, hG', wrap64, g2, rdoLo, unbox, tmv, Option.some.injEq, exists_eq_left']
          (repeat (with_reducible refine And.intro (by first | omega | decide | (simp; done) | (simp only [List.length_append, List.length_cons, List.length_nil, List.length_map]; omega)) ?_))
          refine endW [] [] (by simp) rfl rfl rfl ?_ ?_ <;> simp only [go_sem, Nat.reduceEqDiff]
          all_goals (try simp [note0, cov, covs, subs, names, namess])
    · rw [if_neg h78] at hr
      subst hr
      have e7 : (ak == 7) = false := by simp; omega
      have e8 : (ak == 8) = false := by simp; omega
      obtain ⟨⟨q, qn⟩, ⟨lb, ls⟩, ⟨ts, tn⟩⟩ := w
      simp only [ansV, wA, wCs, sayA, faultS] at g2
      simp only [askA] at g1
      simp only [argS, num, ansV, wA, wCs, askA, sayA, faultS, sayOk, say0, sayNone, noF, yesF]
      simp (disch := omega) only [go_sem, Nat.reduceLeDiff, reduceCtorEq, Nat.reduceAdd, Nat.reduceSub, Nat.reduceMul, Nat.reduceLT, Nat.reduceEqDiff, Int.reduceEq, Int.reduceLE, Int.reduceLT, Int.reducePow, Int.reduceMul, Int.reduceToNat, Int.reduceNeg, ↓reduceIte, hD, hG', wrap64, rdoLo, unbox, tmv, Option.some.injEq, exists_eq_left']
      refine Tr.wk (Wk.ice 3 (cs := [.sl 3 (q.map queueRow), .int .i64 qn, .sl 1 (lb.map byteRow), .int .i64 ls, .sl 4 (ts.map tagRow), .int .i64 tn]) (by rfl) rfl) (evC_sound hX (fun _ => {}) _ _ _ ?_)
      simp (disch := omega) only [go_sem, Nat.reduceLeDiff, reduceCtorEq, Nat.reduceAdd, Nat.reduceSub, Nat.reduceMul, Nat.reduceLT, Nat.reduceEqDiff, Int.reduceEq, Int.reduceLE, Int.reduceLT, Int.reducePow, Int.reduceMul, Int.reduceToNat, Int.reduceNeg, ↓reduceIte, hD, hG', wrap64, g1, g2, dw, rdoLo, unbox, tmv, Option.some.injEq, exists_eq_left']
      refine Tr.wk (Wk.ice 9 (cs := [.func 106 [.iptr [.sl 3 (q.map queueRow), .int .i64 qn, .sl 1 (lb.map byteRow), .int .i64 ls, .sl 4 (ts.map tagRow), .int .i64 tn]]]) (by rfl) rfl) (evC_sound hX (fun _ => {}) _ _ _ ?_)
      simp (disch := omega) only [go_sem, Nat.reduceLeDiff, reduceCtorEq, Nat.reduceAdd, Nat.reduceSub, Nat.reduceMul, Nat.reduceLT, Nat.reduceEqDiff, Int.reduceEq, Int.reduceLE, Int.reduceLT, Int.reducePow, Int.reduceMul, Int.reduceToNat, Int.reduceNeg, ↓reduceIte, hD, hG', wrap64, g2, e2, e3, e4, e9, e5, e6, e7, e8, rdoLo, unbox, tmv, Option.some.injEq, exists_eq_left']
      refine endW [] [] (by simp) rfl rfl rfl ?_ ?_ <;> simp only [go_sem, Nat.reduceEqDiff]
      all_goals (try simp [note0, cov, covs, subs, names, namess])
  · have dw : (wr != 0) = true := by simp [hw]
    rw [if_pos (by simp [hw])] at hr
    subst hr
    have g2 := g2 wr
    obtain ⟨⟨q, qn⟩, ⟨lb, ls⟩, ⟨ts, tn⟩⟩ := w
    simp only [askA, ansV, wA, wCs, sayA, faultS] at g1 g2
    simp only [argS, num, ansV, wA, wCs, askA, sayA, faultS, sayOk, say0, sayNone, noF, yesF]
    simp (disch := omega) only [go_sem, Nat.reduceLeDiff, reduceCtorEq, Nat.reduceAdd, Nat.reduceSub, Nat.reduceMul, Nat.reduceLT, Nat.reduceEqDiff, Int.reduceEq, Int.reduceLE, Int.reduceLT, Int.reducePow, Int.reduceMul, Int.reduceToNat, Int.reduceNeg, ↓reduceIte, hD, hG', wrap64, rdoLo, unbox, tmv, Option.some.injEq, exists_eq_left']
    refine Tr.wk (Wk.ice 3 (cs := [.sl 3 (q.map queueRow), .int .i64 qn, .sl 1 (lb.map byteRow), .int .i64 ls, .sl 4 (ts.map tagRow), .int .i64 tn]) (by rfl) rfl) (evC_sound hX (fun _ => {}) _ _ _ ?_)
    simp (disch := omega) only [go_sem, Nat.reduceLeDiff, reduceCtorEq, Nat.reduceAdd, Nat.reduceSub, Nat.reduceMul, Nat.reduceLT, Nat.reduceEqDiff, Int.reduceEq, Int.reduceLE, Int.reduceLT, Int.reducePow, Int.reduceMul, Int.reduceToNat, Int.reduceNeg, ↓reduceIte, hD, hG', wrap64, g1, g2, dw, rdoLo, unbox, tmv, Option.some.injEq, exists_eq_left']
    (repeat (with_reducible refine And.intro (by first | omega | decide | (simp; done) | (simp only [List.length_append, List.length_cons, List.length_nil, List.length_map]; omega)) ?_))
    refine endW [] [] (by simp) rfl rfl rfl ?_ ?_ <;> simp only [go_sem, Nat.reduceEqDiff]
    all_goals (try simp [note0, cov, covs, subs, names, namess])
end Go.Proofs.Ythbejciebmkclaa.Ab
namespace Go.Proofs.Ythbejciebmkclaa.Ab
open Go Go.RowKit
set_option linter.unusedVariables false
set_option linter.unusedSimpArgs false

def leaveT (w : LW) (t : LTag) : LW := (keepS w (hbackS w.h t)).1
def wleaveS (w : LW) : LW := w.s.tags.foldl leaveT w
def leaveI (w : LW) (i : Nat) : LW := (w.s.tags.take i).foldl leaveT w
theorem leaveI_s (w : LW) : ∀ i, (leaveI w i).s = w.s := fun i => by
  unfold leaveI
  generalize w.s.tags.take i = l
  have : ∀ (l : List LTag) (v : LW), (l.foldl leaveT v).s = v.s := fun l => by
    induction l with
    | nil => intro v; rfl
    | cons t r ih => intro v; rw [List.foldl_cons, ih]; exact keepS_s
  exact this l w
theorem leaveI_succ {w : LW} {i : Nat} (hi : i < w.s.tags.length) : leaveI w (i + 1) = leaveT (leaveI w i) (w.s.tags.getD i tag0) := by
  unfold leaveI
  rw [List.take_succ_eq_append_getElem hi, List.foldl_append]
  simp [hi]
def LvOk (w : LW) : Prop := w.s.tags.length ≤ 1048576 ∧ ∀ i, i < w.s.tags.length → (HallIn (leaveI w i).h ∧ HallNice (leaveI w i).h) ∧ KeepOk (leaveI w i, hbackS (leaveI w i).h (w.s.tags.getD i tag0))
def leaveLo : Nat → Lo := fun id => match id with | 5 => {uo := [10], un := [15], ex := [4]} | 7 => {uo := [8, 9], un := [6, 7]} | _ => {}
set_option maxRecDepth 100000 in
set_option maxHeartbeats 2000000 in
theorem con_leave (w : LW) (hx : LvOk w) : Con Try.prog D 68 [hallA w.h, llogA w.l, sessA w.s] ⟨.tup [hallA (wleaveS w).h, llogA (wleaveS w).l], []⟩ := by
  have hok : GOk Try.prog D (tabG [eHback]) := tabG_ok _
  have g1 := fun (h : LHall) (t : LTag) (hh : HallIn h) => tabG_use (T := [eHback]) (E := eHback) (i := 0) rfl (by decide) ((h, t)) (hh)
  have gk : ∀ z, tabG ([eHback] : List (Ent Try.prog D)) 109 z = none := fun z => rfl
  generalize tabG [eHback] = G at *
  dsimp only [eHback] at g1
  obtain ⟨hl, hok'⟩ := hx
  have hS : wleaveS w = leaveI w w.s.tags.length := by unfold wleaveS leaveI; rw [List.take_length]
  have hs := leaveI_s w
  have hsucc := @leaveI_succ w
  have h0 : leaveI w 0 = w := rfl
  rw [hS]
  generalize leaveI w = L at *
  obtain ⟨⟨q, qn⟩, ⟨lb, ls⟩, ⟨ts, tn⟩⟩ := w
  simp only at hl hok' hs hsucc h0
  refine conM (G := G) (M := keepM) (rs := [(6, some 24), (7, some 32)]) keepM_ok hok Try.func68 Try.results68 Try.ntmps68 leaveLo fun X hP hD hG' hX => ?_
  have hk1 := fun (v : LW) (r : Res4) (h : KeepOk (v, r)) => keepM_1 (w := v) (r := r) h
  generalize keepM = M at *
  simp only [argS, num, hallA, llogA, logCs, sessA, sessCs]
  simp (disch := omega) only [go_sem, Nat.reduceLeDiff, reduceCtorEq, Nat.reduceAdd, Nat.reduceSub, Nat.reduceMul, Nat.reduceLT, Nat.reduceEqDiff, Int.reduceEq, Int.reduceLE, Int.reduceLT, Int.reducePow, Int.reduceMul, Int.reduceToNat, Int.reduceNeg, ↓reduceIte, hD, hG', wrap64, leaveLo, unbox, tmv, Option.some.injEq, exists_eq_left']
  refine Tr.loop (ι := Nat) (fun i => i ≤ ts.length) (fun i => { nt := 43, tm := [(6, .ptr 6 0), (7, .ptr 7 0), (8, .ptr 15 0), (17, .sl 4 (ts.map tagRow)), (18, .int .i64 ts.length), (19, .int .i64 i)], bl := [(6, some (.cells [.nils, .int .i64 0])), (7, some (.cells [.nils, .int .i64 0])), (15, some (.cells (wCs (L i))))] }) (fun i => ts.length - i) 0
    ⟨Nat.zero_le _, wk_of hD [(6, 6), (7, 7), (15, 15)] rfl rfl (by simp only [go_sem, Nat.reduceEqDiff]; simp) (by simp only [go_sem, Nat.reduceEqDiff]; simp [h0, wCs, cov, covs, subs, names, namess])⟩ ?_
  intro i hi
  refine evC_sound hX leaveLo _ _ _ ?_
  have hsi := hs i
  simp (disch := omega) only [go_sem, Nat.reduceLeDiff, reduceCtorEq, Nat.reduceAdd, Nat.reduceSub, Nat.reduceMul, Nat.reduceLT, Nat.reduceEqDiff, Int.reduceEq, Int.reduceLE, Int.reduceLT, Int.reducePow, Int.reduceMul, Int.reduceToNat, Int.reduceNeg, ↓reduceIte, hD, hG', wrap64, leaveLo, unbox, tmv, Option.some.injEq, exists_eq_left']
  refine condK_split (fun h => ?_) (fun h => ?_)
  · rw [decide_eq_true_eq] at h
    have hi1 : i < ts.length := by omega
    have hgx := tagGet hi1
    have hsu := hsucc hi1
    obtain ⟨⟨ho1, ho2⟩, ho3⟩ := hok' i hi1
    have g1 := g1 (L i).h (ts.getD i tag0) ho1
    have c1 := hk1 _ _ ho3
    generalize ts.getD i tag0 = t at *
    unfold leaveT at hsu
    generalize hbackS (L i).h t = R at *
    generalize hK : keepS (L i) R = K at *
    generalize L i = V at *
    obtain ⟨⟨vq, vn⟩, ⟨vb, vs⟩, ⟨vt, vx⟩⟩ := V
    obtain ⟨⟨⟨kq, kqn⟩, ⟨klb, kls⟩, ⟨kts, ktn⟩⟩, ⟨s1, s2, s3, s4, ⟨s5, s6⟩⟩⟩ := K
    obtain ⟨⟨rq, rx⟩, re, rr⟩ := R
    obtain ⟨t1, t2, t3, t4⟩ := t
    simp only [hres, hallA, hallCs, entriesA, tagA, tagRow, sayA, wCs] at g1 c1 hgx
    simp only [wCs]
    simp (disch := omega) only [go_sem, Nat.reduceLeDiff, reduceCtorEq, Nat.reduceAdd, Nat.reduceSub, Nat.reduceMul, Nat.reduceLT, Nat.reduceEqDiff, Int.reduceEq, Int.reduceLE, Int.reduceLT, Int.reducePow, Int.reduceMul, Int.reduceToNat, Int.reduceNeg, ↓reduceIte, hD, hG', wrap64, hgx, g1, c1, gk, leaveLo, unbox, tmv, Option.some.injEq, exists_eq_left']
    (repeat (with_reducible refine And.intro (by first | omega | decide | (simp; done) | (simp only [List.length_append, List.length_cons, List.length_nil, List.length_map]; omega)) ?_))
    refine ⟨i + 1, ⟨by omega, by omega⟩, wk_of hD [(6, 6), (7, 7), (15, 15)] rfl rfl ?_ ?_⟩ <;> simp only [go_sem, Nat.reduceEqDiff]
    · simp
    · simp [hsu, wCs, cov, covs, subs, names, namess]
  · rw [decide_eq_false_iff_not] at h
    have hie : i = ts.length := by omega
    subst hie
    generalize L ts.length = V at *
    obtain ⟨⟨vq, vn⟩, ⟨vb, vs⟩, ⟨vt, vx⟩⟩ := V
    simp only [wCs]
    simp (disch := omega) only [go_sem, Nat.reduceLeDiff, reduceCtorEq, Nat.reduceAdd, Nat.reduceSub, Nat.reduceMul, Nat.reduceLT, Nat.reduceEqDiff, Int.reduceEq, Int.reduceLE, Int.reduceLT, Int.reducePow, Int.reduceMul, Int.reduceToNat, Int.reduceNeg, ↓reduceIte, hD, hG', wrap64, leaveLo, unbox, tmv, Option.some.injEq, exists_eq_left']
    (repeat (with_reducible refine And.intro (by first | omega | decide | (simp; done) | (simp only [List.length_append, List.length_cons, List.length_nil, List.length_map]; omega)) ?_))
    refine endW [] [] (by simp) rfl rfl rfl ?_ ?_ <;> simp only [go_sem, Nat.reduceEqDiff]
def rleaveLo : Nat → Lo := fun id => match id with | 8 => {uo := [3, 5], un := [1]} | _ => {}
set_option maxRecDepth 100000 in
set_option maxHeartbeats 2000000 in
theorem con_rleave (w : LW) (hx : LvOk w) : Con Try.prog D 67 [wA w] ⟨wA (wleaveS w), []⟩ := by
  have hok : GOk Try.prog D (tabG [eRefhback, eRwrite]) := tabG_ok _
  have g1 := fun (h : LHall) (t : LTag) (hh : HallNice h) => tabG_use (T := [eRefhback, eRwrite]) (E := eRefhback) (i := 0) rfl (by decide) ((h, t)) (hh)
  have g2 := fun (l : LLog) (es : List LEntry) (h : WOk ((l.bytes, l.sure), es)) => tabG_use (T := [eRefhback, eRwrite]) (E := eRwrite) (i := 1) rfl (by decide) (((l.bytes, l.sure), es)) (h)
  generalize tabG [eRefhback, eRwrite] = G at *
  dsimp only [eRefhback] at g1
  dsimp only [eRwrite] at g2
  obtain ⟨hl, hok'⟩ := hx
  have hS : wleaveS w = leaveI w w.s.tags.length := by unfold wleaveS leaveI; rw [List.take_length]
  have hs := leaveI_s w
  have hsucc := @leaveI_succ w
  have h0 : leaveI w 0 = w := rfl
  rw [hS]
  generalize leaveI w = L at *
  obtain ⟨⟨q, qn⟩, ⟨lb, ls⟩, ⟨ts, tn⟩⟩ := w
  simp only at hl hok' hs hsucc h0
  refine conW (G := G) (rs := [(2, some 87)]) hok Try.func67 Try.results67 Try.ntmps67 (rleaveLo) fun X hP hD hG' hX => ?_
  simp only [argS, num, wA]
  rw [show wCs ⟨⟨q, qn⟩, ⟨lb, ls⟩, ⟨ts, tn⟩⟩ = [.sl 3 (q.map queueRow), .int .i64 qn, .sl 1 (lb.map byteRow), .int .i64 ls, .sl 4 (ts.map tagRow), .int .i64 tn] from rfl]
  simp (disch := omega) only [go_sem, Nat.reduceLeDiff, reduceCtorEq, Nat.reduceAdd, Nat.reduceSub, Nat.reduceMul, Nat.reduceLT, Nat.reduceEqDiff, Int.reduceEq, Int.reduceLE, Int.reduceLT, Int.reducePow, Int.reduceMul, Int.reduceToNat, Int.reduceNeg, ↓reduceIte, hD, hG', wrap64, rleaveLo, unbox, tmv, Option.some.injEq, exists_eq_left']
  refine Tr.loop (ι := Nat) (fun i => i ≤ ts.length) (fun i => { nt := 43, tm := [(1, .ptr 1 0), (2, .ptr 2 0), (12, .sl 4 (ts.map tagRow)), (13, .int .i64 ts.length), (14, .int .i64 i)], bl := [(1, some (.cells (wCs (L i)))), (2, some (.cells [.nils, .int .i64 0, .nils, .int .i64 0, .nils, .int .i64 0]))] }) (fun i => ts.length - i) 0
    ⟨Nat.zero_le _, wk_of hD [(1, 1), (2, 2)] rfl rfl (by simp only [go_sem, Nat.reduceEqDiff]; simp) (by simp only [go_sem, Nat.reduceEqDiff]; simp [h0, wCs, cov, covs, subs, names, namess])⟩ ?_
  intro i hi
  refine evC_sound hX rleaveLo _ _ _ ?_
  have hsi := hs i
  simp (disch := omega) only [go_sem, Nat.reduceLeDiff, reduceCtorEq, Nat.reduceAdd, Nat.reduceSub, Nat.reduceMul, Nat.reduceLT, Nat.reduceEqDiff, Int.reduceEq, Int.reduceLE, Int.reduceLT, Int.reducePow, Int.reduceMul, Int.reduceToNat, Int.reduceNeg, ↓reduceIte, hD, hG', wrap64, rleaveLo, unbox, tmv, Option.some.injEq, exists_eq_left']
  refine condK_split (fun h => ?_) (fun h => ?_)
  · rw [decide_eq_true_eq] at h
    have hi1 : i < ts.length := by omega
    have hgx := tagGet hi1
    have hsu := hsucc hi1
    obtain ⟨⟨ho1, ho2⟩, ho3⟩ := hok' i hi1
    have g1 := g1 (L i).h (ts.getD i tag0) ho2
    generalize ts.getD i tag0 = t at *
    unfold leaveT at hsu
    generalize hbackS (L i).h t = R at *
    generalize L i = V at *
    obtain ⟨⟨vq, vn⟩, ⟨vb, vs⟩, ⟨vt, vx⟩⟩ := V
    obtain ⟨⟨rq, rx⟩, re, rr⟩ := R
    obtain ⟨t1, t2, t3, t4⟩ := t
    simp only [hres, hallA, hallCs, entriesA, tagA, tagRow, sayA, wCs] at g1 hgx
    simp only at hsi
    obtain ⟨rfl, rfl⟩ := LSess.mk.inj hsi
    simp only [wCs]
    unfold KeepOk at ho3
    simp only at ho3
    unfold keepS at hsu
    simp only at hsu
    by_cases e0 : rr = 0
    · have d0 : (rr != 0) = false := by simp [e0]
      have g2 := g2 ⟨vb, vs⟩ re (ho3 e0)
      rw [if_neg (show ¬ (rr ≠ 0) by simp [e0])] at hsu
      simp only at g2
      generalize writeS vb vs re = W at *
      obtain ⟨⟨wb, ws⟩, we⟩ := W
      simp only [writeA, entriesA] at g2
      by_cases e1 : we = 0
      · have d1 : (we == 0) = true := by simp [e1]
        rw [if_neg (show ¬ (we ≠ 0) by simp [e1])] at hsu
        simp (disch := omega) only [go_sem, Nat.reduceLeDiff, reduceCtorEq, Nat.reduceAdd, Nat.reduceSub, Nat.reduceMul, Nat.reduceLT, Nat.reduceEqDiff, Int.reduceEq, Int.reduceLE, Int.reduceLT, Int.reducePow, Int.reduceMul, Int.reduceToNat, Int.reduceNeg, ↓reduceIte, hD, hG', wrap64, hgx, g1, g2, d0, d1, rleaveLo, unbox, tmv, Option.some.injEq, exists_eq_left']
        (repeat (with_reducible refine And.intro (by first | omega | decide | (simp; done) | (simp only [List.length_append, List.length_cons, List.length_nil, List.length_map]; omega)) ?_))
        refine ⟨i + 1, ⟨by omega, by omega⟩, wk_of hD [(1, 1), (2, 2)] rfl rfl ?_ ?_⟩ <;> simp only [go_sem, Nat.reduceEqDiff]
        · simp
        · simp [hsu, wCs, cov, covs, subs, names, namess]
      · have d1 : (we == 0) = false := by simp [e1]
        rw [if_pos (show we ≠ 0 from e1)] at hsu
        simp (disch := omega) only [go_sem, Nat.reduceLeDiff, reduceCtorEq, Nat.reduceAdd, Nat.reduceSub, Nat.reduceMul, Nat.reduceLT, Nat.reduceEqDiff, Int.reduceEq, Int.reduceLE, Int.reduceLT, Int.reducePow, Int.reduceMul, Int.reduceToNat, Int.reduceNeg, ↓reduceIte, hD, hG', wrap64, hgx, g1, g2, d0, d1, rleaveLo, unbox, tmv, Option.some.injEq, exists_eq_left']
        (repeat (with_reducible refine And.intro (by first | omega | decide | (simp; done) | (simp only [List.length_append, List.length_cons, List.length_nil, List.length_map]; omega)) ?_))
        refine ⟨i + 1, ⟨by omega, by omega⟩, wk_of hD [(1, 1), (2, 2)] rfl rfl ?_ ?_⟩ <;> simp only [go_sem, Nat.reduceEqDiff]
        · simp
        · simp [hsu, wCs, cov, covs, subs, names, namess]
    · have d0 : (rr != 0) = true := by simp [e0]
      rw [if_pos (show rr ≠ 0 from e0)] at hsu
      simp (disch := omega) only [go_sem, Nat.reduceLeDiff, reduceCtorEq, Nat.reduceAdd, Nat.reduceSub, Nat.reduceMul, Nat.reduceLT, Nat.reduceEqDiff, Int.reduceEq, Int.reduceLE, Int.reduceLT, Int.reducePow, Int.reduceMul, Int.reduceToNat, Int.reduceNeg, ↓reduceIte, hD, hG', wrap64, hgx, g1, d0, rleaveLo, unbox, tmv, Option.some.injEq, exists_eq_left']
      (repeat (with_reducible refine And.intro (by first | omega | decide | (simp; done) | (simp only [List.length_append, List.length_cons, List.length_nil, List.length_map]; omega)) ?_))
      refine ⟨i + 1, ⟨by omega, by omega⟩, wk_of hD [(1, 1), (2, 2)] rfl rfl ?_ ?_⟩ <;> simp only [go_sem, Nat.reduceEqDiff]
      · simp
      · simp [hsu, wCs, cov, covs, subs, names, namess]
  · rw [decide_eq_false_iff_not] at h
    have hie : i = ts.length := by omega
    subst hie
    generalize L ts.length = V at *
    obtain ⟨⟨vq, vn⟩, ⟨vb, vs⟩, ⟨vt, vx⟩⟩ := V
    simp only [wCs]
    simp (disch := omega) only [go_sem, Nat.reduceLeDiff, reduceCtorEq, Nat.reduceAdd, Nat.reduceSub, Nat.reduceMul, Nat.reduceLT, Nat.reduceEqDiff, Int.reduceEq, Int.reduceLE, Int.reduceLT, Int.reducePow, Int.reduceMul, Int.reduceToNat, Int.reduceNeg, ↓reduceIte, hD, hG', wrap64, rleaveLo, unbox, tmv, Option.some.injEq, exists_eq_left']
    (repeat (with_reducible refine And.intro (by first | omega | decide | (simp; done) | (simp only [List.length_append, List.length_cons, List.length_nil, List.length_map]; omega)) ?_))
    refine endW [] [] (by simp) rfl rfl rfl ?_ ?_ <;> simp only [go_sem, Nat.reduceEqDiff]
end Go.Proofs.Ythbejciebmkclaa.Ab
namespace Go.Proofs.Ythbejciebmkclaa
open Go.RowKit
theorem tagS_fields : Try.prog.underlying 50 = some (.struct (Try.prog.fieldsOf 50)) := by kernel_rfl
theorem tagS_held : Try.prog.stoodInHeld 50 = false := by kernel_rfl
theorem tagS_guard : Try.prog.eqGuardType Try.prog.depth 50 = false := by kernel_rfl
theorem tagS_eqF (d : Nat) (p q : Ab.LTag) (w : World) : (Op.eqFields (d + 1) #[.int .i64 p.n, .string p.queue, .int .i64 p.id, .int .i64 p.turn] #[.int .i64 q.n, .string q.queue, .int .i64 q.id, .int .i64 q.turn] (Try.prog.fieldsOf 50).toList).run Try.prog w = .ok (decide (p = q)) w := by
  have h : (p = q) ↔ (p.n = q.n ∧ p.queue = q.queue ∧ p.id = q.id ∧ p.turn = q.turn) := by
    cases p; cases q; simp
  have hd : decide (p = q) = (decide (p.n = q.n) && decide (p.queue.toList = q.queue.toList) && decide (p.id = q.id) && decide (p.turn = q.turn)) := by
    rw [Bool.eq_iff_iff]
    simp only [decide_eq_true_eq, Bool.and_eq_true, toList_inj, h, and_assoc]
  rw [hd]
  simp [go_sem]
  by_cases h1 : p.n = q.n <;> by_cases h2 : p.queue.toList = q.queue.toList <;> by_cases h3 : p.id = q.id <;> by_cases h4 : p.turn = q.turn <;> simp [h1, h2, h3, h4]
theorem tagS_neq (p q : Ab.LTag) (w : World) : (binOp .neq 50 (.agg #[.int .i64 p.n, .string p.queue, .int .i64 p.id, .int .i64 p.turn]) (.agg #[.int .i64 q.n, .string q.queue, .int .i64 q.id, .int .i64 q.turn])).run Try.prog w = .ok (.bool (!decide (p = q))) w := by
  rw [run_neq_struct, run_equalIn_struct w 9999 _ _ _ tagS_fields tagS_held]
  rw [tagS_eqF 9998 p q w]
  rfl
end Go.Proofs.Ythbejciebmkclaa
namespace Go.Proofs.Ythbejciebmkclaa.Ab
open Go Go.RowKit
set_option linter.unusedVariables false
set_option linter.unusedSimpArgs false

theorem inl_neqT {X : Cx} (hP : X.P = Try.prog) {ops : Array Oper} {σ : AS} {R : AS → Prop} {d : Nat} {x y : Operand} {U : Nat} {ty : Nat} {pos : String} {af : Array Edge} {p q : LTag} (hx : ev σ x = .agg (tagRow p)) (hy : ev σ y = .agg (tagRow q)) (hd : d < σ.nt)
    (h : R { σ with tm := (d, .bool (!decide (p = q))) :: σ.tm }) : InlOp X ops ⟨some d, .binOp .neq 50 x y U, ty, pos, af, none⟩ σ R := by
  refine ⟨fun γ a w i Qx hi ⟨ρ, hs⟩ => ?_⟩
  have hvx := (hs.ev x).1
  have hvy := (hs.ev y).1
  rw [hx] at hvx
  rw [hy] at hvy
  have hag : ∀ (r : LTag) (v : Value) (im : Nat → Prop), Rel w im ρ (.agg (tagRow r)) v → v = .agg #[.int .i64 r.n, .string r.queue, .int .i64 r.id, .int .i64 r.turn] := fun r v im h => by
    cases h with
    | agg cs vs hl h1 hval =>
    obtain ⟨vs⟩ := vs
    match vs, hl with
    | [a, b, c, d], _ =>
      rw [(hval 0 _ a rfl rfl).int_, (hval 1 _ b rfl rfl).str_, (hval 2 _ c rfl rfl).int_, (hval 3 _ d rfl rfl).int_]
  unfold wpOp
  simp only [hi]
  rw [if_pos (by simp [Region.wanted])]
  left
  have hex : execOp a.eval ⟨some d, .binOp .neq 50 x y U, ty, pos, af, none⟩ = (do pure (.value (← (do eqGuard .neq 50 x y (a.eval x) (a.eval y); binOp .neq 50 (a.eval x) (a.eval y))))) := rfl
  refine wp_of_value hex (v := .bool (!decide (p = q))) (w' := w) ?_ ⟨_, h, ρ, hs.put hd (.bool _) (by simp [names])⟩
  rw [hag p _ _ hvx, hag q _ _ hvy, hP]
  rw [Sem.run_bind, run_eqGuard_agg w _ _ _ _ _ _ tagS_guard, Result.andThen_ok]
  exact tagS_neq p q w
def ssLo : Nat → Lo := fun id => match id with | 6 => {lo := [10]} | _ => {}
set_option maxRecDepth 100000 in
set_option maxHeartbeats 1000000 in
theorem con_samesess (s : LSess) (hl : s.tags.length ≤ 1048577) : Con Try.prog D 61 [sessA s, sessA s] ⟨.bool true, []⟩ := by
  have hok : GOk Try.prog D (tabG []) := tabG_ok _
  generalize tabG [] = G at *
  obtain ⟨ts, tn⟩ := s
  simp only at hl
  refine conW (G := G) (rs := [(4, none)]) hok Try.func61 Try.results61 Try.ntmps61 (ssLo) fun X hP hD hG' hX => ?_
  simp only [argS, num, sessA, sessCs]
  simp (disch := omega) only [go_sem, Nat.reduceLeDiff, reduceCtorEq, Nat.reduceAdd, Nat.reduceSub, Nat.reduceMul, Nat.reduceLT, Nat.reduceEqDiff, Int.reduceEq, Int.reduceLE, Int.reduceLT, Int.reducePow, Int.reduceMul, Int.reduceToNat, Int.reduceNeg, ↓reduceIte, hD, hG', wrap64, ssLo, unbox, tmv, Option.some.injEq, exists_eq_left']
  refine RegT.mk [] ?_
  simp (disch := omega) only [go_sem, Nat.reduceLeDiff, reduceCtorEq, Nat.reduceAdd, Nat.reduceSub, Nat.reduceMul, Nat.reduceLT, Nat.reduceEqDiff, Int.reduceEq, Int.reduceLE, Int.reduceLT, Int.reducePow, Int.reduceMul, Int.reduceToNat, Int.reduceNeg, ↓reduceIte, hD, hG', wrap64, ssLo, unbox, tmv, Option.some.injEq, exists_eq_left']
  and_intros
  all_goals (try (first | (intro hk; refine ⟨hk, fun h2 => ?_⟩; first | (rw [hk, h2]; rfl) | (rw [hk, decide_eq_false h2]; rfl)) | (intro hk; rw [decide_eq_false hk]; rfl) | (intro hk; rw [hk]; rfl)))
  refine Tr.loop (ι := Nat) (fun i => i ≤ ts.length) (fun i => { nt := 38, tm := [(2, .ptr 2 0), (3, .ptr 3 0), (22, .int .i64 ts.length), (23, .int .i64 i)], bl := [(2, some (.cells [.sl 4 (ts.map tagRow), .int .i64 tn])), (3, some (.cells [.sl 4 (ts.map tagRow), .int .i64 tn]))] }) (fun i => ts.length - i) 0
    ⟨Nat.zero_le _, wk_of hD [(2, 2), (3, 3)] rfl rfl (by simp only [go_sem, Nat.reduceEqDiff]; simp) (by simp only [go_sem, Nat.reduceEqDiff])⟩ ?_
  intro i hi
  refine evC_sound hX ssLo _ _ _ ?_
  simp (disch := omega) only [go_sem, Nat.reduceLeDiff, reduceCtorEq, Nat.reduceAdd, Nat.reduceSub, Nat.reduceMul, Nat.reduceLT, Nat.reduceEqDiff, Int.reduceEq, Int.reduceLE, Int.reduceLT, Int.reducePow, Int.reduceMul, Int.reduceToNat, Int.reduceNeg, ↓reduceIte, hD, hG', wrap64, ssLo, unbox, tmv, Option.some.injEq, exists_eq_left']
  refine condK_split (fun h => ?_) (fun h => ?_)
  · rw [decide_eq_true_eq] at h
    have hi1 : i < ts.length := by omega
    have hgx := tagGet hi1
    simp only [tagRow] at hgx
    simp (disch := omega) only [go_sem, Nat.reduceLeDiff, reduceCtorEq, Nat.reduceAdd, Nat.reduceSub, Nat.reduceMul, Nat.reduceLT, Nat.reduceEqDiff, Int.reduceEq, Int.reduceLE, Int.reduceLT, Int.reducePow, Int.reduceMul, Int.reduceToNat, Int.reduceNeg, ↓reduceIte, hD, hG', wrap64, hgx, ssLo, asked_none, unbox, tmv, Option.some.injEq, exists_eq_left']
    refine ⟨by decide, by omega, by omega, inl_neqT hP (p := ts.getD i tag0) (q := ts.getD i tag0) rfl rfl (by simp) ?_⟩
    simp (disch := omega) only [go_sem, Nat.reduceLeDiff, reduceCtorEq, Nat.reduceAdd, Nat.reduceSub, Nat.reduceMul, Nat.reduceLT, Nat.reduceEqDiff, Int.reduceEq, Int.reduceLE, Int.reduceLT, Int.reducePow, Int.reduceMul, Int.reduceToNat, Int.reduceNeg, ↓reduceIte, hD, hG', wrap64, ssLo, unbox, tmv, Option.some.injEq, exists_eq_left']
    refine ⟨i + 1, ⟨by omega, by omega⟩, wk_of hD [(2, 2), (3, 3)] rfl rfl ?_ ?_⟩ <;> simp only [go_sem, Nat.reduceEqDiff]
    simp
  · simp (disch := omega) only [go_sem, Nat.reduceLeDiff, reduceCtorEq, Nat.reduceAdd, Nat.reduceSub, Nat.reduceMul, Nat.reduceLT, Nat.reduceEqDiff, Int.reduceEq, Int.reduceLE, Int.reduceLT, Int.reducePow, Int.reduceMul, Int.reduceToNat, Int.reduceNeg, ↓reduceIte, hD, hG', wrap64, ssLo, unbox, tmv, Option.some.injEq, exists_eq_left']
    refine endW [] [] (by simp) rfl rfl rfl ?_ ?_ <;> simp only [go_sem, Nat.reduceEqDiff]
def eSamesess : Ent Try.prog D := ⟨61, LSess, fun s => [sessA s, sessA s], fun s => s.tags.length ≤ 1048577, fun s => ⟨.bool true, []⟩, fun x y _ _ h => rfl, con_samesess⟩
def eSamesay : Ent Try.prog D := ⟨66, LSay, fun s => [sayA s, sayA s], fun s => s.note.Fits, fun s => ⟨.bool true, []⟩, fun x y _ _ h => rfl, fun s h => by
  have hok : GOk Try.prog D (tabG [eRefsame]) := tabG_ok _
  have g1 := tabG_use (T := [eRefsame]) (E := eRefsame) (i := 0) rfl (by decide) ((s.note, s.note)) (⟨h, h⟩)
  generalize tabG [eRefsame] = G at *
  dsimp only [eRefsame] at g1
  obtain ⟨k, n, m, e, ⟨p, b⟩⟩ := s
  simp only [noteA] at g1
  refine conW (G := G) (rs := [(4, none)]) hok Try.func66 Try.results66 Try.ntmps66 (fun _ => {}) fun X hP hD hG' hX => ?_
  simp only [argS, num, sayA]
  simp (disch := omega) only [go_sem, Nat.reduceLeDiff, reduceCtorEq, Nat.reduceAdd, Nat.reduceSub, Nat.reduceMul, Nat.reduceLT, Nat.reduceEqDiff, Int.reduceEq, Int.reduceLE, Int.reduceLT, Int.reducePow, Int.reduceMul, Int.reduceToNat, Int.reduceNeg, ↓reduceIte, hD, hG', wrap64, unbox, tmv, Option.some.injEq, exists_eq_left']
  refine RegT.mk [] ?_
  simp (disch := omega) only [go_sem, Nat.reduceLeDiff, reduceCtorEq, Nat.reduceAdd, Nat.reduceSub, Nat.reduceMul, Nat.reduceLT, Nat.reduceEqDiff, Int.reduceEq, Int.reduceLE, Int.reduceLT, Int.reducePow, Int.reduceMul, Int.reduceToNat, Int.reduceNeg, ↓reduceIte, hD, hG', wrap64, g1, unbox, tmv, Option.some.injEq, exists_eq_left']
  (repeat (with_reducible refine And.intro (by first | omega | decide | (simp; done) | (simp only [List.length_append, List.length_cons, List.length_nil, List.length_map]; omega)) ?_))
  refine endW [] [] (by simp) rfl rfl rfl ?_ ?_ <;> simp only [go_sem, Nat.reduceEqDiff]⟩
end Go.Proofs.Ythbejciebmkclaa.Ab
namespace Go.Proofs.Ythbejciebmkclaa.Ab
open Go Go.RowKit
set_option linter.unusedVariables false
set_option linter.unusedSimpArgs false

def EntN (e : LEntry) : Prop := (1 ≤ e.kind ∧ e.kind ≤ 4) ∧ e.queue.size ≤ 8 ∧ wrongS e.note = 0
def ResN (r : Res4) : Prop := r.2.2 = 0 → r.2.1.length ≤ 1000 ∧ ∀ e ∈ r.2.1, EntN e
theorem keep_of {w : LW} {r : Res4} (hb : w.l.bytes.length ≤ 1048576) (hr : ResN r) : KeepOk (w, r) := fun h0 => by
  obtain ⟨h1, h2⟩ := hr h0
  have hall : ∀ e ∈ r.2.1, EOk e ∧ (entryB e).length ≤ 148 := fun e he => by
    obtain ⟨q1, q2, q3⟩ := h2 e he
    have hbn := bytes_right q3
    exact ⟨⟨q1, by omega, fits_right q3, by omega⟩, entryB_len (a := 8) (b := 134) q2 hbn⟩
  have hfl : ∀ es : List LEntry, (∀ e ∈ es, (entryB e).length ≤ 148) → ((es.map entryB).map frameS).flatten.length ≤ 152 * es.length := fun es => by
    induction es with
    | nil => simp
    | cons e r ih =>
      intro h
      have h1 := ih fun x hx => h x (by simp [hx])
      have h2 := h e (by simp)
      simp only [List.map_cons, List.flatten_cons, List.length_append, List.length_cons, frameS_length]
      omega
  have hfl := hfl _ fun e he => (hall e he).2
  exact ⟨⟨by simp only; omega, by simp only; omega⟩, fun e he => (hall e he).1⟩
theorem found_size {T : Int} {h : LHall} (hf : hallFine T h) {nm : ByteArray} (hk : ¬ findS h.queues (nmL nm) < 0) : nm.size ≤ 8 := by
  have h1 := find_name hk
  have h2 := (hf.2 _ (getD_mem (d := queue0) (find_lt hk))).1
  rw [h1] at h2
  exact keyS_size h2
theorem make_n {h : LHall} {nm : ByteArray} {n : Int} : ResN (makeS h nm n) := fun he => by
  unfold makeS at *
  split
  · simp
  split
  · simp
  split
  · simp
  · rename_i h1 h2 h3
    refine ⟨by simp, fun e he => ?_⟩
    rw [List.mem_singleton.1 he]
    have hk : keyS nm = true := by
      cases hq : keyS nm
      · exact absurd (.inl hq) h1
      · rfl
    exact ⟨by simp, keyS_size hk, rfl⟩
theorem drop_n {T : Int} {h : LHall} (hf : hallFine T h) {nm : ByteArray} : ResN (dropS h nm) := fun he => by
  unfold dropS at *
  split
  · simp
  · rename_i h1
    refine ⟨by simp, fun e he => ?_⟩
    rw [List.mem_singleton.1 he]
    exact ⟨by simp, found_size hf h1, rfl⟩
theorem putAt_n {T : Int} {h : LHall} (hf : hallFine T h) {k : Nat} {m : LNote} (hm : wrongS m = 0) (hk : k < h.queues.length) : (putAt h k m).2.1.length ≤ 1 ∧ ∀ e ∈ (putAt h k m).2.1, EntN e := by
  unfold putAt
  split
  · simp
  · refine ⟨by simp, fun e he => ?_⟩
    rw [List.mem_singleton.1 he]
    exact ⟨by simp, keyS_size (fine_get hf hk).1, hm⟩
theorem put_n {T : Int} {h : LHall} (hf : hallFine T h) {nm : ByteArray} {m : LNote} : ResN (hputS h nm m) := fun he => by
  unfold hputS at *
  split
  · simp
  split
  · simp
  split
  · simp
  · rename_i h1 h2 h3
    have := putAt_n (m := m) hf (by simpa using h1) (find_lt h2)
    exact ⟨by omega, this.2⟩
theorem done_n {T : Int} {h : LHall} (hf : hallFine T h) {t : LTag} : ResN (hdoneS h t) := fun he => by
  unfold hdoneS at *
  split
  · simp
  split
  · simp
  · rename_i h1 h2
    refine ⟨by simp, fun e he => ?_⟩
    rw [List.mem_singleton.1 he]
    exact ⟨by simp, found_size hf h1, rfl⟩
theorem purge_n {T : Int} {h : LHall} (hf : hallFine T h) {nm : ByteArray} : ResN (hpurgeS h nm) := fun he => by
  unfold hpurgeS at *
  split
  · simp
  · rename_i h1
    have h7 := (hf.2 _ (getD_mem (d := queue0) (find_lt h1))).2.2.1
    have h8 : (goneS (qAt h (findS h.queues (nmL nm)).toNat).items).length ≤ (qAt h (findS h.queues (nmL nm)).toNat).items.length := by
      unfold goneS
      rw [List.length_map]
      exact List.length_filter_le _ _
    refine ⟨?_, fun e he => ?_⟩
    · simp only [List.length_map, purgeS]
      unfold qAt at h8 ⊢
      omega
    · obtain ⟨i, hi, rfl⟩ := List.mem_map.1 he
      exact ⟨by simp, found_size hf h1, rfl⟩
/-- one that comes back leaves a hall as it should be -/
theorem back_n {T M : Int} {n : Nat} {h : LHall} (hp : hallP T M n h) (hT : 0 ≤ T) {t : LTag} (he : (hbackS h t).2.2 = 0) : ((hbackS h t).2.1.length ≤ 1000 ∧ ∀ e ∈ (hbackS h t).2.1, EntN e) ∧ hallP T M n (hbackS h t).1 := by
  obtain ⟨hf, hn, h0, hM⟩ := hp
  unfold hbackS at *
  by_cases h1 : findS h.queues (nmL t.queue) < 0
  · rw [if_pos h1] at he; exact absurd he (by decide)
  rw [if_neg h1] at he ⊢
  have hk := find_lt h1
  have hts := found_size hf h1
  generalize (findS h.queues (nmL t.queue)).toNat = k at *
  by_cases h3 : placeS (isIt t.id t.turn) (qAt h k).items 0 < 0
  · exfalso
    simp [backS, h3] at he
  obtain ⟨j', hj', ej, hpj⟩ := placeS_found h3
  have hq := fine_get hf hk
  obtain ⟨l, next⟩ := h
  have hqe : l.getD k queue0 = qAt ⟨l, next⟩ k := rfl
  simp only at hn h0 hM hk
  generalize qAt ⟨l, next⟩ k = q at *
  unfold backS at *
  rw [if_neg h3] at he ⊢
  rw [ej, Int.toNat_natCast] at he ⊢
  generalize hit : q.items.getD j' item0 = it at *
  have hout : it.out = true := by
    simp only [isIt, Bool.and_eq_true] at hpj
    exact hpj.2
  have ho1 : outI it = 1 := by simp [outI, hout]
  have ho0 : outI (backI it) = 0 := by simp [outI, backI]
  by_cases h7 : (backI it).tries < 3
  · rw [if_pos h7]
    simp only [ne_eq, not_true_eq_false, if_false, if_true]
    have hs := sum_set (f := outI) (d := item0) (x := backI it) hj'
    rw [hit, ho1, ho0] at hs
    have hs2 := sum_set (f := outQ) (d := queue0) (x := { q with items := q.items.set j' (backI it) }) hk
    rw [hqe] at hs2
    have e1 : outQ { q with items := q.items.set j' (backI it) } + 1 = outQ q := by unfold outQ; simp only; omega
    refine ⟨by simp, fine_set (next := next) hf hk (by rw [hqe]) (by have := fine_back hq hj' (by rw [hit]; exact h7); rwa [hit] at this), by simp [setQ, hn], h0, ?_⟩
    have : outs (setQ ⟨l, next⟩ k { q with items := q.items.set j' (backI it) }) + 1 = outs ⟨l, next⟩ := by
      unfold outs setQ
      simp only
      omega
    show next + _ ≤ M
    omega
  · rw [if_neg h7]
    simp only [ne_eq, not_true_eq_false, if_false, Bool.true_eq_false]
    have hs := sum_erase (f := outI) (d := item0) hj'
    rw [hit, ho1] at hs
    have hs2 := sum_set (f := outQ) (d := queue0) (x := { q with items := q.items.eraseIdx j' }) hk
    rw [hqe] at hs2
    have e1 : outQ { q with items := q.items.eraseIdx j' } + 1 = outQ q := by unfold outQ; simp only; omega
    have hlt : outs (setQ ⟨l, next⟩ k { q with items := q.items.eraseIdx j' }) + 1 = outs ⟨l, next⟩ := by
      unfold outs setQ
      simp only
      omega
    have hfs : hallFine T (setQ ⟨l, next⟩ k { q with items := q.items.eraseIdx j' }) := fine_set (next := next) hf hk (by rw [hqe]) (fine_gone hq hj')
    have hwn : wrongS (backI it).note = 0 := by
      have := (hq.2.2.2 _ (getD_mem (d := item0) hj')).1
      rw [hit] at this
      exact this
    have hsl : (setQ ⟨l, next⟩ k { q with items := q.items.eraseIdx j' }).queues.length = n := by simp [setQ, hn]
    have hsn : (setQ ⟨l, next⟩ k { q with items := q.items.eraseIdx j' }).next = next := rfl
    generalize setQ ⟨l, next⟩ k { q with items := q.items.eraseIdx j' } = g at *
    have hen : EntN ⟨4, t.queue, 0, t.id, note0⟩ := ⟨by simp, hts, rfl⟩
    unfold deadS
    split
    · rename_i hd
      have hdl := find_lt (l := g.queues) (nm := nmL deadB) (by have := hd.1; omega)
      obtain ⟨p1, p2, p3, p4, p5⟩ := put_fine hfs hT hwn hdl
      have hpn := putAt_n (m := (backI it).note) hfs hwn hdl
      exact ⟨⟨by simp only [List.length_cons]; omega, fun e hm => (List.mem_cons.1 hm).elim (fun q => q ▸ hen) (hpn.2 e)⟩, p1, by rw [p2, hsl], by simp only; omega, by simp only; omega⟩
    · exact ⟨⟨by simp, fun e hm => (List.mem_cons.1 hm).elim (fun q => q ▸ hen) (fun q => by cases q)⟩, hfs, hsl, by simp only; omega, by simp only; omega⟩
end Go.Proofs.Ythbejciebmkclaa.Ab
namespace Go.Proofs.Ythbejciebmkclaa.Ab
open Go Go.RowKit
set_option linter.unusedVariables false
set_option linter.unusedSimpArgs false

/-- what the laws ask of a hall, its journal, a session -/
structure WRight (w : LW) : Prop where
  h : hallOk w.h
  b : w.l.bytes.length ≤ 1048576
  t : w.s.tags.length ≤ 1048576
  n : 0 ≤ w.s.next ∧ w.s.next < 1000000
theorem WRight.doOk {w : LW} (hw : WRight w) {a : LAsk} (ha : a.Fits) {now : Int} (hn : 0 ≤ now ∧ now ≤ 1000000) : DoOk w a now := by
  obtain ⟨hf, hl4, hn0, hn1⟩ := hallOk_fine hw.h
  have hp := hallOk_P hw.h
  have hfit : w.h.Fits := hallFine_fits hf (by decide) (by omega)
  have h1 := hw.n
  exact ⟨hfit, ha.1, ha.2, ⟨by omega, by omega⟩, ⟨⟨hfit, fun q hq => queueFine_ok (hf.2 q hq) (by decide), by simp only; omega, by simp only; omega⟩, by simp only; omega, by simp only; omega⟩,
    fun b => ⟨⟨hfit, hallP_in hp (by decide) (by decide) (by omega)⟩, hw.t, fun t _ => ⟨keep_of hw.b (done_n hf), keep_of hw.b fun he => (back_n hp (by decide) he).1⟩⟩,
    keep_of hw.b make_n, keep_of hw.b (drop_n hf), keep_of hw.b (put_n hf), keep_of hw.b (purge_n hf)⟩
theorem WRight.rdoOk {w : LW} (hw : WRight w) {a : LAsk} (ha : a.Fits) {now : Int} (hn : 0 ≤ now ∧ now ≤ 1000000) : RDoOk w a now := by
  obtain ⟨hf, hl4, hn0, hn1⟩ := hallOk_fine hw.h
  have hp := hallOk_P hw.h
  have hfit : w.h.Fits := hallFine_fits hf (by decide) (by omega)
  have h1 := hw.n
  exact ⟨hfit, ha.1, ha.2, ⟨by omega, by omega⟩, ⟨fun q hq => queueFine_ok (hf.2 q hq) (by decide), by omega, by omega⟩, hallP_nice hp (by decide) (by decide) (by omega), ⟨hw.t, by omega, by omega⟩,
    fun t _ => ⟨keep_of hw.b (done_n hf), keep_of hw.b fun he => (back_n hp (by decide) he).1⟩,
    keep_of hw.b make_n, keep_of hw.b (drop_n hf), keep_of hw.b (put_n hf), keep_of hw.b (purge_n hf)⟩
theorem write_len {l : List UInt8} {s : Int} {es : List LEntry} (h : (writeS l s es).2 = 0) : (writeS l s es).1.bytes.length ≤ 6000 := by
  unfold writeS at *
  obtain ⟨_, h1, h2⟩ := appendS_ok h
  rw [h2]
  exact h1
theorem leave_step {w : LW} {M : Int} {n : Nat} (hp : hallP 1000 M n w.h) (hb : w.l.bytes.length ≤ 1048576) {t : LTag} : hallP 1000 M n (leaveT w t).h ∧ (leaveT w t).l.bytes.length ≤ 1048576 := by
  unfold leaveT keepS
  split
  · exact ⟨hp, hb⟩
  split
  · exact ⟨hp, hb⟩
  · rename_i h1 h2
    have h3 := write_len (by simpa using h2)
    exact ⟨(back_n hp (by decide) (by simpa using h1)).2, by simp only; omega⟩
theorem leave_all {w : LW} {M : Int} {n : Nat} (hp : hallP 1000 M n w.h) (hb : w.l.bytes.length ≤ 1048576) : ∀ i, i ≤ w.s.tags.length → hallP 1000 M n (leaveI w i).h ∧ (leaveI w i).l.bytes.length ≤ 1048576
  | 0, _ => ⟨hp, hb⟩
  | i + 1, hi => by
    rw [leaveI_succ (by omega)]
    have := leave_all hp hb i (by omega)
    exact leave_step this.1 this.2
theorem WRight.lvOk {w : LW} (hw : WRight w) : LvOk w ∧ (wleaveS w).h.Fits := by
  obtain ⟨hf, hl4, hn0, hn1⟩ := hallOk_fine hw.h
  have hp := hallOk_P hw.h
  have hall := leave_all hp hw.b
  refine ⟨⟨hw.t, fun i hi => ?_⟩, ?_⟩
  · obtain ⟨h1, h2⟩ := hall i (by omega)
    exact ⟨⟨hallP_in h1 (by decide) (by decide) (by omega), hallP_nice h1 (by decide) (by decide) (by omega)⟩, keep_of h2 fun he => (back_n h1 (by decide) he).1⟩
  · have h1 := (hall _ (Nat.le_refl _)).1
    have e : wleaveS w = leaveI w w.s.tags.length := by unfold wleaveS leaveI; rw [List.take_length]
    rw [e]
    exact hallFine_fits h1.1 (by decide) (by rw [h1.2.1]; omega)
/-- what comes out fits -/
def OutFits (r : LW × LSay) : Prop := r.1.h.Fits ∧ r.2.note.Fits ∧ r.1.s.tags.length ≤ 1048577
theorem keep_out {w : LW} {r : Res4} (hw : w.h.Fits) (ht : w.s.tags.length ≤ 1048576) (hr : ResFits r) : OutFits (keepS w r) := by
  unfold keepS
  split
  · exact ⟨hw, fits_zero, by simp only; omega⟩
  split
  · exact ⟨hw, fits_zero, by simp only; omega⟩
  · exact ⟨hr.1, fits_zero, by simp only; omega⟩
theorem WRight.out {w : LW} (hw : WRight w) {a : LAsk} (ha : a.Fits) {now : Int} : OutFits ((doS w a now).1, (doS w a now).2.1) := by
  obtain ⟨hf, hl4, hn0, hn1⟩ := hallOk_fine hw.h
  have hfit : w.h.Fits := hallFine_fits hf (by decide) (by omega)
  have hq8 := fine_len hf
  have ht := hw.t
  have h0 : ∀ s : LSay, s.note = note0 → OutFits (w, s) := fun s h => ⟨hfit, by simp only [h]; exact fits_zero, by simp only; omega⟩
  have htake : OutFits ((stakeS w a.queue now).1, (stakeS w a.queue now).2.1) := by
    unfold stakeS
    split
    · exact h0 _ rfl
    split
    · exact h0 _ rfl
    split
    · exact h0 _ rfl
    · have := rf_take (nm := a.queue) (now := now) hfit
      exact ⟨this.1, this.2, by simp only [List.length_append, List.length_cons, List.length_nil]; omega⟩
  have haux : ∀ (R : Res4) (j : Nat), ResFits R → OutFits (if (keepS w R).2.err ≠ 8 then ((⟨(keepS w R).1.h, (keepS w R).1.l, ⟨w.s.tags.eraseIdx j, w.s.next⟩⟩ : LW), (keepS w R).2) else keepS w R) := fun R j hR => by
    have hk := keep_out hfit ht hR
    generalize keepS w R = K at *
    split
    · exact ⟨hk.1, hk.2.1, by simp only; have := List.length_eraseIdx_le w.s.tags j; omega⟩
    · exact hk
  have htag : ∀ b, OutFits (stagS w a.n b) := fun b => by
    unfold stagS
    split
    · exact h0 _ rfl
    · cases b
      · exact haux _ _ (rf_done hfit)
      · exact haux _ _ (rf_back hfit hq8)
  unfold doS
  repeat' split
  all_goals (first
    | exact h0 _ rfl
    | exact keep_out hfit ht (rf_make hfit ha.1)
    | exact keep_out hfit ht (rf_drop hfit)
    | exact keep_out hfit ht (rf_put hfit hq8 ha.2)
    | exact keep_out hfit ht (rf_purge hfit)
    | exact htake
    | exact htag _
    | exact ⟨htake.1, fits_zero, htake.2.2⟩)
end Go.Proofs.Ythbejciebmkclaa.Ab
namespace Go.Proofs.Ythbejciebmkclaa.Ab
open Go Go.RowKit
set_option linter.unusedVariables false
set_option linter.unusedSimpArgs false

def WR (w : LW) : Prop := hallOk w.h ∧ 0 ≤ w.l.sure ∧ w.l.sure ≤ w.l.bytes.length ∧ 0 ≤ w.s.next ∧ w.s.next < 1000000
instance (w : LW) : Decidable (WR w) := by unfold WR; infer_instance
set_option maxRecDepth 100000 in
theorem con_wright (w : LW) (hh : w.h.Fits) : Con Try.prog D 63 [hallA w.h, llogA w.l, sessA w.s] ⟨.bool (decide (WR w)), []⟩ := by
  have hok : GOk Try.prog D (tabG [eRightq]) := tabG_ok _
  have g1 := tabG_use (T := [eRightq]) (E := eRightq) (i := 0) rfl (by decide) (w.h) (hh)
  generalize tabG [eRightq] = G at *
  dsimp only [eRightq] at g1
  have hr : decide (WR w) = (decide (hallOk w.h) && (decide (0 ≤ w.l.sure) && (decide (w.l.sure ≤ w.l.bytes.length) && (decide (0 ≤ w.s.next) && decide (w.s.next < 1000000))))) := by
    rw [Bool.eq_iff_iff]
    simp only [decide_eq_true_eq, Bool.and_eq_true]
    exact Iff.rfl
  rw [hr]
  generalize decide (hallOk w.h) = b at *
  obtain ⟨⟨q, qn⟩, ⟨lb, ls⟩, ⟨ts, tn⟩⟩ := w
  simp only [hallA] at g1
  refine conW (G := G) (rs := [(6, none)]) hok Try.func63 Try.results63 Try.ntmps63 (fun _ => {}) fun X hP hD hG' hX => ?_
  simp only [argS, num, hallA, llogA, logCs, sessA, sessCs]
  simp (disch := omega) only [go_sem, Nat.reduceLeDiff, reduceCtorEq, Nat.reduceAdd, Nat.reduceSub, Nat.reduceMul, Nat.reduceLT, Nat.reduceEqDiff, Int.reduceEq, Int.reduceLE, Int.reduceLT, Int.reducePow, Int.reduceMul, Int.reduceToNat, Int.reduceNeg, ↓reduceIte, hD, hG', wrap64, g1, unbox, tmv, Option.some.injEq, exists_eq_left']
  refine RegT.mk [] ?_
  simp (disch := omega) only [go_sem, Nat.reduceLeDiff, reduceCtorEq, Nat.reduceAdd, Nat.reduceSub, Nat.reduceMul, Nat.reduceLT, Nat.reduceEqDiff, Int.reduceEq, Int.reduceLE, Int.reduceLT, Int.reducePow, Int.reduceMul, Int.reduceToNat, Int.reduceNeg, ↓reduceIte, hD, hG', wrap64, g1, unbox, tmv, Option.some.injEq, exists_eq_left']
  and_intros
  all_goals (try (first | decide | omega | (first | (intro hk; refine ⟨hk, fun h2 => ?_⟩; first | (rw [hk, h2]; rfl) | (rw [hk, decide_eq_false h2]; rfl)) | (intro hk; rw [decide_eq_false hk]; rfl) | (intro hk; rw [hk]; rfl))))
  all_goals (first | (refine ⟨_, Wk.refl, _, rfl, [], [], rfl, rfl, ?_, ?_⟩ <;> simp only [go_sem, Nat.reduceEqDiff]) | skip)
  all_goals (try (simp; done))
  all_goals (
    simp only [ge_iff_le]
    generalize decide (0 ≤ ls) = b1
    generalize decide (ls ≤ (lb.length : Int)) = b2
    generalize decide (0 ≤ tn) = b3
    generalize decide (tn < 1000000) = b4
    cases b <;> cases b1 <;> cases b2 <;> cases b3 <;> cases b4 <;> rfl)
def eWright : Ent Try.prog D := ⟨63, LW, fun w => [hallA w.h, llogA w.l, sessA w.s], fun w => w.h.Fits, fun w => ⟨.bool (decide (WR w)), []⟩, fun x y _ _ h => by
  obtain ⟨a, b, c⟩ := x
  obtain ⟨a', b', c'⟩ := y
  simp only [List.cons.injEq, and_true] at h
  rw [hallA_inj h.1, llogA_inj h.2.1, sessA_inj h.2.2], con_wright⟩
def eSownP : Ent Try.prog D := ⟨62, LSess, fun s => [sessA s], fun s => s.tags.length ≤ 16777216, fun s => ⟨sessA s, []⟩, fun x y _ _ h => by
  simp only [List.cons.injEq, and_true] at h
  rw [sessA_inj h], fun s h => (con_sown s h).plainR⟩
def eDo : Ent Try.prog D := ⟨65, LW × LAsk × Int, fun x => [hallA x.1.h, llogA x.1.l, sessA x.1.s, askA x.2.1, .int .i64 x.2.2], fun x => DoOk x.1 x.2.1 x.2.2, fun x => ⟨doV (doS x.1 x.2.1 x.2.2), []⟩, fun x y _ _ h => by
  obtain ⟨⟨a, b, c⟩, d, e⟩ := x
  obtain ⟨⟨a', b', c'⟩, d', e'⟩ := y
  simp only [List.cons.injEq, AV.int.injEq, true_and, and_true] at h
  rw [hallA_inj h.1, llogA_inj h.2.1, sessA_inj h.2.2.1, askA_inj h.2.2.2.1, h.2.2.2.2], fun x h => con_do _ _ _ h⟩
def eRdo : Ent Try.prog D := ⟨64, LW × LAsk × Int, fun x => [wA x.1, askA x.2.1, .int .i64 x.2.2], fun x => RDoOk x.1 x.2.1 x.2.2, fun x => ⟨ansV (doS x.1 x.2.1 x.2.2), []⟩, fun x y _ _ h => by
  obtain ⟨a, d, e⟩ := x
  obtain ⟨a', d', e'⟩ := y
  simp only [wA, List.cons.injEq, AV.agg.injEq, AV.int.injEq, true_and, and_true] at h
  rw [wCs_inj h.1, askA_inj h.2.1, h.2.2], fun x h => con_rdo _ _ _ h⟩
def eLeave : Ent Try.prog D := ⟨68, LW, fun w => [hallA w.h, llogA w.l, sessA w.s], LvOk, fun w => ⟨.tup [hallA (wleaveS w).h, llogA (wleaveS w).l], []⟩, fun x y _ _ h => by
  obtain ⟨a, b, c⟩ := x
  obtain ⟨a', b', c'⟩ := y
  simp only [List.cons.injEq, and_true] at h
  rw [hallA_inj h.1, llogA_inj h.2.1, sessA_inj h.2.2], con_leave⟩
def eRleave : Ent Try.prog D := ⟨67, LW, fun w => [wA w], LvOk, fun w => ⟨wA (wleaveS w), []⟩, fun x y _ _ h => by
  simp only [wA, List.cons.injEq, AV.agg.injEq, and_true] at h
  rw [wCs_inj h], con_rleave⟩
set_option maxRecDepth 100000 in
set_option maxHeartbeats 4000000 in
theorem con_sessiontells (w : LW) (a : LAsk) (now : Int) (hh : w.h.Fits) (hb : w.l.bytes.length ≤ 1048576) (ht : w.s.tags.length ≤ 1048576) (ha : a.Fits) :
    Con Try.prog D 9 [hallA w.h, llogA w.l, sessA w.s, askA a, .int .i64 now] ⟨.bool true, []⟩ := by
  have hok : GOk Try.prog D (tabG [eWrongask, eRefwrongask, eSownP, eSamesess, eWright, eDo, eRdo, eSamesay, eSamehall, eSameLog, eLeave, eRleave]) := tabG_ok _
  have g1 := tabG_use (T := [eWrongask, eRefwrongask, eSownP, eSamesess, eWright, eDo, eRdo, eSamesay, eSamehall, eSameLog, eLeave, eRleave]) (E := eWrongask) (i := 0) rfl (by decide) (a) (ha)
  have g2 := tabG_use (T := [eWrongask, eRefwrongask, eSownP, eSamesess, eWright, eDo, eRdo, eSamesay, eSamehall, eSameLog, eLeave, eRleave]) (E := eRefwrongask) (i := 1) rfl (by decide) (a) (ha)
  have g3 := tabG_use (T := [eWrongask, eRefwrongask, eSownP, eSamesess, eWright, eDo, eRdo, eSamesay, eSamehall, eSameLog, eLeave, eRleave]) (E := eSownP) (i := 2) rfl (by decide) (w.s) (by show w.s.tags.length ≤ 16777216; omega)
  have g4 := fun (s : LSess) (h : s.tags.length ≤ 1048577) => tabG_use (T := [eWrongask, eRefwrongask, eSownP, eSamesess, eWright, eDo, eRdo, eSamesay, eSamehall, eSameLog, eLeave, eRleave]) (E := eSamesess) (i := 3) rfl (by decide) (s) (h)
  have g5 := tabG_use (T := [eWrongask, eRefwrongask, eSownP, eSamesess, eWright, eDo, eRdo, eSamesay, eSamehall, eSameLog, eLeave, eRleave]) (E := eWright) (i := 4) rfl (by decide) (w) (hh)
  have g6 := fun (h : DoOk w a now) => tabG_use (T := [eWrongask, eRefwrongask, eSownP, eSamesess, eWright, eDo, eRdo, eSamesay, eSamehall, eSameLog, eLeave, eRleave]) (E := eDo) (i := 5) rfl (by decide) ((w, a, now)) (h)
  have g7 := fun (h : RDoOk w a now) => tabG_use (T := [eWrongask, eRefwrongask, eSownP, eSamesess, eWright, eDo, eRdo, eSamesay, eSamehall, eSameLog, eLeave, eRleave]) (E := eRdo) (i := 6) rfl (by decide) ((w, a, now)) (h)
  have g8 := fun (s : LSay) (h : s.note.Fits) => tabG_use (T := [eWrongask, eRefwrongask, eSownP, eSamesess, eWright, eDo, eRdo, eSamesay, eSamehall, eSameLog, eLeave, eRleave]) (E := eSamesay) (i := 7) rfl (by decide) (s) (h)
  have g9 := fun (x : LHall) (h : x.Fits) => tabG_use (T := [eWrongask, eRefwrongask, eSownP, eSamesess, eWright, eDo, eRdo, eSamesay, eSamehall, eSameLog, eLeave, eRleave]) (E := eSamehall) (i := 8) rfl (by decide) (x) (h)
  have g10 := fun (m : LLog) => tabG_use (T := [eWrongask, eRefwrongask, eSownP, eSamesess, eWright, eDo, eRdo, eSamesay, eSamehall, eSameLog, eLeave, eRleave]) (E := eSameLog) (i := 9) rfl (by decide) (((m.bytes, m.sure), (m.bytes, m.sure))) (trivial)
  have g11 := fun (h : LvOk w) => tabG_use (T := [eWrongask, eRefwrongask, eSownP, eSamesess, eWright, eDo, eRdo, eSamesay, eSamehall, eSameLog, eLeave, eRleave]) (E := eLeave) (i := 10) rfl (by decide) (w) (h)
  have g12 := fun (h : LvOk w) => tabG_use (T := [eWrongask, eRefwrongask, eSownP, eSamesess, eWright, eDo, eRdo, eSamesay, eSamehall, eSameLog, eLeave, eRleave]) (E := eRleave) (i := 11) rfl (by decide) (w) (h)
  generalize tabG [eWrongask, eRefwrongask, eSownP, eSamesess, eWright, eDo, eRdo, eSamesay, eSamehall, eSameLog, eLeave, eRleave] = G at *
  dsimp only [eWrongask] at g1
  dsimp only [eRefwrongask] at g2
  dsimp only [eSownP] at g3
  dsimp only [eSamesess] at g4
  dsimp only [eWright] at g5
  dsimp only [eDo] at g6
  dsimp only [eRdo] at g7
  dsimp only [eSamesay] at g8
  dsimp only [eSamehall] at g9
  dsimp only [eSameLog] at g10
  dsimp only [eLeave] at g11
  dsimp only [eRleave] at g12
  have s0 := g4 w.s (by omega)
  by_cases hg : WR w ∧ 0 ≤ now ∧ now ≤ 1000000
  · obtain ⟨hwr, hnow⟩ := hg
    rw [decide_eq_true hwr] at g5
    have hW : WRight w := ⟨hwr.1, hb, ht, hwr.2.2.2⟩
    have g6 := g6 (hW.doOk ha hnow)
    have g7 := g7 (hW.rdoOk ha hnow)
    obtain ⟨lv, lf⟩ := hW.lvOk
    have g11 := g11 lv
    have g12 := g12 lv
    have ho := hW.out (a := a) ha (now := now)
    have g8 := g8 _ ho.2.1
    have g9a := g9 _ ho.1
    have g9b := g9 _ lf
    have g10a := g10 (doS w a now).1.l
    have g10b := g10 (wleaveS w).l
    have g4a := g4 _ ho.2.2
    generalize doS w a now = R at *
    generalize wleaveS w = V at *
    obtain ⟨⟨⟨rq, rn⟩, ⟨rb, rs⟩, ⟨rt, rx⟩⟩, ⟨s1, s2, s3, s4, ⟨s5, s6⟩⟩, rw⟩ := R
    obtain ⟨⟨vq, vn⟩, ⟨vb, vs⟩, ⟨vt, vx⟩⟩ := V
    clear g4 g9 g10 hW hwr lv lf ho
    obtain ⟨⟨q, qn⟩, ⟨lb, ls⟩, ⟨ts, tn⟩⟩ := w
    obtain ⟨ak, aq, an, ⟨ap, ab⟩⟩ := a
    simp only [hallA, llogA, logCs, sessA, sessCs, askA, sayA, wA, wCs, ansV, doV] at g1 g2 g3 g5 g6 g7 g8 g9a g9b g10a g10b g4a g11 g12 s0
    have d1 : decide (now < 0) = false := decide_eq_false (by omega)
    have d2 : decide (now > 1000000) = false := decide_eq_false (by omega)
    refine conW (G := G) (rs := [(10, none)]) hok Try.func9 Try.results9 Try.ntmps9 (fun _ => {}) fun X hP hD hG' hX => ?_
    simp only [argS, num, hallA, llogA, logCs, sessA, sessCs, askA]
    simp (disch := omega) only [go_sem, Nat.reduceLeDiff, reduceCtorEq, Nat.reduceAdd, Nat.reduceSub, Nat.reduceMul, Nat.reduceLT, Nat.reduceEqDiff, Int.reduceEq, Int.reduceLE, Int.reduceLT, Int.reducePow, Int.reduceMul, Int.reduceToNat, Int.reduceNeg, ↓reduceIte, hD, hG', wrap64, g1, g2, unbox, tmv, Option.some.injEq, exists_eq_left']
    refine RegA.mk [] (by decide) ?_
    simp (disch := omega) only [go_sem, Nat.reduceLeDiff, reduceCtorEq, Nat.reduceAdd, Nat.reduceSub, Nat.reduceMul, Nat.reduceLT, Nat.reduceEqDiff, Int.reduceEq, Int.reduceLE, Int.reduceLT, Int.reducePow, Int.reduceMul, Int.reduceToNat, Int.reduceNeg, ↓reduceIte, hD, hG', wrap64, g1, g2, g3, s0, unbox, tmv, Option.some.injEq, exists_eq_left']
    refine RegT.mk [] ?_
    simp (disch := omega) only [go_sem, Nat.reduceLeDiff, reduceCtorEq, Nat.reduceAdd, Nat.reduceSub, Nat.reduceMul, Nat.reduceLT, Nat.reduceEqDiff, Int.reduceEq, Int.reduceLE, Int.reduceLT, Int.reducePow, Int.reduceMul, Int.reduceToNat, Int.reduceNeg, ↓reduceIte, hD, hG', wrap64, g5, d1, d2, unbox, tmv, Option.some.injEq, exists_eq_left']
    have z1 : ((0 : Int) == 9) = false := by decide
    cases rw
    · simp only [Bool.false_eq_true, if_false] at g6 g7
      simp (disch := omega) only [go_sem, Nat.reduceLeDiff, reduceCtorEq, Nat.reduceAdd, Nat.reduceSub, Nat.reduceMul, Nat.reduceLT, Nat.reduceEqDiff, Int.reduceEq, Int.reduceLE, Int.reduceLT, Int.reducePow, Int.reduceMul, Int.reduceToNat, Int.reduceNeg, ↓reduceIte, hD, hG', wrap64, g6, g7, unbox, tmv, Option.some.injEq, exists_eq_left']
      refine RegT.mk [] ?_
      simp (disch := omega) only [go_sem, Nat.reduceLeDiff, reduceCtorEq, Nat.reduceAdd, Nat.reduceSub, Nat.reduceMul, Nat.reduceLT, Nat.reduceEqDiff, Int.reduceEq, Int.reduceLE, Int.reduceLT, Int.reducePow, Int.reduceMul, Int.reduceToNat, Int.reduceNeg, ↓reduceIte, hD, hG', wrap64, z1, g8, g9a, g10a, g4a, g11, g12, unbox, tmv, Option.some.injEq, exists_eq_left']
      refine RegT.mk [] ?_
      simp (disch := omega) only [go_sem, Nat.reduceLeDiff, reduceCtorEq, Nat.reduceAdd, Nat.reduceSub, Nat.reduceMul, Nat.reduceLT, Nat.reduceEqDiff, Int.reduceEq, Int.reduceLE, Int.reduceLT, Int.reducePow, Int.reduceMul, Int.reduceToNat, Int.reduceNeg, ↓reduceIte, hD, hG', wrap64, g9b, g10b, unbox, tmv, Option.some.injEq, exists_eq_left']
      and_intros
      all_goals (try (first | decide | omega | (first | (intro hk; refine ⟨hk, fun h2 => ?_⟩; first | (rw [hk, h2]; rfl) | (rw [hk, decide_eq_false h2]; rfl)) | (intro hk; rw [decide_eq_false hk]; rfl) | (intro hk; rw [hk]; rfl))))
      all_goals (first | (simp; done) | (refine ⟨_, Wk.refl, _, rfl, [], [], rfl, rfl, ?_, ?_⟩ <;> simp only [go_sem, Nat.reduceEqDiff]))
    · simp only [if_true] at g6 g7
      simp (disch := omega) only [go_sem, Nat.reduceLeDiff, reduceCtorEq, Nat.reduceAdd, Nat.reduceSub, Nat.reduceMul, Nat.reduceLT, Nat.reduceEqDiff, Int.reduceEq, Int.reduceLE, Int.reduceLT, Int.reducePow, Int.reduceMul, Int.reduceToNat, Int.reduceNeg, ↓reduceIte, hD, hG', wrap64, g6, g7, unbox, tmv, Option.some.injEq, exists_eq_left']
      refine RegT.mk [(7, true)] ?_
      simp (disch := omega) only [go_sem, Nat.reduceLeDiff, reduceCtorEq, Nat.reduceAdd, Nat.reduceSub, Nat.reduceMul, Nat.reduceLT, Nat.reduceEqDiff, Int.reduceEq, Int.reduceLE, Int.reduceLT, Int.reducePow, Int.reduceMul, Int.reduceToNat, Int.reduceNeg, ↓reduceIte, hD, hG', wrap64, z1, g8, g9a, g10a, g4a, g11, g12, unbox, tmv, Option.some.injEq, exists_eq_left']
      refine RegT.mk [] ?_
      simp (disch := omega) only [go_sem, Nat.reduceLeDiff, reduceCtorEq, Nat.reduceAdd, Nat.reduceSub, Nat.reduceMul, Nat.reduceLT, Nat.reduceEqDiff, Int.reduceEq, Int.reduceLE, Int.reduceLT, Int.reducePow, Int.reduceMul, Int.reduceToNat, Int.reduceNeg, ↓reduceIte, hD, hG', wrap64, g9b, g10b, unbox, tmv, Option.some.injEq, exists_eq_left']
      and_intros
      all_goals (try (first | decide | omega | (first | (intro hk; refine ⟨hk, fun h2 => ?_⟩; first | (rw [hk, h2]; rfl) | (rw [hk, decide_eq_false h2]; rfl)) | (intro hk; rw [decide_eq_false hk]; rfl) | (intro hk; rw [hk]; rfl))))
      all_goals (first | (simp; done) | (refine ⟨_, Wk.refl, _, rfl, [], [], rfl, rfl, ?_, ?_⟩ <;> simp only [go_sem, Nat.reduceEqDiff]))
  · obtain ⟨⟨q, qn⟩, ⟨lb, ls⟩, ⟨ts, tn⟩⟩ := w
    obtain ⟨ak, aq, an, ⟨ap, ab⟩⟩ := a
    clear g4 g6 g7 g8 g9 g10 g11 g12
    simp only [hallA, llogA, logCs, sessA, sessCs, askA] at g1 g2 g3 g5 s0
    refine conW (G := G) (rs := [(10, none)]) hok Try.func9 Try.results9 Try.ntmps9 (fun _ => {}) fun X hP hD hG' hX => ?_
    simp only [argS, num, hallA, llogA, logCs, sessA, sessCs, askA]
    simp (disch := omega) only [go_sem, Nat.reduceLeDiff, reduceCtorEq, Nat.reduceAdd, Nat.reduceSub, Nat.reduceMul, Nat.reduceLT, Nat.reduceEqDiff, Int.reduceEq, Int.reduceLE, Int.reduceLT, Int.reducePow, Int.reduceMul, Int.reduceToNat, Int.reduceNeg, ↓reduceIte, hD, hG', wrap64, g1, g2, unbox, tmv, Option.some.injEq, exists_eq_left']
    refine RegA.mk [] (by decide) ?_
    simp (disch := omega) only [go_sem, Nat.reduceLeDiff, reduceCtorEq, Nat.reduceAdd, Nat.reduceSub, Nat.reduceMul, Nat.reduceLT, Nat.reduceEqDiff, Int.reduceEq, Int.reduceLE, Int.reduceLT, Int.reducePow, Int.reduceMul, Int.reduceToNat, Int.reduceNeg, ↓reduceIte, hD, hG', wrap64, g1, g2, g3, s0, unbox, tmv, Option.some.injEq, exists_eq_left']
    by_cases hwr : WR ⟨⟨q, qn⟩, ⟨lb, ls⟩, ⟨ts, tn⟩⟩
    · rw [decide_eq_true hwr] at g5
      have hbad : ¬ (0 ≤ now ∧ now ≤ 1000000) := fun h => hg ⟨hwr, h⟩
      clear hg hwr
      refine RegT.mk [] ?_
      simp (disch := omega) only [go_sem, Nat.reduceLeDiff, reduceCtorEq, Nat.reduceAdd, Nat.reduceSub, Nat.reduceMul, Nat.reduceLT, Nat.reduceEqDiff, Int.reduceEq, Int.reduceLE, Int.reduceLT, Int.reducePow, Int.reduceMul, Int.reduceToNat, Int.reduceNeg, ↓reduceIte, hD, hG', wrap64, g5, unbox, tmv, Option.some.injEq, exists_eq_left']
      and_intros
      all_goals (try (first | (intro hk; refine ⟨hk, fun h2 => ?_⟩; first | (rw [hk, h2]; rfl) | (rw [hk, decide_eq_false h2]; rfl)) | (intro hk; rw [decide_eq_false hk]; rfl) | (intro hk; rw [hk]; rfl)))
      refine condK_split (fun h => ?_) (fun h => ?_)
      · simp (disch := omega) only [go_sem, Nat.reduceLeDiff, reduceCtorEq, Nat.reduceAdd, Nat.reduceSub, Nat.reduceMul, Nat.reduceLT, Nat.reduceEqDiff, Int.reduceEq, Int.reduceLE, Int.reduceLT, Int.reducePow, Int.reduceMul, Int.reduceToNat, Int.reduceNeg, ↓reduceIte, hD, hG', wrap64, unbox, tmv, Option.some.injEq, exists_eq_left']
        refine endW [] [] (by simp) rfl rfl rfl ?_ ?_ <;> simp only [go_sem, Nat.reduceEqDiff]
      · exfalso
        clear g5
        simp at h
        omega
    · rw [decide_eq_false hwr] at g5
      clear hg hwr
      refine RegT.mk [(5, false), (9, false)] ?_
      simp (disch := omega) only [go_sem, Nat.reduceLeDiff, reduceCtorEq, Nat.reduceAdd, Nat.reduceSub, Nat.reduceMul, Nat.reduceLT, Nat.reduceEqDiff, Int.reduceEq, Int.reduceLE, Int.reduceLT, Int.reducePow, Int.reduceMul, Int.reduceToNat, Int.reduceNeg, ↓reduceIte, hD, hG', wrap64, g5, unbox, tmv, Option.some.injEq, exists_eq_left']
      refine endW [] [] (by simp) rfl rfl rfl ?_ ?_ <;> simp only [go_sem, Nat.reduceEqDiff]
end Go.Proofs.Ythbejciebmkclaa.Ab
namespace Go.Proofs.Ythbejciebmkclaa.Ab
open Go Go.RowKit
set_option linter.unusedVariables false
set_option linter.unusedSimpArgs false

theorem shp_sess {m : Nat} {B : Nat} {us : List AV} (h : Shp D B (m + 7) 79 us) : ∃ s : LSess, AV.agg us = sessA s ∧ s.tags.length ≤ B := by
  have h := shp_struct (fs := [(0, 77), (1, 3)]) (by simp only [D_1, D_2, D_3, D_4, D_5, D_6, D_7, D_8, D_9, D_10, D_11, D_12, D_13, D_14, D_15, D_16, D_17, D_18, D_19, D_21, D_22, D_23, D_24, D_25, D_26, D_27, D_28, D_29, D_30, D_31, D_32, D_33, D_35, D_36, D_37, D_38, D_39, D_40, D_41, D_42, D_43, D_45, D_46, D_47, D_48, D_49, D_50, D_51, D_52, D_53, D_55, D_56, D_57, D_58, D_60, D_61, D_62, D_63, D_64, D_65, D_67, D_68, D_69, D_70, D_71, D_72, D_73, D_74, D_75, D_76, D_77, D_78, D_79, D_80, D_81, D_82, D_83, D_84, D_85, D_86, D_87, D_88, D_89, D_91, D_93, D_94, D_95, D_97, D_98, D_99, D_101, D_103, D_104, D_105, D_106, D_108, D_109, D_110, D_111, D_113, D_114, D_115, D_116, D_117, D_118, D_119, D_120, D_121, D_122, D_124, D_125, D_127, D_128, D_130, D_132, D_133, D_134, D_135, D_136, D_138, D_139, D_141, D_143, D_144, D_145, D_147, D_148, D_149, D_150, D_151, D_153, D_154, D_155, D_156, D_157, D_158, D_159, D_160, D_161, D_162, D_163, D_164, D_165, D_166, D_167, D_168, D_169, D_170, D_171, D_172, D_173, D_174, D_178, D_179, D_180, D_181, D_182, D_183, D_184, D_185, D_186]) h
  simp only [ShpF] at h
  obtain ⟨_, _, rfl, h1, _, _, rfl, h2, rfl⟩ := h
  obtain ⟨rs, rfl, hl, hr⟩ := shp_slice (e := 50) (by simp only [D_1, D_2, D_3, D_4, D_5, D_6, D_7, D_8, D_9, D_10, D_11, D_12, D_13, D_14, D_15, D_16, D_17, D_18, D_19, D_21, D_22, D_23, D_24, D_25, D_26, D_27, D_28, D_29, D_30, D_31, D_32, D_33, D_35, D_36, D_37, D_38, D_39, D_40, D_41, D_42, D_43, D_45, D_46, D_47, D_48, D_49, D_50, D_51, D_52, D_53, D_55, D_56, D_57, D_58, D_60, D_61, D_62, D_63, D_64, D_65, D_67, D_68, D_69, D_70, D_71, D_72, D_73, D_74, D_75, D_76, D_77, D_78, D_79, D_80, D_81, D_82, D_83, D_84, D_85, D_86, D_87, D_88, D_89, D_91, D_93, D_94, D_95, D_97, D_98, D_99, D_101, D_103, D_104, D_105, D_106, D_108, D_109, D_110, D_111, D_113, D_114, D_115, D_116, D_117, D_118, D_119, D_120, D_121, D_122, D_124, D_125, D_127, D_128, D_130, D_132, D_133, D_134, D_135, D_136, D_138, D_139, D_141, D_143, D_144, D_145, D_147, D_148, D_149, D_150, D_151, D_153, D_154, D_155, D_156, D_157, D_158, D_159, D_160, D_161, D_162, D_163, D_164, D_165, D_166, D_167, D_168, D_169, D_170, D_171, D_172, D_173, D_174, D_178, D_179, D_180, D_181, D_182, D_183, D_184, D_185, D_186]) h1
  obtain ⟨l, rfl, h4⟩ := shp_rows (f := tagRow) (Q := fun _ => True) fun row hrow => by
    obtain ⟨q, h1, _, _⟩ := shp_tag (hr row hrow)
    exact ⟨q, h1, trivial⟩
  obtain ⟨n, rfl, _⟩ := shp_i64 (t := 3) rfl h2
  refine ⟨⟨l, n⟩, ?_, by simpa using hl⟩
  simp only [sessA, sessCs, D_1, D_2, D_3, D_4, D_5, D_6, D_7, D_8, D_9, D_10, D_11, D_12, D_13, D_14, D_15, D_16, D_17, D_18, D_19, D_21, D_22, D_23, D_24, D_25, D_26, D_27, D_28, D_29, D_30, D_31, D_32, D_33, D_35, D_36, D_37, D_38, D_39, D_40, D_41, D_42, D_43, D_45, D_46, D_47, D_48, D_49, D_50, D_51, D_52, D_53, D_55, D_56, D_57, D_58, D_60, D_61, D_62, D_63, D_64, D_65, D_67, D_68, D_69, D_70, D_71, D_72, D_73, D_74, D_75, D_76, D_77, D_78, D_79, D_80, D_81, D_82, D_83, D_84, D_85, D_86, D_87, D_88, D_89, D_91, D_93, D_94, D_95, D_97, D_98, D_99, D_101, D_103, D_104, D_105, D_106, D_108, D_109, D_110, D_111, D_113, D_114, D_115, D_116, D_117, D_118, D_119, D_120, D_121, D_122, D_124, D_125, D_127, D_128, D_130, D_132, D_133, D_134, D_135, D_136, D_138, D_139, D_141, D_143, D_144, D_145, D_147, D_148, D_149, D_150, D_151, D_153, D_154, D_155, D_156, D_157, D_158, D_159, D_160, D_161, D_162, D_163, D_164, D_165, D_166, D_167, D_168, D_169, D_170, D_171, D_172, D_173, D_174, D_178, D_179, D_180, D_181, D_182, D_183, D_184, D_185, D_186]; rfl
end Go.Proofs.Ythbejciebmkclaa.Ab
