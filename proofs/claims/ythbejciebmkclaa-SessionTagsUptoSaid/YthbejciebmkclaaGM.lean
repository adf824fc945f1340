/-
  Texts of the proof, one behind the other: SeS SeA SeB SeC SeD SeE SeF SeG SeH SeI SeP SeQ SeR SeT SeU SeW SeX OpenS.
  No condition but those that each theorem names.
-/
import Derived.Test.YthbejciebmkclaaGK
import Derived.Test.YthbejciebmkclaaGC
import Derived.Test.YthbejciebmkclaaGL
import Derived.Test.YthbejciebmkclaaGJ
import Derived.Test.YthbejciebmkclaaGR
namespace Go.Proofs.Ythbejciebmkclaa.Ab
open Go Go.RowKit
set_option linter.unusedVariables false
set_option linter.unusedSimpArgs false

structure LSess where
  tags : List LTag
  next : Int
/-- a hall, its journal, a session -/
structure LW where
  h : LHall
  l : LLog
  s : LSess
def sessCs (s : LSess) : List AV := [.sl 4 (s.tags.map tagRow), .int .i64 s.next]
def sessA (s : LSess) : AV := .agg (sessCs s)
def logCs (l : LLog) : List AV := [.sl 1 (l.bytes.map byteRow), .int .i64 l.sure]
def llogA (l : LLog) : AV := .agg (logCs l)
/-- the doer's cells -/
def wCs (w : LW) : List AV := [.sl 3 (w.h.queues.map queueRow), .int .i64 w.h.next, .sl 1 (w.l.bytes.map byteRow), .int .i64 w.l.sure, .sl 4 (w.s.tags.map tagRow), .int .i64 w.s.next]
def wA (w : LW) : AV := .agg (wCs w)
def say0 : LSay := ⟨0, 0, 0, 0, note0⟩
def faultS (e : Int) : LSay := ⟨4, 0, 0, e, note0⟩
def sayOk : LSay := ⟨1, 0, 0, 0, note0⟩
theorem sessA_inj {a b : LSess} (h : sessA a = sessA b) : a = b := by
  obtain ⟨t, n⟩ := a
  obtain ⟨t', n'⟩ := b
  simp only [sessA, sessCs, AV.agg.injEq, List.cons.injEq, AV.int.injEq, AV.sl.injEq, true_and, and_true] at h
  rw [tags_inj h.1, h.2]
theorem wCs_inj {a b : LW} (h : wCs a = wCs b) : a = b := by
  obtain ⟨⟨q, x⟩, ⟨y, s⟩, ⟨t, n⟩⟩ := a
  obtain ⟨⟨q', x'⟩, ⟨y', s'⟩, ⟨t', n'⟩⟩ := b
  simp only [wCs, List.cons.injEq, AV.int.injEq, AV.sl.injEq, true_and, and_true] at h
  obtain ⟨h1, rfl, h2, rfl, h3, rfl⟩ := h
  rw [queues_inj h1, bytes_inj h2, tags_inj h3]
theorem tagGet {l : List LTag} {i : Nat} (h : i < l.length) : (l.map tagRow).getD i [] = tagRow (l.getD i tag0) := by
  simp [h]

theorem names_sess (s : LSess) : names (sessA s) = [] := by simp [sessA, sessCs, names, namess]
theorem names_llog (s : LLog) : names (llogA s) = [] := by simp [llogA, logCs, names, namess]
theorem names_wA (s : LW) : names (wA s) = [] := by simp [wA, wCs, names, namess]
theorem names_ask (s : LAsk) : names (askA s) = [] := by simp [askA, names, namess]
theorem names_say (s : LSay) : names (sayA s) = [] := by simp [sayA, names, namess]
attribute [simp] names_sess names_llog names_wA names_ask names_say
theorem con_fault (e : Int) : Con Try.prog D 108 [.int .i64 e] ⟨sayA (faultS e), []⟩ := by
  have hok : GOk Try.prog D (tabG []) := tabG_ok _
  generalize tabG [] = G at *
  refine conW (G := G) (rs := [(2, some 89)]) hok Try.func108 Try.results108 Try.ntmps108 (fun _ => {}) fun X hP hD hG' hX => ?_
  simp only [argS, num]
  simp (disch := omega) only [go_sem, Nat.reduceLeDiff, reduceCtorEq, Nat.reduceAdd, Nat.reduceSub, Nat.reduceMul, Nat.reduceLT, Nat.reduceEqDiff, Int.reduceEq, Int.reduceLE, Int.reduceLT, Int.reducePow, Int.reduceMul, Int.reduceToNat, Int.reduceNeg, ↓reduceIte, hD, hG', wrap64, unbox, tmv, Option.some.injEq, exists_eq_left']
  refine endW [] [] (by simp) rfl rfl rfl ?_ ?_ <;> simp only [go_sem, Nat.reduceEqDiff]
  simp [sayA, faultS, note0, cov, covs, subs, names, namess]
def eFault : Ent Try.prog D := ⟨108, Int, fun e => [.int .i64 e], fun _ => True, fun e => ⟨sayA (faultS e), []⟩, fun x y _ _ h => by
  simp only [List.cons.injEq, AV.int.injEq, true_and, and_true] at h
  rw [h], fun e _ => con_fault e⟩

/-- is it nil: one that holds something is not -/
theorem inl_eqnil {X : Cx} (hP : X.P = Try.prog) {ops : Array Oper} {σ : AS} {R : AS → Prop} {d : Nat} {x : Operand} {T e U n : Nat} {ty : Nat} {pos : String} {af : Array Edge} {rs : List (List AV)} (hu : Try.prog.underlying T = some (.slice e)) (hx : ev σ x = .sl n rs) (hd : d < σ.nt)
    (h : ∀ b : Bool, (b = true → rs = []) → R { σ with tm := (d, .bool b) :: σ.tm }) : InlOp X ops ⟨some d, .binOp .eql T x (.const (.slice none 0 0)) U, ty, pos, af, none⟩ σ R := by
  refine ⟨fun γ a w i Qx hi ⟨ρ, hs⟩ => ?_⟩
  have hvx := (hs.ev x).1
  rw [hx] at hvx
  generalize hv : a.eval x = v at hvx
  cases hvx with
  | sl _ _ A c b o val hc hm hA hrow hcell hval =>
  unfold wpOp
  simp only [hi]
  rw [if_pos (by simp [Region.wanted])]
  left
  have hex : execOp a.eval ⟨some d, .binOp .eql T x (.const (.slice none 0 0)) U, ty, pos, af, none⟩ = (do pure (.value (← (do eqGuard .eql T x (.const (.slice none 0 0)) (a.eval x) (.slice none 0 0); binOp .eql T (a.eval x) (.slice none 0 0))))) := rfl
  refine wp_of_value hex (v := .bool A.isNone) (w' := w) ?_ ⟨_, h A.isNone (fun hn => ?_), ρ, hs.put hd (.bool _) (by simp [names])⟩
  · rw [hv, hP]
    rw [Sem.run_bind]
    show Result.andThen (.ok () w) _ = _
    rw [Result.andThen_ok, Lib.run_eql_slice_nil w _ _ _ _ _ _ _ hu]
  · rcases Nat.eq_zero_or_pos rs.length with h0 | h0
    · exact List.eq_nil_of_length_eq_zero h0
    · rw [(hA h0).1] at hn
      cases hn
theorem con_clonetags (l : List LTag) (hl : l.length ≤ 16777216) : Con Try.prog D 105 [.sl 4 (l.map tagRow)] ⟨.os 0, [(50, 4, l.map tagRow)]⟩ := by
  have hok : GOk Try.prog D (tabG []) := tabG_ok _
  generalize tabG [] = G at *
  refine conW (G := G) (rs := [(2, none)]) hok Try.func105 Try.results105 Try.ntmps105 (fun _ => {}) fun X hP hD hG' hX => ?_
  simp only [argS, num]
  simp (disch := omega) only [go_sem, Nat.reduceLeDiff, reduceCtorEq, Nat.reduceAdd, Nat.reduceSub, Nat.reduceMul, Nat.reduceLT, Nat.reduceEqDiff, Int.reduceEq, Int.reduceLE, Int.reduceLT, Int.reducePow, Int.reduceMul, Int.reduceToNat, Int.reduceNeg, ↓reduceIte, hD, hG', wrap64, unbox, tmv, Option.some.injEq, exists_eq_left']
  refine inl_eqnil hP Try.underlying77 rfl (by simp) fun b hb => ?_
  simp (disch := omega) only [go_sem, Nat.reduceLeDiff, reduceCtorEq, Nat.reduceAdd, Nat.reduceSub, Nat.reduceMul, Nat.reduceLT, Nat.reduceEqDiff, Int.reduceEq, Int.reduceLE, Int.reduceLT, Int.reducePow, Int.reduceMul, Int.reduceToNat, Int.reduceNeg, ↓reduceIte, hD, hG', wrap64, unbox, tmv, Option.some.injEq, exists_eq_left']
  cases b
  · simp (disch := omega) only [go_sem, Nat.reduceLeDiff, reduceCtorEq, Nat.reduceAdd, Nat.reduceSub, Nat.reduceMul, Nat.reduceLT, Nat.reduceEqDiff, Int.reduceEq, Int.reduceLE, Int.reduceLT, Int.reducePow, Int.reduceMul, Int.reduceToNat, Int.reduceNeg, ↓reduceIte, hD, hG', wrap64, unbox, tmv, Option.some.injEq, exists_eq_left']
    (repeat (with_reducible refine And.intro (by first | omega | decide | (simp; done) | (simp only [List.length_append, List.length_cons, List.length_nil, List.length_map]; omega)) ?_))
    refine endW [] [(0, 7)] (by simp) rfl rfl rfl ?_ ?_ <;> simp only [go_sem, Nat.reduceEqDiff]
  · have : l = [] := by simpa using hb rfl
    subst this
    simp (disch := omega) only [go_sem, Nat.reduceLeDiff, reduceCtorEq, Nat.reduceAdd, Nat.reduceSub, Nat.reduceMul, Nat.reduceLT, Nat.reduceEqDiff, Int.reduceEq, Int.reduceLE, Int.reduceLT, Int.reducePow, Int.reduceMul, Int.reduceToNat, Int.reduceNeg, ↓reduceIte, hD, hG', wrap64, unbox, tmv, Option.some.injEq, exists_eq_left']
    refine endW [] [] (by simp) rfl rfl rfl ?_ ?_ <;> simp only [go_sem, Nat.reduceEqDiff]
    simp
def eClonetags : Ent Try.prog D := ⟨105, List LTag, fun l => [.sl 4 (l.map tagRow)], fun l => l.length ≤ 16777216, fun l => ⟨.os 0, [(50, 4, l.map tagRow)]⟩, fun x y _ _ h => by
  simp only [List.cons.injEq, AV.sl.injEq, true_and, and_true] at h
  rw [tags_inj h], con_clonetags⟩
def sownLo : Nat → Lo := fun id => match id with | 1 => {uo := [6], un := [2]} | _ => {}
theorem con_sown (s : LSess) (hl : s.tags.length ≤ 16777216) : Con Try.prog D 62 [sessA s] ⟨.agg [.os 0, .int .i64 s.next], [(50, 4, s.tags.map tagRow)]⟩ := by
  have hok : GOk Try.prog D (tabG [eClonetags]) := tabG_ok _
  have g1 := tabG_use (T := [eClonetags]) (E := eClonetags) (i := 0) rfl (by decide) (s.tags) (hl)
  generalize tabG [eClonetags] = G at *
  dsimp only [eClonetags] at g1
  obtain ⟨t, n⟩ := s
  simp only at g1
  refine conW (G := G) (rs := [(2, some 79)]) hok Try.func62 Try.results62 Try.ntmps62 (sownLo) fun X hP hD hG' hX => ?_
  simp only [argS, num, sessA, sessCs]
  simp (disch := omega) only [go_sem, Nat.reduceLeDiff, reduceCtorEq, Nat.reduceAdd, Nat.reduceSub, Nat.reduceMul, Nat.reduceLT, Nat.reduceEqDiff, Int.reduceEq, Int.reduceLE, Int.reduceLT, Int.reducePow, Int.reduceMul, Int.reduceToNat, Int.reduceNeg, ↓reduceIte, hD, hG', wrap64, g1, sownLo, unbox, tmv, Option.some.injEq, exists_eq_left']
  (repeat (with_reducible refine And.intro (by first | omega | decide | (simp; done) | (simp only [List.length_append, List.length_cons, List.length_nil, List.length_map]; omega)) ?_))
  refine endW [] [(0, 4101)] (by simp) rfl rfl rfl ?_ ?_ <;> simp only [go_sem, Nat.reduceEqDiff]
end Go.Proofs.Ythbejciebmkclaa.Ab
namespace Go.Proofs.Ythbejciebmkclaa.Ab
open Go Go.RowKit
set_option linter.unusedVariables false
set_option linter.unusedSimpArgs false

def keepS (w : LW) (r : Res4) : LW × LSay :=
  if r.2.2 ≠ 0 then (w, faultS r.2.2)
  else if (writeS w.l.bytes w.l.sure r.2.1).2 ≠ 0 then (w, faultS (writeS w.l.bytes w.l.sure r.2.1).2)
  else (⟨r.1, (writeS w.l.bytes w.l.sure r.2.1).1, w.s⟩, sayOk)
abbrev KeepX := LW × Res4
def keepArgs (x : KeepX) : List AV := [.ptr 60000 0, .agg (hallCs x.2.1), entriesA x.2.2.1, .int .i64 x.2.2.2]
def wBl (w : LW) : List (Nat × Blk) := [(60000, .cells (wCs w))]
def KeepOk (x : KeepX) : Prop := x.2.2.2 = 0 → WOk ((x.1.l.bytes, x.1.l.sure), x.2.2.1)
def keepLo : Nat → Lo := fun id => match id with | 6 => {uo := [6, 9], un := [60000]} | _ => {}
set_option maxRecDepth 100000 in
set_option maxHeartbeats 1000000 in
theorem pc_keep (x : KeepX) (hx : KeepOk x) : PC Try.prog D 109 (keepArgs x) (wBl x.1) (sayA (keepS x.1 x.2).2) (wBl (keepS x.1 x.2).1) := by
  have hok : GOk Try.prog D (tabG [eFault, eWrite]) := tabG_ok _
  have g1 := fun (e : Int) => tabG_use (T := [eFault, eWrite]) (E := eFault) (i := 0) rfl (by decide) (e) (trivial)
  have g2 := fun (h : WOk ((x.1.l.bytes, x.1.l.sure), x.2.2.1)) => tabG_use (T := [eFault, eWrite]) (E := eWrite) (i := 1) rfl (by decide) (((x.1.l.bytes, x.1.l.sure), x.2.2.1)) (h)
  generalize tabG [eFault, eWrite] = G at *
  dsimp only [eFault] at g1
  dsimp only [eWrite] at g2
  obtain ⟨⟨⟨q, qn⟩, ⟨lb, ls⟩, ⟨ts, tn⟩⟩, ⟨⟨xq, xn⟩, es, er⟩⟩ := x
  unfold KeepOk at hx
  simp only at hx g2
  refine pc_of (G := G) (rs := [(8, some 89)]) MOk.none mixed tok hok [60000] Try.func109 rfl (by decide) Try.results109 (by decide) rfl (by decide) Try.ntmps109 (by simp [keepArgs]) (by simp [keepArgs, wBl, hallCs, entriesA, namess, names, keys])
    (closB_of (by simp [wBl, wCs, subs, namess, names])) (ndB_of (by simp [wBl, nd])) (ndB_of (by simp [wBl, nd])) (by simp [wBl, get]) (by simp [wBl, keys]) fun X hP hD hG' hX => evC_sound hX keepLo _ _ _ ?_
  simp only [argP, num, pinT, pin, keepArgs, wBl, wCs, hallCs, entriesA]
  by_cases h0 : er = 0
  · have e0 : (er != 0) = false := by simp [h0]
    have g2 := g2 (hx h0)
    have hk : keepS ⟨⟨q, qn⟩, ⟨lb, ls⟩, ⟨ts, tn⟩⟩ ⟨⟨xq, xn⟩, es, er⟩ = if (writeS lb ls es).2 ≠ 0 then (⟨⟨q, qn⟩, ⟨lb, ls⟩, ⟨ts, tn⟩⟩, faultS (writeS lb ls es).2) else (⟨⟨xq, xn⟩, (writeS lb ls es).1, ⟨ts, tn⟩⟩, sayOk) := by
      unfold keepS
      rw [if_neg (by simp [h0])]
    rw [hk]
    generalize writeS lb ls es = W at *
    obtain ⟨⟨wb, ws⟩, we⟩ := W
    simp only [writeA, entriesA] at g2
    simp (disch := omega) only [go_sem, Nat.reduceLeDiff, reduceCtorEq, Nat.reduceAdd, Nat.reduceSub, Nat.reduceMul, Nat.reduceLT, Nat.reduceEqDiff, Int.reduceEq, Int.reduceLE, Int.reduceLT, Int.reducePow, Int.reduceMul, Int.reduceToNat, Int.reduceNeg, ↓reduceIte, hD, hG', wrap64, e0, g2, keepLo, unbox, tmv, Option.some.injEq, exists_eq_left']
    by_cases h1 : we = 0
    · have e1 : (we != 0) = false := by simp [h1]
      rw [if_neg (by simp [h1])]
      simp (disch := omega) only [go_sem, Nat.reduceLeDiff, reduceCtorEq, Nat.reduceAdd, Nat.reduceSub, Nat.reduceMul, Nat.reduceLT, Nat.reduceEqDiff, Int.reduceEq, Int.reduceLE, Int.reduceLT, Int.reducePow, Int.reduceMul, Int.reduceToNat, Int.reduceNeg, ↓reduceIte, hD, hG', wrap64, e1, keepLo, unbox, tmv, Option.some.injEq, exists_eq_left']
      (repeat (with_reducible refine And.intro (by first | omega | decide | (simp; done) | (simp only [List.length_append, List.length_cons, List.length_nil, List.length_map]; omega)) ?_))
      refine ⟨[], [(60000, 60000)], rfl, rfl, ?_, ?_⟩ <;> simp only [go_sem, Nat.reduceEqDiff, resP, pinT, pin, here, Nat.reduceAdd, ↓reduceIte, reduceCtorEq]
      all_goals (try simp [sayA, faultS, sayOk, note0, wCs, cov, covs, subs, names, namess])
    · have e1 : (we != 0) = true := by simp [h1]
      rw [if_pos (by simp [h1])]
      have g1 := g1 we
      simp only [sayA, faultS] at g1
      simp (disch := omega) only [go_sem, Nat.reduceLeDiff, reduceCtorEq, Nat.reduceAdd, Nat.reduceSub, Nat.reduceMul, Nat.reduceLT, Nat.reduceEqDiff, Int.reduceEq, Int.reduceLE, Int.reduceLT, Int.reducePow, Int.reduceMul, Int.reduceToNat, Int.reduceNeg, ↓reduceIte, hD, hG', wrap64, e1, g1, keepLo, unbox, tmv, Option.some.injEq, exists_eq_left']
      refine ⟨[], [(60000, 60000)], rfl, rfl, ?_, ?_⟩ <;> simp only [go_sem, Nat.reduceEqDiff, resP, pinT, pin, here, Nat.reduceAdd, ↓reduceIte, reduceCtorEq]
      all_goals (try simp [sayA, faultS, sayOk, note0, wCs, cov, covs, subs, names, namess])
  · have e0 : (er != 0) = true := by simp [h0]
    have hk : keepS ⟨⟨q, qn⟩, ⟨lb, ls⟩, ⟨ts, tn⟩⟩ ⟨⟨xq, xn⟩, es, er⟩ = (⟨⟨q, qn⟩, ⟨lb, ls⟩, ⟨ts, tn⟩⟩, faultS er) := by
      unfold keepS
      rw [if_pos (by simpa using h0)]
    rw [hk]
    have g1 := g1 er
    simp only [sayA, faultS] at g1
    simp (disch := omega) only [go_sem, Nat.reduceLeDiff, reduceCtorEq, Nat.reduceAdd, Nat.reduceSub, Nat.reduceMul, Nat.reduceLT, Nat.reduceEqDiff, Int.reduceEq, Int.reduceLE, Int.reduceLT, Int.reducePow, Int.reduceMul, Int.reduceToNat, Int.reduceNeg, ↓reduceIte, hD, hG', wrap64, e0, g1, keepLo, unbox, tmv, Option.some.injEq, exists_eq_left']
    refine ⟨[], [(60000, 60000)], rfl, rfl, ?_, ?_⟩ <;> simp only [go_sem, Nat.reduceEqDiff, resP, pinT, pin, here, Nat.reduceAdd, ↓reduceIte, reduceCtorEq]
    all_goals (try simp [sayA, faultS, sayOk, note0, wCs, cov, covs, subs, names, namess])
end Go.Proofs.Ythbejciebmkclaa.Ab
namespace Go.Proofs.Ythbejciebmkclaa.Ab
open Go Go.RowKit
set_option linter.unusedVariables false
set_option linter.unusedSimpArgs false

def stakeS (w : LW) (nm : ByteArray) (now : Int) : LW × LSay × Int :=
  if 4 ≤ w.s.tags.length then (w, faultS 5, 0)
  else if (htakeS w.h nm now).2.2 = 9 then (w, say0, 9)
  else if (htakeS w.h nm now).2.2 ≠ 0 then (w, faultS (htakeS w.h nm now).2.2, 0)
  else (⟨(htakeS w.h nm now).1, w.l, ⟨w.s.tags ++ [⟨w.s.next + 1, nm, (htakeS w.h nm now).2.1.id, (htakeS w.h nm now).2.1.turn⟩], w.s.next + 1⟩⟩,
    ⟨2, w.s.next + 1, (htakeS w.h nm now).2.1.tries, 0, (htakeS w.h nm now).2.1.note⟩, 0)
def eSown : Ent Try.prog D := ⟨62, LSess, fun s => [sessA s], fun s => s.tags.length ≤ 16777216, fun s => ⟨.agg [.os 0, .int .i64 s.next], [(50, 4, s.tags.map tagRow)]⟩, fun x y _ _ h => by
  simp only [List.cons.injEq, and_true] at h
  rw [sessA_inj h], con_sown⟩
structure TakeX where
  w : LW
  nm : ByteArray
  now : Int
def takeArgs (x : TakeX) : List AV := [.ptr 60000 0, .str x.nm.data.toList, .int .i64 x.now]
def TakeOk (x : TakeX) : Prop := (x.w.h.Fits ∧ (∀ q ∈ x.w.h.queues, q.Ok) ∧ -1000000 ≤ x.now ∧ x.now ≤ 1000000) ∧ -1000000000000 ≤ x.w.s.next ∧ x.w.s.next ≤ 1000000000000
def takeV (x : TakeX) : AV := .tup [sayA (stakeS x.w x.nm x.now).2.1, .int .i64 (stakeS x.w x.nm x.now).2.2]
def stakeLo : Nat → Lo := fun id => match id with | 12 => {uo := [18, 22], un := [60000], kn := [4143], ex := [5, 10, 17]} | 13 => {uo := [10], un := [6]} | _ => {}
set_option maxRecDepth 100000 in
set_option maxHeartbeats 1000000 in
theorem pc_stake (x : TakeX) (hx : TakeOk x) : PC Try.prog D 110 (takeArgs x) (wBl x.w) (takeV x) (wBl (stakeS x.w x.nm x.now).1) := by
  have hok : GOk Try.prog D (tabG [eFault, eHtake, eSown]) := tabG_ok _
  have g1 := fun (e : Int) => tabG_use (T := [eFault, eHtake, eSown]) (E := eFault) (i := 0) rfl (by decide) (e) (trivial)
  have g2 := tabG_use (T := [eFault, eHtake, eSown]) (E := eHtake) (i := 1) rfl (by decide) ((x.w.h, x.nm, x.now)) (hx.1)
  have g3 := fun (h : x.w.s.tags.length ≤ 16777216) => tabG_use (T := [eFault, eHtake, eSown]) (E := eSown) (i := 2) rfl (by decide) (x.w.s) (h)
  generalize tabG [eFault, eHtake, eSown] = G at *
  dsimp only [eFault] at g1
  dsimp only [eHtake] at g2
  dsimp only [eSown] at g3
  obtain ⟨⟨⟨q, qn⟩, ⟨lb, ls⟩, ⟨ts, tn⟩⟩, nm, now⟩ := x
  obtain ⟨hx1, hx2⟩ := hx
  simp only at g2 g3 hx2
  refine pc_of (G := G) (rs := [(6, some 89), (7, none)]) MOk.none mixed tok hok [60000] Try.func110 rfl (by decide) Try.results110 (by decide) rfl (by decide) Try.ntmps110 (by simp [takeArgs]) (by simp [takeArgs, wBl, namess, names, keys])
    (closB_of (by simp [wBl, wCs, subs, namess, names])) (ndB_of (by simp [wBl, nd])) (ndB_of (by simp [wBl, nd])) (by simp [wBl, get]) (by simp [wBl, keys]) fun X hP hD hG' hX => evC_sound hX stakeLo _ _ _ ?_
  simp only [argP, num, pinT, pin, takeArgs, takeV, wBl, wCs]
  generalize hr : stakeS ⟨⟨q, qn⟩, ⟨lb, ls⟩, ⟨ts, tn⟩⟩ nm now = r
  unfold stakeS at hr
  simp only at hr
  by_cases h4 : 4 ≤ ts.length
  · have d4 : decide ((ts.length : Int) ≥ 4) = true := decide_eq_true (by omega)
    rw [if_pos h4] at hr
    subst hr
    have g1 := g1 5
    simp only [sayA, faultS] at g1
    simp (disch := omega) only [go_sem, Nat.reduceLeDiff, reduceCtorEq, Nat.reduceAdd, Nat.reduceSub, Nat.reduceMul, Nat.reduceLT, Nat.reduceEqDiff, Int.reduceEq, Int.reduceLE, Int.reduceLT, Int.reducePow, Int.reduceMul, Int.reduceToNat, Int.reduceNeg, ↓reduceIte, hD, hG', wrap64, d4, g1, stakeLo, unbox, tmv, Option.some.injEq, exists_eq_left']
    refine ⟨[], [(60000, 60000)], rfl, rfl, ?_, ?_⟩ <;> simp only [go_sem, Nat.reduceEqDiff, resP, pinT, pin, here, Nat.reduceAdd, ↓reduceIte, reduceCtorEq]
    all_goals (try simp [sayA, faultS, note0, wCs, cov, covs, subs, names, namess])
  have d4 : decide ((ts.length : Int) ≥ 4) = false := decide_eq_false (by omega)
  rw [if_neg h4] at hr
  generalize htakeS ⟨q, qn⟩ nm now = T at *
  obtain ⟨⟨xq, xn⟩, ⟨i1, i2, i3, i4, i5, ⟨i6, i7⟩⟩, e⟩ := T
  simp only [hallA, itemA, itemRow, sessA, sessCs] at g2 g3 hr
  by_cases h9 : e = 9
  · have e0 : (e == 0) = false := by simp [h9]
    have e9 : (e == 9) = true := by simp [h9]
    rw [if_pos h9] at hr
    subst hr
    simp (disch := omega) only [go_sem, Nat.reduceLeDiff, reduceCtorEq, Nat.reduceAdd, Nat.reduceSub, Nat.reduceMul, Nat.reduceLT, Nat.reduceEqDiff, Int.reduceEq, Int.reduceLE, Int.reduceLT, Int.reducePow, Int.reduceMul, Int.reduceToNat, Int.reduceNeg, ↓reduceIte, hD, hG', wrap64, d4, g2, e0, e9, stakeLo, unbox, tmv, Option.some.injEq, exists_eq_left']
    refine ⟨[], [(60000, 60000)], rfl, rfl, ?_, ?_⟩ <;> simp only [go_sem, Nat.reduceEqDiff, resP, pinT, pin, here, Nat.reduceAdd, ↓reduceIte, reduceCtorEq]
    all_goals (try simp [sayA, say0, note0, wCs, cov, covs, subs, names, namess])
  rw [if_neg h9] at hr
  by_cases h0 : e = 0
  · have e0 : (e == 0) = true := by simp [h0]
    rw [if_neg (by simp [h0])] at hr
    subst hr
    have g3 := g3 (by omega)
    simp (disch := omega) only [go_sem, Nat.reduceLeDiff, reduceCtorEq, Nat.reduceAdd, Nat.reduceSub, Nat.reduceMul, Nat.reduceLT, Nat.reduceEqDiff, Int.reduceEq, Int.reduceLE, Int.reduceLT, Int.reducePow, Int.reduceMul, Int.reduceToNat, Int.reduceNeg, ↓reduceIte, hD, hG', wrap64, d4, g2, g3, e0, stakeLo, unbox, tmv, Option.some.injEq, exists_eq_left']
    (repeat (with_reducible refine And.intro (by first | omega | decide | (simp; done) | (simp only [List.length_append, List.length_cons, List.length_nil, List.length_map]; omega)) ?_))
    refine ⟨[77], [(60000, 60000)], rfl, rfl, ?_, ?_⟩ <;> simp only [go_sem, Nat.reduceEqDiff, resP, pinT, pin, here, Nat.reduceAdd, ↓reduceIte, reduceCtorEq]
    all_goals (try simp [sayA, note0, wCs, tagRow, cov, covs, subs, names, namess])
  · have e0 : (e == 0) = false := by simp [h0]
    have e9 : (e == 9) = false := by simp [h9]
    rw [if_pos (by simpa using h0)] at hr
    subst hr
    have g1 := g1 e
    simp only [sayA, faultS] at g1
    simp (disch := omega) only [go_sem, Nat.reduceLeDiff, reduceCtorEq, Nat.reduceAdd, Nat.reduceSub, Nat.reduceMul, Nat.reduceLT, Nat.reduceEqDiff, Int.reduceEq, Int.reduceLE, Int.reduceLT, Int.reducePow, Int.reduceMul, Int.reduceToNat, Int.reduceNeg, ↓reduceIte, hD, hG', wrap64, d4, g1, g2, e0, e9, stakeLo, unbox, tmv, Option.some.injEq, exists_eq_left']
    refine ⟨[], [(60000, 60000)], rfl, rfl, ?_, ?_⟩ <;> simp only [go_sem, Nat.reduceEqDiff, resP, pinT, pin, here, Nat.reduceAdd, ↓reduceIte, reduceCtorEq]
    all_goals (try simp [sayA, faultS, note0, wCs, cov, covs, subs, names, namess])
end Go.Proofs.Ythbejciebmkclaa.Ab
namespace Go.Proofs.Ythbejciebmkclaa.Ab
open Go Go.RowKit
set_option linter.unusedVariables false
set_option linter.unusedSimpArgs false

theorem keepM_inj {x y : LW} {f g : Nat → Nat} {b : Option Blk} (h1 : b = some (renBl f (.cells (wCs x)))) (h2 : b = some (renBl g (.cells (wCs y)))) : x = y := by
  rw [h1] at h2
  have h2 := Option.some.inj h2
  refine wCs_inj ?_
  simpa [renBl, wCs, renFs, renF] using h2
def eKeep : PEnt Try.prog D where
  f := 109
  X := KeepX
  np := 1
  args := keepArgs
  bl0 := fun x => wBl x.1
  v0 := fun x => sayA (keepS x.1 x.2).2
  bl1 := fun x => wBl (keepS x.1 x.2).1
  ok := KeepOk
  k0 := fun x n h => by simp [wBl, keys] at h; omega
  k1 := fun x n h => by simp [wBl, keys] at h ⊢; omega
  nd := fun x => by simp [wBl, keys]
  inj := fun x y dn aa bs bl _ _ h1 h2 h hb1 hb2 => by
    obtain ⟨a, rfl⟩ : ∃ a, aa = [a] := List.length_eq_one_iff.1 h1
    obtain ⟨b, rfl⟩ : ∃ b, bs = [b] := List.length_eq_one_iff.1 h2
    obtain ⟨w, ⟨⟨q, nx⟩, es, e⟩⟩ := x
    obtain ⟨w', ⟨⟨q', nx'⟩, es', e'⟩⟩ := y
    simp only [keepArgs, hallCs, entriesA, renFs, renF, List.cons.injEq, AV.agg.injEq, AV.sl.injEq, AV.int.injEq, AV.ptr.injEq, true_and, and_true] at h
    obtain ⟨r3, ⟨r1, rfl⟩, r2, rfl⟩ := h
    have r1 := queues_inj r1
    have r2 := entries_inj r2
    subst r1 r2
    have r3 : a = b := by simpa [mkAct] using r3
    subst r3
    have hw : w = w' := keepM_inj (hb1 60000 _ (by simp [wBl, get])) (hb2 60000 _ (by simp [wBl, get]))
    rw [hw]
  con := fun x h => pc_keep x h
noncomputable def keepM : MCtr := pcM [eKeep]
theorem keepM_ok {G : Ctr} : MOk Try.prog D G keepM := mok_pc
open Classical in
theorem keepM_1 {w : LW} {r : Res4} (hx : KeepOk (w, r)) (n dn : Nat) (bl : Nat → Option Blk) :
    keepM dn 109 [.ptr n 0, .agg (hallCs r.1), entriesA r.2.1, .int .i64 r.2.2] bl =
      if bl n = some (.cells (wCs w)) then some { v := sayA (keepS w r).2, up := [(n, .cells (wCs (keepS w r).1))] }
      else keepM dn 109 [.ptr n 0, .agg (hallCs r.1), entriesA r.2.1, .int .i64 r.2.2] bl := by
  split
  · rename_i h
    have := pcM_use (T := [eKeep]) (E := eKeep) (i := 0) rfl (by decide) (w, r) hx [n] rfl (by simp) (args := [.ptr n 0, .agg (hallCs r.1), entriesA r.2.1, .int .i64 r.2.2]) (dn := dn) (bl := bl) (by simp [eKeep, keepArgs, renFs, renF, hallCs, entriesA, mkAct]) (fun k z hz => by
      simp only [eKeep, wBl, get] at hz
      split at hz
      · rename_i q; cases hz; subst q; simpa [mkAct, renBl, renFs, renF, wCs] using h
      · cases hz)
    refine Eq.trans this ?_
    simp [eKeep, pcE, wBl, mkAct, wCs, sayA, renFs, renF, renBl, pcU, pcN, pcK, keys, mem]
  · rfl
def tagged (n : Int) (t : LTag) : Bool := t.n == n
theorem names_tagRow (t : LTag) : namess (tagRow t) = [] := by simp [tagRow, names, namess]
attribute [simp] names_tagRow
def findT (l : List LTag) (n : Int) : Int := placeG (tagged n) l 0
theorem con_tag1 (t : LTag) (n : Int) : Con Try.prog D 132 [.agg (tagRow t), .iptr [.int .i64 n]] ⟨.bool (tagged n t), []⟩ := by
  have hok : GOk Try.prog D (tabG []) := tabG_ok _
  generalize tabG [] = G at *
  obtain ⟨t1, t2, t3, t4⟩ := t
  refine conW (G := G) (rs := [(3, none)]) hok Try.func132 Try.results132 Try.ntmps132 (fun _ => {}) fun X hP hD hG' hX => ?_
  simp only [argS, num, tagRow]
  simp (disch := omega) only [go_sem, Nat.reduceLeDiff, reduceCtorEq, Nat.reduceAdd, Nat.reduceSub, Nat.reduceMul, Nat.reduceLT, Nat.reduceEqDiff, Int.reduceEq, Int.reduceLE, Int.reduceLT, Int.reducePow, Int.reduceMul, Int.reduceToNat, Int.reduceNeg, ↓reduceIte, hD, hG', wrap64, unbox, tmv, Option.some.injEq, exists_eq_left']
  refine endW [] [] (by simp) rfl rfl rfl ?_ ?_ <;> simp only [go_sem, Nat.reduceEqDiff]
  simp [tagged]
def eTag1 : Ent Try.prog D := ⟨132, LTag × Int, fun x => [.agg (tagRow x.1), .iptr [.int .i64 x.2]], fun _ => True, fun x => ⟨.bool (tagged x.2 x.1), []⟩, fun x y _ _ h => by
  simp only [List.cons.injEq, AV.agg.injEq, AV.iptr.injEq, AV.int.injEq, true_and, and_true] at h
  rw [tagRow_inj h.1, h.2], fun x _ => con_tag1 x.1 x.2⟩
theorem con_indextag (l : List LTag) (n : Int) (hl : l.length ≤ 16777216) : Con Try.prog D 131 [.sl 4 (l.map tagRow), .func 132 [.iptr [.int .i64 n]]] ⟨.int .i64 (findT l n), []⟩ := by
  have hok : GOk Try.prog D (tabG [eTag1]) := tabG_ok _
  have g1 := fun (t : LTag) => tabG_use (T := [eTag1]) (E := eTag1) (i := 0) rfl (by decide) ((t, n)) (trivial)
  generalize tabG [eTag1] = G at *
  dsimp only [eTag1] at g1
  have hcon : ∀ r, r = findT l n → Con Try.prog D 131 [.sl 4 (l.map tagRow), .func 132 [.iptr [.int .i64 n]]] ⟨.int .i64 r, []⟩ := by
    intro r hr
    unfold findT at hr
    refine conW (G := G) (rs := [(4, none)]) hok Try.func131 Try.results131 Try.ntmps131 (fun _ => {}) fun X hP hD hG' hX => ?_
    simp only [argS, num]
    simp (disch := omega) only [go_sem, Nat.reduceLeDiff, reduceCtorEq, Nat.reduceAdd, Nat.reduceSub, Nat.reduceMul, Nat.reduceLT, Nat.reduceEqDiff, Int.reduceEq, Int.reduceLE, Int.reduceLT, Int.reducePow, Int.reduceMul, Int.reduceToNat, Int.reduceNeg, ↓reduceIte, hD, hG', wrap64, unbox, tmv, Option.some.injEq, exists_eq_left']
    refine Tr.loop (ι := Nat) (fun i => i ≤ l.length ∧ ∀ j, j < i → tagged n (l.getD j tag0) = false) (fun i => { nt := 19, tm := [(0, .sl 4 (l.map tagRow)), (1, .func 132 [.iptr [.int .i64 n]]), (7, .int .i64 l.length), (8, .int .i64 i)], bl := [] }) (fun i => l.length - i) 0
      ⟨⟨Nat.zero_le _, fun j hj => absurd hj (Nat.not_lt_zero j)⟩, wk_of hD [] rfl rfl (by simp only [go_sem, Nat.reduceEqDiff]; simp) (by simp only [go_sem, Nat.reduceEqDiff])⟩ ?_
    rintro i ⟨hi, hnot⟩
    refine evC_sound hX (fun _ => {}) _ _ _ ?_
    simp (disch := omega) only [go_sem, Nat.reduceLeDiff, reduceCtorEq, Nat.reduceAdd, Nat.reduceSub, Nat.reduceMul, Nat.reduceLT, Nat.reduceEqDiff, Int.reduceEq, Int.reduceLE, Int.reduceLT, Int.reducePow, Int.reduceMul, Int.reduceToNat, Int.reduceNeg, ↓reduceIte, hD, hG', wrap64, unbox, tmv, Option.some.injEq, exists_eq_left']
    refine condK_split (fun h => ?_) (fun h => ?_)
    · rw [decide_eq_true_eq] at h
      have hi1 : i < l.length := by omega
      have hgx := tagGet hi1
      have hit : ∀ x, l.getD i tag0 = x → tagged n x = true → r = (i : Int) := fun x hx hp => by
        rw [hr, placeG_hit hi1 hnot (by rw [hx]; exact hp)]
        omega
      generalize hx : l.getD i tag0 = x at *
      have hit := hit x rfl
      have g1 := g1 x
      obtain ⟨t1, t2, t3, t4⟩ := x
      simp only [tagRow] at hgx g1
      cases hp : tagged n ⟨t1, t2, t3, t4⟩
      · simp (disch := omega) only [go_sem, Nat.reduceLeDiff, reduceCtorEq, Nat.reduceAdd, Nat.reduceSub, Nat.reduceMul, Nat.reduceLT, Nat.reduceEqDiff, Int.reduceEq, Int.reduceLE, Int.reduceLT, Int.reducePow, Int.reduceMul, Int.reduceToNat, Int.reduceNeg, ↓reduceIte, hD, hG', wrap64, hgx, g1, hp, unbox, tmv, Option.some.injEq, exists_eq_left']
        refine ⟨by omega, i + 1, ⟨⟨by omega, fun j hj => ?_⟩, by omega⟩, wk_of hD [] rfl rfl ?_ ?_⟩
        · by_cases hji : j = i
          · rw [hji, hx]; exact hp
          · exact hnot j (by omega)
        all_goals simp only [go_sem, Nat.reduceEqDiff]
        simp
      · simp (disch := omega) only [go_sem, Nat.reduceLeDiff, reduceCtorEq, Nat.reduceAdd, Nat.reduceSub, Nat.reduceMul, Nat.reduceLT, Nat.reduceEqDiff, Int.reduceEq, Int.reduceLE, Int.reduceLT, Int.reducePow, Int.reduceMul, Int.reduceToNat, Int.reduceNeg, ↓reduceIte, hD, hG', wrap64, hgx, g1, hp, unbox, tmv, Option.some.injEq, exists_eq_left']
        refine ⟨by omega, ?_⟩
        refine endW [] [] (by simp) rfl rfl rfl ?_ ?_ <;> simp only [go_sem, Nat.reduceEqDiff]
        rw [hit hp]
    · rw [decide_eq_false_iff_not] at h
      have hie : i = l.length := by omega
      subst hie
      simp (disch := omega) only [go_sem, Nat.reduceLeDiff, reduceCtorEq, Nat.reduceAdd, Nat.reduceSub, Nat.reduceMul, Nat.reduceLT, Nat.reduceEqDiff, Int.reduceEq, Int.reduceLE, Int.reduceLT, Int.reducePow, Int.reduceMul, Int.reduceToNat, Int.reduceNeg, ↓reduceIte, hD, hG', wrap64, unbox, tmv, Option.some.injEq, exists_eq_left']
      refine endW [] [] (by simp) rfl rfl rfl ?_ ?_ <;> simp only [go_sem, Nat.reduceEqDiff]
      rw [hr, placeG_miss hnot]
  exact hcon _ rfl
def eIndextag : Ent Try.prog D := ⟨131, List LTag × Int, fun x => [.sl 4 (x.1.map tagRow), .func 132 [.iptr [.int .i64 x.2]]], fun x => x.1.length ≤ 16777216, fun x => ⟨.int .i64 (findT x.1 x.2), []⟩, fun x y _ _ h => by
  simp only [List.cons.injEq, AV.sl.injEq, AV.func.injEq, AV.iptr.injEq, AV.int.injEq, true_and, and_true] at h
  rw [tags_inj h.1, h.2], fun x h => con_indextag x.1 x.2 h⟩
theorem findT_range {l : List LTag} {n : Int} : findT l n = -1 ∨ (0 ≤ findT l n ∧ findT l n < l.length) := placeG_range
def stagS (w : LW) (n : Int) (back : Bool) : LW × LSay :=
  if findT w.s.tags n < 0 then (w, faultS 6)
  else
    let t := w.s.tags.getD (findT w.s.tags n).toNat tag0
    let K := keepS w (if back = true then hbackS w.h t else hdoneS w.h t)
    if K.2.err ≠ 8 then (⟨K.1.h, K.1.l, ⟨w.s.tags.eraseIdx (findT w.s.tags n).toNat, w.s.next⟩⟩, K.2) else K
structure TagX where
  w : LW
  n : Int
  back : Bool
def tagArgs (x : TagX) : List AV := [.ptr 60000 0, .int .i64 x.n, .bool x.back]
def TagOk (x : TagX) : Prop := (x.w.h.Fits ∧ HallIn x.w.h) ∧ x.w.s.tags.length ≤ 1048576 ∧ ∀ t ∈ x.w.s.tags, KeepOk (x.w, hdoneS x.w.h t) ∧ KeepOk (x.w, hbackS x.w.h t)
noncomputable def tagMM : MCtr := elseM deleteMT keepM
theorem keepS_s {w : LW} {r : Res4} : (keepS w r).1.s = w.s := by
  unfold keepS
  split
  · rfl
  · split <;> rfl
def stagLo : Nat → Lo := fun id => match id with | 1 => {hand := true} | 8 => {uo := [11], un := [60000], ex := [5], uo2 := [13], un2 := [10], ex2 := [12]} | _ => {}
set_option maxRecDepth 100000 in
set_option maxHeartbeats 2000000 in
theorem pc_stag (x : TagX) (hx : TagOk x) : PC Try.prog D 111 (tagArgs x) (wBl x.w) (sayA (stagS x.w x.n x.back).2) (wBl (stagS x.w x.n x.back).1) := by
  have hok : GOk Try.prog D (tabG [eFault, eIndextag, eHdone, eHback, eSown]) := tabG_ok _
  have g1 := fun (e : Int) => tabG_use (T := [eFault, eIndextag, eHdone, eHback, eSown]) (E := eFault) (i := 0) rfl (by decide) (e) (trivial)
  have g2 := tabG_use (T := [eFault, eIndextag, eHdone, eHback, eSown]) (E := eIndextag) (i := 1) rfl (by decide) ((x.w.s.tags, x.n)) (by have := hx.2.1; show x.w.s.tags.length ≤ 16777216; omega)
  have g3 := fun (t : LTag) => tabG_use (T := [eFault, eIndextag, eHdone, eHback, eSown]) (E := eHdone) (i := 2) rfl (by decide) ((x.w.h, t)) (hx.1.1)
  have g4 := fun (t : LTag) => tabG_use (T := [eFault, eIndextag, eHdone, eHback, eSown]) (E := eHback) (i := 3) rfl (by decide) ((x.w.h, t)) (hx.1.2)
  have g5 := fun (s : LSess) (h : s.tags.length ≤ 16777216) => tabG_use (T := [eFault, eIndextag, eHdone, eHback, eSown]) (E := eSown) (i := 4) rfl (by decide) (s) (h)
  have gd : ∀ a, tabG ([eFault, eIndextag, eHdone, eHback, eSown] : List (Ent Try.prog D)) 133 a = none := fun a => rfl
  have gk : ∀ a, tabG ([eFault, eIndextag, eHdone, eHback, eSown] : List (Ent Try.prog D)) 109 a = none := fun a => rfl
  generalize tabG [eFault, eIndextag, eHdone, eHback, eSown] = G at *
  dsimp only [eFault] at g1
  dsimp only [eIndextag] at g2
  dsimp only [eHdone] at g3
  dsimp only [eHback] at g4
  dsimp only [eSown] at g5
  obtain ⟨⟨⟨q, qn⟩, ⟨lb, ls⟩, ⟨ts, tn⟩⟩, n, back⟩ := x
  obtain ⟨hx1, hx2, hx3⟩ := hx
  simp only at g2 g3 g4 hx2 hx3
  refine pc_of (G := G) (M := tagMM) (rs := [(6, some 89)]) (mok_else mok_deleteT keepM_ok) mixed tok hok [60000] Try.func111 rfl (by decide) Try.results111 (by decide) rfl (by decide) Try.ntmps111 (by simp [tagArgs]) (by simp [tagArgs, wBl, namess, names, keys])
    (closB_of (by simp [wBl, wCs, subs, namess, names])) (ndB_of (by simp [wBl, nd])) (ndB_of (by simp [wBl, nd])) (by simp [wBl, get]) (by simp [wBl, keys]) fun X hP hD hG' hX => evC_sound hX stagLo _ _ _ ?_
  simp only [argP, num, pinT, pin, tagArgs, wBl, wCs]
  generalize hr : stagS ⟨⟨q, qn⟩, ⟨lb, ls⟩, ⟨ts, tn⟩⟩ n back = r
  unfold stagS at hr
  simp only at hr
  have hfr := @findT_range ts n
  simp (disch := omega) only [go_sem, Nat.reduceLeDiff, reduceCtorEq, Nat.reduceAdd, Nat.reduceSub, Nat.reduceMul, Nat.reduceLT, Nat.reduceEqDiff, Int.reduceEq, Int.reduceLE, Int.reduceLT, Int.reducePow, Int.reduceMul, Int.reduceToNat, Int.reduceNeg, ↓reduceIte, hD, hG', wrap64, stagLo, unbox, tmv, Option.some.injEq, exists_eq_left']
  refine Tr.wk (Wk.ice 4 (cs := [.int .i64 n]) (by rfl) rfl) (evC_sound hX (fun _ => {}) _ _ _ ?_)
  generalize findT ts n = k at *
  by_cases hk : k < 0
  · have d0 : decide (k < 0) = true := decide_eq_true hk
    rw [if_pos hk] at hr
    subst hr
    have g1 := g1 6
    simp only [sayA, faultS] at g1
    simp (disch := omega) only [go_sem, Nat.reduceLeDiff, reduceCtorEq, Nat.reduceAdd, Nat.reduceSub, Nat.reduceMul, Nat.reduceLT, Nat.reduceEqDiff, Int.reduceEq, Int.reduceLE, Int.reduceLT, Int.reducePow, Int.reduceMul, Int.reduceToNat, Int.reduceNeg, ↓reduceIte, hD, hG', wrap64, g1, g2, d0, stagLo, unbox, tmv, Option.some.injEq, exists_eq_left']
    refine ⟨[], [(60000, 60000)], rfl, rfl, ?_, ?_⟩ <;> simp only [go_sem, Nat.reduceEqDiff, resP, pinT, pin, here, Nat.reduceAdd, ↓reduceIte, reduceCtorEq]
    all_goals (try simp [sayA, faultS, note0, wCs, cov, covs, subs, names, namess])
  have d0 : decide (k < 0) = false := decide_eq_false hk
  obtain ⟨kn, rfl⟩ := Int.eq_ofNat_of_zero_le (by omega : 0 ≤ k)
  have hkl : kn < ts.length := by omega
  rw [if_neg hk] at hr
  have hgx := tagGet hkl
  have hx3 := hx3 _ (getD_mem (d := tag0) hkl)
  have g3 := g3 (ts.getD kn tag0)
  have g4 := g4 (ts.getD kn tag0)
  simp only [Int.toNat_natCast] at hr
  have hgl : (kn : Int) < (ts.length : Int) := by omega
  generalize ts.getD kn tag0 = t at *
  have g5 := g5 ⟨ts, tn⟩ (by show ts.length ≤ 16777216; omega)
  have key : ∀ R : Res4, R = (if back = true then hbackS ⟨q, qn⟩ t else hdoneS ⟨q, qn⟩ t) → KeepOk (⟨⟨q, qn⟩, ⟨lb, ls⟩, ⟨ts, tn⟩⟩, R) := fun R h => by
    subst h
    cases back
    · exact hx3.1
    · exact hx3.2
  generalize hR : (if back = true then hbackS ⟨q, qn⟩ t else hdoneS ⟨q, qn⟩ t) = R at *
  have c1 := keepM_1 (key R rfl)
  have hs := @keepS_s ⟨⟨q, qn⟩, ⟨lb, ls⟩, ⟨ts, tn⟩⟩ R
  generalize keepS ⟨⟨q, qn⟩, ⟨lb, ls⟩, ⟨ts, tn⟩⟩ R = K at *
  obtain ⟨⟨⟨kq, kqn⟩, ⟨klb, kls⟩, ⟨kts, ktn⟩⟩, ⟨s1, s2, s3, s4, ⟨s5, s6⟩⟩⟩ := K
  simp only [LSess.mk.injEq] at hs
  obtain ⟨rfl, rfl⟩ := hs
  have gR : (if back = true then G 49 [hallA ⟨q, qn⟩, tagA t] else G 48 [hallA ⟨q, qn⟩, tagA t]) = some ⟨hres R, []⟩ := by
    rw [← hR]
    cases back
    · exact g3
    · exact g4
  clear g3 g4 hR key hx3
  obtain ⟨⟨rq, rx⟩, re, rr⟩ := R
  obtain ⟨t1, t2, t3, t4⟩ := t
  simp only [hres, hallA, hallCs, entriesA, tagA, tagRow, sessA, sessCs, sayA, wCs] at gR g5 hgx c1
  simp only at hr
  cases back
  all_goals simp only [Bool.false_eq_true, if_false, if_true] at gR
  all_goals (
    by_cases h8 : s4 = 8)
  all_goals (first
    | (have e8 : (s4 != 8) = false := by simp [h8]
       rw [if_neg (by simp [h8])] at hr)
    | (have e8 : (s4 != 8) = true := by simp [h8]
       rw [if_pos (by simp [h8])] at hr))
  all_goals subst hr
  all_goals (
    simp (disch := omega) only [go_sem, Nat.reduceLeDiff, reduceCtorEq, Nat.reduceAdd, Nat.reduceSub, Nat.reduceMul, Nat.reduceLT, Nat.reduceEqDiff, Int.reduceEq, Int.reduceLE, Int.reduceLT, Int.reducePow, Int.reduceMul, Int.reduceToNat, Int.reduceNeg, ↓reduceIte, hD, hG', wrap64, g2, d0, hgx, hgl, gR, g5, c1, gk, gd, e8, stagLo, tagMM, elseM_at, deleteMT, unbox, tmv, Option.some.injEq, exists_eq_left'])
  all_goals (repeat (with_reducible refine And.intro (by first | omega | decide | (simp; done) | (simp only [List.length_append, List.length_cons, List.length_nil, List.length_map]; omega)) ?_))
  all_goals (first
    | (refine ⟨[], [(60000, 60000)], rfl, rfl, ?_, ?_⟩ <;> simp only [go_sem, Nat.reduceEqDiff, resP, pinT, pin, here, Nat.reduceAdd, ↓reduceIte, reduceCtorEq] <;> (try simp [sayA, wCs, cov, covs, subs, names, namess]); done)
    | (refine ⟨[62], [(60000, 60000)], rfl, rfl, ?_, ?_⟩ <;> simp only [go_sem, Nat.reduceEqDiff, resP, pinT, pin, here, Nat.reduceAdd, ↓reduceIte, reduceCtorEq] <;> (try simp [sayA, wCs, erase_map, cov, covs, subs, names, namess])))
end Go.Proofs.Ythbejciebmkclaa.Ab
namespace Go.Proofs.Ythbejciebmkclaa.Ab
open Go Go.RowKit
set_option linter.unusedVariables false
set_option linter.unusedSimpArgs false

def eStake : PEnt Try.prog D where
  f := 110
  X := TakeX
  np := 1
  args := takeArgs
  bl0 := fun x => wBl x.w
  v0 := takeV
  bl1 := fun x => wBl (stakeS x.w x.nm x.now).1
  ok := TakeOk
  k0 := fun x n h => by simp [wBl, keys] at h; omega
  k1 := fun x n h => by simp [wBl, keys] at h ⊢; omega
  nd := fun x => by simp [wBl, keys]
  inj := fun x y dn aa bs bl _ _ h1 h2 h hb1 hb2 => by
    obtain ⟨a, rfl⟩ : ∃ a, aa = [a] := List.length_eq_one_iff.1 h1
    obtain ⟨b, rfl⟩ : ∃ b, bs = [b] := List.length_eq_one_iff.1 h2
    obtain ⟨w, nm, now⟩ := x
    obtain ⟨w', nm', now'⟩ := y
    simp only [takeArgs, renFs, renF, List.cons.injEq, AV.str.injEq, AV.int.injEq, AV.ptr.injEq, true_and, and_true] at h
    obtain ⟨r3, r1, rfl⟩ := h
    have r1 := bytes_ext r1
    subst r1
    have r3 : a = b := by simpa [mkAct] using r3
    subst r3
    have hw : w = w' := keepM_inj (hb1 60000 _ (by simp [wBl, get])) (hb2 60000 _ (by simp [wBl, get]))
    rw [hw]
  con := fun x h => pc_stake x h
def eStag : PEnt Try.prog D where
  f := 111
  X := TagX
  np := 1
  args := tagArgs
  bl0 := fun x => wBl x.w
  v0 := fun x => sayA (stagS x.w x.n x.back).2
  bl1 := fun x => wBl (stagS x.w x.n x.back).1
  ok := TagOk
  k0 := fun x n h => by simp [wBl, keys] at h; omega
  k1 := fun x n h => by simp [wBl, keys] at h ⊢; omega
  nd := fun x => by simp [wBl, keys]
  inj := fun x y dn aa bs bl _ _ h1 h2 h hb1 hb2 => by
    obtain ⟨a, rfl⟩ : ∃ a, aa = [a] := List.length_eq_one_iff.1 h1
    obtain ⟨b, rfl⟩ : ∃ b, bs = [b] := List.length_eq_one_iff.1 h2
    obtain ⟨w, n, k⟩ := x
    obtain ⟨w', n', k'⟩ := y
    simp only [tagArgs, renFs, renF, List.cons.injEq, AV.bool.injEq, AV.int.injEq, AV.ptr.injEq, true_and, and_true] at h
    obtain ⟨r3, rfl, rfl⟩ := h
    have r3 : a = b := by simpa [mkAct] using r3
    subst r3
    have hw : w = w' := keepM_inj (hb1 60000 _ (by simp [wBl, get])) (hb2 60000 _ (by simp [wBl, get]))
    rw [hw]
  con := fun x h => pc_stag x h
noncomputable def doM : MCtr := pcM [eKeep, eStake, eStag]
theorem doM_ok {G : Ctr} : MOk Try.prog D G doM := mok_pc
open Classical in
theorem doM_1 {w : LW} {r : Res4} (hx : KeepOk (w, r)) (n dn : Nat) (bl : Nat → Option Blk) :
    doM dn 109 [.ptr n 0, .agg (hallCs r.1), entriesA r.2.1, .int .i64 r.2.2] bl =
      if bl n = some (.cells (wCs w)) then some { v := sayA (keepS w r).2, up := [(n, .cells (wCs (keepS w r).1))] }
      else doM dn 109 [.ptr n 0, .agg (hallCs r.1), entriesA r.2.1, .int .i64 r.2.2] bl := by
  split
  · rename_i h
    have := pcM_use (T := [eKeep, eStake, eStag]) (E := eKeep) (i := 0) rfl (by decide) (w, r) hx [n] rfl (by simp) (args := [.ptr n 0, .agg (hallCs r.1), entriesA r.2.1, .int .i64 r.2.2]) (dn := dn) (bl := bl) (by simp [eKeep, keepArgs, renFs, renF, hallCs, entriesA, mkAct]) (fun k z hz => by
      simp only [eKeep, wBl, get] at hz
      split at hz
      · rename_i q; cases hz; subst q; simpa [mkAct, renBl, renFs, renF, wCs] using h
      · cases hz)
    refine Eq.trans this ?_
    simp [eKeep, pcE, wBl, mkAct, wCs, sayA, keepArgs, renFs, renF, renBl, pcU, pcN, pcK, keys, mem]
  · rfl
open Classical in
theorem doM_2 {w : LW} {nm : ByteArray} {now : Int} (hx : TakeOk ⟨w, nm, now⟩) (n dn : Nat) (bl : Nat → Option Blk) :
    doM dn 110 [.ptr n 0, .str nm.data.toList, .int .i64 now] bl =
      if bl n = some (.cells (wCs w)) then some { v := .tup [sayA (stakeS w nm now).2.1, .int .i64 (stakeS w nm now).2.2], up := [(n, .cells (wCs (stakeS w nm now).1))] }
      else doM dn 110 [.ptr n 0, .str nm.data.toList, .int .i64 now] bl := by
  split
  · rename_i h
    have := pcM_use (T := [eKeep, eStake, eStag]) (E := eStake) (i := 1) rfl (by decide) ⟨w, nm, now⟩ hx [n] rfl (by simp) (args := [.ptr n 0, .str nm.data.toList, .int .i64 now]) (dn := dn) (bl := bl) (by simp [eStake, takeArgs, takeV, renFs, renF, hallCs, entriesA, mkAct]) (fun k z hz => by
      simp only [eStake, wBl, get] at hz
      split at hz
      · rename_i q; cases hz; subst q; simpa [mkAct, renBl, renFs, renF, wCs] using h
      · cases hz)
    refine Eq.trans this ?_
    simp [eStake, pcE, wBl, mkAct, wCs, sayA, takeArgs, takeV, renFs, renF, renBl, pcU, pcN, pcK, keys, mem]
  · rfl
open Classical in
theorem doM_3 {w : LW} {k : Int} {back : Bool} (hx : TagOk ⟨w, k, back⟩) (n dn : Nat) (bl : Nat → Option Blk) :
    doM dn 111 [.ptr n 0, .int .i64 k, .bool back] bl =
      if bl n = some (.cells (wCs w)) then some { v := sayA (stagS w k back).2, up := [(n, .cells (wCs (stagS w k back).1))] }
      else doM dn 111 [.ptr n 0, .int .i64 k, .bool back] bl := by
  split
  · rename_i h
    have := pcM_use (T := [eKeep, eStake, eStag]) (E := eStag) (i := 2) rfl (by decide) ⟨w, k, back⟩ hx [n] rfl (by simp) (args := [.ptr n 0, .int .i64 k, .bool back]) (dn := dn) (bl := bl) (by simp [eStag, tagArgs, renFs, renF, hallCs, entriesA, mkAct]) (fun k z hz => by
      simp only [eStag, wBl, get] at hz
      split at hz
      · rename_i q; cases hz; subst q; simpa [mkAct, renBl, renFs, renF, wCs] using h
      · cases hz)
    refine Eq.trans this ?_
    simp [eStag, pcE, wBl, mkAct, wCs, sayA, tagArgs, renFs, renF, renBl, pcU, pcN, pcK, keys, mem]
  · rfl
end Go.Proofs.Ythbejciebmkclaa.Ab
namespace Go.Proofs.Ythbejciebmkclaa.Ab
open Go Go.RowKit
set_option linter.unusedVariables false
set_option linter.unusedSimpArgs false

def sayNone : LSay := ⟨3, 0, 0, 0, note0⟩
def doS (w : LW) (a : LAsk) (now : Int) : LW × LSay × Bool :=
  if wrongAskS a ≠ 0 then (w, faultS (wrongAskS a), false)
  else if a.kind = 2 then ((keepS w (makeS w.h a.queue a.n)).1, (keepS w (makeS w.h a.queue a.n)).2, false)
  else if a.kind = 3 then ((keepS w (dropS w.h a.queue)).1, (keepS w (dropS w.h a.queue)).2, false)
  else if a.kind = 4 then ((keepS w (hputS w.h a.queue a.note)).1, (keepS w (hputS w.h a.queue a.note)).2, false)
  else if a.kind = 9 then ((keepS w (hpurgeS w.h a.queue)).1, (keepS w (hpurgeS w.h a.queue)).2, false)
  else if a.kind = 5 ∨ a.kind = 6 then
    if (stakeS w a.queue now).2.2 = 9 then (if a.kind = 6 then (w, say0, true) else ((stakeS w a.queue now).1, sayNone, false))
    else ((stakeS w a.queue now).1, (stakeS w a.queue now).2.1, false)
  else if a.kind = 7 ∨ a.kind = 8 then ((stagS w a.n (a.kind == 8)).1, (stagS w a.n (a.kind == 8)).2, false)
  else (w, sayOk, false)
structure DoOk (w : LW) (a : LAsk) (now : Int) : Prop where
  f : w.h.Fits
  q : a.queue.size ≤ 1048576
  n : a.note.Fits
  x : -1000000000 ≤ w.h.next ∧ w.h.next ≤ 1000000000
  t : TakeOk ⟨w, a.queue, now⟩
  g : ∀ b, TagOk ⟨w, a.n, b⟩
  k2 : KeepOk (w, makeS w.h a.queue a.n)
  k3 : KeepOk (w, dropS w.h a.queue)
  k4 : KeepOk (w, hputS w.h a.queue a.note)
  k9 : KeepOk (w, hpurgeS w.h a.queue)
def doV (r : LW × LSay × Bool) : AV := .tup [hallA r.1.h, llogA r.1.l, sessA r.1.s, sayA r.2.1, .int .i64 (if r.2.2 = true then 9 else 0)]
def doLo : Nat → Lo := fun id => match id with | 4 => {uo := [5, 6, 7, 8], un := [10, 11, 12, 13]} | 20 => {uo := [4, 5, 6, 7], un := [10, 11, 12, 13]} | 26 => {uo := [13, 14, 15, 16], un := [10, 11, 12, 13]} | _ => {}
set_option maxRecDepth 100000 in
set_option maxHeartbeats 4000000 in
theorem con_do (w : LW) (a : LAsk) (now : Int) (hx : DoOk w a now) : Con Try.prog D 65 [hallA w.h, llogA w.l, sessA w.s, askA a, .int .i64 now] ⟨doV (doS w a now), []⟩ := by
  have hok : GOk Try.prog D (tabG [eWrongask, eFault, eHmake, eHdrop, eHput, eHpurge]) := tabG_ok _
  have g1 := tabG_use (T := [eWrongask, eFault, eHmake, eHdrop, eHput, eHpurge]) (E := eWrongask) (i := 0) rfl (by decide) (a) (⟨hx.q, hx.n⟩)
  have g2 := fun (e : Int) => tabG_use (T := [eWrongask, eFault, eHmake, eHdrop, eHput, eHpurge]) (E := eFault) (i := 1) rfl (by decide) (e) (trivial)
  have g3 := tabG_use (T := [eWrongask, eFault, eHmake, eHdrop, eHput, eHpurge]) (E := eHmake) (i := 2) rfl (by decide) ((w.h, a.queue, a.n)) (⟨hx.f, hx.q⟩)
  have g4 := tabG_use (T := [eWrongask, eFault, eHmake, eHdrop, eHput, eHpurge]) (E := eHdrop) (i := 3) rfl (by decide) ((w.h, a.queue)) (hx.f)
  have g5 := tabG_use (T := [eWrongask, eFault, eHmake, eHdrop, eHput, eHpurge]) (E := eHput) (i := 4) rfl (by decide) ((w.h, a.queue, a.note)) (⟨hx.f, hx.n, hx.x⟩)
  have g6 := tabG_use (T := [eWrongask, eFault, eHmake, eHdrop, eHput, eHpurge]) (E := eHpurge) (i := 5) rfl (by decide) ((w.h, a.queue)) (hx.f)
  have gk : ∀ z, tabG ([eWrongask, eFault, eHmake, eHdrop, eHput, eHpurge] : List (Ent Try.prog D)) 109 z = none := fun z => rfl
  have gt : ∀ z, tabG ([eWrongask, eFault, eHmake, eHdrop, eHput, eHpurge] : List (Ent Try.prog D)) 110 z = none := fun z => rfl
  have gg : ∀ z, tabG ([eWrongask, eFault, eHmake, eHdrop, eHput, eHpurge] : List (Ent Try.prog D)) 111 z = none := fun z => rfl
  generalize tabG [eWrongask, eFault, eHmake, eHdrop, eHput, eHpurge] = G at *
  dsimp only [eWrongask] at g1
  dsimp only [eFault] at g2
  dsimp only [eHmake] at g3
  dsimp only [eHdrop] at g4
  dsimp only [eHput] at g5
  dsimp only [eHpurge] at g6
  generalize hr : doS w a now = r
  unfold doS at hr
  have c2 := doM_1 hx.k2
  have c3 := doM_1 hx.k3
  have c4 := doM_1 hx.k4
  have c9 := doM_1 hx.k9
  have c5 := doM_2 hx.t
  have c7 := doM_3 (hx.g true)
  have c8 := doM_3 (hx.g false)
  clear hx
  obtain ⟨ak, aq, an, ⟨ap, ab⟩⟩ := a
  simp only at hr g1 g3 g4 g5 g6 c2 c3 c4 c5 c7 c8 c9
  generalize wrongAskS ⟨ak, aq, an, ⟨ap, ab⟩⟩ = wr at *
  refine conM (G := G) (M := doM) (rs := [(10, some 24), (11, some 32), (12, some 79), (13, some 89), (14, none)]) doM_ok hok Try.func65 Try.results65 Try.ntmps65 doLo fun X hP hD hG' hX => ?_
  generalize doM = M at *
  by_cases hw : wr = 0
  · have dw : (wr != 0) = false := by simp [hw]
    rw [if_neg (by simp [hw])] at hr
    by_cases hk : ak = 2
    · have e2 : (ak == 2) = true := by simp [hk]
      have e3 : (ak == 3) = false := by simp [hk]
      have e4 : (ak == 4) = false := by simp [hk]
      have e9 : (ak == 9) = false := by simp [hk]
      have e5 : (ak == 5) = false := by simp [hk]
      have e6 : (ak == 6) = false := by simp [hk]
      have e7 : (ak == 7) = false := by simp [hk]
      have e8 : (ak == 8) = false := by simp [hk]
      rw [if_pos hk] at hr
      subst hr
      clear c3 c4 c9 c5 c7 c8
      generalize makeS w.h aq an = R at *
      generalize keepS w R = K at *
      obtain ⟨⟨⟨kq, kqn⟩, ⟨klb, kls⟩, ⟨kts, ktn⟩⟩, ⟨s1, s2, s3, s4, ⟨s5, s6⟩⟩⟩ := K
      obtain ⟨⟨rq, rx⟩, re, rr⟩ := R
      obtain ⟨⟨q, qn⟩, ⟨lb, ls⟩, ⟨ts, tn⟩⟩ := w
      simp only [hres, hallA, hallCs, entriesA, askA, noteA, sayA, wCs] at g1 g3 c2
      simp only [argS, num, doV, hallA, llogA, logCs, sessA, sessCs, askA, sayA, faultS, sayOk, say0, sayNone, Bool.false_eq_true, if_false, if_true]
      simp (disch := omega) only [go_sem, Nat.reduceLeDiff, reduceCtorEq, Nat.reduceAdd, Nat.reduceSub, Nat.reduceMul, Nat.reduceLT, Nat.reduceEqDiff, Int.reduceEq, Int.reduceLE, Int.reduceLT, Int.reducePow, Int.reduceMul, Int.reduceToNat, Int.reduceNeg, ↓reduceIte, hD, hG', wrap64, g1, g3, c2, gk, dw, e2, e3, e4, e9, e5, e6, e7, e8, doLo, unbox, tmv, Option.some.injEq, exists_eq_left']
      (repeat (with_reducible refine And.intro (by first | omega | decide | (simp; done) | (simp only [List.length_append, List.length_cons, List.length_nil, List.length_map]; omega)) ?_))
      refine endW [] [] (by simp) rfl rfl rfl ?_ ?_ <;> simp only [go_sem, Nat.reduceEqDiff]
    by_cases hk : ak = 3
    · have e2 : (ak == 2) = false := by simp [hk]
      have e3 : (ak == 3) = true := by simp [hk]
      have e4 : (ak == 4) = false := by simp [hk]
      have e9 : (ak == 9) = false := by simp [hk]
      have e5 : (ak == 5) = false := by simp [hk]
      have e6 : (ak == 6) = false := by simp [hk]
      have e7 : (ak == 7) = false := by simp [hk]
      have e8 : (ak == 8) = false := by simp [hk]
      rw [if_neg (by omega), if_pos hk] at hr
      subst hr
      clear c2 c4 c9 c5 c7 c8
      generalize dropS w.h aq = R at *
      generalize keepS w R = K at *
      obtain ⟨⟨⟨kq, kqn⟩, ⟨klb, kls⟩, ⟨kts, ktn⟩⟩, ⟨s1, s2, s3, s4, ⟨s5, s6⟩⟩⟩ := K
      obtain ⟨⟨rq, rx⟩, re, rr⟩ := R
      obtain ⟨⟨q, qn⟩, ⟨lb, ls⟩, ⟨ts, tn⟩⟩ := w
      simp only [hres, hallA, hallCs, entriesA, askA, noteA, sayA, wCs] at g1 g4 c3
      simp only [argS, num, doV, hallA, llogA, logCs, sessA, sessCs, askA, sayA, faultS, sayOk, say0, sayNone, Bool.false_eq_true, if_false, if_true]
      simp (disch := omega) only [go_sem, Nat.reduceLeDiff, reduceCtorEq, Nat.reduceAdd, Nat.reduceSub, Nat.reduceMul, Nat.reduceLT, Nat.reduceEqDiff, Int.reduceEq, Int.reduceLE, Int.reduceLT, Int.reducePow, Int.reduceMul, Int.reduceToNat, Int.reduceNeg, ↓reduceIte, hD, hG', wrap64, g1, g4, c3, gk, dw, e2, e3, e4, e9, e5, e6, e7, e8, doLo, unbox, tmv, Option.some.injEq, exists_eq_left']
      (repeat (with_reducible refine And.intro (by first | omega | decide | (simp; done) | (simp only [List.length_append, List.length_cons, List.length_nil, List.length_map]; omega)) ?_))
      refine endW [] [] (by simp) rfl rfl rfl ?_ ?_ <;> simp only [go_sem, Nat.reduceEqDiff]
    by_cases hk : ak = 4
    · have e2 : (ak == 2) = false := by simp [hk]
      have e3 : (ak == 3) = false := by simp [hk]
      have e4 : (ak == 4) = true := by simp [hk]
      have e9 : (ak == 9) = false := by simp [hk]
      have e5 : (ak == 5) = false := by simp [hk]
      have e6 : (ak == 6) = false := by simp [hk]
      have e7 : (ak == 7) = false := by simp [hk]
      have e8 : (ak == 8) = false := by simp [hk]
      rw [if_neg (by omega), if_neg (by omega), if_pos hk] at hr
      subst hr
      clear c2 c3 c9 c5 c7 c8
      generalize hputS w.h aq ⟨ap, ab⟩ = R at *
      generalize keepS w R = K at *
      obtain ⟨⟨⟨kq, kqn⟩, ⟨klb, kls⟩, ⟨kts, ktn⟩⟩, ⟨s1, s2, s3, s4, ⟨s5, s6⟩⟩⟩ := K
      obtain ⟨⟨rq, rx⟩, re, rr⟩ := R
      obtain ⟨⟨q, qn⟩, ⟨lb, ls⟩, ⟨ts, tn⟩⟩ := w
      simp only [hres, hallA, hallCs, entriesA, askA, noteA, sayA, wCs] at g1 g5 c4
      simp only [argS, num, doV, hallA, llogA, logCs, sessA, sessCs, askA, sayA, faultS, sayOk, say0, sayNone, Bool.false_eq_true, if_false, if_true]
      simp (disch := omega) only [go_sem, Nat.reduceLeDiff, reduceCtorEq, Nat.reduceAdd, Nat.reduceSub, Nat.reduceMul, Nat.reduceLT, Nat.reduceEqDiff, Int.reduceEq, Int.reduceLE, Int.reduceLT, Int.reducePow, Int.reduceMul, Int.reduceToNat, Int.reduceNeg, ↓reduceIte, hD, hG', wrap64, g1, g5, c4, gk, dw, e2, e3, e4, e9, e5, e6, e7, e8, doLo, unbox, tmv, Option.some.injEq, exists_eq_left']
      (repeat (with_reducible refine And.intro (by first | omega | decide | (simp; done) | (simp only [List.length_append, List.length_cons, List.length_nil, List.length_map]; omega)) ?_))
      refine endW [] [] (by simp) rfl rfl rfl ?_ ?_ <;> simp only [go_sem, Nat.reduceEqDiff]
    by_cases hk : ak = 9
    · have e2 : (ak == 2) = false := by simp [hk]
      have e3 : (ak == 3) = false := by simp [hk]
      have e4 : (ak == 4) = false := by simp [hk]
      have e9 : (ak == 9) = true := by simp [hk]
      have e5 : (ak == 5) = false := by simp [hk]
      have e6 : (ak == 6) = false := by simp [hk]
      have e7 : (ak == 7) = false := by simp [hk]
      have e8 : (ak == 8) = false := by simp [hk]
      rw [if_neg (by omega), if_neg (by omega), if_neg (by omega), if_pos hk] at hr
      subst hr
      clear c2 c3 c4 c5 c7 c8
      generalize hpurgeS w.h aq = R at *
      generalize keepS w R = K at *
      obtain ⟨⟨⟨kq, kqn⟩, ⟨klb, kls⟩, ⟨kts, ktn⟩⟩, ⟨s1, s2, s3, s4, ⟨s5, s6⟩⟩⟩ := K
      obtain ⟨⟨rq, rx⟩, re, rr⟩ := R
      obtain ⟨⟨q, qn⟩, ⟨lb, ls⟩, ⟨ts, tn⟩⟩ := w
      simp only [hres, hallA, hallCs, entriesA, askA, noteA, sayA, wCs] at g1 g6 c9
      simp only [argS, num, doV, hallA, llogA, logCs, sessA, sessCs, askA, sayA, faultS, sayOk, say0, sayNone, Bool.false_eq_true, if_false, if_true]
      simp (disch := omega) only [go_sem, Nat.reduceLeDiff, reduceCtorEq, Nat.reduceAdd, Nat.reduceSub, Nat.reduceMul, Nat.reduceLT, Nat.reduceEqDiff, Int.reduceEq, Int.reduceLE, Int.reduceLT, Int.reducePow, Int.reduceMul, Int.reduceToNat, Int.reduceNeg, ↓reduceIte, hD, hG', wrap64, g1, g6, c9, gk, dw, e2, e3, e4, e9, e5, e6, e7, e8, doLo, unbox, tmv, Option.some.injEq, exists_eq_left']
      (repeat (with_reducible refine And.intro (by first | omega | decide | (simp; done) | (simp only [List.length_append, List.length_cons, List.length_nil, List.length_map]; omega)) ?_))
      refine endW [] [] (by simp) rfl rfl rfl ?_ ?_ <;> simp only [go_sem, Nat.reduceEqDiff]
    by_cases hk : ak = 5 ∨ ak = 6
    · have e2 : (ak == 2) = false := by simp; omega
      have e3 : (ak == 3) = false := by simp; omega
      have e4 : (ak == 4) = false := by simp; omega
      have e9 : (ak == 9) = false := by simp; omega
      rw [if_neg (by omega), if_neg (by omega), if_neg (by omega), if_neg (by omega), if_pos hk] at hr
      clear c2 c3 c4 c9 c7 c8
      generalize stakeS w aq now = K at *
      obtain ⟨⟨⟨kq, kqn⟩, ⟨klb, kls⟩, ⟨kts, ktn⟩⟩, ⟨s1, s2, s3, s4, ⟨s5, s6⟩⟩, ke⟩ := K
      obtain ⟨⟨q, qn⟩, ⟨lb, ls⟩, ⟨ts, tn⟩⟩ := w
      simp only [askA, sayA, wCs] at g1 c5
      simp only at hr
      by_cases k9 : ke = 9
      · have d9 : (ke == 9) = true := by simp [k9]
        rw [if_pos k9] at hr
        by_cases h6 : ak = 6
        · have e5 : (ak == 5) = false := by simp; omega
          have e6 : (ak == 6) = true := by simp [h6]
          rw [if_pos h6] at hr
          subst hr
          simp only [argS, num, doV, hallA, llogA, logCs, sessA, sessCs, askA, sayA, faultS, sayOk, say0, sayNone, Bool.false_eq_true, if_false, if_true]
          simp (disch := omega) only [go_sem, Nat.reduceLeDiff, reduceCtorEq, Nat.reduceAdd, Nat.reduceSub, Nat.reduceMul, Nat.reduceLT, Nat.reduceEqDiff, Int.reduceEq, Int.reduceLE, Int.reduceLT, Int.reducePow, Int.reduceMul, Int.reduceToNat, Int.reduceNeg, ↓reduceIte, hD, hG', wrap64, g1, c5, gt, dw, d9, e2, e3, e4, e9, e5, e6, doLo, unbox, tmv, Option.some.injEq, exists_eq_left']
          refine RegT.mk [] ?_
          simp (disch := omega) only [go_sem, Nat.reduceLeDiff, reduceCtorEq, Nat.reduceAdd, Nat.reduceSub, Nat.reduceMul, Nat.reduceLT, Nat.reduceEqDiff, Int.reduceEq, Int.reduceLE, Int.reduceLT, Int.reducePow, Int.reduceMul, Int.reduceToNat, Int.reduceNeg, ↓reduceIte, hD, hG', wrap64, g1, c5, gt, dw, d9, e2, e3, e4, e9, e5, e6, doLo, unbox, tmv, Option.some.injEq, exists_eq_left']
          (repeat (with_reducible refine And.intro (by first | omega | decide | (simp; done) | (simp only [List.length_append, List.length_cons, List.length_nil, List.length_map]; omega)) ?_))
          refine endW [] [] (by simp) rfl rfl rfl ?_ ?_ <;> simp only [go_sem, Nat.reduceEqDiff]
          all_goals (try simp [note0, cov, covs, subs, names, namess])
        · have e5 : (ak == 5) = true := by simp; omega
          have e6 : (ak == 6) = false := by simp [h6]
          rw [if_neg h6] at hr
          subst hr
          simp only [argS, num, doV, hallA, llogA, logCs, sessA, sessCs, askA, sayA, faultS, sayOk, say0, sayNone, Bool.false_eq_true, if_false, if_true]
          simp (disch := omega) only [go_sem, Nat.reduceLeDiff, reduceCtorEq, Nat.reduceAdd, Nat.reduceSub, Nat.reduceMul, Nat.reduceLT, Nat.reduceEqDiff, Int.reduceEq, Int.reduceLE, Int.reduceLT, Int.reducePow, Int.reduceMul, Int.reduceToNat, Int.reduceNeg, ↓reduceIte, hD, hG', wrap64, g1, c5, gt, dw, d9, e2, e3, e4, e9, e5, e6, doLo, unbox, tmv, Option.some.injEq, exists_eq_left']
          refine RegT.mk [] ?_
          simp (disch := omega) only [go_sem, Nat.reduceLeDiff, reduceCtorEq, Nat.reduceAdd, Nat.reduceSub, Nat.reduceMul, Nat.reduceLT, Nat.reduceEqDiff, Int.reduceEq, Int.reduceLE, Int.reduceLT, Int.reducePow, Int.reduceMul, Int.reduceToNat, Int.reduceNeg, ↓reduceIte, hD, hG', wrap64, g1, c5, gt, dw, d9, e2, e3, e4, e9, e5, e6, doLo, unbox, tmv, Option.some.injEq, exists_eq_left']
          (repeat (with_reducible refine And.intro (by first | omega | decide | (simp; done) | (simp only [List.length_append, List.length_cons, List.length_nil, List.length_map]; omega)) ?_))
          refine endW [] [] (by simp) rfl rfl rfl ?_ ?_ <;> simp only [go_sem, Nat.reduceEqDiff]
          all_goals (try simp [note0, cov, covs, subs, names, namess])
      · have d9 : (ke == 9) = false := by simp [k9]
        rw [if_neg k9] at hr
        subst hr
        rcases hk with h5 | h6
        · have e5 : (ak == 5) = true := by simp [h5]
          simp only [argS, num, doV, hallA, llogA, logCs, sessA, sessCs, askA, sayA, faultS, sayOk, say0, sayNone, Bool.false_eq_true, if_false, if_true]
          simp (disch := omega) only [go_sem, Nat.reduceLeDiff, reduceCtorEq, Nat.reduceAdd, Nat.reduceSub, Nat.reduceMul, Nat.reduceLT, Nat.reduceEqDiff, Int.reduceEq, Int.reduceLE, Int.reduceLT, Int.reducePow, Int.reduceMul, Int.reduceToNat, Int.reduceNeg, ↓reduceIte, hD, hG', wrap64, g1, c5, gt, dw, d9, e2, e3, e4, e9, e5, doLo, unbox, tmv, Option.some.injEq, exists_eq_left']
          refine RegT.mk [(2, true)] ?_
          simp (disch := omega) only [go_sem, Nat.reduceLeDiff, reduceCtorEq, Nat.reduceAdd, Nat.reduceSub, Nat.reduceMul, Nat.reduceLT, Nat.reduceEqDiff, Int.reduceEq, Int.reduceLE, Int.reduceLT, Int.reducePow, Int.reduceMul, Int.reduceToNat, Int.reduceNeg, ↓reduceIte, hD, hG', wrap64, g1, c5, gt, dw, d9, e2, e3, e4, e9, e5, doLo, unbox, tmv, Option.some.injEq, exists_eq_left']
          (repeat (with_reducible refine And.intro (by first | omega | decide | (simp; done) | (simp only [List.length_append, List.length_cons, List.length_nil, List.length_map]; omega)) ?_))
          refine endW [] [] (by simp) rfl rfl rfl ?_ ?_ <;> simp only [go_sem, Nat.reduceEqDiff]
        · have e5 : (ak == 5) = false := by simp [h6]
          have e6 : (ak == 6) = true := by simp [h6]
          simp only [argS, num, doV, hallA, llogA, logCs, sessA, sessCs, askA, sayA, faultS, sayOk, say0, sayNone, Bool.false_eq_true, if_false, if_true]
          simp (disch := omega) only [go_sem, Nat.reduceLeDiff, reduceCtorEq, Nat.reduceAdd, Nat.reduceSub, Nat.reduceMul, Nat.reduceLT, Nat.reduceEqDiff, Int.reduceEq, Int.reduceLE, Int.reduceLT, Int.reducePow, Int.reduceMul, Int.reduceToNat, Int.reduceNeg, ↓reduceIte, hD, hG', wrap64, g1, c5, gt, dw, d9, e2, e3, e4, e9, e5, e6, doLo, unbox, tmv, Option.some.injEq, exists_eq_left']
          refine RegT.mk [(2, true)] ?_
          simp (disch := omega) only [go_sem, Nat.reduceLeDiff, reduceCtorEq, Nat.reduceAdd, Nat.reduceSub, Nat.reduceMul, Nat.reduceLT, Nat.reduceEqDiff, Int.reduceEq, Int.reduceLE, Int.reduceLT, Int.reducePow, Int.reduceMul, Int.reduceToNat, Int.reduceNeg, ↓reduceIte, hD, hG', wrap64, g1, c5, gt, dw, d9, e2, e3, e4, e9, e5, e6, doLo, unbox, tmv, Option.some.injEq, exists_eq_left']
          (repeat (with_reducible refine And.intro (by first | omega | decide | (simp; done) | (simp only [List.length_append, List.length_cons, List.length_nil, List.length_map]; omega)) ?_))
          refine endW [] [] (by simp) rfl rfl rfl ?_ ?_ <;> simp only [go_sem, Nat.reduceEqDiff]
    have e2 : (ak == 2) = false := by simp; omega
    have e3 : (ak == 3) = false := by simp; omega
    have e4 : (ak == 4) = false := by simp; omega
    have e9 : (ak == 9) = false := by simp; omega
    have e5 : (ak == 5) = false := by simp; omega
    have e6 : (ak == 6) = false := by simp; omega
    rw [if_neg (by omega), if_neg (by omega), if_neg (by omega), if_neg (by omega), if_neg hk] at hr
    by_cases h7 : ak = 7
    · have e7 : (ak == 7) = true := by simp [h7]
      have e8 : (ak == 8) = false := by simp [h7]
      rw [if_pos (by omega), e8] at hr
      subst hr
      clear c2 c3 c4 c9 c7 c5
      generalize stagS w an false = K at *
      obtain ⟨⟨⟨kq, kqn⟩, ⟨klb, kls⟩, ⟨kts, ktn⟩⟩, ⟨s1, s2, s3, s4, ⟨s5, s6⟩⟩⟩ := K
      obtain ⟨⟨q, qn⟩, ⟨lb, ls⟩, ⟨ts, tn⟩⟩ := w
      simp only [askA, sayA, wCs] at g1 c8
      simp only [argS, num, doV, hallA, llogA, logCs, sessA, sessCs, askA, sayA, faultS, sayOk, say0, sayNone, Bool.false_eq_true, if_false, if_true]
      simp (disch := omega) only [go_sem, Nat.reduceLeDiff, reduceCtorEq, Nat.reduceAdd, Nat.reduceSub, Nat.reduceMul, Nat.reduceLT, Nat.reduceEqDiff, Int.reduceEq, Int.reduceLE, Int.reduceLT, Int.reducePow, Int.reduceMul, Int.reduceToNat, Int.reduceNeg, ↓reduceIte, hD, hG', wrap64, g1, c8, gg, dw, e2, e3, e4, e9, e5, e6, e7, e8, doLo, unbox, tmv, Option.some.injEq, exists_eq_left']
      (repeat (with_reducible refine And.intro (by first | omega | decide | (simp; done) | (simp only [List.length_append, List.length_cons, List.length_nil, List.length_map]; omega)) ?_))
      refine endW [] [] (by simp) rfl rfl rfl ?_ ?_ <;> simp only [go_sem, Nat.reduceEqDiff]
    by_cases h8 : ak = 8
    · have e7 : (ak == 7) = false := by simp [h8]
      have e8 : (ak == 8) = true := by simp [h8]
      rw [if_pos (by omega), e8] at hr
      subst hr
      clear c2 c3 c4 c9 c8 c5
      generalize stagS w an true = K at *
      obtain ⟨⟨⟨kq, kqn⟩, ⟨klb, kls⟩, ⟨kts, ktn⟩⟩, ⟨s1, s2, s3, s4, ⟨s5, s6⟩⟩⟩ := K
      obtain ⟨⟨q, qn⟩, ⟨lb, ls⟩, ⟨ts, tn⟩⟩ := w
      simp only [askA, sayA, wCs] at g1 c7
      simp only [argS, num, doV, hallA, llogA, logCs, sessA, sessCs, askA, sayA, faultS, sayOk, say0, sayNone, Bool.false_eq_true, if_false, if_true]
      simp (disch := omega) only [go_sem, Nat.reduceLeDiff, reduceCtorEq, Nat.reduceAdd, Nat.reduceSub, Nat.reduceMul, Nat.reduceLT, Nat.reduceEqDiff, Int.reduceEq, Int.reduceLE, Int.reduceLT, Int.reducePow, Int.reduceMul, Int.reduceToNat, Int.reduceNeg, ↓reduceIte, hD, hG', wrap64, g1, c7, gg, dw, e2, e3, e4, e9, e5, e6, e7, e8, doLo, unbox, tmv, Option.some.injEq, exists_eq_left']
      (repeat (with_reducible refine And.intro (by first | omega | decide | (simp; done) | (simp only [List.length_append, List.length_cons, List.length_nil, List.length_map]; omega)) ?_))
      refine endW [] [] (by simp) rfl rfl rfl ?_ ?_ <;> simp only [go_sem, Nat.reduceEqDiff]
    have e7 : (ak == 7) = false := by simp [h7]
    have e8 : (ak == 8) = false := by simp [h8]
    rw [if_neg (by omega)] at hr
    subst hr
    clear c2 c3 c4 c9 c8 c5 c7
    obtain ⟨⟨q, qn⟩, ⟨lb, ls⟩, ⟨ts, tn⟩⟩ := w
    simp only [askA] at g1
    simp only [argS, num, doV, hallA, llogA, logCs, sessA, sessCs, askA, sayA, faultS, sayOk, say0, sayNone, Bool.false_eq_true, if_false, if_true]
    simp (disch := omega) only [go_sem, Nat.reduceLeDiff, reduceCtorEq, Nat.reduceAdd, Nat.reduceSub, Nat.reduceMul, Nat.reduceLT, Nat.reduceEqDiff, Int.reduceEq, Int.reduceLE, Int.reduceLT, Int.reducePow, Int.reduceMul, Int.reduceToNat, Int.reduceNeg, ↓reduceIte, hD, hG', wrap64, g1, dw, e2, e3, e4, e9, e5, e6, e7, e8, doLo, unbox, tmv, Option.some.injEq, exists_eq_left']
    (repeat (with_reducible refine And.intro (by first | omega | decide | (simp; done) | (simp only [List.length_append, List.length_cons, List.length_nil, List.length_map]; omega)) ?_))
    refine endW [] [] (by simp) rfl rfl rfl ?_ ?_ <;> simp only [go_sem, Nat.reduceEqDiff]
    all_goals (try simp [note0, cov, covs, subs, names, namess])
  · have dw : (wr != 0) = true := by simp [hw]
    rw [if_pos (by simp [hw])] at hr
    subst hr
    have g2 := g2 wr
    obtain ⟨⟨q, qn⟩, ⟨lb, ls⟩, ⟨ts, tn⟩⟩ := w
    simp only [askA, sayA, faultS] at g1 g2
    simp only [argS, num, doV, hallA, llogA, logCs, sessA, sessCs, askA, sayA, faultS, sayOk, say0, sayNone, Bool.false_eq_true, if_false, if_true]
    simp (disch := omega) only [go_sem, Nat.reduceLeDiff, reduceCtorEq, Nat.reduceAdd, Nat.reduceSub, Nat.reduceMul, Nat.reduceLT, Nat.reduceEqDiff, Int.reduceEq, Int.reduceLE, Int.reduceLT, Int.reducePow, Int.reduceMul, Int.reduceToNat, Int.reduceNeg, ↓reduceIte, hD, hG', wrap64, g1, g2, dw, doLo, unbox, tmv, Option.some.injEq, exists_eq_left']
    (repeat (with_reducible refine And.intro (by first | omega | decide | (simp; done) | (simp only [List.length_append, List.length_cons, List.length_nil, List.length_map]; omega)) ?_))
    refine endW [] [] (by simp) rfl rfl rfl ?_ ?_ <;> simp only [go_sem, Nat.reduceEqDiff]
    all_goals (try simp [note0, cov, covs, subs, names, namess])
end Go.Proofs.Ythbejciebmkclaa.Ab
namespace Go.Proofs.Ythbejciebmkclaa.Ab
open Go Go.RowKit
set_option linter.unusedVariables false
set_option linter.unusedSimpArgs false

end Go.Proofs.Ythbejciebmkclaa.Ab
namespace Go.Proofs.Ythbejciebmkclaa.Ab
open Go Go.RowKit
set_option linter.unusedVariables false
set_option linter.unusedSimpArgs false

structure RDoOk (w : LW) (a : LAsk) (now : Int) : Prop where
  f : w.h.Fits
  q : a.queue.size ≤ 1048576
  n : a.note.Fits
  x : -1000000000 ≤ w.h.next ∧ w.h.next ≤ 1000000000
  t : (∀ q ∈ w.h.queues, q.Ok) ∧ -1000000 ≤ now ∧ now ≤ 1000000
  i : HallNice w.h
  s : w.s.tags.length ≤ 1048576 ∧ -1000000000000 ≤ w.s.next ∧ w.s.next ≤ 1000000000000
  g : ∀ t ∈ w.s.tags, KeepOk (w, hdoneS w.h t) ∧ KeepOk (w, hbackS w.h t)
  k2 : KeepOk (w, makeS w.h a.queue a.n)
  k3 : KeepOk (w, dropS w.h a.queue)
  k4 : KeepOk (w, hputS w.h a.queue a.note)
  k9 : KeepOk (w, hpurgeS w.h a.queue)
end Go.Proofs.Ythbejciebmkclaa.Ab
namespace Go.Proofs.Ythbejciebmkclaa.Ab
open Go Go.RowKit
set_option linter.unusedVariables false
set_option linter.unusedSimpArgs false

def leaveT (w : LW) (t : LTag) : LW := (keepS w (hbackS w.h t)).1
def wleaveS (w : LW) : LW := w.s.tags.foldl leaveT w
def leaveI (w : LW) (i : Nat) : LW := (w.s.tags.take i).foldl leaveT w
theorem leaveI_s (w : LW) : ∀ i, (leaveI w i).s = w.s := fun i => by
  unfold leaveI
  generalize w.s.tags.take i = l
  have : ∀ (l : List LTag) (v : LW), (l.foldl leaveT v).s = v.s := fun l => by
    induction l with
    | nil => intro v; rfl
    | cons t r ih => intro v; rw [List.foldl_cons, ih]; exact keepS_s
  exact this l w
theorem leaveI_succ {w : LW} {i : Nat} (hi : i < w.s.tags.length) : leaveI w (i + 1) = leaveT (leaveI w i) (w.s.tags.getD i tag0) := by
  unfold leaveI
  rw [List.take_succ_eq_append_getElem hi, List.foldl_append]
  simp [hi]
def LvOk (w : LW) : Prop := w.s.tags.length ≤ 1048576 ∧ ∀ i, i < w.s.tags.length → (HallIn (leaveI w i).h ∧ HallNice (leaveI w i).h) ∧ KeepOk (leaveI w i, hbackS (leaveI w i).h (w.s.tags.getD i tag0))
def leaveLo : Nat → Lo := fun id => match id with | 5 => {uo := [10], un := [15], ex := [4]} | 7 => {uo := [8, 9], un := [6, 7]} | _ => {}
set_option maxRecDepth 100000 in
set_option maxHeartbeats 2000000 in
theorem con_leave (w : LW) (hx : LvOk w) : Con Try.prog D 68 [hallA w.h, llogA w.l, sessA w.s] ⟨.tup [hallA (wleaveS w).h, llogA (wleaveS w).l], []⟩ := by
  have hok : GOk Try.prog D (tabG [eHback]) := tabG_ok _
  have g1 := fun (h : LHall) (t : LTag) (hh : HallIn h) => tabG_use (T := [eHback]) (E := eHback) (i := 0) rfl (by decide) ((h, t)) (hh)
  have gk : ∀ z, tabG ([eHback] : List (Ent Try.prog D)) 109 z = none := fun z => rfl
  generalize tabG [eHback] = G at *
  dsimp only [eHback] at g1
  obtain ⟨hl, hok'⟩ := hx
  have hS : wleaveS w = leaveI w w.s.tags.length := by unfold wleaveS leaveI; rw [List.take_length]
  have hs := leaveI_s w
  have hsucc := @leaveI_succ w
  have h0 : leaveI w 0 = w := rfl
  rw [hS]
  generalize leaveI w = L at *
  obtain ⟨⟨q, qn⟩, ⟨lb, ls⟩, ⟨ts, tn⟩⟩ := w
  simp only at hl hok' hs hsucc h0
  refine conM (G := G) (M := keepM) (rs := [(6, some 24), (7, some 32)]) keepM_ok hok Try.func68 Try.results68 Try.ntmps68 leaveLo fun X hP hD hG' hX => ?_
  have hk1 := fun (v : LW) (r : Res4) (h : KeepOk (v, r)) => keepM_1 (w := v) (r := r) h
  generalize keepM = M at *
  simp only [argS, num, hallA, llogA, logCs, sessA, sessCs]
  simp (disch := omega) only [go_sem, Nat.reduceLeDiff, reduceCtorEq, Nat.reduceAdd, Nat.reduceSub, Nat.reduceMul, Nat.reduceLT, Nat.reduceEqDiff, Int.reduceEq, Int.reduceLE, Int.reduceLT, Int.reducePow, Int.reduceMul, Int.reduceToNat, Int.reduceNeg, ↓reduceIte, hD, hG', wrap64, leaveLo, unbox, tmv, Option.some.injEq, exists_eq_left']
  refine Tr.loop (ι := Nat) (fun i => i ≤ ts.length) (fun i => { nt := 43, tm := [(6, .ptr 6 0), (7, .ptr 7 0), (8, .ptr 15 0), (17, .sl 4 (ts.map tagRow)), (18, .int .i64 ts.length), (19, .int .i64 i)], bl := [(6, some (.cells [.nils, .int .i64 0])), (7, some (.cells [.nils, .int .i64 0])), (15, some (.cells (wCs (L i))))] }) (fun i => ts.length - i) 0
    ⟨Nat.zero_le _, wk_of hD [(6, 6), (7, 7), (15, 15)] rfl rfl (by simp only [go_sem, Nat.reduceEqDiff]; simp) (by simp only [go_sem, Nat.reduceEqDiff]; simp [h0, wCs, cov, covs, subs, names, namess])⟩ ?_
  intro i hi
  refine evC_sound hX leaveLo _ _ _ ?_
  have hsi := hs i
  simp (disch := omega) only [go_sem, Nat.reduceLeDiff, reduceCtorEq, Nat.reduceAdd, Nat.reduceSub, Nat.reduceMul, Nat.reduceLT, Nat.reduceEqDiff, Int.reduceEq, Int.reduceLE, Int.reduceLT, Int.reducePow, Int.reduceMul, Int.reduceToNat, Int.reduceNeg, ↓reduceIte, hD, hG', wrap64, leaveLo, unbox, tmv, Option.some.injEq, exists_eq_left']
  refine condK_split (fun h => ?_) (fun h => ?_)
  · rw [decide_eq_true_eq] at h
    have hi1 : i < ts.length := by omega
    have hgx := tagGet hi1
    have hsu := hsucc hi1
    obtain ⟨⟨ho1, ho2⟩, ho3⟩ := hok' i hi1
    have g1 := g1 (L i).h (ts.getD i tag0) ho1
    have c1 := hk1 _ _ ho3
    generalize ts.getD i tag0 = t at *
    unfold leaveT at hsu
    generalize hbackS (L i).h t = R at *
    generalize hK : keepS (L i) R = K at *
    generalize L i = V at *
    obtain ⟨⟨vq, vn⟩, ⟨vb, vs⟩, ⟨vt, vx⟩⟩ := V
    obtain ⟨⟨⟨kq, kqn⟩, ⟨klb, kls⟩, ⟨kts, ktn⟩⟩, ⟨s1, s2, s3, s4, ⟨s5, s6⟩⟩⟩ := K
    obtain ⟨⟨rq, rx⟩, re, rr⟩ := R
    obtain ⟨t1, t2, t3, t4⟩ := t
    simp only [hres, hallA, hallCs, entriesA, tagA, tagRow, sayA, wCs] at g1 c1 hgx
    simp only [wCs]
    simp (disch := omega) only [go_sem, Nat.reduceLeDiff, reduceCtorEq, Nat.reduceAdd, Nat.reduceSub, Nat.reduceMul, Nat.reduceLT, Nat.reduceEqDiff, Int.reduceEq, Int.reduceLE, Int.reduceLT, Int.reducePow, Int.reduceMul, Int.reduceToNat, Int.reduceNeg, ↓reduceIte, hD, hG', wrap64, hgx, g1, c1, gk, leaveLo, unbox, tmv, Option.some.injEq, exists_eq_left']
    (repeat (with_reducible refine And.intro (by first | omega | decide | (simp; done) | (simp only [List.length_append, List.length_cons, List.length_nil, List.length_map]; omega)) ?_))
    refine ⟨i + 1, ⟨by omega, by omega⟩, wk_of hD [(6, 6), (7, 7), (15, 15)] rfl rfl ?_ ?_⟩ <;> simp only [go_sem, Nat.reduceEqDiff]
    · simp
    · simp [hsu, wCs, cov, covs, subs, names, namess]
  · rw [decide_eq_false_iff_not] at h
    have hie : i = ts.length := by omega
    subst hie
    generalize L ts.length = V at *
    obtain ⟨⟨vq, vn⟩, ⟨vb, vs⟩, ⟨vt, vx⟩⟩ := V
    simp only [wCs]
    simp (disch := omega) only [go_sem, Nat.reduceLeDiff, reduceCtorEq, Nat.reduceAdd, Nat.reduceSub, Nat.reduceMul, Nat.reduceLT, Nat.reduceEqDiff, Int.reduceEq, Int.reduceLE, Int.reduceLT, Int.reducePow, Int.reduceMul, Int.reduceToNat, Int.reduceNeg, ↓reduceIte, hD, hG', wrap64, leaveLo, unbox, tmv, Option.some.injEq, exists_eq_left']
    (repeat (with_reducible refine And.intro (by first | omega | decide | (simp; done) | (simp only [List.length_append, List.length_cons, List.length_nil, List.length_map]; omega)) ?_))
    refine endW [] [] (by simp) rfl rfl rfl ?_ ?_ <;> simp only [go_sem, Nat.reduceEqDiff]
end Go.Proofs.Ythbejciebmkclaa.Ab
namespace Go.Proofs.Ythbejciebmkclaa
open Go.RowKit
end Go.Proofs.Ythbejciebmkclaa
namespace Go.Proofs.Ythbejciebmkclaa.Ab
open Go Go.RowKit
set_option linter.unusedVariables false
set_option linter.unusedSimpArgs false

end Go.Proofs.Ythbejciebmkclaa.Ab
namespace Go.Proofs.Ythbejciebmkclaa.Ab
open Go Go.RowKit
set_option linter.unusedVariables false
set_option linter.unusedSimpArgs false

def EntN (e : LEntry) : Prop := (1 ≤ e.kind ∧ e.kind ≤ 4) ∧ e.queue.size ≤ 8 ∧ wrongS e.note = 0
def ResN (r : Res4) : Prop := r.2.2 = 0 → r.2.1.length ≤ 1000 ∧ ∀ e ∈ r.2.1, EntN e
theorem keep_of {w : LW} {r : Res4} (hb : w.l.bytes.length ≤ 1048576) (hr : ResN r) : KeepOk (w, r) := fun h0 => by
  obtain ⟨h1, h2⟩ := hr h0
  have hall : ∀ e ∈ r.2.1, EOk e ∧ (entryB e).length ≤ 148 := fun e he => by
    obtain ⟨q1, q2, q3⟩ := h2 e he
    have hbn := bytes_right q3
    exact ⟨⟨q1, by omega, fits_right q3, by omega⟩, entryB_len (a := 8) (b := 134) q2 hbn⟩
  have hfl : ∀ es : List LEntry, (∀ e ∈ es, (entryB e).length ≤ 148) → ((es.map entryB).map frameS).flatten.length ≤ 152 * es.length := fun es => by
    induction es with
    | nil => simp
    | cons e r ih =>
      intro h
      have h1 := ih fun x hx => h x (by simp [hx])
      have h2 := h e (by simp)
      simp only [List.map_cons, List.flatten_cons, List.length_append, List.length_cons, frameS_length]
      omega
  have hfl := hfl _ fun e he => (hall e he).2
  exact ⟨⟨by simp only; omega, by simp only; omega⟩, fun e he => (hall e he).1⟩
theorem found_size {T : Int} {h : LHall} (hf : hallFine T h) {nm : ByteArray} (hk : ¬ findS h.queues (nmL nm) < 0) : nm.size ≤ 8 := by
  have h1 := find_name hk
  have h2 := (hf.2 _ (getD_mem (d := queue0) (find_lt hk))).1
  rw [h1] at h2
  exact keyS_size h2
theorem make_n {h : LHall} {nm : ByteArray} {n : Int} : ResN (makeS h nm n) := fun he => by
  unfold makeS at *
  split
  · simp
  split
  · simp
  split
  · simp
  · rename_i h1 h2 h3
    refine ⟨by simp, fun e he => ?_⟩
    rw [List.mem_singleton.1 he]
    have hk : keyS nm = true := by
      cases hq : keyS nm
      · exact absurd (.inl hq) h1
      · rfl
    exact ⟨by simp, keyS_size hk, rfl⟩
theorem drop_n {T : Int} {h : LHall} (hf : hallFine T h) {nm : ByteArray} : ResN (dropS h nm) := fun he => by
  unfold dropS at *
  split
  · simp
  · rename_i h1
    refine ⟨by simp, fun e he => ?_⟩
    rw [List.mem_singleton.1 he]
    exact ⟨by simp, found_size hf h1, rfl⟩
theorem putAt_n {T : Int} {h : LHall} (hf : hallFine T h) {k : Nat} {m : LNote} (hm : wrongS m = 0) (hk : k < h.queues.length) : (putAt h k m).2.1.length ≤ 1 ∧ ∀ e ∈ (putAt h k m).2.1, EntN e := by
  unfold putAt
  split
  · simp
  · refine ⟨by simp, fun e he => ?_⟩
    rw [List.mem_singleton.1 he]
    exact ⟨by simp, keyS_size (fine_get hf hk).1, hm⟩
theorem put_n {T : Int} {h : LHall} (hf : hallFine T h) {nm : ByteArray} {m : LNote} : ResN (hputS h nm m) := fun he => by
  unfold hputS at *
  split
  · simp
  split
  · simp
  split
  · simp
  · rename_i h1 h2 h3
    have := putAt_n (m := m) hf (by simpa using h1) (find_lt h2)
    exact ⟨by omega, this.2⟩
theorem done_n {T : Int} {h : LHall} (hf : hallFine T h) {t : LTag} : ResN (hdoneS h t) := fun he => by
  unfold hdoneS at *
  split
  · simp
  split
  · simp
  · rename_i h1 h2
    refine ⟨by simp, fun e he => ?_⟩
    rw [List.mem_singleton.1 he]
    exact ⟨by simp, found_size hf h1, rfl⟩
theorem purge_n {T : Int} {h : LHall} (hf : hallFine T h) {nm : ByteArray} : ResN (hpurgeS h nm) := fun he => by
  unfold hpurgeS at *
  split
  · simp
  · rename_i h1
    have h7 := (hf.2 _ (getD_mem (d := queue0) (find_lt h1))).2.2.1
    have h8 : (goneS (qAt h (findS h.queues (nmL nm)).toNat).items).length ≤ (qAt h (findS h.queues (nmL nm)).toNat).items.length := by
      unfold goneS
      rw [List.length_map]
      exact List.length_filter_le _ _
    refine ⟨?_, fun e he => ?_⟩
    · simp only [List.length_map, purgeS]
      unfold qAt at h8 ⊢
      omega
    · obtain ⟨i, hi, rfl⟩ := List.mem_map.1 he
      exact ⟨by simp, found_size hf h1, rfl⟩
/-- one that comes back leaves a hall as it should be -/
theorem back_n {T M : Int} {n : Nat} {h : LHall} (hp : hallP T M n h) (hT : 0 ≤ T) {t : LTag} (he : (hbackS h t).2.2 = 0) : ((hbackS h t).2.1.length ≤ 1000 ∧ ∀ e ∈ (hbackS h t).2.1, EntN e) ∧ hallP T M n (hbackS h t).1 := by
  obtain ⟨hf, hn, h0, hM⟩ := hp
  unfold hbackS at *
  by_cases h1 : findS h.queues (nmL t.queue) < 0
  · rw [if_pos h1] at he; exact absurd he (by decide)
  rw [if_neg h1] at he ⊢
  have hk := find_lt h1
  have hts := found_size hf h1
  generalize (findS h.queues (nmL t.queue)).toNat = k at *
  by_cases h3 : placeS (isIt t.id t.turn) (qAt h k).items 0 < 0
  · exfalso
    simp [backS, h3] at he
  obtain ⟨j', hj', ej, hpj⟩ := placeS_found h3
  have hq := fine_get hf hk
  obtain ⟨l, next⟩ := h
  have hqe : l.getD k queue0 = qAt ⟨l, next⟩ k := rfl
  simp only at hn h0 hM hk
  generalize qAt ⟨l, next⟩ k = q at *
  unfold backS at *
  rw [if_neg h3] at he ⊢
  rw [ej, Int.toNat_natCast] at he ⊢
  generalize hit : q.items.getD j' item0 = it at *
  have hout : it.out = true := by
    simp only [isIt, Bool.and_eq_true] at hpj
    exact hpj.2
  have ho1 : outI it = 1 := by simp [outI, hout]
  have ho0 : outI (backI it) = 0 := by simp [outI, backI]
  by_cases h7 : (backI it).tries < 3
  · rw [if_pos h7]
    simp only [ne_eq, not_true_eq_false, if_false, if_true]
    have hs := sum_set (f := outI) (d := item0) (x := backI it) hj'
    rw [hit, ho1, ho0] at hs
    have hs2 := sum_set (f := outQ) (d := queue0) (x := { q with items := q.items.set j' (backI it) }) hk
    rw [hqe] at hs2
    have e1 : outQ { q with items := q.items.set j' (backI it) } + 1 = outQ q := by unfold outQ; simp only; omega
    refine ⟨by simp, fine_set (next := next) hf hk (by rw [hqe]) (by have := fine_back hq hj' (by rw [hit]; exact h7); rwa [hit] at this), by simp [setQ, hn], h0, ?_⟩
    have : outs (setQ ⟨l, next⟩ k { q with items := q.items.set j' (backI it) }) + 1 = outs ⟨l, next⟩ := by
      unfold outs setQ
      simp only
      omega
    show next + _ ≤ M
    omega
  · rw [if_neg h7]
    simp only [ne_eq, not_true_eq_false, if_false, Bool.true_eq_false]
    have hs := sum_erase (f := outI) (d := item0) hj'
    rw [hit, ho1] at hs
    have hs2 := sum_set (f := outQ) (d := queue0) (x := { q with items := q.items.eraseIdx j' }) hk
    rw [hqe] at hs2
    have e1 : outQ { q with items := q.items.eraseIdx j' } + 1 = outQ q := by unfold outQ; simp only; omega
    have hlt : outs (setQ ⟨l, next⟩ k { q with items := q.items.eraseIdx j' }) + 1 = outs ⟨l, next⟩ := by
      unfold outs setQ
      simp only
      omega
    have hfs : hallFine T (setQ ⟨l, next⟩ k { q with items := q.items.eraseIdx j' }) := fine_set (next := next) hf hk (by rw [hqe]) (fine_gone hq hj')
    have hwn : wrongS (backI it).note = 0 := by
      have := (hq.2.2.2 _ (getD_mem (d := item0) hj')).1
      rw [hit] at this
      exact this
    have hsl : (setQ ⟨l, next⟩ k { q with items := q.items.eraseIdx j' }).queues.length = n := by simp [setQ, hn]
    have hsn : (setQ ⟨l, next⟩ k { q with items := q.items.eraseIdx j' }).next = next := rfl
    generalize setQ ⟨l, next⟩ k { q with items := q.items.eraseIdx j' } = g at *
    have hen : EntN ⟨4, t.queue, 0, t.id, note0⟩ := ⟨by simp, hts, rfl⟩
    unfold deadS
    split
    · rename_i hd
      have hdl := find_lt (l := g.queues) (nm := nmL deadB) (by have := hd.1; omega)
      obtain ⟨p1, p2, p3, p4, p5⟩ := put_fine hfs hT hwn hdl
      have hpn := putAt_n (m := (backI it).note) hfs hwn hdl
      exact ⟨⟨by simp only [List.length_cons]; omega, fun e hm => (List.mem_cons.1 hm).elim (fun q => q ▸ hen) (hpn.2 e)⟩, p1, by rw [p2, hsl], by simp only; omega, by simp only; omega⟩
    · exact ⟨⟨by simp, fun e hm => (List.mem_cons.1 hm).elim (fun q => q ▸ hen) (fun q => by cases q)⟩, hfs, hsl, by simp only; omega, by simp only; omega⟩
end Go.Proofs.Ythbejciebmkclaa.Ab
namespace Go.Proofs.Ythbejciebmkclaa.Ab
open Go Go.RowKit
set_option linter.unusedVariables false
set_option linter.unusedSimpArgs false

/-- what the laws ask of a hall, its journal, a session -/
structure WRight (w : LW) : Prop where
  h : hallOk w.h
  b : w.l.bytes.length ≤ 1048576
  t : w.s.tags.length ≤ 1048576
  n : 0 ≤ w.s.next ∧ w.s.next < 1000000
theorem WRight.doOk {w : LW} (hw : WRight w) {a : LAsk} (ha : a.Fits) {now : Int} (hn : 0 ≤ now ∧ now ≤ 1000000) : DoOk w a now := by
  obtain ⟨hf, hl4, hn0, hn1⟩ := hallOk_fine hw.h
  have hp := hallOk_P hw.h
  have hfit : w.h.Fits := hallFine_fits hf (by decide) (by omega)
  have h1 := hw.n
  exact ⟨hfit, ha.1, ha.2, ⟨by omega, by omega⟩, ⟨⟨hfit, fun q hq => queueFine_ok (hf.2 q hq) (by decide), by simp only; omega, by simp only; omega⟩, by simp only; omega, by simp only; omega⟩,
    fun b => ⟨⟨hfit, hallP_in hp (by decide) (by decide) (by omega)⟩, hw.t, fun t _ => ⟨keep_of hw.b (done_n hf), keep_of hw.b fun he => (back_n hp (by decide) he).1⟩⟩,
    keep_of hw.b make_n, keep_of hw.b (drop_n hf), keep_of hw.b (put_n hf), keep_of hw.b (purge_n hf)⟩
theorem write_len {l : List UInt8} {s : Int} {es : List LEntry} (h : (writeS l s es).2 = 0) : (writeS l s es).1.bytes.length ≤ 6000 := by
  unfold writeS at *
  obtain ⟨_, h1, h2⟩ := appendS_ok h
  rw [h2]
  exact h1
theorem leave_step {w : LW} {M : Int} {n : Nat} (hp : hallP 1000 M n w.h) (hb : w.l.bytes.length ≤ 1048576) {t : LTag} : hallP 1000 M n (leaveT w t).h ∧ (leaveT w t).l.bytes.length ≤ 1048576 := by
  unfold leaveT keepS
  split
  · exact ⟨hp, hb⟩
  split
  · exact ⟨hp, hb⟩
  · rename_i h1 h2
    have h3 := write_len (by simpa using h2)
    exact ⟨(back_n hp (by decide) (by simpa using h1)).2, by simp only; omega⟩
theorem leave_all {w : LW} {M : Int} {n : Nat} (hp : hallP 1000 M n w.h) (hb : w.l.bytes.length ≤ 1048576) : ∀ i, i ≤ w.s.tags.length → hallP 1000 M n (leaveI w i).h ∧ (leaveI w i).l.bytes.length ≤ 1048576
  | 0, _ => ⟨hp, hb⟩
  | i + 1, hi => by
    rw [leaveI_succ (by omega)]
    have := leave_all hp hb i (by omega)
    exact leave_step this.1 this.2
theorem WRight.lvOk {w : LW} (hw : WRight w) : LvOk w ∧ (wleaveS w).h.Fits := by
  obtain ⟨hf, hl4, hn0, hn1⟩ := hallOk_fine hw.h
  have hp := hallOk_P hw.h
  have hall := leave_all hp hw.b
  refine ⟨⟨hw.t, fun i hi => ?_⟩, ?_⟩
  · obtain ⟨h1, h2⟩ := hall i (by omega)
    exact ⟨⟨hallP_in h1 (by decide) (by decide) (by omega), hallP_nice h1 (by decide) (by decide) (by omega)⟩, keep_of h2 fun he => (back_n h1 (by decide) he).1⟩
  · have h1 := (hall _ (Nat.le_refl _)).1
    have e : wleaveS w = leaveI w w.s.tags.length := by unfold wleaveS leaveI; rw [List.take_length]
    rw [e]
    exact hallFine_fits h1.1 (by decide) (by rw [h1.2.1]; omega)
/-- what comes out fits -/
def OutFits (r : LW × LSay) : Prop := r.1.h.Fits ∧ r.2.note.Fits ∧ r.1.s.tags.length ≤ 1048577
theorem keep_out {w : LW} {r : Res4} (hw : w.h.Fits) (ht : w.s.tags.length ≤ 1048576) (hr : ResFits r) : OutFits (keepS w r) := by
  unfold keepS
  split
  · exact ⟨hw, fits_zero, by simp only; omega⟩
  split
  · exact ⟨hw, fits_zero, by simp only; omega⟩
  · exact ⟨hr.1, fits_zero, by simp only; omega⟩
theorem WRight.out {w : LW} (hw : WRight w) {a : LAsk} (ha : a.Fits) {now : Int} : OutFits ((doS w a now).1, (doS w a now).2.1) := by
  obtain ⟨hf, hl4, hn0, hn1⟩ := hallOk_fine hw.h
  have hfit : w.h.Fits := hallFine_fits hf (by decide) (by omega)
  have hq8 := fine_len hf
  have ht := hw.t
  have h0 : ∀ s : LSay, s.note = note0 → OutFits (w, s) := fun s h => ⟨hfit, by simp only [h]; exact fits_zero, by simp only; omega⟩
  have htake : OutFits ((stakeS w a.queue now).1, (stakeS w a.queue now).2.1) := by
    unfold stakeS
    split
    · exact h0 _ rfl
    split
    · exact h0 _ rfl
    split
    · exact h0 _ rfl
    · have := rf_take (nm := a.queue) (now := now) hfit
      exact ⟨this.1, this.2, by simp only [List.length_append, List.length_cons, List.length_nil]; omega⟩
  have haux : ∀ (R : Res4) (j : Nat), ResFits R → OutFits (if (keepS w R).2.err ≠ 8 then ((⟨(keepS w R).1.h, (keepS w R).1.l, ⟨w.s.tags.eraseIdx j, w.s.next⟩⟩ : LW), (keepS w R).2) else keepS w R) := fun R j hR => by
    have hk := keep_out hfit ht hR
    generalize keepS w R = K at *
    split
    · exact ⟨hk.1, hk.2.1, by simp only; have := List.length_eraseIdx_le w.s.tags j; omega⟩
    · exact hk
  have htag : ∀ b, OutFits (stagS w a.n b) := fun b => by
    unfold stagS
    split
    · exact h0 _ rfl
    · cases b
      · exact haux _ _ (rf_done hfit)
      · exact haux _ _ (rf_back hfit hq8)
  unfold doS
  repeat' split
  all_goals (first
    | exact h0 _ rfl
    | exact keep_out hfit ht (rf_make hfit ha.1)
    | exact keep_out hfit ht (rf_drop hfit)
    | exact keep_out hfit ht (rf_put hfit hq8 ha.2)
    | exact keep_out hfit ht (rf_purge hfit)
    | exact htake
    | exact htag _
    | exact ⟨htake.1, fits_zero, htake.2.2⟩)
end Go.Proofs.Ythbejciebmkclaa.Ab
namespace Go.Proofs.Ythbejciebmkclaa.Ab
open Go Go.RowKit
set_option linter.unusedVariables false
set_option linter.unusedSimpArgs false

def WR (w : LW) : Prop := hallOk w.h ∧ 0 ≤ w.l.sure ∧ w.l.sure ≤ w.l.bytes.length ∧ 0 ≤ w.s.next ∧ w.s.next < 1000000
instance (w : LW) : Decidable (WR w) := by unfold WR; infer_instance
set_option maxRecDepth 100000 in
theorem con_wright (w : LW) (hh : w.h.Fits) : Con Try.prog D 63 [hallA w.h, llogA w.l, sessA w.s] ⟨.bool (decide (WR w)), []⟩ := by
  have hok : GOk Try.prog D (tabG [eRightq]) := tabG_ok _
  have g1 := tabG_use (T := [eRightq]) (E := eRightq) (i := 0) rfl (by decide) (w.h) (hh)
  generalize tabG [eRightq] = G at *
  dsimp only [eRightq] at g1
  have hr : decide (WR w) = (decide (hallOk w.h) && (decide (0 ≤ w.l.sure) && (decide (w.l.sure ≤ w.l.bytes.length) && (decide (0 ≤ w.s.next) && decide (w.s.next < 1000000))))) := by
    rw [Bool.eq_iff_iff]
    simp only [decide_eq_true_eq, Bool.and_eq_true]
    exact Iff.rfl
  rw [hr]
  generalize decide (hallOk w.h) = b at *
  obtain ⟨⟨q, qn⟩, ⟨lb, ls⟩, ⟨ts, tn⟩⟩ := w
  simp only [hallA] at g1
  refine conW (G := G) (rs := [(6, none)]) hok Try.func63 Try.results63 Try.ntmps63 (fun _ => {}) fun X hP hD hG' hX => ?_
  simp only [argS, num, hallA, llogA, logCs, sessA, sessCs]
  simp (disch := omega) only [go_sem, Nat.reduceLeDiff, reduceCtorEq, Nat.reduceAdd, Nat.reduceSub, Nat.reduceMul, Nat.reduceLT, Nat.reduceEqDiff, Int.reduceEq, Int.reduceLE, Int.reduceLT, Int.reducePow, Int.reduceMul, Int.reduceToNat, Int.reduceNeg, ↓reduceIte, hD, hG', wrap64, g1, unbox, tmv, Option.some.injEq, exists_eq_left']
  refine RegT.mk [] ?_
  simp (disch := omega) only [go_sem, Nat.reduceLeDiff, reduceCtorEq, Nat.reduceAdd, Nat.reduceSub, Nat.reduceMul, Nat.reduceLT, Nat.reduceEqDiff, Int.reduceEq, Int.reduceLE, Int.reduceLT, Int.reducePow, Int.reduceMul, Int.reduceToNat, Int.reduceNeg, ↓reduceIte, hD, hG', wrap64, g1, unbox, tmv, Option.some.injEq, exists_eq_left']
  and_intros
  all_goals (try (first | decide | omega | (first | (intro hk; refine ⟨hk, fun h2 => ?_⟩; first | (rw [hk, h2]; rfl) | (rw [hk, decide_eq_false h2]; rfl)) | (intro hk; rw [decide_eq_false hk]; rfl) | (intro hk; rw [hk]; rfl))))
  all_goals (first | (refine ⟨_, Wk.refl, _, rfl, [], [], rfl, rfl, ?_, ?_⟩ <;> simp only [go_sem, Nat.reduceEqDiff]) | skip)
  all_goals (try (simp; done))
  all_goals (
    simp only [ge_iff_le]
    generalize decide (0 ≤ ls) = b1
    generalize decide (ls ≤ (lb.length : Int)) = b2
    generalize decide (0 ≤ tn) = b3
    generalize decide (tn < 1000000) = b4
    cases b <;> cases b1 <;> cases b2 <;> cases b3 <;> cases b4 <;> rfl)
end Go.Proofs.Ythbejciebmkclaa.Ab
namespace Go.Proofs.Ythbejciebmkclaa.Ab
open Go Go.RowKit
set_option linter.unusedVariables false
set_option linter.unusedSimpArgs false

end Go.Proofs.Ythbejciebmkclaa.Ab
namespace Go.Proofs.Ythbejciebmkclaa.Ab
open Go Go.RowKit
set_option linter.unusedVariables false
set_option linter.unusedSimpArgs false

/-! the closed run -/
def aw0 : LW := ⟨hall0, ⟨[], 0⟩, ⟨[], 0⟩⟩
def aa1 : LAsk := ⟨2, aB, 2, note0⟩
def aa2 : LAsk := ⟨4, aB, 0, noteX⟩
def aa3 : LAsk := ⟨5, aB, 0, note0⟩
def aa4 : LAsk := ⟨6, aB, 2, note0⟩
def aw1 : LW := (doS aw0 aa1 0).1
def aw2 : LW := (doS aw1 aa2 0).1
def aw3 : LW := (doS aw2 aa3 0).1
theorem do_eq {r : LW × LSay × Bool} {h : LHall} {l : LLog} {t : List LTag} {n : Int} {k m i e : Int} {o : LNote} {b : Bool} (h1 : r.1.h = h ∧ r.1.l = l ∧ r.1.s.tags = t ∧ r.1.s.next = n) (h2 : r.2.1.kind = k ∧ r.2.1.n = m ∧ r.2.1.m = i ∧ r.2.1.err = e ∧ r.2.1.note = o ∧ r.2.2 = b) :
    r = (⟨h, l, ⟨t, n⟩⟩, ⟨k, m, i, e, o⟩, b) := by
  obtain ⟨⟨rh, rl, ⟨rt, rn⟩⟩, ⟨s1, s2, s3, s4, s5⟩, rb⟩ := r
  obtain ⟨rfl, rfl, rfl, rfl⟩ := h1
  obtain ⟨rfl, rfl, rfl, rfl, rfl, rfl⟩ := h2
  rfl
theorem ar1 : doS aw0 aa1 0 = (⟨⟨[qA 2 []], 0⟩, aw1.l, ⟨[], 0⟩⟩, ⟨1, 0, 0, 0, note0⟩, false) := do_eq (by decide +kernel) (by decide +kernel)
theorem ar2 : doS aw1 aa2 0 = (⟨⟨[qA 2 [⟨0, 0, 0, false, 0, noteX⟩]], 1⟩, aw2.l, ⟨[], 0⟩⟩, ⟨1, 0, 0, 0, note0⟩, false) := do_eq (by decide +kernel) (by decide +kernel)
theorem ar3 : doS aw2 aa3 0 = (⟨⟨[qA 2 [⟨0, 1, 0, true, 5, noteX⟩]], 1⟩, aw2.l, ⟨[⟨1, aB, 0, 1⟩], 1⟩⟩, ⟨2, 1, 0, 0, noteX⟩, false) := do_eq (by decide +kernel) (by decide +kernel)
theorem ar4 : doS aw3 aa4 0 = (⟨⟨[qA 2 [⟨0, 1, 0, true, 5, noteX⟩]], 1⟩, aw2.l, ⟨[⟨1, aB, 0, 1⟩], 1⟩⟩, ⟨0, 0, 0, 0, note0⟩, true) := do_eq (by decide +kernel) (by decide +kernel)
theorem aleave : (wleaveS aw3).h = ⟨[qA 2 [⟨0, 1, 1, false, 0, noteX⟩]], 1⟩ ∧ (wleaveS aw3).l = aw2.l ∧ 8 < aw2.l.bytes.length ∧ aw2.l.bytes.length ≤ 1000 ∧ aw1.l.bytes.length ≤ 1000 := by decide +kernel
theorem aq1 : WRight aw0 := ⟨by decide +kernel, by decide +kernel, by decide +kernel, by decide +kernel⟩
theorem aq2 : WRight aw1 := ⟨by decide +kernel, by decide +kernel, by decide +kernel, by decide +kernel⟩
theorem aq3 : WRight aw2 := ⟨by decide +kernel, by decide +kernel, by decide +kernel, by decide +kernel⟩
theorem aq4 : WRight aw3 := ⟨by decide +kernel, by decide +kernel, by decide +kernel, by decide +kernel⟩
theorem aw1_eq : aw1 = ⟨⟨[qA 2 []], 0⟩, aw1.l, ⟨[], 0⟩⟩ := congrArg (·.1) ar1
theorem aw2_eq : aw2 = ⟨⟨[qA 2 [⟨0, 0, 0, false, 0, noteX⟩]], 1⟩, aw2.l, ⟨[], 0⟩⟩ := congrArg (·.1) ar2
theorem aw3_eq : aw3 = ⟨⟨[qA 2 [⟨0, 1, 0, true, 5, noteX⟩]], 1⟩, aw2.l, ⟨[⟨1, aB, 0, 1⟩], 1⟩⟩ := congrArg (·.1) ar3
set_option maxRecDepth 100000 in
set_option maxHeartbeats 2000000 in
theorem con_alive6 : Con Try.prog D 69 [] ⟨.bool true, []⟩ := by
  have fX : noteX.Fits := by simp [noteX, LNote.Fits]
  have f0 : note0.Fits := by simp [note0, LNote.Fits]
  have fa : ∀ k n m, m.Fits → LAsk.Fits ⟨k, aB, n, m⟩ := fun k n m h => ⟨by show aB.size ≤ 1048576; decide, h⟩
  have c1 : Con Try.prog D 65 [.agg [.nils, .int .i64 0], .agg [.nils, .int .i64 0], .agg [.nils, .int .i64 0], .agg [.int .i64 2, .str [97], .int .i64 2, .nils, .nils], .int .i64 0] ⟨doV (⟨⟨[qA 2 []], 0⟩, aw1.l, ⟨[], 0⟩⟩, ⟨1, 0, 0, 0, note0⟩, false), []⟩ := by
    have := con_do aw0 aa1 0 (aq1.doOk (fa _ _ _ f0) (by decide))
    rw [ar1] at this
    exact this.weak (by simp [covs, cov, hallA, llogA, logCs, sessA, sessCs, askA, aw0, aa1, hall0, aB, note0])
  have c2 : Con Try.prog D 65 [hallA ⟨[qA 2 []], 0⟩, llogA aw1.l, sessA ⟨[], 0⟩, .agg [.int .i64 4, .str [97], .int .i64 0, .nils, .sl 1 [[.int .u8 120]]], .int .i64 0] ⟨doV (⟨⟨[qA 2 [⟨0, 0, 0, false, 0, noteX⟩]], 1⟩, aw2.l, ⟨[], 0⟩⟩, ⟨1, 0, 0, 0, note0⟩, false), []⟩ := by
    have := con_do aw1 aa2 0 (aq2.doOk (fa _ _ _ fX) (by decide))
    rw [ar2, aw1_eq] at this
    exact this.weak (by simp [covs, cov, hallA, llogA, logCs, sessA, sessCs, askA, aa2, aB, noteX, byteRow])
  have c3 : Con Try.prog D 65 [hallA ⟨[qA 2 [⟨0, 0, 0, false, 0, noteX⟩]], 1⟩, llogA aw2.l, sessA ⟨[], 0⟩, .agg [.int .i64 5, .str [97], .int .i64 0, .nils, .nils], .int .i64 0] ⟨doV (⟨⟨[qA 2 [⟨0, 1, 0, true, 5, noteX⟩]], 1⟩, aw2.l, ⟨[⟨1, aB, 0, 1⟩], 1⟩⟩, ⟨2, 1, 0, 0, noteX⟩, false), []⟩ := by
    have := con_do aw2 aa3 0 (aq3.doOk (fa _ _ _ f0) (by decide))
    rw [ar3, aw2_eq] at this
    exact this.weak (by simp [covs, cov, hallA, llogA, logCs, sessA, sessCs, askA, aa3, aB, note0])
  have c4 : Con Try.prog D 65 [hallA ⟨[qA 2 [⟨0, 1, 0, true, 5, noteX⟩]], 1⟩, llogA aw2.l, sessA ⟨[⟨1, aB, 0, 1⟩], 1⟩, .agg [.int .i64 6, .str [97], .int .i64 2, .nils, .nils], .int .i64 0] ⟨doV (⟨⟨[qA 2 [⟨0, 1, 0, true, 5, noteX⟩]], 1⟩, aw2.l, ⟨[⟨1, aB, 0, 1⟩], 1⟩⟩, ⟨0, 0, 0, 0, note0⟩, true), []⟩ := by
    have := con_do aw3 aa4 0 (aq4.doOk (fa _ _ _ f0) (by decide))
    rw [ar4, aw3_eq] at this
    exact this.weak (by simp [covs, cov, hallA, llogA, logCs, sessA, sessCs, askA, aa4, aB, note0])
  obtain ⟨l1, l2, l3, l4, l5⟩ := aleave
  have c5 : Con Try.prog D 68 [hallA ⟨[qA 2 [⟨0, 1, 0, true, 5, noteX⟩]], 1⟩, llogA aw2.l, sessA ⟨[⟨1, aB, 0, 1⟩], 1⟩] ⟨.tup [hallA ⟨[qA 2 [⟨0, 1, 1, false, 0, noteX⟩]], 1⟩, llogA aw2.l], []⟩ := by
    have := con_leave aw3 aq4.lvOk.1
    rw [l1, l2, aw3_eq] at this
    exact this
  have c6 : Con Try.prog D 59 [.agg [.int .i64 0, .str [], .int .i64 0, .nils, .nils]] ⟨.int .i64 1, []⟩ :=
    (con_wrongask ⟨0, ⟨#[]⟩, 0, note0⟩ ⟨by decide, f0⟩).weak (by simp [covs, cov, askA, note0])
  have c7 : Con Try.prog D 62 [sessA ⟨[⟨1, aB, 0, 1⟩], 1⟩] ⟨sessA ⟨[⟨1, aB, 0, 1⟩], 1⟩, []⟩ := (con_sown _ (by decide)).plainR
  have dl : decide ((aw2.l.bytes.length : Int) > 8) = true := decide_eq_true (by omega)
  generalize aw1.l = W1 at *
  generalize aw2.l = W2 at *
  obtain ⟨b1, u1⟩ := W1
  obtain ⟨b2, u2⟩ := W2
  clear l1 l2 l3 l4 l5
  simp only [doV, hallA, llogA, logCs, sessA, sessCs, sayA, queueRow, itemRow, tagRow, qA, note0, noteX, aB, List.map_cons, List.map_nil, byteRow_eq, if_true, Bool.false_eq_true, if_false] at c1 c2 c3 c4 c5 c6 c7
  have hok := listG_ok (l := [(_, _, _), (_, _, _), (_, _, _), (_, _, _), (_, _, _), (_, _, _), (_, _, _)]) ⟨c1, c2, c3, c4, c5, c6, c7, trivial⟩
  clear c1 c2 c3 c4 c5 c6 c7
  generalize hG0 : listG _ = G at hok
  have hG : ∀ f a, G f a = listG _ f a := fun f a => by rw [← hG0]
  clear hG0
  have n0 : ((0 : Nat) : Int) = 0 := rfl
  have n1 : ((1 : Nat) : Int) = 1 := rfl
  have z0 : (0 : Int) + 0 = 0 := rfl
  refine conW (G := G) (rs := [(0, none)]) hok Try.func69 Try.results69 Try.ntmps69 (fun _ => {}) fun X hP hD hG' hX => ?_
  simp only [argS, num]
  simp (disch := omega) only [go_sem, Nat.reduceLeDiff, reduceCtorEq, Nat.reduceAdd, Nat.reduceSub, Nat.reduceMul, Nat.reduceLT, Nat.reduceEqDiff, Int.reduceEq, Int.reduceLE, Int.reduceLT, Int.reducePow, Int.reduceMul, Int.reduceToNat, Int.reduceNeg, ↓reduceIte, hD, hG', wrap64, hG, listG, AV.agg.injEq, List.cons.injEq, AV.int.injEq, AV.str.injEq, AV.sl.injEq, AV.bool.injEq, n0, n1, z0, List.append_eq, unbox, tmv, Option.some.injEq, exists_eq_left']
  refine ⟨by simp, RegT.mk [] ?_⟩
  simp (disch := omega) only [go_sem, Nat.reduceLeDiff, reduceCtorEq, Nat.reduceAdd, Nat.reduceSub, Nat.reduceMul, Nat.reduceLT, Nat.reduceEqDiff, Int.reduceEq, Int.reduceLE, Int.reduceLT, Int.reducePow, Int.reduceMul, Int.reduceToNat, Int.reduceNeg, ↓reduceIte, hD, hG', wrap64, dl, hG, listG, AV.agg.injEq, List.cons.injEq, AV.int.injEq, AV.str.injEq, AV.sl.injEq, AV.bool.injEq, n0, n1, z0, List.append_eq, unbox, tmv, Option.some.injEq, exists_eq_left']
  (repeat (with_reducible refine And.intro (by first | omega | decide | (simp; done) | (simp only [List.length_append, List.length_cons, List.length_nil, List.length_map]; omega)) ?_))
  refine endW [] [] (by simp) rfl rfl rfl ?_ ?_ <;> simp only [go_sem, Nat.reduceEqDiff]
def eAlive6 : Ent Try.prog D := ⟨69, Unit, fun _ => [], fun _ => True, fun _ => ⟨.bool true, []⟩, fun x y _ _ h => rfl, fun _ _ => con_alive6⟩
end Go.Proofs.Ythbejciebmkclaa.Ab
namespace Go.Proofs.Ythbejciebmkclaa.Ab
open Go Go.RowKit
set_option linter.unusedVariables false
set_option linter.unusedSimpArgs false

theorem doOk_fine {w : LW} (hf : hallFine 1000 w.h) (hl4 : w.h.queues.length ≤ 4) (hx : 0 ≤ w.h.next ∧ w.h.next ≤ 1000000) (hb : w.l.bytes.length ≤ 1048576) (htl : w.s.tags.length ≤ 1048576) (h1 : 0 ≤ w.s.next ∧ w.s.next ≤ 1000000) {a : LAsk} (ha : a.Fits) {now : Int} (hn : 0 ≤ now ∧ now ≤ 1000000) : DoOk w a now := by
  have hp : hallP 1000 1000100 w.h.queues.length w.h := ⟨hf, rfl, hx.1, by have := outs_le fun q hq => (by have := (hf.2 q hq).2.2.1; omega : q.items.length ≤ 8); omega⟩
  have hfit : w.h.Fits := hallFine_fits hf (by decide) (by omega)
  exact ⟨hfit, ha.1, ha.2, ⟨by omega, by omega⟩, ⟨⟨hfit, fun q hq => queueFine_ok (hf.2 q hq) (by decide), by simp only; omega, by simp only; omega⟩, by simp only; omega, by simp only; omega⟩,
    fun b => ⟨⟨hfit, hallP_in hp (by decide) (by decide) (by omega)⟩, htl, fun t _ => ⟨keep_of hb (done_n hf), keep_of hb fun he => (back_n hp (by decide) he).1⟩⟩,
    keep_of hb make_n, keep_of hb (drop_n hf), keep_of hb (put_n hf), keep_of hb (purge_n hf)⟩
/-- a hall behind a taking; who took is done with it -/
theorem take_done {h : LHall} {nm : ByteArray} {now : Int} (hf : hallFine 1000 h) (ht : ∀ q ∈ h.queues, ∀ i ∈ q.items, i.turn ≤ 900) (he : (htakeS h nm now).2.2 = 0) :
    (hallFine 1000 (htakeS h nm now).1 ∧ (htakeS h nm now).1.queues.length = h.queues.length ∧ (htakeS h nm now).1.next = h.next) ∧ nm.size ≤ 8 ∧
    ∀ n, hallFine 1000 (hdoneS (htakeS h nm now).1 ⟨n, nm, (htakeS h nm now).2.1.id, (htakeS h nm now).2.1.turn⟩).1 ∧
      (hdoneS (htakeS h nm now).1 ⟨n, nm, (htakeS h nm now).2.1.id, (htakeS h nm now).2.1.turn⟩).1.queues.length = h.queues.length ∧
      (hdoneS (htakeS h nm now).1 ⟨n, nm, (htakeS h nm now).2.1.id, (htakeS h nm now).2.1.turn⟩).1.next = h.next ∧
      (hdoneS (htakeS h nm now).1 ⟨n, nm, (htakeS h nm now).2.1.id, (htakeS h nm now).2.1.turn⟩).2 = ([⟨4, nm, 0, (htakeS h nm now).2.1.id, note0⟩], 0) := by
  by_cases h1 : findS h.queues (nmL nm) < 0
  · unfold htakeS at he; rw [if_pos h1] at he; exact absurd he (by decide)
  by_cases h2 : (takeS (qAt h (findS h.queues (nmL nm)).toNat) now).2.2 ≠ 0
  · unfold htakeS at he; rw [if_neg h1, if_pos h2] at he; exact absurd he (by decide)
  have hs := found_size hf h1
  have hk := find_lt h1
  have hH : htakeS h nm now = (setQ h (findS h.queues (nmL nm)).toNat (takeS (qAt h (findS h.queues (nmL nm)).toNat) now).1, (takeS (qAt h (findS h.queues (nmL nm)).toNat) now).2.1, 0) := by
    unfold htakeS
    rw [if_neg h1, if_neg h2]
  rw [hH]
  clear hH he
  simp only
  generalize hkk : (findS h.queues (nmL nm)).toNat = k at *
  have hq := fine_get hf hk
  have hqt : ∀ i ∈ (qAt h k).items, i.turn ≤ 900 := ht _ (getD_mem (d := queue0) hk)
  obtain ⟨l, next⟩ := h
  have hqe : l.getD k queue0 = qAt ⟨l, next⟩ k := rfl
  simp only at hk h1 hkk
  generalize qAt ⟨l, next⟩ k = q at *
  by_cases h3 : placeS notOut q.items 0 < 0
  · exfalso
    unfold takeS at h2
    rw [if_pos h3] at h2
    exact h2 (by decide)
  have hT : takeS q now = ({ q with items := q.items.set (placeS notOut q.items 0).toNat (takeI now (q.items.getD (placeS notOut q.items 0).toNat item0)) }, takeI now (q.items.getD (placeS notOut q.items 0).toNat item0), 0) := by
    unfold takeS
    rw [if_neg h3]
  rw [hT]
  clear hT h2
  obtain ⟨j, hj, ej, hpj⟩ := placeS_found h3
  rw [ej, Int.toNat_natCast]
  clear ej h3
  have hmem := getD_mem (d := item0) hj
  have hi := hq.2.2.2 _ hmem
  have hi9 := hqt _ hmem
  generalize hit : q.items.getD j item0 = it at *
  simp only
  generalize hq' : ({ q with items := q.items.set j (takeI now it) } : LQueue) = q'
  have hn' : q'.name = (l.getD k queue0).name := by rw [hqe, ← hq']
  have hfq' : queueFine 1000 q' := by
    rw [← hq']
    refine ⟨hq.1, hq.2.1, by simpa using hq.2.2.1, fun i hm => ?_⟩
    rcases List.mem_or_eq_of_mem_set hm with hm | hm
    · exact hq.2.2.2 i hm
    · rw [hm]
      refine ⟨hi.1, ?_, hi.2.2⟩
      have := hi.2.1
      simp only [takeI]
      omega
  have hgj : q'.items.getD j item0 = takeI now it := by
    rw [← hq']
    simp only
    rw [getD_set hj, if_pos rfl]
  have hlj : j < q'.items.length := by rw [← hq']; simpa using hj
  have hfs : hallFine 1000 (setQ ⟨l, next⟩ k q') := fine_set (next := next) hf hk hn' hfq'
  refine ⟨⟨hfs, by simp [setQ], rfl⟩, hs, fun n => ?_⟩
  have hfe : findS (setQ ⟨l, next⟩ k q').queues (nmL nm) = findS l (nmL nm) := findS_set hn'
  have hqq : qAt (setQ ⟨l, next⟩ k q') k = q' := by
    show (l.set k q').getD k queue0 = q'
    rw [getD_set hk, if_pos rfl]
  have hpl := placeS_some (p := isIt (takeI now it).id (takeI now it).turn) (s := 0) (by decide) hlj (by rw [hgj]; simp [isIt, takeI])
  have hD : doneS q' (takeI now it).id (takeI now it).turn = ({ q' with items := q'.items.eraseIdx (placeS (isIt (takeI now it).id (takeI now it).turn) q'.items 0).toNat }, 0) := by
    unfold doneS
    rw [if_neg hpl]
  have hlt : (placeS (isIt (takeI now it).id (takeI now it).turn) q'.items 0).toNat < q'.items.length := by
    obtain ⟨m, hm, em, _⟩ := placeS_found hpl
    rw [em]
    exact hm
  have hX : hdoneS (setQ ⟨l, next⟩ k q') ⟨n, nm, (takeI now it).id, (takeI now it).turn⟩ = (setQ (setQ ⟨l, next⟩ k q') k { q' with items := q'.items.eraseIdx (placeS (isIt (takeI now it).id (takeI now it).turn) q'.items 0).toNat }, [⟨4, nm, 0, (takeI now it).id, note0⟩], 0) := by
    unfold hdoneS
    simp only
    rw [hfe, hkk, hqq, hD, if_neg h1, if_neg (by simp)]
  rw [hX]
  refine ⟨?_, by simp [setQ], rfl, rfl⟩
  have := fine_gone hfq' hlt
  have hset : (l.set k q').getD k queue0 = q' := hqq
  exact fine_set (l := l.set k q') (next := next) hfs (by simpa using hk) (by rw [hset]) this
theorem findT_end {l : List LTag} {t : LTag} (h : ∀ u ∈ l, u.n < t.n) : findT (l ++ [t]) t.n = (l.length : Int) := by
  unfold findT
  rw [placeG_hit (d := tag0) (k := l.length) (by simp) (fun j hj => ?_) (by simp [tagged])]
  · omega
  · have : (l ++ [t]).getD j tag0 = l.getD j tag0 := by rw [List.getD_eq_getElem?_getD, List.getElem?_append_left hj, ← List.getD_eq_getElem?_getD]
    rw [this]
    have := h _ (getD_mem (d := tag0) hj)
    unfold tagged
    rw [beq_eq_false_iff_ne]
    omega
theorem findT_none {l : List LTag} {n : Int} (h : ∀ u ∈ l, u.n < n) : findT l n = -1 := by
  unfold findT
  refine placeG_miss (d := tag0) fun j hj => ?_
  have := h _ (getD_mem (d := tag0) hj)
  unfold tagged
  rw [beq_eq_false_iff_ne]
  omega
def askTake (nm : ByteArray) : LAsk := ⟨5, nm, 0, note0⟩
def askDone (n : Int) : LAsk := ⟨7, ⟨#[]⟩, n, note0⟩
theorem do_take {w : LW} {nm : ByteArray} {now : Int} (hr : (doS w (askTake nm) now).2.2 = false) (hk : (doS w (askTake nm) now).2.1.kind = 2) :
    (htakeS w.h nm now).2.2 = 0 ∧ w.s.tags.length < 4 ∧ doS w (askTake nm) now = (⟨(htakeS w.h nm now).1, w.l, ⟨w.s.tags ++ [⟨w.s.next + 1, nm, (htakeS w.h nm now).2.1.id, (htakeS w.h nm now).2.1.turn⟩], w.s.next + 1⟩⟩,
    ⟨2, w.s.next + 1, (htakeS w.h nm now).2.1.tries, 0, (htakeS w.h nm now).2.1.note⟩, false) := by
  unfold doS at *
  by_cases h0 : wrongAskS (askTake nm) ≠ 0
  · rw [if_pos h0] at hk; exact absurd hk (by simp [faultS])
  rw [if_neg h0] at *
  simp only [askTake] at *
  simp only [show ¬ ((5 : Int) = 2) by decide, show ¬ ((5 : Int) = 3) by decide, show ¬ ((5 : Int) = 4) by decide, show ¬ ((5 : Int) = 9) by decide, show ¬ ((5 : Int) = 6) by decide, if_false, true_or, if_true] at *
  unfold stakeS at *
  by_cases h1 : 4 ≤ w.s.tags.length
  · exfalso; simp [h1, faultS] at hk
  rw [if_neg h1] at *
  by_cases h2 : (htakeS w.h nm now).2.2 = 9
  · exfalso; simp [h2, sayNone] at hk
  rw [if_neg h2] at *
  by_cases h3 : (htakeS w.h nm now).2.2 ≠ 0
  · exfalso; simp [h3, h2, faultS] at hk
  rw [if_neg h3] at *
  refine ⟨by simpa using h3, by omega, ?_⟩
  simp
theorem wrong_done {n : Int} (h : 1 ≤ n ∧ n ≤ 1073741824) : wrongAskS (askDone n) = 0 := by
  unfold wrongAskS
  rw [if_neg (show ¬ ((askDone n).kind < 1 ∨ 9 < (askDone n).kind) from by simp [askDone]), if_neg (by simp [askDone, namedS, ByteArray.size]), if_neg (by simp [askDone, lowS, highS]; omega), if_neg (by simp [askDone, note0])]
  rfl
theorem do_done {w : LW} {n now : Int} (h : 1 ≤ n ∧ n ≤ 1073741824) : doS w (askDone n) now = ((stagS w n false).1, (stagS w n false).2, false) := by
  unfold doS
  rw [if_neg (by rw [wrong_done h]; simp)]
  simp [askDone]
theorem write_one {e : LEntry} (h : EntN e) : (writeS [] 0 [e]).2 = 0 ∧ 0 < (writeS [] 0 [e]).1.bytes.length ∧ (writeS [] 0 [e]).1.bytes.length ≤ 6000 := by
  obtain ⟨q1, q2, q3⟩ := h
  have hl := entryB_len (e := e) (a := 8) (b := 134) q2 (bytes_right q3)
  have h2 : (writeS [] 0 [e]) = (⟨frameS (entryB e), 0⟩, 0) := by
    unfold writeS appendS
    rw [if_neg (by simp; omega), if_neg (by simp [frameS_length]; omega)]
    simp
  rw [h2]
  refine ⟨rfl, ?_, ?_⟩ <;> simp only [frameS_length] <;> omega
theorem tags_law {w : LW} {nm : ByteArray} {now : Int} (hf : hallFine 1000 w.h) (hl4 : w.h.queues.length ≤ 4) (hx : 0 ≤ w.h.next ∧ w.h.next ≤ 1000000) (hb : w.l = ⟨[], 0⟩) (hn : 0 ≤ w.s.next ∧ w.s.next < 1000000) (hnow : 0 ≤ now ∧ now ≤ 1000) (h9 : ∀ q ∈ w.h.queues, ∀ i ∈ q.items, i.turn ≤ 900) (htag : ∀ t ∈ w.s.tags, t.n ≤ w.s.next)
    (hr : (doS w (askTake nm) now).2.2 = false) (hk : (doS w (askTake nm) now).2.1.kind = 2) :
    (doS w (askTake nm) now).2.1.n = w.s.next + 1 ∧ (doS w (askTake nm) now).1.s.tags.length = w.s.tags.length + 1 ∧ DoOk (doS w (askTake nm) now).1 (askDone (w.s.next + 1)) now ∧
    ∃ w2, doS (doS w (askTake nm) now).1 (askDone (w.s.next + 1)) now = (w2, sayOk, false) ∧ 0 < w2.l.bytes.length ∧ DoOk w2 (askDone (w.s.next + 1)) now ∧ doS w2 (askDone (w.s.next + 1)) now = (w2, faultS 6, false) := by
  obtain ⟨he, ht, hd⟩ := do_take hr hk
  obtain ⟨⟨t1, t2, t3⟩, t4, t5⟩ := take_done hf h9 he
  have hfit : (askDone (w.s.next + 1)).Fits := ⟨by show (⟨#[]⟩ : ByteArray).size ≤ 1048576; decide, fits_zero⟩
  rw [hd]
  clear hd hr hk
  obtain ⟨t6, t7, t8, t9⟩ := t5 (w.s.next + 1)
  simp only
  refine ⟨trivial, by simp, doOk_fine t1 (by simp only; omega) (by simp only; omega) (by simp [hb]) (by simp; omega) (by simp only; omega) hfit ⟨by omega, by omega⟩, ?_⟩
  generalize (htakeS w.h nm now).1 = g at *
  generalize (htakeS w.h nm now).2.1.id = id at *
  generalize (htakeS w.h nm now).2.1.turn = turn at *
  have hn1 : 1 ≤ w.s.next + 1 ∧ w.s.next + 1 ≤ 1073741824 := by omega
  have hft := findT_end (l := w.s.tags) (t := ⟨w.s.next + 1, nm, id, turn⟩) fun u hu => by have := htag u hu; simp only; omega
  simp only at hft
  obtain ⟨w1, w2, w3⟩ := write_one (e := ⟨4, nm, 0, id, note0⟩) ⟨by simp, t4, rfl⟩
  have hS : stagS ⟨g, w.l, ⟨w.s.tags ++ [⟨w.s.next + 1, nm, id, turn⟩], w.s.next + 1⟩⟩ (w.s.next + 1) false = (⟨(hdoneS g ⟨w.s.next + 1, nm, id, turn⟩).1, (writeS [] 0 [⟨4, nm, 0, id, note0⟩]).1, ⟨w.s.tags, w.s.next + 1⟩⟩, sayOk) := by
    have hK : keepS ⟨g, w.l, ⟨w.s.tags ++ [⟨w.s.next + 1, nm, id, turn⟩], w.s.next + 1⟩⟩ (hdoneS g ⟨w.s.next + 1, nm, id, turn⟩) = (⟨(hdoneS g ⟨w.s.next + 1, nm, id, turn⟩).1, (writeS [] 0 [⟨4, nm, 0, id, note0⟩]).1, ⟨w.s.tags ++ [⟨w.s.next + 1, nm, id, turn⟩], w.s.next + 1⟩⟩, sayOk) := by
      unfold keepS
      rw [t9, hb]
      simp only
      rw [if_neg (by simp), if_neg (by rw [w1]; simp)]
    unfold stagS
    simp only
    rw [hft, if_neg (by omega), Int.toNat_natCast]
    have hg : (w.s.tags ++ [(⟨w.s.next + 1, nm, id, turn⟩ : LTag)]).getD w.s.tags.length tag0 = ⟨w.s.next + 1, nm, id, turn⟩ := by simp
    rw [hg]
    simp only [Bool.false_eq_true, if_false]
    rw [hK]
    rw [if_pos (by simp [sayOk])]
    simp [List.eraseIdx_append_of_length_le]
  rw [do_done hn1, hS]
  refine ⟨_, rfl, w2, doOk_fine t6 (by simp only; omega) (by simp only; omega) (by simp only; omega) (by simp only; omega) (by simp only; omega) hfit ⟨by omega, by omega⟩, ?_⟩
  rw [do_done hn1]
  unfold stagS
  have := findT_none (l := w.s.tags) (n := w.s.next + 1) fun u hu => by have := htag u hu; omega
  simp only
  rw [this]
  simp
end Go.Proofs.Ythbejciebmkclaa.Ab
namespace Go.Proofs.Ythbejciebmkclaa.Ab
open Go Go.RowKit
set_option linter.unusedVariables false
set_option linter.unusedSimpArgs false

def nakedA (a : LAsk) : AV := .agg [.int .i64 a.kind, .str a.queue.data.toList, .int .i64 a.n, .nils, .nils]
def askedE (x : LW × LAsk × Int × Bool) : List AV :=
  match x.2.2.2 with
  | true => [hallA x.1.h, .agg [.nils, .int .i64 x.1.l.sure], sessA x.1.s, nakedA x.2.1, .int .i64 x.2.2.1]
  | false => [hallA x.1.h, llogA x.1.l, sessA x.1.s, nakedA x.2.1, .int .i64 x.2.2.1]
def askedOk (x : LW × LAsk × Int × Bool) : Prop := x.2.1.note = note0 ∧ (x.2.2.2 = true → x.1.l.bytes = []) ∧ DoOk x.1 x.2.1 x.2.2.1
theorem naked_inj {a b : LAsk} (ha : a.note = note0) (hb : b.note = note0) (h : nakedA a = nakedA b) : a = b := by
  obtain ⟨k, q, n, m⟩ := a
  obtain ⟨k', q', n', m'⟩ := b
  simp only at ha hb
  subst ha hb
  simp only [nakedA, AV.agg.injEq, List.cons.injEq, AV.int.injEq, AV.str.injEq, true_and, and_true] at h
  rw [h.1, bytes_ext h.2.1, h.2.2]
def eDoF : Ent Try.prog D := ⟨65, LW × LAsk × Int × Bool, askedE, askedOk, fun x => ⟨doV (doS x.1 x.2.1 x.2.2.1), []⟩, fun x y hx hy h => by
  obtain ⟨⟨a, ⟨b, c⟩, d⟩, e, f, g⟩ := x
  obtain ⟨⟨a', ⟨b', c'⟩, d'⟩, e', f', g'⟩ := y
  obtain ⟨h1, h2, _⟩ := hx
  obtain ⟨k1, k2, _⟩ := hy
  simp only at h1 h2 k1 k2
  cases g <;> cases g' <;> simp only [askedE, llogA, logCs, List.cons.injEq, AV.agg.injEq, AV.int.injEq, AV.sl.injEq, reduceCtorEq, true_and, and_true, false_and, and_false] at h
  · obtain ⟨q1, ⟨q2, rfl⟩, q3, q4, rfl⟩ := h
    rw [hallA_inj q1, bytes_inj q2, sessA_inj q3, naked_inj h1 k1 q4]
  · obtain ⟨q1, rfl, q3, q4, rfl⟩ := h
    rw [hallA_inj q1, h2 rfl, k2 rfl, sessA_inj q3, naked_inj h1 k1 q4], fun x h => by
  obtain ⟨⟨a, ⟨b, c⟩, d⟩, ⟨k, q, n, m⟩, f, g⟩ := x
  obtain ⟨h1, h2, h3⟩ := h
  simp only at h1 h2 h3
  subst h1
  cases g
  · exact (con_do _ _ _ h3).weak (by simp [askedE, nakedA, note0, askA, hallA, llogA, logCs, sessA, sessCs, covs, cov])
  · have := h2 rfl
    subst this
    exact (con_do _ _ _ h3).weak (by simp [askedE, nakedA, note0, askA, hallA, llogA, logCs, sessA, sessCs, covs, cov])⟩
def eWright0 : Ent Try.prog D := ⟨63, LHall × LSess, fun x => [hallA x.1, .agg [.nils, .int .i64 0], sessA x.2], fun x => x.1.Fits, fun x => ⟨.bool (decide (WR ⟨x.1, ⟨[], 0⟩, x.2⟩)), []⟩, fun x y _ _ h => by
  obtain ⟨a, b⟩ := x
  obtain ⟨a', b'⟩ := y
  simp only [List.cons.injEq, true_and, and_true] at h
  rw [hallA_inj h.1, sessA_inj h.2], fun x h => (con_wright ⟨x.1, ⟨[], 0⟩, x.2⟩ h).weak (by simp [hallA, llogA, logCs, sessA, sessCs, covs, cov])⟩
theorem tag_mem {l : List LTag} {n : Int} (h : ∀ j, j < l.length → (l.getD j tag0).n ≤ n) : ∀ t ∈ l, t.n ≤ n := fun t ht => by
  obtain ⟨j, hj, rfl⟩ := List.getElem_of_mem ht
  have := h j hj
  simpa [hj] using this
theorem queue_mem {l : List LQueue} {P : LQueue → Prop} (h : ∀ j, j < l.length → P (l.getD j queue0)) : ∀ t ∈ l, P t := fun t ht => by
  obtain ⟨j, hj, rfl⟩ := List.getElem_of_mem ht
  have := h j hj
  simpa [hj] using this
theorem item_mem {l : List LItem} {P : LItem → Prop} (h : ∀ j, j < l.length → P (l.getD j item0)) : ∀ t ∈ l, P t := fun t ht => by
  obtain ⟨j, hj, rfl⟩ := List.getElem_of_mem ht
  have := h j hj
  simpa [hj] using this
set_option maxRecDepth 100000 in
set_option maxHeartbeats 4000000 in
theorem con_sessiontags (h : LHall) (s : LSess) (nm : ByteArray) (now : Int) (hh : h.Fits) (ht : s.tags.length ≤ 1048576) (hnm : nm.size ≤ 1048576) :
    Con Try.prog D 11 [hallA h, sessA s, .str nm.data.toList, .int .i64 now] ⟨.bool true, []⟩ := by
  by_cases hg : WR ⟨h, ⟨[], 0⟩, s⟩ ∧ 0 ≤ now ∧ now ≤ 1000
  · obtain ⟨hwr, hnow⟩ := hg
    have hW : WRight ⟨h, ⟨[], 0⟩, s⟩ := ⟨hwr.1, by simp, ht, hwr.2.2.2⟩
    have hdo := hW.doOk (a := askTake nm) ⟨hnm, fits_zero⟩ (now := now) ⟨by omega, by omega⟩
    have hf := hallOk_fine hwr.1
    have hlaw := tags_law (w := ⟨h, ⟨[], 0⟩, s⟩) (nm := nm) (now := now) hf.1 hf.2.1 ⟨hf.2.2.1, hf.2.2.2⟩ rfl hwr.2.2.2 hnow
    have d1 : decide (now < 0) = false := decide_eq_false (by omega)
    have d2 : decide (now > 1000) = false := decide_eq_false (by omega)
    have hok : GOk Try.prog D (tabG [eAlive6, eWright0, eDoF]) := tabG_ok _
    have g0 := tabG_use (T := [eAlive6, eWright0, eDoF]) (E := eAlive6) (i := 0) rfl (by decide) (()) (trivial)
    have g5 := tabG_use (T := [eAlive6, eWright0, eDoF]) (E := eWright0) (i := 1) rfl (by decide) ((h, s)) (hh)
    have g6 := tabG_use (T := [eAlive6, eWright0, eDoF]) (E := eDoF) (i := 2) rfl (by decide) ((⟨h, ⟨[], 0⟩, s⟩, askTake nm, now, true)) (⟨rfl, fun _ => rfl, hdo⟩)
    have g7 := fun (v : LW) (hv : DoOk v (askDone (s.next + 1)) now) => tabG_use (T := [eAlive6, eWright0, eDoF]) (E := eDoF) (i := 2) rfl (by decide) ((v, askDone (s.next + 1), now, false)) (⟨rfl, fun hc => (by cases hc), hv⟩)
    generalize tabG [eAlive6, eWright0, eDoF] = G at *
    dsimp only [eAlive6] at g0
    dsimp only [eWright0] at g5
    dsimp only [eDoF] at g6
    dsimp only [eDoF] at g7
    rw [decide_eq_true hwr] at g5
    generalize doS ⟨h, ⟨[], 0⟩, s⟩ (askTake nm) now = R at *
    obtain ⟨⟨⟨rq, rn⟩, ⟨rb, rs⟩, ⟨rt, rx⟩⟩, ⟨s1, s2, s3, s4, ⟨s5, s6⟩⟩, rw⟩ := R
    clear hdo hW hwr hf
    obtain ⟨q, qn⟩ := h
    obtain ⟨ts, tn⟩ := s
    generalize hnl : nm.data.toList = nl at *
    simp only [hallA, llogA, logCs, sessA, sessCs, nakedA, askedE, sayA, doV, askTake, hnl] at g0 g5 g6
    simp only at g7 hlaw ht
    have hql : q.length ≤ 1048576 := hh.1
    have hqf := fun i hi => queue_fits (i := i) hh hi
    refine conW (G := G) (rs := [(8, none)]) hok Try.func11 Try.results11 Try.ntmps11 (fun _ => {}) fun X hP hD hG' hX => ?_
    simp only [argS, num, hallA, sessA, sessCs]
    simp (disch := omega) only [go_sem, Nat.reduceLeDiff, reduceCtorEq, Nat.reduceAdd, Nat.reduceSub, Nat.reduceMul, Nat.reduceLT, Nat.reduceEqDiff, Int.reduceEq, Int.reduceLE, Int.reduceLT, Int.reducePow, Int.reduceMul, Int.reduceToNat, Int.reduceNeg, ↓reduceIte, hD, hG', wrap64, g0, g5, unbox, tmv, Option.some.injEq, exists_eq_left']
    refine RegT.mk [] ?_
    simp (disch := omega) only [go_sem, Nat.reduceLeDiff, reduceCtorEq, Nat.reduceAdd, Nat.reduceSub, Nat.reduceMul, Nat.reduceLT, Nat.reduceEqDiff, Int.reduceEq, Int.reduceLE, Int.reduceLT, Int.reducePow, Int.reduceMul, Int.reduceToNat, Int.reduceNeg, ↓reduceIte, hD, hG', wrap64, g5, d1, d2, unbox, tmv, Option.some.injEq, exists_eq_left']
    refine Tr.loop (ι := Nat) (fun i => i ≤ ts.length ∧ ∀ j, j < i → (ts.getD j tag0).n ≤ tn) (fun i => { nt := 161, tm := [(2, .str nl), (3, .int .i64 now), (4, .ptr 4 0), (5, .ptr 5 0), (44, .sl 4 (ts.map tagRow)), (45, .int .i64 ts.length), (46, .int .i64 i)], bl := [(4, some (.cells [.sl 3 (q.map queueRow), .int .i64 qn])), (5, some (.cells [.sl 4 (ts.map tagRow), .int .i64 tn]))] }) (fun i => ts.length - i) 0
      ⟨⟨Nat.zero_le _, fun j hj => absurd hj (Nat.not_lt_zero j)⟩, wk_of hD [(4, 4), (5, 5)] rfl rfl (by simp only [go_sem, Nat.reduceEqDiff]; simp) (by simp only [go_sem, Nat.reduceEqDiff])⟩ ?_
    rintro i ⟨hi, htag⟩
    refine evC_sound hX (fun _ => {}) _ _ _ ?_
    simp (disch := omega) only [go_sem, Nat.reduceLeDiff, reduceCtorEq, Nat.reduceAdd, Nat.reduceSub, Nat.reduceMul, Nat.reduceLT, Nat.reduceEqDiff, Int.reduceEq, Int.reduceLE, Int.reduceLT, Int.reducePow, Int.reduceMul, Int.reduceToNat, Int.reduceNeg, ↓reduceIte, hD, hG', wrap64, unbox, tmv, Option.some.injEq, exists_eq_left']
    refine condK_split (fun h => ?_) (fun h => ?_)
    · rw [decide_eq_true_eq] at h
      have hi1 : i < ts.length := by omega
      have hgx := tagGet hi1
      generalize hx : ts.getD i tag0 = x at *
      obtain ⟨x1, x2, x3, x4⟩ := x
      simp only [tagRow] at hgx
      simp (disch := omega) only [go_sem, Nat.reduceLeDiff, reduceCtorEq, Nat.reduceAdd, Nat.reduceSub, Nat.reduceMul, Nat.reduceLT, Nat.reduceEqDiff, Int.reduceEq, Int.reduceLE, Int.reduceLT, Int.reducePow, Int.reduceMul, Int.reduceToNat, Int.reduceNeg, ↓reduceIte, hD, hG', wrap64, hgx, unbox, tmv, Option.some.injEq, exists_eq_left']
      refine ⟨by omega, condK_split (fun h => ?_) (fun h => ?_)⟩
      · simp (disch := omega) only [go_sem, Nat.reduceLeDiff, reduceCtorEq, Nat.reduceAdd, Nat.reduceSub, Nat.reduceMul, Nat.reduceLT, Nat.reduceEqDiff, Int.reduceEq, Int.reduceLE, Int.reduceLT, Int.reducePow, Int.reduceMul, Int.reduceToNat, Int.reduceNeg, ↓reduceIte, hD, hG', wrap64, unbox, tmv, Option.some.injEq, exists_eq_left']
        refine endW [] [] (by simp) rfl rfl rfl ?_ ?_ <;> simp only [go_sem, Nat.reduceEqDiff]
      · rw [decide_eq_false_iff_not] at h
        simp (disch := omega) only [go_sem, Nat.reduceLeDiff, reduceCtorEq, Nat.reduceAdd, Nat.reduceSub, Nat.reduceMul, Nat.reduceLT, Nat.reduceEqDiff, Int.reduceEq, Int.reduceLE, Int.reduceLT, Int.reducePow, Int.reduceMul, Int.reduceToNat, Int.reduceNeg, ↓reduceIte, hD, hG', wrap64, unbox, tmv, Option.some.injEq, exists_eq_left']
        refine ⟨i + 1, ⟨⟨by omega, fun j hj => ?_⟩, by omega⟩, wk_of hD [(4, 4), (5, 5)] rfl rfl ?_ ?_⟩
        · by_cases hji : j = i
          · rw [hji, hx]; simp only; omega
          · exact htag j (by omega)
        all_goals simp only [go_sem, Nat.reduceEqDiff]
        all_goals simp
    rw [decide_eq_false_iff_not] at h
    have hie : i = ts.length := by omega
    subst hie
    clear h hi
    have htag := tag_mem htag
    simp (disch := omega) only [go_sem, Nat.reduceLeDiff, reduceCtorEq, Nat.reduceAdd, Nat.reduceSub, Nat.reduceMul, Nat.reduceLT, Nat.reduceEqDiff, Int.reduceEq, Int.reduceLE, Int.reduceLT, Int.reducePow, Int.reduceMul, Int.reduceToNat, Int.reduceNeg, ↓reduceIte, hD, hG', wrap64, unbox, tmv, Option.some.injEq, exists_eq_left']
    refine Tr.loop (ι := Nat) (fun k => k ≤ q.length ∧ ∀ j, j < k → ∀ i ∈ (q.getD j queue0).items, i.turn ≤ 900) (fun k => { nt := 161, tm := [(2, .str nl), (3, .int .i64 now), (4, .ptr 4 0), (5, .ptr 5 0), (57, .sl 3 (q.map queueRow)), (58, .int .i64 q.length), (59, .int .i64 k)], bl := [(4, some (.cells [.sl 3 (q.map queueRow), .int .i64 qn])), (5, some (.cells [.sl 4 (ts.map tagRow), .int .i64 tn]))] }) (fun k => q.length - k) 0
      ⟨⟨Nat.zero_le _, fun j hj => absurd hj (Nat.not_lt_zero j)⟩, wk_of hD [(4, 4), (5, 5)] rfl rfl (by simp only [go_sem, Nat.reduceEqDiff]; simp) (by simp only [go_sem, Nat.reduceEqDiff])⟩ ?_
    rintro k ⟨hk, hturn⟩
    refine evC_sound hX (fun _ => {}) _ _ _ ?_
    simp (disch := omega) only [go_sem, Nat.reduceLeDiff, reduceCtorEq, Nat.reduceAdd, Nat.reduceSub, Nat.reduceMul, Nat.reduceLT, Nat.reduceEqDiff, Int.reduceEq, Int.reduceLE, Int.reduceLT, Int.reducePow, Int.reduceMul, Int.reduceToNat, Int.reduceNeg, ↓reduceIte, hD, hG', wrap64, unbox, tmv, Option.some.injEq, exists_eq_left']
    refine condK_split (fun h => ?_) (fun h => ?_)
    · rw [decide_eq_true_eq] at h
      have hk1 : k < q.length := by omega
      have hgx := queueGet hk1
      have hxf := (hqf k hk1).1.1
      generalize hx : q.getD k queue0 = x at *
      obtain ⟨xn, xl, xi⟩ := x
      simp only [queueRow] at hgx
      simp only at hxf
      simp (disch := omega) only [go_sem, Nat.reduceLeDiff, reduceCtorEq, Nat.reduceAdd, Nat.reduceSub, Nat.reduceMul, Nat.reduceLT, Nat.reduceEqDiff, Int.reduceEq, Int.reduceLE, Int.reduceLT, Int.reducePow, Int.reduceMul, Int.reduceToNat, Int.reduceNeg, ↓reduceIte, hD, hG', wrap64, hgx, unbox, tmv, Option.some.injEq, exists_eq_left']
      refine ⟨by omega, ?_⟩
      refine Tr.loop (ι := Nat) (fun m => m ≤ xi.length ∧ ∀ j, j < m → (xi.getD j item0).turn ≤ 900) (fun m => { nt := 161, tm := [(2, .str nl), (3, .int .i64 now), (4, .ptr 4 0), (5, .ptr 5 0), (57, .sl 3 (q.map queueRow)), (58, .int .i64 q.length), (59, .int .i64 k), (64, .sl 7 (xi.map itemRow)), (65, .int .i64 xi.length), (66, .int .i64 m)], bl := [(4, some (.cells [.sl 3 (q.map queueRow), .int .i64 qn])), (5, some (.cells [.sl 4 (ts.map tagRow), .int .i64 tn]))] }) (fun m => xi.length - m) 0
        ⟨⟨Nat.zero_le _, fun j hj => absurd hj (Nat.not_lt_zero j)⟩, wk_of hD [(4, 4), (5, 5)] rfl rfl (by simp only [go_sem, Nat.reduceEqDiff]; simp) (by simp only [go_sem, Nat.reduceEqDiff])⟩ ?_
      rintro m ⟨hm, hit⟩
      refine evC_sound hX (fun _ => {}) _ _ _ ?_
      simp (disch := omega) only [go_sem, Nat.reduceLeDiff, reduceCtorEq, Nat.reduceAdd, Nat.reduceSub, Nat.reduceMul, Nat.reduceLT, Nat.reduceEqDiff, Int.reduceEq, Int.reduceLE, Int.reduceLT, Int.reducePow, Int.reduceMul, Int.reduceToNat, Int.reduceNeg, ↓reduceIte, hD, hG', wrap64, unbox, tmv, Option.some.injEq, exists_eq_left']
      refine condK_split (fun h => ?_) (fun h => ?_)
      · rw [decide_eq_true_eq] at h
        have hm1 : m < xi.length := by omega
        have hgx := itemGet hm1
        generalize hy : xi.getD m item0 = y at *
        obtain ⟨a1, a2, a3, a4, a5, ⟨xp, xb⟩⟩ := y
        simp only [itemRow] at hgx
        simp (disch := omega) only [go_sem, Nat.reduceLeDiff, reduceCtorEq, Nat.reduceAdd, Nat.reduceSub, Nat.reduceMul, Nat.reduceLT, Nat.reduceEqDiff, Int.reduceEq, Int.reduceLE, Int.reduceLT, Int.reducePow, Int.reduceMul, Int.reduceToNat, Int.reduceNeg, ↓reduceIte, hD, hG', wrap64, hgx, unbox, tmv, Option.some.injEq, exists_eq_left']
        refine ⟨by omega, RegT.mk [] ?_⟩
        simp (disch := omega) only [go_sem, Nat.reduceLeDiff, reduceCtorEq, Nat.reduceAdd, Nat.reduceSub, Nat.reduceMul, Nat.reduceLT, Nat.reduceEqDiff, Int.reduceEq, Int.reduceLE, Int.reduceLT, Int.reducePow, Int.reduceMul, Int.reduceToNat, Int.reduceNeg, ↓reduceIte, hD, hG', wrap64, hgx, unbox, tmv, Option.some.injEq, exists_eq_left']
        and_intros
        all_goals (try (first | (intro hk; refine ⟨hk, fun h2 => ?_⟩; first | (rw [hk, h2]; rfl) | (rw [hk, decide_eq_false h2]; rfl)) | (intro hk; rw [decide_eq_false hk]; rfl) | (intro hk; rw [hk]; rfl)))
        refine condK_split (fun h => ?_) (fun h => ?_)
        · simp (disch := omega) only [go_sem, Nat.reduceLeDiff, reduceCtorEq, Nat.reduceAdd, Nat.reduceSub, Nat.reduceMul, Nat.reduceLT, Nat.reduceEqDiff, Int.reduceEq, Int.reduceLE, Int.reduceLT, Int.reducePow, Int.reduceMul, Int.reduceToNat, Int.reduceNeg, ↓reduceIte, hD, hG', wrap64, unbox, tmv, Option.some.injEq, exists_eq_left']
          refine endW [] [] (by simp) rfl rfl rfl ?_ ?_ <;> simp only [go_sem, Nat.reduceEqDiff]
        · have h9 : a2 ≤ 900 := by
            clear g5 g6 g7 hlaw
            simp at h
            omega
          simp (disch := omega) only [go_sem, Nat.reduceLeDiff, reduceCtorEq, Nat.reduceAdd, Nat.reduceSub, Nat.reduceMul, Nat.reduceLT, Nat.reduceEqDiff, Int.reduceEq, Int.reduceLE, Int.reduceLT, Int.reducePow, Int.reduceMul, Int.reduceToNat, Int.reduceNeg, ↓reduceIte, hD, hG', wrap64, unbox, tmv, Option.some.injEq, exists_eq_left']
          refine ⟨m + 1, ⟨⟨by omega, fun j hj => ?_⟩, by omega⟩, wk_of hD [(4, 4), (5, 5)] rfl rfl ?_ ?_⟩
          · by_cases hjm : j = m
            · rw [hjm, hy]; exact h9
            · exact hit j (by omega)
          all_goals simp only [go_sem, Nat.reduceEqDiff]
          all_goals simp
      · rw [decide_eq_false_iff_not] at h
        have hme : m = xi.length := by omega
        subst hme
        simp (disch := omega) only [go_sem, Nat.reduceLeDiff, reduceCtorEq, Nat.reduceAdd, Nat.reduceSub, Nat.reduceMul, Nat.reduceLT, Nat.reduceEqDiff, Int.reduceEq, Int.reduceLE, Int.reduceLT, Int.reducePow, Int.reduceMul, Int.reduceToNat, Int.reduceNeg, ↓reduceIte, hD, hG', wrap64, unbox, tmv, Option.some.injEq, exists_eq_left']
        refine ⟨k + 1, ⟨⟨by omega, fun j hj => ?_⟩, by omega⟩, wk_of hD [(4, 4), (5, 5)] rfl rfl ?_ ?_⟩
        · by_cases hjk : j = k
          · rw [hjk, hx]; exact item_mem (P := fun i => i.turn ≤ 900) hit
          · exact hturn j (by omega)
        all_goals simp only [go_sem, Nat.reduceEqDiff]
        all_goals simp
    rw [decide_eq_false_iff_not] at h
    have hke : k = q.length := by omega
    subst hke
    clear h hk
    have hturn := queue_mem (P := fun q => ∀ i ∈ q.items, i.turn ≤ 900) hturn
    have hlaw := hlaw hturn htag
    clear htag hturn
    cases rw
    · simp only [Bool.false_eq_true, if_false] at g6
      by_cases k2 : s1 = 2
      · obtain ⟨e1, e2, e3, ⟨⟨wq, wn⟩, ⟨wb, ws⟩, ⟨wt, wx⟩⟩, e4, e5, e6, e7⟩ := hlaw rfl k2
        subst e1
        have g8 := g7 _ e3
        have g9 := g7 _ e6
        rw [e4] at g8
        rw [e7] at g9
        simp only [askedE, nakedA, askDone, doV, sayOk, faultS, hallA, llogA, logCs, sessA, sessCs, sayA, note0, Bool.false_eq_true, if_false] at g8 g9
        have f1 : (s1 != 2) = false := by simp [k2]
        have f2 : decide (tn + 1 ≤ tn) = false := decide_eq_false (by omega)
        have f3 : ((rt.length : Int) != (ts.length : Int) + 1) = false := by simp at e2 ⊢; omega
        have f4 : decide ((wb.length : Int) > 0) = true := decide_eq_true (by simp at e5; omega)
        clear g7 e3 e4 e5 e6 e7 hlaw
        simp (disch := omega) only [go_sem, Nat.reduceLeDiff, reduceCtorEq, Nat.reduceAdd, Nat.reduceSub, Nat.reduceMul, Nat.reduceLT, Nat.reduceEqDiff, Int.reduceEq, Int.reduceLE, Int.reduceLT, Int.reducePow, Int.reduceMul, Int.reduceToNat, Int.reduceNeg, ↓reduceIte, hD, hG', wrap64, g6, unbox, tmv, Option.some.injEq, exists_eq_left']
        refine RegT.mk [] ?_
        simp (disch := omega) only [go_sem, Nat.reduceLeDiff, reduceCtorEq, Nat.reduceAdd, Nat.reduceSub, Nat.reduceMul, Nat.reduceLT, Nat.reduceEqDiff, Int.reduceEq, Int.reduceLE, Int.reduceLT, Int.reducePow, Int.reduceMul, Int.reduceToNat, Int.reduceNeg, ↓reduceIte, hD, hG', wrap64, g6, f1, unbox, tmv, Option.some.injEq, exists_eq_left']
        refine RegT.mk [] ?_
        simp (disch := omega) only [go_sem, Nat.reduceLeDiff, reduceCtorEq, Nat.reduceAdd, Nat.reduceSub, Nat.reduceMul, Nat.reduceLT, Nat.reduceEqDiff, Int.reduceEq, Int.reduceLE, Int.reduceLT, Int.reducePow, Int.reduceMul, Int.reduceToNat, Int.reduceNeg, ↓reduceIte, hD, hG', wrap64, f2, f3, g8, unbox, tmv, Option.some.injEq, exists_eq_left']
        simp (disch := omega) only [go_sem, Nat.reduceLeDiff, reduceCtorEq, Nat.reduceAdd, Nat.reduceSub, Nat.reduceMul, Nat.reduceLT, Nat.reduceEqDiff, Int.reduceEq, Int.reduceLE, Int.reduceLT, Int.reducePow, Int.reduceMul, Int.reduceToNat, Int.reduceNeg, ↓reduceIte, hD, hG', wrap64, g9, unbox, tmv, Option.some.injEq, exists_eq_left']
        refine RegT.mk [] ?_
        simp (disch := omega) only [go_sem, Nat.reduceLeDiff, reduceCtorEq, Nat.reduceAdd, Nat.reduceSub, Nat.reduceMul, Nat.reduceLT, Nat.reduceEqDiff, Int.reduceEq, Int.reduceLE, Int.reduceLT, Int.reducePow, Int.reduceMul, Int.reduceToNat, Int.reduceNeg, ↓reduceIte, hD, hG', wrap64, f4, unbox, tmv, Option.some.injEq, exists_eq_left']
        (repeat (with_reducible refine And.intro (by first | omega | decide | (simp; done) | (simp only [List.length_append, List.length_cons, List.length_nil, List.length_map]; omega)) ?_))
        refine endW [] [] (by simp) rfl rfl rfl ?_ ?_ <;> simp only [go_sem, Nat.reduceEqDiff]
      · have f1 : (s1 != 2) = true := by simp [k2]
        clear g7 hlaw
        simp (disch := omega) only [go_sem, Nat.reduceLeDiff, reduceCtorEq, Nat.reduceAdd, Nat.reduceSub, Nat.reduceMul, Nat.reduceLT, Nat.reduceEqDiff, Int.reduceEq, Int.reduceLE, Int.reduceLT, Int.reducePow, Int.reduceMul, Int.reduceToNat, Int.reduceNeg, ↓reduceIte, hD, hG', wrap64, g6, unbox, tmv, Option.some.injEq, exists_eq_left']
        refine RegT.mk [] ?_
        simp (disch := omega) only [go_sem, Nat.reduceLeDiff, reduceCtorEq, Nat.reduceAdd, Nat.reduceSub, Nat.reduceMul, Nat.reduceLT, Nat.reduceEqDiff, Int.reduceEq, Int.reduceLE, Int.reduceLT, Int.reducePow, Int.reduceMul, Int.reduceToNat, Int.reduceNeg, ↓reduceIte, hD, hG', wrap64, f1, unbox, tmv, Option.some.injEq, exists_eq_left']
        refine endW [] [] (by simp) rfl rfl rfl ?_ ?_ <;> simp only [go_sem, Nat.reduceEqDiff]
    · simp only [if_true] at g6
      clear g7 hlaw
      simp (disch := omega) only [go_sem, Nat.reduceLeDiff, reduceCtorEq, Nat.reduceAdd, Nat.reduceSub, Nat.reduceMul, Nat.reduceLT, Nat.reduceEqDiff, Int.reduceEq, Int.reduceLE, Int.reduceLT, Int.reducePow, Int.reduceMul, Int.reduceToNat, Int.reduceNeg, ↓reduceIte, hD, hG', wrap64, g6, unbox, tmv, Option.some.injEq, exists_eq_left']
      have z1 : ((9 : Int) != 0) = true := by decide
      refine RegT.mk [(2, true)] ?_
      simp (disch := omega) only [go_sem, Nat.reduceLeDiff, reduceCtorEq, Nat.reduceAdd, Nat.reduceSub, Nat.reduceMul, Nat.reduceLT, Nat.reduceEqDiff, Int.reduceEq, Int.reduceLE, Int.reduceLT, Int.reducePow, Int.reduceMul, Int.reduceToNat, Int.reduceNeg, ↓reduceIte, hD, hG', wrap64, z1, unbox, tmv, Option.some.injEq, exists_eq_left']
      refine endW [] [] (by simp) rfl rfl rfl ?_ ?_ <;> simp only [go_sem, Nat.reduceEqDiff]
  · skip
    have hok : GOk Try.prog D (tabG [eAlive6, eWright0]) := tabG_ok _
    have g0 := tabG_use (T := [eAlive6, eWright0]) (E := eAlive6) (i := 0) rfl (by decide) (()) (trivial)
    have g5 := tabG_use (T := [eAlive6, eWright0]) (E := eWright0) (i := 1) rfl (by decide) ((h, s)) (hh)
    generalize tabG [eAlive6, eWright0] = G at *
    dsimp only [eAlive6] at g0
    dsimp only [eWright0] at g5
    obtain ⟨q, qn⟩ := h
    obtain ⟨ts, tn⟩ := s
    simp only [hallA, sessA, sessCs] at g5
    refine conW (G := G) (rs := [(8, none)]) hok Try.func11 Try.results11 Try.ntmps11 (fun _ => {}) fun X hP hD hG' hX => ?_
    simp only [argS, num, hallA, sessA, sessCs]
    simp (disch := omega) only [go_sem, Nat.reduceLeDiff, reduceCtorEq, Nat.reduceAdd, Nat.reduceSub, Nat.reduceMul, Nat.reduceLT, Nat.reduceEqDiff, Int.reduceEq, Int.reduceLE, Int.reduceLT, Int.reducePow, Int.reduceMul, Int.reduceToNat, Int.reduceNeg, ↓reduceIte, hD, hG', wrap64, g0, unbox, tmv, Option.some.injEq, exists_eq_left']
    by_cases hwr : WR ⟨⟨q, qn⟩, ⟨[], 0⟩, ⟨ts, tn⟩⟩
    · rw [decide_eq_true hwr] at g5
      have hbad : ¬ (0 ≤ now ∧ now ≤ 1000) := fun h => hg ⟨hwr, h⟩
      clear hg hwr
      refine RegT.mk [] ?_
      simp (disch := omega) only [go_sem, Nat.reduceLeDiff, reduceCtorEq, Nat.reduceAdd, Nat.reduceSub, Nat.reduceMul, Nat.reduceLT, Nat.reduceEqDiff, Int.reduceEq, Int.reduceLE, Int.reduceLT, Int.reducePow, Int.reduceMul, Int.reduceToNat, Int.reduceNeg, ↓reduceIte, hD, hG', wrap64, g5, unbox, tmv, Option.some.injEq, exists_eq_left']
      and_intros
      all_goals (try (first | (intro hk; refine ⟨hk, fun h2 => ?_⟩; first | (rw [hk, h2]; rfl) | (rw [hk, decide_eq_false h2]; rfl)) | (intro hk; rw [decide_eq_false hk]; rfl) | (intro hk; rw [hk]; rfl)))
      refine condK_split (fun h => ?_) (fun h => ?_)
      · simp (disch := omega) only [go_sem, Nat.reduceLeDiff, reduceCtorEq, Nat.reduceAdd, Nat.reduceSub, Nat.reduceMul, Nat.reduceLT, Nat.reduceEqDiff, Int.reduceEq, Int.reduceLE, Int.reduceLT, Int.reducePow, Int.reduceMul, Int.reduceToNat, Int.reduceNeg, ↓reduceIte, hD, hG', wrap64, unbox, tmv, Option.some.injEq, exists_eq_left']
        refine endW [] [] (by simp) rfl rfl rfl ?_ ?_ <;> simp only [go_sem, Nat.reduceEqDiff]
      · exfalso
        clear g5
        simp at h
        omega
    · rw [decide_eq_false hwr] at g5
      clear hg hwr
      refine RegT.mk [(5, false), (9, false)] ?_
      simp (disch := omega) only [go_sem, Nat.reduceLeDiff, reduceCtorEq, Nat.reduceAdd, Nat.reduceSub, Nat.reduceMul, Nat.reduceLT, Nat.reduceEqDiff, Int.reduceEq, Int.reduceLE, Int.reduceLT, Int.reducePow, Int.reduceMul, Int.reduceToNat, Int.reduceNeg, ↓reduceIte, hD, hG', wrap64, g5, unbox, tmv, Option.some.injEq, exists_eq_left']
      refine endW [] [] (by simp) rfl rfl rfl ?_ ?_ <;> simp only [go_sem, Nat.reduceEqDiff]
end Go.Proofs.Ythbejciebmkclaa.Ab
namespace Go.Proofs.Ythbejciebmkclaa.Ab
open Go Go.RowKit
set_option linter.unusedVariables false
set_option linter.unusedSimpArgs false

theorem shp_sess {m : Nat} {B : Nat} {us : List AV} (h : Shp D B (m + 7) 79 us) : ∃ s : LSess, AV.agg us = sessA s ∧ s.tags.length ≤ B := by
  have h := shp_struct (fs := [(0, 77), (1, 3)]) (by simp only [D_1, D_2, D_3, D_4, D_5, D_6, D_7, D_8, D_9, D_10, D_11, D_12, D_13, D_14, D_15, D_16, D_17, D_18, D_19, D_21, D_22, D_23, D_24, D_25, D_26, D_27, D_28, D_29, D_30, D_31, D_32, D_33, D_35, D_36, D_37, D_38, D_39, D_40, D_41, D_42, D_43, D_45, D_46, D_47, D_48, D_49, D_50, D_51, D_52, D_53, D_55, D_56, D_57, D_58, D_60, D_61, D_62, D_63, D_64, D_65, D_67, D_68, D_69, D_70, D_71, D_72, D_73, D_74, D_75, D_76, D_77, D_78, D_79, D_80, D_81, D_82, D_83, D_84, D_85, D_86, D_87, D_88, D_89, D_91, D_93, D_94, D_95, D_97, D_98, D_99, D_101, D_103, D_104, D_105, D_106, D_108, D_109, D_110, D_111, D_113, D_114, D_115, D_116, D_117, D_118, D_119, D_120, D_121, D_122, D_124, D_125, D_127, D_128, D_130, D_132, D_133, D_134, D_135, D_136, D_138, D_139, D_141, D_143, D_144, D_145, D_147, D_148, D_149, D_150, D_151, D_153, D_154, D_155, D_156, D_157, D_158, D_159, D_160, D_161, D_162, D_163, D_164, D_165, D_166, D_167, D_168, D_169, D_170, D_171, D_172, D_173, D_174, D_178, D_179, D_180, D_181, D_182, D_183, D_184, D_185, D_186]) h
  simp only [ShpF] at h
  obtain ⟨_, _, rfl, h1, _, _, rfl, h2, rfl⟩ := h
  obtain ⟨rs, rfl, hl, hr⟩ := shp_slice (e := 50) (by simp only [D_1, D_2, D_3, D_4, D_5, D_6, D_7, D_8, D_9, D_10, D_11, D_12, D_13, D_14, D_15, D_16, D_17, D_18, D_19, D_21, D_22, D_23, D_24, D_25, D_26, D_27, D_28, D_29, D_30, D_31, D_32, D_33, D_35, D_36, D_37, D_38, D_39, D_40, D_41, D_42, D_43, D_45, D_46, D_47, D_48, D_49, D_50, D_51, D_52, D_53, D_55, D_56, D_57, D_58, D_60, D_61, D_62, D_63, D_64, D_65, D_67, D_68, D_69, D_70, D_71, D_72, D_73, D_74, D_75, D_76, D_77, D_78, D_79, D_80, D_81, D_82, D_83, D_84, D_85, D_86, D_87, D_88, D_89, D_91, D_93, D_94, D_95, D_97, D_98, D_99, D_101, D_103, D_104, D_105, D_106, D_108, D_109, D_110, D_111, D_113, D_114, D_115, D_116, D_117, D_118, D_119, D_120, D_121, D_122, D_124, D_125, D_127, D_128, D_130, D_132, D_133, D_134, D_135, D_136, D_138, D_139, D_141, D_143, D_144, D_145, D_147, D_148, D_149, D_150, D_151, D_153, D_154, D_155, D_156, D_157, D_158, D_159, D_160, D_161, D_162, D_163, D_164, D_165, D_166, D_167, D_168, D_169, D_170, D_171, D_172, D_173, D_174, D_178, D_179, D_180, D_181, D_182, D_183, D_184, D_185, D_186]) h1
  obtain ⟨l, rfl, h4⟩ := shp_rows (f := tagRow) (Q := fun _ => True) fun row hrow => by
    obtain ⟨q, h1, _, _⟩ := shp_tag (hr row hrow)
    exact ⟨q, h1, trivial⟩
  obtain ⟨n, rfl, _⟩ := shp_i64 (t := 3) rfl h2
  refine ⟨⟨l, n⟩, ?_, by simpa using hl⟩
  simp only [sessA, sessCs, D_1, D_2, D_3, D_4, D_5, D_6, D_7, D_8, D_9, D_10, D_11, D_12, D_13, D_14, D_15, D_16, D_17, D_18, D_19, D_21, D_22, D_23, D_24, D_25, D_26, D_27, D_28, D_29, D_30, D_31, D_32, D_33, D_35, D_36, D_37, D_38, D_39, D_40, D_41, D_42, D_43, D_45, D_46, D_47, D_48, D_49, D_50, D_51, D_52, D_53, D_55, D_56, D_57, D_58, D_60, D_61, D_62, D_63, D_64, D_65, D_67, D_68, D_69, D_70, D_71, D_72, D_73, D_74, D_75, D_76, D_77, D_78, D_79, D_80, D_81, D_82, D_83, D_84, D_85, D_86, D_87, D_88, D_89, D_91, D_93, D_94, D_95, D_97, D_98, D_99, D_101, D_103, D_104, D_105, D_106, D_108, D_109, D_110, D_111, D_113, D_114, D_115, D_116, D_117, D_118, D_119, D_120, D_121, D_122, D_124, D_125, D_127, D_128, D_130, D_132, D_133, D_134, D_135, D_136, D_138, D_139, D_141, D_143, D_144, D_145, D_147, D_148, D_149, D_150, D_151, D_153, D_154, D_155, D_156, D_157, D_158, D_159, D_160, D_161, D_162, D_163, D_164, D_165, D_166, D_167, D_168, D_169, D_170, D_171, D_172, D_173, D_174, D_178, D_179, D_180, D_181, D_182, D_183, D_184, D_185, D_186]; rfl
end Go.Proofs.Ythbejciebmkclaa.Ab
