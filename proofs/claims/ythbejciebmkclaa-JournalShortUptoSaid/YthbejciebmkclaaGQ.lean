/-
  Texts of the proof, one behind the other: QuS QuD QuF QuG KlA QuH ClA QuP QuR.
  No condition but those that each theorem names.
-/
import Derived.Test.YthbejciebmkclaaGD
import Derived.Test.YthbejciebmkclaaGC
import Derived.Deep.RegionLaw
import Derived.Lib.SliceRun
namespace Go.Proofs.Ythbejciebmkclaa.Ab
open Go Go.RowKit
set_option linter.unusedVariables false
set_option linter.unusedSimpArgs false

structure LItem where
  id : Int
  turn : Int
  tries : Int
  out : Bool
  due : Int
  note : LNote
structure LQueue where
  name : ByteArray
  limit : Int
  items : List LItem
instance : DecidableEq LItem := fun a b => decidable_of_iff (a.id = b.id ∧ a.turn = b.turn ∧ a.tries = b.tries ∧ a.out = b.out ∧ a.due = b.due ∧ a.note = b.note) (by cases a; cases b; simp)
instance : DecidableEq LQueue := fun a b => decidable_of_iff (a.name = b.name ∧ a.limit = b.limit ∧ a.items = b.items) (by cases a; cases b; simp)
def item0 : LItem := ⟨0, 0, 0, false, 0, note0⟩
def queue0 : LQueue := ⟨⟨#[]⟩, 0, []⟩
def itemRow (i : LItem) : List AV := [.int .i64 i.id, .int .i64 i.turn, .int .i64 i.tries, .bool i.out, .int .i64 i.due, .sl 4 (i.note.props.map propRow), .sl 1 (i.note.body.map byteRow)]
def itemA (i : LItem) : AV := .agg (itemRow i)
def queueA (q : LQueue) : AV := .agg [.str q.name.data.toList, .int .i64 q.limit, .sl 7 (q.items.map itemRow)]
def LQueue.Fits (q : LQueue) : Prop := q.items.length ≤ 1048576 ∧ ∀ i ∈ q.items, i.note.Fits
theorem itemGet {l : List LItem} {i : Nat} (h : i < l.length) : (l.map itemRow).getD i [] = itemRow (l.getD i item0) := by
  simp [h]
theorem itemRow_inj {a b : LItem} (h : itemRow a = itemRow b) : a = b := by
  obtain ⟨i, t, r, o, d, ⟨p, y⟩⟩ := a
  obtain ⟨i', t', r', o', d', ⟨p', y'⟩⟩ := b
  simp only [itemRow, List.cons.injEq, AV.int.injEq, AV.bool.injEq, AV.sl.injEq, true_and, and_true] at h
  obtain ⟨rfl, rfl, rfl, rfl, rfl, h4, h5⟩ := h
  rw [props_inj h4, bytes_inj h5]
theorem items_inj {a b : List LItem} (h : a.map itemRow = b.map itemRow) : a = b := (List.map_inj_right (fun _ _ h => itemRow_inj h)).1 h
theorem queueA_inj {a b : LQueue} (h : queueA a = queueA b) : a = b := by
  obtain ⟨n, l, i⟩ := a
  obtain ⟨n', l', i'⟩ := b
  simp only [queueA, AV.agg.injEq, List.cons.injEq, AV.int.injEq, AV.str.injEq, AV.sl.injEq, true_and, and_true] at h
  obtain ⟨h1, rfl, h3⟩ := h
  rw [bytes_ext h1, items_inj h3]
theorem item_fits {q : LQueue} (h : q.Fits) {i : Nat} (hi : i < q.items.length) : (q.items.getD i item0).note.Fits := by
  have : q.items.getD i item0 = q.items[i] := by simp [hi]
  rw [this]
  exact h.2 _ (List.getElem_mem hi)
theorem take_item {l : List LItem} {i : Nat} (h : i < l.length) : l.take (i + 1) = l.take i ++ [l.getD i item0] := by
  rw [List.take_succ_eq_append_getElem h]
  simp [h]
set_option maxRecDepth 100000 in
theorem con_ownq (q : LQueue) (hq : q.Fits) : Con Try.prog D 93 [queueA q] ⟨.agg [.str q.name.data.toList, .int .i64 q.limit, .os 0], [(65, 7, q.items.map itemRow)]⟩ := by
  have hok : GOk Try.prog D (tabG [eOwn1]) := tabG_ok _
  have g1 : ∀ n : LNote, n.Fits → tabG [eOwn1] 82 [noteA n] = some ⟨noteA n, []⟩ := fun n h => tabG_at (E := eOwn1) (T := [eOwn1]) (i := 0) rfl (by decide) n h rfl rfl
  have hl := hq.1
  generalize tabG [eOwn1] = G at *
  refine con_of (G := G) (rs := [(2, some 71)]) mixed tok hok Try.func93 rfl (by decide) Try.results93 (by decide) rfl Try.ntmps93 (by simp) (by simp [queueA, namess, names]) fun X hP hD hG' hX => evC_sound hX (fun _ => {}) _ _ _ ?_
  simp only [argS, num, queueA]
  simp (disch := omega) only [go_sem, Nat.reduceLeDiff, reduceCtorEq, Nat.reduceAdd, Nat.reduceSub, Nat.reduceMul, Nat.reduceLT, Nat.reduceEqDiff, Int.reduceEq, Int.reduceLE, Int.reduceLT, Int.reducePow, Int.reduceMul, Int.reduceToNat, Int.reduceNeg, ↓reduceIte, hD, hG', wrap64]
  refine Tr.loop (ι := Nat) (fun i => i ≤ q.items.length) (fun i => { nt := 30, tm := [(2, .ptr 2 0), (3, .ptr 3 0), (12, .sl 7 (q.items.map itemRow)), (13, .int .i64 q.items.length), (14, .int .i64 i)], bl := [(2, some (.cells [.str [], .int .i64 0, .nils])), (3, some (.cells [.str q.name.data.toList, .int .i64 q.limit, .os 5000])), (5000, some (.rows 65 7 ((q.items.take i).map itemRow)))] }) (fun i => q.items.length - i) 0
    ⟨Nat.zero_le _, wk_of hD [(2, 2), (3, 3)] rfl rfl (by simp only [go_sem, Nat.reduceEqDiff]; simp) (by simp only [go_sem, Nat.reduceEqDiff, D_3, D_4, D_5, D_9, D_25, D_26, D_28, D_65, D_69, D_71, D_110]; simp)⟩ ?_
  intro i hi
  refine evC_sound hX (fun _ => {}) _ _ _ ?_
  simp (disch := omega) only [go_sem, Nat.reduceLeDiff, reduceCtorEq, Nat.reduceAdd, Nat.reduceSub, Nat.reduceMul, Nat.reduceLT, Nat.reduceEqDiff, Int.reduceEq, Int.reduceLE, Int.reduceLT, Int.reducePow, Int.reduceMul, Int.reduceToNat, Int.reduceNeg, ↓reduceIte, hD, hG', wrap64]
  refine condK_split (fun h => ?_) (fun h => ?_)
  · rw [decide_eq_true_eq] at h
    have hi1 : i < q.items.length := by omega
    have hti := take_item hi1
    have hfi := item_fits hq hi1
    have hg := g1 _ hfi
    have hgx := itemGet hi1
    generalize q.items.getD i item0 = x at *
    obtain ⟨a1, a2, a3, a4, a5, ⟨xp, xb⟩⟩ := x
    simp only [noteA] at hg
    simp only [itemRow] at hgx
    have htl : (q.items.take i).length ≤ q.items.length := by rw [List.length_take]; omega
    simp (disch := omega) only [go_sem, Nat.reduceLeDiff, reduceCtorEq, Nat.reduceAdd, Nat.reduceSub, Nat.reduceMul, Nat.reduceLT, Nat.reduceEqDiff, Int.reduceEq, Int.reduceLE, Int.reduceLT, Int.reducePow, Int.reduceMul, Int.reduceToNat, Int.reduceNeg, ↓reduceIte, hD, hG', wrap64, hgx, hg]
    ((try and_intros); all_goals (try first | omega | decide | (simp; done) | (simp only [List.length_append, List.length_cons, List.length_nil, List.length_map]; omega)))
    refine ⟨i + 1, ⟨by omega, by omega⟩, wk_of hD [(2, 2), (3, 3), (5000, 26)] rfl rfl ?_ ?_⟩ <;> simp only [go_sem, Nat.reduceEqDiff, D_3, D_4, D_5, D_9, D_25, D_26, D_28, D_65, D_69, D_71, D_110]
    · simp
    · simp [hti, itemRow]
  · rw [decide_eq_false_iff_not] at h
    have hie : i = q.items.length := by omega
    subst hie
    rw [List.take_length] at *
    simp (disch := omega) only [go_sem, Nat.reduceLeDiff, reduceCtorEq, Nat.reduceAdd, Nat.reduceSub, Nat.reduceMul, Nat.reduceLT, Nat.reduceEqDiff, Int.reduceEq, Int.reduceLE, Int.reduceLT, Int.reducePow, Int.reduceMul, Int.reduceToNat, Int.reduceNeg, ↓reduceIte, hD, hG', wrap64, unbox, tmv, Option.some.injEq, exists_eq_left']
    refine ⟨[], [(0, 5000)], rfl, rfl, ?_, ?_⟩ <;> simp only [go_sem, Nat.reduceEqDiff, D_3, D_4, D_5, D_9, D_25, D_26, D_28, D_65, D_69, D_71, D_110]
    all_goals rfl
end Go.Proofs.Ythbejciebmkclaa.Ab
namespace Go.Proofs.Ythbejciebmkclaa.Ab
open Go Go.RowKit
set_option linter.unusedVariables false
set_option linter.unusedSimpArgs false

def putL (cs : Array Value) : Nat → List Value → Array Value
  | _, [] => cs
  | o, v :: r => putL (cs.setIfInBounds o v) (o + 1) r
theorem putL_size : ∀ (vs : List Value) (cs : Array Value) (o : Nat), (putL cs o vs).size = cs.size
  | [], _, _ => rfl
  | v :: r, cs, o => by rw [putL, putL_size r]; simp
theorem putL_get : ∀ (vs : List Value) (cs : Array Value) (o j : Nat), o + vs.length ≤ cs.size → (putL cs o vs)[j]? = if o ≤ j ∧ j < o + vs.length then vs[j - o]? else cs[j]?
  | [], cs, o, j, _ => by simp only [putL, List.length_nil]; rw [if_neg (by omega)]
  | v :: r, cs, o, j, h => by
    simp only [List.length_cons] at h ⊢
    rw [putL, putL_get r _ _ _ (by simp; omega)]
    by_cases h1 : o + 1 ≤ j ∧ j < o + 1 + r.length
    · rw [if_pos h1, if_pos (by omega), show j - o = (j - (o + 1)) + 1 by omega]
      rfl
    · rw [if_neg h1]
      by_cases h2 : j = o
      · subst h2
        rw [if_pos (by omega), Nat.sub_self]
        simp [show j < cs.size by omega]
      · rw [if_neg (by omega)]
        simp [Array.getElem?_setIfInBounds, Ne.symm h2]
theorem blk_setCells {t : TypeId} : ∀ (vs : List Value) {w : World} {g : Nat} {cs : Array Value} (o : Nat), Go.Proofs.Ythbejciebmkclaa.Blk w g t cs → Go.Proofs.Ythbejciebmkclaa.Blk (w.setCells g o vs) g t (putL cs o vs)
  | [], _, _, _, _, h => h
  | v :: r, _, _, _, o, h => blk_setCells r (o + 1) (h.set_ o v)
theorem grown_setCells {w : World} {g : Nat} : ∀ (vs : List Value) {w1 : World} (o : Nat), w.grownBy w1 (some g) → w.grownBy (w1.setCells g o vs) (some g)
  | [], _, _, h => h
  | v :: r, w1, o, h => by
    refine grown_setCells r (o + 1) ⟨h.os, h.tape, h.output, ?_, fun b hb hne => ?_⟩
    · have := h.size
      simpa [World.setCell] using this
    · rw [Below.heap_setCell w1 ⟨g, o, none⟩ v b (by intro e; exact hne (by rw [e]))]
      exact h.block b hb hne
/-- clear of one element -/
theorem run_clear_one {P : Program} (w : World) (t e ty : TypeId) (z : Value) (zs : List Value) (ht : P.underlying t = some (.slice e)) (hv : ∀ w, (zeroValue e).run P w = .ok z w) (hz : (Builtin.zeroCells z.cells 1).toList = zs) (h1 : ∀ v ∈ zs, v.oneCell' = true) (g o c : Nat)
    (hc : ∀ j, j < zs.length → (w.cell? ⟨g, o + j, none⟩).isSome = true) (hf : ∀ j, j < zs.length → w.frozen? ⟨g, o + j, none⟩ = false) :
    (Builtin.clear_ #[t] ty #[.slice (some ⟨g, o, none⟩) 1 c]).run P w = .ok (.tuple #[]) (w.setCells g o zs) := by
  have hst := run_storeCells_cells (P := P) g o zs 0 w (by simpa using hc) (by simpa using hf) h1
  simp only [Nat.add_zero] at hst
  simp [Builtin.clear_, run_underlying ht, hv, hz, hst]
end Go.Proofs.Ythbejciebmkclaa.Ab
namespace Go.Proofs.Ythbejciebmkclaa.Ab
open Go Go.RowKit
set_option linter.unusedVariables false
set_option linter.unusedSimpArgs false

end Go.Proofs.Ythbejciebmkclaa.Ab
namespace Go.Proofs.Ythbejciebmkclaa.Ab
open Go Go.RowKit
set_option linter.unusedVariables false
set_option linter.unusedSimpArgs false

theorem erase_map {α β : Type} (f : α → β) : ∀ (l : List α) (k : Nat), (l.map f).eraseIdx k = (l.eraseIdx k).map f
  | [], _ => rfl
  | a :: r, 0 => rfl
  | a :: r, k + 1 => by simp [erase_map f r k]
def eOwnq : Ent Try.prog D := ⟨93, LQueue, fun q => [queueA q], LQueue.Fits, fun q => ⟨.agg [.str q.name.data.toList, .int .i64 q.limit, .os 0], [(65, 7, q.items.map itemRow)]⟩, fun x y _ _ h => by
  simp only [List.cons.injEq, and_true] at h
  rw [queueA_inj h], con_ownq⟩
def LQueue.Ok (q : LQueue) : Prop := q.Fits ∧ ∀ i ∈ q.items, (-1000000 ≤ i.turn ∧ i.turn ≤ 1000000) ∧ -1000000 ≤ i.tries ∧ i.tries ≤ 1000000
end Go.Proofs.Ythbejciebmkclaa.Ab
namespace Go.Proofs.Ythbejciebmkclaa.Ab
open Go
set_option linter.unusedVariables false
set_option linter.unusedSimpArgs false

section
variable {D : Nat → TI} {S N0 : Nat → Prop} {B : Nat} {w0 : W0} {ρ : Env} {σ : AS} {a : Act} {w : World}
end
/-- two tables of effects -/
def elseM (M1 M2 : MCtr) : MCtr := fun dn f args bl => match M1 dn f args bl with
  | some e => some e
  | none => M2 dn f args bl
theorem elseM_at {M1 M2 : MCtr} {dn f : Nat} {args : List AV} {bl : Nat → Option Blk} : elseM M1 M2 dn f args bl = match M1 dn f args bl with
  | some e => some e
  | none => M2 dn f args bl := rfl
theorem mEff_else {M1 M2 : MCtr} {dn : Nat} {σ : AS} {o : Oper} {e : Eff} (h : mEff (elseM M1 M2) dn σ o = some e) : mEff M1 dn σ o = some e ∨ mEff M2 dn σ o = some e := by
  unfold mEff at *
  split at h
  · split at h
    · unfold callM at *
      split at h
      · unfold elseM at h
        split at h
        · rename_i q
          rw [q]
          exact .inl h
        · exact .inr h
      · cases h
    · cases h
  · cases h
theorem mok_else {P : Program} {D : Nat → TI} {G : Ctr} {M1 M2 : MCtr} (h1 : MOk P D G M1) (h2 : MOk P D G M2) : MOk P D G (elseM M1 M2) := by
  intro X hP hD hG hM hmx hT hok ops o σ e hgd he hpre hfr
  have hX : ∀ {M : MCtr}, InlOp { X with M := M } ops o σ (fun σ' => Eqv (apply σ o.dst e) σ') → InlOp X ops o σ (fun σ' => Eqv (apply σ o.dst e) σ') := fun ⟨q⟩ => ⟨q⟩
  rcases mEff_else he with he | he
  · exact hX (h1 { X with M := M1 } hP hD hG rfl hmx hT hok ops o σ e hgd he hpre hfr)
  · exact hX (h2 { X with M := M2 } hP hD hG rfl hmx hT hok ops o σ e hgd he hpre hfr)
end Go.Proofs.Ythbejciebmkclaa.Ab
namespace Go.Proofs.Ythbejciebmkclaa.Ab
open Go Go.RowKit
set_option linter.unusedVariables false
set_option linter.unusedSimpArgs false

end Go.Proofs.Ythbejciebmkclaa.Ab
namespace Go.Proofs.Ythbejciebmkclaa.Ab
open Go
set_option linter.unusedVariables false
set_option linter.unusedSimpArgs false

section
variable {X : Cx} {ops : Array Oper} {σ : AS}
/-- a region in the text's order; the operations cs are gone into by a law -/
def regI (X : Cx) (ops : Array Oper) (cs : List Nat) : Nat → List Oper → (AS → Prop) → AS → Prop
  | _, [], Q, σ => Q σ
  | k, o :: r, Q, σ => if mem k cs = true then InlOp X ops o σ (regI X ops cs (k + 1) r Q) else stepI (opEff X.D X.G X.M X.nb [] ops σ o) σ o.dst (InlOp X ops o σ (regI X ops cs (k + 1) r Q)) (regI X ops cs (k + 1) r Q)
theorem regI_nil {cs : List Nat} {k : Nat} {Q : AS → Prop} : regI X ops cs k [] Q σ = Q σ := rfl
theorem regI_cons {cs : List Nat} {k : Nat} {o : Oper} {r : List Oper} {Q : AS → Prop} : regI X ops cs k (o :: r) Q σ = if mem k cs = true then InlOp X ops o σ (regI X ops cs (k + 1) r Q) else stepI (opEff X.D X.G X.M X.nb [] ops σ o) σ o.dst (InlOp X ops o σ (regI X ops cs (k + 1) r Q)) (regI X ops cs (k + 1) r Q) := rfl
theorem regI_sound {γ : Nat → Value} {Qx : Exit → Act → World → Prop} {Q : AS → Prop} (hX : X.Ok) (cs : List Nat) (hfin : ∀ σ a w, Q σ → X.St γ σ a w → Qx .normal a w) :
    ∀ (r : List Oper) (k : Nat) (σ : AS) (a : Act) (w : World), (∀ j, r[j]? = ops[k + j]?) → X.St γ σ a w → regI X ops cs k r Q σ → wpOps X.P ops Qx (List.range' k r.length) a w
  | [], k, σ, a, w, _, hst, hr => by simpa [wpOps] using hfin σ a w hr hst
  | o :: r, k, σ, a, w, hl, hst, hr => by
    rw [List.length_cons, List.range'_succ, wpOps_cons]
    have ho : ops[k]? = some o := by have := hl 0; simpa using this.symm
    have hl' : ∀ j, r[j]? = ops[k + 1 + j]? := fun j => by
      have := hl (j + 1)
      simpa [Nat.add_assoc, Nat.add_comm 1 j] using this
    rw [regI_cons] at hr
    split at hr
    · exact wpOp_mono (fun a' w' ⟨σ', h4, h5⟩ => regI_sound hX cs hfin r (k + 1) σ' a' w' hl' h5 h4) (hr.1 γ a w k Qx ho hst)
    obtain ⟨ρ, hst0⟩ := hst
    cases he : opEff X.D X.G X.M X.nb [] ops σ o with
    | none =>
      rw [he] at hr
      have hr : InlOp X ops o σ (regI X ops cs (k + 1) r Q) := hr
      exact wpOp_mono (fun a' w' ⟨σ', h4, h5⟩ => regI_sound hX cs hfin r (k + 1) σ' a' w' hl' h5 h4) (hr.1 γ a w k Qx ho ⟨ρ, hst0⟩)
    | some e =>
      rw [he] at hr
      exact wpOp_mono (fun a' w' h5 => regI_sound hX cs hfin r (k + 1) _ a' w' hl' h5 hr.2) (op_sound hX.types hX.calls hst0 ho he hr.1.1 hr.1.2 fun hg hm => wpOp_mono (fun a' w' ⟨σ', e1, e2⟩ => e2.congr e1.symm) ((hX.mok ops _ σ e hg hm hr.1.2 hr.1.1).1 γ a w k Qx ho ⟨ρ, hst0⟩))
theorem Tr.inl (hX : X.Ok) {id : Nat} {Q : Exit → AS → Prop} (cs : List Nat) (h : regI X ops cs 0 ops.toList (Q .normal) σ) : Tr X (.region id ops false) Q σ := by
  intro γ a w hs
  refine wp_region ?_
  rw [List.range_eq_range', ← Array.length_toList]
  exact regI_sound hX cs (fun σ' a' w' h1 h2 => ⟨σ', h1, h2⟩) ops.toList 0 σ a w (fun j => by simp) hs h

/-- the end of a slice of our own, from an element on -/
theorem inl_tail {R : AS → Prop} {d T v l el e sz : Nat} {rs : List (List AV)} {x y : Operand} {ty : Nat} {pos : String} {af : Array Edge} (hT : TOk X.P X.D) (hk : (X.D T).k = .slice el) (hx : ev σ x = .os v) (hy : ev σ y = .int .i64 l)
    (hb : blk σ v = some (.rows e sz rs)) (hl : l < rs.length) (hsz : sz = (X.D el).n) (hd : d < σ.nt) (h : R { σ with tm := (d, .tsl v l) :: σ.tm }) : InlOp X ops ⟨some d, .slice T x (some y) none none, ty, pos, af, none⟩ σ R := by
  refine ⟨fun γ a w i Qx hi ⟨ρ, hs⟩ => ?_⟩
  obtain ⟨hu, hne, hpz⟩ := ty_slice hT hk
  have hvx := (hs.ev x).1
  have hvy := (hs.ev y).1
  rw [hx] at hvx
  rw [hy] at hvy
  have hvy := hvy.int_
  obtain ⟨g1, g2, g3, A, c, g4, g5, g6, g7⟩ := hs.hp.blk v _ hb
  rcases g7 with ⟨rfl, _⟩ | ⟨b, arr, g8, rfl, g10, g11, g14⟩
  · simp at hl
  have hvx' : a.eval x = .slice (some ⟨b, 0, none⟩) rs.length c := by
    rw [← g4]
    generalize a.eval x = u at hvx
    cases hvx
    rfl
  refine wpOp_plain hi rfl ?_
  have hex : execOp a.eval ⟨some d, .slice T x (some y) none none, ty, pos, af, none⟩ = (do pure (.value (← Instr.sliceAt T (a.eval x) (some (a.eval y)) none none))) := rfl
  have hrun := slice_run (P := X.P) (w := w) T el (some ⟨b, 0, none⟩) rs.length c l rs.length (X.D el).n (some (.int .i64 l)) none hu (ty_size hT hne w) (.inr ⟨_, rfl⟩) (.inl ⟨rfl, rfl⟩) (by omega) g5
  rw [if_neg (by omega)] at hrun
  refine wp_of_value hex (w' := w) (by rw [hvx', hvy]; exact hrun) ⟨_, h, ρ, hs.put hd ?_ (by simp [names, hb])⟩
  have hn : (ρ v).n = rs.length ∧ (ρ v).c = c := by
    unfold NI.sv at g4
    simp at g4
    exact ⟨g4.2.1, g4.2.2⟩
  have := Rel.tsl (w := w) (im := Im X.S X.N0 X.B w ρ σ) (ρ := ρ) v l b ((some (⟨b, 0, none⟩ : Addr)).map (·.add (l * (X.D el).n))) g8 (fun _ => by simp [Addr.add, g1, hsz]; exact fun h => h.symm)
  rw [hn.1, hn.2] at this
  exact this
theorem zeroCells_get {z : Array Value} {n i : Nat} (hz : 0 < z.size) (h : i < n * z.size) : (Builtin.zeroCells z n).toList[i]? = z[i % z.size]? := by
  have hm := Nat.mod_lt i hz
  simp [Builtin.zeroCells, h, hm]
/-- it is cleared -/
theorem inl_clear {R : AS → Prop} {T v l el sz : Nat} {rs : List (List AV)} {x : Operand} {ty : Nat} {pos : String} {af : Array Edge} (hT : TOk X.P X.D) (hk : (X.D T).k = .slice el) (hx : ev σ x = .tsl v l)
    (hb : blk σ v = some (.rows el sz rs)) (hl : l < rs.length) (h : R { σ with bl := (v, some (.rows el sz (rs.take l ++ List.replicate (rs.length - l) (X.D el).zero))) :: σ.bl }) : InlOp X ops ⟨none, .call ⟨.builtin .clear, #[x], #[T]⟩, ty, pos, af, none⟩ σ R := by
  refine ⟨fun γ a w i Qx hi ⟨ρ, hs⟩ => ?_⟩
  obtain ⟨hu, hne, hpz⟩ := ty_slice hT hk
  obtain ⟨inf, z, z1, z2, z3, z4, z5, z6⟩ := ty_info hT hne
  obtain ⟨y1, y2, y3⟩ := zeroB_ok z5
  have hzs : z.cells.size = (X.D el).n := by rw [← Array.length_toList, y1, z6]
  have hvx := (hs.ev x).1
  rw [hx] at hvx
  obtain ⟨g1, g2, g3, A, c, g4, g5, g6, g7⟩ := hs.hp.blk v _ hb
  rcases g7 with ⟨rfl, _⟩ | ⟨b, arr, g8, rfl, g10, g11, g14⟩
  · simp at hl
  have hn : (ρ v).n = rs.length ∧ (ρ v).c = c := by
    unfold NI.sv at g4
    simp at g4
    exact ⟨g4.2.1, g4.2.2⟩
  have hvx' : a.eval x = .slice (some ⟨b, l * sz, none⟩) (rs.length - l) (c - l) := by
    generalize a.eval x = u at hvx
    cases hvx with
    | tsl _ _ b' A' q1 q2 =>
      rw [g8] at q1
      cases q1
      rw [q2 (by omega), hn.1, hn.2, g1]
  have hzv : (zeroValue el).run X.P w = .ok z w := by
    simp [zeroValue, typeInfo, z1, z4]
  have hzl : (Builtin.zeroCells z.cells (rs.length - l)).toList.length = (rs.length - l) * sz := by simp [Builtin.zeroCells, hzs, g3]
  have hmul : l * sz + (rs.length - l) * sz = rs.length * sz := by rw [← Nat.add_mul]; congr 1; omega
  have hle : rs.length * sz ≤ c * sz := Nat.mul_le_mul_right _ g5
  have hst := run_storeCells_at X.P b (l * sz) el (Builtin.zeroCells z.cells (rs.length - l)).toList 0 arr w g10 (by rw [hzl]; omega) (fun u hu => by
    obtain ⟨k, hk⟩ := List.getElem?_of_mem hu
    have hlt := (List.getElem?_eq_some_iff.1 hk).1
    rw [hzl] at hlt
    rw [zeroCells_get (by rw [hzs]; exact hpz) (by rw [hzs, ← g3]; exact hlt)] at hk
    have hm : k % z.cells.size < (X.D el).zero.length := by rw [z6, ← hzs]; exact Nat.mod_lt _ (by rw [hzs]; exact hpz)
    exact (y3 _ _ u (List.getElem?_eq_getElem hm) (by simpa using hk)).1)
  simp only [Nat.add_zero, hzl] at hst
  refine wpOp_plain hi rfl ?_
  have hex : execOp a.eval ⟨none, .call ⟨.builtin .clear, #[x], #[T]⟩, ty, pos, af, none⟩ = (do pure (.value (← Builtin.clear_ #[T] ty #[a.eval x]))) := by
    have e : #[x].map a.eval = #[a.eval x] := by simp
    simp only [execOp, resolve, invoke, builtin, pure_bind, e]
  refine wp_of_value hex (v := .tuple #[]) (w' := w.setRow b (arr.toList.take (l * sz) ++ (Builtin.zeroCells z.cells (rs.length - l)).toList ++ arr.toList.drop (l * sz + (rs.length - l) * sz)).toArray) (by
    rw [hvx']
    generalize (arr.toList.take (l * sz) ++ (Builtin.zeroCells z.cells (rs.length - l)).toList ++ arr.toList.drop (l * sz + (rs.length - l) * sz)).toArray = arr' at hst
    obtain ⟨m, hm⟩ : ∃ m, rs.length - l = m + 1 := ⟨rs.length - l - 1, by omega⟩
    rw [hm] at hst ⊢
    simp [Builtin.clear_, run_underlying hu, hzv, hst]) ⟨_, h, ρ, ?_⟩
  refine (hs.upd (n := v) (b := b) (y := .rows el sz (rs.take l ++ List.replicate (rs.length - l) (X.D el).zero)) hb g8 (fun c hc => by exact hc) (fun hw im' him => ?_) (fun m hm => by cases hm)).1
  have hlen : (rs.take l ++ List.replicate (rs.length - l) (X.D el).zero).length = rs.length := by simp; omega
  refine ⟨g1, g2, g3, _, c, by rw [hlen]; exact g4, by rw [hlen]; exact g5, g6, .inr ⟨b, _, g8, rfl, setRow_heap w b arr _ el _ g10, by simp [hzl]; omega, fun i row hi => ?_⟩⟩
  have hget : ∀ k, (arr.toList.take (l * sz) ++ (Builtin.zeroCells z.cells (rs.length - l)).toList ++ arr.toList.drop (l * sz + (rs.length - l) * sz)).toArray[k]? = if l * sz ≤ k ∧ k < l * sz + (rs.length - l) * sz then (Builtin.zeroCells z.cells (rs.length - l)).toList[k - l * sz]? else arr[k]? := fun k => by
    have hq := valSplice_get (o := l * sz) (new := (Builtin.zeroCells z.cells (rs.length - l)).toList) (old := arr.toList) (by simp only [Array.length_toList] at hzl ⊢; omega) k
    rw [hzl] at hq
    rw [List.getElem?_toArray, hq]
    split
    · rfl
    · simp
  rw [List.getElem?_append] at hi
  split at hi
  · rename_i hil
    rw [List.getElem?_take] at hi
    rw [List.length_take] at hil
    have hil' : i < l := by omega
    rw [if_pos hil'] at hi
    obtain ⟨q1, q2⟩ := g14 i row hi
    refine ⟨q1, fun j u hj => ?_⟩
    obtain ⟨q3, q, q4, q5, q6⟩ := q2 j u hj
    have hjs : j < sz := by rw [← q1]; exact (List.getElem?_eq_some_iff.1 hj).1
    have : i * sz + sz ≤ l * sz := by rw [show i * sz + sz = (i + 1) * sz by rw [Nat.add_mul, Nat.one_mul]]; exact Nat.mul_le_mul_right _ hil'
    exact ⟨q3, q, by rw [hget, if_neg (by omega)]; exact q4, q5, q6.mono him hw fun _ _ => rfl⟩
  · rename_i hil
    rw [List.length_take] at hi hil
    have hil' : l ≤ i := by omega
    rw [List.getElem?_replicate] at hi
    split at hi
    case isFalse => cases hi
    rename_i hin
    cases hi
    rw [Nat.min_eq_left (by omega)] at hin
    refine ⟨by rw [z6, g3], fun j u hj => ?_⟩
    have hjs : j < sz := by rw [g3, ← z6]; exact (List.getElem?_eq_some_iff.1 hj).1
    have hjz : j < z.cells.toList.length := by rw [Array.length_toList, hzs, ← g3]; exact hjs
    obtain ⟨q1, q2⟩ := y3 j u _ hj (List.getElem?_eq_getElem hjz)
    have e1 : l * sz ≤ i * sz := Nat.mul_le_mul_right _ hil'
    have e2 : i * sz + sz ≤ l * sz + (rs.length - l) * sz := by
      rw [hmul, show i * sz + sz = (i + 1) * sz by rw [Nat.add_mul, Nat.one_mul]]
      exact Nat.mul_le_mul_right _ (by omega)
    refine ⟨List.eq_nil_iff_forall_not_mem.2 fun n hn => ?_, _, ?_, q1, q2 _ _ _⟩
    · have := mem_namess hj hn
      rw [y2] at this
      cases this
    · have e3 : i * sz + j - l * sz = (i - l) * sz + j := by rw [Nat.sub_mul]; omega
      have e4 : (i - l) * sz + j < (rs.length - l) * sz := by
        have : (i - l) * sz + sz ≤ (rs.length - l) * sz := by rw [show (i - l) * sz + sz = (i - l + 1) * sz by rw [Nat.add_mul, Nat.one_mul]]; exact Nat.mul_le_mul_right _ (by omega)
        omega
      rw [hget, if_pos (by omega), zeroCells_get (by rw [hzs]; exact hpz) (by rw [hzs, ← g3, e3]; exact e4), e3, hzs, ← g3, Nat.add_comm, Nat.add_mul_mod_self_right, Nat.mod_eq_of_lt hjs, ← Array.getElem?_toList]
      exact List.getElem?_eq_getElem hjz
end
end Go.Proofs.Ythbejciebmkclaa.Ab
namespace Go.Proofs.Ythbejciebmkclaa.Ab
open Go Go.RowKit
set_option linter.unusedVariables false
set_option linter.unusedSimpArgs false

theorem set_take {α : Type} {l : List α} {k : Nat} {x : α} (h : k < l.length) : (l.set k x).take (k + 1) = l.take k ++ [x] := by
  rw [List.take_succ_eq_append_getElem (by simpa using h)]
  simp [List.take_set_of_le (Nat.le_refl k)]
theorem set_far {α : Type} {l : List α} {k m : Nat} {x d : α} (h : k < m) : (l.set k x).getD m d = l.getD m d := by
  rw [List.getD_eq_getElem?_getD, List.getD_eq_getElem?_getD, List.getElem?_set_ne (by omega)]
end Go.Proofs.Ythbejciebmkclaa.Ab
namespace Go.Proofs.Ythbejciebmkclaa.Ab
open Go Go.RowKit
set_option linter.unusedVariables false
set_option linter.unusedSimpArgs false

structure LHall where
  queues : List LQueue
  next : Int
instance : DecidableEq LHall := fun a b => decidable_of_iff (a.queues = b.queues ∧ a.next = b.next) (by cases a; cases b; simp)
def queueRow (q : LQueue) : List AV := [.str q.name.data.toList, .int .i64 q.limit, .sl 7 (q.items.map itemRow)]
def hallA (h : LHall) : AV := .agg [.sl 3 (h.queues.map queueRow), .int .i64 h.next]
theorem queueRow_inj {a b : LQueue} (h : queueRow a = queueRow b) : a = b := queueA_inj (congrArg AV.agg h)
theorem queues_inj {a b : List LQueue} (h : a.map queueRow = b.map queueRow) : a = b := (List.map_inj_right (fun _ _ h => queueRow_inj h)).1 h
theorem hallA_inj {a b : LHall} (h : hallA a = hallA b) : a = b := by
  obtain ⟨q, n⟩ := a
  obtain ⟨q', n'⟩ := b
  simp only [hallA, AV.agg.injEq, List.cons.injEq, AV.int.injEq, AV.sl.injEq, true_and, and_true] at h
  rw [queues_inj h.1, h.2]
def LHall.Fits (h : LHall) : Prop := h.queues.length ≤ 1048576 ∧ ∀ q ∈ h.queues, q.Fits ∧ q.name.size ≤ 1048576
theorem queueGet {l : List LQueue} {i : Nat} (h : i < l.length) : (l.map queueRow).getD i [] = queueRow (l.getD i queue0) := by
  simp [h]
theorem queue_fits {h : LHall} (hf : h.Fits) {i : Nat} (hi : i < h.queues.length) : (h.queues.getD i queue0).Fits ∧ (h.queues.getD i queue0).name.size ≤ 1048576 := by
  have : h.queues.getD i queue0 = h.queues[i] := by simp [hi]
  rw [this]
  exact hf.2 _ (List.getElem_mem hi)
/-- the first place from k on; below 0: none -/
def placeG {α : Type} (p : α → Bool) : List α → Int → Int
  | [], _ => -1
  | i :: r, k => if p i = true then k else placeG p r (k + 1)
theorem placeG_hit {α : Type} {p : α → Bool} {d : α} : ∀ {l : List α} {k : Nat} {s : Int}, k < l.length → (∀ j, j < k → p (l.getD j d) = false) → p (l.getD k d) = true → placeG p l s = s + k
  | [], k, s, h, _, _ => by simp at h
  | i :: r, 0, s, h, _, hk => by
    rw [placeG, if_pos (by simpa using hk)]
    simp
  | i :: r, k + 1, s, h, hj, hk => by
    have h0 := hj 0 (by omega)
    rw [placeG, if_neg (by simpa using h0), placeG_hit (d := d) (k := k) (by simpa using h) (fun j hlt => by simpa using hj (j + 1) (by omega)) (by simpa using hk)]
    omega
theorem placeG_miss {α : Type} {p : α → Bool} {d : α} : ∀ {l : List α} {s : Int}, (∀ j, j < l.length → p (l.getD j d) = false) → placeG p l s = -1
  | [], _, _ => rfl
  | i :: r, s, h => by
    have h0 := h 0 (by simp)
    rw [placeG, if_neg (by simpa using h0), placeG_miss (d := d) (fun j hlt => by simpa using h (j + 1) (by simpa using hlt))]
theorem placeG_range {α : Type} {p : α → Bool} {l : List α} : placeG p l 0 = -1 ∨ (0 ≤ placeG p l 0 ∧ placeG p l 0 < l.length) := by
  have key : ∀ (l : List α) (s : Int), 0 ≤ s → placeG p l s = -1 ∨ (s ≤ placeG p l s ∧ placeG p l s < s + l.length) := by
    intro l
    induction l with
    | nil => intro s hs; exact .inl rfl
    | cons i r ih =>
      intro s hs
      rw [placeG]
      split
      · exact .inr ⟨Int.le_refl _, by simp only [List.length_cons]; omega⟩
      · rcases ih (s + 1) (by omega) with h | h
        · exact .inl h
        · exact .inr ⟨by omega, by simp only [List.length_cons]; omega⟩
  have := key l 0 (Int.le_refl _)
  omega
def named (nm : List UInt8) (q : LQueue) : Bool := q.name.data.toList == nm
def findS (l : List LQueue) (nm : List UInt8) : Int := placeG (named nm) l 0
set_option maxRecDepth 100000 in
set_option maxHeartbeats 1000000 in
theorem con_reffind (h : LHall) (nm : List UInt8) (hh : h.queues.length ≤ 1048576) : Con Try.prog D 41 [hallA h, .str nm] ⟨.int .i64 (findS h.queues nm), []⟩ := by
  have hok : GOk Try.prog D (tabG []) := tabG_ok _
  generalize tabG [] = G at *
  obtain ⟨l, next⟩ := h
  simp only at hh
  have hcon : ∀ r, r = findS l nm → Con Try.prog D 41 [hallA ⟨l, next⟩, .str nm] ⟨.int .i64 r, []⟩ := by
    intro r hr
    unfold findS at hr
    refine con_of (G := G) (rs := [(4, none)]) mixed tok hok Try.func41 rfl (by decide) Try.results41 (by decide) rfl Try.ntmps41 (by simp) (by simp [hallA, namess, names]) fun X hP hD hG' hX => evC_sound hX (fun _ => {}) _ _ _ ?_
    simp only [argS, num, hallA]
    simp (disch := omega) only [go_sem, Nat.reduceLeDiff, reduceCtorEq, Nat.reduceAdd, Nat.reduceSub, Nat.reduceMul, Nat.reduceLT, Nat.reduceEqDiff, Int.reduceEq, Int.reduceLE, Int.reduceLT, Int.reducePow, Int.reduceMul, Int.reduceToNat, Int.reduceNeg, ↓reduceIte, hD, hG', wrap64]
    refine Tr.loop (ι := Nat) (fun i => i ≤ l.length ∧ ∀ j, j < i → named nm (l.getD j queue0) = false) (fun i => { nt := 21, tm := [(1, .str nm), (8, .sl 3 (l.map queueRow)), (9, .int .i64 l.length), (10, .int .i64 i)], bl := [] }) (fun i => l.length - i) 0
      ⟨⟨Nat.zero_le _, fun j hj => absurd hj (Nat.not_lt_zero j)⟩, wk_of hD [] rfl rfl (by simp only [go_sem, Nat.reduceEqDiff]; simp) (by simp only [go_sem, Nat.reduceEqDiff])⟩ ?_
    rintro i ⟨hi, hnot⟩
    refine evC_sound hX (fun _ => {}) _ _ _ ?_
    simp (disch := omega) only [go_sem, Nat.reduceLeDiff, reduceCtorEq, Nat.reduceAdd, Nat.reduceSub, Nat.reduceMul, Nat.reduceLT, Nat.reduceEqDiff, Int.reduceEq, Int.reduceLE, Int.reduceLT, Int.reducePow, Int.reduceMul, Int.reduceToNat, Int.reduceNeg, ↓reduceIte, hD, hG', wrap64]
    refine condK_split (fun h => ?_) (fun h => ?_)
    · rw [decide_eq_true_eq] at h
      have hi1 : i < l.length := by omega
      have hgx := queueGet hi1
      have hit : ∀ x, l.getD i queue0 = x → named nm x = true → r = (i : Int) := fun x hx hp => by
        rw [hr, placeG_hit hi1 hnot (by rw [hx]; exact hp)]
        omega
      generalize hx : l.getD i queue0 = x at *
      have hit := hit x rfl
      obtain ⟨qn, ql, qi⟩ := x
      simp only [queueRow] at hgx
      simp (disch := omega) only [go_sem, Nat.reduceLeDiff, reduceCtorEq, Nat.reduceAdd, Nat.reduceSub, Nat.reduceMul, Nat.reduceLT, Nat.reduceEqDiff, Int.reduceEq, Int.reduceLE, Int.reduceLT, Int.reducePow, Int.reduceMul, Int.reduceToNat, Int.reduceNeg, ↓reduceIte, hD, hG', wrap64, hgx]
      refine ⟨by omega, condK_split (fun h => ?_) (fun h => ?_)⟩
      · have hp : named nm ⟨qn, ql, qi⟩ = true := h
        simp (disch := omega) only [go_sem, Nat.reduceLeDiff, reduceCtorEq, Nat.reduceAdd, Nat.reduceSub, Nat.reduceMul, Nat.reduceLT, Nat.reduceEqDiff, Int.reduceEq, Int.reduceLE, Int.reduceLT, Int.reducePow, Int.reduceMul, Int.reduceToNat, Int.reduceNeg, ↓reduceIte, hD, hG', wrap64]
        simp (disch := omega) only [go_sem, Nat.reduceLeDiff, reduceCtorEq, Nat.reduceAdd, Nat.reduceSub, Nat.reduceMul, Nat.reduceLT, Nat.reduceEqDiff, Int.reduceEq, Int.reduceLE, Int.reduceLT, Int.reducePow, Int.reduceMul, Int.reduceToNat, Int.reduceNeg, ↓reduceIte, hD, hG', wrap64, unbox, tmv, Option.some.injEq, exists_eq_left']
        refine ⟨[], [], rfl, rfl, ?_, ?_⟩ <;> simp only [go_sem, Nat.reduceEqDiff]
        rw [hit hp]
      · have hp : named nm ⟨qn, ql, qi⟩ = false := h
        simp (disch := omega) only [go_sem, Nat.reduceLeDiff, reduceCtorEq, Nat.reduceAdd, Nat.reduceSub, Nat.reduceMul, Nat.reduceLT, Nat.reduceEqDiff, Int.reduceEq, Int.reduceLE, Int.reduceLT, Int.reducePow, Int.reduceMul, Int.reduceToNat, Int.reduceNeg, ↓reduceIte, hD, hG', wrap64]
        refine ⟨i + 1, ⟨⟨by omega, fun j hj => ?_⟩, by omega⟩, wk_of hD [] rfl rfl ?_ ?_⟩
        · by_cases hji : j = i
          · rw [hji, hx]; exact hp
          · exact hnot j (by omega)
        all_goals simp only [go_sem, Nat.reduceEqDiff]
        simp
    · rw [decide_eq_false_iff_not] at h
      have hie : i = l.length := by omega
      subst hie
      simp (disch := omega) only [go_sem, Nat.reduceLeDiff, reduceCtorEq, Nat.reduceAdd, Nat.reduceSub, Nat.reduceMul, Nat.reduceLT, Nat.reduceEqDiff, Int.reduceEq, Int.reduceLE, Int.reduceLT, Int.reducePow, Int.reduceMul, Int.reduceToNat, Int.reduceNeg, ↓reduceIte, hD, hG', wrap64]
      simp (disch := omega) only [go_sem, Nat.reduceLeDiff, reduceCtorEq, Nat.reduceAdd, Nat.reduceSub, Nat.reduceMul, Nat.reduceLT, Nat.reduceEqDiff, Int.reduceEq, Int.reduceLE, Int.reduceLT, Int.reducePow, Int.reduceMul, Int.reduceToNat, Int.reduceNeg, ↓reduceIte, hD, hG', wrap64, unbox, tmv, Option.some.injEq, exists_eq_left']
      refine ⟨[], [], rfl, rfl, ?_, ?_⟩ <;> simp only [go_sem, Nat.reduceEqDiff]
      rw [hr, placeG_miss hnot]
  exact hcon _ rfl
def badI (next last : Int) (i : LItem) : Prop := i.id ≤ last ∨ next ≤ i.id ∨ wrongS i.note ≠ 0 ∨ i.turn < 0 ∨ 1000 < i.turn ∨ i.tries < 0 ∨ 2 < i.tries ∨ i.due < 0 ∨ 1000000 < i.due
instance (next last : Int) (i : LItem) : Decidable (badI next last i) := by unfold badI; infer_instance
def lastS (l : List LItem) : Nat → Int
  | 0 => -1
  | j + 1 => (l.getD j item0).id
def itemsOk (next : Int) (l : List LItem) : Prop := ∀ j, j < l.length → ¬ badI next (lastS l j) (l.getD j item0)
instance (next : Int) (l : List LItem) : Decidable (itemsOk next l) := by unfold itemsOk; infer_instance
def headOk (h : LHall) (k : Nat) (q : LQueue) : Prop := keyS q.name = true ∧ findS h.queues q.name.data.toList = (k : Int) ∧ 1 ≤ q.limit ∧ q.limit ≤ 8 ∧ (q.items.length : Int) ≤ q.limit
instance (h : LHall) (k : Nat) (q : LQueue) : Decidable (headOk h k q) := by unfold headOk; infer_instance
def hallOk (h : LHall) : Prop := (h.queues.length ≤ 4 ∧ 0 ≤ h.next ∧ h.next ≤ 1000000) ∧ ∀ k, k < h.queues.length → headOk h k (h.queues.getD k queue0) ∧ itemsOk h.next (h.queues.getD k queue0).items
instance (h : LHall) : Decidable (hallOk h) := by unfold hallOk; infer_instance
def eReffind : Ent Try.prog D := ⟨41, LHall × List UInt8, fun x => [hallA x.1, .str x.2], fun x => x.1.queues.length ≤ 1048576, fun x => ⟨.int .i64 (findS x.1.queues x.2), []⟩, fun x y _ _ h => by
  simp only [List.cons.injEq, AV.str.injEq, and_true] at h
  have e : x = y := Prod.ext (hallA_inj h.1) h.2
  rw [e], fun x h => con_reffind x.1 x.2 h⟩
set_option maxRecDepth 100000 in
set_option maxHeartbeats 2000000 in
theorem con_right (h : LHall) (hh : h.Fits) : Con Try.prog D 23 [hallA h] ⟨.bool (decide (hallOk h)), []⟩ := by
  have hok : GOk Try.prog D (tabG [eReffind, eRefkey, eRefwrong]) := tabG_ok _
  have g1 : ∀ nm, tabG [eReffind, eRefkey, eRefwrong] 41 [hallA h, .str nm] = some ⟨.int .i64 (findS h.queues nm), []⟩ := fun nm => tabG_at (E := eReffind) (T := [eReffind, eRefkey, eRefwrong]) (i := 0) rfl (by decide) (h, nm) hh.1 rfl rfl
  have g2 : ∀ s : ByteArray, s.size ≤ 1048576 → tabG [eReffind, eRefkey, eRefwrong] 75 [.str s.data.toList] = some ⟨.bool (keyS s), []⟩ := fun s hs => tabG_at (E := eRefkey) (T := [eReffind, eRefkey, eRefwrong]) (i := 1) rfl (by decide) s hs rfl rfl
  have g3 : ∀ n : LNote, n.Fits → tabG [eReffind, eRefkey, eRefwrong] 18 [noteA n] = some ⟨.int .i64 (wrongS n), []⟩ := fun n hn => tabG_at (E := eRefwrong) (T := [eReffind, eRefkey, eRefwrong]) (i := 2) rfl (by decide) n hn rfl rfl
  generalize tabG [eReffind, eRefkey, eRefwrong] = G at *
  have hl := hh.1
  have hfq := fun i hi => queue_fits (i := i) hh hi
  have hcon : ∀ r, r = decide (hallOk h) → Con Try.prog D 23 [hallA h] ⟨.bool r, []⟩ := by
    intro r hr
    obtain ⟨l, next⟩ := h
    simp only [hallA] at g1 hl hfq
    refine con_of (G := G) (rs := [(2, none)]) mixed tok hok Try.func23 rfl (by decide) Try.results23 (by decide) rfl Try.ntmps23 (by simp) (by simp [hallA, namess, names]) fun X hP hD hG' hX => evC_sound hX (fun _ => {}) _ _ _ ?_
    simp only [argS, num, hallA]
    simp (disch := omega) only [go_sem, Nat.reduceLeDiff, reduceCtorEq, Nat.reduceAdd, Nat.reduceSub, Nat.reduceMul, Nat.reduceLT, Nat.reduceEqDiff, Int.reduceEq, Int.reduceLE, Int.reduceLT, Int.reducePow, Int.reduceMul, Int.reduceToNat, Int.reduceNeg, ↓reduceIte, hD, hG', wrap64, unbox, tmv, Option.some.injEq, exists_eq_left']
    refine RegT.mk [] ?_
    simp (disch := omega) only [go_sem, Nat.reduceLeDiff, reduceCtorEq, Nat.reduceAdd, Nat.reduceSub, Nat.reduceMul, Nat.reduceLT, Nat.reduceEqDiff, Int.reduceEq, Int.reduceLE, Int.reduceLT, Int.reducePow, Int.reduceMul, Int.reduceToNat, Int.reduceNeg, ↓reduceIte, hD, hG', wrap64, unbox, tmv, Option.some.injEq, exists_eq_left']
    and_intros
    all_goals (try (first | (intro hk; refine ⟨hk, fun h2 => ?_⟩; first | (rw [hk, h2]; rfl) | (rw [hk, decide_eq_false h2]; rfl)) | (intro hk; rw [decide_eq_false hk]; rfl) | (intro hk; rw [hk]; rfl)))
    refine condK_split (fun h0 => ?_) (fun h0 => ?_)
    · simp (disch := omega) only [go_sem, Nat.reduceLeDiff, reduceCtorEq, Nat.reduceAdd, Nat.reduceSub, Nat.reduceMul, Nat.reduceLT, Nat.reduceEqDiff, Int.reduceEq, Int.reduceLE, Int.reduceLT, Int.reducePow, Int.reduceMul, Int.reduceToNat, Int.reduceNeg, ↓reduceIte, hD, hG', wrap64, unbox, tmv, Option.some.injEq, exists_eq_left']
      refine ⟨[], [], rfl, rfl, ?_, ?_⟩ <;> simp only [go_sem, Nat.reduceEqDiff]
      rw [hr]
      unfold hallOk
      grind
    have h1 : l.length ≤ 4 ∧ 0 ≤ next ∧ next ≤ 1000000 := by grind
    simp (disch := omega) only [go_sem, Nat.reduceLeDiff, reduceCtorEq, Nat.reduceAdd, Nat.reduceSub, Nat.reduceMul, Nat.reduceLT, Nat.reduceEqDiff, Int.reduceEq, Int.reduceLE, Int.reduceLT, Int.reducePow, Int.reduceMul, Int.reduceToNat, Int.reduceNeg, ↓reduceIte, hD, hG', wrap64, unbox, tmv, Option.some.injEq, exists_eq_left']
    refine Tr.loop (ι := Nat) (fun k => k ≤ l.length ∧ ∀ j, j < k → headOk ⟨l, next⟩ j (l.getD j queue0) ∧ itemsOk next (l.getD j queue0).items) (fun k => { nt := 118, tm := [(1, .ptr 1 0), (23, .sl 3 (l.map queueRow)), (24, .int .i64 l.length), (25, .int .i64 k)], bl := [(1, some (.cells [.sl 3 (l.map queueRow), .int .i64 next]))] }) (fun k => l.length - k) 0
      ⟨⟨Nat.zero_le _, fun j hj => absurd hj (Nat.not_lt_zero j)⟩, wk_of hD [(1, 1)] rfl rfl (by simp only [go_sem, Nat.reduceEqDiff]; simp) (by simp only [go_sem, Nat.reduceEqDiff])⟩ ?_
    rintro k ⟨hk, hok1⟩
    refine evC_sound hX (fun _ => {}) _ _ _ ?_
    simp (disch := omega) only [go_sem, Nat.reduceLeDiff, reduceCtorEq, Nat.reduceAdd, Nat.reduceSub, Nat.reduceMul, Nat.reduceLT, Nat.reduceEqDiff, Int.reduceEq, Int.reduceLE, Int.reduceLT, Int.reducePow, Int.reduceMul, Int.reduceToNat, Int.reduceNeg, ↓reduceIte, hD, hG', wrap64, unbox, tmv, Option.some.injEq, exists_eq_left']
    refine condK_split (fun h => ?_) (fun h => ?_)
    · rw [decide_eq_true_eq] at h
      have hk1 : k < l.length := by omega
      have hgx := queueGet hk1
      obtain ⟨hqf, hqn⟩ := hfq k hk1
      have hbadr : ∀ q, l.getD k queue0 = q → ¬ (headOk ⟨l, next⟩ k q ∧ itemsOk next q.items) → r = false := fun q hq hb => by
        rw [hr]
        simp only [decide_eq_false_iff_not]
        intro ho
        have := ho.2 k hk1
        simp only [hq] at this
        exact hb this
      generalize hq : l.getD k queue0 = q at *
      have hbadr := hbadr q rfl
      obtain ⟨qn, ql, qi⟩ := q
      have g1 := g1 qn.data.toList
      have g2 := g2 qn hqn
      have hqi := hqf.1
      simp only [queueRow] at hgx hqi hqn
      simp (disch := omega) only [go_sem, Nat.reduceLeDiff, reduceCtorEq, Nat.reduceAdd, Nat.reduceSub, Nat.reduceMul, Nat.reduceLT, Nat.reduceEqDiff, Int.reduceEq, Int.reduceLE, Int.reduceLT, Int.reducePow, Int.reduceMul, Int.reduceToNat, Int.reduceNeg, ↓reduceIte, hD, hG', wrap64, hgx, unbox, tmv, Option.some.injEq, exists_eq_left']
      refine ⟨by omega, RegT.mk [] ?_⟩
      simp (disch := omega) only [go_sem, Nat.reduceLeDiff, reduceCtorEq, Nat.reduceAdd, Nat.reduceSub, Nat.reduceMul, Nat.reduceLT, Nat.reduceEqDiff, Int.reduceEq, Int.reduceLE, Int.reduceLT, Int.reducePow, Int.reduceMul, Int.reduceToNat, Int.reduceNeg, ↓reduceIte, hD, hG', wrap64, g1, g2, unbox, tmv, Option.some.injEq, exists_eq_left']
      and_intros
      all_goals (try (first | (intro hk; refine ⟨hk, fun h2 => ?_⟩; first | (rw [hk, h2]; rfl) | (rw [hk, decide_eq_false h2]; rfl)) | (intro hk; rw [decide_eq_false hk]; rfl) | (intro hk; rw [hk]; rfl)))
      all_goals (try omega)
      refine condK_split (fun h0 => ?_) (fun h0 => ?_)
      · simp (disch := omega) only [go_sem, Nat.reduceLeDiff, reduceCtorEq, Nat.reduceAdd, Nat.reduceSub, Nat.reduceMul, Nat.reduceLT, Nat.reduceEqDiff, Int.reduceEq, Int.reduceLE, Int.reduceLT, Int.reducePow, Int.reduceMul, Int.reduceToNat, Int.reduceNeg, ↓reduceIte, hD, hG', wrap64, unbox, tmv, Option.some.injEq, exists_eq_left']
        refine ⟨[], [], rfl, rfl, ?_, ?_⟩ <;> simp only [go_sem, Nat.reduceEqDiff]
        rw [hbadr (fun hb => ?_)]
        have hb := hb.1
        unfold headOk at hb
        grind
      have h2 : headOk ⟨l, next⟩ k ⟨qn, ql, qi⟩ := by unfold headOk; grind
      simp (disch := omega) only [go_sem, Nat.reduceLeDiff, reduceCtorEq, Nat.reduceAdd, Nat.reduceSub, Nat.reduceMul, Nat.reduceLT, Nat.reduceEqDiff, Int.reduceEq, Int.reduceLE, Int.reduceLT, Int.reducePow, Int.reduceMul, Int.reduceToNat, Int.reduceNeg, ↓reduceIte, hD, hG', wrap64, unbox, tmv, Option.some.injEq, exists_eq_left']
      refine Tr.loop (ι := Nat) (fun j => j ≤ qi.length ∧ ∀ m, m < j → ¬ badI next (lastS qi m) (qi.getD m item0)) (fun j => { nt := 118, tm := [(1, .ptr 1 0), (5, .int .i64 (lastS qi j)), (23, .sl 3 (l.map queueRow)), (24, .int .i64 l.length), (25, .int .i64 k), (61, .sl 7 (qi.map itemRow)), (62, .int .i64 qi.length), (63, .int .i64 j)], bl := [(1, some (.cells [.sl 3 (l.map queueRow), .int .i64 next]))] }) (fun j => qi.length - j) 0
        ⟨⟨Nat.zero_le _, fun j hj => absurd hj (Nat.not_lt_zero j)⟩, wk_of hD [(1, 1)] rfl rfl (by simp only [go_sem, Nat.reduceEqDiff]; simp [lastS]) (by simp only [go_sem, Nat.reduceEqDiff])⟩ ?_
      rintro j ⟨hj, hok2⟩
      refine evC_sound hX (fun _ => {}) _ _ _ ?_
      simp (disch := omega) only [go_sem, Nat.reduceLeDiff, reduceCtorEq, Nat.reduceAdd, Nat.reduceSub, Nat.reduceMul, Nat.reduceLT, Nat.reduceEqDiff, Int.reduceEq, Int.reduceLE, Int.reduceLT, Int.reducePow, Int.reduceMul, Int.reduceToNat, Int.reduceNeg, ↓reduceIte, hD, hG', wrap64, unbox, tmv, Option.some.injEq, exists_eq_left']
      refine condK_split (fun h => ?_) (fun h => ?_)
      · rw [decide_eq_true_eq] at h
        have hj1 : j < qi.length := by omega
        have hgx := itemGet hj1
        have hif := item_fits hqf hj1
        have hbadi : ∀ x, qi.getD j item0 = x → badI next (lastS qi j) x → r = false := fun x hx hb => by
          refine hbadr fun hb2 => ?_
          have := hb2.2 j hj1
          simp only [hx] at this
          exact this hb
        have hlast : lastS qi (j + 1) = (qi.getD j item0).id := rfl
        generalize hla : lastS qi j = la at *
        generalize hx : qi.getD j item0 = x at *
        have hbadi := hbadi x rfl
        have g3 := g3 x.note hif
        obtain ⟨a1, a2, a3, a4, a5, ⟨xp, xb⟩⟩ := x
        simp only [itemRow] at hgx
        simp only [noteA] at g3
        simp (disch := omega) only [go_sem, Nat.reduceLeDiff, reduceCtorEq, Nat.reduceAdd, Nat.reduceSub, Nat.reduceMul, Nat.reduceLT, Nat.reduceEqDiff, Int.reduceEq, Int.reduceLE, Int.reduceLT, Int.reducePow, Int.reduceMul, Int.reduceToNat, Int.reduceNeg, ↓reduceIte, hD, hG', wrap64, hgx, unbox, tmv, Option.some.injEq, exists_eq_left']
        refine ⟨by omega, RegT.mk [] ?_⟩
        simp (disch := omega) only [go_sem, Nat.reduceLeDiff, reduceCtorEq, Nat.reduceAdd, Nat.reduceSub, Nat.reduceMul, Nat.reduceLT, Nat.reduceEqDiff, Int.reduceEq, Int.reduceLE, Int.reduceLT, Int.reducePow, Int.reduceMul, Int.reduceToNat, Int.reduceNeg, ↓reduceIte, hD, hG', wrap64, g3, unbox, tmv, Option.some.injEq, exists_eq_left']
        and_intros
        all_goals (try (first | (intro hk; refine ⟨hk, fun h2 => ?_⟩; first | (rw [hk, h2]; rfl) | (rw [hk, decide_eq_false h2]; rfl)) | (intro hk; rw [decide_eq_false hk]; rfl) | (intro hk; rw [hk]; rfl)))
        refine condK_split (fun h0 => ?_) (fun h0 => ?_)
        · simp (disch := omega) only [go_sem, Nat.reduceLeDiff, reduceCtorEq, Nat.reduceAdd, Nat.reduceSub, Nat.reduceMul, Nat.reduceLT, Nat.reduceEqDiff, Int.reduceEq, Int.reduceLE, Int.reduceLT, Int.reducePow, Int.reduceMul, Int.reduceToNat, Int.reduceNeg, ↓reduceIte, hD, hG', wrap64, unbox, tmv, Option.some.injEq, exists_eq_left']
          refine ⟨[], [], rfl, rfl, ?_, ?_⟩ <;> simp only [go_sem, Nat.reduceEqDiff]
          rw [hbadi ?_]
          clear hbadi hbadr hok1 hok2 hfq g1 g2 g3 hr
          unfold badI
          dsimp only
          simp at h0
          omega
        have h3 : ¬ badI next la ⟨a1, a2, a3, a4, a5, ⟨xp, xb⟩⟩ := by
          clear hbadi hbadr hok1 hok2 hfq g1 g2 g3 hr
          unfold badI
          dsimp only
          simp at h0
          omega
        simp (disch := omega) only [go_sem, Nat.reduceLeDiff, reduceCtorEq, Nat.reduceAdd, Nat.reduceSub, Nat.reduceMul, Nat.reduceLT, Nat.reduceEqDiff, Int.reduceEq, Int.reduceLE, Int.reduceLT, Int.reducePow, Int.reduceMul, Int.reduceToNat, Int.reduceNeg, ↓reduceIte, hD, hG', wrap64, unbox, tmv, Option.some.injEq, exists_eq_left']
        refine ⟨j + 1, ⟨⟨by omega, fun m hm => ?_⟩, by omega⟩, wk_of hD [(1, 1)] rfl rfl ?_ ?_⟩
        · by_cases hmj : m = j
          · rw [hmj, hx, hla]; exact h3
          · exact hok2 m (by omega)
        all_goals simp only [go_sem, Nat.reduceEqDiff, hlast]
        simp
      · rw [decide_eq_false_iff_not] at h
        have hje : j = qi.length := by omega
        subst hje
        simp (disch := omega) only [go_sem, Nat.reduceLeDiff, reduceCtorEq, Nat.reduceAdd, Nat.reduceSub, Nat.reduceMul, Nat.reduceLT, Nat.reduceEqDiff, Int.reduceEq, Int.reduceLE, Int.reduceLT, Int.reducePow, Int.reduceMul, Int.reduceToNat, Int.reduceNeg, ↓reduceIte, hD, hG', wrap64, unbox, tmv, Option.some.injEq, exists_eq_left']
        refine ⟨k + 1, ⟨⟨by omega, fun m hm => ?_⟩, by omega⟩, wk_of hD [(1, 1)] rfl rfl ?_ ?_⟩
        · by_cases hmj : m = k
          · rw [hmj, hq]; exact ⟨h2, hok2⟩
          · exact hok1 m (by omega)
        all_goals simp only [go_sem, Nat.reduceEqDiff]
        simp
    · rw [decide_eq_false_iff_not] at h
      have hke : k = l.length := by omega
      subst hke
      simp (disch := omega) only [go_sem, Nat.reduceLeDiff, reduceCtorEq, Nat.reduceAdd, Nat.reduceSub, Nat.reduceMul, Nat.reduceLT, Nat.reduceEqDiff, Int.reduceEq, Int.reduceLE, Int.reduceLT, Int.reducePow, Int.reduceMul, Int.reduceToNat, Int.reduceNeg, ↓reduceIte, hD, hG', wrap64, unbox, tmv, Option.some.injEq, exists_eq_left']
      refine ⟨[], [], rfl, rfl, ?_, ?_⟩ <;> simp only [go_sem, Nat.reduceEqDiff]
      have hfin : hallOk ⟨l, next⟩ := ⟨h1, hok1⟩
      simp [hr, hfin]
  exact hcon _ rfl
end Go.Proofs.Ythbejciebmkclaa.Ab
