/-
  Texts of the proof, one behind the other: QuS QuD QuF QuG KlA QuH ClA QuP QuR.
  No condition but those that each theorem names.
-/
import Derived.Test.YthbejciebmkclaaGD
import Derived.Test.YthbejciebmkclaaGC
import Derived.Deep.RegionLaw
import Derived.Lib.SliceRun
namespace Go.Proofs.Ythbejciebmkclaa.Ab
open Go Go.RowKit
set_option linter.unusedVariables false
set_option linter.unusedSimpArgs false

structure LItem where
  id : Int
  turn : Int
  tries : Int
  out : Bool
  due : Int
  note : LNote
structure LQueue where
  name : ByteArray
  limit : Int
  items : List LItem
instance : DecidableEq LItem := fun a b => decidable_of_iff (a.id = b.id ∧ a.turn = b.turn ∧ a.tries = b.tries ∧ a.out = b.out ∧ a.due = b.due ∧ a.note = b.note) (by cases a; cases b; simp)
instance : DecidableEq LQueue := fun a b => decidable_of_iff (a.name = b.name ∧ a.limit = b.limit ∧ a.items = b.items) (by cases a; cases b; simp)
def item0 : LItem := ⟨0, 0, 0, false, 0, note0⟩
def queue0 : LQueue := ⟨⟨#[]⟩, 0, []⟩
def itemRow (i : LItem) : List AV := [.int .i64 i.id, .int .i64 i.turn, .int .i64 i.tries, .bool i.out, .int .i64 i.due, .sl 4 (i.note.props.map propRow), .sl 1 (i.note.body.map byteRow)]
def itemA (i : LItem) : AV := .agg (itemRow i)
def queueA (q : LQueue) : AV := .agg [.str q.name.data.toList, .int .i64 q.limit, .sl 7 (q.items.map itemRow)]
def LQueue.Fits (q : LQueue) : Prop := q.items.length ≤ 1048576 ∧ ∀ i ∈ q.items, i.note.Fits
theorem itemGet {l : List LItem} {i : Nat} (h : i < l.length) : (l.map itemRow).getD i [] = itemRow (l.getD i item0) := by
  simp [h]
theorem itemRow_inj {a b : LItem} (h : itemRow a = itemRow b) : a = b := by
  obtain ⟨i, t, r, o, d, ⟨p, y⟩⟩ := a
  obtain ⟨i', t', r', o', d', ⟨p', y'⟩⟩ := b
  simp only [itemRow, List.cons.injEq, AV.int.injEq, AV.bool.injEq, AV.sl.injEq, true_and, and_true] at h
  obtain ⟨rfl, rfl, rfl, rfl, rfl, h4, h5⟩ := h
  rw [props_inj h4, bytes_inj h5]
theorem items_inj {a b : List LItem} (h : a.map itemRow = b.map itemRow) : a = b := (List.map_inj_right (fun _ _ h => itemRow_inj h)).1 h
theorem queueA_inj {a b : LQueue} (h : queueA a = queueA b) : a = b := by
  obtain ⟨n, l, i⟩ := a
  obtain ⟨n', l', i'⟩ := b
  simp only [queueA, AV.agg.injEq, List.cons.injEq, AV.int.injEq, AV.str.injEq, AV.sl.injEq, true_and, and_true] at h
  obtain ⟨h1, rfl, h3⟩ := h
  rw [bytes_ext h1, items_inj h3]
theorem item_fits {q : LQueue} (h : q.Fits) {i : Nat} (hi : i < q.items.length) : (q.items.getD i item0).note.Fits := by
  have : q.items.getD i item0 = q.items[i] := by simp [hi]
  rw [this]
  exact h.2 _ (List.getElem_mem hi)
theorem take_item {l : List LItem} {i : Nat} (h : i < l.length) : l.take (i + 1) = l.take i ++ [l.getD i item0] := by
  rw [List.take_succ_eq_append_getElem h]
  simp [h]
set_option maxRecDepth 100000 in
theorem con_ownq (q : LQueue) (hq : q.Fits) : Con Try.prog D 93 [queueA q] ⟨.agg [.str q.name.data.toList, .int .i64 q.limit, .os 0], [(65, 7, q.items.map itemRow)]⟩ := by
  have hok : GOk Try.prog D (tabG [eOwn1]) := tabG_ok _
  have g1 : ∀ n : LNote, n.Fits → tabG [eOwn1] 82 [noteA n] = some ⟨noteA n, []⟩ := fun n h => tabG_at (E := eOwn1) (T := [eOwn1]) (i := 0) rfl (by decide) n h rfl rfl
  have hl := hq.1
  generalize tabG [eOwn1] = G at *
  refine con_of (G := G) (rs := [(2, some 71)]) mixed tok hok Try.func93 rfl (by decide) Try.results93 (by decide) rfl Try.ntmps93 (by simp) (by simp [queueA, namess, names]) fun X hP hD hG' hX => evC_sound hX (fun _ => {}) _ _ _ ?_
  simp only [argS, num, queueA]
  simp (disch := omega) only [go_sem, Nat.reduceLeDiff, reduceCtorEq, Nat.reduceAdd, Nat.reduceSub, Nat.reduceMul, Nat.reduceLT, Nat.reduceEqDiff, Int.reduceEq, Int.reduceLE, Int.reduceLT, Int.reducePow, Int.reduceMul, Int.reduceToNat, Int.reduceNeg, ↓reduceIte, hD, hG', wrap64]
  refine Tr.loop (ι := Nat) (fun i => i ≤ q.items.length) (fun i => { nt := 30, tm := [(2, .ptr 2 0), (3, .ptr 3 0), (12, .sl 7 (q.items.map itemRow)), (13, .int .i64 q.items.length), (14, .int .i64 i)], bl := [(2, some (.cells [.str [], .int .i64 0, .nils])), (3, some (.cells [.str q.name.data.toList, .int .i64 q.limit, .os 5000])), (5000, some (.rows 65 7 ((q.items.take i).map itemRow)))] }) (fun i => q.items.length - i) 0
    ⟨Nat.zero_le _, wk_of hD [(2, 2), (3, 3)] rfl rfl (by simp only [go_sem, Nat.reduceEqDiff]; simp) (by simp only [go_sem, Nat.reduceEqDiff, D_3, D_4, D_5, D_9, D_25, D_26, D_28, D_65, D_69, D_71, D_110]; simp)⟩ ?_
  intro i hi
  refine evC_sound hX (fun _ => {}) _ _ _ ?_
  simp (disch := omega) only [go_sem, Nat.reduceLeDiff, reduceCtorEq, Nat.reduceAdd, Nat.reduceSub, Nat.reduceMul, Nat.reduceLT, Nat.reduceEqDiff, Int.reduceEq, Int.reduceLE, Int.reduceLT, Int.reducePow, Int.reduceMul, Int.reduceToNat, Int.reduceNeg, ↓reduceIte, hD, hG', wrap64]
  refine condK_split (fun h => ?_) (fun h => ?_)
  · rw [decide_eq_true_eq] at h
    have hi1 : i < q.items.length := by omega
    have hti := take_item hi1
    have hfi := item_fits hq hi1
    have hg := g1 _ hfi
    have hgx := itemGet hi1
    generalize q.items.getD i item0 = x at *
    obtain ⟨a1, a2, a3, a4, a5, ⟨xp, xb⟩⟩ := x
    simp only [noteA] at hg
    simp only [itemRow] at hgx
    have htl : (q.items.take i).length ≤ q.items.length := by rw [List.length_take]; omega
    simp (disch := omega) only [go_sem, Nat.reduceLeDiff, reduceCtorEq, Nat.reduceAdd, Nat.reduceSub, Nat.reduceMul, Nat.reduceLT, Nat.reduceEqDiff, Int.reduceEq, Int.reduceLE, Int.reduceLT, Int.reducePow, Int.reduceMul, Int.reduceToNat, Int.reduceNeg, ↓reduceIte, hD, hG', wrap64, hgx, hg]
    ((try and_intros); all_goals (try first | omega | decide | (simp; done) | (simp only [List.length_append, List.length_cons, List.length_nil, List.length_map]; omega)))
    refine ⟨i + 1, ⟨by omega, by omega⟩, wk_of hD [(2, 2), (3, 3), (5000, 26)] rfl rfl ?_ ?_⟩ <;> simp only [go_sem, Nat.reduceEqDiff, D_3, D_4, D_5, D_9, D_25, D_26, D_28, D_65, D_69, D_71, D_110]
    · simp
    · simp [hti, itemRow]
  · rw [decide_eq_false_iff_not] at h
    have hie : i = q.items.length := by omega
    subst hie
    rw [List.take_length] at *
    simp (disch := omega) only [go_sem, Nat.reduceLeDiff, reduceCtorEq, Nat.reduceAdd, Nat.reduceSub, Nat.reduceMul, Nat.reduceLT, Nat.reduceEqDiff, Int.reduceEq, Int.reduceLE, Int.reduceLT, Int.reducePow, Int.reduceMul, Int.reduceToNat, Int.reduceNeg, ↓reduceIte, hD, hG', wrap64, unbox, tmv, Option.some.injEq, exists_eq_left']
    refine ⟨[], [(0, 5000)], rfl, rfl, ?_, ?_⟩ <;> simp only [go_sem, Nat.reduceEqDiff, D_3, D_4, D_5, D_9, D_25, D_26, D_28, D_65, D_69, D_71, D_110]
    all_goals rfl
end Go.Proofs.Ythbejciebmkclaa.Ab
namespace Go.Proofs.Ythbejciebmkclaa.Ab
open Go Go.RowKit
set_option linter.unusedVariables false
set_option linter.unusedSimpArgs false

def putL (cs : Array Value) : Nat → List Value → Array Value
  | _, [] => cs
  | o, v :: r => putL (cs.setIfInBounds o v) (o + 1) r
theorem putL_size : ∀ (vs : List Value) (cs : Array Value) (o : Nat), (putL cs o vs).size = cs.size
  | [], _, _ => rfl
  | v :: r, cs, o => by rw [putL, putL_size r]; simp
theorem putL_get : ∀ (vs : List Value) (cs : Array Value) (o j : Nat), o + vs.length ≤ cs.size → (putL cs o vs)[j]? = if o ≤ j ∧ j < o + vs.length then vs[j - o]? else cs[j]?
  | [], cs, o, j, _ => by simp only [putL, List.length_nil]; rw [if_neg (by omega)]
  | v :: r, cs, o, j, h => by
    simp only [List.length_cons] at h ⊢
    rw [putL, putL_get r _ _ _ (by simp; omega)]
    by_cases h1 : o + 1 ≤ j ∧ j < o + 1 + r.length
    · rw [if_pos h1, if_pos (by omega), show j - o = (j - (o + 1)) + 1 by omega]
      rfl
    · rw [if_neg h1]
      by_cases h2 : j = o
      · subst h2
        rw [if_pos (by omega), Nat.sub_self]
        simp [show j < cs.size by omega]
      · rw [if_neg (by omega)]
        simp [Array.getElem?_setIfInBounds, Ne.symm h2]
theorem blk_setCells {t : TypeId} : ∀ (vs : List Value) {w : World} {g : Nat} {cs : Array Value} (o : Nat), Go.Proofs.Ythbejciebmkclaa.Blk w g t cs → Go.Proofs.Ythbejciebmkclaa.Blk (w.setCells g o vs) g t (putL cs o vs)
  | [], _, _, _, _, h => h
  | v :: r, _, _, _, o, h => blk_setCells r (o + 1) (h.set_ o v)
theorem grown_setCells {w : World} {g : Nat} : ∀ (vs : List Value) {w1 : World} (o : Nat), w.grownBy w1 (some g) → w.grownBy (w1.setCells g o vs) (some g)
  | [], _, _, h => h
  | v :: r, w1, o, h => by
    refine grown_setCells r (o + 1) ⟨h.os, h.tape, h.output, ?_, fun b hb hne => ?_⟩
    · have := h.size
      simpa [World.setCell] using this
    · rw [Below.heap_setCell w1 ⟨g, o, none⟩ v b (by intro e; exact hne (by rw [e]))]
      exact h.block b hb hne
/-- clear of one element -/
theorem run_clear_one {P : Program} (w : World) (t e ty : TypeId) (z : Value) (zs : List Value) (ht : P.underlying t = some (.slice e)) (hv : ∀ w, (zeroValue e).run P w = .ok z w) (hz : (Builtin.zeroCells z.cells 1).toList = zs) (h1 : ∀ v ∈ zs, v.oneCell' = true) (g o c : Nat)
    (hc : ∀ j, j < zs.length → (w.cell? ⟨g, o + j, none⟩).isSome = true) (hf : ∀ j, j < zs.length → w.frozen? ⟨g, o + j, none⟩ = false) :
    (Builtin.clear_ #[t] ty #[.slice (some ⟨g, o, none⟩) 1 c]).run P w = .ok (.tuple #[]) (w.setCells g o zs) := by
  have hst := run_storeCells_cells (P := P) g o zs 0 w (by simpa using hc) (by simpa using hf) h1
  simp only [Nat.add_zero] at hst
  simp [Builtin.clear_, run_underlying ht, hv, hz, hst]
theorem info_item : (Try.prog.info? 65).map (fun i => (i.zero, i.size, i.bytes)) = some (some (.agg #[.int .i64 0, .int .i64 0, .int .i64 0, .bool false, .int .i64 0, .slice none 0 0, .slice none 0 0]), 7, 88) := by kernel_rfl
def itemZ : List Value := [.int .i64 0, .int .i64 0, .int .i64 0, .bool false, .int .i64 0, .slice none 0 0, .slice none 0 0]
theorem zero_item (w : World) : (zeroValue 65).run Try.prog w = .ok (.agg itemZ.toArray) w := by kernel_rfl
theorem zcells_item : (Builtin.zeroCells (Value.agg itemZ.toArray).cells 1).toList = itemZ := by kernel_rfl
set_option maxRecDepth 40000 in
set_option maxHeartbeats 1000000 in
theorem delete_calls (rs : List (List AV)) (k : Nat) (hk : k < rs.length) (w : World) (im : Nat → Prop) (ρ : Env) (u : Value) (xs : List Value) (hown : w.ownsRow 0 65 7 u rs.length xs) (hf : FlatRel w im ρ 7 rs xs) :
    Calls Try.prog 129 #[u, .int .i64 k, .int .i64 ((k + 1 : Nat) : Int)] w (RowsPost w im ρ 65 7 u (rs.eraseIdx k)) := by
  obtain ⟨i0, hi0, hz0, hz1, hz2⟩ := info_parts info_item
  rcases hown.2 with ⟨_, h0⟩ | ⟨g, cap, cur, rfl, _, hg, hnc, hcm, hcs, hcx⟩
  · omega
  have hlen := hown.1
  have hcm' : cap ≤ 9223372036854775807 := by simpa [maxLen] using hcm
  have hB : Go.Proofs.Ythbejciebmkclaa.Blk w g 65 cur := hg
  have hfl := hf.one (by decide)
  generalize hnd : (cur.toList.drop ((k + 1) * 7)).take ((rs.length - (k + 1)) * 7) = news
  have hnl : news.length = (rs.length - (k + 1)) * 7 := by
    rw [← hnd, List.length_take, List.length_drop]
    have : cur.toList.length = cap * 7 := hcs
    omega
  have hng : ∀ t u, news[t]? = some u → cur[(k + 1) * 7 + t]? = some u := fun t u ht => by
    rw [← hnd, List.getElem?_take] at ht
    split at ht
    · rw [List.getElem?_drop, Array.getElem?_toList] at ht
      exact ht
    · cases ht
  have hxg : ∀ j, j < rs.length * 7 → xs[j]? = cur[j]? := fun j hj => by
    rw [← hcx, List.getElem?_take, if_pos hj, Array.getElem?_toList]
  obtain ⟨A, hA, hsrc⟩ : ∃ A : Addr, (if cap = k + 1 then some (⟨g, 0, none⟩ : Addr) else some ⟨g, (k + 1) * 7, none⟩) = some A ∧ Hid (∀ t u, news[t]? = some u → w.drew.cell? (A.add t) = some u) := by
    by_cases h : cap = k + 1
    · refine ⟨⟨g, 0, none⟩, by simp [h], fun t u hu => ?_⟩
      have h0 : news.length = 0 := by rw [hnl]; omega
      rw [List.length_eq_zero_iff.1 h0] at hu
      simp at hu
    · refine ⟨⟨g, (k + 1) * 7, none⟩, by simp [h], fun t u hu => ?_⟩
      have := hng t u hu
      rw [add_flat]
      exact hB.drew.cell _ |>.trans this
  have s1 : Hid (news.length = (rs.length - (k + 1)) * 7) := hnl
  have s2 : Hid (∀ u ∈ news, u.oneCell' = true) := by
    intro u hu
    obtain ⟨t, ht⟩ := List.getElem?_of_mem hu
    have h1 := hng t u ht
    have h2 := (List.getElem?_eq_some_iff.1 ht).1
    rw [hnl] at h2
    rw [← hxg _ (by omega)] at h1
    exact hfl u (List.mem_of_getElem? h1)
  have s3 : Hid (∀ t, t < news.length → (w.drew.cell? ⟨g, 0 + k * 7 + t, none⟩).isSome = true ∧ w.drew.frozen? ⟨g, 0 + k * 7 + t, none⟩ = false) := by
    intro t ht
    rw [hnl] at ht
    have hlt : 0 + k * 7 + t < cur.size := by rw [hcs]; omega
    refine ⟨?_, hB.drew.frozen _⟩
    rw [hB.drew.cell]
    simp only [Array.getElem?_eq_getElem hlt, Option.isSome_some]
  obtain ⟨W1, hW1⟩ : ∃ W1, W1 = w.drew.setCells g (0 + k * 7) news := ⟨_, rfl⟩
  have hB1 : Go.Proofs.Ythbejciebmkclaa.Blk W1 g 65 (putL cur (0 + k * 7) news) := by rw [hW1]; exact blk_setCells news _ hB.drew
  have hsz1 : (putL cur (0 + k * 7) news).size = cap * 7 := by rw [putL_size, hcs]
  have hm1 : k + (rs.length - (k + 1)) = rs.length - 1 := by omega
  have hcl : ∀ ty, (Builtin.clear_ #[69] ty #[.slice (some ⟨g, (k + (rs.length - (k + 1))) * 7, none⟩) (rs.length - (k + (rs.length - (k + 1)))) (cap - (k + (rs.length - (k + 1))))]).run Try.prog W1 = .ok (.tuple #[]) (W1.setCells g ((k + (rs.length - (k + 1))) * 7) itemZ) := fun ty => by
    rw [show rs.length - (k + (rs.length - (k + 1))) = 1 by omega]
    refine run_clear_one W1 _ _ ty _ itemZ Try.underlying69 zero_item zcells_item (by decide) g _ _ (fun t ht => ?_) (fun t ht => hB1.frozen _)
    have ht7 : t < 7 := ht
    rw [hB1.cell]
    have hlt : (k + (rs.length - (k + 1))) * 7 + t < (putL cur (0 + k * 7) news).size := by rw [hsz1]; omega
    simp only [Array.getElem?_eq_getElem hlt, Option.isSome_some]
  have hW : Hid (W1 = w.drew.setCells g (0 + k * 7) news) := hW1
  have HB1 := Lib.hid hB1
  have HXG := Lib.hid hxg
  have HNG := Lib.hid hng
  have HCS := Lib.hid hcs
  have HLEN := Lib.hid hlen
  have HNL := Lib.hid hnl
  have HF := Lib.hid hf
  have hic : k ≤ cap := by omega
  have hjc : k + 1 ≤ cap := by omega
  clear hW1 hB1 hsz1 hfl hxg hng hcs hcx hlen hnl hnd hf hB hg hown hm1
  generalize hn : rs.length = n at *
  have HN := Lib.hid hn
  clear hn
  have hjn : k + 1 ≤ n := by omega
  have hkj : k < k + 1 := by omega
  have HJ : Hid (∃ j, j = k + 1) := ⟨_, rfl⟩
  generalize hj : k + 1 = j at *
  have HJJ := Lib.hid hj
  clear hj hk
  go_enter Try.func129, Try.ntmps129
  go_wp2_with fail
  go_region_law (refine step_append_room rfl (.tmp 22) (.tmp 25) 69 rfl 65 i0 7 Try.underlying69 hi0 hz1 g 0 k cap (by simp [Act.eval, Act.put]) A (n - j) (cap - j) news (by simp [Act.eval, Act.put]) s1.out hsrc.out s2.out (by omega) s3.out ?_; rw [← hW.out])
  go_wp2
  go_ret
  have hj := HJJ.out
  subst hj
  have hn := HN.out
  have hcs := HCS.out
  have hlen := HLEN.out
  have hnl := HNL.out
  have hxg := HXG.out
  have hng := HNG.out
  have hlr : (rs.eraseIdx k).length = k + (n - (k + 1)) := by rw [List.length_eraseIdx, if_pos (by omega)]; omega
  refine ⟨.slice (some ⟨g, 0, none⟩) (k + (n - (k + 1))) cap, xs.take (k * 7) ++ xs.drop ((k + 1) * 7), rfl, ?_, ?_, ?_, fun b hb => .inl hb⟩
  · rw [hlr]
    refine ⟨by rw [List.length_append, List.length_take, List.length_drop, hlen]; omega, .inr ⟨g, cap, putL (putL cur (0 + k * 7) news) ((k + (n - (k + 1))) * 7) itemZ, rfl, Nat.zero_le _, blk_setCells itemZ _ HB1.out, by omega, hcm, by rw [putL_size, putL_size, hcs], ?_⟩⟩
    apply List.ext_getElem?
    intro i
    have hzl : itemZ.length = 7 := rfl
    by_cases hi : i < (k + (n - (k + 1))) * 7
    · rw [List.getElem?_take, if_pos hi, Array.getElem?_toList, putL_get _ _ _ _ (by rw [putL_size, hcs, hzl]; omega), if_neg (by omega), putL_get _ _ _ _ (by rw [hcs, hnl]; omega)]
      by_cases hik : i < k * 7
      · rw [if_neg (by omega), List.getElem?_append_left (by rw [List.length_take, hlen]; omega), List.getElem?_take, if_pos hik, hxg _ (by omega)]
      · rw [if_pos (by rw [hnl]; omega), List.getElem?_append_right (by rw [List.length_take, hlen]; omega), List.length_take, hlen, List.getElem?_drop]
        have hin : i - (0 + k * 7) < news.length := by rw [hnl]; omega
        have h1 := hng _ _ (List.getElem?_eq_getElem hin)
        rw [List.getElem?_eq_getElem hin, ← h1, ← hxg _ (by omega)]
        congr 1
        omega
    · rw [List.getElem?_eq_none (by rw [List.length_take]; omega), List.getElem?_eq_none (by rw [List.length_append, List.length_take, List.length_drop, hlen]; omega)]
  · obtain ⟨f1, f2⟩ := HF.out
    refine ⟨by rw [hlr, List.length_append, List.length_take, List.length_drop, hlen]; omega, fun i row hi => ?_⟩
    have hil : i < k + (n - (k + 1)) := by rw [← hlr]; exact (List.getElem?_eq_some_iff.1 hi).1
    rw [List.getElem?_eraseIdx] at hi
    split at hi
    · rename_i hik
      obtain ⟨f3, f4⟩ := f2 i row hi
      refine ⟨f3, fun j x hj => ?_⟩
      have hj7 : j < 7 := by rw [← f3]; exact (List.getElem?_eq_some_iff.1 hj).1
      obtain ⟨f5, v, f6, f7⟩ := f4 j x hj
      refine ⟨f5, v, ?_, f7⟩
      rw [List.getElem?_append_left (by rw [List.length_take, hlen]; omega), List.getElem?_take, if_pos (by omega)]
      exact f6
    · rename_i hik
      obtain ⟨f3, f4⟩ := f2 (i + 1) row hi
      refine ⟨f3, fun j x hj => ?_⟩
      have hj7 : j < 7 := by rw [← f3]; exact (List.getElem?_eq_some_iff.1 hj).1
      obtain ⟨f5, v, f6, f7⟩ := f4 j x hj
      refine ⟨f5, v, ?_, f7⟩
      rw [List.getElem?_append_right (by rw [List.length_take, hlen]; omega), List.length_take, hlen, List.getElem?_drop]
      rw [← f6]
      congr 1
      omega
  · refine grown_setCells itemZ _ ?_
    rw [hW.out]
    exact grown_setCells news _ ⟨rfl, rfl, rfl, Nat.le_refl _, fun _ _ _ => rfl⟩
end Go.Proofs.Ythbejciebmkclaa.Ab
namespace Go.Proofs.Ythbejciebmkclaa.Ab
open Go Go.RowKit
set_option linter.unusedVariables false
set_option linter.unusedSimpArgs false

def isIt (id turn : Int) (i : LItem) : Bool := decide (i.id = id) && decide (i.turn = turn) && i.out
/-- the first place from k on; below 0: none -/
def placeS (p : LItem → Bool) : List LItem → Int → Int
  | [], _ => -1
  | i :: r, k => if p i = true then k else placeS p r (k + 1)
theorem placeS_hit {p : LItem → Bool} : ∀ {l : List LItem} {k : Nat} {s : Int}, k < l.length → (∀ j, j < k → p (l.getD j item0) = false) → p (l.getD k item0) = true → placeS p l s = s + k
  | [], k, s, h, _, _ => by simp at h
  | i :: r, 0, s, h, _, hk => by
    rw [placeS, if_pos (by simpa using hk)]
    simp
  | i :: r, k + 1, s, h, hj, hk => by
    have h0 := hj 0 (by omega)
    rw [placeS, if_neg (by simpa using h0), placeS_hit (k := k) (by simpa using h) (fun j hlt => by simpa using hj (j + 1) (by omega)) (by simpa using hk)]
    omega
theorem placeS_miss {p : LItem → Bool} : ∀ {l : List LItem} {s : Int}, (∀ j, j < l.length → p (l.getD j item0) = false) → placeS p l s = -1
  | [], _, _ => rfl
  | i :: r, s, h => by
    have h0 := h 0 (by simp)
    rw [placeS, if_neg (by simpa using h0), placeS_miss (fun j hlt => by simpa using h (j + 1) (by simpa using hlt))]
set_option maxRecDepth 100000 in
set_option maxHeartbeats 1000000 in
theorem con_find (name : List UInt8) (limit id turn : Int) (l : List LItem) (hl : l.length ≤ 1048576) : Con Try.prog D 128 [.iptr [.str name, .int .i64 limit, .sl 7 (l.map itemRow)], .int .i64 id, .int .i64 turn] ⟨.int .i64 (placeS (isIt id turn) l 0), []⟩ := by
  have hok : GOk Try.prog D (tabG []) := tabG_ok _
  have gn : ∀ f a, tabG ([] : List (Ent Try.prog D)) f a = none := fun f a => rfl
  generalize tabG [] = G at *
  have hcon : ∀ r, r = placeS (isIt id turn) l 0 → Con Try.prog D 128 [.iptr [.str name, .int .i64 limit, .sl 7 (l.map itemRow)], .int .i64 id, .int .i64 turn] ⟨.int .i64 r, []⟩ := by
    intro r hr
    refine con_of (G := G) (rs := [(6, none)]) mixed tok hok Try.func128 rfl (by decide) Try.results128 (by decide) rfl Try.ntmps128 (by simp) (by simp [namess, names]) fun X hP hD hG' hX => evC_sound hX (fun _ => {}) _ _ _ ?_
    simp only [argS, num]
    simp (disch := omega) only [go_sem, Nat.reduceLeDiff, reduceCtorEq, Nat.reduceAdd, Nat.reduceSub, Nat.reduceMul, Nat.reduceLT, Nat.reduceEqDiff, Int.reduceEq, Int.reduceLE, Int.reduceLT, Int.reducePow, Int.reduceMul, Int.reduceToNat, Int.reduceNeg, ↓reduceIte, hD, hG', wrap64, gn, asked_none, unbox, tmv, Option.some.injEq, exists_eq_left']
    refine inl_call (rs := [(4, none)]) hX.types rfl (by rw [hP]; exact Try.func121) rfl (by decide) Try.results121 (by decide) Try.ntmps121 (by simp) (by simp) 70000 noM ?_
    have hX1 := inl_ok hX 70000 MOk.none
    refine evC_sound hX1 (fun _ => {}) _ _ _ ?_
    simp (disch := omega) only [go_sem, Nat.reduceLeDiff, reduceCtorEq, Nat.reduceAdd, Nat.reduceSub, Nat.reduceMul, Nat.reduceLT, Nat.reduceEqDiff, Int.reduceEq, Int.reduceLE, Int.reduceLT, Int.reducePow, Int.reduceMul, Int.reduceToNat, Int.reduceNeg, ↓reduceIte, hD, hG', wrap64, gn, asked_none, enterS, leaveS, shT, unT, resA, num, unbox, Option.some.injEq, exists_eq_left', tmv, unbox, tmv, Option.some.injEq, exists_eq_left']
    have hD1 : ({ P := X.P, D := D, G := G, S := X.S, N0 := X.N0, B := X.B, w0 := X.w0, nb := 70000, M := noM } : Cx).D = D ∧ True := ⟨rfl, trivial⟩
    refine Tr.loop (ι := Nat) (fun i => i ≤ l.length ∧ ∀ j, j < i → isIt id turn (l.getD j item0) = false) (fun i => { nt := 19, tm := [(0, .sl 7 (l.map itemRow)), (1, .func 134 [.ptr 4 0, .ptr 5 0]), (7, .int .i64 l.length), (8, .int .i64 i)], bl := [(4, some (.cells [.int .i64 id])), (5, some (.cells [.int .i64 turn]))] }) (fun i => l.length - i) 0
      ⟨⟨Nat.zero_le _, fun j hj => absurd hj (Nat.not_lt_zero j)⟩, wk_of hD1 [(4, 4), (5, 5)] rfl rfl (by simp only [go_sem, Nat.reduceEqDiff]; simp) (by simp only [go_sem, Nat.reduceEqDiff])⟩ ?_
    rintro i ⟨hi, hnot⟩
    have hX1' : ({ P := X.P, D := D, G := G, S := X.S, N0 := X.N0, B := X.B, w0 := X.w0, nb := 70000, M := noM } : Cx).Ok := by
      rw [hD.1, hG'] at hX1
      exact hX1
    refine evC_sound hX1' (fun _ => {}) _ _ _ ?_
    simp (disch := omega) only [go_sem, Nat.reduceLeDiff, reduceCtorEq, Nat.reduceAdd, Nat.reduceSub, Nat.reduceMul, Nat.reduceLT, Nat.reduceEqDiff, Int.reduceEq, Int.reduceLE, Int.reduceLT, Int.reducePow, Int.reduceMul, Int.reduceToNat, Int.reduceNeg, ↓reduceIte, hD, hG', wrap64, gn, asked_none, unbox, tmv, Option.some.injEq, exists_eq_left']
    refine condK_split (fun h => ?_) (fun h => ?_)
    · rw [decide_eq_true_eq] at h
      have hi1 : i < l.length := by omega
      have hgx := itemGet hi1
      have hit : ∀ x, l.getD i item0 = x → placeS (isIt id turn) l 0 = if isIt id turn x = true then (i : Int) else placeS (isIt id turn) l 0 := fun x hx => by
        split
        · rename_i hp
          rw [placeS_hit hi1 hnot (by rw [hx]; exact hp)]
          omega
        · rfl
      generalize hx : l.getD i item0 = x at *
      have hit := hit x rfl
      obtain ⟨a1, a2, a3, a4, a5, ⟨xp, xb⟩⟩ := x
      simp only [itemRow] at hgx
      simp (disch := omega) only [go_sem, Nat.reduceLeDiff, reduceCtorEq, Nat.reduceAdd, Nat.reduceSub, Nat.reduceMul, Nat.reduceLT, Nat.reduceEqDiff, Int.reduceEq, Int.reduceLE, Int.reduceLT, Int.reducePow, Int.reduceMul, Int.reduceToNat, Int.reduceNeg, ↓reduceIte, hD, hG', wrap64, gn, asked_none, hgx, unbox, tmv, Option.some.injEq, exists_eq_left']
      refine ⟨by omega, inl_call (rs := [(4, none)]) hX1'.types rfl (by show X.P.funcs[_]? = _; rw [hP]; exact Try.func134) rfl (by decide) Try.results134 (by decide) Try.ntmps134 (by simp) (by simp) 140000 noM ?_⟩
      have hX2 := inl_ok hX1' 140000 MOk.none
      refine evC_sound hX2 (fun _ => {}) _ _ _ ?_
      simp (disch := omega) only [go_sem, Nat.reduceLeDiff, reduceCtorEq, Nat.reduceAdd, Nat.reduceSub, Nat.reduceMul, Nat.reduceLT, Nat.reduceEqDiff, Int.reduceEq, Int.reduceLE, Int.reduceLT, Int.reducePow, Int.reduceMul, Int.reduceToNat, Int.reduceNeg, ↓reduceIte, hD, hG', wrap64, gn, asked_none, enterS, leaveS, shT, unT, resA, num, unbox, Option.some.injEq, exists_eq_left', tmv, unbox, tmv, Option.some.injEq, exists_eq_left']
      refine RegT.mk [] ?_
      simp (disch := omega) only [go_sem, Nat.reduceLeDiff, reduceCtorEq, Nat.reduceAdd, Nat.reduceSub, Nat.reduceMul, Nat.reduceLT, Nat.reduceEqDiff, Int.reduceEq, Int.reduceLE, Int.reduceLT, Int.reducePow, Int.reduceMul, Int.reduceToNat, Int.reduceNeg, ↓reduceIte, hD, hG', wrap64, gn, asked_none, enterS, leaveS, shT, unT, resA, num, unbox, Option.some.injEq, exists_eq_left', tmv, unbox, tmv, Option.some.injEq, exists_eq_left']
      and_intros
      all_goals (try (first | (intro hk; refine ⟨hk, fun h2 => ?_⟩; first | (rw [hk, h2]; rfl) | (rw [hk, decide_eq_false h2]; rfl)) | (intro hk; rw [decide_eq_false hk]; rfl) | (intro hk; rw [hk]; rfl)))
      refine condK_split (fun h => ?_) (fun h => ?_)
      · have hp : isIt id turn ⟨a1, a2, a3, a4, a5, ⟨xp, xb⟩⟩ = true := by unfold isIt; grind
        simp (disch := omega) only [go_sem, Nat.reduceLeDiff, reduceCtorEq, Nat.reduceAdd, Nat.reduceSub, Nat.reduceMul, Nat.reduceLT, Nat.reduceEqDiff, Int.reduceEq, Int.reduceLE, Int.reduceLT, Int.reducePow, Int.reduceMul, Int.reduceToNat, Int.reduceNeg, ↓reduceIte, hD, hG', wrap64, gn, asked_none, enterS, leaveS, shT, unT, resA, num, unbox, Option.some.injEq, exists_eq_left', tmv, unbox, tmv, Option.some.injEq, exists_eq_left']
        refine ⟨[], [], rfl, rfl, ?_, ?_⟩ <;> simp only [go_sem, Nat.reduceEqDiff]
        rw [hr, hit, if_pos hp]
      · have hp : isIt id turn ⟨a1, a2, a3, a4, a5, ⟨xp, xb⟩⟩ = false := by unfold isIt; grind
        simp (disch := omega) only [go_sem, Nat.reduceLeDiff, reduceCtorEq, Nat.reduceAdd, Nat.reduceSub, Nat.reduceMul, Nat.reduceLT, Nat.reduceEqDiff, Int.reduceEq, Int.reduceLE, Int.reduceLT, Int.reducePow, Int.reduceMul, Int.reduceToNat, Int.reduceNeg, ↓reduceIte, hD, hG', wrap64, gn, asked_none, enterS, leaveS, shT, unT, resA, num, unbox, Option.some.injEq, exists_eq_left', tmv, unbox, tmv, Option.some.injEq, exists_eq_left']
        refine ⟨i + 1, ⟨⟨by omega, fun j hj => ?_⟩, by omega⟩, wk_of hD1 [(4, 4), (5, 5)] rfl rfl ?_ ?_⟩
        · by_cases hji : j = i
          · rw [hji, hx]; exact hp
          · exact hnot j (by omega)
        all_goals simp only [go_sem, Nat.reduceEqDiff]
        simp
    · rw [decide_eq_false_iff_not] at h
      have hie : i = l.length := by omega
      subst hie
      simp (disch := omega) only [go_sem, Nat.reduceLeDiff, reduceCtorEq, Nat.reduceAdd, Nat.reduceSub, Nat.reduceMul, Nat.reduceLT, Nat.reduceEqDiff, Int.reduceEq, Int.reduceLE, Int.reduceLT, Int.reducePow, Int.reduceMul, Int.reduceToNat, Int.reduceNeg, ↓reduceIte, hD, hG', wrap64, gn, asked_none, enterS, leaveS, shT, unT, resA, num, unbox, Option.some.injEq, exists_eq_left', tmv, unbox, tmv, Option.some.injEq, exists_eq_left']
      refine ⟨[], [], rfl, rfl, ?_, ?_⟩ <;> simp only [go_sem, Nat.reduceEqDiff]
      rw [hr, placeS_miss hnot]
  exact hcon _ rfl
end Go.Proofs.Ythbejciebmkclaa.Ab
namespace Go.Proofs.Ythbejciebmkclaa.Ab
open Go Go.RowKit
set_option linter.unusedVariables false
set_option linter.unusedSimpArgs false

/-- an item goes out of a slice of our own -/
def deleteM : MCtr := fun dn f args bl => if f = 129 then
    match args with
    | [.os v, .int .i64 k, .int .i64 k'] => match bl v with
      | some (.rows e sz rs) => some { v := .os dn, kl := [v], nw := [(dn, .rows e sz (rs.eraseIdx k.toNat))], pre := (e = 65 ∧ sz = 7) ∧ (0 ≤ k ∧ k < rs.length) ∧ k' = k + 1 }
      | _ => none
    | _ => none
  else none
theorem mok_delete {G : Ctr} : MOk Try.prog D G deleteM := by
  intro X hP hD hG hM hmx hT hok ops o σ e hgd he hpre hfr
  obtain ⟨dst, f, args, types, ty, pos, af, g, caps, rfl, hf, he⟩ := mEff_call he hgd
  unfold deleteM at he
  split at he
  case isFalse => cases he
  rename_i hg91
  subst hg91
  split at he
  case h_2 => cases he
  rename_i v k k' hargs
  split at he
  case h_2 => cases he
  rename_i e0 sz rs hbl
  have hbl := snap_some hbl
  injection he with he
  subst he
  obtain ⟨⟨rfl, rfl⟩, ⟨hk0, hk1⟩, rfl⟩ := hpre
  simp only [fresh, keys, unbound, Bool.and_eq_true, Option.isNone_iff_eq_none] at hfr
  refine inl_rows (by rw [hP, hD]; exact hT) hf hargs hbl (by rw [hP]; exact Try.func129) rfl (by decide) hfr.1.1 (fun j hj => ?_) (fun w im ρ u vs xs h1 h2 h3 h4 h5 => ?_)
  · have := hfr.2
    rw [hj] at this
    simpa using this
  · obtain ⟨h6, h7⟩ := h4
    match vs, h6 with
    | [y, z], _ =>
      have hy := (h7 0 _ y rfl rfl).int_
      have hz := (h7 1 _ z rfl rfl).int_
      obtain ⟨k, rfl⟩ := Int.eq_ofNat_of_zero_le hk0
      rw [hy, hz, hP]
      exact delete_calls rs k (by omega) w im ρ u xs h1 h2
theorem erase_map {α β : Type} (f : α → β) : ∀ (l : List α) (k : Nat), (l.map f).eraseIdx k = (l.eraseIdx k).map f
  | [], _ => rfl
  | a :: r, 0 => rfl
  | a :: r, k + 1 => by simp [erase_map f r k]
theorem set_get {α : Type} {l : List α} {k : Nat} {x d : α} (h : k < l.length) : (l.set k x).getD k d = x := by simp [h]
theorem placeS_range {p : LItem → Bool} : ∀ {l : List LItem}, placeS p l 0 = -1 ∨ (0 ≤ placeS p l 0 ∧ placeS p l 0 < l.length) := by
  have key : ∀ (l : List LItem) (s : Int), 0 ≤ s → placeS p l s = -1 ∨ (s ≤ placeS p l s ∧ placeS p l s < s + l.length) := by
    intro l
    induction l with
    | nil => intro s hs; exact .inl rfl
    | cons i r ih =>
      intro s hs
      rw [placeS]
      split
      · exact .inr ⟨Int.le_refl _, by simp only [List.length_cons]; omega⟩
      · rcases ih (s + 1) (by omega) with h | h
        · exact .inl h
        · exact .inr ⟨by omega, by simp only [List.length_cons]; omega⟩
  intro l
  have := key l 0 (Int.le_refl _)
  omega
def eOwnq : Ent Try.prog D := ⟨93, LQueue, fun q => [queueA q], LQueue.Fits, fun q => ⟨.agg [.str q.name.data.toList, .int .i64 q.limit, .os 0], [(65, 7, q.items.map itemRow)]⟩, fun x y _ _ h => by
  simp only [List.cons.injEq, and_true] at h
  rw [queueA_inj h], con_ownq⟩
def putS (q : LQueue) (id : Int) (n : LNote) : LQueue × Int :=
  if q.limit ≤ q.items.length then (queue0, 8) else ({ q with items := q.items ++ [⟨id, 0, 0, false, 0, n⟩] }, 0)
def doneS (q : LQueue) (id turn : Int) : LQueue × Int :=
  if placeS (isIt id turn) q.items 0 < 0 then (queue0, 6) else ({ q with items := q.items.eraseIdx (placeS (isIt id turn) q.items 0).toNat }, 0)
def putLo : Nat → Lo := fun id => match id with | 4 => {uo := [7, 9], un := [8], ex := [0, 1, 2, 3, 4, 5, 6], kn := [4113]} | _ => {}
set_option maxRecDepth 100000 in
set_option maxHeartbeats 1000000 in
theorem con_putq (q : LQueue) (id : Int) (n : LNote) (hq : q.Fits) (hn : n.Fits) : Con Try.prog D 127 [queueA q, .int .i64 id, noteA n] ⟨.tup [queueA (putS q id n).1, .int .i64 (putS q id n).2], []⟩ := by
  have hok : GOk Try.prog D (tabG [eOwnq, eOwn1]) := tabG_ok _
  have g1 : tabG [eOwnq, eOwn1] 93 [queueA q] = some ⟨.agg [.str q.name.data.toList, .int .i64 q.limit, .os 0], [(65, 7, q.items.map itemRow)]⟩ := tabG_at (E := eOwnq) (T := [eOwnq, eOwn1]) (i := 0) rfl (by decide) q hq rfl rfl
  have g2 : tabG [eOwnq, eOwn1] 82 [noteA n] = some ⟨noteA n, []⟩ := tabG_at (E := eOwn1) (T := [eOwnq, eOwn1]) (i := 1) rfl (by decide) n hn rfl rfl
  have hl := hq.1
  generalize tabG [eOwnq, eOwn1] = G at *
  obtain ⟨np, nb⟩ := n
  obtain ⟨name, limit, items⟩ := q
  simp only [noteA, queueA] at g1 g2 hl
  have hcon : ∀ r, r = putS ⟨name, limit, items⟩ id ⟨np, nb⟩ → Con Try.prog D 127 [queueA ⟨name, limit, items⟩, .int .i64 id, noteA ⟨np, nb⟩] ⟨.tup [queueA r.1, .int .i64 r.2], []⟩ := by
    intro r hr
    refine con_of (G := G) (rs := [(6, some 71), (7, none)]) mixed tok hok Try.func127 rfl (by decide) Try.results127 (by decide) rfl Try.ntmps127 (by simp) (by simp [queueA, noteA, namess, names]) fun X hP hD hG' hX => evC_sound hX putLo _ _ _ ?_
    by_cases hfull : limit ≤ items.length
    · have hd : decide ((items.length : Int) ≥ limit) = true := by simpa using hfull
      simp only [argS, num, queueA, noteA]
      simp (disch := omega) only [go_sem, Nat.reduceLeDiff, reduceCtorEq, Nat.reduceAdd, Nat.reduceSub, Nat.reduceMul, Nat.reduceLT, Nat.reduceEqDiff, Int.reduceEq, Int.reduceLE, Int.reduceLT, Int.reducePow, Int.reduceMul, Int.reduceToNat, Int.reduceNeg, ↓reduceIte, hD, hG', wrap64, g1, g2, putLo, hd]
      simp (disch := omega) only [go_sem, Nat.reduceLeDiff, reduceCtorEq, Nat.reduceAdd, Nat.reduceSub, Nat.reduceMul, Nat.reduceLT, Nat.reduceEqDiff, Int.reduceEq, Int.reduceLE, Int.reduceLT, Int.reducePow, Int.reduceMul, Int.reduceToNat, Int.reduceNeg, ↓reduceIte, hD, hG', wrap64, unbox, tmv, Option.some.injEq, exists_eq_left']
      refine ⟨[], [], rfl, rfl, ?_, ?_⟩ <;> simp only [go_sem, Nat.reduceEqDiff]
      subst hr
      unfold putS
      rw [if_pos hfull]
      simp [queue0]
    · have hd : decide ((items.length : Int) ≥ limit) = false := by simpa using hfull
      simp only [argS, num, queueA, noteA]
      simp (disch := omega) only [go_sem, Nat.reduceLeDiff, reduceCtorEq, Nat.reduceAdd, Nat.reduceSub, Nat.reduceMul, Nat.reduceLT, Nat.reduceEqDiff, Int.reduceEq, Int.reduceLE, Int.reduceLT, Int.reducePow, Int.reduceMul, Int.reduceToNat, Int.reduceNeg, ↓reduceIte, hD, hG', wrap64, g1, g2, putLo, hd]
      ((try and_intros); all_goals (try first | omega | decide | (simp; done) | (simp only [List.length_append, List.length_cons, List.length_nil, List.length_map]; omega)))
      simp (disch := omega) only [go_sem, Nat.reduceLeDiff, reduceCtorEq, Nat.reduceAdd, Nat.reduceSub, Nat.reduceMul, Nat.reduceLT, Nat.reduceEqDiff, Int.reduceEq, Int.reduceLE, Int.reduceLT, Int.reducePow, Int.reduceMul, Int.reduceToNat, Int.reduceNeg, ↓reduceIte, hD, hG', wrap64, unbox, tmv, Option.some.injEq, exists_eq_left']
      refine ⟨[25], [], rfl, rfl, ?_, ?_⟩ <;> simp only [go_sem, Nat.reduceEqDiff]
      subst hr
      unfold putS
      rw [if_neg hfull]
      simp [itemRow]
  exact hcon _ rfl
set_option maxRecDepth 100000 in
set_option maxHeartbeats 1000000 in
theorem con_doneq (q : LQueue) (id turn : Int) (hq : q.Fits) : Con Try.prog D 99 [queueA q, .int .i64 id, .int .i64 turn] ⟨.tup [queueA (doneS q id turn).1, .int .i64 (doneS q id turn).2], []⟩ := by
  have hok : GOk Try.prog D (tabG [eOwnq]) := tabG_ok _
  have g1 : tabG [eOwnq] 93 [queueA q] = some ⟨.agg [.str q.name.data.toList, .int .i64 q.limit, .os 0], [(65, 7, q.items.map itemRow)]⟩ := tabG_at (E := eOwnq) (T := [eOwnq]) (i := 0) rfl (by decide) q hq rfl rfl
  have gn : ∀ a, tabG [eOwnq] 128 a = none := fun a => rfl
  have gd : ∀ a, tabG [eOwnq] 129 a = none := fun a => rfl
  have hl := hq.1
  generalize tabG [eOwnq] = G at *
  obtain ⟨name, limit, items⟩ := q
  simp only [queueA] at g1 hl
  have hcf := con_find name.data.toList limit id turn items hl
  have hpl := @placeS_range (isIt id turn) items
  have hcon : ∀ r, r = doneS ⟨name, limit, items⟩ id turn → Con Try.prog D 99 [queueA ⟨name, limit, items⟩, .int .i64 id, .int .i64 turn] ⟨.tup [queueA r.1, .int .i64 r.2], []⟩ := by
    intro r hr
    unfold doneS at hr
    generalize placeS (isIt id turn) items 0 = k at *
    refine con_ofM mok_delete (G := G) (rs := [(6, some 71), (7, none)]) mixed tok hok Try.func99 rfl (by decide) Try.results99 (by decide) rfl Try.ntmps99 (by simp) (by simp [queueA, namess, names]) fun X hP hD hG' hX => evC_sound hX (fun _ => {}) _ _ _ ?_
    simp only [argS, num, queueA]
    generalize hnl : name.data.toList = nl at *
    simp (disch := omega) only [go_sem, Nat.reduceLeDiff, reduceCtorEq, Nat.reduceAdd, Nat.reduceSub, Nat.reduceMul, Nat.reduceLT, Nat.reduceEqDiff, Int.reduceEq, Int.reduceLE, Int.reduceLT, Int.reducePow, Int.reduceMul, Int.reduceToNat, Int.reduceNeg, ↓reduceIte, hD, hG', wrap64, g1, gn, gd, asked_none, deleteM]
    refine inl_read (r := .int .i64 k) rfl rfl (by rw [hP, hD.1]; exact hcf) rfl (by simp) ?_
    simp (disch := omega) only [go_sem, Nat.reduceLeDiff, reduceCtorEq, Nat.reduceAdd, Nat.reduceSub, Nat.reduceMul, Nat.reduceLT, Nat.reduceEqDiff, Int.reduceEq, Int.reduceLE, Int.reduceLT, Int.reducePow, Int.reduceMul, Int.reduceToNat, Int.reduceNeg, ↓reduceIte, hD, hG', wrap64, g1, gn, gd, asked_none, deleteM]
    refine condK_split (fun h => ?_) (fun h => ?_)
    · rw [decide_eq_true_eq] at h
      simp (disch := omega) only [go_sem, Nat.reduceLeDiff, reduceCtorEq, Nat.reduceAdd, Nat.reduceSub, Nat.reduceMul, Nat.reduceLT, Nat.reduceEqDiff, Int.reduceEq, Int.reduceLE, Int.reduceLT, Int.reducePow, Int.reduceMul, Int.reduceToNat, Int.reduceNeg, ↓reduceIte, hD, hG', wrap64, g1, gn, gd, asked_none, deleteM]
      simp (disch := omega) only [go_sem, Nat.reduceLeDiff, reduceCtorEq, Nat.reduceAdd, Nat.reduceSub, Nat.reduceMul, Nat.reduceLT, Nat.reduceEqDiff, Int.reduceEq, Int.reduceLE, Int.reduceLT, Int.reducePow, Int.reduceMul, Int.reduceToNat, Int.reduceNeg, ↓reduceIte, hD, hG', wrap64, unbox, tmv, Option.some.injEq, exists_eq_left']
      refine ⟨[], [], rfl, rfl, ?_, ?_⟩ <;> simp only [go_sem, Nat.reduceEqDiff]
      rw [hr, if_pos h]
      simp [queue0]
    · rw [decide_eq_false_iff_not] at h
      have h1 : 0 ≤ k ∧ k < items.length := by omega
      simp (disch := omega) only [go_sem, Nat.reduceLeDiff, reduceCtorEq, Nat.reduceAdd, Nat.reduceSub, Nat.reduceMul, Nat.reduceLT, Nat.reduceEqDiff, Int.reduceEq, Int.reduceLE, Int.reduceLT, Int.reducePow, Int.reduceMul, Int.reduceToNat, Int.reduceNeg, ↓reduceIte, hD, hG', wrap64, g1, gn, gd, asked_none, deleteM]
      ((try and_intros); all_goals (try first | omega | decide | (simp; done) | (simp only [List.length_append, List.length_cons, List.length_nil, List.length_map]; omega)))
      simp (disch := omega) only [go_sem, Nat.reduceLeDiff, reduceCtorEq, Nat.reduceAdd, Nat.reduceSub, Nat.reduceMul, Nat.reduceLT, Nat.reduceEqDiff, Int.reduceEq, Int.reduceLE, Int.reduceLT, Int.reducePow, Int.reduceMul, Int.reduceToNat, Int.reduceNeg, ↓reduceIte, hD, hG', wrap64, unbox, tmv, Option.some.injEq, exists_eq_left']
      refine ⟨[23], [], rfl, rfl, ?_, ?_⟩ <;> simp only [go_sem, Nat.reduceEqDiff]
      rw [hr, if_neg h]
      simp [erase_map, hnl]
  exact hcon _ rfl
def backI (i : LItem) : LItem := { i with out := false, due := 0, tries := i.tries + 1 }
def backS (q : LQueue) (id turn : Int) : LQueue × LItem × Bool × Int :=
  if placeS (isIt id turn) q.items 0 < 0 then (queue0, item0, false, 6)
  else if (backI (q.items.getD (placeS (isIt id turn) q.items 0).toNat item0)).tries < 3 then ({ q with items := q.items.set (placeS (isIt id turn) q.items 0).toNat (backI (q.items.getD (placeS (isIt id turn) q.items 0).toNat item0)) }, item0, false, 0)
  else ({ q with items := q.items.eraseIdx (placeS (isIt id turn) q.items 0).toNat }, backI (q.items.getD (placeS (isIt id turn) q.items 0).toNat item0), true, 0)
def LQueue.Ok (q : LQueue) : Prop := q.Fits ∧ ∀ i ∈ q.items, (-1000000 ≤ i.turn ∧ i.turn ≤ 1000000) ∧ -1000000 ≤ i.tries ∧ i.tries ≤ 1000000
def backLo : Nat → Lo := fun id => match id with | 12 => {uo := [2, 3], un := [6, 7]} | _ => {}
set_option maxRecDepth 100000 in
set_option maxHeartbeats 2000000 in
theorem con_backq (q : LQueue) (id turn : Int) (hq : q.Ok) : Con Try.prog D 100 [queueA q, .int .i64 id, .int .i64 turn] ⟨.tup [queueA (backS q id turn).1, itemA (backS q id turn).2.1, .bool (backS q id turn).2.2.1, .int .i64 (backS q id turn).2.2.2], []⟩ := by
  have hok : GOk Try.prog D (tabG [eOwnq]) := tabG_ok _
  have g1 : tabG [eOwnq] 93 [queueA q] = some ⟨.agg [.str q.name.data.toList, .int .i64 q.limit, .os 0], [(65, 7, q.items.map itemRow)]⟩ := tabG_at (E := eOwnq) (T := [eOwnq]) (i := 0) rfl (by decide) q hq.1 rfl rfl
  have gn : ∀ a, tabG [eOwnq] 128 a = none := fun a => rfl
  have gd : ∀ a, tabG [eOwnq] 129 a = none := fun a => rfl
  have hl := hq.1.1
  have hb := hq.2
  generalize tabG [eOwnq] = G at *
  obtain ⟨name, limit, items⟩ := q
  simp only [queueA] at g1 hl hb
  have hcf := con_find name.data.toList limit id turn items hl
  have hpl := @placeS_range (isIt id turn) items
  have hcon : ∀ r, r = backS ⟨name, limit, items⟩ id turn → Con Try.prog D 100 [queueA ⟨name, limit, items⟩, .int .i64 id, .int .i64 turn] ⟨.tup [queueA r.1, itemA r.2.1, .bool r.2.2.1, .int .i64 r.2.2.2], []⟩ := by
    intro r hr
    unfold backS at hr
    generalize placeS (isIt id turn) items 0 = k at *
    refine con_ofM mok_delete (G := G) (rs := [(6, some 71), (7, some 65), (8, none), (9, none)]) mixed tok hok Try.func100 rfl (by decide) Try.results100 (by decide) rfl Try.ntmps100 (by simp) (by simp [queueA, namess, names]) fun X hP hD hG' hX => evC_sound hX backLo _ _ _ ?_
    simp only [argS, num, queueA]
    generalize hnl : name.data.toList = nl at *
    simp (disch := omega) only [go_sem, Nat.reduceLeDiff, reduceCtorEq, Nat.reduceAdd, Nat.reduceSub, Nat.reduceMul, Nat.reduceLT, Nat.reduceEqDiff, Int.reduceEq, Int.reduceLE, Int.reduceLT, Int.reducePow, Int.reduceMul, Int.reduceToNat, Int.reduceNeg, ↓reduceIte, hD, hG', wrap64, g1, gn, gd, asked_none, deleteM, backLo]
    refine inl_read (r := .int .i64 k) rfl rfl (by rw [hP, hD.1]; exact hcf) rfl (by simp) ?_
    simp (disch := omega) only [go_sem, Nat.reduceLeDiff, reduceCtorEq, Nat.reduceAdd, Nat.reduceSub, Nat.reduceMul, Nat.reduceLT, Nat.reduceEqDiff, Int.reduceEq, Int.reduceLE, Int.reduceLT, Int.reducePow, Int.reduceMul, Int.reduceToNat, Int.reduceNeg, ↓reduceIte, hD, hG', wrap64, g1, gn, gd, asked_none, deleteM, backLo]
    refine condK_split (fun h => ?_) (fun h => ?_)
    · rw [decide_eq_true_eq] at h
      simp (disch := omega) only [go_sem, Nat.reduceLeDiff, reduceCtorEq, Nat.reduceAdd, Nat.reduceSub, Nat.reduceMul, Nat.reduceLT, Nat.reduceEqDiff, Int.reduceEq, Int.reduceLE, Int.reduceLT, Int.reducePow, Int.reduceMul, Int.reduceToNat, Int.reduceNeg, ↓reduceIte, hD, hG', wrap64, g1, gn, gd, asked_none, deleteM, backLo]
      simp (disch := omega) only [go_sem, Nat.reduceLeDiff, reduceCtorEq, Nat.reduceAdd, Nat.reduceSub, Nat.reduceMul, Nat.reduceLT, Nat.reduceEqDiff, Int.reduceEq, Int.reduceLE, Int.reduceLT, Int.reducePow, Int.reduceMul, Int.reduceToNat, Int.reduceNeg, ↓reduceIte, hD, hG', wrap64, unbox, tmv, Option.some.injEq, exists_eq_left']
      simp only [itemA, itemRow]
      refine ⟨[], [], rfl, rfl, ?_, ?_⟩ <;> simp only [go_sem, Nat.reduceEqDiff]
      rw [hr, if_pos h]
      simp [queue0, item0, note0]
    · rw [decide_eq_false_iff_not] at h
      rw [if_neg h] at hr
      have h1 : 0 ≤ k ∧ k < items.length := by omega
      obtain ⟨k, rfl⟩ := Int.eq_ofNat_of_zero_le h1.1
      have hk : k < items.length := by omega
      have hgx := itemGet hk
      have hbx : (-1000000 ≤ (items.getD k item0).turn ∧ (items.getD k item0).turn ≤ 1000000) ∧ -1000000 ≤ (items.getD k item0).tries ∧ (items.getD k item0).tries ≤ 1000000 := by
        have : items.getD k item0 = items[k] := by simp [hk]
        rw [this]
        exact hb _ (List.getElem_mem hk)
      have hsg : ∀ x d : List AV, ((items.map itemRow).set k x).getD k d = x := fun x d => set_get (by simpa using hk)
      simp only [Int.toNat_natCast] at hr
      generalize items.getD k item0 = x at *
      obtain ⟨a1, a2, a3, a4, a5, ⟨xp, xb⟩⟩ := x
      simp only [itemRow, backI] at hgx hr hbx
      simp (disch := omega) only [go_sem, Nat.reduceLeDiff, reduceCtorEq, Nat.reduceAdd, Nat.reduceSub, Nat.reduceMul, Nat.reduceLT, Nat.reduceEqDiff, Int.reduceEq, Int.reduceLE, Int.reduceLT, Int.reducePow, Int.reduceMul, Int.reduceToNat, Int.reduceNeg, ↓reduceIte, hD, hG', wrap64, g1, gn, gd, asked_none, deleteM, backLo, hgx, hsg, List.set_set, Int.toNat_natCast]
      refine ⟨by omega, by simpa using hk, by simpa using hk, by simpa using hk, condK_split (fun h3 => ?_) (fun h3 => ?_)⟩
      · rw [decide_eq_true_eq] at h3
        simp (disch := omega) only [go_sem, Nat.reduceLeDiff, reduceCtorEq, Nat.reduceAdd, Nat.reduceSub, Nat.reduceMul, Nat.reduceLT, Nat.reduceEqDiff, Int.reduceEq, Int.reduceLE, Int.reduceLT, Int.reducePow, Int.reduceMul, Int.reduceToNat, Int.reduceNeg, ↓reduceIte, hD, hG', wrap64, g1, gn, gd, asked_none, deleteM, backLo]
        ((try and_intros); all_goals (try first | omega | decide | (simp; done) | (simp only [List.length_append, List.length_cons, List.length_nil, List.length_map]; omega)))
        simp (disch := omega) only [go_sem, Nat.reduceLeDiff, reduceCtorEq, Nat.reduceAdd, Nat.reduceSub, Nat.reduceMul, Nat.reduceLT, Nat.reduceEqDiff, Int.reduceEq, Int.reduceLE, Int.reduceLT, Int.reducePow, Int.reduceMul, Int.reduceToNat, Int.reduceNeg, ↓reduceIte, hD, hG', wrap64, unbox, tmv, Option.some.injEq, exists_eq_left']
        simp only [itemA, itemRow]
        refine ⟨[4111], [], rfl, rfl, ?_, ?_⟩ <;> simp only [go_sem, Nat.reduceEqDiff]
        simp only [hr, h3, if_true]
        simp [item0, note0, hnl, itemRow]
      · rw [decide_eq_false_iff_not] at h3
        simp (disch := omega) only [go_sem, Nat.reduceLeDiff, reduceCtorEq, Nat.reduceAdd, Nat.reduceSub, Nat.reduceMul, Nat.reduceLT, Nat.reduceEqDiff, Int.reduceEq, Int.reduceLE, Int.reduceLT, Int.reducePow, Int.reduceMul, Int.reduceToNat, Int.reduceNeg, ↓reduceIte, hD, hG', wrap64, g1, gn, gd, asked_none, deleteM, backLo, hgx, hsg, List.set_set, Int.toNat_natCast]
        refine ⟨⟨by omega, by simpa using hk⟩, by decide, ?_⟩
        simp (disch := omega) only [go_sem, Nat.reduceLeDiff, reduceCtorEq, Nat.reduceAdd, Nat.reduceSub, Nat.reduceMul, Nat.reduceLT, Nat.reduceEqDiff, Int.reduceEq, Int.reduceLE, Int.reduceLT, Int.reducePow, Int.reduceMul, Int.reduceToNat, Int.reduceNeg, ↓reduceIte, hD, hG', wrap64, unbox, tmv, Option.some.injEq, exists_eq_left']
        simp only [itemA, itemRow]
        refine ⟨[55], [], rfl, rfl, ?_, ?_⟩ <;> simp only [go_sem, Nat.reduceEqDiff]
        simp only [hr, h3, if_false]
        simp [hnl, itemRow, erase_map, List.eraseIdx_set_eq]
  exact hcon _ rfl
end Go.Proofs.Ythbejciebmkclaa.Ab
namespace Go.Proofs.Ythbejciebmkclaa.Ab
open Go
set_option linter.unusedVariables false
set_option linter.unusedSimpArgs false

mutual
theorem Rel.unfz {w : World} {im : Nat → Prop} {ρ : Env} {ns : List Nat} {bl : Nat → Option Blk} : ∀ {x : AV} {v : Value}, Rel w im ρ (fz ns bl x) v → Rel w im ρ (kl ns x) v
  | .os t, v, h => by
    simp only [fz] at h
    simp only [kl]
    split
    · exact .junk _
    · rename_i hm
      rw [if_neg hm] at h
      exact h
  | .agg cs, v, h => by
    simp only [fz, fzs_eq] at h
    simp only [kl, kls_eq]
    cases h with
    | agg _ vs hl h1 hval =>
      refine .agg _ vs (by simpa using hl) h1 fun i x v hx hv => ?_
      rw [List.getElem?_map] at hx
      obtain ⟨y, hy, rfl⟩ := Option.map_eq_some_iff.1 hx
      exact unfzs hy (hval i _ v (by rw [List.getElem?_map, hy]; rfl) hv)
  | .tup cs, v, h => by
    simp only [fz, fzs_eq] at h
    simp only [kl, kls_eq]
    cases h with
    | tup _ vs hl hval =>
      refine .tup _ vs (by simpa using hl) fun i x v hx hv => ?_
      rw [List.getElem?_map] at hx
      obtain ⟨y, hy, rfl⟩ := Option.map_eq_some_iff.1 hx
      exact unfzs hy (hval i _ v (by rw [List.getElem?_map, hy]; rfl) hv)
  | .func f cs, v, h => by
    simp only [fz, fzs_eq] at h
    simp only [kl, kls_eq]
    cases h with
    | func _ _ vs hl hval =>
      refine .func f _ vs (by simpa using hl) fun i x v hx hv => ?_
      rw [List.getElem?_map] at hx
      obtain ⟨y, hy, rfl⟩ := Option.map_eq_some_iff.1 hx
      exact unfzs hy (hval i _ v (by rw [List.getElem?_map, hy]; rfl) hv)
  | .opt g x, v, h => by
    simp only [fz] at h
    simp only [kl]
    cases h with
    | opt _ _ _ h1 h2 => exact .opt g _ v (fun hg => Rel.unfz (h1 hg)) h2
  | .ptr _ _, v, h => by simpa only [fz, kl] using h
  | .tsl _ _, v, h => by simpa only [fz, kl] using h
  | .eptr _ _ _, v, h => by simpa only [fz, kl] using h
  | .junk, v, h => by simpa only [fz, kl] using h
  | .int _ _, v, h => by simpa only [fz, kl] using h
  | .bool _, v, h => by simpa only [fz, kl] using h
  | .str _, v, h => by simpa only [fz, kl] using h
  | .nils, v, h => by simpa only [fz, kl] using h
  | .sl _ _, v, h => by simpa only [fz, kl] using h
  | .iptr _, v, h => by simpa only [fz, kl] using h
  | .lsl _, v, h => by simpa only [fz, kl] using h
  | .imap _, v, h => by simpa only [fz, kl] using h
  | .nilp, v, h => by simpa only [fz, kl] using h
theorem unfzs {w : World} {im : Nat → Prop} {ρ : Env} {ns : List Nat} {bl : Nat → Option Blk} : ∀ {cs : List AV} {i : Nat} {x : AV} {v : Value}, cs[i]? = some x → Rel w im ρ (fz ns bl x) v → Rel w im ρ (kl ns x) v
  | [], _, _, _, hx, _ => by simp at hx
  | c :: r, 0, x, v, hx, h => by
    simp at hx
    subst hx
    exact Rel.unfz h
  | c :: r, i + 1, x, v, hx, h => unfzs (cs := r) (i := i) (by simpa using hx) h
end
section
variable {D : Nat → TI} {S N0 : Nat → Prop} {B : Nat} {w0 : W0} {ρ : Env} {σ : AS} {a : Act} {w : World}
theorem keepF_fz_kl {ns : List Nat} {bl : Nat → Option Blk} : ∀ foc : List (Nat × Nat × Nat), keepF (fz ns bl) foc = keepF (kl ns) foc
  | [] => rfl
  | (i, j, m) :: r => by
    simp only [keepF, fz, kl]
    rw [keepF_fz_kl r]
    by_cases h : mem m ns = true
    · simp only [h, if_true]
      cases rowsAt bl m with
      | none => rfl
      | some q => obtain ⟨e, sz, rs⟩ := q; rfl
    · simp only [h, Bool.false_eq_true, if_false]
theorem Mak.unfreeze (h : St0 D S N0 B w0 ρ σ a w) {v : AV} {nw : List (Nat × Blk)} {ns : List Nat} {u : Value} {w' : World} (hm : Mak D S N0 B w0 σ a { v := v, nw := nw, fr := ns } u w') : Mak D S N0 B w0 σ a { v := v, nw := nw, kl := ns } u w' := by
  by_cases hns : ns = []
  · subst hns; exact hm
  obtain ⟨ρ', h1, h2, h3⟩ := hm
  have hb1 : ∀ n, blk (stepS (freeze σ ns) [] nw []) n = match get n nw with | some y => some y | none => if n ∈ ns then none else (blk σ n).map (mapBlk (fz ns (blk σ))) := fun n => by
    rw [blk_step]
    cases get n nw with
    | some y => rfl
    | none =>
      simp only [get, List.not_mem_nil, if_false]
      rw [blk_freeze]
      split
      · rfl
      · cases blk σ n with
        | none => rfl
        | some x => simp [mapBlk_kl_nil]
  have hb2 : ∀ n, blk (stepS σ ns nw []) n = match get n nw with | some y => some y | none => if n ∈ ns then none else (blk σ n).map (mapBlk (kl ns)) := fun n => by
    rw [blk_step]
    cases get n nw with
    | some y => rfl
    | none => simp only [get]
  have hrel : ∀ n x2, blk (stepS σ ns nw []) n = some x2 → ∃ x1, blk (stepS (freeze σ ns) [] nw []) n = some x1 ∧ (x1 = x2 ∧ (get n nw).isSome = true ∨ ∃ y, blk σ n = some y ∧ n ∉ ns ∧ x1 = mapBlk (fz ns (blk σ)) y ∧ x2 = mapBlk (kl ns) y) ∧ ∀ b, owns ρ' n x2 b ↔ owns ρ' n x1 b := fun n x2 hx => by
    rw [hb2] at hx
    rw [hb1]
    split at hx
    · rename_i heq
      cases hx
      exact ⟨_, rfl, .inl ⟨rfl, by rw [heq]; rfl⟩, fun _ => Iff.rfl⟩
    · split at hx
      · cases hx
      · rename_i hn
        obtain ⟨y, hy, rfl⟩ := mapBlk_some hx
        rw [hy, if_neg hn]
        exact ⟨_, rfl, .inr ⟨y, rfl, hn, rfl, rfl⟩, fun _ => owns_map.trans owns_map.symm⟩
  have hsome : ∀ n, (blk (stepS (freeze σ ns) [] nw []) n).isSome = (blk (stepS σ ns nw []) n).isSome := fun n => by
    rw [hb1, hb2]
    split
    · rfl
    · split
      · rfl
      · simp
  have hsm : ∀ n x1, blk (stepS (freeze σ ns) [] nw []) n = some x1 → ∃ x2, blk (stepS σ ns nw []) n = some x2 := fun n x1 hx => by
    have := hsome n
    rw [hx] at this
    exact Option.isSome_iff_exists.1 this.symm
  have him : imOf S N0 B w' ρ' (blk (stepS (freeze σ ns) [] nw [])) = imOf S N0 B w' ρ' (blk (stepS σ ns nw [])) := by
    funext b
    refine propext ⟨fun ⟨q1, q2, q3⟩ => ⟨q1, q2, fun n x hx => ?_⟩, fun ⟨q1, q2, q3⟩ => ⟨q1, q2, fun n x hx => ?_⟩⟩
    · obtain ⟨x1, hx1, _, ho⟩ := hrel n x hx
      exact fun hb => q3 n x1 hx1 ((ho b).1 hb)
    · obtain ⟨x2, hx2⟩ := hsm n x hx
      obtain ⟨x1, hx1, _, ho⟩ := hrel n x2 hx2
      rw [hx] at hx1
      cases hx1
      exact fun hb => q3 n x2 hx2 ((ho b).2 hb)
  have hold : ∀ n, (blk σ n).isSome = true → n ∉ ns → (blk (stepS σ ns nw []) n).isSome = true := fun n hn hns => by
    rw [hb2]
    split
    · rfl
    · simpa [hns] using hn
  refine ⟨ρ', ⟨fun t x hx => ?_, ⟨fun n x hx => ?_, fun n m b x y hx hy => ?_, fun n x b hx => ?_, fun b hb => hb.1, fun n cs hx m hm => ?_⟩, h.nt, h1.base, h1.frm, fun n x b hx => ?_, h1.defers⟩, ?_, fun n hn => ?_⟩
  · have hx' : get t (kill σ ns).tm = some x := hx
    rw [get_tm_kl] at hx'
    obtain ⟨y, hy, rfl⟩ := Option.map_eq_some_iff.1 hx'
    have := (h1.tm t (fz ns (blk σ) y) (by
      show get t (kill (freeze σ ns) []).tm = _
      rw [kill_nil, get_tm_freeze_eq, hy]
      simp [hns])).1
    rw [him] at this
    refine ⟨this.unfz, fun n hn => ?_⟩
    obtain ⟨q1, q2⟩ := names_kl ns y n hn
    exact hold n ((h.tm t y hy).2 n q1) q2
  · obtain ⟨x1, hx1, hq, _⟩ := hrel n x hx
    have hB := h1.hp.blk n x1 hx1
    show BRel D w' (imOf S N0 B w' ρ' (blk (stepS σ ns nw []))) ρ' n x
    rw [← him]
    rcases hq with ⟨rfl, _⟩ | ⟨y, hy, hn, rfl, rfl⟩
    · exact hB
    · cases y with
      | rows e sz rs => exact hB
      | deep e sz rs cols foc =>
        simp only [mapBlk, keepF_fz_kl] at hB ⊢
        exact hB
      | cells cs =>
        obtain ⟨b, arr, T, q1, q2, q3, q4⟩ := hB
        refine ⟨b, arr, T, q1, q2, by simpa using q3, fun i x v hx hv => ?_⟩
        rw [List.getElem?_map] at hx
        obtain ⟨z, hz, rfl⟩ := Option.map_eq_some_iff.1 hx
        obtain ⟨p1, p2⟩ := q4 i (fz ns (blk σ) z) v (by rw [List.getElem?_map, hz]; rfl) hv
        exact ⟨p1, p2.unfz⟩
  · obtain ⟨x1, hx1, _, ho⟩ := hrel n x hx
    obtain ⟨y1, hy1, _, ho'⟩ := hrel m y hy
    exact fun p1 p2 => h1.hp.inj n m b x1 y1 hx1 hy1 ((ho b).1 p1) ((ho' b).1 p2)
  · obtain ⟨x1, hx1, _, ho⟩ := hrel n x hx
    show owns ρ' n x b → ¬ imOf S N0 B w' ρ' (blk (stepS σ ns nw [])) b
    rw [← him]
    exact fun p1 => h1.hp.off n x1 b hx1 ((ho b).1 p1)
  · obtain ⟨x1, hx1, hq, _⟩ := hrel n _ hx
    rcases hq with ⟨rfl, _⟩ | ⟨y, hy, hn, rfl, rfl⟩
    · have := h1.hp.clos n _ hx1 m hm
      rw [hsome] at this
      exact this
    · obtain ⟨p1, p2⟩ := bnames_kl hm
      exact hold m (h.hp.clos n y hy m p1) p2
  · obtain ⟨x1, hx1, _, ho⟩ := hrel n x hx
    exact fun p1 => h1.own n x1 b hx1 ((ho b).1 p1)
  · have h2' : Rel w' (imOf S N0 B w' ρ' (blk (stepS (freeze σ ns) [] nw []))) ρ' v u := h2
    rw [him] at h2'
    exact h2'
  · have := h3 n hn
    show (blk (stepS σ ns nw []) n).isSome = true
    rw [← hsome]
    exact this
end
/-- a call by contract, whose own slices go with it -/
theorem inl_kill {X : Cx} {ops : Array Oper} {σ : AS} {dst : Option Nat} {f : Operand} {args : Array Operand} {types : Array TypeId} {ty : Nat} {pos : String} {af : Array Edge} {g dn : Nat} {caps xs : List AV} {r : Res} {e : Eff} (hf : ev σ f = .func g caps)
    {bl : Nat → Option Blk} (hbl : ∀ n x, bl n = some x → blk σ n = some x)
    (hxs : fzs (osIn (args.toList.map (ev σ) ++ caps)) bl (args.toList.map (ev σ) ++ caps) = xs) (hcon : Con X.P X.D g xs r) (hok : okRes r.v = true) (hown : r.own ≠ []) (hdst : ∀ k, dst = some k → k < σ.nt)
    (he : e = { v := ren dn r.v, nw := ownBl dn 0 r.own, kl := osIn (args.toList.map (ev σ) ++ caps) }) (hfr : unbound σ (keys e.nw) = true) :
    InlOp X ops ⟨dst, .call ⟨.value f, args, types⟩, ty, pos, af, none⟩ σ (fun σ' => Eqv (apply σ dst e) σ') := by
  subst he
  refine ⟨fun γ a w i Qx hi ⟨ρ, hst⟩ => ?_⟩
  have hvf := (hst.ev f).1
  rw [hf] at hvf
  generalize hV : a.eval f = V at hvf
  cases hvf with
  | func g cs fvs hl hval =>
  have hra : Rels w (Im X.S X.N0 X.B w ρ σ) ρ (args.toList.map (ev σ)) (args.toList.map a.eval) := by
    refine ⟨by simp, fun k x v hx hv => ?_⟩
    rw [List.getElem?_map] at hx hv
    obtain ⟨y, hy, rfl⟩ := Option.map_eq_some_iff.1 hx
    rw [hy] at hv
    cases hv
    exact (hst.ev y).1
  have hra := hra.append (ys := caps) (vs := fvs.toList) ⟨by simpa using hl, fun i x v hx hv => hval i x v hx (by simpa using hv)⟩
  generalize hall : args.toList.map (ev σ) ++ caps = all at *
  obtain ⟨⟨fn, hfn, hname, hbody⟩, hcall⟩ := hcon
  have hcall := hcall w (Im X.S X.N0 X.B w ρ (freeze σ (osIn all))) ρ (args.map a.eval ++ fvs) (fun b hb => hb.1) (by
    have := hst.args (ns := osIn all) (bl := bl) hbl hra
    rw [hxs] at this
    simpa using this)
  refine wpOp_plain hi rfl ?_
  unfold Oper.wp
  have hex : (execOp a.eval ⟨dst, .call ⟨.value f, args, types⟩, ty, pos, af, none⟩).run X.P w = .ok (.enter g (args.map a.eval ++ fvs)) w := by
    have hn' : ¬ fn.name = "runtime.NumGoroutine" := by simpa using hname
    have hb' : ¬ fn.body = none := by rintro e; rw [e] at hbody; cases hbody
    simp [execOp, resolve, hV, Deferred.ofValue, invoke, callFunc, program, Sem.run, hfn, hn', hb']
  rw [hex, Oper.upon_enter]
  refine hcall.mono fun en w' ⟨v, he, hpost⟩ => ?_
  subst he
  have hm : Mak X.D X.S X.N0 X.B ⟨X.w0, γ⟩ σ a { v := ren dn r.v, nw := ownBl dn 0 r.own, fr := osIn all } v w' := by
    obtain ⟨rv, own⟩ := r
    cases own with
    | cons o os => exact call_step hst (all := all) (dst := dn) (r := ⟨rv, o :: os⟩) (by simp only [effRes, hok, if_true]) hfr hpost
    | nil => exact absurd rfl hown
  exact ⟨_, Eqv.refl _, (Mak.unfreeze hst hm).fin hdst⟩
/-- a table of contracts, whose calls kill their arguments' names -/
def killM (G2 : Ctr) : MCtr := fun dn f args bl => match G2 f (fzs (osIn args) bl args) with
  | some ⟨v, o :: os⟩ => if okRes v = true then some { v := ren dn v, nw := ownBl dn 0 (o :: os), kl := osIn args } else none
  | _ => none
theorem killM_at {G2 : Ctr} {dn f : Nat} {args : List AV} {bl : Nat → Option Blk} : killM G2 dn f args bl = match G2 f (fzs (osIn args) bl args) with
  | some ⟨v, o :: os⟩ => if okRes v = true then some { v := ren dn v, nw := ownBl dn 0 (o :: os), kl := osIn args } else none
  | _ => none := rfl
theorem mok_kill {P : Program} {D : Nat → TI} {G G2 : Ctr} (h2 : GOk P D G2) : MOk P D G (killM G2) := by
  intro X hP hD hG hM hmx hT hok ops o σ e hgd he hpre hfr
  obtain ⟨dst, f, args, types, ty, pos, af, g, caps, rfl, hf, he⟩ := mEff_call he hgd
  unfold killM at he
  split at he
  case h_2 => cases he
  rename_i v o os hr
  split at he
  case isFalse => cases he
  rename_i hq
  injection he with he
  simp only [fresh, Bool.and_eq_true] at hfr
  refine inl_kill hf (fun n x hx => names_bl_snap hx) rfl (by rw [hP, hD]; exact h2 _ _ _ hr) hq (by simp) (fun k hk => ?_) he.symm hfr.1
  have := hfr.2
  subst hk
  simpa using this
/-- two tables of effects -/
def elseM (M1 M2 : MCtr) : MCtr := fun dn f args bl => match M1 dn f args bl with
  | some e => some e
  | none => M2 dn f args bl
theorem elseM_at {M1 M2 : MCtr} {dn f : Nat} {args : List AV} {bl : Nat → Option Blk} : elseM M1 M2 dn f args bl = match M1 dn f args bl with
  | some e => some e
  | none => M2 dn f args bl := rfl
theorem mEff_else {M1 M2 : MCtr} {dn : Nat} {σ : AS} {o : Oper} {e : Eff} (h : mEff (elseM M1 M2) dn σ o = some e) : mEff M1 dn σ o = some e ∨ mEff M2 dn σ o = some e := by
  unfold mEff at *
  split at h
  · split at h
    · unfold callM at *
      split at h
      · unfold elseM at h
        split at h
        · rename_i q
          rw [q]
          exact .inl h
        · exact .inr h
      · cases h
    · cases h
  · cases h
theorem mok_else {P : Program} {D : Nat → TI} {G : Ctr} {M1 M2 : MCtr} (h1 : MOk P D G M1) (h2 : MOk P D G M2) : MOk P D G (elseM M1 M2) := by
  intro X hP hD hG hM hmx hT hok ops o σ e hgd he hpre hfr
  have hX : ∀ {M : MCtr}, InlOp { X with M := M } ops o σ (fun σ' => Eqv (apply σ o.dst e) σ') → InlOp X ops o σ (fun σ' => Eqv (apply σ o.dst e) σ') := fun ⟨q⟩ => ⟨q⟩
  rcases mEff_else he with he | he
  · exact hX (h1 { X with M := M1 } hP hD hG rfl hmx hT hok ops o σ e hgd he hpre hfr)
  · exact hX (h2 { X with M := M2 } hP hD hG rfl hmx hT hok ops o σ e hgd he hpre hfr)
end Go.Proofs.Ythbejciebmkclaa.Ab
namespace Go.Proofs.Ythbejciebmkclaa.Ab
open Go Go.RowKit
set_option linter.unusedVariables false
set_option linter.unusedSimpArgs false

def notOut (i : LItem) : Bool := !i.out
def takeI (now : Int) (i : LItem) : LItem := { i with out := true, due := now + 5, turn := i.turn + 1 }
def takeS (q : LQueue) (now : Int) : LQueue × LItem × Int :=
  if placeS notOut q.items 0 < 0 then (queue0, item0, 6)
  else ({ q with items := q.items.set (placeS notOut q.items 0).toNat (takeI now (q.items.getD (placeS notOut q.items 0).toNat item0)) }, takeI now (q.items.getD (placeS notOut q.items 0).toNat item0), 0)
def takeLo : Nat → Lo := fun id => match id with | 9 => {uo := [6, 10, 11], un := [4, 5], ex := [4, 5], kn := [45]} | _ => {}
set_option maxRecDepth 100000 in
set_option maxHeartbeats 2000000 in
theorem con_takeq (q : LQueue) (now : Int) (hq : q.Ok) (hnow : -1000000 ≤ now ∧ now ≤ 1000000) : Con Try.prog D 103 [queueA q, .int .i64 now] ⟨.tup [queueA (takeS q now).1, itemA (takeS q now).2.1, .int .i64 (takeS q now).2.2], []⟩ := by
  have hok : GOk Try.prog D (tabG []) := tabG_ok _
  have gn : ∀ f a, tabG ([] : List (Ent Try.prog D)) f a = none := fun f a => rfl
  generalize tabG [] = G at *
  have hok2 : GOk Try.prog D (tabG [eOwnq]) := tabG_ok _
  have g1 : ∀ i : LItem, i.note.Fits → tabG [eOwnq] 93 [queueA ⟨⟨#[]⟩, 0, [i]⟩] = some ⟨.agg [.str [], .int .i64 0, .os 0], [(65, 7, [itemRow i])]⟩ := fun i h => tabG_at (E := eOwnq) (T := [eOwnq]) (i := 0) rfl (by decide) ⟨⟨#[]⟩, 0, [i]⟩ ⟨by simp, by simpa using h⟩ rfl rfl
  have g2 : tabG [eOwnq] 93 [queueA q] = some ⟨.agg [.str q.name.data.toList, .int .i64 q.limit, .os 0], [(65, 7, q.items.map itemRow)]⟩ := tabG_at (E := eOwnq) (T := [eOwnq]) (i := 0) rfl (by decide) q hq.1 rfl rfl
  generalize tabG [eOwnq] = G2 at *
  have hl := hq.1.1
  have hb := hq.2
  have hfit := fun i hi => item_fits (i := i) hq.1 hi
  obtain ⟨name, limit, items⟩ := q
  simp only [queueA] at g2 hl hb hfit
  have hcon : ∀ r, r = takeS ⟨name, limit, items⟩ now → Con Try.prog D 103 [queueA ⟨name, limit, items⟩, .int .i64 now] ⟨.tup [queueA r.1, itemA r.2.1, .int .i64 r.2.2], []⟩ := by
    intro r hr
    unfold takeS at hr
    refine con_ofM (mok_kill hok2) (G := G) (rs := [(4, some 71), (5, some 65), (6, none)]) mixed tok hok Try.func103 rfl (by decide) Try.results103 (by decide) rfl Try.ntmps103 (by simp) (by simp [queueA, namess, names]) fun X hP hD hG' hX => evC_sound hX takeLo _ _ _ ?_
    simp only [argS, num, queueA]
    generalize hnl : name.data.toList = nl at *
    simp (disch := ((try simp only [List.length_drop, List.length_take, List.length_append, List.length_cons, List.length_nil, List.length_map]); omega)) only [go_sem, Nat.reduceLeDiff, reduceCtorEq, Nat.reduceAdd, Nat.reduceSub, Nat.reduceMul, Nat.reduceLT, Nat.reduceEqDiff, Int.reduceEq, Int.reduceLE, Int.reduceLT, Int.reducePow, Int.reduceMul, Int.reduceToNat, Int.reduceNeg, ↓reduceIte, ← List.map_take, ← List.map_drop, hD, hG', wrap64, gn, asked_none, killM_at, g2, takeLo]
    refine Tr.loop (ι := Nat) (fun i => i ≤ items.length ∧ ∀ j, j < i → notOut (items.getD j item0) = false) (fun i => { nt := 54, tm := [(1, .int .i64 now), (4, .ptr 4 0), (5, .ptr 5 0), (7, .ptr 7 0), (13, .os 5000), (14, .int .i64 items.length), (15, .int .i64 i)], bl := [(4, some (.cells [.str [], .int .i64 0, .nils])), (5, some (.cells [.int .i64 0, .int .i64 0, .int .i64 0, .bool false, .int .i64 0, .nils, .nils])), (7, some (.cells [.str nl, .int .i64 limit, .os 5000])), (5000, some (.rows 65 7 (items.map itemRow)))] }) (fun i => items.length - i) 0
      ⟨⟨Nat.zero_le _, fun j hj => absurd hj (Nat.not_lt_zero j)⟩, wk_of hD [(4, 4), (5, 5), (7, 7), (5000, 4107)] rfl rfl (by simp only [freeze_nil, freeze_cons, mapT, mapB, mapL, gone, fz, fzs, plain, rowsAt, List.cons_append, List.nil_append, covT, covB, covBlk, cov, covs, keys, get, blk, jn, subs, mem, names, namess, Option.map_some, Option.map_none, Option.getD_some, Option.getD_none, resS, resT, resT.resT', ownS, Nat.reduceEqDiff, ↓reduceIte, if_true, if_false, and_true, true_and, and_self, Nat.reduceAdd, List.map_cons, List.map_nil, ite_true, ite_false, reduceCtorEq]; simp) (by simp only [freeze_nil, freeze_cons, mapT, mapB, mapL, gone, fz, fzs, plain, rowsAt, List.cons_append, List.nil_append, covT, covB, covBlk, cov, covs, keys, get, blk, jn, subs, mem, names, namess, Option.map_some, Option.map_none, Option.getD_some, Option.getD_none, resS, resT, resT.resT', ownS, Nat.reduceEqDiff, ↓reduceIte, if_true, if_false, and_true, true_and, and_self, Nat.reduceAdd, List.map_cons, List.map_nil, ite_true, ite_false, reduceCtorEq]; simp)⟩ ?_
    rintro i ⟨hi, hnot⟩
    refine evC_sound hX takeLo _ _ _ ?_
    simp (disch := ((try simp only [List.length_drop, List.length_take, List.length_append, List.length_cons, List.length_nil, List.length_map]); omega)) only [go_sem, Nat.reduceLeDiff, reduceCtorEq, Nat.reduceAdd, Nat.reduceSub, Nat.reduceMul, Nat.reduceLT, Nat.reduceEqDiff, Int.reduceEq, Int.reduceLE, Int.reduceLT, Int.reducePow, Int.reduceMul, Int.reduceToNat, Int.reduceNeg, ↓reduceIte, ← List.map_take, ← List.map_drop, hD, hG', wrap64, gn, asked_none, killM_at, g2, takeLo]
    refine condK_split (fun h => ?_) (fun h => ?_)
    · rw [decide_eq_true_eq] at h
      have hi1 : i < items.length := by omega
      have hgx := itemGet hi1
      have hfi := hfit i hi1
      have hbx : (-1000000 ≤ (items.getD i item0).turn ∧ (items.getD i item0).turn ≤ 1000000) ∧ -1000000 ≤ (items.getD i item0).tries ∧ (items.getD i item0).tries ≤ 1000000 := by
        have : items.getD i item0 = items[i] := by simp [hi1]
        rw [this]
        exact hb _ (List.getElem_mem hi1)
      have hsg : ∀ x d : List AV, ((items.map itemRow).set i x).getD i d = x := fun x d => set_get (by simpa using hi1)
      have hit : ∀ x, items.getD i item0 = x → x.out = false → r = (⟨name, limit, items.set i (takeI now x)⟩, takeI now x, 0) := fun x hx hp => by
        have hp' := placeS_hit (s := 0) hi1 hnot (by rw [hx]; simp [notOut, hp])
        rw [hr, hp', if_neg (by omega)]
        simp only [Int.zero_add, Int.toNat_natCast, hx]
      generalize hx : items.getD i item0 = x at *
      have hit := hit x rfl
      have hg := g1 (takeI now x) hfi
      obtain ⟨a1, a2, a3, a4, a5, ⟨xp, xb⟩⟩ := x
      simp only [itemRow] at hgx hbx
      simp only [queueA, List.map_cons, List.map_nil, itemRow, takeI] at hg
      cases a4
      · have hit := hit rfl
        simp (disch := ((try simp only [List.length_drop, List.length_take, List.length_append, List.length_cons, List.length_nil, List.length_map]); omega)) only [go_sem, Nat.reduceLeDiff, reduceCtorEq, Nat.reduceAdd, Nat.reduceSub, Nat.reduceMul, Nat.reduceLT, Nat.reduceEqDiff, Int.reduceEq, Int.reduceLE, Int.reduceLT, Int.reducePow, Int.reduceMul, Int.reduceToNat, Int.reduceNeg, ↓reduceIte, ← List.map_take, ← List.map_drop, hD, hG', wrap64, gn, asked_none, killM_at, hg, hgx, hsg, List.set_set, takeLo, List.length_set]
        refine ⟨by omega, hi1, hi1, hi1, by decide, by simp, ?_⟩
        simp (disch := ((try simp only [List.length_drop, List.length_take, List.length_append, List.length_cons, List.length_nil, List.length_map]); omega)) only [go_sem, Nat.reduceLeDiff, reduceCtorEq, Nat.reduceAdd, Nat.reduceSub, Nat.reduceMul, Nat.reduceLT, Nat.reduceEqDiff, Int.reduceEq, Int.reduceLE, Int.reduceLT, Int.reducePow, Int.reduceMul, Int.reduceToNat, Int.reduceNeg, ↓reduceIte, ← List.map_take, ← List.map_drop, hD, hG', wrap64, unbox, tmv, Option.some.injEq, exists_eq_left']
        simp only [itemA, itemRow]
        refine ⟨[5000], [], rfl, rfl, ?_, ?_⟩ <;> simp only [freeze_nil, freeze_cons, mapT, mapB, mapL, gone, fz, fzs, plain, rowsAt, List.cons_append, List.nil_append, covT, covB, covBlk, cov, covs, keys, get, blk, jn, subs, mem, names, namess, Option.map_some, Option.map_none, Option.getD_some, Option.getD_none, resS, resT, resT.resT', ownS, Nat.reduceEqDiff, ↓reduceIte, if_true, if_false, and_true, true_and, and_self, Nat.reduceAdd, List.map_cons, List.map_nil, ite_true, ite_false, reduceCtorEq]
        rw [hit]
        simp [takeI, itemRow, hnl]
      · simp (disch := ((try simp only [List.length_drop, List.length_take, List.length_append, List.length_cons, List.length_nil, List.length_map]); omega)) only [go_sem, Nat.reduceLeDiff, reduceCtorEq, Nat.reduceAdd, Nat.reduceSub, Nat.reduceMul, Nat.reduceLT, Nat.reduceEqDiff, Int.reduceEq, Int.reduceLE, Int.reduceLT, Int.reducePow, Int.reduceMul, Int.reduceToNat, Int.reduceNeg, ↓reduceIte, ← List.map_take, ← List.map_drop, hD, hG', wrap64, gn, asked_none, killM_at, hg, hgx, hsg, List.set_set, takeLo]
        refine ⟨by omega, i + 1, ⟨⟨by omega, fun j hj => ?_⟩, by omega⟩, wk_of hD [(4, 4), (5, 5), (7, 7), (5000, 5000)] rfl rfl ?_ ?_⟩
        · by_cases hji : j = i
          · rw [hji, hx]; rfl
          · exact hnot j (by omega)
        all_goals simp only [freeze_nil, freeze_cons, mapT, mapB, mapL, gone, fz, fzs, plain, rowsAt, List.cons_append, List.nil_append, covT, covB, covBlk, cov, covs, keys, get, blk, jn, subs, mem, names, namess, Option.map_some, Option.map_none, Option.getD_some, Option.getD_none, resS, resT, resT.resT', ownS, Nat.reduceEqDiff, ↓reduceIte, if_true, if_false, and_true, true_and, and_self, Nat.reduceAdd, List.map_cons, List.map_nil, ite_true, ite_false, reduceCtorEq]
        all_goals simp
    · rw [decide_eq_false_iff_not] at h
      have hie : i = items.length := by omega
      subst hie
      simp (disch := ((try simp only [List.length_drop, List.length_take, List.length_append, List.length_cons, List.length_nil, List.length_map]); omega)) only [go_sem, Nat.reduceLeDiff, reduceCtorEq, Nat.reduceAdd, Nat.reduceSub, Nat.reduceMul, Nat.reduceLT, Nat.reduceEqDiff, Int.reduceEq, Int.reduceLE, Int.reduceLT, Int.reducePow, Int.reduceMul, Int.reduceToNat, Int.reduceNeg, ↓reduceIte, ← List.map_take, ← List.map_drop, hD, hG', wrap64]
      simp (disch := ((try simp only [List.length_drop, List.length_take, List.length_append, List.length_cons, List.length_nil, List.length_map]); omega)) only [go_sem, Nat.reduceLeDiff, reduceCtorEq, Nat.reduceAdd, Nat.reduceSub, Nat.reduceMul, Nat.reduceLT, Nat.reduceEqDiff, Int.reduceEq, Int.reduceLE, Int.reduceLT, Int.reducePow, Int.reduceMul, Int.reduceToNat, Int.reduceNeg, ↓reduceIte, ← List.map_take, ← List.map_drop, hD, hG', wrap64, unbox, tmv, Option.some.injEq, exists_eq_left']
      refine ⟨[], [], rfl, rfl, ?_, ?_⟩ <;> simp only [itemA, itemRow, freeze_nil, freeze_cons, mapT, mapB, mapL, gone, fz, fzs, plain, rowsAt, List.cons_append, List.nil_append, covT, covB, covBlk, cov, covs, keys, get, blk, jn, subs, mem, names, namess, Option.map_some, Option.map_none, Option.getD_some, Option.getD_none, resS, resT, resT.resT', ownS, Nat.reduceEqDiff, ↓reduceIte, if_true, if_false, and_true, true_and, and_self, Nat.reduceAdd, List.map_cons, List.map_nil, ite_true, ite_false, reduceCtorEq]
      rw [hr, placeS_miss hnot, if_pos (by omega)]
      simp [item0, note0, queue0]
  exact hcon _ rfl
end Go.Proofs.Ythbejciebmkclaa.Ab
namespace Go.Proofs.Ythbejciebmkclaa.Ab
open Go
set_option linter.unusedVariables false
set_option linter.unusedSimpArgs false

section
variable {X : Cx} {ops : Array Oper} {σ : AS}
/-- a region in the text's order; the operations cs are gone into by a law -/
def regI (X : Cx) (ops : Array Oper) (cs : List Nat) : Nat → List Oper → (AS → Prop) → AS → Prop
  | _, [], Q, σ => Q σ
  | k, o :: r, Q, σ => if mem k cs = true then InlOp X ops o σ (regI X ops cs (k + 1) r Q) else stepI (opEff X.D X.G X.M X.nb [] ops σ o) σ o.dst (InlOp X ops o σ (regI X ops cs (k + 1) r Q)) (regI X ops cs (k + 1) r Q)
theorem regI_nil {cs : List Nat} {k : Nat} {Q : AS → Prop} : regI X ops cs k [] Q σ = Q σ := rfl
theorem regI_cons {cs : List Nat} {k : Nat} {o : Oper} {r : List Oper} {Q : AS → Prop} : regI X ops cs k (o :: r) Q σ = if mem k cs = true then InlOp X ops o σ (regI X ops cs (k + 1) r Q) else stepI (opEff X.D X.G X.M X.nb [] ops σ o) σ o.dst (InlOp X ops o σ (regI X ops cs (k + 1) r Q)) (regI X ops cs (k + 1) r Q) := rfl
theorem regI_sound {γ : Nat → Value} {Qx : Exit → Act → World → Prop} {Q : AS → Prop} (hX : X.Ok) (cs : List Nat) (hfin : ∀ σ a w, Q σ → X.St γ σ a w → Qx .normal a w) :
    ∀ (r : List Oper) (k : Nat) (σ : AS) (a : Act) (w : World), (∀ j, r[j]? = ops[k + j]?) → X.St γ σ a w → regI X ops cs k r Q σ → wpOps X.P ops Qx (List.range' k r.length) a w
  | [], k, σ, a, w, _, hst, hr => by simpa [wpOps] using hfin σ a w hr hst
  | o :: r, k, σ, a, w, hl, hst, hr => by
    rw [List.length_cons, List.range'_succ, wpOps_cons]
    have ho : ops[k]? = some o := by have := hl 0; simpa using this.symm
    have hl' : ∀ j, r[j]? = ops[k + 1 + j]? := fun j => by
      have := hl (j + 1)
      simpa [Nat.add_assoc, Nat.add_comm 1 j] using this
    rw [regI_cons] at hr
    split at hr
    · exact wpOp_mono (fun a' w' ⟨σ', h4, h5⟩ => regI_sound hX cs hfin r (k + 1) σ' a' w' hl' h5 h4) (hr.1 γ a w k Qx ho hst)
    obtain ⟨ρ, hst0⟩ := hst
    cases he : opEff X.D X.G X.M X.nb [] ops σ o with
    | none =>
      rw [he] at hr
      have hr : InlOp X ops o σ (regI X ops cs (k + 1) r Q) := hr
      exact wpOp_mono (fun a' w' ⟨σ', h4, h5⟩ => regI_sound hX cs hfin r (k + 1) σ' a' w' hl' h5 h4) (hr.1 γ a w k Qx ho ⟨ρ, hst0⟩)
    | some e =>
      rw [he] at hr
      exact wpOp_mono (fun a' w' h5 => regI_sound hX cs hfin r (k + 1) _ a' w' hl' h5 hr.2) (op_sound hX.types hX.calls hst0 ho he hr.1.1 hr.1.2 fun hg hm => wpOp_mono (fun a' w' ⟨σ', e1, e2⟩ => e2.congr e1.symm) ((hX.mok ops _ σ e hg hm hr.1.2 hr.1.1).1 γ a w k Qx ho ⟨ρ, hst0⟩))
theorem Tr.inl (hX : X.Ok) {id : Nat} {Q : Exit → AS → Prop} (cs : List Nat) (h : regI X ops cs 0 ops.toList (Q .normal) σ) : Tr X (.region id ops false) Q σ := by
  intro γ a w hs
  refine wp_region ?_
  rw [List.range_eq_range', ← Array.length_toList]
  exact regI_sound hX cs (fun σ' a' w' h1 h2 => ⟨σ', h1, h2⟩) ops.toList 0 σ a w (fun j => by simp) hs h

/-- the end of a slice of our own, from an element on -/
theorem inl_tail {R : AS → Prop} {d T v l el e sz : Nat} {rs : List (List AV)} {x y : Operand} {ty : Nat} {pos : String} {af : Array Edge} (hT : TOk X.P X.D) (hk : (X.D T).k = .slice el) (hx : ev σ x = .os v) (hy : ev σ y = .int .i64 l)
    (hb : blk σ v = some (.rows e sz rs)) (hl : l < rs.length) (hsz : sz = (X.D el).n) (hd : d < σ.nt) (h : R { σ with tm := (d, .tsl v l) :: σ.tm }) : InlOp X ops ⟨some d, .slice T x (some y) none none, ty, pos, af, none⟩ σ R := by
  refine ⟨fun γ a w i Qx hi ⟨ρ, hs⟩ => ?_⟩
  obtain ⟨hu, hne, hpz⟩ := ty_slice hT hk
  have hvx := (hs.ev x).1
  have hvy := (hs.ev y).1
  rw [hx] at hvx
  rw [hy] at hvy
  have hvy := hvy.int_
  obtain ⟨g1, g2, g3, A, c, g4, g5, g6, g7⟩ := hs.hp.blk v _ hb
  rcases g7 with ⟨rfl, _⟩ | ⟨b, arr, g8, rfl, g10, g11, g14⟩
  · simp at hl
  have hvx' : a.eval x = .slice (some ⟨b, 0, none⟩) rs.length c := by
    rw [← g4]
    generalize a.eval x = u at hvx
    cases hvx
    rfl
  refine wpOp_plain hi rfl ?_
  have hex : execOp a.eval ⟨some d, .slice T x (some y) none none, ty, pos, af, none⟩ = (do pure (.value (← Instr.sliceAt T (a.eval x) (some (a.eval y)) none none))) := rfl
  have hrun := slice_run (P := X.P) (w := w) T el (some ⟨b, 0, none⟩) rs.length c l rs.length (X.D el).n (some (.int .i64 l)) none hu (ty_size hT hne w) (.inr ⟨_, rfl⟩) (.inl ⟨rfl, rfl⟩) (by omega) g5
  rw [if_neg (by omega)] at hrun
  refine wp_of_value hex (w' := w) (by rw [hvx', hvy]; exact hrun) ⟨_, h, ρ, hs.put hd ?_ (by simp [names, hb])⟩
  have hn : (ρ v).n = rs.length ∧ (ρ v).c = c := by
    unfold NI.sv at g4
    simp at g4
    exact ⟨g4.2.1, g4.2.2⟩
  have := Rel.tsl (w := w) (im := Im X.S X.N0 X.B w ρ σ) (ρ := ρ) v l b ((some (⟨b, 0, none⟩ : Addr)).map (·.add (l * (X.D el).n))) g8 (fun _ => by simp [Addr.add, g1, hsz]; exact fun h => h.symm)
  rw [hn.1, hn.2] at this
  exact this
theorem zeroCells_get {z : Array Value} {n i : Nat} (hz : 0 < z.size) (h : i < n * z.size) : (Builtin.zeroCells z n).toList[i]? = z[i % z.size]? := by
  have hm := Nat.mod_lt i hz
  simp [Builtin.zeroCells, h, hm]
/-- it is cleared -/
theorem inl_clear {R : AS → Prop} {T v l el sz : Nat} {rs : List (List AV)} {x : Operand} {ty : Nat} {pos : String} {af : Array Edge} (hT : TOk X.P X.D) (hk : (X.D T).k = .slice el) (hx : ev σ x = .tsl v l)
    (hb : blk σ v = some (.rows el sz rs)) (hl : l < rs.length) (h : R { σ with bl := (v, some (.rows el sz (rs.take l ++ List.replicate (rs.length - l) (X.D el).zero))) :: σ.bl }) : InlOp X ops ⟨none, .call ⟨.builtin .clear, #[x], #[T]⟩, ty, pos, af, none⟩ σ R := by
  refine ⟨fun γ a w i Qx hi ⟨ρ, hs⟩ => ?_⟩
  obtain ⟨hu, hne, hpz⟩ := ty_slice hT hk
  obtain ⟨inf, z, z1, z2, z3, z4, z5, z6⟩ := ty_info hT hne
  obtain ⟨y1, y2, y3⟩ := zeroB_ok z5
  have hzs : z.cells.size = (X.D el).n := by rw [← Array.length_toList, y1, z6]
  have hvx := (hs.ev x).1
  rw [hx] at hvx
  obtain ⟨g1, g2, g3, A, c, g4, g5, g6, g7⟩ := hs.hp.blk v _ hb
  rcases g7 with ⟨rfl, _⟩ | ⟨b, arr, g8, rfl, g10, g11, g14⟩
  · simp at hl
  have hn : (ρ v).n = rs.length ∧ (ρ v).c = c := by
    unfold NI.sv at g4
    simp at g4
    exact ⟨g4.2.1, g4.2.2⟩
  have hvx' : a.eval x = .slice (some ⟨b, l * sz, none⟩) (rs.length - l) (c - l) := by
    generalize a.eval x = u at hvx
    cases hvx with
    | tsl _ _ b' A' q1 q2 =>
      rw [g8] at q1
      cases q1
      rw [q2 (by omega), hn.1, hn.2, g1]
  have hzv : (zeroValue el).run X.P w = .ok z w := by
    simp [zeroValue, typeInfo, z1, z4]
  have hzl : (Builtin.zeroCells z.cells (rs.length - l)).toList.length = (rs.length - l) * sz := by simp [Builtin.zeroCells, hzs, g3]
  have hmul : l * sz + (rs.length - l) * sz = rs.length * sz := by rw [← Nat.add_mul]; congr 1; omega
  have hle : rs.length * sz ≤ c * sz := Nat.mul_le_mul_right _ g5
  have hst := run_storeCells_at X.P b (l * sz) el (Builtin.zeroCells z.cells (rs.length - l)).toList 0 arr w g10 (by rw [hzl]; omega) (fun u hu => by
    obtain ⟨k, hk⟩ := List.getElem?_of_mem hu
    have hlt := (List.getElem?_eq_some_iff.1 hk).1
    rw [hzl] at hlt
    rw [zeroCells_get (by rw [hzs]; exact hpz) (by rw [hzs, ← g3]; exact hlt)] at hk
    have hm : k % z.cells.size < (X.D el).zero.length := by rw [z6, ← hzs]; exact Nat.mod_lt _ (by rw [hzs]; exact hpz)
    exact (y3 _ _ u (List.getElem?_eq_getElem hm) (by simpa using hk)).1)
  simp only [Nat.add_zero, hzl] at hst
  refine wpOp_plain hi rfl ?_
  have hex : execOp a.eval ⟨none, .call ⟨.builtin .clear, #[x], #[T]⟩, ty, pos, af, none⟩ = (do pure (.value (← Builtin.clear_ #[T] ty #[a.eval x]))) := by
    have e : #[x].map a.eval = #[a.eval x] := by simp
    simp only [execOp, resolve, invoke, builtin, pure_bind, e]
  refine wp_of_value hex (v := .tuple #[]) (w' := w.setRow b (arr.toList.take (l * sz) ++ (Builtin.zeroCells z.cells (rs.length - l)).toList ++ arr.toList.drop (l * sz + (rs.length - l) * sz)).toArray) (by
    rw [hvx']
    generalize (arr.toList.take (l * sz) ++ (Builtin.zeroCells z.cells (rs.length - l)).toList ++ arr.toList.drop (l * sz + (rs.length - l) * sz)).toArray = arr' at hst
    obtain ⟨m, hm⟩ : ∃ m, rs.length - l = m + 1 := ⟨rs.length - l - 1, by omega⟩
    rw [hm] at hst ⊢
    simp [Builtin.clear_, run_underlying hu, hzv, hst]) ⟨_, h, ρ, ?_⟩
  refine (hs.upd (n := v) (b := b) (y := .rows el sz (rs.take l ++ List.replicate (rs.length - l) (X.D el).zero)) hb g8 (fun c hc => by exact hc) (fun hw im' him => ?_) (fun m hm => by cases hm)).1
  have hlen : (rs.take l ++ List.replicate (rs.length - l) (X.D el).zero).length = rs.length := by simp; omega
  refine ⟨g1, g2, g3, _, c, by rw [hlen]; exact g4, by rw [hlen]; exact g5, g6, .inr ⟨b, _, g8, rfl, setRow_heap w b arr _ el _ g10, by simp [hzl]; omega, fun i row hi => ?_⟩⟩
  have hget : ∀ k, (arr.toList.take (l * sz) ++ (Builtin.zeroCells z.cells (rs.length - l)).toList ++ arr.toList.drop (l * sz + (rs.length - l) * sz)).toArray[k]? = if l * sz ≤ k ∧ k < l * sz + (rs.length - l) * sz then (Builtin.zeroCells z.cells (rs.length - l)).toList[k - l * sz]? else arr[k]? := fun k => by
    have hq := valSplice_get (o := l * sz) (new := (Builtin.zeroCells z.cells (rs.length - l)).toList) (old := arr.toList) (by simp only [Array.length_toList] at hzl ⊢; omega) k
    rw [hzl] at hq
    rw [List.getElem?_toArray, hq]
    split
    · rfl
    · simp
  rw [List.getElem?_append] at hi
  split at hi
  · rename_i hil
    rw [List.getElem?_take] at hi
    rw [List.length_take] at hil
    have hil' : i < l := by omega
    rw [if_pos hil'] at hi
    obtain ⟨q1, q2⟩ := g14 i row hi
    refine ⟨q1, fun j u hj => ?_⟩
    obtain ⟨q3, q, q4, q5, q6⟩ := q2 j u hj
    have hjs : j < sz := by rw [← q1]; exact (List.getElem?_eq_some_iff.1 hj).1
    have : i * sz + sz ≤ l * sz := by rw [show i * sz + sz = (i + 1) * sz by rw [Nat.add_mul, Nat.one_mul]]; exact Nat.mul_le_mul_right _ hil'
    exact ⟨q3, q, by rw [hget, if_neg (by omega)]; exact q4, q5, q6.mono him hw fun _ _ => rfl⟩
  · rename_i hil
    rw [List.length_take] at hi hil
    have hil' : l ≤ i := by omega
    rw [List.getElem?_replicate] at hi
    split at hi
    case isFalse => cases hi
    rename_i hin
    cases hi
    rw [Nat.min_eq_left (by omega)] at hin
    refine ⟨by rw [z6, g3], fun j u hj => ?_⟩
    have hjs : j < sz := by rw [g3, ← z6]; exact (List.getElem?_eq_some_iff.1 hj).1
    have hjz : j < z.cells.toList.length := by rw [Array.length_toList, hzs, ← g3]; exact hjs
    obtain ⟨q1, q2⟩ := y3 j u _ hj (List.getElem?_eq_getElem hjz)
    have e1 : l * sz ≤ i * sz := Nat.mul_le_mul_right _ hil'
    have e2 : i * sz + sz ≤ l * sz + (rs.length - l) * sz := by
      rw [hmul, show i * sz + sz = (i + 1) * sz by rw [Nat.add_mul, Nat.one_mul]]
      exact Nat.mul_le_mul_right _ (by omega)
    refine ⟨List.eq_nil_iff_forall_not_mem.2 fun n hn => ?_, _, ?_, q1, q2 _ _ _⟩
    · have := mem_namess hj hn
      rw [y2] at this
      cases this
    · have e3 : i * sz + j - l * sz = (i - l) * sz + j := by rw [Nat.sub_mul]; omega
      have e4 : (i - l) * sz + j < (rs.length - l) * sz := by
        have : (i - l) * sz + sz ≤ (rs.length - l) * sz := by rw [show (i - l) * sz + sz = (i - l + 1) * sz by rw [Nat.add_mul, Nat.one_mul]]; exact Nat.mul_le_mul_right _ (by omega)
        omega
      rw [hget, if_pos (by omega), zeroCells_get (by rw [hzs]; exact hpz) (by rw [hzs, ← g3, e3]; exact e4), e3, hzs, ← g3, Nat.add_comm, Nat.add_mul_mod_self_right, Nat.mod_eq_of_lt hjs, ← Array.getElem?_toList]
      exact List.getElem?_eq_getElem hjz
end
end Go.Proofs.Ythbejciebmkclaa.Ab
namespace Go.Proofs.Ythbejciebmkclaa.Ab
open Go Go.RowKit
set_option linter.unusedVariables false
set_option linter.unusedSimpArgs false

def isOut (i : LItem) : Bool := i.out
def intRow (i : Int) : List AV := [.int .i64 i]
def goneS (l : List LItem) : List Int := (l.filter notOut).map (·.id)
def keptS (l : List LItem) (j : Nat) : List LItem := (l.take j).filter isOut
theorem kept_succ {l : List LItem} {j : Nat} (h : j < l.length) : keptS l (j + 1) = keptS l j ++ (if (l.getD j item0).out = true then [l.getD j item0] else []) := by
  unfold keptS
  rw [take_item h, List.filter_append]
  cases hx : (l.getD j item0).out <;> simp [List.filter, isOut] at * <;> simp [hx]
theorem gone_succ {l : List LItem} {j : Nat} (h : j < l.length) : goneS (l.take (j + 1)) = goneS (l.take j) ++ (if (l.getD j item0).out = true then [] else [(l.getD j item0).id]) := by
  unfold goneS
  rw [take_item h, List.filter_append, List.map_append]
  cases hx : (l.getD j item0).out <;> simp [List.filter, notOut] at * <;> simp [hx]
theorem kept_all {l : List LItem} {i : Nat} (h : ∀ j, j < i → notOut (l.getD j item0) = false) : i ≤ l.length → keptS l i = l.take i ∧ goneS (l.take i) = [] := by
  induction i with
  | zero => exact fun _ => ⟨rfl, rfl⟩
  | succ i ih =>
    intro hi
    obtain ⟨h1, h2⟩ := ih (fun j hj => h j (by omega)) (by omega)
    have := h i (by omega)
    have ho : (l.getD i item0).out = true := by simpa [notOut] using this
    rw [kept_succ (by omega), gone_succ (by omega), if_pos ho, if_pos ho, h1, h2, take_item (by omega)]
    exact ⟨rfl, rfl⟩
theorem set_take {α : Type} {l : List α} {k : Nat} {x : α} (h : k < l.length) : (l.set k x).take (k + 1) = l.take k ++ [x] := by
  rw [List.take_succ_eq_append_getElem (by simpa using h)]
  simp [List.take_set_of_le (Nat.le_refl k)]
theorem set_far {α : Type} {l : List α} {k m : Nat} {x d : α} (h : k < m) : (l.set k x).getD m d = l.getD m d := by
  rw [List.getD_eq_getElem?_getD, List.getD_eq_getElem?_getD, List.getElem?_set_ne (by omega)]
def purgeLo : Nat → Lo := fun id => match id with | 4 => {uo := [2], un := [2]} | _ => {}
def purgeS (q : LQueue) : LQueue × List Int := ({ q with items := q.items.filter isOut }, goneS q.items)
set_option maxRecDepth 100000 in
set_option maxHeartbeats 2000000 in
theorem con_purgeq (q : LQueue) (hq : q.Fits) : Con Try.prog D 101 [queueA q] ⟨.tup [queueA (purgeS q).1, .sl 1 ((purgeS q).2.map intRow)], []⟩ := by
  have hok : GOk Try.prog D (tabG [eOwnq]) := tabG_ok _
  have g1 : tabG [eOwnq] 93 [queueA q] = some ⟨.agg [.str q.name.data.toList, .int .i64 q.limit, .os 0], [(65, 7, q.items.map itemRow)]⟩ := tabG_at (E := eOwnq) (T := [eOwnq]) (i := 0) rfl (by decide) q hq rfl rfl
  have gn : ∀ f a, f ≠ 93 → tabG [eOwnq] f a = none := fun f a h => by show (if f = 93 then _ else _) = _; rw [if_neg h]; rfl
  have gn1 := fun a => gn 83 a (by decide)
  have gn2 := fun a => gn 121 a (by decide)
  have gn3 := fun a => gn 130 a (by decide)
  generalize tabG [eOwnq] = G at *
  have hl := hq.1
  obtain ⟨name, limit, items⟩ := q
  simp only [queueA] at g1 hl
  have hcon : ∀ r, r = purgeS ⟨name, limit, items⟩ → Con Try.prog D 101 [queueA ⟨name, limit, items⟩] ⟨.tup [queueA r.1, .sl 1 (r.2.map intRow)], []⟩ := by
    intro r hr
    unfold purgeS at hr
    refine con_of (G := G) (rs := [(2, some 71), (3, none)]) mixed tok hok Try.func101 rfl (by decide) Try.results101 (by decide) rfl Try.ntmps101 (by simp) (by simp [queueA, namess, names]) fun X hP hD hG' hX => evC_sound hX purgeLo _ _ _ ?_
    simp only [argS, num, queueA]
    generalize hnl : name.data.toList = nl at *
    simp (disch := ((try simp only [List.length_drop, List.length_take, List.length_append, List.length_cons, List.length_nil, List.length_map]); omega)) only [go_sem, Nat.reduceLeDiff, reduceCtorEq, Nat.reduceAdd, Nat.reduceSub, Nat.reduceMul, Nat.reduceLT, Nat.reduceEqDiff, Int.reduceEq, Int.reduceLE, Int.reduceLT, Int.reducePow, Int.reduceMul, Int.reduceToNat, Int.reduceNeg, ↓reduceIte, ← List.map_take, ← List.map_drop, hD, hG', wrap64, g1, gn1, gn2, gn3, purgeLo, asked_none]
    refine inl_call (rs := [(4, none)]) hX.types rfl (by rw [hP]; exact Try.func83) rfl (by decide) Try.results83 (by decide) Try.ntmps83 (by simp) (by simp) 70000 noM ?_
    have hX1 := inl_ok hX 70000 MOk.none
    refine evC_sound hX1 (fun id => match id with | 11 => {hand := true} | _ => {}) _ _ _ ?_
    rw [hD.1, hG'] at hX1
    simp (disch := ((try simp only [List.length_drop, List.length_take, List.length_append, List.length_cons, List.length_nil, List.length_map]); omega)) only [go_sem, Nat.reduceLeDiff, reduceCtorEq, Nat.reduceAdd, Nat.reduceSub, Nat.reduceMul, Nat.reduceLT, Nat.reduceEqDiff, Int.reduceEq, Int.reduceLE, Int.reduceLT, Int.reducePow, Int.reduceMul, Int.reduceToNat, Int.reduceNeg, ↓reduceIte, ← List.map_take, ← List.map_drop, hD, hG', wrap64, g1, gn1, gn2, gn3, purgeLo, asked_none, enterS, leaveS, shT, unT, resA, num, unbox, Option.some.injEq, exists_eq_left', tmv]
    refine inl_call (rs := [(4, none)]) hX1.types rfl (by show X.P.funcs[_]? = _; rw [hP]; exact Try.func121) rfl (by decide) Try.results121 (by decide) Try.ntmps121 (by simp) (by simp) 140000 noM ?_
    have hX2 := inl_ok hX1 140000 MOk.none
    refine evC_sound hX2 (fun _ => {}) _ _ _ ?_
    simp (disch := ((try simp only [List.length_drop, List.length_take, List.length_append, List.length_cons, List.length_nil, List.length_map]); omega)) only [go_sem, Nat.reduceLeDiff, reduceCtorEq, Nat.reduceAdd, Nat.reduceSub, Nat.reduceMul, Nat.reduceLT, Nat.reduceEqDiff, Int.reduceEq, Int.reduceLE, Int.reduceLT, Int.reducePow, Int.reduceMul, Int.reduceToNat, Int.reduceNeg, ↓reduceIte, ← List.map_take, ← List.map_drop, hD, hG', wrap64, g1, gn1, gn2, gn3, purgeLo, asked_none, enterS, leaveS, shT, unT, resA, num, unbox, Option.some.injEq, exists_eq_left', tmv]
    have hD1 : ({ P := X.P, D := D, G := G, S := X.S, N0 := X.N0, B := X.B, w0 := X.w0, nb := 70000, M := noM } : Cx).D = D ∧ True := ⟨rfl, trivial⟩
    have hD2 : ({ P := X.P, D := D, G := G, S := X.S, N0 := X.N0, B := X.B, w0 := X.w0, nb := 140000, M := noM } : Cx).D = D ∧ True := ⟨rfl, trivial⟩
    refine Tr.loop (ι := Nat) (fun i => i ≤ items.length ∧ ∀ j, j < i → notOut (items.getD j item0) = false) (fun i => { nt := 19, tm := [(0, .os 4103), (1, .func 130 [.ptr 5 0]), (7, .int .i64 items.length), (8, .int .i64 i), (65536, .os 4103), (65537, .func 130 [.ptr 5 0]), (131074, .ptr 2 0), (131076, .ptr 4 0), (131077, .ptr 5 0)], bl := [(2, some (.cells [.str [], .int .i64 0, .nils])), (4, some (.cells [.str nl, .int .i64 limit, .os 4103])), (5, some (.cells [.nils])), (4103, some (.rows 65 7 (items.map itemRow)))] }) (fun i => items.length - i) 0
      ⟨⟨Nat.zero_le _, fun j hj => absurd hj (Nat.not_lt_zero j)⟩, wk_of hD2 [(2, 2), (4, 4), (5, 5), (4103, 4103)] rfl rfl (by simp only [freeze_nil, freeze_cons, mapT, mapB, mapL, gone, fz, fzs, plain, rowsAt, List.cons_append, List.nil_append, covT, covB, covBlk, cov, covs, keys, get, blk, jn, subs, mem, names, namess, Option.map_some, Option.map_none, Option.getD_some, Option.getD_none, resS, resT, resT.resT', ownS, Nat.reduceEqDiff, ↓reduceIte, if_true, if_false, and_true, true_and, and_self, Nat.reduceAdd, List.map_cons, List.map_nil, ite_true, ite_false, reduceCtorEq]; simp) (by simp only [freeze_nil, freeze_cons, mapT, mapB, mapL, gone, fz, fzs, plain, rowsAt, List.cons_append, List.nil_append, covT, covB, covBlk, cov, covs, keys, get, blk, jn, subs, mem, names, namess, Option.map_some, Option.map_none, Option.getD_some, Option.getD_none, resS, resT, resT.resT', ownS, Nat.reduceEqDiff, ↓reduceIte, if_true, if_false, and_true, true_and, and_self, Nat.reduceAdd, List.map_cons, List.map_nil, ite_true, ite_false, reduceCtorEq]; simp)⟩ ?_
    rintro i ⟨hi, hnot⟩
    refine evC_sound hX2 (fun _ => {}) _ _ _ ?_
    simp (disch := ((try simp only [List.length_drop, List.length_take, List.length_append, List.length_cons, List.length_nil, List.length_map]); omega)) only [go_sem, Nat.reduceLeDiff, reduceCtorEq, Nat.reduceAdd, Nat.reduceSub, Nat.reduceMul, Nat.reduceLT, Nat.reduceEqDiff, Int.reduceEq, Int.reduceLE, Int.reduceLT, Int.reducePow, Int.reduceMul, Int.reduceToNat, Int.reduceNeg, ↓reduceIte, ← List.map_take, ← List.map_drop, hD, hG', wrap64, gn1, gn2, gn3, purgeLo, asked_none]
    refine condK_split (fun h => ?_) (fun h => ?_)
    · rw [decide_eq_true_eq] at h
      have hi1 : i < items.length := by omega
      have hgx := itemGet hi1
      generalize hx : items.getD i item0 = x at *
      obtain ⟨a1, a2, a3, a4, a5, ⟨xp, xb⟩⟩ := x
      simp only [itemRow] at hgx
      simp (disch := ((try simp only [List.length_drop, List.length_take, List.length_append, List.length_cons, List.length_nil, List.length_map]); omega)) only [go_sem, Nat.reduceLeDiff, reduceCtorEq, Nat.reduceAdd, Nat.reduceSub, Nat.reduceMul, Nat.reduceLT, Nat.reduceEqDiff, Int.reduceEq, Int.reduceLE, Int.reduceLT, Int.reducePow, Int.reduceMul, Int.reduceToNat, Int.reduceNeg, ↓reduceIte, ← List.map_take, ← List.map_drop, hD, hG', wrap64, gn1, gn2, gn3, purgeLo, asked_none, hgx]
      refine ⟨by omega, inl_call (rs := [(3, none)]) hX2.types rfl (by show X.P.funcs[_]? = _; rw [hP]; exact Try.func130) rfl (by decide) Try.results130 (by decide) Try.ntmps130 (by simp) (by simp) 210000 noM ?_⟩
      have hX3 := inl_ok hX2 210000 MOk.none
      refine evC_sound hX3 (fun _ => {}) _ _ _ ?_
      cases a4
      · have hm1 : ((i : Int) == -1) = false := by simp
        simp (disch := ((try simp only [List.length_drop, List.length_take, List.length_append, List.length_cons, List.length_nil, List.length_map]); omega)) only [go_sem, Nat.reduceLeDiff, reduceCtorEq, Nat.reduceAdd, Nat.reduceSub, Nat.reduceMul, Nat.reduceLT, Nat.reduceEqDiff, Int.reduceEq, Int.reduceLE, Int.reduceLT, Int.reducePow, Int.reduceMul, Int.reduceToNat, Int.reduceNeg, ↓reduceIte, ← List.map_take, ← List.map_drop, hD, hG', wrap64, gn1, gn2, gn3, purgeLo, asked_none, enterS, leaveS, shT, unT, resA, num, unbox, Option.some.injEq, exists_eq_left', tmv, hm1]
        refine Tr.loop (ι := Nat × List LItem) (fun p => (p.1 ≤ items.length ∧ (keptS items p.1).length < p.1) ∧ (p.2.length = items.length ∧ p.2.take (keptS items p.1).length = keptS items p.1) ∧ ∀ m, p.1 ≤ m → p.2.getD m item0 = items.getD m item0) (fun p => { nt := 42, tm := [(0, .os 4103), (1, .func 130 [.ptr 5 0]), (5, .int .i64 (keptS items p.1).length), (6, .int .i64 p.1), (65538, .ptr 2 0), (65540, .ptr 4 0), (65541, .ptr 5 0)], bl := [(2, some (.cells [.str [], .int .i64 0, .nils])), (4, some (.cells [.str nl, .int .i64 limit, .os 4103])), (5, some (.cells [.os 5000])), (5000, some (.rows 3 1 ((goneS (items.take p.1)).map intRow))), (4103, some (.rows 65 7 (p.2.map itemRow)))] }) (fun p => items.length - p.1) (i + 1, items)
          ⟨?_, wk_of hD1 [(2, 2), (4, 4), (5, 5), (5000, 210011), (4103, 4103)] rfl rfl ?_ ?_⟩ ?_
        · have hk := kept_all hnot hi
          have hk1 : keptS items (i + 1) = items.take i := by rw [kept_succ hi1, hx, hk.1]; simp
          have hkl : (keptS items (i + 1)).length = i := by rw [hk1, List.length_take]; omega
          exact ⟨⟨hi1, by show (keptS items (i + 1)).length < i + 1; omega⟩, ⟨rfl, by show items.take (keptS items (i + 1)).length = keptS items (i + 1); rw [hkl, hk1]⟩, fun m _ => rfl⟩
        · have hk := kept_all hnot hi
          have hk1 : keptS items (i + 1) = items.take i := by rw [kept_succ hi1, hx, hk.1]; simp
          have hkl : (keptS items (i + 1)).length = i := by rw [hk1, List.length_take]; omega
          simp only [freeze_nil, freeze_cons, mapT, mapB, mapL, gone, fz, fzs, plain, rowsAt, List.cons_append, List.nil_append, covT, covB, covBlk, cov, covs, keys, get, blk, jn, subs, mem, names, namess, Option.map_some, Option.map_none, Option.getD_some, Option.getD_none, resS, resT, resT.resT', ownS, Nat.reduceEqDiff, ↓reduceIte, if_true, if_false, and_true, true_and, and_self, Nat.reduceAdd, List.map_cons, List.map_nil, ite_true, ite_false, reduceCtorEq, hkl]
          simp
        · have hk := kept_all hnot hi
          have hk2 : goneS (items.take (i + 1)) = [a1] := by rw [gone_succ hi1, hx, hk.2]; simp
          simp only [freeze_nil, freeze_cons, mapT, mapB, mapL, gone, fz, fzs, plain, rowsAt, List.cons_append, List.nil_append, covT, covB, covBlk, cov, covs, keys, get, blk, jn, subs, mem, names, namess, Option.map_some, Option.map_none, Option.getD_some, Option.getD_none, resS, resT, resT.resT', ownS, Nat.reduceEqDiff, ↓reduceIte, if_true, if_false, and_true, true_and, and_self, Nat.reduceAdd, List.map_cons, List.map_nil, ite_true, ite_false, reduceCtorEq, hk2]
          simp [intRow]
        rintro ⟨j, l⟩ ⟨⟨hj1, hj2⟩, ⟨hj3, hj4⟩, hj5⟩
        simp only at hj1 hj2 hj3 hj4 hj5
        have hkj : (keptS items j).length ≤ 1048576 := by omega
        have hgj : (goneS (items.take j)).length ≤ 1048576 := by
          have : (items.take j).length = j := by rw [List.length_take]; omega
          have := List.length_filter_le notOut (items.take j)
          unfold goneS
          rw [List.length_map]
          omega
        refine evC_sound hX1 (fun id => match id with | 11 => {hand := true} | _ => {}) _ _ _ ?_
        simp (disch := ((try simp only [List.length_drop, List.length_take, List.length_append, List.length_cons, List.length_nil, List.length_map]); omega)) only [go_sem, Nat.reduceLeDiff, reduceCtorEq, Nat.reduceAdd, Nat.reduceSub, Nat.reduceMul, Nat.reduceLT, Nat.reduceEqDiff, Int.reduceEq, Int.reduceLE, Int.reduceLT, Int.reducePow, Int.reduceMul, Int.reduceToNat, Int.reduceNeg, ↓reduceIte, ← List.map_take, ← List.map_drop, hD, hG', wrap64, gn1, gn2, gn3, purgeLo, asked_none]
        refine condK_split (fun h => ?_) (fun h => ?_)
        · rw [decide_eq_true_eq] at h
          have hji : j < items.length := by omega
          have hjl : j < l.length := by omega
          have hgx := itemGet hjl
          have hgy := itemGet (l := l) (i := (keptS items j).length) (by omega)
          have hks := kept_succ hji
          have hgs := gone_succ hji
          rw [hj5 j (Nat.le_refl j)] at hgx
          generalize hy : l.getD (keptS items j).length item0 = y at *
          generalize hx : items.getD j item0 = x at *
          obtain ⟨a1, a2, a3, a4, a5, ⟨xp, xb⟩⟩ := x
          obtain ⟨b1, b2, b3, b4, b5, ⟨yp, yb⟩⟩ := y
          simp only [itemRow] at hgx hgy
          simp (disch := ((try simp only [List.length_drop, List.length_take, List.length_append, List.length_cons, List.length_nil, List.length_map]); omega)) only [go_sem, Nat.reduceLeDiff, reduceCtorEq, Nat.reduceAdd, Nat.reduceSub, Nat.reduceMul, Nat.reduceLT, Nat.reduceEqDiff, Int.reduceEq, Int.reduceLE, Int.reduceLT, Int.reducePow, Int.reduceMul, Int.reduceToNat, Int.reduceNeg, ↓reduceIte, ← List.map_take, ← List.map_drop, hD, hG', wrap64, gn1, gn2, gn3, asked_none, hgx]
          refine ⟨by omega, inl_call (rs := [(3, none)]) hX1.types rfl (by show X.P.funcs[_]? = _; rw [hP]; exact Try.func130) rfl (by decide) Try.results130 (by decide) Try.ntmps130 (by simp) (by simp) 280000 noM ?_⟩
          have hX4 := inl_ok hX1 280000 MOk.none
          refine evC_sound hX4 (fun _ => {}) _ _ _ ?_
          cases a4
          · simp (disch := ((try simp only [List.length_drop, List.length_take, List.length_append, List.length_cons, List.length_nil, List.length_map]); omega)) only [go_sem, Nat.reduceLeDiff, reduceCtorEq, Nat.reduceAdd, Nat.reduceSub, Nat.reduceMul, Nat.reduceLT, Nat.reduceEqDiff, Int.reduceEq, Int.reduceLE, Int.reduceLT, Int.reducePow, Int.reduceMul, Int.reduceToNat, Int.reduceNeg, ↓reduceIte, ← List.map_take, ← List.map_drop, hD, hG', wrap64, gn1, gn2, gn3, asked_none, enterS, leaveS, shT, unT, resA, num, unbox, Option.some.injEq, exists_eq_left', tmv]
            simp only [Bool.false_eq_true, if_false, List.append_nil] at hks hgs
            refine ⟨by omega, (j + 1, l), ⟨⟨⟨hji, by show (keptS items (j + 1)).length < j + 1; rw [hks]; omega⟩, ⟨hj3, by show l.take (keptS items (j + 1)).length = keptS items (j + 1); rw [hks]; exact hj4⟩, fun m hm => hj5 m (by simp only at hm; omega)⟩, by simp only; omega⟩, wk_of hD1 [(2, 2), (4, 4), (5, 5), (5000, 280011), (4103, 4103)] rfl rfl ?_ ?_⟩
            all_goals simp only [freeze_nil, freeze_cons, mapT, mapB, mapL, gone, fz, fzs, plain, rowsAt, List.cons_append, List.nil_append, covT, covB, covBlk, cov, covs, keys, get, blk, jn, subs, mem, names, namess, Option.map_some, Option.map_none, Option.getD_some, Option.getD_none, resS, resT, resT.resT', ownS, Nat.reduceEqDiff, ↓reduceIte, if_true, if_false, and_true, true_and, and_self, Nat.reduceAdd, List.map_cons, List.map_nil, ite_true, ite_false, reduceCtorEq, hks, hgs]
            all_goals simp [intRow]
          · simp (disch := ((try simp only [List.length_drop, List.length_take, List.length_append, List.length_cons, List.length_nil, List.length_map]); omega)) only [go_sem, Nat.reduceLeDiff, reduceCtorEq, Nat.reduceAdd, Nat.reduceSub, Nat.reduceMul, Nat.reduceLT, Nat.reduceEqDiff, Int.reduceEq, Int.reduceLE, Int.reduceLT, Int.reducePow, Int.reduceMul, Int.reduceToNat, Int.reduceNeg, ↓reduceIte, ← List.map_take, ← List.map_drop, hD, hG', wrap64, gn1, gn2, gn3, asked_none, enterS, leaveS, shT, unT, resA, num, unbox, Option.some.injEq, exists_eq_left', tmv, hgy]
            simp only [if_true, List.append_nil] at hks hgs
            have hkl : (keptS items j).length < l.length := by omega
            refine ⟨by omega, hkl, (j + 1, l.set (keptS items j).length ⟨a1, a2, a3, true, a5, ⟨xp, xb⟩⟩), ⟨⟨⟨hji, by show (keptS items (j + 1)).length < j + 1; rw [hks, List.length_append, List.length_singleton]; omega⟩, ⟨by simpa using hj3, by show List.take (keptS items (j + 1)).length (l.set _ _) = keptS items (j + 1); rw [hks, List.length_append, List.length_singleton, set_take hkl, hj4]⟩, fun m hm => by simp only at hm ⊢; rw [set_far (by omega)]; exact hj5 m (by omega)⟩, by simp only; omega⟩, wk_of hD1 [(2, 2), (4, 4), (5, 5), (5000, 5000), (4103, 4103)] rfl rfl ?_ ?_⟩
            all_goals simp only [freeze_nil, freeze_cons, mapT, mapB, mapL, gone, fz, fzs, plain, rowsAt, List.cons_append, List.nil_append, covT, covB, covBlk, cov, covs, keys, get, blk, jn, subs, mem, names, namess, Option.map_some, Option.map_none, Option.getD_some, Option.getD_none, resS, resT, resT.resT', ownS, Nat.reduceEqDiff, ↓reduceIte, if_true, if_false, and_true, true_and, and_self, Nat.reduceAdd, List.map_cons, List.map_nil, ite_true, ite_false, reduceCtorEq, hks, hgs]
            all_goals simp [itemRow]
        · rw [decide_eq_false_iff_not] at h
          have hie : j = items.length := by omega
          subst hie
          simp (disch := ((try simp only [List.length_drop, List.length_take, List.length_append, List.length_cons, List.length_nil, List.length_map]); omega)) only [go_sem, Nat.reduceLeDiff, reduceCtorEq, Nat.reduceAdd, Nat.reduceSub, Nat.reduceMul, Nat.reduceLT, Nat.reduceEqDiff, Int.reduceEq, Int.reduceLE, Int.reduceLT, Int.reducePow, Int.reduceMul, Int.reduceToNat, Int.reduceNeg, ↓reduceIte, ← List.map_take, ← List.map_drop, hD, hG', wrap64, gn1, gn2, gn3, purgeLo, asked_none, enterS, leaveS, shT, unT, resA, num, unbox, Option.some.injEq, exists_eq_left', tmv]
          rw [List.take_length] at *
          have hka : keptS items items.length = items.filter isOut := by unfold keptS; rw [List.take_length]
          rw [hka] at hj2 hj4 ⊢
          generalize hkp : (items.filter isOut).length = k at hj2 hj4 ⊢
          refine Tr.inl hX1 [2, 3] ?_
          simp (disch := ((try simp only [List.length_drop, List.length_take, List.length_append, List.length_cons, List.length_nil, List.length_map]); omega)) only [go_sem, Nat.reduceLeDiff, reduceCtorEq, Nat.reduceAdd, Nat.reduceSub, Nat.reduceMul, Nat.reduceLT, Nat.reduceEqDiff, Int.reduceEq, Int.reduceLE, Int.reduceLT, Int.reducePow, Int.reduceMul, Int.reduceToNat, Int.reduceNeg, ↓reduceIte, ← List.map_take, ← List.map_drop, hD, hG', wrap64, regI_cons, regI_nil, gn1, gn2, gn3, purgeLo, asked_none, enterS, leaveS, shT, unT, resA, num, unbox, Option.some.injEq, exists_eq_left', tmv]
          refine inl_tail (v := 4103) (l := k) (el := 65) (rs := l.map itemRow) hX1.types (by rfl) (by rfl) (by rfl) (by rfl) (by rw [List.length_map]; omega) (by rfl) (by simp) ?_
          simp (disch := ((try simp only [List.length_drop, List.length_take, List.length_append, List.length_cons, List.length_nil, List.length_map]); omega)) only [go_sem, Nat.reduceLeDiff, reduceCtorEq, Nat.reduceAdd, Nat.reduceSub, Nat.reduceMul, Nat.reduceLT, Nat.reduceEqDiff, Int.reduceEq, Int.reduceLE, Int.reduceLT, Int.reducePow, Int.reduceMul, Int.reduceToNat, Int.reduceNeg, ↓reduceIte, ← List.map_take, ← List.map_drop, hD, hG', wrap64, regI_cons, regI_nil, gn1, gn2, gn3, purgeLo, asked_none, enterS, leaveS, shT, unT, resA, num, unbox, Option.some.injEq, exists_eq_left', tmv]
          refine inl_clear (v := 4103) (l := k) (el := 65) (rs := l.map itemRow) hX1.types (by rfl) (by rfl) (by rfl) (by rw [List.length_map]; omega) ?_
          have hrs : (l.map itemRow).take k = (items.filter isOut).map itemRow := by rw [← List.map_take, hj4]
          rw [hrs]
          generalize hR : List.replicate _ _ = R
          have hkm : k = ((items.filter isOut).map itemRow).length := by rw [List.length_map, hkp]
          have htk : ((items.filter isOut).map itemRow ++ R).take k = (items.filter isOut).map itemRow := by rw [hkm]; simp
          have hln : k ≤ ((items.filter isOut).map itemRow ++ R).length := by rw [List.length_append, ← hkm]; omega
          generalize (items.filter isOut).map itemRow ++ R = R2 at htk hln ⊢
          simp (disch := ((try simp only [List.length_drop, List.length_take, List.length_append, List.length_cons, List.length_nil, List.length_map]); omega)) only [go_sem, Nat.reduceLeDiff, reduceCtorEq, Nat.reduceAdd, Nat.reduceSub, Nat.reduceMul, Nat.reduceLT, Nat.reduceEqDiff, Int.reduceEq, Int.reduceLE, Int.reduceLT, Int.reducePow, Int.reduceMul, Int.reduceToNat, Int.reduceNeg, ↓reduceIte, ← List.map_take, ← List.map_drop, hD, hG', wrap64, regI_cons, regI_nil, gn1, gn2, gn3, purgeLo, asked_none, htk, enterS, leaveS, shT, unT, resA, num, unbox, Option.some.injEq, exists_eq_left', tmv]
          refine ⟨by omega, by decide, [5000], [], rfl, rfl, ?_, ?_⟩ <;> simp only [freeze_nil, freeze_cons, mapT, mapB, mapL, gone, fz, fzs, plain, rowsAt, List.cons_append, List.nil_append, covT, covB, covBlk, cov, covs, keys, get, blk, jn, subs, mem, names, namess, Option.map_some, Option.map_none, Option.getD_some, Option.getD_none, resS, resT, resT.resT', ownS, Nat.reduceEqDiff, ↓reduceIte, if_true, if_false, and_true, true_and, and_self, Nat.reduceAdd, List.map_cons, List.map_nil, ite_true, ite_false, reduceCtorEq]
          rw [hr]
          simp [hnl]
      · simp (disch := ((try simp only [List.length_drop, List.length_take, List.length_append, List.length_cons, List.length_nil, List.length_map]); omega)) only [go_sem, Nat.reduceLeDiff, reduceCtorEq, Nat.reduceAdd, Nat.reduceSub, Nat.reduceMul, Nat.reduceLT, Nat.reduceEqDiff, Int.reduceEq, Int.reduceLE, Int.reduceLT, Int.reducePow, Int.reduceMul, Int.reduceToNat, Int.reduceNeg, ↓reduceIte, ← List.map_take, ← List.map_drop, hD, hG', wrap64, gn1, gn2, gn3, purgeLo, asked_none, enterS, leaveS, shT, unT, resA, num, unbox, Option.some.injEq, exists_eq_left', tmv]
        refine ⟨i + 1, ⟨⟨by omega, fun j hj => ?_⟩, by omega⟩, wk_of hD2 [(2, 2), (4, 4), (5, 5), (4103, 4103)] rfl rfl ?_ ?_⟩
        · by_cases hji : j = i
          · rw [hji, hx]; rfl
          · exact hnot j (by omega)
        all_goals simp only [freeze_nil, freeze_cons, mapT, mapB, mapL, gone, fz, fzs, plain, rowsAt, List.cons_append, List.nil_append, covT, covB, covBlk, cov, covs, keys, get, blk, jn, subs, mem, names, namess, Option.map_some, Option.map_none, Option.getD_some, Option.getD_none, resS, resT, resT.resT', ownS, Nat.reduceEqDiff, ↓reduceIte, if_true, if_false, and_true, true_and, and_self, Nat.reduceAdd, List.map_cons, List.map_nil, ite_true, ite_false, reduceCtorEq]
        all_goals simp
    · rw [decide_eq_false_iff_not] at h
      have hie : i = items.length := by omega
      subst hie
      simp (disch := ((try simp only [List.length_drop, List.length_take, List.length_append, List.length_cons, List.length_nil, List.length_map]); omega)) only [go_sem, Nat.reduceLeDiff, reduceCtorEq, Nat.reduceAdd, Nat.reduceSub, Nat.reduceMul, Nat.reduceLT, Nat.reduceEqDiff, Int.reduceEq, Int.reduceLE, Int.reduceLT, Int.reducePow, Int.reduceMul, Int.reduceToNat, Int.reduceNeg, ↓reduceIte, ← List.map_take, ← List.map_drop, hD, hG', wrap64, gn1, gn2, gn3, purgeLo, asked_none, enterS, leaveS, shT, unT, resA, num, unbox, Option.some.injEq, exists_eq_left', tmv]
      have hall : ∀ x ∈ items, isOut x = true := fun x hx => by
        obtain ⟨k, hk⟩ := List.getElem?_of_mem hx
        have hkl := (List.getElem?_eq_some_iff.1 hk).1
        have := hnot k hkl
        rw [List.getD_eq_getElem?_getD, hk] at this
        simpa [notOut, isOut] using this
      have hg0 : goneS items = [] := by
        unfold goneS
        rw [List.filter_eq_nil_iff.2 fun x hx => by have := hall x hx; simpa [notOut, isOut] using this]
        rfl
      refine ⟨by decide, ?_⟩
      refine ⟨[4103], [], rfl, rfl, ?_, ?_⟩ <;> simp only [freeze_nil, freeze_cons, mapT, mapB, mapL, gone, fz, fzs, plain, rowsAt, List.cons_append, List.nil_append, covT, covB, covBlk, cov, covs, keys, get, blk, jn, subs, mem, names, namess, Option.map_some, Option.map_none, Option.getD_some, Option.getD_none, resS, resT, resT.resT', ownS, Nat.reduceEqDiff, ↓reduceIte, if_true, if_false, and_true, true_and, and_self, Nat.reduceAdd, List.map_cons, List.map_nil, ite_true, ite_false, reduceCtorEq]
      rw [hr]
      simp [hg0, hnl, List.filter_eq_self.2 hall]
  exact hcon _ rfl
end Go.Proofs.Ythbejciebmkclaa.Ab
namespace Go.Proofs.Ythbejciebmkclaa.Ab
open Go Go.RowKit
set_option linter.unusedVariables false
set_option linter.unusedSimpArgs false

structure LHall where
  queues : List LQueue
  next : Int
instance : DecidableEq LHall := fun a b => decidable_of_iff (a.queues = b.queues ∧ a.next = b.next) (by cases a; cases b; simp)
def queueRow (q : LQueue) : List AV := [.str q.name.data.toList, .int .i64 q.limit, .sl 7 (q.items.map itemRow)]
def hallA (h : LHall) : AV := .agg [.sl 3 (h.queues.map queueRow), .int .i64 h.next]
theorem queueRow_inj {a b : LQueue} (h : queueRow a = queueRow b) : a = b := queueA_inj (congrArg AV.agg h)
theorem queues_inj {a b : List LQueue} (h : a.map queueRow = b.map queueRow) : a = b := (List.map_inj_right (fun _ _ h => queueRow_inj h)).1 h
theorem hallA_inj {a b : LHall} (h : hallA a = hallA b) : a = b := by
  obtain ⟨q, n⟩ := a
  obtain ⟨q', n'⟩ := b
  simp only [hallA, AV.agg.injEq, List.cons.injEq, AV.int.injEq, AV.sl.injEq, true_and, and_true] at h
  rw [queues_inj h.1, h.2]
def LHall.Fits (h : LHall) : Prop := h.queues.length ≤ 1048576 ∧ ∀ q ∈ h.queues, q.Fits ∧ q.name.size ≤ 1048576
theorem queueGet {l : List LQueue} {i : Nat} (h : i < l.length) : (l.map queueRow).getD i [] = queueRow (l.getD i queue0) := by
  simp [h]
theorem queue_fits {h : LHall} (hf : h.Fits) {i : Nat} (hi : i < h.queues.length) : (h.queues.getD i queue0).Fits ∧ (h.queues.getD i queue0).name.size ≤ 1048576 := by
  have : h.queues.getD i queue0 = h.queues[i] := by simp [hi]
  rw [this]
  exact hf.2 _ (List.getElem_mem hi)
/-- the first place from k on; below 0: none -/
def placeG {α : Type} (p : α → Bool) : List α → Int → Int
  | [], _ => -1
  | i :: r, k => if p i = true then k else placeG p r (k + 1)
theorem placeG_hit {α : Type} {p : α → Bool} {d : α} : ∀ {l : List α} {k : Nat} {s : Int}, k < l.length → (∀ j, j < k → p (l.getD j d) = false) → p (l.getD k d) = true → placeG p l s = s + k
  | [], k, s, h, _, _ => by simp at h
  | i :: r, 0, s, h, _, hk => by
    rw [placeG, if_pos (by simpa using hk)]
    simp
  | i :: r, k + 1, s, h, hj, hk => by
    have h0 := hj 0 (by omega)
    rw [placeG, if_neg (by simpa using h0), placeG_hit (d := d) (k := k) (by simpa using h) (fun j hlt => by simpa using hj (j + 1) (by omega)) (by simpa using hk)]
    omega
theorem placeG_miss {α : Type} {p : α → Bool} {d : α} : ∀ {l : List α} {s : Int}, (∀ j, j < l.length → p (l.getD j d) = false) → placeG p l s = -1
  | [], _, _ => rfl
  | i :: r, s, h => by
    have h0 := h 0 (by simp)
    rw [placeG, if_neg (by simpa using h0), placeG_miss (d := d) (fun j hlt => by simpa using h (j + 1) (by simpa using hlt))]
theorem placeG_range {α : Type} {p : α → Bool} {l : List α} : placeG p l 0 = -1 ∨ (0 ≤ placeG p l 0 ∧ placeG p l 0 < l.length) := by
  have key : ∀ (l : List α) (s : Int), 0 ≤ s → placeG p l s = -1 ∨ (s ≤ placeG p l s ∧ placeG p l s < s + l.length) := by
    intro l
    induction l with
    | nil => intro s hs; exact .inl rfl
    | cons i r ih =>
      intro s hs
      rw [placeG]
      split
      · exact .inr ⟨Int.le_refl _, by simp only [List.length_cons]; omega⟩
      · rcases ih (s + 1) (by omega) with h | h
        · exact .inl h
        · exact .inr ⟨by omega, by simp only [List.length_cons]; omega⟩
  have := key l 0 (Int.le_refl _)
  omega
def named (nm : List UInt8) (q : LQueue) : Bool := q.name.data.toList == nm
def findS (l : List LQueue) (nm : List UInt8) : Int := placeG (named nm) l 0
set_option maxRecDepth 100000 in
set_option maxHeartbeats 1000000 in
theorem con_reffind (h : LHall) (nm : List UInt8) (hh : h.queues.length ≤ 1048576) : Con Try.prog D 41 [hallA h, .str nm] ⟨.int .i64 (findS h.queues nm), []⟩ := by
  have hok : GOk Try.prog D (tabG []) := tabG_ok _
  generalize tabG [] = G at *
  obtain ⟨l, next⟩ := h
  simp only at hh
  have hcon : ∀ r, r = findS l nm → Con Try.prog D 41 [hallA ⟨l, next⟩, .str nm] ⟨.int .i64 r, []⟩ := by
    intro r hr
    unfold findS at hr
    refine con_of (G := G) (rs := [(4, none)]) mixed tok hok Try.func41 rfl (by decide) Try.results41 (by decide) rfl Try.ntmps41 (by simp) (by simp [hallA, namess, names]) fun X hP hD hG' hX => evC_sound hX (fun _ => {}) _ _ _ ?_
    simp only [argS, num, hallA]
    simp (disch := omega) only [go_sem, Nat.reduceLeDiff, reduceCtorEq, Nat.reduceAdd, Nat.reduceSub, Nat.reduceMul, Nat.reduceLT, Nat.reduceEqDiff, Int.reduceEq, Int.reduceLE, Int.reduceLT, Int.reducePow, Int.reduceMul, Int.reduceToNat, Int.reduceNeg, ↓reduceIte, hD, hG', wrap64]
    refine Tr.loop (ι := Nat) (fun i => i ≤ l.length ∧ ∀ j, j < i → named nm (l.getD j queue0) = false) (fun i => { nt := 21, tm := [(1, .str nm), (8, .sl 3 (l.map queueRow)), (9, .int .i64 l.length), (10, .int .i64 i)], bl := [] }) (fun i => l.length - i) 0
      ⟨⟨Nat.zero_le _, fun j hj => absurd hj (Nat.not_lt_zero j)⟩, wk_of hD [] rfl rfl (by simp only [go_sem, Nat.reduceEqDiff]; simp) (by simp only [go_sem, Nat.reduceEqDiff])⟩ ?_
    rintro i ⟨hi, hnot⟩
    refine evC_sound hX (fun _ => {}) _ _ _ ?_
    simp (disch := omega) only [go_sem, Nat.reduceLeDiff, reduceCtorEq, Nat.reduceAdd, Nat.reduceSub, Nat.reduceMul, Nat.reduceLT, Nat.reduceEqDiff, Int.reduceEq, Int.reduceLE, Int.reduceLT, Int.reducePow, Int.reduceMul, Int.reduceToNat, Int.reduceNeg, ↓reduceIte, hD, hG', wrap64]
    refine condK_split (fun h => ?_) (fun h => ?_)
    · rw [decide_eq_true_eq] at h
      have hi1 : i < l.length := by omega
      have hgx := queueGet hi1
      have hit : ∀ x, l.getD i queue0 = x → named nm x = true → r = (i : Int) := fun x hx hp => by
        rw [hr, placeG_hit hi1 hnot (by rw [hx]; exact hp)]
        omega
      generalize hx : l.getD i queue0 = x at *
      have hit := hit x rfl
      obtain ⟨qn, ql, qi⟩ := x
      simp only [queueRow] at hgx
      simp (disch := omega) only [go_sem, Nat.reduceLeDiff, reduceCtorEq, Nat.reduceAdd, Nat.reduceSub, Nat.reduceMul, Nat.reduceLT, Nat.reduceEqDiff, Int.reduceEq, Int.reduceLE, Int.reduceLT, Int.reducePow, Int.reduceMul, Int.reduceToNat, Int.reduceNeg, ↓reduceIte, hD, hG', wrap64, hgx]
      refine ⟨by omega, condK_split (fun h => ?_) (fun h => ?_)⟩
      · have hp : named nm ⟨qn, ql, qi⟩ = true := h
        simp (disch := omega) only [go_sem, Nat.reduceLeDiff, reduceCtorEq, Nat.reduceAdd, Nat.reduceSub, Nat.reduceMul, Nat.reduceLT, Nat.reduceEqDiff, Int.reduceEq, Int.reduceLE, Int.reduceLT, Int.reducePow, Int.reduceMul, Int.reduceToNat, Int.reduceNeg, ↓reduceIte, hD, hG', wrap64]
        simp (disch := omega) only [go_sem, Nat.reduceLeDiff, reduceCtorEq, Nat.reduceAdd, Nat.reduceSub, Nat.reduceMul, Nat.reduceLT, Nat.reduceEqDiff, Int.reduceEq, Int.reduceLE, Int.reduceLT, Int.reducePow, Int.reduceMul, Int.reduceToNat, Int.reduceNeg, ↓reduceIte, hD, hG', wrap64, unbox, tmv, Option.some.injEq, exists_eq_left']
        refine ⟨[], [], rfl, rfl, ?_, ?_⟩ <;> simp only [go_sem, Nat.reduceEqDiff]
        rw [hit hp]
      · have hp : named nm ⟨qn, ql, qi⟩ = false := h
        simp (disch := omega) only [go_sem, Nat.reduceLeDiff, reduceCtorEq, Nat.reduceAdd, Nat.reduceSub, Nat.reduceMul, Nat.reduceLT, Nat.reduceEqDiff, Int.reduceEq, Int.reduceLE, Int.reduceLT, Int.reducePow, Int.reduceMul, Int.reduceToNat, Int.reduceNeg, ↓reduceIte, hD, hG', wrap64]
        refine ⟨i + 1, ⟨⟨by omega, fun j hj => ?_⟩, by omega⟩, wk_of hD [] rfl rfl ?_ ?_⟩
        · by_cases hji : j = i
          · rw [hji, hx]; exact hp
          · exact hnot j (by omega)
        all_goals simp only [go_sem, Nat.reduceEqDiff]
        simp
    · rw [decide_eq_false_iff_not] at h
      have hie : i = l.length := by omega
      subst hie
      simp (disch := omega) only [go_sem, Nat.reduceLeDiff, reduceCtorEq, Nat.reduceAdd, Nat.reduceSub, Nat.reduceMul, Nat.reduceLT, Nat.reduceEqDiff, Int.reduceEq, Int.reduceLE, Int.reduceLT, Int.reducePow, Int.reduceMul, Int.reduceToNat, Int.reduceNeg, ↓reduceIte, hD, hG', wrap64]
      simp (disch := omega) only [go_sem, Nat.reduceLeDiff, reduceCtorEq, Nat.reduceAdd, Nat.reduceSub, Nat.reduceMul, Nat.reduceLT, Nat.reduceEqDiff, Int.reduceEq, Int.reduceLE, Int.reduceLT, Int.reducePow, Int.reduceMul, Int.reduceToNat, Int.reduceNeg, ↓reduceIte, hD, hG', wrap64, unbox, tmv, Option.some.injEq, exists_eq_left']
      refine ⟨[], [], rfl, rfl, ?_, ?_⟩ <;> simp only [go_sem, Nat.reduceEqDiff]
      rw [hr, placeG_miss hnot]
  exact hcon _ rfl
def badI (next last : Int) (i : LItem) : Prop := i.id ≤ last ∨ next ≤ i.id ∨ wrongS i.note ≠ 0 ∨ i.turn < 0 ∨ 1000 < i.turn ∨ i.tries < 0 ∨ 2 < i.tries ∨ i.due < 0 ∨ 1000000 < i.due
instance (next last : Int) (i : LItem) : Decidable (badI next last i) := by unfold badI; infer_instance
def lastS (l : List LItem) : Nat → Int
  | 0 => -1
  | j + 1 => (l.getD j item0).id
def itemsOk (next : Int) (l : List LItem) : Prop := ∀ j, j < l.length → ¬ badI next (lastS l j) (l.getD j item0)
instance (next : Int) (l : List LItem) : Decidable (itemsOk next l) := by unfold itemsOk; infer_instance
def headOk (h : LHall) (k : Nat) (q : LQueue) : Prop := keyS q.name = true ∧ findS h.queues q.name.data.toList = (k : Int) ∧ 1 ≤ q.limit ∧ q.limit ≤ 8 ∧ (q.items.length : Int) ≤ q.limit
instance (h : LHall) (k : Nat) (q : LQueue) : Decidable (headOk h k q) := by unfold headOk; infer_instance
def hallOk (h : LHall) : Prop := (h.queues.length ≤ 4 ∧ 0 ≤ h.next ∧ h.next ≤ 1000000) ∧ ∀ k, k < h.queues.length → headOk h k (h.queues.getD k queue0) ∧ itemsOk h.next (h.queues.getD k queue0).items
instance (h : LHall) : Decidable (hallOk h) := by unfold hallOk; infer_instance
def eReffind : Ent Try.prog D := ⟨41, LHall × List UInt8, fun x => [hallA x.1, .str x.2], fun x => x.1.queues.length ≤ 1048576, fun x => ⟨.int .i64 (findS x.1.queues x.2), []⟩, fun x y _ _ h => by
  simp only [List.cons.injEq, AV.str.injEq, and_true] at h
  have e : x = y := Prod.ext (hallA_inj h.1) h.2
  rw [e], fun x h => con_reffind x.1 x.2 h⟩
set_option maxRecDepth 100000 in
set_option maxHeartbeats 2000000 in
theorem con_right (h : LHall) (hh : h.Fits) : Con Try.prog D 23 [hallA h] ⟨.bool (decide (hallOk h)), []⟩ := by
  have hok : GOk Try.prog D (tabG [eReffind, eRefkey, eRefwrong]) := tabG_ok _
  have g1 : ∀ nm, tabG [eReffind, eRefkey, eRefwrong] 41 [hallA h, .str nm] = some ⟨.int .i64 (findS h.queues nm), []⟩ := fun nm => tabG_at (E := eReffind) (T := [eReffind, eRefkey, eRefwrong]) (i := 0) rfl (by decide) (h, nm) hh.1 rfl rfl
  have g2 : ∀ s : ByteArray, s.size ≤ 1048576 → tabG [eReffind, eRefkey, eRefwrong] 75 [.str s.data.toList] = some ⟨.bool (keyS s), []⟩ := fun s hs => tabG_at (E := eRefkey) (T := [eReffind, eRefkey, eRefwrong]) (i := 1) rfl (by decide) s hs rfl rfl
  have g3 : ∀ n : LNote, n.Fits → tabG [eReffind, eRefkey, eRefwrong] 18 [noteA n] = some ⟨.int .i64 (wrongS n), []⟩ := fun n hn => tabG_at (E := eRefwrong) (T := [eReffind, eRefkey, eRefwrong]) (i := 2) rfl (by decide) n hn rfl rfl
  generalize tabG [eReffind, eRefkey, eRefwrong] = G at *
  have hl := hh.1
  have hfq := fun i hi => queue_fits (i := i) hh hi
  have hcon : ∀ r, r = decide (hallOk h) → Con Try.prog D 23 [hallA h] ⟨.bool r, []⟩ := by
    intro r hr
    obtain ⟨l, next⟩ := h
    simp only [hallA] at g1 hl hfq
    refine con_of (G := G) (rs := [(2, none)]) mixed tok hok Try.func23 rfl (by decide) Try.results23 (by decide) rfl Try.ntmps23 (by simp) (by simp [hallA, namess, names]) fun X hP hD hG' hX => evC_sound hX (fun _ => {}) _ _ _ ?_
    simp only [argS, num, hallA]
    simp (disch := omega) only [go_sem, Nat.reduceLeDiff, reduceCtorEq, Nat.reduceAdd, Nat.reduceSub, Nat.reduceMul, Nat.reduceLT, Nat.reduceEqDiff, Int.reduceEq, Int.reduceLE, Int.reduceLT, Int.reducePow, Int.reduceMul, Int.reduceToNat, Int.reduceNeg, ↓reduceIte, hD, hG', wrap64, unbox, tmv, Option.some.injEq, exists_eq_left']
    refine RegT.mk [] ?_
    simp (disch := omega) only [go_sem, Nat.reduceLeDiff, reduceCtorEq, Nat.reduceAdd, Nat.reduceSub, Nat.reduceMul, Nat.reduceLT, Nat.reduceEqDiff, Int.reduceEq, Int.reduceLE, Int.reduceLT, Int.reducePow, Int.reduceMul, Int.reduceToNat, Int.reduceNeg, ↓reduceIte, hD, hG', wrap64, unbox, tmv, Option.some.injEq, exists_eq_left']
    and_intros
    all_goals (try (first | (intro hk; refine ⟨hk, fun h2 => ?_⟩; first | (rw [hk, h2]; rfl) | (rw [hk, decide_eq_false h2]; rfl)) | (intro hk; rw [decide_eq_false hk]; rfl) | (intro hk; rw [hk]; rfl)))
    refine condK_split (fun h0 => ?_) (fun h0 => ?_)
    · simp (disch := omega) only [go_sem, Nat.reduceLeDiff, reduceCtorEq, Nat.reduceAdd, Nat.reduceSub, Nat.reduceMul, Nat.reduceLT, Nat.reduceEqDiff, Int.reduceEq, Int.reduceLE, Int.reduceLT, Int.reducePow, Int.reduceMul, Int.reduceToNat, Int.reduceNeg, ↓reduceIte, hD, hG', wrap64, unbox, tmv, Option.some.injEq, exists_eq_left']
      refine ⟨[], [], rfl, rfl, ?_, ?_⟩ <;> simp only [go_sem, Nat.reduceEqDiff]
      rw [hr]
      unfold hallOk
      grind
    have h1 : l.length ≤ 4 ∧ 0 ≤ next ∧ next ≤ 1000000 := by grind
    simp (disch := omega) only [go_sem, Nat.reduceLeDiff, reduceCtorEq, Nat.reduceAdd, Nat.reduceSub, Nat.reduceMul, Nat.reduceLT, Nat.reduceEqDiff, Int.reduceEq, Int.reduceLE, Int.reduceLT, Int.reducePow, Int.reduceMul, Int.reduceToNat, Int.reduceNeg, ↓reduceIte, hD, hG', wrap64, unbox, tmv, Option.some.injEq, exists_eq_left']
    refine Tr.loop (ι := Nat) (fun k => k ≤ l.length ∧ ∀ j, j < k → headOk ⟨l, next⟩ j (l.getD j queue0) ∧ itemsOk next (l.getD j queue0).items) (fun k => { nt := 118, tm := [(1, .ptr 1 0), (23, .sl 3 (l.map queueRow)), (24, .int .i64 l.length), (25, .int .i64 k)], bl := [(1, some (.cells [.sl 3 (l.map queueRow), .int .i64 next]))] }) (fun k => l.length - k) 0
      ⟨⟨Nat.zero_le _, fun j hj => absurd hj (Nat.not_lt_zero j)⟩, wk_of hD [(1, 1)] rfl rfl (by simp only [go_sem, Nat.reduceEqDiff]; simp) (by simp only [go_sem, Nat.reduceEqDiff])⟩ ?_
    rintro k ⟨hk, hok1⟩
    refine evC_sound hX (fun _ => {}) _ _ _ ?_
    simp (disch := omega) only [go_sem, Nat.reduceLeDiff, reduceCtorEq, Nat.reduceAdd, Nat.reduceSub, Nat.reduceMul, Nat.reduceLT, Nat.reduceEqDiff, Int.reduceEq, Int.reduceLE, Int.reduceLT, Int.reducePow, Int.reduceMul, Int.reduceToNat, Int.reduceNeg, ↓reduceIte, hD, hG', wrap64, unbox, tmv, Option.some.injEq, exists_eq_left']
    refine condK_split (fun h => ?_) (fun h => ?_)
    · rw [decide_eq_true_eq] at h
      have hk1 : k < l.length := by omega
      have hgx := queueGet hk1
      obtain ⟨hqf, hqn⟩ := hfq k hk1
      have hbadr : ∀ q, l.getD k queue0 = q → ¬ (headOk ⟨l, next⟩ k q ∧ itemsOk next q.items) → r = false := fun q hq hb => by
        rw [hr]
        simp only [decide_eq_false_iff_not]
        intro ho
        have := ho.2 k hk1
        simp only [hq] at this
        exact hb this
      generalize hq : l.getD k queue0 = q at *
      have hbadr := hbadr q rfl
      obtain ⟨qn, ql, qi⟩ := q
      have g1 := g1 qn.data.toList
      have g2 := g2 qn hqn
      have hqi := hqf.1
      simp only [queueRow] at hgx hqi hqn
      simp (disch := omega) only [go_sem, Nat.reduceLeDiff, reduceCtorEq, Nat.reduceAdd, Nat.reduceSub, Nat.reduceMul, Nat.reduceLT, Nat.reduceEqDiff, Int.reduceEq, Int.reduceLE, Int.reduceLT, Int.reducePow, Int.reduceMul, Int.reduceToNat, Int.reduceNeg, ↓reduceIte, hD, hG', wrap64, hgx, unbox, tmv, Option.some.injEq, exists_eq_left']
      refine ⟨by omega, RegT.mk [] ?_⟩
      simp (disch := omega) only [go_sem, Nat.reduceLeDiff, reduceCtorEq, Nat.reduceAdd, Nat.reduceSub, Nat.reduceMul, Nat.reduceLT, Nat.reduceEqDiff, Int.reduceEq, Int.reduceLE, Int.reduceLT, Int.reducePow, Int.reduceMul, Int.reduceToNat, Int.reduceNeg, ↓reduceIte, hD, hG', wrap64, g1, g2, unbox, tmv, Option.some.injEq, exists_eq_left']
      and_intros
      all_goals (try (first | (intro hk; refine ⟨hk, fun h2 => ?_⟩; first | (rw [hk, h2]; rfl) | (rw [hk, decide_eq_false h2]; rfl)) | (intro hk; rw [decide_eq_false hk]; rfl) | (intro hk; rw [hk]; rfl)))
      all_goals (try omega)
      refine condK_split (fun h0 => ?_) (fun h0 => ?_)
      · simp (disch := omega) only [go_sem, Nat.reduceLeDiff, reduceCtorEq, Nat.reduceAdd, Nat.reduceSub, Nat.reduceMul, Nat.reduceLT, Nat.reduceEqDiff, Int.reduceEq, Int.reduceLE, Int.reduceLT, Int.reducePow, Int.reduceMul, Int.reduceToNat, Int.reduceNeg, ↓reduceIte, hD, hG', wrap64, unbox, tmv, Option.some.injEq, exists_eq_left']
        refine ⟨[], [], rfl, rfl, ?_, ?_⟩ <;> simp only [go_sem, Nat.reduceEqDiff]
        rw [hbadr (fun hb => ?_)]
        have hb := hb.1
        unfold headOk at hb
        grind
      have h2 : headOk ⟨l, next⟩ k ⟨qn, ql, qi⟩ := by unfold headOk; grind
      simp (disch := omega) only [go_sem, Nat.reduceLeDiff, reduceCtorEq, Nat.reduceAdd, Nat.reduceSub, Nat.reduceMul, Nat.reduceLT, Nat.reduceEqDiff, Int.reduceEq, Int.reduceLE, Int.reduceLT, Int.reducePow, Int.reduceMul, Int.reduceToNat, Int.reduceNeg, ↓reduceIte, hD, hG', wrap64, unbox, tmv, Option.some.injEq, exists_eq_left']
      refine Tr.loop (ι := Nat) (fun j => j ≤ qi.length ∧ ∀ m, m < j → ¬ badI next (lastS qi m) (qi.getD m item0)) (fun j => { nt := 118, tm := [(1, .ptr 1 0), (5, .int .i64 (lastS qi j)), (23, .sl 3 (l.map queueRow)), (24, .int .i64 l.length), (25, .int .i64 k), (61, .sl 7 (qi.map itemRow)), (62, .int .i64 qi.length), (63, .int .i64 j)], bl := [(1, some (.cells [.sl 3 (l.map queueRow), .int .i64 next]))] }) (fun j => qi.length - j) 0
        ⟨⟨Nat.zero_le _, fun j hj => absurd hj (Nat.not_lt_zero j)⟩, wk_of hD [(1, 1)] rfl rfl (by simp only [go_sem, Nat.reduceEqDiff]; simp [lastS]) (by simp only [go_sem, Nat.reduceEqDiff])⟩ ?_
      rintro j ⟨hj, hok2⟩
      refine evC_sound hX (fun _ => {}) _ _ _ ?_
      simp (disch := omega) only [go_sem, Nat.reduceLeDiff, reduceCtorEq, Nat.reduceAdd, Nat.reduceSub, Nat.reduceMul, Nat.reduceLT, Nat.reduceEqDiff, Int.reduceEq, Int.reduceLE, Int.reduceLT, Int.reducePow, Int.reduceMul, Int.reduceToNat, Int.reduceNeg, ↓reduceIte, hD, hG', wrap64, unbox, tmv, Option.some.injEq, exists_eq_left']
      refine condK_split (fun h => ?_) (fun h => ?_)
      · rw [decide_eq_true_eq] at h
        have hj1 : j < qi.length := by omega
        have hgx := itemGet hj1
        have hif := item_fits hqf hj1
        have hbadi : ∀ x, qi.getD j item0 = x → badI next (lastS qi j) x → r = false := fun x hx hb => by
          refine hbadr fun hb2 => ?_
          have := hb2.2 j hj1
          simp only [hx] at this
          exact this hb
        have hlast : lastS qi (j + 1) = (qi.getD j item0).id := rfl
        generalize hla : lastS qi j = la at *
        generalize hx : qi.getD j item0 = x at *
        have hbadi := hbadi x rfl
        have g3 := g3 x.note hif
        obtain ⟨a1, a2, a3, a4, a5, ⟨xp, xb⟩⟩ := x
        simp only [itemRow] at hgx
        simp only [noteA] at g3
        simp (disch := omega) only [go_sem, Nat.reduceLeDiff, reduceCtorEq, Nat.reduceAdd, Nat.reduceSub, Nat.reduceMul, Nat.reduceLT, Nat.reduceEqDiff, Int.reduceEq, Int.reduceLE, Int.reduceLT, Int.reducePow, Int.reduceMul, Int.reduceToNat, Int.reduceNeg, ↓reduceIte, hD, hG', wrap64, hgx, unbox, tmv, Option.some.injEq, exists_eq_left']
        refine ⟨by omega, RegT.mk [] ?_⟩
        simp (disch := omega) only [go_sem, Nat.reduceLeDiff, reduceCtorEq, Nat.reduceAdd, Nat.reduceSub, Nat.reduceMul, Nat.reduceLT, Nat.reduceEqDiff, Int.reduceEq, Int.reduceLE, Int.reduceLT, Int.reducePow, Int.reduceMul, Int.reduceToNat, Int.reduceNeg, ↓reduceIte, hD, hG', wrap64, g3, unbox, tmv, Option.some.injEq, exists_eq_left']
        and_intros
        all_goals (try (first | (intro hk; refine ⟨hk, fun h2 => ?_⟩; first | (rw [hk, h2]; rfl) | (rw [hk, decide_eq_false h2]; rfl)) | (intro hk; rw [decide_eq_false hk]; rfl) | (intro hk; rw [hk]; rfl)))
        refine condK_split (fun h0 => ?_) (fun h0 => ?_)
        · simp (disch := omega) only [go_sem, Nat.reduceLeDiff, reduceCtorEq, Nat.reduceAdd, Nat.reduceSub, Nat.reduceMul, Nat.reduceLT, Nat.reduceEqDiff, Int.reduceEq, Int.reduceLE, Int.reduceLT, Int.reducePow, Int.reduceMul, Int.reduceToNat, Int.reduceNeg, ↓reduceIte, hD, hG', wrap64, unbox, tmv, Option.some.injEq, exists_eq_left']
          refine ⟨[], [], rfl, rfl, ?_, ?_⟩ <;> simp only [go_sem, Nat.reduceEqDiff]
          rw [hbadi ?_]
          clear hbadi hbadr hok1 hok2 hfq g1 g2 g3 hr
          unfold badI
          dsimp only
          simp at h0
          omega
        have h3 : ¬ badI next la ⟨a1, a2, a3, a4, a5, ⟨xp, xb⟩⟩ := by
          clear hbadi hbadr hok1 hok2 hfq g1 g2 g3 hr
          unfold badI
          dsimp only
          simp at h0
          omega
        simp (disch := omega) only [go_sem, Nat.reduceLeDiff, reduceCtorEq, Nat.reduceAdd, Nat.reduceSub, Nat.reduceMul, Nat.reduceLT, Nat.reduceEqDiff, Int.reduceEq, Int.reduceLE, Int.reduceLT, Int.reducePow, Int.reduceMul, Int.reduceToNat, Int.reduceNeg, ↓reduceIte, hD, hG', wrap64, unbox, tmv, Option.some.injEq, exists_eq_left']
        refine ⟨j + 1, ⟨⟨by omega, fun m hm => ?_⟩, by omega⟩, wk_of hD [(1, 1)] rfl rfl ?_ ?_⟩
        · by_cases hmj : m = j
          · rw [hmj, hx, hla]; exact h3
          · exact hok2 m (by omega)
        all_goals simp only [go_sem, Nat.reduceEqDiff, hlast]
        simp
      · rw [decide_eq_false_iff_not] at h
        have hje : j = qi.length := by omega
        subst hje
        simp (disch := omega) only [go_sem, Nat.reduceLeDiff, reduceCtorEq, Nat.reduceAdd, Nat.reduceSub, Nat.reduceMul, Nat.reduceLT, Nat.reduceEqDiff, Int.reduceEq, Int.reduceLE, Int.reduceLT, Int.reducePow, Int.reduceMul, Int.reduceToNat, Int.reduceNeg, ↓reduceIte, hD, hG', wrap64, unbox, tmv, Option.some.injEq, exists_eq_left']
        refine ⟨k + 1, ⟨⟨by omega, fun m hm => ?_⟩, by omega⟩, wk_of hD [(1, 1)] rfl rfl ?_ ?_⟩
        · by_cases hmj : m = k
          · rw [hmj, hq]; exact ⟨h2, hok2⟩
          · exact hok1 m (by omega)
        all_goals simp only [go_sem, Nat.reduceEqDiff]
        simp
    · rw [decide_eq_false_iff_not] at h
      have hke : k = l.length := by omega
      subst hke
      simp (disch := omega) only [go_sem, Nat.reduceLeDiff, reduceCtorEq, Nat.reduceAdd, Nat.reduceSub, Nat.reduceMul, Nat.reduceLT, Nat.reduceEqDiff, Int.reduceEq, Int.reduceLE, Int.reduceLT, Int.reducePow, Int.reduceMul, Int.reduceToNat, Int.reduceNeg, ↓reduceIte, hD, hG', wrap64, unbox, tmv, Option.some.injEq, exists_eq_left']
      refine ⟨[], [], rfl, rfl, ?_, ?_⟩ <;> simp only [go_sem, Nat.reduceEqDiff]
      have hfin : hallOk ⟨l, next⟩ := ⟨h1, hok1⟩
      simp [hr, hfin]
  exact hcon _ rfl
end Go.Proofs.Ythbejciebmkclaa.Ab
