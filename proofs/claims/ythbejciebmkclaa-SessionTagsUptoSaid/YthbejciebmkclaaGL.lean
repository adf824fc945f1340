/-
  Texts of the proof, one behind the other: JoC JoD JoE JoF JoG JoH JoI OpenJ OpenF.
  No condition but those that each theorem names.
-/
import Derived.Test.YthbejciebmkclaaGD
import Derived.Test.YthbejciebmkclaaGC
import Derived.Test.YthbejciebmkclaaGH
import Derived.Test.YthbejciebmkclaaGK
import Derived.Test.YthbejciebmkclaaGR
namespace Go.Proofs.Ythbejciebmkclaa.Ab
open Go Go.RowKit
set_option linter.unusedVariables false
set_option linter.unusedSimpArgs false

theorem numS_flat (w : World) (im : Nat → Prop) (ρ : Env) (n : Int) : FlatRel w im ρ 1 ((numS n).map byteRow) ((numS n).map byteV) := by
  refine ⟨by simp, fun i row hi => ?_⟩
  rw [List.getElem?_map] at hi
  obtain ⟨b, hb, rfl⟩ := Option.map_eq_some_iff.1 hi
  refine ⟨rfl, fun j x hj => ?_⟩
  cases j with
  | succ j => simp [byteRow] at hj
  | zero =>
    simp [byteRow] at hj
    subst hj
    refine ⟨by simp [names], byteV b, ?_, rfl, .int _ _⟩
    rw [Nat.mul_one, Nat.add_zero, List.getElem?_map, hb]
    rfl
theorem numS_vals (n : Int) : (numS n).map byteV = [.int .u8 (n / 16777216 % 256), .int .u8 (n / 65536 % 256), .int .u8 (n / 256 % 256), .int .u8 (n % 256)] := by
  simp only [numS, List.map_cons, List.map_nil, byteV, byteI_nat]
set_option maxRecDepth 40000 in
set_option maxHeartbeats 400000 in
theorem jnum_calls (n : Int) (rs : List (List AV)) (hn : rs.length ≤ 8388608) (w : World) (im : Nat → Prop) (ρ : Env) (u : Value) (xs : List Value) (hown : w.ownsRow 0 5 1 u rs.length xs) (hf : FlatRel w im ρ 1 rs xs) :
    Calls Try.prog 76 #[u, .int .i64 n] w (RowsPost w im ρ 5 1 u (rs ++ (numS n).map byteRow)) := by
  obtain ⟨i0, hi0, hz0, hz1, hz2⟩ := info_parts info_u8
  have HO := Lib.hid hown
  have HF := Lib.hid hf
  clear hown hf
  go_enter Try.func76, Try.ntmps76
  have HN := Lib.hid (numS_vals n)
  go_wp2_with (at_builtin; refine wpList_append_any _ rfl (.tmp 5) (.tmp 17) _ rfl 0 5 i0 _ 1 1 Try.underlying26 hi0 hz0 hz1 hz2 rfl (by omega) u rs.length xs rfl (own_later HO.out (by repeat (first | exact Below.refl _ _ | apply below_alloc | apply Below.drew | apply below_drewN))) (· = w.heap.size) (some ⟨w.heap.size, 0, none⟩) 4 4 ((numS n).map byteV) rfl (by rw [HN.out]; exact reads_lit w _ 5 1 4 rfl) (one_bytes _) (by simp only [maxLen]; omega) (by omega) (by simp) ?_; intro v1 w1 hown1 hg1 hat1)
  go_ret
  have hlen : (rs ++ (numS n).map byteRow).length = rs.length + 4 := by simp [numS]
  refine ⟨v1, xs ++ (numS n).map byteV, rfl, ?_, HF.out.append (numS_flat w im ρ n), ?_, ?_⟩
  · rw [hlen]; exact hown1
  · exact ⟨hg1.os, hg1.tape, hg1.output, by have := hg1.size; simp at this; omega, fun g hg hne => by rw [hg1.block g (by simp; omega) hne]; exact Below.heap_alloc w _ g hg⟩
  · intro b hb
    rcases hat1 with h | h
    · rw [h] at hb; exact .inl hb
    · rw [h] at hb
      have : b = w.heap.size + 1 := by simpa using hb.symm
      exact .inr (by omega)
/-- what num does to bytes of our own -/
def jnumM : MCtr := fun dn f args bl => if f = 76 then
    match args with
    | [.os v, .int .i64 n] => match bl v with
      | some (.rows e sz rs) => some { v := .os dn, kl := [v], nw := [(dn, .rows e sz (rs ++ (numS n).map byteRow))], pre := (e = 5 ∧ sz = 1) ∧ rs.length ≤ 8388608 }
      | _ => none
    | _ => none
  else none
theorem mok_jnum {G : Ctr} : MOk Try.prog D G jnumM := by
  intro X hP hD hG hM hmx hT hok ops o σ e hgd he hpre hfr
  obtain ⟨dst, f, args, types, ty, pos, af, g, caps, rfl, hf, he⟩ := mEff_call he hgd
  unfold jnumM at he
  split at he
  case isFalse => cases he
  rename_i hg91
  subst hg91
  split at he
  case h_2 => cases he
  rename_i v n hargs
  split at he
  case h_2 => cases he
  rename_i e0 sz rs hbl
  have hbl := snap_some hbl
  injection he with he
  subst he
  obtain ⟨⟨rfl, rfl⟩, hl⟩ := hpre
  simp only [fresh, keys, unbound, Bool.and_eq_true, Option.isNone_iff_eq_none] at hfr
  refine inl_rows (by rw [hP, hD]; exact hT) hf hargs hbl (by rw [hP]; exact Try.func76) rfl (by decide) hfr.1.1 (fun k hk => ?_) (fun w im ρ u vs xs h1 h2 h3 h4 h5 => ?_)
  · have := hfr.2
    rw [hk] at this
    simpa using this
  · obtain ⟨h6, h7⟩ := h4
    match vs, h6 with
    | [y], _ =>
      have := h7 0 _ y rfl rfl
      rw [this.int_, hP]
      exact jnum_calls n rs hl w im ρ u xs h1 h2

theorem rowApp (a b : List UInt8) : a.map byteRow ++ b.map byteRow = (a ++ b).map byteRow := List.map_append.symm
def entryB (e : LEntry) : List UInt8 := byteI e.kind :: (textS e.queue.data.toList ++ (if e.kind = 1 then [byteI e.n] else if e.kind = 2 then [] else numS e.id ++ (if e.kind = 3 then bytesN e.note else [])))
def jbytesLo : Nat → Lo := fun id => match id with | 6 => {uo := [3, 7], ex := [0, 8], kn := [14, 30]} | _ => {}
set_option maxRecDepth 100000 in
set_option maxHeartbeats 1000000 in
theorem con_jbytes (e : LEntry) (hk : 1 ≤ e.kind ∧ e.kind ≤ 4) (hq : e.queue.size ≤ 1048576) (hn : e.note.Fits) (hb : (bytesN e.note).length ≤ 4194304) : Con Try.prog D 19 [entryA e] ⟨.sl 1 ((entryB e).map byteRow), []⟩ := by
  have hok : GOk Try.prog D (tabG [eBytes]) := tabG_ok _
  have g1 := tabG_use (T := [eBytes]) (E := eBytes) (i := 0) rfl (by decide) (e.note) (⟨hn, hb⟩)
  have gn : ∀ a, tabG ([eBytes] : List (Ent Try.prog D)) 76 a = none := fun a => rfl
  generalize tabG [eBytes] = G at *
  dsimp only [eBytes] at g1
  have hs := size_len e.queue
  obtain ⟨ek, eq, en, ei, ⟨ep, eb⟩⟩ := e
  simp only [noteA] at g1
  simp only at hk hq hs hb
  have hn4 := num4 ei
  refine conM mok_jnum (G := G) (rs := [(2, none)]) hok Try.func19 Try.results19 Try.ntmps19 jbytesLo fun X hP hD hG' hX => ?_
  simp only [argS, num, entryA, entryRow]
  simp (disch := omega) only [go_sem, Nat.reduceLeDiff, reduceCtorEq, Nat.reduceAdd, Nat.reduceSub, Nat.reduceMul, Nat.reduceLT, Nat.reduceEqDiff, Int.reduceEq, Int.reduceLE, Int.reduceLT, Int.reducePow, Int.reduceMul, Int.reduceToNat, Int.reduceNeg, ↓reduceIte, hD, hG', wrap64, jbytesLo, wrap8, gn, unbox, tmv, Option.some.injEq, exists_eq_left']
  ((try and_intros); all_goals (try first | omega | decide | (simp; done) | (simp only [List.length_append, List.length_cons, List.length_nil, List.length_map]; omega)))
  have e4 : ek = 1 ∨ ek = 2 ∨ ek = 3 ∨ ek = 4 := by omega
  have hlen : (entryB ⟨ek, eq, en, ei, ⟨ep, eb⟩⟩).length ≤ 6000000 := by
    simp only [entryB, textS, List.length_cons, List.length_append]
    split
    · simp; omega
    · split
      · simp; omega
      · split <;> simp only [List.length_append, List.length_nil] <;> omega
  rcases e4 with h | h | h | h
  · have e1 : (ek == 1) = true := by simp [h]
    have he : entryB ⟨ek, eq, en, ei, ⟨ep, eb⟩⟩ = byteI ek :: byteI eq.data.toList.length :: (eq.data.toList ++ [byteI en]) := by simp [entryB, h, textS]
    rw [he]
    simp (disch := omega) only [go_sem, Nat.reduceLeDiff, reduceCtorEq, Nat.reduceAdd, Nat.reduceSub, Nat.reduceMul, Nat.reduceLT, Nat.reduceEqDiff, Int.reduceEq, Int.reduceLE, Int.reduceLT, Int.reducePow, Int.reduceMul, Int.reduceToNat, Int.reduceNeg, ↓reduceIte, hD, hG', wrap64, jbytesLo, wrap8, gn, e1, rowApp, unbox, tmv, Option.some.injEq, exists_eq_left']
    (repeat (with_reducible refine And.intro (by first | omega | decide | (simp; done) | (simp only [List.length_append, List.length_cons, List.length_nil, List.length_map]; omega)) ?_))
    refine endW [24] [] (by simp) rfl rfl rfl ?_ ?_ <;> simp only [go_sem, Nat.reduceEqDiff]
    simp [byteRow]
  · have e1 : (ek == 1) = false := by simp [h]
    have e3 : (ek == 3) = false := by simp [h]
    have e4 : (ek == 4) = false := by simp [h]
    have he : entryB ⟨ek, eq, en, ei, ⟨ep, eb⟩⟩ = byteI ek :: byteI eq.data.toList.length :: eq.data.toList := by simp [entryB, h, textS]
    rw [he]
    simp (disch := omega) only [go_sem, Nat.reduceLeDiff, reduceCtorEq, Nat.reduceAdd, Nat.reduceSub, Nat.reduceMul, Nat.reduceLT, Nat.reduceEqDiff, Int.reduceEq, Int.reduceLE, Int.reduceLT, Int.reducePow, Int.reduceMul, Int.reduceToNat, Int.reduceNeg, ↓reduceIte, hD, hG', wrap64, jbytesLo, wrap8, gn, e1, e3, e4, rowApp, unbox, tmv, Option.some.injEq, exists_eq_left']
    refine endW [14] [] (by simp) rfl rfl rfl ?_ ?_ <;> simp only [go_sem, Nat.reduceEqDiff]
    simp [byteRow]
  · have e1 : (ek == 1) = false := by simp [h]
    have e3 : (ek == 3) = true := by simp [h]
    have e4 : (ek == 4) = false := by simp [h]
    have he : entryB ⟨ek, eq, en, ei, ⟨ep, eb⟩⟩ = byteI ek :: byteI eq.data.toList.length :: (eq.data.toList ++ numS ei ++ bytesN ⟨ep, eb⟩) := by simp [entryB, h, textS]
    rw [he]
    simp (disch := omega) only [go_sem, Nat.reduceLeDiff, reduceCtorEq, Nat.reduceAdd, Nat.reduceSub, Nat.reduceMul, Nat.reduceLT, Nat.reduceEqDiff, Int.reduceEq, Int.reduceLE, Int.reduceLT, Int.reducePow, Int.reduceMul, Int.reduceToNat, Int.reduceNeg, ↓reduceIte, hD, hG', wrap64, jbytesLo, wrap8, gn, g1, asked_none, jnumM, e1, e3, e4, rowApp, unbox, tmv, Option.some.injEq, exists_eq_left']
    (repeat (with_reducible refine And.intro (by first | omega | decide | (simp; done) | (simp only [List.length_append, List.length_cons, List.length_nil, List.length_map]; omega)) ?_))
    refine endW [34] [] (by simp) rfl rfl rfl ?_ ?_ <;> simp only [go_sem, Nat.reduceEqDiff]
    simp [byteRow]
  · have e1 : (ek == 1) = false := by simp [h]
    have e3 : (ek == 3) = false := by simp [h]
    have e4 : (ek == 4) = true := by simp [h]
    have he : entryB ⟨ek, eq, en, ei, ⟨ep, eb⟩⟩ = byteI ek :: byteI eq.data.toList.length :: (eq.data.toList ++ numS ei) := by simp [entryB, h, textS]
    rw [he]
    simp (disch := omega) only [go_sem, Nat.reduceLeDiff, reduceCtorEq, Nat.reduceAdd, Nat.reduceSub, Nat.reduceMul, Nat.reduceLT, Nat.reduceEqDiff, Int.reduceEq, Int.reduceLE, Int.reduceLT, Int.reducePow, Int.reduceMul, Int.reduceToNat, Int.reduceNeg, ↓reduceIte, hD, hG', wrap64, jbytesLo, wrap8, gn, asked_none, jnumM, e1, e3, e4, rowApp, unbox, tmv, Option.some.injEq, exists_eq_left']
    (repeat (with_reducible refine And.intro (by first | omega | decide | (simp; done) | (simp only [List.length_append, List.length_cons, List.length_nil, List.length_map]; omega)) ?_))
    refine endW [40] [] (by simp) rfl rfl rfl ?_ ?_ <;> simp only [go_sem, Nat.reduceEqDiff]
    simp [byteRow]
end Go.Proofs.Ythbejciebmkclaa.Ab
namespace Go.Proofs.Ythbejciebmkclaa.Ab
open Go Go.RowKit
set_option linter.unusedVariables false
set_option linter.unusedSimpArgs false

theorem zero_int (W : World) : (zeroValue 3).run Try.prog W = .ok (.int .i64 0) W := by kernel_rfl
end Go.Proofs.Ythbejciebmkclaa.Ab
namespace Go.Proofs.Ythbejciebmkclaa.Ab
open Go Go.RowKit
set_option linter.unusedVariables false
set_option linter.unusedSimpArgs false

end Go.Proofs.Ythbejciebmkclaa.Ab
namespace Go.Proofs.Ythbejciebmkclaa.Ab
open Go Go.RowKit
set_option linter.unusedVariables false
set_option linter.unusedSimpArgs false

/-! in plain Lean -/
def EOk (e : LEntry) : Prop := (1 ≤ e.kind ∧ e.kind ≤ 4) ∧ e.queue.size ≤ 1048576 ∧ e.note.Fits ∧ (bytesN e.note).length ≤ 4194304
def hallLe (k : Nat) (h : LHall) : Prop := h.queues.length ≤ k ∧ ∀ q ∈ h.queues, (q.items.length ≤ k ∧ ∀ i ∈ q.items, i.note.Fits) ∧ q.name.size ≤ 1048576
theorem hallLe.fits {k : Nat} {h : LHall} (hk : k ≤ 1048576) (hh : hallLe k h) : h.Fits :=
  ⟨by have := hh.1; omega, fun q hq => ⟨⟨by have := (hh.2 q hq).1.1; omega, (hh.2 q hq).1.2⟩, (hh.2 q hq).2⟩⟩
theorem hallLe.apply {k : Nat} {h : LHall} (hh : hallLe k h) {e : LEntry} (hq : e.queue.size ≤ 1048576) (hn : e.note.Fits) : hallLe (k + 1) (applyS h e) := by
  obtain ⟨h1, h2⟩ := hh
  have h0 : ∀ q ∈ h.queues, (q.items.length ≤ k + 1 ∧ ∀ i ∈ q.items, i.note.Fits) ∧ q.name.size ≤ 1048576 := fun q hq => ⟨⟨by have := (h2 q hq).1.1; omega, (h2 q hq).1.2⟩, (h2 q hq).2⟩
  unfold applyS applyK
  generalize findS h.queues (nmL e.queue) = j
  split
  · refine ⟨by simp; omega, fun q hq => ?_⟩
    rcases List.mem_append.1 hq with h3 | h3
    · exact h0 q h3
    · rw [List.mem_singleton.1 h3]
      exact ⟨⟨by simp, by simp⟩, by assumption⟩
  split
  · refine ⟨Nat.le_trans (List.length_eraseIdx_le _ _) (by omega), fun q hq => h0 q (List.mem_of_mem_eraseIdx hq)⟩
  split
  · refine ⟨by simp; omega, fun q hq => ?_⟩
    rcases List.mem_or_eq_of_mem_set hq with h3 | h3
    · exact h0 q h3
    · rw [h3]
      unfold gotQ qAt
      by_cases hj : j.toNat < h.queues.length
      · have hm : h.queues.getD j.toNat queue0 ∈ h.queues := by simp [hj]
        have h4 := h2 _ hm
        refine ⟨⟨by simp only [List.length_append, List.length_cons, List.length_nil]; omega, fun i hi => ?_⟩, h4.2⟩
        rcases List.mem_append.1 hi with h5 | h5
        · exact h4.1.2 i h5
        · rw [List.mem_singleton.1 h5]; exact hn
      · rw [List.set_eq_of_length_le (by omega)] at hq
        rw [← gotQ, ← qAt, ← h3]
        exact h0 q hq
  split
  · refine ⟨by simp; omega, fun q hq => ?_⟩
    rcases List.mem_or_eq_of_mem_set hq with h3 | h3
    · exact h0 q h3
    · rw [h3]
      unfold goneQ qAt
      by_cases hj : j.toNat < h.queues.length
      · have hm : h.queues.getD j.toNat queue0 ∈ h.queues := by simp [hj]
        have h4 := h0 _ hm
        exact ⟨⟨Nat.le_trans (List.length_filter_le _ _) h4.1.1, fun i hi => h4.1.2 i (List.mem_filter.1 hi).1⟩, h4.2⟩
      · rw [List.set_eq_of_length_le (by omega)] at hq
        rw [← goneQ, ← qAt, ← h3]
        exact h0 q hq
  · exact ⟨by omega, h0⟩

/-! the tables -/
def eJbytes : Ent Try.prog D := ⟨19, LEntry, fun x => [entryA x], EOk, fun x => ⟨.sl 1 ((entryB x).map byteRow), []⟩, fun x y _ _ h => by
  simp only [List.cons.injEq, and_true] at h
  rw [entryA_inj h], fun x h => con_jbytes x h.1 h.2.1 h.2.2.1 h.2.2.2⟩

end Go.Proofs.Ythbejciebmkclaa.Ab
namespace Go.Proofs.Ythbejciebmkclaa.Ab
open Go Go.RowKit
set_option linter.unusedVariables false
set_option linter.unusedSimpArgs false

def writeS (l : List UInt8) (s : Int) (es : List LEntry) : LLog × Int := appendS ⟨l, s⟩ (es.map entryB)
set_option maxRecDepth 100000 in
set_option maxHeartbeats 1000000 in
theorem con_write (l : List UInt8) (s : Int) (es : List LEntry) (hl : l.length + ((es.map entryB).map frameS).flatten.length ≤ 8388608) (hr : es.length ≤ 1048576) (he : ∀ e ∈ es, EOk e) :
    Con Try.prog D 24 [.agg [.sl 1 (l.map byteRow), .int .i64 s], entriesA es] ⟨.tup [.agg [.sl 1 ((writeS l s es).1.bytes.map byteRow), .int .i64 (writeS l s es).1.sure], .int .i64 (writeS l s es).2], []⟩ := by
  have hok : GOk Try.prog D (tabG [eJbytes, eAppend]) := tabG_ok _
  have g1 := fun (e : LEntry) (h : EOk e) => tabG_use (T := [eJbytes, eAppend]) (E := eJbytes) (i := 0) rfl (by decide) (e) (h)
  have g2 := tabG_use (T := [eJbytes, eAppend]) (E := eAppend) (i := 1) rfl (by decide) (((l, s), es.map entryB)) (⟨hl, by rw [List.length_map]; exact hr⟩)
  generalize tabG [eJbytes, eAppend] = G at *
  dsimp only [eJbytes] at g1
  dsimp only [eAppend] at g2
  unfold writeS
  generalize appendS ⟨l, s⟩ (es.map entryB) = W at *
  obtain ⟨⟨wb, ws⟩, we⟩ := W
  refine conW (G := G) (rs := [(4, some 32), (5, none)]) hok Try.func24 Try.results24 Try.ntmps24 (fun _ => {}) fun X hP hD hG' hX => ?_
  simp only [argS, num, entriesA]
  simp (disch := omega) only [go_sem, Nat.reduceLeDiff, reduceCtorEq, Nat.reduceAdd, Nat.reduceSub, Nat.reduceMul, Nat.reduceLT, Nat.reduceEqDiff, Int.reduceEq, Int.reduceLE, Int.reduceLT, Int.reducePow, Int.reduceMul, Int.reduceToNat, Int.reduceNeg, ↓reduceIte, hD, hG', wrap64, unbox, tmv, Option.some.injEq, exists_eq_left']
  refine Tr.loop (ι := Nat) (fun i => i ≤ es.length) (fun i => { nt := 26, tm := [(2, .ptr 2 0), (4, .ptr 4 0), (6, .os 5000), (9, .sl 6 (es.map entryRow)), (10, .int .i64 es.length), (11, .int .i64 i)], bl := [(2, some (.cells [.sl 1 (l.map byteRow), .int .i64 s])), (4, some (.cells [.nils, .int .i64 0])), (5000, some (.rows 26 1 (((es.take i).map entryB).map recRow)))] }) (fun i => es.length - i) 0
    ⟨Nat.zero_le _, wk_of hD [(2, 2), (4, 4)] rfl rfl (by simp only [go_sem, Nat.reduceEqDiff]; simp) (by simp only [go_sem, Nat.reduceEqDiff, D_1, D_2, D_3, D_4, D_5, D_6, D_7, D_8, D_9, D_10, D_11, D_12, D_13, D_14, D_15, D_16, D_17, D_18, D_19, D_21, D_22, D_23, D_24, D_25, D_26, D_27, D_28, D_29, D_30, D_31, D_32, D_33, D_35, D_36, D_37, D_38, D_39, D_40, D_41, D_42, D_43, D_45, D_46, D_47, D_48, D_49, D_50, D_51, D_52, D_53, D_55, D_56, D_57, D_58, D_60, D_61, D_62, D_63, D_64, D_65, D_67, D_68, D_69, D_70, D_71, D_72, D_73, D_74, D_75, D_76, D_77, D_78, D_79, D_80, D_81, D_82, D_83, D_84, D_85, D_86, D_87, D_88, D_89, D_91, D_93, D_94, D_95, D_97, D_98, D_99, D_101, D_103, D_104, D_105, D_106, D_108, D_109, D_110, D_111, D_113, D_114, D_115, D_116, D_117, D_118, D_119, D_120, D_121, D_122, D_124, D_125, D_127, D_128, D_130, D_132, D_133, D_134, D_135, D_136, D_138, D_139, D_141, D_143, D_144, D_145, D_147, D_148, D_149, D_150, D_151, D_153, D_154, D_155, D_156, D_157, D_158, D_159, D_160, D_161, D_162, D_163, D_164, D_165, D_166, D_167, D_168, D_169, D_170, D_171, D_172, D_173, D_174, D_178, D_179, D_180, D_181, D_182, D_183, D_184, D_185, D_186]; simp)⟩ ?_
  intro i hi
  refine evC_sound hX (fun _ => {}) _ _ _ ?_
  simp (disch := omega) only [go_sem, Nat.reduceLeDiff, reduceCtorEq, Nat.reduceAdd, Nat.reduceSub, Nat.reduceMul, Nat.reduceLT, Nat.reduceEqDiff, Int.reduceEq, Int.reduceLE, Int.reduceLT, Int.reducePow, Int.reduceMul, Int.reduceToNat, Int.reduceNeg, ↓reduceIte, hD, hG', wrap64, unbox, tmv, Option.some.injEq, exists_eq_left']
  refine condK_split (fun h => ?_) (fun h => ?_)
  · rw [decide_eq_true_eq] at h
    have hi1 : i < es.length := by omega
    have hgx := entryGet hi1
    have hti : es.take (i + 1) = es.take i ++ [es.getD i entry0] := by
      rw [List.take_succ_eq_append_getElem hi1]
      simp [hi1]
    have htl : (es.take i).length = i := by rw [List.length_take]; omega
    have hok := he (es.getD i entry0) (by rw [show es.getD i entry0 = es[i] by simp [hi1]]; exact List.getElem_mem hi1)
    have g1 := g1 (es.getD i entry0) hok
    generalize es.getD i entry0 = x at *
    generalize hb : entryB x = b at *
    obtain ⟨e1, e2, e3, e4, ⟨e5, e6⟩⟩ := x
    simp only [entryRow] at hgx
    simp only [entryA, entryRow] at g1
    simp (disch := omega) only [go_sem, Nat.reduceLeDiff, reduceCtorEq, Nat.reduceAdd, Nat.reduceSub, Nat.reduceMul, Nat.reduceLT, Nat.reduceEqDiff, Int.reduceEq, Int.reduceLE, Int.reduceLT, Int.reducePow, Int.reduceMul, Int.reduceToNat, Int.reduceNeg, ↓reduceIte, hD, hG', wrap64, hgx, g1, unbox, tmv, Option.some.injEq, exists_eq_left']
    ((try and_intros); all_goals (try first | omega | decide | (simp; done) | (simp only [List.length_append, List.length_cons, List.length_nil, List.length_map]; omega)))
    refine ⟨i + 1, ⟨by omega, by omega⟩, wk_of hD [(2, 2), (4, 4), (5000, 19)] rfl rfl ?_ ?_⟩ <;> simp only [go_sem, Nat.reduceEqDiff]
    · simp
    · simp [hti, hb, recRow]
  · rw [decide_eq_false_iff_not] at h
    have hie : i = es.length := by omega
    subst hie
    rw [List.take_length] at *
    simp (disch := omega) only [go_sem, Nat.reduceLeDiff, reduceCtorEq, Nat.reduceAdd, Nat.reduceSub, Nat.reduceMul, Nat.reduceLT, Nat.reduceEqDiff, Int.reduceEq, Int.reduceLE, Int.reduceLT, Int.reducePow, Int.reduceMul, Int.reduceToNat, Int.reduceNeg, ↓reduceIte, hD, hG', wrap64, g2, unbox, tmv, Option.some.injEq, exists_eq_left']
    refine endW [] [] (by simp) rfl rfl rfl ?_ ?_ <;> simp only [go_sem, Nat.reduceEqDiff]
    try simp [cov, covs, subs, names, namess]
end Go.Proofs.Ythbejciebmkclaa.Ab
namespace Go.Proofs.Ythbejciebmkclaa.Ab
open Go Go.RowKit
set_option linter.unusedVariables false
set_option linter.unusedSimpArgs false

def writeA (w : LLog × Int) : AV := .tup [.agg [.sl 1 (w.1.bytes.map byteRow), .int .i64 w.1.sure], .int .i64 w.2]
def WOk (x : (List UInt8 × Int) × List LEntry) : Prop := (x.1.1.length + ((x.2.map entryB).map frameS).flatten.length ≤ 8388608 ∧ x.2.length ≤ 1048576) ∧ ∀ e ∈ x.2, EOk e
def eWrite : Ent Try.prog D := ⟨24, (List UInt8 × Int) × List LEntry, fun x => [.agg [.sl 1 (x.1.1.map byteRow), .int .i64 x.1.2], entriesA x.2], WOk, fun x => ⟨writeA (writeS x.1.1 x.1.2 x.2), []⟩, fun x y _ _ h => by
  obtain ⟨⟨a, b⟩, c⟩ := x; obtain ⟨⟨a', b'⟩, c'⟩ := y
  simp only [entriesA, List.cons.injEq, AV.sl.injEq, true_and, and_true] at h
  obtain ⟨h1, h2⟩ := log_inj h.1
  rw [h1, h2, entries_inj h.2], fun x h => con_write _ _ _ h.1.1 h.1.2 h.2⟩
theorem frameS_length (l : List UInt8) : (frameS l).length = l.length + 4 := by simp [frameS]
theorem entryB_len {e : LEntry} {a b : Nat} (h1 : e.queue.size ≤ a) (h2 : (bytesN e.note).length ≤ b) : (entryB e).length ≤ a + b + 6 := by
  have := size_len e.queue
  simp only [entryB, textS, List.length_cons, List.length_append]
  split
  · simp; omega
  · split
    · simp; omega
    · have := num4 e.id
      split <;> simp only [List.length_append, List.length_nil] <;> omega

/-- what the law asks of an entry -/
def entryNice (e : LEntry) : Prop := ¬(e.kind < 1 ∨ e.kind > 4 ∨ e.queue.size > 100 ∨ e.n < 0 ∨ e.n > 255 ∨ e.id < 0 ∨ e.id > 1000000 ∨ wrongS e.note ≠ 0)
theorem entryNice.ok {e : LEntry} (h : entryNice e) : EOk e ∧ (entryB e).length ≤ 300 := by
  unfold entryNice at h
  have hw : wrongS e.note = 0 := by omega
  have hb := bytes_right hw
  exact ⟨⟨by omega, by omega, fits_right hw, by omega⟩, by have := @entryB_len e 100 134 (by omega) hb; omega⟩
end Go.Proofs.Ythbejciebmkclaa.Ab
namespace Go.Proofs.Ythbejciebmkclaa.Ab
open Go Go.RowKit
set_option linter.unusedVariables false
set_option linter.unusedSimpArgs false

/-- entries bring one plain hall to another -/
def Fw (g g' : LHall) (es : List LEntry) : Prop := es.foldl applyS (plainS g) = plainS g'
theorem Fw.refl (g : LHall) : Fw g g [] := rfl
theorem Fw.trans {g g1 g2 : LHall} {es1 es2 : List LEntry} (h1 : Fw g g1 es1) (h2 : Fw g1 g2 es2) : Fw g g2 (es1 ++ es2) := by
  unfold Fw at *
  rw [List.foldl_append, h1, h2]
/-- ids are unlike, and below the next one -/
def idsOk (g : LHall) : Prop := ∀ q ∈ g.queues, (q.items.map (·.id)).Nodup ∧ ∀ i ∈ q.items, i.id < g.next
theorem idsOk.at {g : LHall} (h : idsOk g) {k : Nat} (hk : k < g.queues.length) : ((qAt g k).items.map (·.id)).Nodup ∧ ∀ i ∈ (qAt g k).items, i.id < g.next := h _ (getD_mem (d := queue0) hk)
theorem idsOk.set {g : LHall} (h : idsOk g) {k : Nat} {q : LQueue} {next : Int} (hn : g.next ≤ next) (hq : (q.items.map (·.id)).Nodup ∧ ∀ i ∈ q.items, i.id < next) : idsOk ⟨g.queues.set k q, next⟩ := fun p hp => by
  rcases List.mem_or_eq_of_mem_set hp with hp | rfl
  · exact ⟨(h p hp).1, fun i hi => by have := (h p hp).2 i hi; simp only; omega⟩
  · exact hq
end Go.Proofs.Ythbejciebmkclaa.Ab
namespace Go.Proofs.Ythbejciebmkclaa.Ab
open Go Go.RowKit
set_option linter.unusedVariables false
set_option linter.unusedSimpArgs false

end Go.Proofs.Ythbejciebmkclaa.Ab
namespace Go.Proofs.Ythbejciebmkclaa.Ab
open Go Go.RowKit
set_option linter.unusedVariables false
set_option linter.unusedSimpArgs false

end Go.Proofs.Ythbejciebmkclaa.Ab
