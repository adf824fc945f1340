/-
  Texts of the proof, one behind the other: JoC JoD JoE JoF JoG JoH OpenJ.
  No condition but those that each theorem names.
-/
import Derived.Test.YthbejciebmkclaaGD
import Derived.Test.YthbejciebmkclaaGC
import Derived.Test.YthbejciebmkclaaGH
import Derived.Test.YthbejciebmkclaaGK
import Derived.Test.YthbejciebmkclaaGR
namespace Go.Proofs.Ythbejciebmkclaa.Ab
open Go Go.RowKit
set_option linter.unusedVariables false
set_option linter.unusedSimpArgs false

theorem numS_flat (w : World) (im : Nat → Prop) (ρ : Env) (n : Int) : FlatRel w im ρ 1 ((numS n).map byteRow) ((numS n).map byteV) := by
  refine ⟨by simp, fun i row hi => ?_⟩
  rw [List.getElem?_map] at hi
  obtain ⟨b, hb, rfl⟩ := Option.map_eq_some_iff.1 hi
  refine ⟨rfl, fun j x hj => ?_⟩
  cases j with
  | succ j => simp [byteRow] at hj
  | zero =>
    simp [byteRow] at hj
    subst hj
    refine ⟨by simp [names], byteV b, ?_, rfl, .int _ _⟩
    rw [Nat.mul_one, Nat.add_zero, List.getElem?_map, hb]
    rfl
theorem numS_vals (n : Int) : (numS n).map byteV = [.int .u8 (n / 16777216 % 256), .int .u8 (n / 65536 % 256), .int .u8 (n / 256 % 256), .int .u8 (n % 256)] := by
  simp only [numS, List.map_cons, List.map_nil, byteV, byteI_nat]
set_option maxRecDepth 40000 in
set_option maxHeartbeats 400000 in
theorem jnum_calls (n : Int) (rs : List (List AV)) (hn : rs.length ≤ 8388608) (w : World) (im : Nat → Prop) (ρ : Env) (u : Value) (xs : List Value) (hown : w.ownsRow 0 5 1 u rs.length xs) (hf : FlatRel w im ρ 1 rs xs) :
    Calls Try.prog 76 #[u, .int .i64 n] w (RowsPost w im ρ 5 1 u (rs ++ (numS n).map byteRow)) := by
  obtain ⟨i0, hi0, hz0, hz1, hz2⟩ := info_parts info_u8
  have HO := Lib.hid hown
  have HF := Lib.hid hf
  clear hown hf
  go_enter Try.func76, Try.ntmps76
  have HN := Lib.hid (numS_vals n)
  go_wp2_with (at_builtin; refine wpList_append_any _ rfl (.tmp 5) (.tmp 17) _ rfl 0 5 i0 _ 1 1 Try.underlying26 hi0 hz0 hz1 hz2 rfl (by omega) u rs.length xs rfl (own_later HO.out (by repeat (first | exact Below.refl _ _ | apply below_alloc | apply Below.drew | apply below_drewN))) (· = w.heap.size) (some ⟨w.heap.size, 0, none⟩) 4 4 ((numS n).map byteV) rfl (by rw [HN.out]; exact reads_lit w _ 5 1 4 rfl) (one_bytes _) (by simp only [maxLen]; omega) (by omega) (by simp) ?_; intro v1 w1 hown1 hg1 hat1)
  go_ret
  have hlen : (rs ++ (numS n).map byteRow).length = rs.length + 4 := by simp [numS]
  refine ⟨v1, xs ++ (numS n).map byteV, rfl, ?_, HF.out.append (numS_flat w im ρ n), ?_, ?_⟩
  · rw [hlen]; exact hown1
  · exact ⟨hg1.os, hg1.tape, hg1.output, by have := hg1.size; simp at this; omega, fun g hg hne => by rw [hg1.block g (by simp; omega) hne]; exact Below.heap_alloc w _ g hg⟩
  · intro b hb
    rcases hat1 with h | h
    · rw [h] at hb; exact .inl hb
    · rw [h] at hb
      have : b = w.heap.size + 1 := by simpa using hb.symm
      exact .inr (by omega)
/-- what num does to bytes of our own -/
def jnumM : MCtr := fun dn f args bl => if f = 76 then
    match args with
    | [.os v, .int .i64 n] => match bl v with
      | some (.rows e sz rs) => some { v := .os dn, kl := [v], nw := [(dn, .rows e sz (rs ++ (numS n).map byteRow))], pre := (e = 5 ∧ sz = 1) ∧ rs.length ≤ 8388608 }
      | _ => none
    | _ => none
  else none
theorem mok_jnum {G : Ctr} : MOk Try.prog D G jnumM := by
  intro X hP hD hG hM hmx hT hok ops o σ e hgd he hpre hfr
  obtain ⟨dst, f, args, types, ty, pos, af, g, caps, rfl, hf, he⟩ := mEff_call he hgd
  unfold jnumM at he
  split at he
  case isFalse => cases he
  rename_i hg91
  subst hg91
  split at he
  case h_2 => cases he
  rename_i v n hargs
  split at he
  case h_2 => cases he
  rename_i e0 sz rs hbl
  have hbl := snap_some hbl
  injection he with he
  subst he
  obtain ⟨⟨rfl, rfl⟩, hl⟩ := hpre
  simp only [fresh, keys, unbound, Bool.and_eq_true, Option.isNone_iff_eq_none] at hfr
  refine inl_rows (by rw [hP, hD]; exact hT) hf hargs hbl (by rw [hP]; exact Try.func76) rfl (by decide) hfr.1.1 (fun k hk => ?_) (fun w im ρ u vs xs h1 h2 h3 h4 h5 => ?_)
  · have := hfr.2
    rw [hk] at this
    simpa using this
  · obtain ⟨h6, h7⟩ := h4
    match vs, h6 with
    | [y], _ =>
      have := h7 0 _ y rfl rfl
      rw [this.int_, hP]
      exact jnum_calls n rs hl w im ρ u xs h1 h2

theorem rowApp (a b : List UInt8) : a.map byteRow ++ b.map byteRow = (a ++ b).map byteRow := List.map_append.symm
def entryB (e : LEntry) : List UInt8 := byteI e.kind :: (textS e.queue.data.toList ++ (if e.kind = 1 then [byteI e.n] else if e.kind = 2 then [] else numS e.id ++ (if e.kind = 3 then bytesN e.note else [])))
def jbytesLo : Nat → Lo := fun id => match id with | 6 => {uo := [3, 7], ex := [0, 8], kn := [14, 30]} | _ => {}
set_option maxRecDepth 100000 in
set_option maxHeartbeats 1000000 in
theorem con_jbytes (e : LEntry) (hk : 1 ≤ e.kind ∧ e.kind ≤ 4) (hq : e.queue.size ≤ 1048576) (hn : e.note.Fits) (hb : (bytesN e.note).length ≤ 4194304) : Con Try.prog D 19 [entryA e] ⟨.sl 1 ((entryB e).map byteRow), []⟩ := by
  have hok : GOk Try.prog D (tabG [eBytes]) := tabG_ok _
  have g1 := tabG_use (T := [eBytes]) (E := eBytes) (i := 0) rfl (by decide) (e.note) (⟨hn, hb⟩)
  have gn : ∀ a, tabG ([eBytes] : List (Ent Try.prog D)) 76 a = none := fun a => rfl
  generalize tabG [eBytes] = G at *
  dsimp only [eBytes] at g1
  have hs := size_len e.queue
  obtain ⟨ek, eq, en, ei, ⟨ep, eb⟩⟩ := e
  simp only [noteA] at g1
  simp only at hk hq hs hb
  have hn4 := num4 ei
  refine conM mok_jnum (G := G) (rs := [(2, none)]) hok Try.func19 Try.results19 Try.ntmps19 jbytesLo fun X hP hD hG' hX => ?_
  simp only [argS, num, entryA, entryRow]
  simp (disch := omega) only [go_sem, Nat.reduceLeDiff, reduceCtorEq, Nat.reduceAdd, Nat.reduceSub, Nat.reduceMul, Nat.reduceLT, Nat.reduceEqDiff, Int.reduceEq, Int.reduceLE, Int.reduceLT, Int.reducePow, Int.reduceMul, Int.reduceToNat, Int.reduceNeg, ↓reduceIte, hD, hG', wrap64, jbytesLo, wrap8, gn, unbox, tmv, Option.some.injEq, exists_eq_left']
  ((try and_intros); all_goals (try first | omega | decide | (simp; done) | (simp only [List.length_append, List.length_cons, List.length_nil, List.length_map]; omega)))
  have e4 : ek = 1 ∨ ek = 2 ∨ ek = 3 ∨ ek = 4 := by omega
  have hlen : (entryB ⟨ek, eq, en, ei, ⟨ep, eb⟩⟩).length ≤ 6000000 := by
    simp only [entryB, textS, List.length_cons, List.length_append]
    split
    · simp; omega
    · split
      · simp; omega
      · split <;> simp only [List.length_append, List.length_nil] <;> omega
  rcases e4 with h | h | h | h
  · have e1 : (ek == 1) = true := by simp [h]
    have he : entryB ⟨ek, eq, en, ei, ⟨ep, eb⟩⟩ = byteI ek :: byteI eq.data.toList.length :: (eq.data.toList ++ [byteI en]) := by simp [entryB, h, textS]
    rw [he]
    simp (disch := omega) only [go_sem, Nat.reduceLeDiff, reduceCtorEq, Nat.reduceAdd, Nat.reduceSub, Nat.reduceMul, Nat.reduceLT, Nat.reduceEqDiff, Int.reduceEq, Int.reduceLE, Int.reduceLT, Int.reducePow, Int.reduceMul, Int.reduceToNat, Int.reduceNeg, ↓reduceIte, hD, hG', wrap64, jbytesLo, wrap8, gn, e1, rowApp, unbox, tmv, Option.some.injEq, exists_eq_left']
    (repeat (with_reducible refine And.intro (by first | omega | decide | (simp; done) | (simp only [List.length_append, List.length_cons, List.length_nil, List.length_map]; omega)) ?_))
    refine endW [24] [] (by simp) rfl rfl rfl ?_ ?_ <;> simp only [go_sem, Nat.reduceEqDiff]
    simp [byteRow]
  · have e1 : (ek == 1) = false := by simp [h]
    have e3 : (ek == 3) = false := by simp [h]
    have e4 : (ek == 4) = false := by simp [h]
    have he : entryB ⟨ek, eq, en, ei, ⟨ep, eb⟩⟩ = byteI ek :: byteI eq.data.toList.length :: eq.data.toList := by simp [entryB, h, textS]
    rw [he]
    simp (disch := omega) only [go_sem, Nat.reduceLeDiff, reduceCtorEq, Nat.reduceAdd, Nat.reduceSub, Nat.reduceMul, Nat.reduceLT, Nat.reduceEqDiff, Int.reduceEq, Int.reduceLE, Int.reduceLT, Int.reducePow, Int.reduceMul, Int.reduceToNat, Int.reduceNeg, ↓reduceIte, hD, hG', wrap64, jbytesLo, wrap8, gn, e1, e3, e4, rowApp, unbox, tmv, Option.some.injEq, exists_eq_left']
    refine endW [14] [] (by simp) rfl rfl rfl ?_ ?_ <;> simp only [go_sem, Nat.reduceEqDiff]
    simp [byteRow]
  · have e1 : (ek == 1) = false := by simp [h]
    have e3 : (ek == 3) = true := by simp [h]
    have e4 : (ek == 4) = false := by simp [h]
    have he : entryB ⟨ek, eq, en, ei, ⟨ep, eb⟩⟩ = byteI ek :: byteI eq.data.toList.length :: (eq.data.toList ++ numS ei ++ bytesN ⟨ep, eb⟩) := by simp [entryB, h, textS]
    rw [he]
    simp (disch := omega) only [go_sem, Nat.reduceLeDiff, reduceCtorEq, Nat.reduceAdd, Nat.reduceSub, Nat.reduceMul, Nat.reduceLT, Nat.reduceEqDiff, Int.reduceEq, Int.reduceLE, Int.reduceLT, Int.reducePow, Int.reduceMul, Int.reduceToNat, Int.reduceNeg, ↓reduceIte, hD, hG', wrap64, jbytesLo, wrap8, gn, g1, asked_none, jnumM, e1, e3, e4, rowApp, unbox, tmv, Option.some.injEq, exists_eq_left']
    (repeat (with_reducible refine And.intro (by first | omega | decide | (simp; done) | (simp only [List.length_append, List.length_cons, List.length_nil, List.length_map]; omega)) ?_))
    refine endW [34] [] (by simp) rfl rfl rfl ?_ ?_ <;> simp only [go_sem, Nat.reduceEqDiff]
    simp [byteRow]
  · have e1 : (ek == 1) = false := by simp [h]
    have e3 : (ek == 3) = false := by simp [h]
    have e4 : (ek == 4) = true := by simp [h]
    have he : entryB ⟨ek, eq, en, ei, ⟨ep, eb⟩⟩ = byteI ek :: byteI eq.data.toList.length :: (eq.data.toList ++ numS ei) := by simp [entryB, h, textS]
    rw [he]
    simp (disch := omega) only [go_sem, Nat.reduceLeDiff, reduceCtorEq, Nat.reduceAdd, Nat.reduceSub, Nat.reduceMul, Nat.reduceLT, Nat.reduceEqDiff, Int.reduceEq, Int.reduceLE, Int.reduceLT, Int.reducePow, Int.reduceMul, Int.reduceToNat, Int.reduceNeg, ↓reduceIte, hD, hG', wrap64, jbytesLo, wrap8, gn, asked_none, jnumM, e1, e3, e4, rowApp, unbox, tmv, Option.some.injEq, exists_eq_left']
    (repeat (with_reducible refine And.intro (by first | omega | decide | (simp; done) | (simp only [List.length_append, List.length_cons, List.length_nil, List.length_map]; omega)) ?_))
    refine endW [40] [] (by simp) rfl rfl rfl ?_ ?_ <;> simp only [go_sem, Nat.reduceEqDiff]
    simp [byteRow]
def jrbytesLo : Nat → Lo := fun id => match id with | 1 => {uo := [7], ex := [0, 1, 2, 3, 4, 5, 6, 8], kn := [7]} | _ => {}
set_option maxRecDepth 100000 in
set_option maxHeartbeats 1000000 in
theorem con_jrefbytes (e : LEntry) (hk : 1 ≤ e.kind ∧ e.kind ≤ 4) (hq : e.queue.size ≤ 1048576) (hn : e.note.Fits) (hb : (bytesN e.note).length ≤ 4194304) : Con Try.prog D 20 [entryA e] ⟨.sl 1 ((entryB e).map byteRow), []⟩ := by
  have hok : GOk Try.prog D (tabG [eRefbytes, eText, eNum]) := tabG_ok _
  have g1 := tabG_use (T := [eRefbytes, eText, eNum]) (E := eRefbytes) (i := 0) rfl (by decide) (e.note) (⟨hn, hb⟩)
  have g2 := tabG_use (T := [eRefbytes, eText, eNum]) (E := eText) (i := 1) rfl (by decide) (e.queue.data.toList) (by show e.queue.data.toList.length ≤ 8388608; rw [size_len]; omega)
  have g3 := tabG_use (T := [eRefbytes, eText, eNum]) (E := eNum) (i := 2) rfl (by decide) (e.id) (trivial)
  generalize tabG [eRefbytes, eText, eNum] = G at *
  dsimp only [eRefbytes] at g1
  dsimp only [eText] at g2
  dsimp only [eNum] at g3
  have hs := size_len e.queue
  obtain ⟨ek, eq, en, ei, ⟨ep, eb⟩⟩ := e
  simp only [noteA] at g1 g2 g3
  simp only at hk hq hs hb
  have hn4 := num4 ei
  have ht := textS_len eq.data.toList
  refine conW (G := G) (rs := [(2, none)]) hok Try.func20 Try.results20 Try.ntmps20 (jrbytesLo) fun X hP hD hG' hX => ?_
  simp only [argS, num, entryA, entryRow]
  simp (disch := omega) only [go_sem, Nat.reduceLeDiff, reduceCtorEq, Nat.reduceAdd, Nat.reduceSub, Nat.reduceMul, Nat.reduceLT, Nat.reduceEqDiff, Int.reduceEq, Int.reduceLE, Int.reduceLT, Int.reducePow, Int.reduceMul, Int.reduceToNat, Int.reduceNeg, ↓reduceIte, hD, hG', wrap64, jrbytesLo, wrap8, g2, rowApp, unbox, tmv, Option.some.injEq, exists_eq_left']
  ((try and_intros); all_goals (try first | omega | decide | (simp; done) | (simp only [List.length_append, List.length_cons, List.length_nil, List.length_map]; omega)))
  have e4 : ek = 1 ∨ ek = 2 ∨ ek = 3 ∨ ek = 4 := by omega
  rcases e4 with h | h | h | h
  · have e1 : (ek == 1) = true := by simp [h]
    have he : entryB ⟨ek, eq, en, ei, ⟨ep, eb⟩⟩ = byteI ek :: (textS eq.data.toList ++ [byteI en]) := by simp [entryB, h]
    rw [he]
    simp (disch := omega) only [go_sem, Nat.reduceLeDiff, reduceCtorEq, Nat.reduceAdd, Nat.reduceSub, Nat.reduceMul, Nat.reduceLT, Nat.reduceEqDiff, Int.reduceEq, Int.reduceLE, Int.reduceLT, Int.reducePow, Int.reduceMul, Int.reduceToNat, Int.reduceNeg, ↓reduceIte, hD, hG', wrap64, jrbytesLo, wrap8, e1, rowApp, unbox, tmv, Option.some.injEq, exists_eq_left']
    (repeat (with_reducible refine And.intro (by first | omega | decide | (simp; done) | (simp only [List.length_append, List.length_cons, List.length_nil, List.length_map]; omega)) ?_))
    refine endW [20] [] (by simp) rfl rfl rfl ?_ ?_ <;> simp only [go_sem, Nat.reduceEqDiff]
    simp [byteRow]
  · have e1 : (ek == 1) = false := by simp [h]
    have e2 : (ek == 2) = true := by simp [h]
    have he : entryB ⟨ek, eq, en, ei, ⟨ep, eb⟩⟩ = byteI ek :: (textS eq.data.toList) := by simp [entryB, h]
    rw [he]
    simp (disch := omega) only [go_sem, Nat.reduceLeDiff, reduceCtorEq, Nat.reduceAdd, Nat.reduceSub, Nat.reduceMul, Nat.reduceLT, Nat.reduceEqDiff, Int.reduceEq, Int.reduceLE, Int.reduceLT, Int.reducePow, Int.reduceMul, Int.reduceToNat, Int.reduceNeg, ↓reduceIte, hD, hG', wrap64, jrbytesLo, wrap8, e1, e2, rowApp, unbox, tmv, Option.some.injEq, exists_eq_left']
    refine endW [11] [] (by simp) rfl rfl rfl ?_ ?_ <;> simp only [go_sem, Nat.reduceEqDiff]
    simp [byteRow]
  · have e1 : (ek == 1) = false := by simp [h]
    have e2 : (ek == 2) = false := by simp [h]
    have e3 : (ek == 3) = true := by simp [h]
    have he : entryB ⟨ek, eq, en, ei, ⟨ep, eb⟩⟩ = byteI ek :: (textS eq.data.toList ++ numS ei ++ bytesN ⟨ep, eb⟩) := by simp [entryB, h]
    rw [he]
    simp (disch := omega) only [go_sem, Nat.reduceLeDiff, reduceCtorEq, Nat.reduceAdd, Nat.reduceSub, Nat.reduceMul, Nat.reduceLT, Nat.reduceEqDiff, Int.reduceEq, Int.reduceLE, Int.reduceLT, Int.reducePow, Int.reduceMul, Int.reduceToNat, Int.reduceNeg, ↓reduceIte, hD, hG', wrap64, jrbytesLo, wrap8, e1, e2, e3, g1, g3, rowApp, unbox, tmv, Option.some.injEq, exists_eq_left']
    (repeat (with_reducible refine And.intro (by first | omega | decide | (simp; done) | (simp only [List.length_append, List.length_cons, List.length_nil, List.length_map]; omega)) ?_))
    refine endW [37] [] (by simp) rfl rfl rfl ?_ ?_ <;> simp only [go_sem, Nat.reduceEqDiff]
    simp [byteRow]
  · have e1 : (ek == 1) = false := by simp [h]
    have e2 : (ek == 2) = false := by simp [h]
    have e3 : (ek == 3) = false := by simp [h]
    have he : entryB ⟨ek, eq, en, ei, ⟨ep, eb⟩⟩ = byteI ek :: (textS eq.data.toList ++ numS ei) := by simp [entryB, h]
    rw [he]
    simp (disch := omega) only [go_sem, Nat.reduceLeDiff, reduceCtorEq, Nat.reduceAdd, Nat.reduceSub, Nat.reduceMul, Nat.reduceLT, Nat.reduceEqDiff, Int.reduceEq, Int.reduceLE, Int.reduceLT, Int.reducePow, Int.reduceMul, Int.reduceToNat, Int.reduceNeg, ↓reduceIte, hD, hG', wrap64, jrbytesLo, wrap8, e1, e2, e3, g3, rowApp, unbox, tmv, Option.some.injEq, exists_eq_left']
    (repeat (with_reducible refine And.intro (by first | omega | decide | (simp; done) | (simp only [List.length_append, List.length_cons, List.length_nil, List.length_map]; omega)) ?_))
    refine endW [29] [] (by simp) rfl rfl rfl ?_ ?_ <;> simp only [go_sem, Nat.reduceEqDiff]
    simp [byteRow]
end Go.Proofs.Ythbejciebmkclaa.Ab
namespace Go.Proofs.Ythbejciebmkclaa.Ab
open Go Go.RowKit
set_option linter.unusedVariables false
set_option linter.unusedSimpArgs false

def entryZ : LEntry := ⟨0, ⟨#[]⟩, 0, 0, note0⟩
def entryK (k : Nat) (q : List UInt8) (r : List UInt8) : LEntry × Int :=
  if k < 1 ∨ 4 < k then (entryZ, 1)
  else if k = 1 ∧ r.length = 1 then (⟨1, ⟨⟨q⟩⟩, (r.getD 0 0).toNat, 0, note0⟩, 0)
  else if k = 2 ∧ r.length = 0 then (⟨2, ⟨⟨q⟩⟩, 0, 0, note0⟩, 0)
  else if k = 4 ∧ r.length = 4 then (⟨4, ⟨⟨q⟩⟩, 0, numN r, note0⟩, 0)
  else if k = 3 ∧ 4 ≤ r.length then
    if (parseS (r.drop 4)).2.2 = 0 ∧ (parseS (r.drop 4)).2.1 = r.length - 4 then (⟨3, ⟨⟨q⟩⟩, 0, numN r, (parseS (r.drop 4)).1⟩, 0) else (entryZ, 2)
  else (entryZ, 2)
/-- the entry of bytes, an errno's number -/
def entryP (l : List UInt8) : LEntry × Int :=
  if l.length < 2 ∨ l.length < 2 + (l.getD 1 0).toNat then (entryZ, 2)
  else entryK (l.getD 0 0).toNat ((l.take (2 + (l.getD 1 0).toNat)).drop 2) (l.drop (2 + (l.getD 1 0).toNat))
theorem parseS_len (l : List UInt8) : (parseS l).2.1 ≤ l.length := by
  unfold parseS
  split
  · simp
  · split
    · simp
    · split
      · simp
      · split
        · simp
        · split <;> simp
theorem orN64 (i a b : Nat) (hb : b < 2 ^ i) (ha : 2 ^ i * a + b < 4294967296) : orI .i64 ((2 ^ i * a : Nat) : Int) (b : Int) = ((2 ^ i * a + b : Nat) : Int) := by
  unfold orI
  have e : ∀ n : Nat, BitVec.ofInt 64 (n : Int) = BitVec.ofNat 64 n := fun n => by
    apply BitVec.eq_of_toNat_eq
    simp [BitVec.toNat_ofInt]
  show IntKind.wrap .i64 ((BitVec.ofInt 64 _ ||| BitVec.ofInt 64 _).toNat : Int) = _
  rw [e, e, BitVec.toNat_or, BitVec.toNat_ofNat, BitVec.toNat_ofNat, Nat.mod_eq_of_lt (by omega), Nat.mod_eq_of_lt (by omega), ← Nat.two_pow_add_eq_or_of_lt hb, wrap64 (by omega) (by omega)]
theorem shlN64 (a k : Nat) (h : a < 256) (hk : k ≤ 24) : shlI .i64 (a : Int) (k : Int) = ((2 ^ k * a : Nat) : Int) := by
  unfold shlI
  have h1 : min ((k : Int)).toNat IntKind.i64.bits = k := by
    show min k 64 = k
    omega
  have h2 : 2 ^ k ≤ 2 ^ 24 := Nat.pow_le_pow_right (by decide) hk
  have h3 : 2 ^ k * a ≤ 2 ^ 24 * 255 := Nat.mul_le_mul h2 (by omega)
  have h4 : (a : Int) * 2 ^ k = ((2 ^ k * a : Nat) : Int) := by push_cast; rw [Int.mul_comm]
  rw [h1, h4]
  exact wrap64 (by omega) (by omega)
theorem orNum (l : List UInt8) : orI .i64 (orI .i64 (orI .i64 (shlI .i64 ((l.getD 0 0).toNat : Int) 24) (shlI .i64 ((l.getD 1 0).toNat : Int) 16)) (shlI .i64 ((l.getD 2 0).toNat : Int) 8)) ((l.getD 3 0).toNat : Int) = (numN l : Int) := by
  have h0 := (l.getD 0 0).toNat_lt
  have h1 := (l.getD 1 0).toNat_lt
  have h2 := (l.getD 2 0).toNat_lt
  have h3 := (l.getD 3 0).toNat_lt
  unfold numN
  generalize (l.getD 0 0).toNat = a at *
  generalize (l.getD 1 0).toNat = b at *
  generalize (l.getD 2 0).toNat = c at *
  generalize (l.getD 3 0).toNat = d at *
  have s1 := shlN64 a 24 h0 (by omega)
  have s2 := shlN64 b 16 h1 (by omega)
  have s3 := shlN64 c 8 h2 (by omega)
  have o1 := orN64 24 a (2 ^ 16 * b) (by omega) (by omega)
  have e1 : 2 ^ 24 * a + 2 ^ 16 * b = 2 ^ 16 * (256 * a + b) := by omega
  have o2 := orN64 16 (256 * a + b) (2 ^ 8 * c) (by omega) (by omega)
  have e2 : 2 ^ 16 * (256 * a + b) + 2 ^ 8 * c = 2 ^ 8 * (65536 * a + 256 * b + c) := by omega
  have o3 := orN64 8 (65536 * a + 256 * b + c) d (by omega) (by omega)
  have s1' : shlI .i64 (a : Int) 24 = ((2 ^ 24 * a : Nat) : Int) := s1
  have s2' : shlI .i64 (b : Int) 16 = ((2 ^ 16 * b : Nat) : Int) := s2
  have s3' : shlI .i64 (c : Int) 8 = ((2 ^ 8 * c : Nat) : Int) := s3
  rw [s1', s2', s3', o1, e1, o2, e2, o3]
def wantM : List (Value × Value) := [(.int .i64 1, .int .i64 1), (.int .i64 2, .int .i64 0), (.int .i64 3, .int .i64 4), (.int .i64 4, .int .i64 4)]
def wantS (k : Int) : Int := if k = 1 then 1 else if k = 3 ∨ k = 4 then 4 else 0
theorem wantM_look (k : Int) : lookV (.int .i64) (.int .i64 k) (.int .i64 0) wantM = some (.int .i64 (wantS k)) := by
  unfold wantM wantS
  simp only [lookV, Instr.sameNow]
  grind
theorem zero_int (W : World) : (zeroValue 3).run Try.prog W = .ok (.int .i64 0) W := by kernel_rfl
def jparseLo : Nat → Lo := fun id => match id with | 3 => {uo := [14], un := [4], ex := [13]} | 7 => {hand := true} | 15 => {uo := [23], un := [4], ex := [22]} | _ => {}
set_option maxRecDepth 100000 in
set_option maxHeartbeats 2000000 in
theorem con_jparse (l : List UInt8) (hl : l.length ≤ 4194304) : Con Try.prog D 12 [.sl 1 (l.map byteRow)] ⟨.tup [entryA (entryP l).1, .int .i64 (entryP l).2], []⟩ := by
  have hok : GOk Try.prog D (tabG [eParse]) := tabG_ok _
  have g1 := fun (l : List UInt8) (h : l.length ≤ 4194304) => tabG_use (T := [eParse]) (E := eParse) (i := 0) rfl (by decide) (l) (h)
  generalize tabG [eParse] = G at *
  dsimp only [eParse] at g1
  have hcon : ∀ r, r = entryP l → Con Try.prog D 12 [.sl 1 (l.map byteRow)] ⟨.tup [entryA r.1, .int .i64 r.2], []⟩ := by
    intro r hr
    have hb0 := (l.getD 0 0).toNat_lt
    have hb1 := (l.getD 1 0).toNat_lt
    refine conW (G := G) (rs := [(2, some 30), (3, none)]) hok Try.func12 Try.results12 Try.ntmps12 (jparseLo) fun X hP hD hG' hX => ?_
    simp only [argS, num]
    by_cases h2 : l.length < 2
    · have d2 : decide ((l.length : Int) < 2) = true := by simp; omega
      simp (disch := omega) only [go_sem, Nat.reduceLeDiff, reduceCtorEq, Nat.reduceAdd, Nat.reduceSub, Nat.reduceMul, Nat.reduceLT, Nat.reduceEqDiff, Int.reduceEq, Int.reduceLE, Int.reduceLT, Int.reducePow, Int.reduceMul, Int.reduceToNat, Int.reduceNeg, ↓reduceIte, hD, hG', wrap64, jparseLo, d2, unbox, tmv, Option.some.injEq, exists_eq_left']
      refine RegT.mk [(3, false)] ?_
      simp (disch := omega) only [go_sem, Nat.reduceLeDiff, reduceCtorEq, Nat.reduceAdd, Nat.reduceSub, Nat.reduceMul, Nat.reduceLT, Nat.reduceEqDiff, Int.reduceEq, Int.reduceLE, Int.reduceLT, Int.reducePow, Int.reduceMul, Int.reduceToNat, Int.reduceNeg, ↓reduceIte, hD, hG', wrap64, jparseLo, d2, unbox, tmv, Option.some.injEq, exists_eq_left']
      refine endW [] [] (by simp) rfl rfl rfl ?_ ?_ <;> simp only [go_sem, Nat.reduceEqDiff]
      rw [hr, entryP, if_pos (.inl h2)]
      simp [entryA, entryRow, entryZ, note0, cov, covs, subs, names, namess]
    have d2 : decide ((l.length : Int) < 2) = false := by simp; omega
    by_cases h3 : l.length < 2 + (l.getD 1 0).toNat
    · have d3 : decide ((l.length : Int) < 2 + ((l.getD 1 0).toNat : Int)) = true := decide_eq_true (by omega)
      simp (disch := omega) only [go_sem, Nat.reduceLeDiff, reduceCtorEq, Nat.reduceAdd, Nat.reduceSub, Nat.reduceMul, Nat.reduceLT, Nat.reduceEqDiff, Int.reduceEq, Int.reduceLE, Int.reduceLT, Int.reducePow, Int.reduceMul, Int.reduceToNat, Int.reduceNeg, ↓reduceIte, hD, hG', wrap64, jparseLo, d2, d3, byteGet, wrap_byte, unbox, tmv, Option.some.injEq, exists_eq_left']
      refine RegT.mk [] ?_
      simp (disch := omega) only [go_sem, Nat.reduceLeDiff, reduceCtorEq, Nat.reduceAdd, Nat.reduceSub, Nat.reduceMul, Nat.reduceLT, Nat.reduceEqDiff, Int.reduceEq, Int.reduceLE, Int.reduceLT, Int.reducePow, Int.reduceMul, Int.reduceToNat, Int.reduceNeg, ↓reduceIte, hD, hG', wrap64, jparseLo, d2, d3, byteGet, wrap_byte, unbox, tmv, Option.some.injEq, exists_eq_left']
      refine ⟨by omega, ?_⟩
      refine endW [] [] (by simp) rfl rfl rfl ?_ ?_ <;> simp only [go_sem, Nat.reduceEqDiff]
      rw [hr, entryP, if_pos (.inr h3)]
      simp [entryA, entryRow, entryZ, note0, cov, covs, subs, names, namess]
    have d3 : decide ((l.length : Int) < 2 + ((l.getD 1 0).toNat : Int)) = false := decide_eq_false (by omega)
    have hr2 : r = entryK (l.getD 0 0).toNat ((l.take (2 + (l.getD 1 0).toNat)).drop 2) (l.drop (2 + (l.getD 1 0).toNat)) := by
      rw [hr, entryP, if_neg (fun h => h.elim h2 h3)]
    have et : (2 + ((l.getD 1 0).toNat : Int)).toNat = 2 + (l.getD 1 0).toNat := by omega
    simp (disch := omega) only [go_sem, Nat.reduceLeDiff, reduceCtorEq, Nat.reduceAdd, Nat.reduceSub, Nat.reduceMul, Nat.reduceLT, Nat.reduceEqDiff, Int.reduceEq, Int.reduceLE, Int.reduceLT, Int.reducePow, Int.reduceMul, Int.reduceToNat, Int.reduceNeg, ↓reduceIte, hD, hG', wrap64, jparseLo, d2, d3, byteGet, wrap_byte, et, unbox, tmv, Option.some.injEq, exists_eq_left']
    refine RegT.mk [] ?_
    simp (disch := omega) only [go_sem, Nat.reduceLeDiff, reduceCtorEq, Nat.reduceAdd, Nat.reduceSub, Nat.reduceMul, Nat.reduceLT, Nat.reduceEqDiff, Int.reduceEq, Int.reduceLE, Int.reduceLT, Int.reducePow, Int.reduceMul, Int.reduceToNat, Int.reduceNeg, ↓reduceIte, hD, hG', wrap64, jparseLo, d2, d3, byteGet, wrap_byte, et, List.take_length, unbox, tmv, Option.some.injEq, exists_eq_left']
    (repeat (with_reducible refine And.intro (by first | omega | decide | (simp; done) | (simp only [List.length_append, List.length_cons, List.length_nil, List.length_map]; omega)) ?_))
    have hRl : (l.drop (2 + (l.getD 1 0).toNat)).length = l.length - (2 + (l.getD 1 0).toNat) := List.length_drop
    generalize l.drop (2 + (l.getD 1 0).toNat) = R at *
    generalize (l.take (2 + (l.getD 1 0).toNat)).drop 2 = q at *
    generalize (l.getD 0 0).toNat = c0 at *
    by_cases h4 : c0 < 1
    · have d4 : decide ((c0 : Int) < 1) = true := decide_eq_true (by omega)
      refine RegT.mk [(3, false)] ?_
      simp (disch := omega) only [go_sem, Nat.reduceLeDiff, reduceCtorEq, Nat.reduceAdd, Nat.reduceSub, Nat.reduceMul, Nat.reduceLT, Nat.reduceEqDiff, Int.reduceEq, Int.reduceLE, Int.reduceLT, Int.reducePow, Int.reduceMul, Int.reduceToNat, Int.reduceNeg, ↓reduceIte, hD, hG', wrap64, jparseLo, d4, unbox, tmv, Option.some.injEq, exists_eq_left']
      refine endW [] [] (by simp) rfl rfl rfl ?_ ?_ <;> simp only [go_sem, Nat.reduceEqDiff]
      rw [hr2, entryK, if_pos (.inl h4)]
      simp [entryA, entryRow, entryZ, note0, cov, covs, subs, names, namess]
    have d4 : decide ((c0 : Int) < 1) = false := decide_eq_false (by omega)
    by_cases h5 : 4 < c0
    · have d5 : decide ((c0 : Int) > 4) = true := decide_eq_true (by omega)
      refine RegT.mk [] ?_
      simp (disch := omega) only [go_sem, Nat.reduceLeDiff, reduceCtorEq, Nat.reduceAdd, Nat.reduceSub, Nat.reduceMul, Nat.reduceLT, Nat.reduceEqDiff, Int.reduceEq, Int.reduceLE, Int.reduceLT, Int.reducePow, Int.reduceMul, Int.reduceToNat, Int.reduceNeg, ↓reduceIte, hD, hG', wrap64, jparseLo, d4, d5, unbox, tmv, Option.some.injEq, exists_eq_left']
      refine endW [] [] (by simp) rfl rfl rfl ?_ ?_ <;> simp only [go_sem, Nat.reduceEqDiff]
      rw [hr2, entryK, if_pos (.inr h5)]
      simp [entryA, entryRow, entryZ, note0, cov, covs, subs, names, namess]
    have d5 : decide ((c0 : Int) > 4) = false := decide_eq_false (by omega)
    refine RegT.mk [] ?_
    simp (disch := omega) only [go_sem, Nat.reduceLeDiff, reduceCtorEq, Nat.reduceAdd, Nat.reduceSub, Nat.reduceMul, Nat.reduceLT, Nat.reduceEqDiff, Int.reduceEq, Int.reduceLE, Int.reduceLT, Int.reducePow, Int.reduceMul, Int.reduceToNat, Int.reduceNeg, ↓reduceIte, hD, hG', wrap64, jparseLo, d4, d5, unbox, tmv, Option.some.injEq, exists_eq_left']
    have hu : X.P.underlying 100 = some (.map 3 3) := by rw [hP]; exact Try.underlying100
    have hk : X.P.underlying 3 = some (.int .i64) := by rw [hP]; exact Try.underlying3
    refine Tr.lit hX 0 (d := 53) wantM hu hk (by decide) ⟨_, rfl, rfl, rfl, rfl⟩ (by decide) ?_ ?_ ?_
    · unfold wantM litOps
      repeat (first | exact trivial | refine ⟨⟨_, rfl, _, _, rfl, rfl, rfl, fun _ => rfl, fun _ => rfl⟩, ?_⟩ | unfold litOps)
    · unfold wantM litNew
      repeat (first | exact trivial | refine ⟨rfl, rfl, ?_⟩ | unfold litNew)
    have hlen : wantM.length = 4 := rfl
    generalize hnm : wantM = nm at hlen ⊢
    have hlook := wantM_look c0
    rw [hnm] at hlook
    simp (disch := omega) only [go_sem, Nat.reduceLeDiff, reduceCtorEq, Nat.reduceAdd, Nat.reduceSub, Nat.reduceMul, Nat.reduceLT, Nat.reduceEqDiff, Int.reduceEq, Int.reduceLE, Int.reduceLT, Int.reducePow, Int.reduceMul, Int.reduceToNat, Int.reduceNeg, ↓reduceIte, hD, hG', wrap64, jparseLo, hlen, unbox, tmv, Option.some.injEq, exists_eq_left']
    refine inl_look (dk := .int .i64) (key := .int .i64 c0) (z := .int .i64 0) (v := .int .i64 (wantS c0)) (av := .int .i64 (wantS c0)) hu hk rfl rfl rfl (by rw [hP]; exact zero_int) (by simp [cst]) hlook (fun _ _ _ => .int _ _) rfl (by simp) ?_
    simp (disch := omega) only [go_sem, Nat.reduceLeDiff, reduceCtorEq, Nat.reduceAdd, Nat.reduceSub, Nat.reduceMul, Nat.reduceLT, Nat.reduceEqDiff, Int.reduceEq, Int.reduceLE, Int.reduceLT, Int.reducePow, Int.reduceMul, Int.reduceToNat, Int.reduceNeg, ↓reduceIte, hD, hG', wrap64, jparseLo, hlen, unbox, tmv, Option.some.injEq, exists_eq_left']
    have hw : (c0 = 1 → wantS c0 = 1) ∧ (c0 = 2 → wantS c0 = 0) ∧ (c0 = 3 → wantS c0 = 4) ∧ (c0 = 4 → wantS c0 = 4) := by
      unfold wantS
      refine ⟨?_, ?_, ?_, ?_⟩ <;> rintro rfl <;> rfl
    generalize wantS c0 = ws at *
    have hno : (R.length : Int) < ws ∨ (c0 ≠ 3 ∧ (R.length : Int) > ws) → entryK c0 q R = (entryZ, 2) := fun h => by
      rw [entryK, if_neg (by omega), if_neg (by omega), if_neg (by omega), if_neg (by omega), if_neg (by omega)]
    by_cases h6 : (R.length : Int) < ws
    · have d6 : decide ((R.length : Int) < ws) = true := decide_eq_true h6
      refine RegT.mk [(4, false), (8, true)] ?_
      simp (disch := omega) only [go_sem, Nat.reduceLeDiff, reduceCtorEq, Nat.reduceAdd, Nat.reduceSub, Nat.reduceMul, Nat.reduceLT, Nat.reduceEqDiff, Int.reduceEq, Int.reduceLE, Int.reduceLT, Int.reducePow, Int.reduceMul, Int.reduceToNat, Int.reduceNeg, ↓reduceIte, hD, hG', wrap64, jparseLo, d6, unbox, tmv, Option.some.injEq, exists_eq_left']
      refine endW [] [] (by simp) rfl rfl rfl ?_ ?_ <;> simp only [go_sem, Nat.reduceEqDiff]
      rw [hr2, hno (.inl h6)]
      simp [entryA, entryRow, entryZ, note0, cov, covs, subs, names, namess]
    have d6 : decide ((R.length : Int) < ws) = false := decide_eq_false h6
    by_cases h3 : c0 = 3
    · have e3 : ((c0 : Int) != 3) = false := by simp [h3]
      have n1 : ((c0 : Int) == 1) = false := by simp [h3]
      have n3 : ((c0 : Int) == 3) = true := by simp [h3]
      refine RegT.mk [(8, true)] ?_
      simp (disch := omega) only [go_sem, Nat.reduceLeDiff, reduceCtorEq, Nat.reduceAdd, Nat.reduceSub, Nat.reduceMul, Nat.reduceLT, Nat.reduceEqDiff, Int.reduceEq, Int.reduceLE, Int.reduceLT, Int.reducePow, Int.reduceMul, Int.reduceToNat, Int.reduceNeg, ↓reduceIte, hD, hG', wrap64, jparseLo, d6, e3, n1, n3, byteGet, wrap_byte, orNum, List.take_length, unbox, tmv, Option.some.injEq, exists_eq_left']
      (repeat (with_reducible refine And.intro (by first | omega | decide | (simp; done) | (simp only [List.length_append, List.length_cons, List.length_nil, List.length_map]; omega)) ?_))
      have hR4 : 4 ≤ R.length := by omega
      have hdl : (R.drop 4).length = R.length - 4 := List.length_drop
      have g1 := g1 (R.drop 4) (by omega)
      have hpl := parseS_len (R.drop 4)
      have hK : entryK c0 q R = if (parseS (R.drop 4)).2.2 = 0 ∧ (parseS (R.drop 4)).2.1 = R.length - 4 then (⟨3, ⟨⟨q⟩⟩, 0, numN R, (parseS (R.drop 4)).1⟩, 0) else (entryZ, 2) := by
        rw [entryK, if_neg (by omega), if_neg (by omega), if_neg (by omega), if_neg (by omega), if_pos (by omega)]
      rw [hK] at hr2
      generalize parseS (R.drop 4) = P at *
      obtain ⟨⟨pp, pb⟩, pk, pe⟩ := P
      simp only [noteA] at g1 hr2 hpl
      simp (disch := omega) only [go_sem, Nat.reduceLeDiff, reduceCtorEq, Nat.reduceAdd, Nat.reduceSub, Nat.reduceMul, Nat.reduceLT, Nat.reduceEqDiff, Int.reduceEq, Int.reduceLE, Int.reduceLT, Int.reducePow, Int.reduceMul, Int.reduceToNat, Int.reduceNeg, ↓reduceIte, hD, hG', wrap64, jparseLo, g1, List.take_length, unbox, tmv, Option.some.injEq, exists_eq_left']
      (repeat (with_reducible refine And.intro (by first | omega | decide | (simp; done) | (simp only [List.length_append, List.length_cons, List.length_nil, List.length_map]; omega)) ?_))
      by_cases h8 : pe = 0
      · have d8 : (pe != 0) = false := by simp [h8]
        by_cases h9 : pk = R.length - 4
        · have d9 : ((pk : Int) != (R.length : Int) - 4) = false := by simp; omega
          refine RegT.mk [] ?_
          simp (disch := omega) only [go_sem, Nat.reduceLeDiff, reduceCtorEq, Nat.reduceAdd, Nat.reduceSub, Nat.reduceMul, Nat.reduceLT, Nat.reduceEqDiff, Int.reduceEq, Int.reduceLE, Int.reduceLT, Int.reducePow, Int.reduceMul, Int.reduceToNat, Int.reduceNeg, ↓reduceIte, hD, hG', wrap64, jparseLo, d8, d9, unbox, tmv, Option.some.injEq, exists_eq_left']
          refine endW [] [] (by simp) rfl rfl rfl ?_ ?_ <;> simp only [go_sem, Nat.reduceEqDiff]
          rw [hr2, if_pos ⟨h8, h9⟩]
          simp [entryA, entryRow, h3, cov, covs, subs, names, namess]
        · have d9 : ((pk : Int) != (R.length : Int) - 4) = true := by simp; omega
          refine RegT.mk [] ?_
          simp (disch := omega) only [go_sem, Nat.reduceLeDiff, reduceCtorEq, Nat.reduceAdd, Nat.reduceSub, Nat.reduceMul, Nat.reduceLT, Nat.reduceEqDiff, Int.reduceEq, Int.reduceLE, Int.reduceLT, Int.reducePow, Int.reduceMul, Int.reduceToNat, Int.reduceNeg, ↓reduceIte, hD, hG', wrap64, jparseLo, d8, d9, unbox, tmv, Option.some.injEq, exists_eq_left']
          refine endW [] [] (by simp) rfl rfl rfl ?_ ?_ <;> simp only [go_sem, Nat.reduceEqDiff]
          rw [hr2, if_neg (fun h => h9 h.2)]
          simp [entryA, entryRow, entryZ, note0, cov, covs, subs, names, namess]
      · have d8 : (pe != 0) = true := by simp [h8]
        refine RegT.mk [(2, false)] ?_
        simp (disch := omega) only [go_sem, Nat.reduceLeDiff, reduceCtorEq, Nat.reduceAdd, Nat.reduceSub, Nat.reduceMul, Nat.reduceLT, Nat.reduceEqDiff, Int.reduceEq, Int.reduceLE, Int.reduceLT, Int.reducePow, Int.reduceMul, Int.reduceToNat, Int.reduceNeg, ↓reduceIte, hD, hG', wrap64, jparseLo, d8, unbox, tmv, Option.some.injEq, exists_eq_left']
        refine endW [] [] (by simp) rfl rfl rfl ?_ ?_ <;> simp only [go_sem, Nat.reduceEqDiff]
        rw [hr2, if_neg (fun h => h8 h.1)]
        simp [entryA, entryRow, entryZ, note0, cov, covs, subs, names, namess]
    have e3 : ((c0 : Int) != 3) = true := by simp; omega
    by_cases h7 : (R.length : Int) > ws
    · have d7 : decide ((R.length : Int) > ws) = true := decide_eq_true h7
      refine RegT.mk [] ?_
      simp (disch := omega) only [go_sem, Nat.reduceLeDiff, reduceCtorEq, Nat.reduceAdd, Nat.reduceSub, Nat.reduceMul, Nat.reduceLT, Nat.reduceEqDiff, Int.reduceEq, Int.reduceLE, Int.reduceLT, Int.reducePow, Int.reduceMul, Int.reduceToNat, Int.reduceNeg, ↓reduceIte, hD, hG', wrap64, jparseLo, d6, d7, e3, unbox, tmv, Option.some.injEq, exists_eq_left']
      refine endW [] [] (by simp) rfl rfl rfl ?_ ?_ <;> simp only [go_sem, Nat.reduceEqDiff]
      rw [hr2, hno (.inr ⟨h3, h7⟩)]
      simp [entryA, entryRow, entryZ, note0, cov, covs, subs, names, namess]
    have d7 : decide ((R.length : Int) > ws) = false := decide_eq_false h7
    have h8 : c0 = 1 ∨ c0 = 2 ∨ c0 = 4 := by omega
    rcases h8 with h8 | h8 | h8
    · have n1 : ((c0 : Int) == 1) = true := by simp [h8]
      have n3 : ((c0 : Int) == 3) = false := by simp [h8]
      refine RegT.mk [] ?_
      simp (disch := omega) only [go_sem, Nat.reduceLeDiff, reduceCtorEq, Nat.reduceAdd, Nat.reduceSub, Nat.reduceMul, Nat.reduceLT, Nat.reduceEqDiff, Int.reduceEq, Int.reduceLE, Int.reduceLT, Int.reducePow, Int.reduceMul, Int.reduceToNat, Int.reduceNeg, ↓reduceIte, hD, hG', wrap64, jparseLo, d6, d7, e3, n1, n3, byteGet, wrap_byte, orNum, unbox, tmv, Option.some.injEq, exists_eq_left']
      (repeat (with_reducible refine And.intro (by first | omega | decide | (simp; done) | (simp only [List.length_append, List.length_cons, List.length_nil, List.length_map]; omega)) ?_))
      refine endW [] [] (by simp) rfl rfl rfl ?_ ?_ <;> simp only [go_sem, Nat.reduceEqDiff]
      have hK : entryK c0 q R = (⟨1, ⟨⟨q⟩⟩, (R.getD 0 0).toNat, 0, note0⟩, 0) := by
        rw [entryK, if_neg (by omega), if_pos (by omega)]
      rw [hr2, hK]
      simp [entryA, entryRow, note0, h8, cov, covs, subs, names, namess]
    · have n1 : ((c0 : Int) == 1) = false := by simp [h8]
      have n3 : ((c0 : Int) == 3) = false := by simp [h8]
      have n4 : ((c0 : Int) == 4) = false := by simp [h8]
      refine RegT.mk [] ?_
      simp (disch := omega) only [go_sem, Nat.reduceLeDiff, reduceCtorEq, Nat.reduceAdd, Nat.reduceSub, Nat.reduceMul, Nat.reduceLT, Nat.reduceEqDiff, Int.reduceEq, Int.reduceLE, Int.reduceLT, Int.reducePow, Int.reduceMul, Int.reduceToNat, Int.reduceNeg, ↓reduceIte, hD, hG', wrap64, jparseLo, d6, d7, e3, n1, n3, n4, byteGet, wrap_byte, orNum, unbox, tmv, Option.some.injEq, exists_eq_left']
      (repeat (with_reducible refine And.intro (by first | omega | decide | (simp; done) | (simp only [List.length_append, List.length_cons, List.length_nil, List.length_map]; omega)) ?_))
      refine endW [] [] (by simp) rfl rfl rfl ?_ ?_ <;> simp only [go_sem, Nat.reduceEqDiff]
      have hK : entryK c0 q R = (⟨2, ⟨⟨q⟩⟩, 0, 0, note0⟩, 0) := by
        rw [entryK, if_neg (by omega), if_neg (by omega), if_pos (by omega)]
      rw [hr2, hK]
      simp [entryA, entryRow, note0, h8, cov, covs, subs, names, namess]
    · have n1 : ((c0 : Int) == 1) = false := by simp [h8]
      have n3 : ((c0 : Int) == 3) = false := by simp [h8]
      have n4 : ((c0 : Int) == 4) = true := by simp [h8]
      refine RegT.mk [] ?_
      simp (disch := omega) only [go_sem, Nat.reduceLeDiff, reduceCtorEq, Nat.reduceAdd, Nat.reduceSub, Nat.reduceMul, Nat.reduceLT, Nat.reduceEqDiff, Int.reduceEq, Int.reduceLE, Int.reduceLT, Int.reducePow, Int.reduceMul, Int.reduceToNat, Int.reduceNeg, ↓reduceIte, hD, hG', wrap64, jparseLo, d6, d7, e3, n1, n3, n4, byteGet, wrap_byte, orNum, unbox, tmv, Option.some.injEq, exists_eq_left']
      (repeat (with_reducible refine And.intro (by first | omega | decide | (simp; done) | (simp only [List.length_append, List.length_cons, List.length_nil, List.length_map]; omega)) ?_))
      refine endW [] [] (by simp) rfl rfl rfl ?_ ?_ <;> simp only [go_sem, Nat.reduceEqDiff]
      have hK : entryK c0 q R = (⟨4, ⟨⟨q⟩⟩, 0, numN R, note0⟩, 0) := by
        rw [entryK, if_neg (by omega), if_neg (by omega), if_neg (by omega), if_pos (by omega)]
      rw [hr2, hK]
      simp [entryA, entryRow, note0, h8, cov, covs, subs, names, namess]
  exact hcon _ rfl
end Go.Proofs.Ythbejciebmkclaa.Ab
namespace Go.Proofs.Ythbejciebmkclaa.Ab
open Go Go.RowKit
set_option linter.unusedVariables false
set_option linter.unusedSimpArgs false

theorem getS_nat (l : List UInt8) : IntKind.wrap .i64 (IntKind.wrap .u32 (getS l)) = numN l := by
  have h := numN_lt l
  unfold getS
  rw [IntKind.wrap_u32, IntKind.wrap_i32, wrap64 (by omega) (by omega)]
  omega
def jrparseLo : Nat → Lo := fun id => match id with | 3 => {uo := [14], un := [4], ex := [13]} | _ => {}
set_option maxRecDepth 100000 in
set_option maxHeartbeats 4000000 in
theorem con_jrefparse (l : List UInt8) (hl : l.length ≤ 4194304) : Con Try.prog D 13 [.sl 1 (l.map byteRow)] ⟨.tup [entryA (entryP l).1, .int .i64 (entryP l).2], []⟩ := by
  have hok : GOk Try.prog D (tabG [eRefparse, eGet]) := tabG_ok _
  have g1 := fun (l : List UInt8) (h : l.length ≤ 4194304) => tabG_use (T := [eRefparse, eGet]) (E := eRefparse) (i := 0) rfl (by decide) (l) (h)
  have g2 := fun (l : List UInt8) (h : 4 ≤ l.length) (h2 : l.length ≤ 8388608) => tabG_use (T := [eRefparse, eGet]) (E := eGet) (i := 1) rfl (by decide) (l) (⟨h, h2⟩)
  generalize tabG [eRefparse, eGet] = G at *
  dsimp only [eRefparse] at g1
  dsimp only [eGet] at g2
  have hcon : ∀ r, r = entryP l → Con Try.prog D 13 [.sl 1 (l.map byteRow)] ⟨.tup [entryA r.1, .int .i64 r.2], []⟩ := by
    intro r hr
    have hb0 := (l.getD 0 0).toNat_lt
    have hb1 := (l.getD 1 0).toNat_lt
    refine conW (G := G) (rs := [(2, some 30), (3, none)]) hok Try.func13 Try.results13 Try.ntmps13 (jrparseLo) fun X hP hD hG' hX => ?_
    simp only [argS, num]
    by_cases h2 : l.length < 2
    · have d2 : decide ((l.length : Int) < 2) = true := by simp; omega
      simp (disch := omega) only [go_sem, Nat.reduceLeDiff, reduceCtorEq, Nat.reduceAdd, Nat.reduceSub, Nat.reduceMul, Nat.reduceLT, Nat.reduceEqDiff, Int.reduceEq, Int.reduceLE, Int.reduceLT, Int.reducePow, Int.reduceMul, Int.reduceToNat, Int.reduceNeg, ↓reduceIte, hD, hG', wrap64, jrparseLo, d2, unbox, tmv, Option.some.injEq, exists_eq_left']
      refine RegT.mk [(3, false)] ?_
      simp (disch := omega) only [go_sem, Nat.reduceLeDiff, reduceCtorEq, Nat.reduceAdd, Nat.reduceSub, Nat.reduceMul, Nat.reduceLT, Nat.reduceEqDiff, Int.reduceEq, Int.reduceLE, Int.reduceLT, Int.reducePow, Int.reduceMul, Int.reduceToNat, Int.reduceNeg, ↓reduceIte, hD, hG', wrap64, jrparseLo, d2, unbox, tmv, Option.some.injEq, exists_eq_left']
      refine endW [] [] (by simp) rfl rfl rfl ?_ ?_ <;> simp only [go_sem, Nat.reduceEqDiff]
      rw [hr, entryP, if_pos (.inl h2)]
      simp [entryA, entryRow, entryZ, note0, cov, covs, subs, names, namess]
    have d2 : decide ((l.length : Int) < 2) = false := by simp; omega
    by_cases h3 : l.length < 2 + (l.getD 1 0).toNat
    · have d3 : decide (((l.getD 1 0).toNat : Int) + 2 > (l.length : Int)) = true := decide_eq_true (by omega)
      simp (disch := omega) only [go_sem, Nat.reduceLeDiff, reduceCtorEq, Nat.reduceAdd, Nat.reduceSub, Nat.reduceMul, Nat.reduceLT, Nat.reduceEqDiff, Int.reduceEq, Int.reduceLE, Int.reduceLT, Int.reducePow, Int.reduceMul, Int.reduceToNat, Int.reduceNeg, ↓reduceIte, hD, hG', wrap64, jrparseLo, d2, d3, byteGet, wrap_byte, unbox, tmv, Option.some.injEq, exists_eq_left']
      refine RegT.mk [] ?_
      simp (disch := omega) only [go_sem, Nat.reduceLeDiff, reduceCtorEq, Nat.reduceAdd, Nat.reduceSub, Nat.reduceMul, Nat.reduceLT, Nat.reduceEqDiff, Int.reduceEq, Int.reduceLE, Int.reduceLT, Int.reducePow, Int.reduceMul, Int.reduceToNat, Int.reduceNeg, ↓reduceIte, hD, hG', wrap64, jrparseLo, d2, d3, byteGet, wrap_byte, unbox, tmv, Option.some.injEq, exists_eq_left']
      refine ⟨by omega, ?_⟩
      refine endW [] [] (by simp) rfl rfl rfl ?_ ?_ <;> simp only [go_sem, Nat.reduceEqDiff]
      rw [hr, entryP, if_pos (.inr h3)]
      simp [entryA, entryRow, entryZ, note0, cov, covs, subs, names, namess]
    have d3 : decide (((l.getD 1 0).toNat : Int) + 2 > (l.length : Int)) = false := decide_eq_false (by omega)
    have hr2 : r = entryK (l.getD 0 0).toNat ((l.take (2 + (l.getD 1 0).toNat)).drop 2) (l.drop (2 + (l.getD 1 0).toNat)) := by
      rw [hr, entryP, if_neg (fun h => h.elim h2 h3)]
    have et : (((l.getD 1 0).toNat : Int) + 2).toNat = 2 + (l.getD 1 0).toNat := by omega
    simp (disch := omega) only [go_sem, Nat.reduceLeDiff, reduceCtorEq, Nat.reduceAdd, Nat.reduceSub, Nat.reduceMul, Nat.reduceLT, Nat.reduceEqDiff, Int.reduceEq, Int.reduceLE, Int.reduceLT, Int.reducePow, Int.reduceMul, Int.reduceToNat, Int.reduceNeg, ↓reduceIte, hD, hG', wrap64, jrparseLo, d2, d3, byteGet, wrap_byte, et, unbox, tmv, Option.some.injEq, exists_eq_left']
    refine RegT.mk [] ?_
    simp (disch := omega) only [go_sem, Nat.reduceLeDiff, reduceCtorEq, Nat.reduceAdd, Nat.reduceSub, Nat.reduceMul, Nat.reduceLT, Nat.reduceEqDiff, Int.reduceEq, Int.reduceLE, Int.reduceLT, Int.reducePow, Int.reduceMul, Int.reduceToNat, Int.reduceNeg, ↓reduceIte, hD, hG', wrap64, jrparseLo, d2, d3, byteGet, wrap_byte, et, List.take_length, unbox, tmv, Option.some.injEq, exists_eq_left']
    (repeat (with_reducible refine And.intro (by first | omega | decide | (simp; done) | (simp only [List.length_append, List.length_cons, List.length_nil, List.length_map]; omega)) ?_))
    have hRl : (l.drop (2 + (l.getD 1 0).toNat)).length = l.length - (2 + (l.getD 1 0).toNat) := List.length_drop
    generalize l.drop (2 + (l.getD 1 0).toNat) = R at *
    generalize (l.take (2 + (l.getD 1 0).toNat)).drop 2 = q at *
    generalize (l.getD 0 0).toNat = c0 at *
    have hwr : c0 < 256 := by omega
    by_cases h1 : c0 = 1
    · have e1 : ((c0 : Int) == 1) = true := by simp [h1]
      have e2 : ((c0 : Int) == 2) = false := by simp [h1]
      have e3 : ((c0 : Int) == 3) = false := by simp [h1]
      have e4 : ((c0 : Int) == 4) = false := by simp [h1]
      have d4 : decide ((c0 : Int) < 1) = false := decide_eq_false (by omega)
      have d5 : decide ((c0 : Int) > 4) = false := decide_eq_false (by omega)
      by_cases hq : R.length = 1
      · have q1 : ((R.length : Int) == 1) = true := by simp [hq]
        refine RegT.mk [] ?_
        simp (disch := omega) only [go_sem, Nat.reduceLeDiff, reduceCtorEq, Nat.reduceAdd, Nat.reduceSub, Nat.reduceMul, Nat.reduceLT, Nat.reduceEqDiff, Int.reduceEq, Int.reduceLE, Int.reduceLT, Int.reducePow, Int.reduceMul, Int.reduceToNat, Int.reduceNeg, ↓reduceIte, hD, hG', wrap64, jrparseLo, e1, e2, e3, e4, q1, byteGet, wrap_byte, List.take_length, unbox, tmv, Option.some.injEq, exists_eq_left']
        (repeat (with_reducible refine And.intro (by first | omega | decide | (simp; done) | (simp only [List.length_append, List.length_cons, List.length_nil, List.length_map]; omega)) ?_))
        refine endW [] [] (by simp) rfl rfl rfl ?_ ?_ <;> simp only [go_sem, Nat.reduceEqDiff]
        have hK : entryK c0 q R = (⟨1, ⟨⟨q⟩⟩, (R.getD 0 0).toNat, 0, note0⟩, 0) := by
          rw [entryK, if_neg (by omega), if_pos (by omega)]
        rw [hr2, hK]
        simp [entryA, entryRow, note0, h1, cov, covs, subs, names, namess]
      · have q1 : ((R.length : Int) == 1) = false := by simp; omega
        refine RegT.mk [] ?_
        simp (disch := omega) only [go_sem, Nat.reduceLeDiff, reduceCtorEq, Nat.reduceAdd, Nat.reduceSub, Nat.reduceMul, Nat.reduceLT, Nat.reduceEqDiff, Int.reduceEq, Int.reduceLE, Int.reduceLT, Int.reducePow, Int.reduceMul, Int.reduceToNat, Int.reduceNeg, ↓reduceIte, hD, hG', wrap64, jrparseLo, e1, e2, e3, e4, q1, d4, d5, byteGet, wrap_byte, List.take_length, unbox, tmv, Option.some.injEq, exists_eq_left']
        refine RegT.mk [(3, true)] ?_
        simp (disch := omega) only [go_sem, Nat.reduceLeDiff, reduceCtorEq, Nat.reduceAdd, Nat.reduceSub, Nat.reduceMul, Nat.reduceLT, Nat.reduceEqDiff, Int.reduceEq, Int.reduceLE, Int.reduceLT, Int.reducePow, Int.reduceMul, Int.reduceToNat, Int.reduceNeg, ↓reduceIte, hD, hG', wrap64, jrparseLo, e1, e2, e3, e4, q1, d4, d5, byteGet, wrap_byte, List.take_length, unbox, tmv, Option.some.injEq, exists_eq_left']
        refine RegT.mk [(3, true)] ?_
        simp (disch := omega) only [go_sem, Nat.reduceLeDiff, reduceCtorEq, Nat.reduceAdd, Nat.reduceSub, Nat.reduceMul, Nat.reduceLT, Nat.reduceEqDiff, Int.reduceEq, Int.reduceLE, Int.reduceLT, Int.reducePow, Int.reduceMul, Int.reduceToNat, Int.reduceNeg, ↓reduceIte, hD, hG', wrap64, jrparseLo, e1, e2, e3, e4, q1, d4, d5, byteGet, wrap_byte, List.take_length, unbox, tmv, Option.some.injEq, exists_eq_left']
        refine RegT.mk [(3, true)] ?_
        simp (disch := omega) only [go_sem, Nat.reduceLeDiff, reduceCtorEq, Nat.reduceAdd, Nat.reduceSub, Nat.reduceMul, Nat.reduceLT, Nat.reduceEqDiff, Int.reduceEq, Int.reduceLE, Int.reduceLT, Int.reducePow, Int.reduceMul, Int.reduceToNat, Int.reduceNeg, ↓reduceIte, hD, hG', wrap64, jrparseLo, e1, e2, e3, e4, q1, d4, d5, byteGet, wrap_byte, List.take_length, unbox, tmv, Option.some.injEq, exists_eq_left']
        refine RegT.mk [] ?_
        simp (disch := omega) only [go_sem, Nat.reduceLeDiff, reduceCtorEq, Nat.reduceAdd, Nat.reduceSub, Nat.reduceMul, Nat.reduceLT, Nat.reduceEqDiff, Int.reduceEq, Int.reduceLE, Int.reduceLT, Int.reducePow, Int.reduceMul, Int.reduceToNat, Int.reduceNeg, ↓reduceIte, hD, hG', wrap64, jrparseLo, e1, e2, e3, e4, q1, d4, d5, byteGet, wrap_byte, List.take_length, unbox, tmv, Option.some.injEq, exists_eq_left']
        refine endW [] [] (by simp) rfl rfl rfl ?_ ?_ <;> simp only [go_sem, Nat.reduceEqDiff]
        have hK : entryK c0 q R = (entryZ, 2) := by
          rw [entryK, if_neg (by omega), if_neg (by omega), if_neg (by omega), if_neg (by omega), if_neg (by omega)]
        rw [hr2, hK]
        simp [entryA, entryRow, entryZ, note0, cov, covs, subs, names, namess]
    by_cases h1 : c0 = 2
    · have e1 : ((c0 : Int) == 1) = false := by simp [h1]
      have e2 : ((c0 : Int) == 2) = true := by simp [h1]
      have e3 : ((c0 : Int) == 3) = false := by simp [h1]
      have e4 : ((c0 : Int) == 4) = false := by simp [h1]
      have d4 : decide ((c0 : Int) < 1) = false := decide_eq_false (by omega)
      have d5 : decide ((c0 : Int) > 4) = false := decide_eq_false (by omega)
      refine RegT.mk [(3, true)] ?_
      simp (disch := omega) only [go_sem, Nat.reduceLeDiff, reduceCtorEq, Nat.reduceAdd, Nat.reduceSub, Nat.reduceMul, Nat.reduceLT, Nat.reduceEqDiff, Int.reduceEq, Int.reduceLE, Int.reduceLT, Int.reducePow, Int.reduceMul, Int.reduceToNat, Int.reduceNeg, ↓reduceIte, hD, hG', wrap64, jrparseLo, e1, e2, e3, e4, d4, d5, byteGet, wrap_byte, getS_nat, List.take_length, unbox, tmv, Option.some.injEq, exists_eq_left']
      by_cases hq : R.length = 0
      · have q1 : ((R.length : Int) == 0) = true := by simp [hq]
        refine RegT.mk [] ?_
        simp (disch := omega) only [go_sem, Nat.reduceLeDiff, reduceCtorEq, Nat.reduceAdd, Nat.reduceSub, Nat.reduceMul, Nat.reduceLT, Nat.reduceEqDiff, Int.reduceEq, Int.reduceLE, Int.reduceLT, Int.reducePow, Int.reduceMul, Int.reduceToNat, Int.reduceNeg, ↓reduceIte, hD, hG', wrap64, jrparseLo, e1, e2, e3, e4, q1, d4, d5, byteGet, wrap_byte, getS_nat, List.take_length, unbox, tmv, Option.some.injEq, exists_eq_left']
        refine endW [] [] (by simp) rfl rfl rfl ?_ ?_ <;> simp only [go_sem, Nat.reduceEqDiff]
        have hK : entryK c0 q R = (⟨2, ⟨⟨q⟩⟩, 0, 0, note0⟩, 0) := by
          rw [entryK, if_neg (by omega), if_neg (by omega), if_pos (by omega)]
        rw [hr2, hK]
        simp [entryA, entryRow, note0, h1, cov, covs, subs, names, namess]
      · have q1 : ((R.length : Int) == 0) = false := by simp; intro h; exact hq (by simp [h])
        refine RegT.mk [] ?_
        simp (disch := omega) only [go_sem, Nat.reduceLeDiff, reduceCtorEq, Nat.reduceAdd, Nat.reduceSub, Nat.reduceMul, Nat.reduceLT, Nat.reduceEqDiff, Int.reduceEq, Int.reduceLE, Int.reduceLT, Int.reducePow, Int.reduceMul, Int.reduceToNat, Int.reduceNeg, ↓reduceIte, hD, hG', wrap64, jrparseLo, e1, e2, e3, e4, q1, d4, d5, byteGet, wrap_byte, getS_nat, List.take_length, unbox, tmv, Option.some.injEq, exists_eq_left']
        refine RegT.mk [(3, true)] ?_
        simp (disch := omega) only [go_sem, Nat.reduceLeDiff, reduceCtorEq, Nat.reduceAdd, Nat.reduceSub, Nat.reduceMul, Nat.reduceLT, Nat.reduceEqDiff, Int.reduceEq, Int.reduceLE, Int.reduceLT, Int.reducePow, Int.reduceMul, Int.reduceToNat, Int.reduceNeg, ↓reduceIte, hD, hG', wrap64, jrparseLo, e1, e2, e3, e4, q1, d4, d5, byteGet, wrap_byte, getS_nat, List.take_length, unbox, tmv, Option.some.injEq, exists_eq_left']
        refine RegT.mk [(3, true)] ?_
        simp (disch := omega) only [go_sem, Nat.reduceLeDiff, reduceCtorEq, Nat.reduceAdd, Nat.reduceSub, Nat.reduceMul, Nat.reduceLT, Nat.reduceEqDiff, Int.reduceEq, Int.reduceLE, Int.reduceLT, Int.reducePow, Int.reduceMul, Int.reduceToNat, Int.reduceNeg, ↓reduceIte, hD, hG', wrap64, jrparseLo, e1, e2, e3, e4, q1, d4, d5, byteGet, wrap_byte, getS_nat, List.take_length, unbox, tmv, Option.some.injEq, exists_eq_left']
        refine RegT.mk [] ?_
        simp (disch := omega) only [go_sem, Nat.reduceLeDiff, reduceCtorEq, Nat.reduceAdd, Nat.reduceSub, Nat.reduceMul, Nat.reduceLT, Nat.reduceEqDiff, Int.reduceEq, Int.reduceLE, Int.reduceLT, Int.reducePow, Int.reduceMul, Int.reduceToNat, Int.reduceNeg, ↓reduceIte, hD, hG', wrap64, jrparseLo, e1, e2, e3, e4, q1, d4, d5, byteGet, wrap_byte, getS_nat, List.take_length, unbox, tmv, Option.some.injEq, exists_eq_left']
        refine endW [] [] (by simp) rfl rfl rfl ?_ ?_ <;> simp only [go_sem, Nat.reduceEqDiff]
        have hK : entryK c0 q R = (entryZ, 2) := by
          rw [entryK, if_neg (by omega), if_neg (by omega), if_neg (by omega), if_neg (by omega), if_neg (by omega)]
        rw [hr2, hK]
        simp [entryA, entryRow, entryZ, note0, cov, covs, subs, names, namess]
    by_cases h1 : c0 = 4
    · have e1 : ((c0 : Int) == 1) = false := by simp [h1]
      have e2 : ((c0 : Int) == 2) = false := by simp [h1]
      have e3 : ((c0 : Int) == 3) = false := by simp [h1]
      have e4 : ((c0 : Int) == 4) = true := by simp [h1]
      have d4 : decide ((c0 : Int) < 1) = false := decide_eq_false (by omega)
      have d5 : decide ((c0 : Int) > 4) = false := decide_eq_false (by omega)
      refine RegT.mk [(3, true)] ?_
      simp (disch := omega) only [go_sem, Nat.reduceLeDiff, reduceCtorEq, Nat.reduceAdd, Nat.reduceSub, Nat.reduceMul, Nat.reduceLT, Nat.reduceEqDiff, Int.reduceEq, Int.reduceLE, Int.reduceLT, Int.reducePow, Int.reduceMul, Int.reduceToNat, Int.reduceNeg, ↓reduceIte, hD, hG', wrap64, jrparseLo, e1, e2, e3, e4, d4, d5, byteGet, wrap_byte, getS_nat, List.take_length, unbox, tmv, Option.some.injEq, exists_eq_left']
      refine RegT.mk [(3, true)] ?_
      simp (disch := omega) only [go_sem, Nat.reduceLeDiff, reduceCtorEq, Nat.reduceAdd, Nat.reduceSub, Nat.reduceMul, Nat.reduceLT, Nat.reduceEqDiff, Int.reduceEq, Int.reduceLE, Int.reduceLT, Int.reducePow, Int.reduceMul, Int.reduceToNat, Int.reduceNeg, ↓reduceIte, hD, hG', wrap64, jrparseLo, e1, e2, e3, e4, d4, d5, byteGet, wrap_byte, getS_nat, List.take_length, unbox, tmv, Option.some.injEq, exists_eq_left']
      by_cases hq : R.length = 4
      · have q1 : ((R.length : Int) == 4) = true := by simp [hq]
        have g2 := g2 R (by omega) (by omega)
        refine RegT.mk [] ?_
        simp (disch := omega) only [go_sem, Nat.reduceLeDiff, reduceCtorEq, Nat.reduceAdd, Nat.reduceSub, Nat.reduceMul, Nat.reduceLT, Nat.reduceEqDiff, Int.reduceEq, Int.reduceLE, Int.reduceLT, Int.reducePow, Int.reduceMul, Int.reduceToNat, Int.reduceNeg, ↓reduceIte, hD, hG', wrap64, jrparseLo, e1, e2, e3, e4, q1, g2, d4, d5, byteGet, wrap_byte, getS_nat, List.take_length, unbox, tmv, Option.some.injEq, exists_eq_left']
        (repeat (with_reducible refine And.intro (by first | omega | decide | (simp; done) | (simp only [List.length_append, List.length_cons, List.length_nil, List.length_map]; omega)) ?_))
        refine endW [] [] (by simp) rfl rfl rfl ?_ ?_ <;> simp only [go_sem, Nat.reduceEqDiff]
        have hK : entryK c0 q R = (⟨4, ⟨⟨q⟩⟩, 0, numN R, note0⟩, 0) := by
          rw [entryK, if_neg (by omega), if_neg (by omega), if_neg (by omega), if_pos (by omega)]
        rw [hr2, hK]
        simp [entryA, entryRow, note0, h1, cov, covs, subs, names, namess]
      · have q1 : ((R.length : Int) == 4) = false := by simp; omega
        refine RegT.mk [] ?_
        simp (disch := omega) only [go_sem, Nat.reduceLeDiff, reduceCtorEq, Nat.reduceAdd, Nat.reduceSub, Nat.reduceMul, Nat.reduceLT, Nat.reduceEqDiff, Int.reduceEq, Int.reduceLE, Int.reduceLT, Int.reducePow, Int.reduceMul, Int.reduceToNat, Int.reduceNeg, ↓reduceIte, hD, hG', wrap64, jrparseLo, e1, e2, e3, e4, q1, d4, d5, byteGet, wrap_byte, getS_nat, List.take_length, unbox, tmv, Option.some.injEq, exists_eq_left']
        refine RegT.mk [(3, true)] ?_
        simp (disch := omega) only [go_sem, Nat.reduceLeDiff, reduceCtorEq, Nat.reduceAdd, Nat.reduceSub, Nat.reduceMul, Nat.reduceLT, Nat.reduceEqDiff, Int.reduceEq, Int.reduceLE, Int.reduceLT, Int.reducePow, Int.reduceMul, Int.reduceToNat, Int.reduceNeg, ↓reduceIte, hD, hG', wrap64, jrparseLo, e1, e2, e3, e4, q1, d4, d5, byteGet, wrap_byte, getS_nat, List.take_length, unbox, tmv, Option.some.injEq, exists_eq_left']
        refine RegT.mk [] ?_
        simp (disch := omega) only [go_sem, Nat.reduceLeDiff, reduceCtorEq, Nat.reduceAdd, Nat.reduceSub, Nat.reduceMul, Nat.reduceLT, Nat.reduceEqDiff, Int.reduceEq, Int.reduceLE, Int.reduceLT, Int.reducePow, Int.reduceMul, Int.reduceToNat, Int.reduceNeg, ↓reduceIte, hD, hG', wrap64, jrparseLo, e1, e2, e3, e4, q1, d4, d5, byteGet, wrap_byte, getS_nat, List.take_length, unbox, tmv, Option.some.injEq, exists_eq_left']
        refine endW [] [] (by simp) rfl rfl rfl ?_ ?_ <;> simp only [go_sem, Nat.reduceEqDiff]
        have hK : entryK c0 q R = (entryZ, 2) := by
          rw [entryK, if_neg (by omega), if_neg (by omega), if_neg (by omega), if_neg (by omega), if_neg (by omega)]
        rw [hr2, hK]
        simp [entryA, entryRow, entryZ, note0, cov, covs, subs, names, namess]
    by_cases h1 : c0 = 3
    · have e1 : ((c0 : Int) == 1) = false := by simp [h1]
      have e2 : ((c0 : Int) == 2) = false := by simp [h1]
      have e3 : ((c0 : Int) == 3) = true := by simp [h1]
      have e4 : ((c0 : Int) == 4) = false := by simp [h1]
      have d4 : decide ((c0 : Int) < 1) = false := decide_eq_false (by omega)
      have d5 : decide ((c0 : Int) > 4) = false := decide_eq_false (by omega)
      refine RegT.mk [(3, true)] ?_
      simp (disch := omega) only [go_sem, Nat.reduceLeDiff, reduceCtorEq, Nat.reduceAdd, Nat.reduceSub, Nat.reduceMul, Nat.reduceLT, Nat.reduceEqDiff, Int.reduceEq, Int.reduceLE, Int.reduceLT, Int.reducePow, Int.reduceMul, Int.reduceToNat, Int.reduceNeg, ↓reduceIte, hD, hG', wrap64, jrparseLo, e1, e2, e3, e4, d4, d5, byteGet, wrap_byte, getS_nat, List.take_length, unbox, tmv, Option.some.injEq, exists_eq_left']
      refine RegT.mk [(3, true)] ?_
      simp (disch := omega) only [go_sem, Nat.reduceLeDiff, reduceCtorEq, Nat.reduceAdd, Nat.reduceSub, Nat.reduceMul, Nat.reduceLT, Nat.reduceEqDiff, Int.reduceEq, Int.reduceLE, Int.reduceLT, Int.reducePow, Int.reduceMul, Int.reduceToNat, Int.reduceNeg, ↓reduceIte, hD, hG', wrap64, jrparseLo, e1, e2, e3, e4, d4, d5, byteGet, wrap_byte, getS_nat, List.take_length, unbox, tmv, Option.some.injEq, exists_eq_left']
      refine RegT.mk [(3, true)] ?_
      simp (disch := omega) only [go_sem, Nat.reduceLeDiff, reduceCtorEq, Nat.reduceAdd, Nat.reduceSub, Nat.reduceMul, Nat.reduceLT, Nat.reduceEqDiff, Int.reduceEq, Int.reduceLE, Int.reduceLT, Int.reducePow, Int.reduceMul, Int.reduceToNat, Int.reduceNeg, ↓reduceIte, hD, hG', wrap64, jrparseLo, e1, e2, e3, e4, d4, d5, byteGet, wrap_byte, getS_nat, List.take_length, unbox, tmv, Option.some.injEq, exists_eq_left']
      by_cases hq : 4 ≤ R.length
      · have q1 : decide ((R.length : Int) ≥ 4) = true := decide_eq_true (by omega)
        have g2 := g2 R (by omega) (by omega)
        refine RegT.mk [] ?_
        simp (disch := omega) only [go_sem, Nat.reduceLeDiff, reduceCtorEq, Nat.reduceAdd, Nat.reduceSub, Nat.reduceMul, Nat.reduceLT, Nat.reduceEqDiff, Int.reduceEq, Int.reduceLE, Int.reduceLT, Int.reducePow, Int.reduceMul, Int.reduceToNat, Int.reduceNeg, ↓reduceIte, hD, hG', wrap64, jrparseLo, e1, e2, e3, e4, q1, g2, d4, d5, byteGet, wrap_byte, getS_nat, List.take_length, unbox, tmv, Option.some.injEq, exists_eq_left']
        (repeat (with_reducible refine And.intro (by first | omega | decide | (simp; done) | (simp only [List.length_append, List.length_cons, List.length_nil, List.length_map]; omega)) ?_))
        have hdl : (R.drop 4).length = R.length - 4 := List.length_drop
        have g1 := g1 (R.drop 4) (by omega)
        have hpl := parseS_len (R.drop 4)
        have hK : entryK c0 q R = if (parseS (R.drop 4)).2.2 = 0 ∧ (parseS (R.drop 4)).2.1 = R.length - 4 then (⟨3, ⟨⟨q⟩⟩, 0, numN R, (parseS (R.drop 4)).1⟩, 0) else (entryZ, 2) := by
          rw [entryK, if_neg (by omega), if_neg (by omega), if_neg (by omega), if_neg (by omega), if_pos (by omega)]
        rw [hK] at hr2
        generalize parseS (R.drop 4) = P at *
        obtain ⟨⟨pp, pb⟩, pk, pe⟩ := P
        simp only [noteA] at g1 hr2 hpl
        simp (disch := omega) only [go_sem, Nat.reduceLeDiff, reduceCtorEq, Nat.reduceAdd, Nat.reduceSub, Nat.reduceMul, Nat.reduceLT, Nat.reduceEqDiff, Int.reduceEq, Int.reduceLE, Int.reduceLT, Int.reducePow, Int.reduceMul, Int.reduceToNat, Int.reduceNeg, ↓reduceIte, hD, hG', wrap64, jrparseLo, g1, List.take_length, unbox, tmv, Option.some.injEq, exists_eq_left']
        (repeat (with_reducible refine And.intro (by first | omega | decide | (simp; done) | (simp only [List.length_append, List.length_cons, List.length_nil, List.length_map]; omega)) ?_))
        by_cases h8 : pe = 0
        · have d8 : (pe != 0) = false := by simp [h8]
          by_cases h9 : pk = R.length - 4
          · have d9 : decide ((pk : Int) < (R.length : Int) - 4) = false := decide_eq_false (by omega)
            refine RegT.mk [] ?_
            simp (disch := omega) only [go_sem, Nat.reduceLeDiff, reduceCtorEq, Nat.reduceAdd, Nat.reduceSub, Nat.reduceMul, Nat.reduceLT, Nat.reduceEqDiff, Int.reduceEq, Int.reduceLE, Int.reduceLT, Int.reducePow, Int.reduceMul, Int.reduceToNat, Int.reduceNeg, ↓reduceIte, hD, hG', wrap64, jrparseLo, d8, d9, unbox, tmv, Option.some.injEq, exists_eq_left']
            refine endW [] [] (by simp) rfl rfl rfl ?_ ?_ <;> simp only [go_sem, Nat.reduceEqDiff]
            rw [hr2, if_pos ⟨h8, h9⟩]
            simp [entryA, entryRow, h1, cov, covs, subs, names, namess]
          · have d9 : decide ((pk : Int) < (R.length : Int) - 4) = true := decide_eq_true (by omega)
            refine RegT.mk [] ?_
            simp (disch := omega) only [go_sem, Nat.reduceLeDiff, reduceCtorEq, Nat.reduceAdd, Nat.reduceSub, Nat.reduceMul, Nat.reduceLT, Nat.reduceEqDiff, Int.reduceEq, Int.reduceLE, Int.reduceLT, Int.reducePow, Int.reduceMul, Int.reduceToNat, Int.reduceNeg, ↓reduceIte, hD, hG', wrap64, jrparseLo, d8, d9, unbox, tmv, Option.some.injEq, exists_eq_left']
            refine endW [] [] (by simp) rfl rfl rfl ?_ ?_ <;> simp only [go_sem, Nat.reduceEqDiff]
            rw [hr2, if_neg (fun h => h9 h.2)]
            simp [entryA, entryRow, entryZ, note0, cov, covs, subs, names, namess]
        · have d8 : (pe != 0) = true := by simp [h8]
          refine RegT.mk [(2, false)] ?_
          simp (disch := omega) only [go_sem, Nat.reduceLeDiff, reduceCtorEq, Nat.reduceAdd, Nat.reduceSub, Nat.reduceMul, Nat.reduceLT, Nat.reduceEqDiff, Int.reduceEq, Int.reduceLE, Int.reduceLT, Int.reducePow, Int.reduceMul, Int.reduceToNat, Int.reduceNeg, ↓reduceIte, hD, hG', wrap64, jrparseLo, d8, unbox, tmv, Option.some.injEq, exists_eq_left']
          refine endW [] [] (by simp) rfl rfl rfl ?_ ?_ <;> simp only [go_sem, Nat.reduceEqDiff]
          rw [hr2, if_neg (fun h => h8 h.1)]
          simp [entryA, entryRow, entryZ, note0, cov, covs, subs, names, namess]
      · have q1 : decide ((R.length : Int) ≥ 4) = false := decide_eq_false (by omega)
        refine RegT.mk [] ?_
        simp (disch := omega) only [go_sem, Nat.reduceLeDiff, reduceCtorEq, Nat.reduceAdd, Nat.reduceSub, Nat.reduceMul, Nat.reduceLT, Nat.reduceEqDiff, Int.reduceEq, Int.reduceLE, Int.reduceLT, Int.reducePow, Int.reduceMul, Int.reduceToNat, Int.reduceNeg, ↓reduceIte, hD, hG', wrap64, jrparseLo, e1, e2, e3, e4, q1, d4, d5, byteGet, wrap_byte, getS_nat, List.take_length, unbox, tmv, Option.some.injEq, exists_eq_left']
        refine RegT.mk [] ?_
        simp (disch := omega) only [go_sem, Nat.reduceLeDiff, reduceCtorEq, Nat.reduceAdd, Nat.reduceSub, Nat.reduceMul, Nat.reduceLT, Nat.reduceEqDiff, Int.reduceEq, Int.reduceLE, Int.reduceLT, Int.reducePow, Int.reduceMul, Int.reduceToNat, Int.reduceNeg, ↓reduceIte, hD, hG', wrap64, jrparseLo, e1, e2, e3, e4, q1, d4, d5, byteGet, wrap_byte, getS_nat, List.take_length, unbox, tmv, Option.some.injEq, exists_eq_left']
        refine endW [] [] (by simp) rfl rfl rfl ?_ ?_ <;> simp only [go_sem, Nat.reduceEqDiff]
        have hK : entryK c0 q R = (entryZ, 2) := by
          rw [entryK, if_neg (by omega), if_neg (by omega), if_neg (by omega), if_neg (by omega), if_neg (by omega)]
        rw [hr2, hK]
        simp [entryA, entryRow, entryZ, note0, cov, covs, subs, names, namess]
    have e1 : ((c0 : Int) == 1) = false := by simp; omega
    have e2 : ((c0 : Int) == 2) = false := by simp; omega
    have e3 : ((c0 : Int) == 3) = false := by simp; omega
    have e4 : ((c0 : Int) == 4) = false := by simp; omega
    have hK : entryK c0 q R = (entryZ, 1) := by rw [entryK, if_pos (by omega)]
    refine RegT.mk [(3, true)] ?_
    simp (disch := omega) only [go_sem, Nat.reduceLeDiff, reduceCtorEq, Nat.reduceAdd, Nat.reduceSub, Nat.reduceMul, Nat.reduceLT, Nat.reduceEqDiff, Int.reduceEq, Int.reduceLE, Int.reduceLT, Int.reducePow, Int.reduceMul, Int.reduceToNat, Int.reduceNeg, ↓reduceIte, hD, hG', wrap64, jrparseLo, e1, e2, e3, e4, unbox, tmv, Option.some.injEq, exists_eq_left']
    refine RegT.mk [(3, true)] ?_
    simp (disch := omega) only [go_sem, Nat.reduceLeDiff, reduceCtorEq, Nat.reduceAdd, Nat.reduceSub, Nat.reduceMul, Nat.reduceLT, Nat.reduceEqDiff, Int.reduceEq, Int.reduceLE, Int.reduceLT, Int.reducePow, Int.reduceMul, Int.reduceToNat, Int.reduceNeg, ↓reduceIte, hD, hG', wrap64, jrparseLo, e1, e2, e3, e4, unbox, tmv, Option.some.injEq, exists_eq_left']
    refine RegT.mk [(3, true)] ?_
    simp (disch := omega) only [go_sem, Nat.reduceLeDiff, reduceCtorEq, Nat.reduceAdd, Nat.reduceSub, Nat.reduceMul, Nat.reduceLT, Nat.reduceEqDiff, Int.reduceEq, Int.reduceLE, Int.reduceLT, Int.reducePow, Int.reduceMul, Int.reduceToNat, Int.reduceNeg, ↓reduceIte, hD, hG', wrap64, jrparseLo, e1, e2, e3, e4, unbox, tmv, Option.some.injEq, exists_eq_left']
    refine RegT.mk [(3, true)] ?_
    simp (disch := omega) only [go_sem, Nat.reduceLeDiff, reduceCtorEq, Nat.reduceAdd, Nat.reduceSub, Nat.reduceMul, Nat.reduceLT, Nat.reduceEqDiff, Int.reduceEq, Int.reduceLE, Int.reduceLT, Int.reducePow, Int.reduceMul, Int.reduceToNat, Int.reduceNeg, ↓reduceIte, hD, hG', wrap64, jrparseLo, e1, e2, e3, e4, unbox, tmv, Option.some.injEq, exists_eq_left']
    by_cases h5 : c0 < 1
    · have d4 : decide ((c0 : Int) < 1) = true := decide_eq_true (by omega)
      refine RegT.mk [(3, false)] ?_
      simp (disch := omega) only [go_sem, Nat.reduceLeDiff, reduceCtorEq, Nat.reduceAdd, Nat.reduceSub, Nat.reduceMul, Nat.reduceLT, Nat.reduceEqDiff, Int.reduceEq, Int.reduceLE, Int.reduceLT, Int.reducePow, Int.reduceMul, Int.reduceToNat, Int.reduceNeg, ↓reduceIte, hD, hG', wrap64, jrparseLo, d4, unbox, tmv, Option.some.injEq, exists_eq_left']
      refine endW [] [] (by simp) rfl rfl rfl ?_ ?_ <;> simp only [go_sem, Nat.reduceEqDiff]
      rw [hr2, hK]
      simp [entryA, entryRow, entryZ, note0, cov, covs, subs, names, namess]
    · have d4 : decide ((c0 : Int) < 1) = false := decide_eq_false (by omega)
      have d5 : decide ((c0 : Int) > 4) = true := decide_eq_true (by omega)
      refine RegT.mk [] ?_
      simp (disch := omega) only [go_sem, Nat.reduceLeDiff, reduceCtorEq, Nat.reduceAdd, Nat.reduceSub, Nat.reduceMul, Nat.reduceLT, Nat.reduceEqDiff, Int.reduceEq, Int.reduceLE, Int.reduceLT, Int.reducePow, Int.reduceMul, Int.reduceToNat, Int.reduceNeg, ↓reduceIte, hD, hG', wrap64, jrparseLo, d4, d5, unbox, tmv, Option.some.injEq, exists_eq_left']
      refine endW [] [] (by simp) rfl rfl rfl ?_ ?_ <;> simp only [go_sem, Nat.reduceEqDiff]
      rw [hr2, hK]
      simp [entryA, entryRow, entryZ, note0, cov, covs, subs, names, namess]
  exact hcon _ rfl
end Go.Proofs.Ythbejciebmkclaa.Ab
namespace Go.Proofs.Ythbejciebmkclaa.Ab
open Go Go.RowKit
set_option linter.unusedVariables false
set_option linter.unusedSimpArgs false

/-! in plain Lean -/
def EOk (e : LEntry) : Prop := (1 ≤ e.kind ∧ e.kind ≤ 4) ∧ e.queue.size ≤ 1048576 ∧ e.note.Fits ∧ (bytesN e.note).length ≤ 4194304
def hallLe (k : Nat) (h : LHall) : Prop := h.queues.length ≤ k ∧ ∀ q ∈ h.queues, (q.items.length ≤ k ∧ ∀ i ∈ q.items, i.note.Fits) ∧ q.name.size ≤ 1048576
theorem hallLe.fits {k : Nat} {h : LHall} (hk : k ≤ 1048576) (hh : hallLe k h) : h.Fits :=
  ⟨by have := hh.1; omega, fun q hq => ⟨⟨by have := (hh.2 q hq).1.1; omega, (hh.2 q hq).1.2⟩, (hh.2 q hq).2⟩⟩
theorem hallLe.apply {k : Nat} {h : LHall} (hh : hallLe k h) {e : LEntry} (hq : e.queue.size ≤ 1048576) (hn : e.note.Fits) : hallLe (k + 1) (applyS h e) := by
  obtain ⟨h1, h2⟩ := hh
  have h0 : ∀ q ∈ h.queues, (q.items.length ≤ k + 1 ∧ ∀ i ∈ q.items, i.note.Fits) ∧ q.name.size ≤ 1048576 := fun q hq => ⟨⟨by have := (h2 q hq).1.1; omega, (h2 q hq).1.2⟩, (h2 q hq).2⟩
  unfold applyS applyK
  generalize findS h.queues (nmL e.queue) = j
  split
  · refine ⟨by simp; omega, fun q hq => ?_⟩
    rcases List.mem_append.1 hq with h3 | h3
    · exact h0 q h3
    · rw [List.mem_singleton.1 h3]
      exact ⟨⟨by simp, by simp⟩, by assumption⟩
  split
  · refine ⟨Nat.le_trans (List.length_eraseIdx_le _ _) (by omega), fun q hq => h0 q (List.mem_of_mem_eraseIdx hq)⟩
  split
  · refine ⟨by simp; omega, fun q hq => ?_⟩
    rcases List.mem_or_eq_of_mem_set hq with h3 | h3
    · exact h0 q h3
    · rw [h3]
      unfold gotQ qAt
      by_cases hj : j.toNat < h.queues.length
      · have hm : h.queues.getD j.toNat queue0 ∈ h.queues := by simp [hj]
        have h4 := h2 _ hm
        refine ⟨⟨by simp only [List.length_append, List.length_cons, List.length_nil]; omega, fun i hi => ?_⟩, h4.2⟩
        rcases List.mem_append.1 hi with h5 | h5
        · exact h4.1.2 i h5
        · rw [List.mem_singleton.1 h5]; exact hn
      · rw [List.set_eq_of_length_le (by omega)] at hq
        rw [← gotQ, ← qAt, ← h3]
        exact h0 q hq
  split
  · refine ⟨by simp; omega, fun q hq => ?_⟩
    rcases List.mem_or_eq_of_mem_set hq with h3 | h3
    · exact h0 q h3
    · rw [h3]
      unfold goneQ qAt
      by_cases hj : j.toNat < h.queues.length
      · have hm : h.queues.getD j.toNat queue0 ∈ h.queues := by simp [hj]
        have h4 := h0 _ hm
        exact ⟨⟨Nat.le_trans (List.length_filter_le _ _) h4.1.1, fun i hi => h4.1.2 i (List.mem_filter.1 hi).1⟩, h4.2⟩
      · rw [List.set_eq_of_length_le (by omega)] at hq
        rw [← goneQ, ← qAt, ← h3]
        exact h0 q hq
  · exact ⟨by omega, h0⟩
theorem entryP_fits (l : List UInt8) (hl : l.length ≤ 1048576) : (entryP l).1.queue.size ≤ 1048576 ∧ (entryP l).1.note.Fits ∧ (-1000000000000 ≤ (entryP l).1.id ∧ (entryP l).1.id ≤ 1000000000000) := by
  have h0 : entryZ.queue.size ≤ 1048576 ∧ entryZ.note.Fits ∧ (-1000000000000 ≤ entryZ.id ∧ entryZ.id ≤ 1000000000000) := ⟨by decide, ⟨by simp [entryZ, note0], by decide, by decide⟩, by decide, by decide⟩
  have hn0 : note0.Fits := h0.2.1
  unfold entryP
  split
  · exact h0
  · generalize hq : (l.take (2 + (l.getD 1 0).toNat)).drop 2 = q
    have hql : (⟨⟨q⟩⟩ : ByteArray).size ≤ 1048576 := by
      show q.length ≤ 1048576
      rw [← hq, List.length_drop, List.length_take]
      omega
    generalize l.drop (2 + (l.getD 1 0).toNat) = R
    have hR := numN_lt R
    unfold entryK
    split
    · exact h0
    split
    · exact ⟨hql, hn0, by simp only; omega, by simp only; omega⟩
    split
    · exact ⟨hql, hn0, by simp only; omega, by simp only; omega⟩
    split
    · exact ⟨hql, hn0, by simp only; omega, by simp only; omega⟩
    split
    · split
      · exact ⟨hql, fits_parse _, by simp only; omega, by simp only; omega⟩
      · exact h0
    · exact h0
theorem recs_mem : ∀ (n : Nat) (b : List UInt8), b.length ≤ n → ∀ r ∈ (recsS b).1, r.length ≤ b.length
  | 0, b, h, r, hr => by
    have h0 : b = [] := List.eq_nil_of_length_eq_zero (by omega)
    subst h0
    simp [recsS, recsF] at hr
  | n + 1, b, h, r, hr => by
    cases hk : okS b with
    | false => rw [recsS_no hk] at hr; simp at hr
    | true =>
      have h4 := okS_len hk
      rw [recsS_yes hk] at hr
      rcases List.mem_cons.1 hr with h5 | h5
      · rw [h5, List.length_drop, List.length_take]; omega
      · have := recs_mem n (b.drop (headS b + 4)) (by rw [List.length_drop]; omega) r h5
        rw [List.length_drop] at this
        omega
def stepR (h : LHall) (r : List UInt8) : LHall := if (entryP r).2 = 0 then applyS h (entryP r).1 else h
def replayS (l : List UInt8) : LHall := (recsS l).1.foldl stepR hall0
theorem stepR_le {k : Nat} {h : LHall} (hh : hallLe k h) {r : List UInt8} (hr : r.length ≤ 1048576) : hallLe (k + 1) (stepR h r) := by
  have h1 := entryP_fits r hr
  unfold stepR
  split
  · exact hh.apply h1.1 h1.2.1
  · exact ⟨by have := hh.1; omega, fun q hq => ⟨⟨by have := (hh.2 q hq).1.1; omega, (hh.2 q hq).1.2⟩, (hh.2 q hq).2⟩⟩
theorem replay_le : ∀ (n : Nat) (rs : List (List UInt8)), (∀ r ∈ rs, r.length ≤ 1048576) → n ≤ rs.length → hallLe n ((rs.take n).foldl stepR hall0)
  | 0, rs, h, hn => ⟨by simp [hall0], by simp [hall0]⟩
  | n + 1, rs, h, hn => by
    have hn1 : n < rs.length := by omega
    rw [List.take_succ_eq_append_getElem hn1, List.foldl_append]
    exact stepR_le (replay_le n rs h (by omega)) (h _ (List.getElem_mem hn1))

/-! the tables -/
def eJparse : Ent Try.prog D := ⟨12, List UInt8, fun l => [.sl 1 (l.map byteRow)], fun l => l.length ≤ 4194304, fun l => ⟨.tup [entryA (entryP l).1, .int .i64 (entryP l).2], []⟩, fun x y _ _ h => by rw [one_inj h], con_jparse⟩
def eJrparse : Ent Try.prog D := ⟨13, List UInt8, fun l => [.sl 1 (l.map byteRow)], fun l => l.length ≤ 4194304, fun l => ⟨.tup [entryA (entryP l).1, .int .i64 (entryP l).2], []⟩, fun x y _ _ h => by rw [one_inj h], con_jrefparse⟩
def eApply : Ent Try.prog D := ⟨21, LHall × LEntry, fun x => [hallA x.1, entryA x.2], fun x => x.1.Fits ∧ x.2.note.Fits ∧ (-1000000000000 ≤ x.2.id ∧ x.2.id ≤ 1000000000000), fun x => ⟨hallA (applyS x.1 x.2), []⟩, fun x y _ _ h => by
  obtain ⟨a, b⟩ := x; obtain ⟨a', b'⟩ := y
  simp only [List.cons.injEq, and_true] at h
  rw [hallA_inj h.1, entryA_inj h.2], fun x h => con_apply _ _ h.1 h.2.1 h.2.2⟩
def eRapply : Ent Try.prog D := ⟨22, LHall × LEntry, fun x => [hallA x.1, entryA x.2], fun x => x.1.Fits ∧ x.2.note.Fits ∧ (-1000000000000 ≤ x.2.id ∧ x.2.id ≤ 1000000000000), fun x => ⟨hallA (applyS x.1 x.2), []⟩, fun x y _ _ h => by
  obtain ⟨a, b⟩ := x; obtain ⟨a', b'⟩ := y
  simp only [List.cons.injEq, and_true] at h
  rw [hallA_inj h.1, entryA_inj h.2], fun x h => con_refapply _ _ h.1 h.2.1 h.2.2⟩
def eJbytes : Ent Try.prog D := ⟨19, LEntry, fun x => [entryA x], EOk, fun x => ⟨.sl 1 ((entryB x).map byteRow), []⟩, fun x y _ _ h => by
  simp only [List.cons.injEq, and_true] at h
  rw [entryA_inj h], fun x h => con_jbytes x h.1 h.2.1 h.2.2.1 h.2.2.2⟩
def eJrbytes : Ent Try.prog D := ⟨20, LEntry, fun x => [entryA x], EOk, fun x => ⟨.sl 1 ((entryB x).map byteRow), []⟩, fun x y _ _ h => by
  simp only [List.cons.injEq, and_true] at h
  rw [entryA_inj h], fun x h => con_jrefbytes x h.1 h.2.1 h.2.2.1 h.2.2.2⟩

set_option maxRecDepth 100000 in
set_option maxHeartbeats 1000000 in
theorem con_replay (l : List UInt8) (hl : l.length ≤ 1048576) : Con Try.prog D 16 [.sl 1 (l.map byteRow)] ⟨hallA (replayS l), []⟩ := by
  have hok : GOk Try.prog D (tabG [eRecords, eJparse, eApply]) := tabG_ok _
  have g1 := tabG_use (T := [eRecords, eJparse, eApply]) (E := eRecords) (i := 0) rfl (by decide) (l) (by show l.length ≤ 8388608; omega)
  have g2 := fun (r : List UInt8) (h : r.length ≤ 4194304) => tabG_use (T := [eRecords, eJparse, eApply]) (E := eJparse) (i := 1) rfl (by decide) (r) (h)
  have g3 := fun (x : LHall) (e : LEntry) (h : x.Fits ∧ e.note.Fits ∧ (-1000000000000 ≤ e.id ∧ e.id ≤ 1000000000000)) => tabG_use (T := [eRecords, eJparse, eApply]) (E := eApply) (i := 2) rfl (by decide) ((x, e)) (h)
  generalize tabG [eRecords, eJparse, eApply] = G at *
  dsimp only [eRecords] at g1
  dsimp only [eJparse] at g2
  dsimp only [eApply] at g3
  have hml := recs_mem l.length l (Nat.le_refl _)
  have hrl := recsS_le l.length l (Nat.le_refl _)
  unfold replayS
  generalize recsS l = P at *
  obtain ⟨rs, at_⟩ := P
  simp only at g1 hml hrl
  have hrs : ∀ r ∈ rs, r.length ≤ 1048576 := fun r hr => by have := hml r hr; omega
  refine conW (G := G) (rs := [(2, some 24)]) hok Try.func16 Try.results16 Try.ntmps16 (fun _ => {}) fun X hP hD hG' hX => ?_
  simp only [argS, num]
  simp (disch := omega) only [go_sem, Nat.reduceLeDiff, reduceCtorEq, Nat.reduceAdd, Nat.reduceSub, Nat.reduceMul, Nat.reduceLT, Nat.reduceEqDiff, Int.reduceEq, Int.reduceLE, Int.reduceLT, Int.reducePow, Int.reduceMul, Int.reduceToNat, Int.reduceNeg, ↓reduceIte, hD, hG', wrap64, g1, unbox, tmv, Option.some.injEq, exists_eq_left']
  refine Tr.loop (ι := Nat) (fun i => i ≤ rs.length) (fun i => { nt := 33, tm := [(2, .ptr 2 0), (3, .ptr 3 0), (15, .sl 1 (rs.map recRow)), (16, .int .i64 rs.length), (17, .int .i64 i)], bl := [(2, some (.cells [.nils, .int .i64 0])), (3, some (.cells [.sl 3 (((rs.take i).foldl stepR hall0).queues.map queueRow), .int .i64 ((rs.take i).foldl stepR hall0).next]))] }) (fun i => rs.length - i) 0
    ⟨Nat.zero_le _, wk_of hD [(2, 2), (3, 3)] rfl rfl (by simp only [go_sem, Nat.reduceEqDiff]; simp) (by simp only [go_sem, Nat.reduceEqDiff, D_1, D_2, D_3, D_4, D_5, D_6, D_7, D_8, D_9, D_10, D_11, D_12, D_13, D_14, D_15, D_16, D_17, D_18, D_19, D_21, D_22, D_23, D_24, D_25, D_26, D_27, D_28, D_29, D_30, D_31, D_32, D_33, D_35, D_36, D_37, D_38, D_39, D_40, D_41, D_42, D_43, D_45, D_46, D_47, D_48, D_49, D_50, D_51, D_52, D_53, D_55, D_56, D_57, D_58, D_60, D_61, D_62, D_63, D_64, D_65, D_67, D_68, D_69, D_70, D_71, D_72, D_73, D_74, D_75, D_76, D_77, D_78, D_79, D_80, D_81, D_82, D_83, D_84, D_85, D_86, D_87, D_88, D_89, D_91, D_93, D_94, D_95, D_97, D_98, D_99, D_101, D_103, D_104, D_105, D_106, D_108, D_109, D_110, D_111, D_113, D_114, D_115, D_116, D_117, D_118, D_119, D_120, D_121, D_122, D_124, D_125, D_127, D_128, D_130, D_132, D_133, D_134, D_135, D_136, D_138, D_139, D_141, D_143, D_144, D_145, D_147, D_148, D_149, D_150, D_151, D_153, D_154, D_155, D_156, D_157, D_158, D_159, D_160, D_161, D_162, D_163, D_164, D_165, D_166, D_167, D_168, D_169, D_170, D_171, D_172, D_173, D_174, D_178, D_179, D_180, D_181, D_182, D_183, D_184, D_185, D_186]; simp [hall0, cov, covs])⟩ ?_
  intro i hi
  have hle := replay_le i rs hrs hi
  refine evC_sound hX (fun _ => {}) _ _ _ ?_
  simp (disch := omega) only [go_sem, Nat.reduceLeDiff, reduceCtorEq, Nat.reduceAdd, Nat.reduceSub, Nat.reduceMul, Nat.reduceLT, Nat.reduceEqDiff, Int.reduceEq, Int.reduceLE, Int.reduceLT, Int.reducePow, Int.reduceMul, Int.reduceToNat, Int.reduceNeg, ↓reduceIte, hD, hG', wrap64, unbox, tmv, Option.some.injEq, exists_eq_left']
  refine condK_split (fun h => ?_) (fun h => ?_)
  · rw [decide_eq_true_eq] at h
    have hi1 : i < rs.length := by omega
    have hst : (rs.take (i + 1)).foldl stepR hall0 = stepR ((rs.take i).foldl stepR hall0) (rs.getD i []) := by
      rw [List.take_succ_eq_append_getElem hi1, List.foldl_append]
      simp [hi1]
    have hx : (rs.getD i []).length ≤ 1048576 := by
      have : rs.getD i [] = rs[i] := by simp [hi1]
      rw [this]
      exact hrs _ (List.getElem_mem hi1)
    have hgr : (rs.map recRow).getD i [] = [.sl 1 ((rs.getD i []).map byteRow)] := by simp [hi1, recRow]
    have hpf := entryP_fits _ hx
    have g2 := g2 (rs.getD i []) (by omega)
    rw [stepR] at hst
    generalize (rs.take i).foldl stepR hall0 = x at *
    generalize entryP (rs.getD i []) = E at *
    obtain ⟨e, w⟩ := E
    have g3 := g3 x e ⟨hle.fits (by omega), hpf.2⟩
    obtain ⟨xq, xn⟩ := x
    generalize applyS ⟨xq, xn⟩ e = y at *
    obtain ⟨yq, yn⟩ := y
    obtain ⟨e1, e2, e3, e4, ⟨e5, e6⟩⟩ := e
    simp only [hallA, entryA, entryRow] at g2 g3
    simp only at hst
    by_cases hw : w = 0
    · have w0 : (w == 0) = true := by simp [hw]
      rw [if_pos hw] at hst
      simp (disch := omega) only [go_sem, Nat.reduceLeDiff, reduceCtorEq, Nat.reduceAdd, Nat.reduceSub, Nat.reduceMul, Nat.reduceLT, Nat.reduceEqDiff, Int.reduceEq, Int.reduceLE, Int.reduceLT, Int.reducePow, Int.reduceMul, Int.reduceToNat, Int.reduceNeg, ↓reduceIte, hD, hG', wrap64, hgr, g2, g3, w0, unbox, tmv, Option.some.injEq, exists_eq_left']
      ((try and_intros); all_goals (try first | omega | decide | (simp; done) | (simp only [List.length_append, List.length_cons, List.length_nil, List.length_map]; omega)))
      refine ⟨i + 1, ⟨by omega, by omega⟩, wk_of hD [(2, 2), (3, 3)] rfl rfl ?_ ?_⟩ <;> simp only [go_sem, Nat.reduceEqDiff]
      · simp
      · simp [hst]
    · have w0 : (w == 0) = false := by simp [hw]
      rw [if_neg hw] at hst
      simp (disch := omega) only [go_sem, Nat.reduceLeDiff, reduceCtorEq, Nat.reduceAdd, Nat.reduceSub, Nat.reduceMul, Nat.reduceLT, Nat.reduceEqDiff, Int.reduceEq, Int.reduceLE, Int.reduceLT, Int.reducePow, Int.reduceMul, Int.reduceToNat, Int.reduceNeg, ↓reduceIte, hD, hG', wrap64, hgr, g2, g3, w0, unbox, tmv, Option.some.injEq, exists_eq_left']
      ((try and_intros); all_goals (try first | omega | decide | (simp; done) | (simp only [List.length_append, List.length_cons, List.length_nil, List.length_map]; omega)))
      refine ⟨i + 1, ⟨by omega, by omega⟩, wk_of hD [(2, 2), (3, 3)] rfl rfl ?_ ?_⟩ <;> simp only [go_sem, Nat.reduceEqDiff]
      · simp
      · simp [hst]
  · rw [decide_eq_false_iff_not] at h
    have hie : i = rs.length := by omega
    subst hie
    rw [List.take_length] at *
    simp (disch := omega) only [go_sem, Nat.reduceLeDiff, reduceCtorEq, Nat.reduceAdd, Nat.reduceSub, Nat.reduceMul, Nat.reduceLT, Nat.reduceEqDiff, Int.reduceEq, Int.reduceLE, Int.reduceLT, Int.reducePow, Int.reduceMul, Int.reduceToNat, Int.reduceNeg, ↓reduceIte, hD, hG', wrap64, unbox, tmv, Option.some.injEq, exists_eq_left']
    refine endW [] [] (by simp) rfl rfl rfl ?_ ?_ <;> simp only [go_sem, Nat.reduceEqDiff]
    simp [hallA, cov, covs, subs, names, namess]
set_option maxRecDepth 100000 in
set_option maxHeartbeats 1000000 in
theorem con_refreplay (l : List UInt8) (hl : l.length ≤ 1048576) : Con Try.prog D 17 [.sl 1 (l.map byteRow)] ⟨hallA (replayS l), []⟩ := by
  have hok : GOk Try.prog D (tabG [eRefRecords, eJrparse, eRapply]) := tabG_ok _
  have g1 := tabG_use (T := [eRefRecords, eJrparse, eRapply]) (E := eRefRecords) (i := 0) rfl (by decide) (l) (by show l.length ≤ 8388608; omega)
  have g2 := fun (r : List UInt8) (h : r.length ≤ 4194304) => tabG_use (T := [eRefRecords, eJrparse, eRapply]) (E := eJrparse) (i := 1) rfl (by decide) (r) (h)
  have g3 := fun (x : LHall) (e : LEntry) (h : x.Fits ∧ e.note.Fits ∧ (-1000000000000 ≤ e.id ∧ e.id ≤ 1000000000000)) => tabG_use (T := [eRefRecords, eJrparse, eRapply]) (E := eRapply) (i := 2) rfl (by decide) ((x, e)) (h)
  generalize tabG [eRefRecords, eJrparse, eRapply] = G at *
  dsimp only [eRefRecords] at g1
  dsimp only [eJrparse] at g2
  dsimp only [eRapply] at g3
  have hml := recs_mem l.length l (Nat.le_refl _)
  have hrl := recsS_le l.length l (Nat.le_refl _)
  unfold replayS
  generalize recsS l = P at *
  obtain ⟨rs, at_⟩ := P
  simp only at g1 hml hrl
  have hrs : ∀ r ∈ rs, r.length ≤ 1048576 := fun r hr => by have := hml r hr; omega
  refine conW (G := G) (rs := [(2, some 24)]) hok Try.func17 Try.results17 Try.ntmps17 (fun _ => {}) fun X hP hD hG' hX => ?_
  simp only [argS, num]
  simp (disch := omega) only [go_sem, Nat.reduceLeDiff, reduceCtorEq, Nat.reduceAdd, Nat.reduceSub, Nat.reduceMul, Nat.reduceLT, Nat.reduceEqDiff, Int.reduceEq, Int.reduceLE, Int.reduceLT, Int.reducePow, Int.reduceMul, Int.reduceToNat, Int.reduceNeg, ↓reduceIte, hD, hG', wrap64, g1, unbox, tmv, Option.some.injEq, exists_eq_left']
  refine Tr.loop (ι := Nat) (fun i => i ≤ rs.length) (fun i => { nt := 34, tm := [(2, .ptr 2 0), (3, .ptr 3 0), (16, .sl 1 (rs.map recRow)), (17, .int .i64 rs.length), (18, .int .i64 i)], bl := [(2, some (.cells [.nils, .int .i64 0])), (3, some (.cells [.sl 3 (((rs.take i).foldl stepR hall0).queues.map queueRow), .int .i64 ((rs.take i).foldl stepR hall0).next]))] }) (fun i => rs.length - i) 0
    ⟨Nat.zero_le _, wk_of hD [(2, 2), (3, 3)] rfl rfl (by simp only [go_sem, Nat.reduceEqDiff]; simp) (by simp only [go_sem, Nat.reduceEqDiff, D_1, D_2, D_3, D_4, D_5, D_6, D_7, D_8, D_9, D_10, D_11, D_12, D_13, D_14, D_15, D_16, D_17, D_18, D_19, D_21, D_22, D_23, D_24, D_25, D_26, D_27, D_28, D_29, D_30, D_31, D_32, D_33, D_35, D_36, D_37, D_38, D_39, D_40, D_41, D_42, D_43, D_45, D_46, D_47, D_48, D_49, D_50, D_51, D_52, D_53, D_55, D_56, D_57, D_58, D_60, D_61, D_62, D_63, D_64, D_65, D_67, D_68, D_69, D_70, D_71, D_72, D_73, D_74, D_75, D_76, D_77, D_78, D_79, D_80, D_81, D_82, D_83, D_84, D_85, D_86, D_87, D_88, D_89, D_91, D_93, D_94, D_95, D_97, D_98, D_99, D_101, D_103, D_104, D_105, D_106, D_108, D_109, D_110, D_111, D_113, D_114, D_115, D_116, D_117, D_118, D_119, D_120, D_121, D_122, D_124, D_125, D_127, D_128, D_130, D_132, D_133, D_134, D_135, D_136, D_138, D_139, D_141, D_143, D_144, D_145, D_147, D_148, D_149, D_150, D_151, D_153, D_154, D_155, D_156, D_157, D_158, D_159, D_160, D_161, D_162, D_163, D_164, D_165, D_166, D_167, D_168, D_169, D_170, D_171, D_172, D_173, D_174, D_178, D_179, D_180, D_181, D_182, D_183, D_184, D_185, D_186]; simp [hall0, cov, covs])⟩ ?_
  intro i hi
  have hle := replay_le i rs hrs hi
  refine evC_sound hX (fun _ => {}) _ _ _ ?_
  simp (disch := omega) only [go_sem, Nat.reduceLeDiff, reduceCtorEq, Nat.reduceAdd, Nat.reduceSub, Nat.reduceMul, Nat.reduceLT, Nat.reduceEqDiff, Int.reduceEq, Int.reduceLE, Int.reduceLT, Int.reducePow, Int.reduceMul, Int.reduceToNat, Int.reduceNeg, ↓reduceIte, hD, hG', wrap64, unbox, tmv, Option.some.injEq, exists_eq_left']
  refine condK_split (fun h => ?_) (fun h => ?_)
  · rw [decide_eq_true_eq] at h
    have hi1 : i < rs.length := by omega
    have hst : (rs.take (i + 1)).foldl stepR hall0 = stepR ((rs.take i).foldl stepR hall0) (rs.getD i []) := by
      rw [List.take_succ_eq_append_getElem hi1, List.foldl_append]
      simp [hi1]
    have hx : (rs.getD i []).length ≤ 1048576 := by
      have : rs.getD i [] = rs[i] := by simp [hi1]
      rw [this]
      exact hrs _ (List.getElem_mem hi1)
    have hgr : (rs.map recRow).getD i [] = [.sl 1 ((rs.getD i []).map byteRow)] := by simp [hi1, recRow]
    have hpf := entryP_fits _ hx
    have g2 := g2 (rs.getD i []) (by omega)
    rw [stepR] at hst
    generalize (rs.take i).foldl stepR hall0 = x at *
    generalize entryP (rs.getD i []) = E at *
    obtain ⟨e, w⟩ := E
    have g3 := g3 x e ⟨hle.fits (by omega), hpf.2⟩
    obtain ⟨xq, xn⟩ := x
    generalize applyS ⟨xq, xn⟩ e = y at *
    obtain ⟨yq, yn⟩ := y
    obtain ⟨e1, e2, e3, e4, ⟨e5, e6⟩⟩ := e
    simp only [hallA, entryA, entryRow] at g2 g3
    simp only at hst
    by_cases hw : w = 0
    · have w0 : (w == 0) = true := by simp [hw]
      rw [if_pos hw] at hst
      simp (disch := omega) only [go_sem, Nat.reduceLeDiff, reduceCtorEq, Nat.reduceAdd, Nat.reduceSub, Nat.reduceMul, Nat.reduceLT, Nat.reduceEqDiff, Int.reduceEq, Int.reduceLE, Int.reduceLT, Int.reducePow, Int.reduceMul, Int.reduceToNat, Int.reduceNeg, ↓reduceIte, hD, hG', wrap64, hgr, g2, g3, w0, unbox, tmv, Option.some.injEq, exists_eq_left']
      ((try and_intros); all_goals (try first | omega | decide | (simp; done) | (simp only [List.length_append, List.length_cons, List.length_nil, List.length_map]; omega)))
      refine ⟨i + 1, ⟨by omega, by omega⟩, wk_of hD [(2, 2), (3, 3)] rfl rfl ?_ ?_⟩ <;> simp only [go_sem, Nat.reduceEqDiff]
      · simp
      · simp [hst]
    · have w0 : (w == 0) = false := by simp [hw]
      rw [if_neg hw] at hst
      simp (disch := omega) only [go_sem, Nat.reduceLeDiff, reduceCtorEq, Nat.reduceAdd, Nat.reduceSub, Nat.reduceMul, Nat.reduceLT, Nat.reduceEqDiff, Int.reduceEq, Int.reduceLE, Int.reduceLT, Int.reducePow, Int.reduceMul, Int.reduceToNat, Int.reduceNeg, ↓reduceIte, hD, hG', wrap64, hgr, g2, g3, w0, unbox, tmv, Option.some.injEq, exists_eq_left']
      ((try and_intros); all_goals (try first | omega | decide | (simp; done) | (simp only [List.length_append, List.length_cons, List.length_nil, List.length_map]; omega)))
      refine ⟨i + 1, ⟨by omega, by omega⟩, wk_of hD [(2, 2), (3, 3)] rfl rfl ?_ ?_⟩ <;> simp only [go_sem, Nat.reduceEqDiff]
      · simp
      · simp [hst]
  · rw [decide_eq_false_iff_not] at h
    have hie : i = rs.length := by omega
    subst hie
    rw [List.take_length] at *
    simp (disch := omega) only [go_sem, Nat.reduceLeDiff, reduceCtorEq, Nat.reduceAdd, Nat.reduceSub, Nat.reduceMul, Nat.reduceLT, Nat.reduceEqDiff, Int.reduceEq, Int.reduceLE, Int.reduceLT, Int.reducePow, Int.reduceMul, Int.reduceToNat, Int.reduceNeg, ↓reduceIte, hD, hG', wrap64, unbox, tmv, Option.some.injEq, exists_eq_left']
    refine endW [] [] (by simp) rfl rfl rfl ?_ ?_ <;> simp only [go_sem, Nat.reduceEqDiff]
    simp [hallA, cov, covs, subs, names, namess]
end Go.Proofs.Ythbejciebmkclaa.Ab
namespace Go.Proofs.Ythbejciebmkclaa.Ab
open Go Go.RowKit
set_option linter.unusedVariables false
set_option linter.unusedSimpArgs false

def writeS (l : List UInt8) (s : Int) (es : List LEntry) : LLog × Int := appendS ⟨l, s⟩ (es.map entryB)
set_option maxRecDepth 100000 in
set_option maxHeartbeats 1000000 in
theorem con_write (l : List UInt8) (s : Int) (es : List LEntry) (hl : l.length + ((es.map entryB).map frameS).flatten.length ≤ 8388608) (hr : es.length ≤ 1048576) (he : ∀ e ∈ es, EOk e) :
    Con Try.prog D 24 [.agg [.sl 1 (l.map byteRow), .int .i64 s], entriesA es] ⟨.tup [.agg [.sl 1 ((writeS l s es).1.bytes.map byteRow), .int .i64 (writeS l s es).1.sure], .int .i64 (writeS l s es).2], []⟩ := by
  have hok : GOk Try.prog D (tabG [eJbytes, eAppend]) := tabG_ok _
  have g1 := fun (e : LEntry) (h : EOk e) => tabG_use (T := [eJbytes, eAppend]) (E := eJbytes) (i := 0) rfl (by decide) (e) (h)
  have g2 := tabG_use (T := [eJbytes, eAppend]) (E := eAppend) (i := 1) rfl (by decide) (((l, s), es.map entryB)) (⟨hl, by rw [List.length_map]; exact hr⟩)
  generalize tabG [eJbytes, eAppend] = G at *
  dsimp only [eJbytes] at g1
  dsimp only [eAppend] at g2
  unfold writeS
  generalize appendS ⟨l, s⟩ (es.map entryB) = W at *
  obtain ⟨⟨wb, ws⟩, we⟩ := W
  refine conW (G := G) (rs := [(4, some 32), (5, none)]) hok Try.func24 Try.results24 Try.ntmps24 (fun _ => {}) fun X hP hD hG' hX => ?_
  simp only [argS, num, entriesA]
  simp (disch := omega) only [go_sem, Nat.reduceLeDiff, reduceCtorEq, Nat.reduceAdd, Nat.reduceSub, Nat.reduceMul, Nat.reduceLT, Nat.reduceEqDiff, Int.reduceEq, Int.reduceLE, Int.reduceLT, Int.reducePow, Int.reduceMul, Int.reduceToNat, Int.reduceNeg, ↓reduceIte, hD, hG', wrap64, unbox, tmv, Option.some.injEq, exists_eq_left']
  refine Tr.loop (ι := Nat) (fun i => i ≤ es.length) (fun i => { nt := 26, tm := [(2, .ptr 2 0), (4, .ptr 4 0), (6, .os 5000), (9, .sl 6 (es.map entryRow)), (10, .int .i64 es.length), (11, .int .i64 i)], bl := [(2, some (.cells [.sl 1 (l.map byteRow), .int .i64 s])), (4, some (.cells [.nils, .int .i64 0])), (5000, some (.rows 26 1 (((es.take i).map entryB).map recRow)))] }) (fun i => es.length - i) 0
    ⟨Nat.zero_le _, wk_of hD [(2, 2), (4, 4)] rfl rfl (by simp only [go_sem, Nat.reduceEqDiff]; simp) (by simp only [go_sem, Nat.reduceEqDiff, D_1, D_2, D_3, D_4, D_5, D_6, D_7, D_8, D_9, D_10, D_11, D_12, D_13, D_14, D_15, D_16, D_17, D_18, D_19, D_21, D_22, D_23, D_24, D_25, D_26, D_27, D_28, D_29, D_30, D_31, D_32, D_33, D_35, D_36, D_37, D_38, D_39, D_40, D_41, D_42, D_43, D_45, D_46, D_47, D_48, D_49, D_50, D_51, D_52, D_53, D_55, D_56, D_57, D_58, D_60, D_61, D_62, D_63, D_64, D_65, D_67, D_68, D_69, D_70, D_71, D_72, D_73, D_74, D_75, D_76, D_77, D_78, D_79, D_80, D_81, D_82, D_83, D_84, D_85, D_86, D_87, D_88, D_89, D_91, D_93, D_94, D_95, D_97, D_98, D_99, D_101, D_103, D_104, D_105, D_106, D_108, D_109, D_110, D_111, D_113, D_114, D_115, D_116, D_117, D_118, D_119, D_120, D_121, D_122, D_124, D_125, D_127, D_128, D_130, D_132, D_133, D_134, D_135, D_136, D_138, D_139, D_141, D_143, D_144, D_145, D_147, D_148, D_149, D_150, D_151, D_153, D_154, D_155, D_156, D_157, D_158, D_159, D_160, D_161, D_162, D_163, D_164, D_165, D_166, D_167, D_168, D_169, D_170, D_171, D_172, D_173, D_174, D_178, D_179, D_180, D_181, D_182, D_183, D_184, D_185, D_186]; simp)⟩ ?_
  intro i hi
  refine evC_sound hX (fun _ => {}) _ _ _ ?_
  simp (disch := omega) only [go_sem, Nat.reduceLeDiff, reduceCtorEq, Nat.reduceAdd, Nat.reduceSub, Nat.reduceMul, Nat.reduceLT, Nat.reduceEqDiff, Int.reduceEq, Int.reduceLE, Int.reduceLT, Int.reducePow, Int.reduceMul, Int.reduceToNat, Int.reduceNeg, ↓reduceIte, hD, hG', wrap64, unbox, tmv, Option.some.injEq, exists_eq_left']
  refine condK_split (fun h => ?_) (fun h => ?_)
  · rw [decide_eq_true_eq] at h
    have hi1 : i < es.length := by omega
    have hgx := entryGet hi1
    have hti : es.take (i + 1) = es.take i ++ [es.getD i entry0] := by
      rw [List.take_succ_eq_append_getElem hi1]
      simp [hi1]
    have htl : (es.take i).length = i := by rw [List.length_take]; omega
    have hok := he (es.getD i entry0) (by rw [show es.getD i entry0 = es[i] by simp [hi1]]; exact List.getElem_mem hi1)
    have g1 := g1 (es.getD i entry0) hok
    generalize es.getD i entry0 = x at *
    generalize hb : entryB x = b at *
    obtain ⟨e1, e2, e3, e4, ⟨e5, e6⟩⟩ := x
    simp only [entryRow] at hgx
    simp only [entryA, entryRow] at g1
    simp (disch := omega) only [go_sem, Nat.reduceLeDiff, reduceCtorEq, Nat.reduceAdd, Nat.reduceSub, Nat.reduceMul, Nat.reduceLT, Nat.reduceEqDiff, Int.reduceEq, Int.reduceLE, Int.reduceLT, Int.reducePow, Int.reduceMul, Int.reduceToNat, Int.reduceNeg, ↓reduceIte, hD, hG', wrap64, hgx, g1, unbox, tmv, Option.some.injEq, exists_eq_left']
    ((try and_intros); all_goals (try first | omega | decide | (simp; done) | (simp only [List.length_append, List.length_cons, List.length_nil, List.length_map]; omega)))
    refine ⟨i + 1, ⟨by omega, by omega⟩, wk_of hD [(2, 2), (4, 4), (5000, 19)] rfl rfl ?_ ?_⟩ <;> simp only [go_sem, Nat.reduceEqDiff]
    · simp
    · simp [hti, hb, recRow]
  · rw [decide_eq_false_iff_not] at h
    have hie : i = es.length := by omega
    subst hie
    rw [List.take_length] at *
    simp (disch := omega) only [go_sem, Nat.reduceLeDiff, reduceCtorEq, Nat.reduceAdd, Nat.reduceSub, Nat.reduceMul, Nat.reduceLT, Nat.reduceEqDiff, Int.reduceEq, Int.reduceLE, Int.reduceLT, Int.reducePow, Int.reduceMul, Int.reduceToNat, Int.reduceNeg, ↓reduceIte, hD, hG', wrap64, g2, unbox, tmv, Option.some.injEq, exists_eq_left']
    refine endW [] [] (by simp) rfl rfl rfl ?_ ?_ <;> simp only [go_sem, Nat.reduceEqDiff]
    try simp [cov, covs, subs, names, namess]
set_option maxRecDepth 100000 in
set_option maxHeartbeats 1000000 in
theorem con_refwrite (l : List UInt8) (s : Int) (es : List LEntry) (hl : l.length + ((es.map entryB).map frameS).flatten.length ≤ 8388608) (hr : es.length ≤ 1048576) (he : ∀ e ∈ es, EOk e) :
    Con Try.prog D 25 [.agg [.sl 1 (l.map byteRow), .int .i64 s], entriesA es] ⟨.tup [.agg [.sl 1 ((writeS l s es).1.bytes.map byteRow), .int .i64 (writeS l s es).1.sure], .int .i64 (writeS l s es).2], []⟩ := by
  have hok : GOk Try.prog D (tabG [eJrbytes, eRefAppend]) := tabG_ok _
  have g1 := fun (e : LEntry) (h : EOk e) => tabG_use (T := [eJrbytes, eRefAppend]) (E := eJrbytes) (i := 0) rfl (by decide) (e) (h)
  have g2 := tabG_use (T := [eJrbytes, eRefAppend]) (E := eRefAppend) (i := 1) rfl (by decide) (((l, s), es.map entryB)) (⟨hl, by rw [List.length_map]; exact hr⟩)
  generalize tabG [eJrbytes, eRefAppend] = G at *
  dsimp only [eJrbytes] at g1
  dsimp only [eRefAppend] at g2
  unfold writeS
  generalize appendS ⟨l, s⟩ (es.map entryB) = W at *
  obtain ⟨⟨wb, ws⟩, we⟩ := W
  refine conW (G := G) (rs := [(4, some 32), (5, none)]) hok Try.func25 Try.results25 Try.ntmps25 (fun _ => {}) fun X hP hD hG' hX => ?_
  simp only [argS, num, entriesA]
  simp (disch := omega) only [go_sem, Nat.reduceLeDiff, reduceCtorEq, Nat.reduceAdd, Nat.reduceSub, Nat.reduceMul, Nat.reduceLT, Nat.reduceEqDiff, Int.reduceEq, Int.reduceLE, Int.reduceLT, Int.reducePow, Int.reduceMul, Int.reduceToNat, Int.reduceNeg, ↓reduceIte, hD, hG', wrap64, unbox, tmv, Option.some.injEq, exists_eq_left']
  refine Tr.loop (ι := Nat) (fun i => i ≤ es.length) (fun i => { nt := 26, tm := [(2, .ptr 2 0), (4, .ptr 4 0), (6, .os 5000), (9, .sl 6 (es.map entryRow)), (10, .int .i64 es.length), (11, .int .i64 i)], bl := [(2, some (.cells [.sl 1 (l.map byteRow), .int .i64 s])), (4, some (.cells [.nils, .int .i64 0])), (5000, some (.rows 26 1 (((es.take i).map entryB).map recRow)))] }) (fun i => es.length - i) 0
    ⟨Nat.zero_le _, wk_of hD [(2, 2), (4, 4)] rfl rfl (by simp only [go_sem, Nat.reduceEqDiff]; simp) (by simp only [go_sem, Nat.reduceEqDiff, D_1, D_2, D_3, D_4, D_5, D_6, D_7, D_8, D_9, D_10, D_11, D_12, D_13, D_14, D_15, D_16, D_17, D_18, D_19, D_21, D_22, D_23, D_24, D_25, D_26, D_27, D_28, D_29, D_30, D_31, D_32, D_33, D_35, D_36, D_37, D_38, D_39, D_40, D_41, D_42, D_43, D_45, D_46, D_47, D_48, D_49, D_50, D_51, D_52, D_53, D_55, D_56, D_57, D_58, D_60, D_61, D_62, D_63, D_64, D_65, D_67, D_68, D_69, D_70, D_71, D_72, D_73, D_74, D_75, D_76, D_77, D_78, D_79, D_80, D_81, D_82, D_83, D_84, D_85, D_86, D_87, D_88, D_89, D_91, D_93, D_94, D_95, D_97, D_98, D_99, D_101, D_103, D_104, D_105, D_106, D_108, D_109, D_110, D_111, D_113, D_114, D_115, D_116, D_117, D_118, D_119, D_120, D_121, D_122, D_124, D_125, D_127, D_128, D_130, D_132, D_133, D_134, D_135, D_136, D_138, D_139, D_141, D_143, D_144, D_145, D_147, D_148, D_149, D_150, D_151, D_153, D_154, D_155, D_156, D_157, D_158, D_159, D_160, D_161, D_162, D_163, D_164, D_165, D_166, D_167, D_168, D_169, D_170, D_171, D_172, D_173, D_174, D_178, D_179, D_180, D_181, D_182, D_183, D_184, D_185, D_186]; simp)⟩ ?_
  intro i hi
  refine evC_sound hX (fun _ => {}) _ _ _ ?_
  simp (disch := omega) only [go_sem, Nat.reduceLeDiff, reduceCtorEq, Nat.reduceAdd, Nat.reduceSub, Nat.reduceMul, Nat.reduceLT, Nat.reduceEqDiff, Int.reduceEq, Int.reduceLE, Int.reduceLT, Int.reducePow, Int.reduceMul, Int.reduceToNat, Int.reduceNeg, ↓reduceIte, hD, hG', wrap64, unbox, tmv, Option.some.injEq, exists_eq_left']
  refine condK_split (fun h => ?_) (fun h => ?_)
  · rw [decide_eq_true_eq] at h
    have hi1 : i < es.length := by omega
    have hgx := entryGet hi1
    have hti : es.take (i + 1) = es.take i ++ [es.getD i entry0] := by
      rw [List.take_succ_eq_append_getElem hi1]
      simp [hi1]
    have htl : (es.take i).length = i := by rw [List.length_take]; omega
    have hok := he (es.getD i entry0) (by rw [show es.getD i entry0 = es[i] by simp [hi1]]; exact List.getElem_mem hi1)
    have g1 := g1 (es.getD i entry0) hok
    generalize es.getD i entry0 = x at *
    generalize hb : entryB x = b at *
    obtain ⟨e1, e2, e3, e4, ⟨e5, e6⟩⟩ := x
    simp only [entryRow] at hgx
    simp only [entryA, entryRow] at g1
    simp (disch := omega) only [go_sem, Nat.reduceLeDiff, reduceCtorEq, Nat.reduceAdd, Nat.reduceSub, Nat.reduceMul, Nat.reduceLT, Nat.reduceEqDiff, Int.reduceEq, Int.reduceLE, Int.reduceLT, Int.reducePow, Int.reduceMul, Int.reduceToNat, Int.reduceNeg, ↓reduceIte, hD, hG', wrap64, hgx, g1, unbox, tmv, Option.some.injEq, exists_eq_left']
    ((try and_intros); all_goals (try first | omega | decide | (simp; done) | (simp only [List.length_append, List.length_cons, List.length_nil, List.length_map]; omega)))
    refine ⟨i + 1, ⟨by omega, by omega⟩, wk_of hD [(2, 2), (4, 4), (5000, 19)] rfl rfl ?_ ?_⟩ <;> simp only [go_sem, Nat.reduceEqDiff]
    · simp
    · simp [hti, hb, recRow]
  · rw [decide_eq_false_iff_not] at h
    have hie : i = es.length := by omega
    subst hie
    rw [List.take_length] at *
    simp (disch := omega) only [go_sem, Nat.reduceLeDiff, reduceCtorEq, Nat.reduceAdd, Nat.reduceSub, Nat.reduceMul, Nat.reduceLT, Nat.reduceEqDiff, Int.reduceEq, Int.reduceLE, Int.reduceLT, Int.reducePow, Int.reduceMul, Int.reduceToNat, Int.reduceNeg, ↓reduceIte, hD, hG', wrap64, g2, unbox, tmv, Option.some.injEq, exists_eq_left']
    refine endW [] [] (by simp) rfl rfl rfl ?_ ?_ <;> simp only [go_sem, Nat.reduceEqDiff]
    try simp [cov, covs, subs, names, namess]
def putE (nm : ByteArray) (i : LItem) : LEntry := ⟨3, nm, 0, i.id, i.note⟩
def shortQ (q : LQueue) : List LEntry := ⟨1, q.name, q.limit, 0, note0⟩ :: q.items.map (putE q.name)
def shortS (h : LHall) : List LEntry := h.queues.flatMap shortQ
theorem short_take {l : List LQueue} {i : Nat} (hi : i < l.length) : (l.take (i + 1)).flatMap shortQ = (l.take i).flatMap shortQ ++ shortQ (l.getD i queue0) := by
  rw [List.take_succ_eq_append_getElem hi, List.flatMap_append]
  simp [hi]
theorem short_le (l : List LQueue) (i : Nat) : ((l.take i).flatMap shortQ).length ≤ (l.flatMap shortQ).length := by
  conv => rhs; rw [← List.take_append_drop i l]
  rw [List.flatMap_append, List.length_append]
  omega
def shortLo : Nat → Lo := fun id => match id with | 9 => {uo := [10], kn := [5001, 39], ex := [0, 8, 9, 11]} | _ => {}
set_option maxRecDepth 100000 in
set_option maxHeartbeats 2000000 in
theorem con_short (h : LHall) (hh : h.Fits) (hs : (shortS h).length ≤ 8388608) : Con Try.prog D 27 [hallA h] ⟨entriesA (shortS h), []⟩ := by
  have hok : GOk Try.prog D (tabG [eOwn1]) := tabG_ok _
  have g1 := fun (n : LNote) (h : n.Fits) => tabG_use (T := [eOwn1]) (E := eOwn1) (i := 0) rfl (by decide) (n) (h)
  generalize tabG [eOwn1] = G at *
  dsimp only [eOwn1] at g1
  have hl := hh.1
  have hfq := fun i hi => queue_fits (i := i) hh hi
  obtain ⟨l, next⟩ := h
  simp only at hl hfq
  have hsl := short_le l
  have hs : (l.flatMap shortQ).length ≤ 8388608 := hs
  refine conW (G := G) (rs := [(2, none)]) hok Try.func27 Try.results27 Try.ntmps27 (shortLo) fun X hP hD hG' hX => ?_
  simp only [argS, num, hallA]
  simp (disch := omega) only [go_sem, Nat.reduceLeDiff, reduceCtorEq, Nat.reduceAdd, Nat.reduceSub, Nat.reduceMul, Nat.reduceLT, Nat.reduceEqDiff, Int.reduceEq, Int.reduceLE, Int.reduceLT, Int.reducePow, Int.reduceMul, Int.reduceToNat, Int.reduceNeg, ↓reduceIte, hD, hG', wrap64, shortLo, unbox, tmv, Option.some.injEq, exists_eq_left']
  refine Tr.loop (ι := Nat) (fun i => i ≤ l.length) (fun i => { nt := 44, tm := [(3, .os 5000), (9, .sl 3 (l.map queueRow)), (10, .int .i64 l.length), (11, .int .i64 i)], bl := [(5000, some (.rows 30 6 (((l.take i).flatMap shortQ).map entryRow)))] }) (fun i => l.length - i) 0
    ⟨Nat.zero_le _, wk_of hD [] rfl rfl (by simp only [go_sem, Nat.reduceEqDiff]; simp) (by simp only [go_sem, Nat.reduceEqDiff, D_1, D_2, D_3, D_4, D_5, D_6, D_7, D_8, D_9, D_10, D_11, D_12, D_13, D_14, D_15, D_16, D_17, D_18, D_19, D_21, D_22, D_23, D_24, D_25, D_26, D_27, D_28, D_29, D_30, D_31, D_32, D_33, D_35, D_36, D_37, D_38, D_39, D_40, D_41, D_42, D_43, D_45, D_46, D_47, D_48, D_49, D_50, D_51, D_52, D_53, D_55, D_56, D_57, D_58, D_60, D_61, D_62, D_63, D_64, D_65, D_67, D_68, D_69, D_70, D_71, D_72, D_73, D_74, D_75, D_76, D_77, D_78, D_79, D_80, D_81, D_82, D_83, D_84, D_85, D_86, D_87, D_88, D_89, D_91, D_93, D_94, D_95, D_97, D_98, D_99, D_101, D_103, D_104, D_105, D_106, D_108, D_109, D_110, D_111, D_113, D_114, D_115, D_116, D_117, D_118, D_119, D_120, D_121, D_122, D_124, D_125, D_127, D_128, D_130, D_132, D_133, D_134, D_135, D_136, D_138, D_139, D_141, D_143, D_144, D_145, D_147, D_148, D_149, D_150, D_151, D_153, D_154, D_155, D_156, D_157, D_158, D_159, D_160, D_161, D_162, D_163, D_164, D_165, D_166, D_167, D_168, D_169, D_170, D_171, D_172, D_173, D_174, D_178, D_179, D_180, D_181, D_182, D_183, D_184, D_185, D_186]; simp)⟩ ?_
  intro i hi
  have hsi := hsl i
  refine evC_sound hX shortLo _ _ _ ?_
  simp (disch := omega) only [go_sem, Nat.reduceLeDiff, reduceCtorEq, Nat.reduceAdd, Nat.reduceSub, Nat.reduceMul, Nat.reduceLT, Nat.reduceEqDiff, Int.reduceEq, Int.reduceLE, Int.reduceLT, Int.reducePow, Int.reduceMul, Int.reduceToNat, Int.reduceNeg, ↓reduceIte, hD, hG', wrap64, shortLo, unbox, tmv, Option.some.injEq, exists_eq_left']
  refine condK_split (fun h => ?_) (fun h => ?_)
  · rw [decide_eq_true_eq] at h
    have hi1 : i < l.length := by omega
    have hgx := queueGet hi1
    have hti := short_take hi1
    have hsi1 := hsl (i + 1)
    have hqf := (hfq i hi1).1
    rw [hti, List.length_append] at hsi1
    generalize l.getD i queue0 = x at *
    obtain ⟨qn, ql, qi⟩ := x
    simp only [queueRow] at hgx
    have hql : (shortQ ⟨qn, ql, qi⟩).length = qi.length + 1 := by simp [shortQ]
    generalize hpre : (l.take i).flatMap shortQ = pre at *
    simp (disch := omega) only [go_sem, Nat.reduceLeDiff, reduceCtorEq, Nat.reduceAdd, Nat.reduceSub, Nat.reduceMul, Nat.reduceLT, Nat.reduceEqDiff, Int.reduceEq, Int.reduceLE, Int.reduceLT, Int.reducePow, Int.reduceMul, Int.reduceToNat, Int.reduceNeg, ↓reduceIte, hD, hG', wrap64, hgx, shortLo, unbox, tmv, Option.some.injEq, exists_eq_left']
    refine ⟨by omega, by omega, ?_⟩
    have w1 : rowsNz (pre.map entryRow ++ [[.int .i64 1, .str qn.data.toList, .int .i64 ql, .int .i64 0, .nils, .nils]]) ((pre ++ [(⟨1, qn, ql, 0, note0⟩ : LEntry)]).map entryRow) := by
      rw [List.map_append]
      exact rowsNz_append (rowsNz_refl _) (by simp [rowsNz, rowNz, cellNz, entryRow, note0])
    refine Tr.loop (ι := Nat) (fun j => j ≤ qi.length) (fun j => { nt := 44, tm := [(3, .os 5001), (5, .ptr 5 0), (9, .sl 3 (l.map queueRow)), (10, .int .i64 l.length), (11, .int .i64 i), (24, .sl 7 (qi.map itemRow)), (25, .int .i64 qi.length), (26, .int .i64 j)], bl := [(5, some (.cells [.str qn.data.toList, .int .i64 ql, .sl 7 (qi.map itemRow)])), (5001, some (.rows 30 6 ((pre ++ (⟨1, qn, ql, 0, note0⟩ :: (qi.take j).map (putE qn))).map entryRow)))] }) (fun j => qi.length - j) 0
      ⟨Nat.zero_le _, (Wk.nz 22 rfl w1).trans (wk_of hD [(5, 5), (5001, 22)] rfl rfl (by simp only [go_sem, Nat.reduceEqDiff]; simp) (by simp only [go_sem, Nat.reduceEqDiff, D_1, D_2, D_3, D_4, D_5, D_6, D_7, D_8, D_9, D_10, D_11, D_12, D_13, D_14, D_15, D_16, D_17, D_18, D_19, D_21, D_22, D_23, D_24, D_25, D_26, D_27, D_28, D_29, D_30, D_31, D_32, D_33, D_35, D_36, D_37, D_38, D_39, D_40, D_41, D_42, D_43, D_45, D_46, D_47, D_48, D_49, D_50, D_51, D_52, D_53, D_55, D_56, D_57, D_58, D_60, D_61, D_62, D_63, D_64, D_65, D_67, D_68, D_69, D_70, D_71, D_72, D_73, D_74, D_75, D_76, D_77, D_78, D_79, D_80, D_81, D_82, D_83, D_84, D_85, D_86, D_87, D_88, D_89, D_91, D_93, D_94, D_95, D_97, D_98, D_99, D_101, D_103, D_104, D_105, D_106, D_108, D_109, D_110, D_111, D_113, D_114, D_115, D_116, D_117, D_118, D_119, D_120, D_121, D_122, D_124, D_125, D_127, D_128, D_130, D_132, D_133, D_134, D_135, D_136, D_138, D_139, D_141, D_143, D_144, D_145, D_147, D_148, D_149, D_150, D_151, D_153, D_154, D_155, D_156, D_157, D_158, D_159, D_160, D_161, D_162, D_163, D_164, D_165, D_166, D_167, D_168, D_169, D_170, D_171, D_172, D_173, D_174, D_178, D_179, D_180, D_181, D_182, D_183, D_184, D_185, D_186]))⟩ ?_
    intro j hj
    refine evC_sound hX shortLo _ _ _ ?_
    simp (disch := omega) only [go_sem, Nat.reduceLeDiff, reduceCtorEq, Nat.reduceAdd, Nat.reduceSub, Nat.reduceMul, Nat.reduceLT, Nat.reduceEqDiff, Int.reduceEq, Int.reduceLE, Int.reduceLT, Int.reducePow, Int.reduceMul, Int.reduceToNat, Int.reduceNeg, ↓reduceIte, hD, hG', wrap64, shortLo, unbox, tmv, Option.some.injEq, exists_eq_left']
    refine condK_split (fun h2 => ?_) (fun h2 => ?_)
    · rw [decide_eq_true_eq] at h2
      have hj1 : j < qi.length := by omega
      have hgy := itemGet hj1
      have hnf := item_fits hqf hj1
      have htj : qi.take (j + 1) = qi.take j ++ [qi.getD j item0] := by
        rw [List.take_succ_eq_append_getElem hj1]
        simp [hj1]
      have htl : (qi.take j).length = j := by rw [List.length_take]; omega
      generalize qi.getD j item0 = y at *
      obtain ⟨i1, i2, i3, i4, i5, ⟨i6, i7⟩⟩ := y
      simp only [itemRow] at hgy
      have g1 := g1 _ hnf
      simp only [noteA] at g1
      simp (disch := omega) only [go_sem, Nat.reduceLeDiff, reduceCtorEq, Nat.reduceAdd, Nat.reduceSub, Nat.reduceMul, Nat.reduceLT, Nat.reduceEqDiff, Int.reduceEq, Int.reduceLE, Int.reduceLT, Int.reducePow, Int.reduceMul, Int.reduceToNat, Int.reduceNeg, ↓reduceIte, hD, hG', wrap64, hgy, g1, shortLo, unbox, tmv, Option.some.injEq, exists_eq_left']
      ((try and_intros); all_goals (try first | omega | decide | (simp; done) | (simp only [List.length_append, List.length_cons, List.length_nil, List.length_map]; omega)))
      refine ⟨j + 1, ⟨by omega, by omega⟩, wk_of hD [(5, 5), (5001, 40)] rfl rfl ?_ ?_⟩ <;> simp only [go_sem, Nat.reduceEqDiff]
      · simp
      · simp [htj, entryRow, putE]
    · rw [decide_eq_false_iff_not] at h2
      have hje : j = qi.length := by omega
      subst hje
      rw [List.take_length] at *
      simp (disch := omega) only [go_sem, Nat.reduceLeDiff, reduceCtorEq, Nat.reduceAdd, Nat.reduceSub, Nat.reduceMul, Nat.reduceLT, Nat.reduceEqDiff, Int.reduceEq, Int.reduceLE, Int.reduceLT, Int.reducePow, Int.reduceMul, Int.reduceToNat, Int.reduceNeg, ↓reduceIte, hD, hG', wrap64, shortLo, unbox, tmv, Option.some.injEq, exists_eq_left']
      refine ⟨i + 1, ⟨by omega, by omega⟩, wk_of hD [(5000, 5001)] rfl rfl ?_ ?_⟩ <;> simp only [go_sem, Nat.reduceEqDiff]
      · simp
      · simp [hti, shortQ]
  · rw [decide_eq_false_iff_not] at h
    have hie : i = l.length := by omega
    subst hie
    rw [List.take_length] at *
    simp (disch := omega) only [go_sem, Nat.reduceLeDiff, reduceCtorEq, Nat.reduceAdd, Nat.reduceSub, Nat.reduceMul, Nat.reduceLT, Nat.reduceEqDiff, Int.reduceEq, Int.reduceLE, Int.reduceLT, Int.reducePow, Int.reduceMul, Int.reduceToNat, Int.reduceNeg, ↓reduceIte, hD, hG', wrap64, shortLo, unbox, tmv, Option.some.injEq, exists_eq_left']
    refine endW [5000] [] (by simp) rfl rfl rfl ?_ ?_ <;> simp only [go_sem, Nat.reduceEqDiff]
    try simp [entriesA, shortS, cov, covs, subs, names, namess]
set_option maxRecDepth 100000 in
set_option maxHeartbeats 2000000 in
theorem con_refshort (h : LHall) (hh : h.Fits) (hs : (shortS h).length ≤ 8388608) : Con Try.prog D 28 [hallA h] ⟨entriesA (shortS h), []⟩ := by
  have hok : GOk Try.prog D (tabG []) := tabG_ok _
  generalize tabG [] = G at *
  have hl := hh.1
  have hfq := fun i hi => queue_fits (i := i) hh hi
  obtain ⟨l, next⟩ := h
  simp only at hl hfq
  have hsl := short_le l
  have hs : (l.flatMap shortQ).length ≤ 8388608 := hs
  refine conW (G := G) (rs := [(2, none)]) hok Try.func28 Try.results28 Try.ntmps28 (fun _ => {}) fun X hP hD hG' hX => ?_
  simp only [argS, num, hallA]
  simp (disch := omega) only [go_sem, Nat.reduceLeDiff, reduceCtorEq, Nat.reduceAdd, Nat.reduceSub, Nat.reduceMul, Nat.reduceLT, Nat.reduceEqDiff, Int.reduceEq, Int.reduceLE, Int.reduceLT, Int.reducePow, Int.reduceMul, Int.reduceToNat, Int.reduceNeg, ↓reduceIte, hD, hG', wrap64, unbox, tmv, Option.some.injEq, exists_eq_left']
  refine Tr.loop (ι := Nat) (fun i => i ≤ l.length) (fun i => { nt := 43, tm := [(3, .os 5000), (9, .sl 3 (l.map queueRow)), (10, .int .i64 l.length), (11, .int .i64 i)], bl := [(5000, some (.rows 30 6 (((l.take i).flatMap shortQ).map entryRow)))] }) (fun i => l.length - i) 0
    ⟨Nat.zero_le _, wk_of hD [] rfl rfl (by simp only [go_sem, Nat.reduceEqDiff]; simp) (by simp only [go_sem, Nat.reduceEqDiff, D_1, D_2, D_3, D_4, D_5, D_6, D_7, D_8, D_9, D_10, D_11, D_12, D_13, D_14, D_15, D_16, D_17, D_18, D_19, D_21, D_22, D_23, D_24, D_25, D_26, D_27, D_28, D_29, D_30, D_31, D_32, D_33, D_35, D_36, D_37, D_38, D_39, D_40, D_41, D_42, D_43, D_45, D_46, D_47, D_48, D_49, D_50, D_51, D_52, D_53, D_55, D_56, D_57, D_58, D_60, D_61, D_62, D_63, D_64, D_65, D_67, D_68, D_69, D_70, D_71, D_72, D_73, D_74, D_75, D_76, D_77, D_78, D_79, D_80, D_81, D_82, D_83, D_84, D_85, D_86, D_87, D_88, D_89, D_91, D_93, D_94, D_95, D_97, D_98, D_99, D_101, D_103, D_104, D_105, D_106, D_108, D_109, D_110, D_111, D_113, D_114, D_115, D_116, D_117, D_118, D_119, D_120, D_121, D_122, D_124, D_125, D_127, D_128, D_130, D_132, D_133, D_134, D_135, D_136, D_138, D_139, D_141, D_143, D_144, D_145, D_147, D_148, D_149, D_150, D_151, D_153, D_154, D_155, D_156, D_157, D_158, D_159, D_160, D_161, D_162, D_163, D_164, D_165, D_166, D_167, D_168, D_169, D_170, D_171, D_172, D_173, D_174, D_178, D_179, D_180, D_181, D_182, D_183, D_184, D_185, D_186]; simp)⟩ ?_
  intro i hi
  have hsi := hsl i
  refine evC_sound hX (fun _ => {}) _ _ _ ?_
  simp (disch := omega) only [go_sem, Nat.reduceLeDiff, reduceCtorEq, Nat.reduceAdd, Nat.reduceSub, Nat.reduceMul, Nat.reduceLT, Nat.reduceEqDiff, Int.reduceEq, Int.reduceLE, Int.reduceLT, Int.reducePow, Int.reduceMul, Int.reduceToNat, Int.reduceNeg, ↓reduceIte, hD, hG', wrap64, unbox, tmv, Option.some.injEq, exists_eq_left']
  refine condK_split (fun h => ?_) (fun h => ?_)
  · rw [decide_eq_true_eq] at h
    have hi1 : i < l.length := by omega
    have hgx := queueGet hi1
    have hti := short_take hi1
    have hsi1 := hsl (i + 1)
    have hqf := (hfq i hi1).1
    rw [hti, List.length_append] at hsi1
    generalize l.getD i queue0 = x at *
    obtain ⟨qn, ql, qi⟩ := x
    simp only [queueRow] at hgx
    have hql : (shortQ ⟨qn, ql, qi⟩).length = qi.length + 1 := by simp [shortQ]
    generalize hpre : (l.take i).flatMap shortQ = pre at *
    simp (disch := omega) only [go_sem, Nat.reduceLeDiff, reduceCtorEq, Nat.reduceAdd, Nat.reduceSub, Nat.reduceMul, Nat.reduceLT, Nat.reduceEqDiff, Int.reduceEq, Int.reduceLE, Int.reduceLT, Int.reducePow, Int.reduceMul, Int.reduceToNat, Int.reduceNeg, ↓reduceIte, hD, hG', wrap64, hgx, unbox, tmv, Option.some.injEq, exists_eq_left']
    refine ⟨by omega, by omega, ?_⟩
    have w1 : rowsNz (pre.map entryRow ++ [[.int .i64 1, .str qn.data.toList, .int .i64 ql, .int .i64 0, .nils, .nils]]) ((pre ++ [(⟨1, qn, ql, 0, note0⟩ : LEntry)]).map entryRow) := by
      rw [List.map_append]
      exact rowsNz_append (rowsNz_refl _) (by simp [rowsNz, rowNz, cellNz, entryRow, note0])
    refine Tr.loop (ι := Nat) (fun j => j ≤ qi.length) (fun j => { nt := 43, tm := [(3, .os 5001), (5, .ptr 5 0), (9, .sl 3 (l.map queueRow)), (10, .int .i64 l.length), (11, .int .i64 i), (24, .sl 7 (qi.map itemRow)), (25, .int .i64 qi.length), (26, .int .i64 j)], bl := [(5, some (.cells [.str qn.data.toList, .int .i64 ql, .sl 7 (qi.map itemRow)])), (5001, some (.rows 30 6 ((pre ++ (⟨1, qn, ql, 0, note0⟩ :: (qi.take j).map (putE qn))).map entryRow)))] }) (fun j => qi.length - j) 0
      ⟨Nat.zero_le _, (Wk.nz 22 rfl w1).trans (wk_of hD [(5, 5), (5001, 22)] rfl rfl (by simp only [go_sem, Nat.reduceEqDiff]; simp) (by simp only [go_sem, Nat.reduceEqDiff, D_1, D_2, D_3, D_4, D_5, D_6, D_7, D_8, D_9, D_10, D_11, D_12, D_13, D_14, D_15, D_16, D_17, D_18, D_19, D_21, D_22, D_23, D_24, D_25, D_26, D_27, D_28, D_29, D_30, D_31, D_32, D_33, D_35, D_36, D_37, D_38, D_39, D_40, D_41, D_42, D_43, D_45, D_46, D_47, D_48, D_49, D_50, D_51, D_52, D_53, D_55, D_56, D_57, D_58, D_60, D_61, D_62, D_63, D_64, D_65, D_67, D_68, D_69, D_70, D_71, D_72, D_73, D_74, D_75, D_76, D_77, D_78, D_79, D_80, D_81, D_82, D_83, D_84, D_85, D_86, D_87, D_88, D_89, D_91, D_93, D_94, D_95, D_97, D_98, D_99, D_101, D_103, D_104, D_105, D_106, D_108, D_109, D_110, D_111, D_113, D_114, D_115, D_116, D_117, D_118, D_119, D_120, D_121, D_122, D_124, D_125, D_127, D_128, D_130, D_132, D_133, D_134, D_135, D_136, D_138, D_139, D_141, D_143, D_144, D_145, D_147, D_148, D_149, D_150, D_151, D_153, D_154, D_155, D_156, D_157, D_158, D_159, D_160, D_161, D_162, D_163, D_164, D_165, D_166, D_167, D_168, D_169, D_170, D_171, D_172, D_173, D_174, D_178, D_179, D_180, D_181, D_182, D_183, D_184, D_185, D_186]))⟩ ?_
    intro j hj
    refine evC_sound hX (fun _ => {}) _ _ _ ?_
    simp (disch := omega) only [go_sem, Nat.reduceLeDiff, reduceCtorEq, Nat.reduceAdd, Nat.reduceSub, Nat.reduceMul, Nat.reduceLT, Nat.reduceEqDiff, Int.reduceEq, Int.reduceLE, Int.reduceLT, Int.reducePow, Int.reduceMul, Int.reduceToNat, Int.reduceNeg, ↓reduceIte, hD, hG', wrap64, unbox, tmv, Option.some.injEq, exists_eq_left']
    refine condK_split (fun h2 => ?_) (fun h2 => ?_)
    · rw [decide_eq_true_eq] at h2
      have hj1 : j < qi.length := by omega
      have hgy := itemGet hj1
      have hnf := item_fits hqf hj1
      have htj : qi.take (j + 1) = qi.take j ++ [qi.getD j item0] := by
        rw [List.take_succ_eq_append_getElem hj1]
        simp [hj1]
      have htl : (qi.take j).length = j := by rw [List.length_take]; omega
      generalize qi.getD j item0 = y at *
      obtain ⟨i1, i2, i3, i4, i5, ⟨i6, i7⟩⟩ := y
      simp only [itemRow] at hgy
      simp (disch := omega) only [go_sem, Nat.reduceLeDiff, reduceCtorEq, Nat.reduceAdd, Nat.reduceSub, Nat.reduceMul, Nat.reduceLT, Nat.reduceEqDiff, Int.reduceEq, Int.reduceLE, Int.reduceLT, Int.reducePow, Int.reduceMul, Int.reduceToNat, Int.reduceNeg, ↓reduceIte, hD, hG', wrap64, hgy, unbox, tmv, Option.some.injEq, exists_eq_left']
      ((try and_intros); all_goals (try first | omega | decide | (simp; done) | (simp only [List.length_append, List.length_cons, List.length_nil, List.length_map]; omega)))
      refine ⟨j + 1, ⟨by omega, by omega⟩, wk_of hD [(5, 5), (5001, 39)] rfl rfl ?_ ?_⟩ <;> simp only [go_sem, Nat.reduceEqDiff]
      · simp
      · simp [htj, entryRow, putE]
    · rw [decide_eq_false_iff_not] at h2
      have hje : j = qi.length := by omega
      subst hje
      rw [List.take_length] at *
      simp (disch := omega) only [go_sem, Nat.reduceLeDiff, reduceCtorEq, Nat.reduceAdd, Nat.reduceSub, Nat.reduceMul, Nat.reduceLT, Nat.reduceEqDiff, Int.reduceEq, Int.reduceLE, Int.reduceLT, Int.reducePow, Int.reduceMul, Int.reduceToNat, Int.reduceNeg, ↓reduceIte, hD, hG', wrap64, unbox, tmv, Option.some.injEq, exists_eq_left']
      refine ⟨i + 1, ⟨by omega, by omega⟩, wk_of hD [(5000, 5001)] rfl rfl ?_ ?_⟩ <;> simp only [go_sem, Nat.reduceEqDiff]
      · simp
      · simp [hti, shortQ]
  · rw [decide_eq_false_iff_not] at h
    have hie : i = l.length := by omega
    subst hie
    rw [List.take_length] at *
    simp (disch := omega) only [go_sem, Nat.reduceLeDiff, reduceCtorEq, Nat.reduceAdd, Nat.reduceSub, Nat.reduceMul, Nat.reduceLT, Nat.reduceEqDiff, Int.reduceEq, Int.reduceLE, Int.reduceLT, Int.reducePow, Int.reduceMul, Int.reduceToNat, Int.reduceNeg, ↓reduceIte, hD, hG', wrap64, unbox, tmv, Option.some.injEq, exists_eq_left']
    refine endW [5000] [] (by simp) rfl rfl rfl ?_ ?_ <;> simp only [go_sem, Nat.reduceEqDiff]
    try simp [entriesA, shortS, cov, covs, subs, names, namess]
end Go.Proofs.Ythbejciebmkclaa.Ab
namespace Go.Proofs.Ythbejciebmkclaa.Ab
open Go Go.RowKit
set_option linter.unusedVariables false
set_option linter.unusedSimpArgs false

def eReplay : Ent Try.prog D := ⟨16, List UInt8, fun l => [.sl 1 (l.map byteRow)], fun l => l.length ≤ 1048576, fun l => ⟨hallA (replayS l), []⟩, fun x y _ _ h => by rw [one_inj h], con_replay⟩
def eRreplay : Ent Try.prog D := ⟨17, List UInt8, fun l => [.sl 1 (l.map byteRow)], fun l => l.length ≤ 1048576, fun l => ⟨hallA (replayS l), []⟩, fun x y _ _ h => by rw [one_inj h], con_refreplay⟩
def writeA (w : LLog × Int) : AV := .tup [.agg [.sl 1 (w.1.bytes.map byteRow), .int .i64 w.1.sure], .int .i64 w.2]
def WOk (x : (List UInt8 × Int) × List LEntry) : Prop := (x.1.1.length + ((x.2.map entryB).map frameS).flatten.length ≤ 8388608 ∧ x.2.length ≤ 1048576) ∧ ∀ e ∈ x.2, EOk e
def eWrite : Ent Try.prog D := ⟨24, (List UInt8 × Int) × List LEntry, fun x => [.agg [.sl 1 (x.1.1.map byteRow), .int .i64 x.1.2], entriesA x.2], WOk, fun x => ⟨writeA (writeS x.1.1 x.1.2 x.2), []⟩, fun x y _ _ h => by
  obtain ⟨⟨a, b⟩, c⟩ := x; obtain ⟨⟨a', b'⟩, c'⟩ := y
  simp only [entriesA, List.cons.injEq, AV.sl.injEq, true_and, and_true] at h
  obtain ⟨h1, h2⟩ := log_inj h.1
  rw [h1, h2, entries_inj h.2], fun x h => con_write _ _ _ h.1.1 h.1.2 h.2⟩
def eRwrite : Ent Try.prog D := ⟨25, (List UInt8 × Int) × List LEntry, fun x => [.agg [.sl 1 (x.1.1.map byteRow), .int .i64 x.1.2], entriesA x.2], WOk, fun x => ⟨writeA (writeS x.1.1 x.1.2 x.2), []⟩, fun x y _ _ h => by
  obtain ⟨⟨a, b⟩, c⟩ := x; obtain ⟨⟨a', b'⟩, c'⟩ := y
  simp only [entriesA, List.cons.injEq, AV.sl.injEq, true_and, and_true] at h
  obtain ⟨h1, h2⟩ := log_inj h.1
  rw [h1, h2, entries_inj h.2], fun x h => con_refwrite _ _ _ h.1.1 h.1.2 h.2⟩
def eShort : Ent Try.prog D := ⟨27, LHall, fun h => [hallA h], fun h => h.Fits ∧ (shortS h).length ≤ 8388608, fun h => ⟨entriesA (shortS h), []⟩, fun x y _ _ h => by
  simp only [List.cons.injEq, and_true] at h
  rw [hallA_inj h], fun h hh => con_short h hh.1 hh.2⟩
def eRshort : Ent Try.prog D := ⟨28, LHall, fun h => [hallA h], fun h => h.Fits ∧ (shortS h).length ≤ 8388608, fun h => ⟨entriesA (shortS h), []⟩, fun x y _ _ h => by
  simp only [List.cons.injEq, and_true] at h
  rw [hallA_inj h], fun h hh => con_refshort h hh.1 hh.2⟩
theorem frameS_length (l : List UInt8) : (frameS l).length = l.length + 4 := by simp [frameS]
theorem entryB_len {e : LEntry} {a b : Nat} (h1 : e.queue.size ≤ a) (h2 : (bytesN e.note).length ≤ b) : (entryB e).length ≤ a + b + 6 := by
  have := size_len e.queue
  simp only [entryB, textS, List.length_cons, List.length_append]
  split
  · simp; omega
  · split
    · simp; omega
    · have := num4 e.id
      split <;> simp only [List.length_append, List.length_nil] <;> omega
theorem short_len {h : LHall} (hl : h.queues.length ≤ 4) (hq : ∀ q ∈ h.queues, q.items.length ≤ 8) : (shortS h).length ≤ 36 := by
  have : ∀ l : List LQueue, (∀ q ∈ l, q.items.length ≤ 8) → (l.flatMap shortQ).length ≤ 9 * l.length := fun l => by
    induction l with
    | nil => simp
    | cons q r ih =>
      intro h
      have h1 := ih fun x hx => h x (by simp [hx])
      have h2 := h q (by simp)
      simp only [List.flatMap_cons, List.length_append, List.length_cons, shortQ, List.length_map]
      omega
  have := this _ hq
  unfold shortS
  omega

/-- what the law asks of an entry -/
def entryNice (e : LEntry) : Prop := ¬(e.kind < 1 ∨ e.kind > 4 ∨ e.queue.size > 100 ∨ e.n < 0 ∨ e.n > 255 ∨ e.id < 0 ∨ e.id > 1000000 ∨ wrongS e.note ≠ 0)
theorem entryNice.ok {e : LEntry} (h : entryNice e) : EOk e ∧ (entryB e).length ≤ 300 := by
  unfold entryNice at h
  have hw : wrongS e.note = 0 := by omega
  have hb := bytes_right hw
  exact ⟨⟨by omega, by omega, fits_right hw, by omega⟩, by have := @entryB_len e 100 134 (by omega) hb; omega⟩
set_option maxRecDepth 100000 in
set_option maxHeartbeats 4000000 in
theorem con_journaltells (h : LHall) (e : LEntry) (b : List UInt8) (l : List UInt8) (s : Int) (hle : hallLe 1048575 h) (hn : e.note.Fits) (hq : e.queue.size ≤ 1048576) (hb : b.length ≤ 1048576) (hl : l.length ≤ 1048576) :
    Con Try.prog D 3 [hallA h, entryA e, .sl 1 (b.map byteRow), .agg [.sl 1 (l.map byteRow), .int .i64 s]] ⟨.bool true, []⟩ := by
  have hh : h.Fits := hle.fits (by decide)
  have hok : GOk Try.prog D (tabG [eRightq, eSamehall, eSameentries, eJparse, eJrparse, eReplay, eRreplay, eRefwrong, eJbytes, eJrbytes, eApply, eRapply, eWrite, eRwrite, eSameLog, eShort, eRshort]) := tabG_ok _
  have g1 := tabG_use (T := [eRightq, eSamehall, eSameentries, eJparse, eJrparse, eReplay, eRreplay, eRefwrong, eJbytes, eJrbytes, eApply, eRapply, eWrite, eRwrite, eSameLog, eShort, eRshort]) (E := eRightq) (i := 0) rfl (by decide) (h) (hh)
  have g2 := fun (x : LHall) (hx : x.Fits) => tabG_use (T := [eRightq, eSamehall, eSameentries, eJparse, eJrparse, eReplay, eRreplay, eRefwrong, eJbytes, eJrbytes, eApply, eRapply, eWrite, eRwrite, eSameLog, eShort, eRshort]) (E := eSamehall) (i := 1) rfl (by decide) (x) (hx)
  have g3 := fun (x : List LEntry) (hx : x.length ≤ 1048576 ∧ ∀ e ∈ x, e.note.Fits) => tabG_use (T := [eRightq, eSamehall, eSameentries, eJparse, eJrparse, eReplay, eRreplay, eRefwrong, eJbytes, eJrbytes, eApply, eRapply, eWrite, eRwrite, eSameLog, eShort, eRshort]) (E := eSameentries) (i := 2) rfl (by decide) (x) (hx)
  have g4 := tabG_use (T := [eRightq, eSamehall, eSameentries, eJparse, eJrparse, eReplay, eRreplay, eRefwrong, eJbytes, eJrbytes, eApply, eRapply, eWrite, eRwrite, eSameLog, eShort, eRshort]) (E := eJparse) (i := 3) rfl (by decide) (b) (by show b.length ≤ 4194304; omega)
  have g5 := tabG_use (T := [eRightq, eSamehall, eSameentries, eJparse, eJrparse, eReplay, eRreplay, eRefwrong, eJbytes, eJrbytes, eApply, eRapply, eWrite, eRwrite, eSameLog, eShort, eRshort]) (E := eJrparse) (i := 4) rfl (by decide) (b) (by show b.length ≤ 4194304; omega)
  have g6 := tabG_use (T := [eRightq, eSamehall, eSameentries, eJparse, eJrparse, eReplay, eRreplay, eRefwrong, eJbytes, eJrbytes, eApply, eRapply, eWrite, eRwrite, eSameLog, eShort, eRshort]) (E := eReplay) (i := 5) rfl (by decide) (b) (hb)
  have g7 := tabG_use (T := [eRightq, eSamehall, eSameentries, eJparse, eJrparse, eReplay, eRreplay, eRefwrong, eJbytes, eJrbytes, eApply, eRapply, eWrite, eRwrite, eSameLog, eShort, eRshort]) (E := eRreplay) (i := 6) rfl (by decide) (b) (hb)
  have g8 := tabG_use (T := [eRightq, eSamehall, eSameentries, eJparse, eJrparse, eReplay, eRreplay, eRefwrong, eJbytes, eJrbytes, eApply, eRapply, eWrite, eRwrite, eSameLog, eShort, eRshort]) (E := eRefwrong) (i := 7) rfl (by decide) (e.note) (hn)
  have g9 := fun (he : EOk e) => tabG_use (T := [eRightq, eSamehall, eSameentries, eJparse, eJrparse, eReplay, eRreplay, eRefwrong, eJbytes, eJrbytes, eApply, eRapply, eWrite, eRwrite, eSameLog, eShort, eRshort]) (E := eJbytes) (i := 8) rfl (by decide) (e) (he)
  have g10 := fun (he : EOk e) => tabG_use (T := [eRightq, eSamehall, eSameentries, eJparse, eJrparse, eReplay, eRreplay, eRefwrong, eJbytes, eJrbytes, eApply, eRapply, eWrite, eRwrite, eSameLog, eShort, eRshort]) (E := eJrbytes) (i := 9) rfl (by decide) (e) (he)
  have g11 := fun (he : -1000000000000 ≤ e.id ∧ e.id ≤ 1000000000000) => tabG_use (T := [eRightq, eSamehall, eSameentries, eJparse, eJrparse, eReplay, eRreplay, eRefwrong, eJbytes, eJrbytes, eApply, eRapply, eWrite, eRwrite, eSameLog, eShort, eRshort]) (E := eApply) (i := 10) rfl (by decide) ((h, e)) (⟨hh, hn, he⟩)
  have g12 := fun (he : -1000000000000 ≤ e.id ∧ e.id ≤ 1000000000000) => tabG_use (T := [eRightq, eSamehall, eSameentries, eJparse, eJrparse, eReplay, eRreplay, eRefwrong, eJbytes, eJrbytes, eApply, eRapply, eWrite, eRwrite, eSameLog, eShort, eRshort]) (E := eRapply) (i := 11) rfl (by decide) ((h, e)) (⟨hh, hn, he⟩)
  have g13 := fun (he : WOk ((l, s), [e, e])) => tabG_use (T := [eRightq, eSamehall, eSameentries, eJparse, eJrparse, eReplay, eRreplay, eRefwrong, eJbytes, eJrbytes, eApply, eRapply, eWrite, eRwrite, eSameLog, eShort, eRshort]) (E := eWrite) (i := 12) rfl (by decide) (((l, s), [e, e])) (he)
  have g14 := fun (he : WOk ((l, s), [e, e])) => tabG_use (T := [eRightq, eSamehall, eSameentries, eJparse, eJrparse, eReplay, eRreplay, eRefwrong, eJbytes, eJrbytes, eApply, eRapply, eWrite, eRwrite, eSameLog, eShort, eRshort]) (E := eRwrite) (i := 13) rfl (by decide) (((l, s), [e, e])) (he)
  have g15 := fun (m : LLog) => tabG_use (T := [eRightq, eSamehall, eSameentries, eJparse, eJrparse, eReplay, eRreplay, eRefwrong, eJbytes, eJrbytes, eApply, eRapply, eWrite, eRwrite, eSameLog, eShort, eRshort]) (E := eSameLog) (i := 14) rfl (by decide) (((m.bytes, m.sure), (m.bytes, m.sure))) (trivial)
  have g16 := fun (hx : (shortS h).length ≤ 8388608) => tabG_use (T := [eRightq, eSamehall, eSameentries, eJparse, eJrparse, eReplay, eRreplay, eRefwrong, eJbytes, eJrbytes, eApply, eRapply, eWrite, eRwrite, eSameLog, eShort, eRshort]) (E := eShort) (i := 15) rfl (by decide) (h) (⟨hh, hx⟩)
  have g17 := fun (hx : (shortS h).length ≤ 8388608) => tabG_use (T := [eRightq, eSamehall, eSameentries, eJparse, eJrparse, eReplay, eRreplay, eRefwrong, eJbytes, eJrbytes, eApply, eRapply, eWrite, eRwrite, eSameLog, eShort, eRshort]) (E := eRshort) (i := 16) rfl (by decide) (h) (⟨hh, hx⟩)
  generalize tabG [eRightq, eSamehall, eSameentries, eJparse, eJrparse, eReplay, eRreplay, eRefwrong, eJbytes, eJrbytes, eApply, eRapply, eWrite, eRwrite, eSameLog, eShort, eRshort] = G at *
  dsimp only [eRightq] at g1
  dsimp only [eSamehall] at g2
  dsimp only [eSameentries] at g3
  dsimp only [eJparse] at g4
  dsimp only [eJrparse] at g5
  dsimp only [eReplay] at g6
  dsimp only [eRreplay] at g7
  dsimp only [eRefwrong] at g8
  dsimp only [eJbytes] at g9
  dsimp only [eJrbytes] at g10
  dsimp only [eApply] at g11
  dsimp only [eRapply] at g12
  dsimp only [eWrite] at g13
  dsimp only [eRwrite] at g14
  dsimp only [eSameLog] at g15
  dsimp only [eShort] at g16
  dsimp only [eRshort] at g17
  have hpf := entryP_fits b hb
  have s1 := g3 [(entryP b).1] ⟨by simp, by simp [hpf.2.1]⟩
  have s2 := g2 (replayS b) (by
    have h1 := recsS_le b.length b (Nat.le_refl _)
    have h2 := replay_le (recsS b).1.length (recsS b).1 (fun r hr => by have := recs_mem b.length b (Nat.le_refl _) r hr; omega) (Nat.le_refl _)
    rw [List.take_length] at h2
    exact h2.fits (by omega))
  generalize entryP b = E at *
  generalize replayS b = R at *
  obtain ⟨⟨x1, x2, x3, x4, ⟨x5, x6⟩⟩, xe⟩ := E
  obtain ⟨rq, rn⟩ := R
  obtain ⟨hq1, hq2⟩ := h
  by_cases hni : entryNice e
  · have hek := hni.ok
    have hni2 := hni
    unfold entryNice at hni2
    have g9 := g9 hek.1
    have g10 := g10 hek.1
    have g11 := g11 (by omega)
    have g12 := g12 (by omega)
    have hwk : WOk ((l, s), [e, e]) := ⟨⟨by simp only [List.map_cons, List.map_nil, List.flatten_cons, List.flatten_nil, List.length_append, List.length_nil, frameS_length]; omega, by simp⟩, by simp [hek.1]⟩
    have g13 := g13 hwk
    have g14 := g14 hwk
    have g15 := g15 (writeS l s [e, e]).1
    have s3 := g2 (applyS ⟨hq1, hq2⟩ e) ((hle.apply hq hn).fits (by decide))
    generalize hbe : entryB e = be at *
    generalize writeS l s [e, e] = W at *
    generalize applyS ⟨hq1, hq2⟩ e = A at *
    obtain ⟨⟨wb, ws⟩, we⟩ := W
    obtain ⟨aq, an⟩ := A
    have d1 : decide (e.kind < 1) = false := decide_eq_false (by omega)
    have d2 : decide (e.kind > 4) = false := decide_eq_false (by omega)
    have d3 : decide ((e.queue.data.toList.length : Int) > 100) = false := decide_eq_false (by rw [size_len]; omega)
    have d4 : decide (e.n < 0) = false := decide_eq_false (by omega)
    have d5 : decide (e.n > 255) = false := decide_eq_false (by omega)
    have d6 : decide (e.id < 0) = false := decide_eq_false (by omega)
    have d7 : decide (e.id > 1000000) = false := decide_eq_false (by omega)
    have d8 : (wrongS e.note != 0) = false := by
      have : wrongS e.note = 0 := by omega
      simp [this]
    by_cases hgood : hallOk ⟨hq1, hq2⟩ ∧ 0 ≤ s ∧ s ≤ l.length
    · obtain ⟨ho, hs0, hs1⟩ := hgood
      obtain ⟨hf, hl4, _⟩ := hallOk_fine ho
      have hsl : (shortS ⟨hq1, hq2⟩).length ≤ 36 := short_len hl4 (fun q hq => by have := (hf.2 q hq).2.2.1; omega)
      have g16 := g16 (by omega)
      have g17 := g17 (by omega)
      have s4 := g3 (shortS ⟨hq1, hq2⟩) ⟨by omega, fun y hy => by
        obtain ⟨q, hq, hy⟩ := List.mem_flatMap.1 hy
        rcases List.mem_cons.1 hy with rfl | hy
        · exact ⟨by simp [note0], by simp [note0], by simp [note0]⟩
        · obtain ⟨i, hi, rfl⟩ := List.mem_map.1 hy
          exact itemFine_fits ((hf.2 q hq).2.2.2 i hi)⟩
      rw [decide_eq_true ho] at g1
      generalize shortS ⟨hq1, hq2⟩ = S at *
      have t1 : decide (s < 0) = false := decide_eq_false (by omega)
      have t2 : decide (s > (l.length : Int)) = false := decide_eq_false (by omega)
      obtain ⟨e1, e2, e3, e4, ⟨e5, e6⟩⟩ := e
      simp only at d1 d2 d3 d4 d5 d6 d7 d8
      simp only [hallA, entryA, entryRow, entriesA, noteA, writeA, List.map_cons, List.map_nil] at g1 g4 g5 g6 g7 g8 g9 g10 g11 g12 g13 g14 g15 g16 g17 s1 s2 s3 s4
      clear g2 g3
      refine conW (G := G) (rs := [(8, none)]) hok Try.func3 Try.results3 Try.ntmps3 (fun _ => {}) fun X hP hD hG' hX => ?_
      simp only [argS, num, hallA, entryA, entryRow]
      simp (disch := omega) only [go_sem, Nat.reduceLeDiff, reduceCtorEq, Nat.reduceAdd, Nat.reduceSub, Nat.reduceMul, Nat.reduceLT, Nat.reduceEqDiff, Int.reduceEq, Int.reduceLE, Int.reduceLT, Int.reducePow, Int.reduceMul, Int.reduceToNat, Int.reduceNeg, ↓reduceIte, hD, hG', wrap64, g4, g5, unbox, tmv, Option.some.injEq, exists_eq_left']
      refine RegT.mk [] ?_
      simp (disch := omega) only [go_sem, Nat.reduceLeDiff, reduceCtorEq, Nat.reduceAdd, Nat.reduceSub, Nat.reduceMul, Nat.reduceLT, Nat.reduceEqDiff, Int.reduceEq, Int.reduceLE, Int.reduceLT, Int.reducePow, Int.reduceMul, Int.reduceToNat, Int.reduceNeg, ↓reduceIte, hD, hG', wrap64, g4, g5, g6, g7, s1, s2, unbox, tmv, Option.some.injEq, exists_eq_left']
      refine RegT.mk [] ?_
      simp (disch := omega) only [go_sem, Nat.reduceLeDiff, reduceCtorEq, Nat.reduceAdd, Nat.reduceSub, Nat.reduceMul, Nat.reduceLT, Nat.reduceEqDiff, Int.reduceEq, Int.reduceLE, Int.reduceLT, Int.reducePow, Int.reduceMul, Int.reduceToNat, Int.reduceNeg, ↓reduceIte, hD, hG', wrap64, g8, d1, d2, d3, d4, d5, d6, d7, d8, unbox, tmv, Option.some.injEq, exists_eq_left']
      refine RegA.mk [] (by decide) ?_
      simp (disch := omega) only [go_sem, Nat.reduceLeDiff, reduceCtorEq, Nat.reduceAdd, Nat.reduceSub, Nat.reduceMul, Nat.reduceLT, Nat.reduceEqDiff, Int.reduceEq, Int.reduceLE, Int.reduceLT, Int.reducePow, Int.reduceMul, Int.reduceToNat, Int.reduceNeg, ↓reduceIte, hD, hG', wrap64, g9, g10, g11, g12, s3, unbox, tmv, Option.some.injEq, exists_eq_left']
      refine RegT.mk [] ?_
      simp (disch := omega) only [go_sem, Nat.reduceLeDiff, reduceCtorEq, Nat.reduceAdd, Nat.reduceSub, Nat.reduceMul, Nat.reduceLT, Nat.reduceEqDiff, Int.reduceEq, Int.reduceLE, Int.reduceLT, Int.reducePow, Int.reduceMul, Int.reduceToNat, Int.reduceNeg, ↓reduceIte, hD, hG', wrap64, g1, t1, t2, unbox, tmv, Option.some.injEq, exists_eq_left']
      simp (disch := omega) only [go_sem, Nat.reduceLeDiff, reduceCtorEq, Nat.reduceAdd, Nat.reduceSub, Nat.reduceMul, Nat.reduceLT, Nat.reduceEqDiff, Int.reduceEq, Int.reduceLE, Int.reduceLT, Int.reducePow, Int.reduceMul, Int.reduceToNat, Int.reduceNeg, ↓reduceIte, hD, hG', wrap64, g13, g14, unbox, tmv, Option.some.injEq, exists_eq_left']
      (repeat (with_reducible refine And.intro (by first | omega | decide | (simp; done) | (simp only [List.length_append, List.length_cons, List.length_nil, List.length_map]; omega)) ?_))
      refine RegA.mk [] (by decide) ?_
      simp (disch := omega) only [go_sem, Nat.reduceLeDiff, reduceCtorEq, Nat.reduceAdd, Nat.reduceSub, Nat.reduceMul, Nat.reduceLT, Nat.reduceEqDiff, Int.reduceEq, Int.reduceLE, Int.reduceLT, Int.reducePow, Int.reduceMul, Int.reduceToNat, Int.reduceNeg, ↓reduceIte, hD, hG', wrap64, g15, g16, g17, s4, unbox, tmv, Option.some.injEq, exists_eq_left']
      refine endW [] [] (by simp) rfl rfl rfl ?_ ?_ <;> simp only [go_sem, Nat.reduceEqDiff]
    · obtain ⟨e1, e2, e3, e4, ⟨e5, e6⟩⟩ := e
      simp only at d1 d2 d3 d4 d5 d6 d7 d8
      simp only [hallA, entryA, entryRow, entriesA, noteA, writeA, List.map_cons, List.map_nil] at g1 g4 g5 g6 g7 g8 g9 g10 g11 g12 s1 s2 s3
      clear g2 g3 g13 g14 g15 g16 g17
      refine conW (G := G) (rs := [(8, none)]) hok Try.func3 Try.results3 Try.ntmps3 (fun _ => {}) fun X hP hD hG' hX => ?_
      simp only [argS, num, hallA, entryA, entryRow]
      simp (disch := omega) only [go_sem, Nat.reduceLeDiff, reduceCtorEq, Nat.reduceAdd, Nat.reduceSub, Nat.reduceMul, Nat.reduceLT, Nat.reduceEqDiff, Int.reduceEq, Int.reduceLE, Int.reduceLT, Int.reducePow, Int.reduceMul, Int.reduceToNat, Int.reduceNeg, ↓reduceIte, hD, hG', wrap64, g4, g5, unbox, tmv, Option.some.injEq, exists_eq_left']
      refine RegT.mk [] ?_
      simp (disch := omega) only [go_sem, Nat.reduceLeDiff, reduceCtorEq, Nat.reduceAdd, Nat.reduceSub, Nat.reduceMul, Nat.reduceLT, Nat.reduceEqDiff, Int.reduceEq, Int.reduceLE, Int.reduceLT, Int.reducePow, Int.reduceMul, Int.reduceToNat, Int.reduceNeg, ↓reduceIte, hD, hG', wrap64, g4, g5, g6, g7, s1, s2, unbox, tmv, Option.some.injEq, exists_eq_left']
      refine RegT.mk [] ?_
      simp (disch := omega) only [go_sem, Nat.reduceLeDiff, reduceCtorEq, Nat.reduceAdd, Nat.reduceSub, Nat.reduceMul, Nat.reduceLT, Nat.reduceEqDiff, Int.reduceEq, Int.reduceLE, Int.reduceLT, Int.reducePow, Int.reduceMul, Int.reduceToNat, Int.reduceNeg, ↓reduceIte, hD, hG', wrap64, g8, d1, d2, d3, d4, d5, d6, d7, d8, unbox, tmv, Option.some.injEq, exists_eq_left']
      refine RegA.mk [] (by decide) ?_
      simp (disch := omega) only [go_sem, Nat.reduceLeDiff, reduceCtorEq, Nat.reduceAdd, Nat.reduceSub, Nat.reduceMul, Nat.reduceLT, Nat.reduceEqDiff, Int.reduceEq, Int.reduceLE, Int.reduceLT, Int.reducePow, Int.reduceMul, Int.reduceToNat, Int.reduceNeg, ↓reduceIte, hD, hG', wrap64, g9, g10, g11, g12, s3, unbox, tmv, Option.some.injEq, exists_eq_left']
      by_cases ho : hallOk ⟨hq1, hq2⟩
      · rw [decide_eq_true ho] at g1
        by_cases hs0 : s < 0
        · have t1 : decide (s < 0) = true := decide_eq_true hs0
          refine RegT.mk [(8, false)] ?_
          simp (disch := omega) only [go_sem, Nat.reduceLeDiff, reduceCtorEq, Nat.reduceAdd, Nat.reduceSub, Nat.reduceMul, Nat.reduceLT, Nat.reduceEqDiff, Int.reduceEq, Int.reduceLE, Int.reduceLT, Int.reducePow, Int.reduceMul, Int.reduceToNat, Int.reduceNeg, ↓reduceIte, hD, hG', wrap64, g1, t1, unbox, tmv, Option.some.injEq, exists_eq_left']
          refine endW [] [] (by simp) rfl rfl rfl ?_ ?_ <;> simp only [go_sem, Nat.reduceEqDiff]
        · have t1 : decide (s < 0) = false := decide_eq_false hs0
          have t2 : decide (s > (l.length : Int)) = true := decide_eq_true (by
            by_cases hc : s > (l.length : Int)
            · exact hc
            · exact absurd ⟨ho, by omega, by omega⟩ hgood)
          refine RegT.mk [] ?_
          simp (disch := omega) only [go_sem, Nat.reduceLeDiff, reduceCtorEq, Nat.reduceAdd, Nat.reduceSub, Nat.reduceMul, Nat.reduceLT, Nat.reduceEqDiff, Int.reduceEq, Int.reduceLE, Int.reduceLT, Int.reducePow, Int.reduceMul, Int.reduceToNat, Int.reduceNeg, ↓reduceIte, hD, hG', wrap64, g1, t1, t2, unbox, tmv, Option.some.injEq, exists_eq_left']
          refine endW [] [] (by simp) rfl rfl rfl ?_ ?_ <;> simp only [go_sem, Nat.reduceEqDiff]
      · rw [decide_eq_false ho] at g1
        refine RegT.mk [(3, false), (8, false)] ?_
        simp (disch := omega) only [go_sem, Nat.reduceLeDiff, reduceCtorEq, Nat.reduceAdd, Nat.reduceSub, Nat.reduceMul, Nat.reduceLT, Nat.reduceEqDiff, Int.reduceEq, Int.reduceLE, Int.reduceLT, Int.reducePow, Int.reduceMul, Int.reduceToNat, Int.reduceNeg, ↓reduceIte, hD, hG', wrap64, g1, unbox, tmv, Option.some.injEq, exists_eq_left']
        refine endW [] [] (by simp) rfl rfl rfl ?_ ?_ <;> simp only [go_sem, Nat.reduceEqDiff]
  · obtain ⟨e1, e2, e3, e4, ⟨e5, e6⟩⟩ := e
    simp only [hallA, entryA, entryRow, entriesA, noteA, List.map_cons, List.map_nil] at g1 g4 g5 g6 g7 g8 s1 s2
    clear g2 g3 g9 g10 g11 g12 g13 g14 g15 g16 g17
    refine conW (G := G) (rs := [(8, none)]) hok Try.func3 Try.results3 Try.ntmps3 (fun _ => {}) fun X hP hD hG' hX => ?_
    simp only [argS, num, hallA, entryA, entryRow]
    simp (disch := omega) only [go_sem, Nat.reduceLeDiff, reduceCtorEq, Nat.reduceAdd, Nat.reduceSub, Nat.reduceMul, Nat.reduceLT, Nat.reduceEqDiff, Int.reduceEq, Int.reduceLE, Int.reduceLT, Int.reducePow, Int.reduceMul, Int.reduceToNat, Int.reduceNeg, ↓reduceIte, hD, hG', wrap64, g4, g5, unbox, tmv, Option.some.injEq, exists_eq_left']
    refine RegT.mk [] ?_
    simp (disch := omega) only [go_sem, Nat.reduceLeDiff, reduceCtorEq, Nat.reduceAdd, Nat.reduceSub, Nat.reduceMul, Nat.reduceLT, Nat.reduceEqDiff, Int.reduceEq, Int.reduceLE, Int.reduceLT, Int.reducePow, Int.reduceMul, Int.reduceToNat, Int.reduceNeg, ↓reduceIte, hD, hG', wrap64, g4, g5, g6, g7, s1, s2, unbox, tmv, Option.some.injEq, exists_eq_left']
    refine RegT.mk [] ?_
    simp (disch := omega) only [go_sem, Nat.reduceLeDiff, reduceCtorEq, Nat.reduceAdd, Nat.reduceSub, Nat.reduceMul, Nat.reduceLT, Nat.reduceEqDiff, Int.reduceEq, Int.reduceLE, Int.reduceLT, Int.reducePow, Int.reduceMul, Int.reduceToNat, Int.reduceNeg, ↓reduceIte, hD, hG', wrap64, g8, unbox, tmv, Option.some.injEq, exists_eq_left']
    and_intros
    all_goals (try (first | decide | omega | (first | (intro hk; refine ⟨hk, fun h2 => ?_⟩; first | (rw [hk, h2]; rfl) | (rw [hk, decide_eq_false h2]; rfl)) | (intro hk; rw [decide_eq_false hk]; rfl) | (intro hk; rw [hk]; rfl))))
    refine condK_split (fun h => ?_) (fun h => ?_)
    · simp (disch := omega) only [go_sem, Nat.reduceLeDiff, reduceCtorEq, Nat.reduceAdd, Nat.reduceSub, Nat.reduceMul, Nat.reduceLT, Nat.reduceEqDiff, Int.reduceEq, Int.reduceLE, Int.reduceLT, Int.reducePow, Int.reduceMul, Int.reduceToNat, Int.reduceNeg, ↓reduceIte, hD, hG', wrap64, unbox, tmv, Option.some.injEq, exists_eq_left']
      refine endW [] [] (by simp) rfl rfl rfl ?_ ?_ <;> simp only [go_sem, Nat.reduceEqDiff]
    · exfalso
      refine hni (fun hc => ?_)
      simp only [size_len] at h
      revert h
      simp only at hc
      by_cases c1 : e1 < 1
      · simp [c1]
      by_cases c2 : e1 > 4
      · simp [c2]
      by_cases c3 : e2.size > 100
      · simp; intros; omega
      by_cases c4 : e3 < 0
      · simp [c4]
      by_cases c5 : e3 > 255
      · simp [c5]
      by_cases c6 : e4 < 0
      · simp [c6]
      by_cases c7 : e4 > 1000000
      · simp; intros; omega
      have c8 : wrongS ⟨e5, e6⟩ ≠ 0 := by omega
      simp only [Bool.if_true_left, decide_eq_false_iff_not, not_or]
      simp
      intros
      assumption
end Go.Proofs.Ythbejciebmkclaa.Ab
namespace Go.Proofs.Ythbejciebmkclaa.Ab
open Go Go.RowKit
set_option linter.unusedVariables false
set_option linter.unusedSimpArgs false

theorem shp_queueB {m B : Nat} (hB : B ≤ 1048576) {us : List AV} (h : Shp D B (m + 7) 71 us) : ∃ q : LQueue, us = queueRow q ∧ (q.items.length ≤ B ∧ ∀ i ∈ q.items, i.note.Fits) ∧ q.name.size ≤ 1048576 := by
  have h := shp_struct (fs := [(0, 9), (1, 3), (2, 69)]) (by simp only [D_1, D_2, D_3, D_4, D_5, D_6, D_7, D_8, D_9, D_10, D_11, D_12, D_13, D_14, D_15, D_16, D_17, D_18, D_19, D_21, D_22, D_23, D_24, D_25, D_26, D_27, D_28, D_29, D_30, D_31, D_32, D_33, D_35, D_36, D_37, D_38, D_39, D_40, D_41, D_42, D_43, D_45, D_46, D_47, D_48, D_49, D_50, D_51, D_52, D_53, D_55, D_56, D_57, D_58, D_60, D_61, D_62, D_63, D_64, D_65, D_67, D_68, D_69, D_70, D_71, D_72, D_73, D_74, D_75, D_76, D_77, D_78, D_79, D_80, D_81, D_82, D_83, D_84, D_85, D_86, D_87, D_88, D_89, D_91, D_93, D_94, D_95, D_97, D_98, D_99, D_101, D_103, D_104, D_105, D_106, D_108, D_109, D_110, D_111, D_113, D_114, D_115, D_116, D_117, D_118, D_119, D_120, D_121, D_122, D_124, D_125, D_127, D_128, D_130, D_132, D_133, D_134, D_135, D_136, D_138, D_139, D_141, D_143, D_144, D_145, D_147, D_148, D_149, D_150, D_151, D_153, D_154, D_155, D_156, D_157, D_158, D_159, D_160, D_161, D_162, D_163, D_164, D_165, D_166, D_167, D_168, D_169, D_170, D_171, D_172, D_173, D_174, D_178, D_179, D_180, D_181, D_182, D_183, D_184, D_185, D_186]) h
  simp only [ShpF] at h
  obtain ⟨_, _, rfl, h1, _, _, rfl, h2, _, _, rfl, h3, rfl⟩ := h
  obtain ⟨s, rfl, hs⟩ := shp_str (t := 9) rfl h1
  obtain ⟨n, rfl, _⟩ := shp_i64 (t := 3) rfl h2
  obtain ⟨rs, rfl, hl, hr⟩ := shp_slice (e := 65) (by simp only [D_1, D_2, D_3, D_4, D_5, D_6, D_7, D_8, D_9, D_10, D_11, D_12, D_13, D_14, D_15, D_16, D_17, D_18, D_19, D_21, D_22, D_23, D_24, D_25, D_26, D_27, D_28, D_29, D_30, D_31, D_32, D_33, D_35, D_36, D_37, D_38, D_39, D_40, D_41, D_42, D_43, D_45, D_46, D_47, D_48, D_49, D_50, D_51, D_52, D_53, D_55, D_56, D_57, D_58, D_60, D_61, D_62, D_63, D_64, D_65, D_67, D_68, D_69, D_70, D_71, D_72, D_73, D_74, D_75, D_76, D_77, D_78, D_79, D_80, D_81, D_82, D_83, D_84, D_85, D_86, D_87, D_88, D_89, D_91, D_93, D_94, D_95, D_97, D_98, D_99, D_101, D_103, D_104, D_105, D_106, D_108, D_109, D_110, D_111, D_113, D_114, D_115, D_116, D_117, D_118, D_119, D_120, D_121, D_122, D_124, D_125, D_127, D_128, D_130, D_132, D_133, D_134, D_135, D_136, D_138, D_139, D_141, D_143, D_144, D_145, D_147, D_148, D_149, D_150, D_151, D_153, D_154, D_155, D_156, D_157, D_158, D_159, D_160, D_161, D_162, D_163, D_164, D_165, D_166, D_167, D_168, D_169, D_170, D_171, D_172, D_173, D_174, D_178, D_179, D_180, D_181, D_182, D_183, D_184, D_185, D_186]) h3
  obtain ⟨l, rfl, h4⟩ := shp_rows (f := itemRow) (Q := fun i => i.note.Fits) fun row hrow => by
    obtain ⟨i, h1, h2, h3, h4⟩ := shp_item (hr row hrow)
    exact ⟨i, h1, fun p hp => ⟨by have := (h4 p hp).1; omega, by have := (h4 p hp).2; omega⟩, by omega, by omega⟩
  refine ⟨⟨s, n, l⟩, ?_, ⟨by simpa using hl, h4⟩, show s.size ≤ 1048576 by omega⟩
  simp only [D_1, D_2, D_3, D_4, D_5, D_6, D_7, D_8, D_9, D_10, D_11, D_12, D_13, D_14, D_15, D_16, D_17, D_18, D_19, D_21, D_22, D_23, D_24, D_25, D_26, D_27, D_28, D_29, D_30, D_31, D_32, D_33, D_35, D_36, D_37, D_38, D_39, D_40, D_41, D_42, D_43, D_45, D_46, D_47, D_48, D_49, D_50, D_51, D_52, D_53, D_55, D_56, D_57, D_58, D_60, D_61, D_62, D_63, D_64, D_65, D_67, D_68, D_69, D_70, D_71, D_72, D_73, D_74, D_75, D_76, D_77, D_78, D_79, D_80, D_81, D_82, D_83, D_84, D_85, D_86, D_87, D_88, D_89, D_91, D_93, D_94, D_95, D_97, D_98, D_99, D_101, D_103, D_104, D_105, D_106, D_108, D_109, D_110, D_111, D_113, D_114, D_115, D_116, D_117, D_118, D_119, D_120, D_121, D_122, D_124, D_125, D_127, D_128, D_130, D_132, D_133, D_134, D_135, D_136, D_138, D_139, D_141, D_143, D_144, D_145, D_147, D_148, D_149, D_150, D_151, D_153, D_154, D_155, D_156, D_157, D_158, D_159, D_160, D_161, D_162, D_163, D_164, D_165, D_166, D_167, D_168, D_169, D_170, D_171, D_172, D_173, D_174, D_178, D_179, D_180, D_181, D_182, D_183, D_184, D_185, D_186]; rfl
theorem shp_hallB {m B : Nat} (hB : B ≤ 1048576) {us : List AV} (h : Shp D B (m + 9) 24 us) : ∃ x : LHall, AV.agg us = hallA x ∧ hallLe B x := by
  have h := shp_struct (fs := [(0, 22), (1, 3)]) (by simp only [D_1, D_2, D_3, D_4, D_5, D_6, D_7, D_8, D_9, D_10, D_11, D_12, D_13, D_14, D_15, D_16, D_17, D_18, D_19, D_21, D_22, D_23, D_24, D_25, D_26, D_27, D_28, D_29, D_30, D_31, D_32, D_33, D_35, D_36, D_37, D_38, D_39, D_40, D_41, D_42, D_43, D_45, D_46, D_47, D_48, D_49, D_50, D_51, D_52, D_53, D_55, D_56, D_57, D_58, D_60, D_61, D_62, D_63, D_64, D_65, D_67, D_68, D_69, D_70, D_71, D_72, D_73, D_74, D_75, D_76, D_77, D_78, D_79, D_80, D_81, D_82, D_83, D_84, D_85, D_86, D_87, D_88, D_89, D_91, D_93, D_94, D_95, D_97, D_98, D_99, D_101, D_103, D_104, D_105, D_106, D_108, D_109, D_110, D_111, D_113, D_114, D_115, D_116, D_117, D_118, D_119, D_120, D_121, D_122, D_124, D_125, D_127, D_128, D_130, D_132, D_133, D_134, D_135, D_136, D_138, D_139, D_141, D_143, D_144, D_145, D_147, D_148, D_149, D_150, D_151, D_153, D_154, D_155, D_156, D_157, D_158, D_159, D_160, D_161, D_162, D_163, D_164, D_165, D_166, D_167, D_168, D_169, D_170, D_171, D_172, D_173, D_174, D_178, D_179, D_180, D_181, D_182, D_183, D_184, D_185, D_186]) h
  simp only [ShpF] at h
  obtain ⟨_, _, rfl, h1, _, _, rfl, h2, rfl⟩ := h
  obtain ⟨rs, rfl, hl, hr⟩ := shp_slice (e := 71) (by simp only [D_1, D_2, D_3, D_4, D_5, D_6, D_7, D_8, D_9, D_10, D_11, D_12, D_13, D_14, D_15, D_16, D_17, D_18, D_19, D_21, D_22, D_23, D_24, D_25, D_26, D_27, D_28, D_29, D_30, D_31, D_32, D_33, D_35, D_36, D_37, D_38, D_39, D_40, D_41, D_42, D_43, D_45, D_46, D_47, D_48, D_49, D_50, D_51, D_52, D_53, D_55, D_56, D_57, D_58, D_60, D_61, D_62, D_63, D_64, D_65, D_67, D_68, D_69, D_70, D_71, D_72, D_73, D_74, D_75, D_76, D_77, D_78, D_79, D_80, D_81, D_82, D_83, D_84, D_85, D_86, D_87, D_88, D_89, D_91, D_93, D_94, D_95, D_97, D_98, D_99, D_101, D_103, D_104, D_105, D_106, D_108, D_109, D_110, D_111, D_113, D_114, D_115, D_116, D_117, D_118, D_119, D_120, D_121, D_122, D_124, D_125, D_127, D_128, D_130, D_132, D_133, D_134, D_135, D_136, D_138, D_139, D_141, D_143, D_144, D_145, D_147, D_148, D_149, D_150, D_151, D_153, D_154, D_155, D_156, D_157, D_158, D_159, D_160, D_161, D_162, D_163, D_164, D_165, D_166, D_167, D_168, D_169, D_170, D_171, D_172, D_173, D_174, D_178, D_179, D_180, D_181, D_182, D_183, D_184, D_185, D_186]) h1
  obtain ⟨l, rfl, h4⟩ := shp_rows (f := queueRow) (Q := fun q => (q.items.length ≤ B ∧ ∀ i ∈ q.items, i.note.Fits) ∧ q.name.size ≤ 1048576) fun row hrow => by
    obtain ⟨q, h1, h3, h4⟩ := shp_queueB hB (hr row hrow)
    exact ⟨q, h1, h3, h4⟩
  obtain ⟨n, rfl, _⟩ := shp_i64 (t := 3) rfl h2
  refine ⟨⟨l, n⟩, ?_, ⟨by simpa using hl, h4⟩⟩
  simp only [hallA, D_1, D_2, D_3, D_4, D_5, D_6, D_7, D_8, D_9, D_10, D_11, D_12, D_13, D_14, D_15, D_16, D_17, D_18, D_19, D_21, D_22, D_23, D_24, D_25, D_26, D_27, D_28, D_29, D_30, D_31, D_32, D_33, D_35, D_36, D_37, D_38, D_39, D_40, D_41, D_42, D_43, D_45, D_46, D_47, D_48, D_49, D_50, D_51, D_52, D_53, D_55, D_56, D_57, D_58, D_60, D_61, D_62, D_63, D_64, D_65, D_67, D_68, D_69, D_70, D_71, D_72, D_73, D_74, D_75, D_76, D_77, D_78, D_79, D_80, D_81, D_82, D_83, D_84, D_85, D_86, D_87, D_88, D_89, D_91, D_93, D_94, D_95, D_97, D_98, D_99, D_101, D_103, D_104, D_105, D_106, D_108, D_109, D_110, D_111, D_113, D_114, D_115, D_116, D_117, D_118, D_119, D_120, D_121, D_122, D_124, D_125, D_127, D_128, D_130, D_132, D_133, D_134, D_135, D_136, D_138, D_139, D_141, D_143, D_144, D_145, D_147, D_148, D_149, D_150, D_151, D_153, D_154, D_155, D_156, D_157, D_158, D_159, D_160, D_161, D_162, D_163, D_164, D_165, D_166, D_167, D_168, D_169, D_170, D_171, D_172, D_173, D_174, D_178, D_179, D_180, D_181, D_182, D_183, D_184, D_185, D_186]; rfl
theorem shp_entry {m : Nat} {us : List AV} (h : Shp D 1048576 (m + 5) 30 us) : ∃ e : LEntry, us = entryRow e ∧ AV.agg us = entryA e ∧ e.note.Fits ∧ e.queue.size ≤ 1048576 := by
  have h := shp_struct (fs := [(0, 3), (1, 9), (2, 3), (3, 3), (4, 28)]) (by simp only [D_1, D_2, D_3, D_4, D_5, D_6, D_7, D_8, D_9, D_10, D_11, D_12, D_13, D_14, D_15, D_16, D_17, D_18, D_19, D_21, D_22, D_23, D_24, D_25, D_26, D_27, D_28, D_29, D_30, D_31, D_32, D_33, D_35, D_36, D_37, D_38, D_39, D_40, D_41, D_42, D_43, D_45, D_46, D_47, D_48, D_49, D_50, D_51, D_52, D_53, D_55, D_56, D_57, D_58, D_60, D_61, D_62, D_63, D_64, D_65, D_67, D_68, D_69, D_70, D_71, D_72, D_73, D_74, D_75, D_76, D_77, D_78, D_79, D_80, D_81, D_82, D_83, D_84, D_85, D_86, D_87, D_88, D_89, D_91, D_93, D_94, D_95, D_97, D_98, D_99, D_101, D_103, D_104, D_105, D_106, D_108, D_109, D_110, D_111, D_113, D_114, D_115, D_116, D_117, D_118, D_119, D_120, D_121, D_122, D_124, D_125, D_127, D_128, D_130, D_132, D_133, D_134, D_135, D_136, D_138, D_139, D_141, D_143, D_144, D_145, D_147, D_148, D_149, D_150, D_151, D_153, D_154, D_155, D_156, D_157, D_158, D_159, D_160, D_161, D_162, D_163, D_164, D_165, D_166, D_167, D_168, D_169, D_170, D_171, D_172, D_173, D_174, D_178, D_179, D_180, D_181, D_182, D_183, D_184, D_185, D_186]) h
  simp only [ShpF] at h
  obtain ⟨_, _, rfl, h1, _, _, rfl, h2, _, _, rfl, h3, _, _, rfl, h4, _, _, rfl, h5, rfl⟩ := h
  obtain ⟨a, rfl, _⟩ := shp_i64 (t := 3) rfl h1
  obtain ⟨b, rfl, hb⟩ := shp_str (t := 9) rfl h2
  obtain ⟨c, rfl, _⟩ := shp_i64 (t := 3) rfl h3
  obtain ⟨d, rfl, _⟩ := shp_i64 (t := 3) rfl h4
  obtain ⟨x, _, rfl, q1, q2, q3⟩ := shp_note h5
  exact ⟨⟨a, b, c, d, x⟩, rfl, rfl, ⟨q3, q1, q2⟩, hb⟩
theorem shp_log {m : Nat} {B : Nat} {us : List AV} (h : Shp D B (m + 3) 32 us) : ∃ (l : List UInt8) (s : Int), AV.agg us = .agg [.sl 1 (l.map byteRow), .int .i64 s] ∧ l.length ≤ B := by
  have h := shp_struct (fs := [(0, 26), (1, 3)]) (by simp only [D_1, D_2, D_3, D_4, D_5, D_6, D_7, D_8, D_9, D_10, D_11, D_12, D_13, D_14, D_15, D_16, D_17, D_18, D_19, D_21, D_22, D_23, D_24, D_25, D_26, D_27, D_28, D_29, D_30, D_31, D_32, D_33, D_35, D_36, D_37, D_38, D_39, D_40, D_41, D_42, D_43, D_45, D_46, D_47, D_48, D_49, D_50, D_51, D_52, D_53, D_55, D_56, D_57, D_58, D_60, D_61, D_62, D_63, D_64, D_65, D_67, D_68, D_69, D_70, D_71, D_72, D_73, D_74, D_75, D_76, D_77, D_78, D_79, D_80, D_81, D_82, D_83, D_84, D_85, D_86, D_87, D_88, D_89, D_91, D_93, D_94, D_95, D_97, D_98, D_99, D_101, D_103, D_104, D_105, D_106, D_108, D_109, D_110, D_111, D_113, D_114, D_115, D_116, D_117, D_118, D_119, D_120, D_121, D_122, D_124, D_125, D_127, D_128, D_130, D_132, D_133, D_134, D_135, D_136, D_138, D_139, D_141, D_143, D_144, D_145, D_147, D_148, D_149, D_150, D_151, D_153, D_154, D_155, D_156, D_157, D_158, D_159, D_160, D_161, D_162, D_163, D_164, D_165, D_166, D_167, D_168, D_169, D_170, D_171, D_172, D_173, D_174, D_178, D_179, D_180, D_181, D_182, D_183, D_184, D_185, D_186]) h
  simp only [ShpF] at h
  obtain ⟨_, _, rfl, h1, _, _, rfl, h2, rfl⟩ := h
  obtain ⟨l, rfl, hl⟩ := shp_bytes h1
  obtain ⟨n, rfl, _⟩ := shp_i64 (t := 3) rfl h2
  exact ⟨l, n, rfl, hl⟩
end Go.Proofs.Ythbejciebmkclaa.Ab
