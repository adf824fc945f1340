/-
  Texts of the proof, one behind the other: JoC JoD JoE JoF JoG JoH JoI JoL JoN.
  No condition but those that each theorem names.
-/
import Derived.Test.YthbejciebmkclaaGD
import Derived.Test.YthbejciebmkclaaGC
import Derived.Test.YthbejciebmkclaaGH
import Derived.Test.YthbejciebmkclaaGK
import Derived.Test.YthbejciebmkclaaGJ
namespace Go.Proofs.Ythbejciebmkclaa.Ab
open Go Go.RowKit
set_option linter.unusedVariables false
set_option linter.unusedSimpArgs false

theorem numS_flat (w : World) (im : Nat → Prop) (ρ : Env) (n : Int) : FlatRel w im ρ 1 ((numS n).map byteRow) ((numS n).map byteV) := by
  refine ⟨by simp, fun i row hi => ?_⟩
  rw [List.getElem?_map] at hi
  obtain ⟨b, hb, rfl⟩ := Option.map_eq_some_iff.1 hi
  refine ⟨rfl, fun j x hj => ?_⟩
  cases j with
  | succ j => simp [byteRow] at hj
  | zero =>
    simp [byteRow] at hj
    subst hj
    refine ⟨by simp [names], byteV b, ?_, rfl, .int _ _⟩
    rw [Nat.mul_one, Nat.add_zero, List.getElem?_map, hb]
    rfl
theorem numS_vals (n : Int) : (numS n).map byteV = [.int .u8 (n / 16777216 % 256), .int .u8 (n / 65536 % 256), .int .u8 (n / 256 % 256), .int .u8 (n % 256)] := by
  simp only [numS, List.map_cons, List.map_nil, byteV, byteI_nat]
set_option maxRecDepth 40000 in
set_option maxHeartbeats 400000 in
theorem jnum_calls (n : Int) (rs : List (List AV)) (hn : rs.length ≤ 8388608) (w : World) (im : Nat → Prop) (ρ : Env) (u : Value) (xs : List Value) (hown : w.ownsRow 0 5 1 u rs.length xs) (hf : FlatRel w im ρ 1 rs xs) :
    Calls Try.prog 76 #[u, .int .i64 n] w (RowsPost w im ρ 5 1 u (rs ++ (numS n).map byteRow)) := by
  obtain ⟨i0, hi0, hz0, hz1, hz2⟩ := info_parts info_u8
  have HO := Lib.hid hown
  have HF := Lib.hid hf
  clear hown hf
  go_enter Try.func76, Try.ntmps76
  have HN := Lib.hid (numS_vals n)
  go_wp2_with (at_builtin; refine wpList_append_any _ rfl (.tmp 5) (.tmp 17) _ rfl 0 5 i0 _ 1 1 Try.underlying26 hi0 hz0 hz1 hz2 rfl (by omega) u rs.length xs rfl (own_later HO.out (by repeat (first | exact Below.refl _ _ | apply below_alloc | apply Below.drew | apply below_drewN))) (· = w.heap.size) (some ⟨w.heap.size, 0, none⟩) 4 4 ((numS n).map byteV) rfl (by rw [HN.out]; exact reads_lit w _ 5 1 4 rfl) (one_bytes _) (by simp only [maxLen]; omega) (by omega) (by simp) ?_; intro v1 w1 hown1 hg1 hat1)
  go_ret
  have hlen : (rs ++ (numS n).map byteRow).length = rs.length + 4 := by simp [numS]
  refine ⟨v1, xs ++ (numS n).map byteV, rfl, ?_, HF.out.append (numS_flat w im ρ n), ?_, ?_⟩
  · rw [hlen]; exact hown1
  · exact ⟨hg1.os, hg1.tape, hg1.output, by have := hg1.size; simp at this; omega, fun g hg hne => by rw [hg1.block g (by simp; omega) hne]; exact Below.heap_alloc w _ g hg⟩
  · intro b hb
    rcases hat1 with h | h
    · rw [h] at hb; exact .inl hb
    · rw [h] at hb
      have : b = w.heap.size + 1 := by simpa using hb.symm
      exact .inr (by omega)
/-- what num does to bytes of our own -/
def jnumM : MCtr := fun dn f args bl => if f = 76 then
    match args with
    | [.os v, .int .i64 n] => match bl v with
      | some (.rows e sz rs) => some { v := .os dn, kl := [v], nw := [(dn, .rows e sz (rs ++ (numS n).map byteRow))], pre := (e = 5 ∧ sz = 1) ∧ rs.length ≤ 8388608 }
      | _ => none
    | _ => none
  else none
theorem mok_jnum {G : Ctr} : MOk Try.prog D G jnumM := by
  intro X hP hD hG hM hmx hT hok ops o σ e hgd he hpre hfr
  obtain ⟨dst, f, args, types, ty, pos, af, g, caps, rfl, hf, he⟩ := mEff_call he hgd
  unfold jnumM at he
  split at he
  case isFalse => cases he
  rename_i hg91
  subst hg91
  split at he
  case h_2 => cases he
  rename_i v n hargs
  split at he
  case h_2 => cases he
  rename_i e0 sz rs hbl
  have hbl := snap_some hbl
  injection he with he
  subst he
  obtain ⟨⟨rfl, rfl⟩, hl⟩ := hpre
  simp only [fresh, keys, unbound, Bool.and_eq_true, Option.isNone_iff_eq_none] at hfr
  refine inl_rows (by rw [hP, hD]; exact hT) hf hargs hbl (by rw [hP]; exact Try.func76) rfl (by decide) hfr.1.1 (fun k hk => ?_) (fun w im ρ u vs xs h1 h2 h3 h4 h5 => ?_)
  · have := hfr.2
    rw [hk] at this
    simpa using this
  · obtain ⟨h6, h7⟩ := h4
    match vs, h6 with
    | [y], _ =>
      have := h7 0 _ y rfl rfl
      rw [this.int_, hP]
      exact jnum_calls n rs hl w im ρ u xs h1 h2

theorem rowApp (a b : List UInt8) : a.map byteRow ++ b.map byteRow = (a ++ b).map byteRow := List.map_append.symm
def entryB (e : LEntry) : List UInt8 := byteI e.kind :: (textS e.queue.data.toList ++ (if e.kind = 1 then [byteI e.n] else if e.kind = 2 then [] else numS e.id ++ (if e.kind = 3 then bytesN e.note else [])))
def jbytesLo : Nat → Lo := fun id => match id with | 6 => {uo := [3, 7], ex := [0, 8], kn := [14, 30]} | _ => {}
set_option maxRecDepth 100000 in
set_option maxHeartbeats 1000000 in
theorem con_jbytes (e : LEntry) (hk : 1 ≤ e.kind ∧ e.kind ≤ 4) (hq : e.queue.size ≤ 1048576) (hn : e.note.Fits) (hb : (bytesN e.note).length ≤ 4194304) : Con Try.prog D 19 [entryA e] ⟨.sl 1 ((entryB e).map byteRow), []⟩ := by
  have hok : GOk Try.prog D (tabG [eBytes]) := tabG_ok _
  have g1 := tabG_use (T := [eBytes]) (E := eBytes) (i := 0) rfl (by decide) (e.note) (⟨hn, hb⟩)
  have gn : ∀ a, tabG ([eBytes] : List (Ent Try.prog D)) 76 a = none := fun a => rfl
  generalize tabG [eBytes] = G at *
  dsimp only [eBytes] at g1
  have hs := size_len e.queue
  obtain ⟨ek, eq, en, ei, ⟨ep, eb⟩⟩ := e
  simp only [noteA] at g1
  simp only at hk hq hs hb
  have hn4 := num4 ei
  refine conM mok_jnum (G := G) (rs := [(2, none)]) hok Try.func19 Try.results19 Try.ntmps19 jbytesLo fun X hP hD hG' hX => ?_
  simp only [argS, num, entryA, entryRow]
  simp (disch := omega) only [go_sem, Nat.reduceLeDiff, reduceCtorEq, Nat.reduceAdd, Nat.reduceSub, Nat.reduceMul, Nat.reduceLT, Nat.reduceEqDiff, Int.reduceEq, Int.reduceLE, Int.reduceLT, Int.reducePow, Int.reduceMul, Int.reduceToNat, Int.reduceNeg, ↓reduceIte, hD, hG', wrap64, jbytesLo, wrap8, gn, unbox, tmv, Option.some.injEq, exists_eq_left']
  ((try and_intros); all_goals (try first | omega | decide | (simp; done) | (simp only [List.length_append, List.length_cons, List.length_nil, List.length_map]; omega)))
  have e4 : ek = 1 ∨ ek = 2 ∨ ek = 3 ∨ ek = 4 := by omega
  have hlen : (entryB ⟨ek, eq, en, ei, ⟨ep, eb⟩⟩).length ≤ 6000000 := by
    simp only [entryB, textS, List.length_cons, List.length_append]
    split
    · simp; omega
    · split
      · simp; omega
      · split <;> simp only [List.length_append, List.length_nil] <;> omega
  rcases e4 with h | h | h | h
  · have e1 : (ek == 1) = true := by simp [h]
    have he : entryB ⟨ek, eq, en, ei, ⟨ep, eb⟩⟩ = byteI ek :: byteI eq.data.toList.length :: (eq.data.toList ++ [byteI en]) := by simp [entryB, h, textS]
    rw [he]
    simp (disch := omega) only [go_sem, Nat.reduceLeDiff, reduceCtorEq, Nat.reduceAdd, Nat.reduceSub, Nat.reduceMul, Nat.reduceLT, Nat.reduceEqDiff, Int.reduceEq, Int.reduceLE, Int.reduceLT, Int.reducePow, Int.reduceMul, Int.reduceToNat, Int.reduceNeg, ↓reduceIte, hD, hG', wrap64, jbytesLo, wrap8, gn, e1, rowApp, unbox, tmv, Option.some.injEq, exists_eq_left']
    (repeat (with_reducible refine And.intro (by first | omega | decide | (simp; done) | (simp only [List.length_append, List.length_cons, List.length_nil, List.length_map]; omega)) ?_))
    refine endW [24] [] (by simp) rfl rfl rfl ?_ ?_ <;> simp only [go_sem, Nat.reduceEqDiff]
    simp [byteRow]
  · have e1 : (ek == 1) = false := by simp [h]
    have e3 : (ek == 3) = false := by simp [h]
    have e4 : (ek == 4) = false := by simp [h]
    have he : entryB ⟨ek, eq, en, ei, ⟨ep, eb⟩⟩ = byteI ek :: byteI eq.data.toList.length :: eq.data.toList := by simp [entryB, h, textS]
    rw [he]
    simp (disch := omega) only [go_sem, Nat.reduceLeDiff, reduceCtorEq, Nat.reduceAdd, Nat.reduceSub, Nat.reduceMul, Nat.reduceLT, Nat.reduceEqDiff, Int.reduceEq, Int.reduceLE, Int.reduceLT, Int.reducePow, Int.reduceMul, Int.reduceToNat, Int.reduceNeg, ↓reduceIte, hD, hG', wrap64, jbytesLo, wrap8, gn, e1, e3, e4, rowApp, unbox, tmv, Option.some.injEq, exists_eq_left']
    refine endW [14] [] (by simp) rfl rfl rfl ?_ ?_ <;> simp only [go_sem, Nat.reduceEqDiff]
    simp [byteRow]
  · have e1 : (ek == 1) = false := by simp [h]
    have e3 : (ek == 3) = true := by simp [h]
    have e4 : (ek == 4) = false := by simp [h]
    have he : entryB ⟨ek, eq, en, ei, ⟨ep, eb⟩⟩ = byteI ek :: byteI eq.data.toList.length :: (eq.data.toList ++ numS ei ++ bytesN ⟨ep, eb⟩) := by simp [entryB, h, textS]
    rw [he]
    simp (disch := omega) only [go_sem, Nat.reduceLeDiff, reduceCtorEq, Nat.reduceAdd, Nat.reduceSub, Nat.reduceMul, Nat.reduceLT, Nat.reduceEqDiff, Int.reduceEq, Int.reduceLE, Int.reduceLT, Int.reducePow, Int.reduceMul, Int.reduceToNat, Int.reduceNeg, ↓reduceIte, hD, hG', wrap64, jbytesLo, wrap8, gn, g1, asked_none, jnumM, e1, e3, e4, rowApp, unbox, tmv, Option.some.injEq, exists_eq_left']
    (repeat (with_reducible refine And.intro (by first | omega | decide | (simp; done) | (simp only [List.length_append, List.length_cons, List.length_nil, List.length_map]; omega)) ?_))
    refine endW [34] [] (by simp) rfl rfl rfl ?_ ?_ <;> simp only [go_sem, Nat.reduceEqDiff]
    simp [byteRow]
  · have e1 : (ek == 1) = false := by simp [h]
    have e3 : (ek == 3) = false := by simp [h]
    have e4 : (ek == 4) = true := by simp [h]
    have he : entryB ⟨ek, eq, en, ei, ⟨ep, eb⟩⟩ = byteI ek :: byteI eq.data.toList.length :: (eq.data.toList ++ numS ei) := by simp [entryB, h, textS]
    rw [he]
    simp (disch := omega) only [go_sem, Nat.reduceLeDiff, reduceCtorEq, Nat.reduceAdd, Nat.reduceSub, Nat.reduceMul, Nat.reduceLT, Nat.reduceEqDiff, Int.reduceEq, Int.reduceLE, Int.reduceLT, Int.reducePow, Int.reduceMul, Int.reduceToNat, Int.reduceNeg, ↓reduceIte, hD, hG', wrap64, jbytesLo, wrap8, gn, asked_none, jnumM, e1, e3, e4, rowApp, unbox, tmv, Option.some.injEq, exists_eq_left']
    (repeat (with_reducible refine And.intro (by first | omega | decide | (simp; done) | (simp only [List.length_append, List.length_cons, List.length_nil, List.length_map]; omega)) ?_))
    refine endW [40] [] (by simp) rfl rfl rfl ?_ ?_ <;> simp only [go_sem, Nat.reduceEqDiff]
    simp [byteRow]
end Go.Proofs.Ythbejciebmkclaa.Ab
namespace Go.Proofs.Ythbejciebmkclaa.Ab
open Go Go.RowKit
set_option linter.unusedVariables false
set_option linter.unusedSimpArgs false

def entryZ : LEntry := ⟨0, ⟨#[]⟩, 0, 0, note0⟩
def entryK (k : Nat) (q : List UInt8) (r : List UInt8) : LEntry × Int :=
  if k < 1 ∨ 4 < k then (entryZ, 1)
  else if k = 1 ∧ r.length = 1 then (⟨1, ⟨⟨q⟩⟩, (r.getD 0 0).toNat, 0, note0⟩, 0)
  else if k = 2 ∧ r.length = 0 then (⟨2, ⟨⟨q⟩⟩, 0, 0, note0⟩, 0)
  else if k = 4 ∧ r.length = 4 then (⟨4, ⟨⟨q⟩⟩, 0, numN r, note0⟩, 0)
  else if k = 3 ∧ 4 ≤ r.length then
    if (parseS (r.drop 4)).2.2 = 0 ∧ (parseS (r.drop 4)).2.1 = r.length - 4 then (⟨3, ⟨⟨q⟩⟩, 0, numN r, (parseS (r.drop 4)).1⟩, 0) else (entryZ, 2)
  else (entryZ, 2)
/-- the entry of bytes, an errno's number -/
def entryP (l : List UInt8) : LEntry × Int :=
  if l.length < 2 ∨ l.length < 2 + (l.getD 1 0).toNat then (entryZ, 2)
  else entryK (l.getD 0 0).toNat ((l.take (2 + (l.getD 1 0).toNat)).drop 2) (l.drop (2 + (l.getD 1 0).toNat))
theorem parseS_len (l : List UInt8) : (parseS l).2.1 ≤ l.length := by
  unfold parseS
  split
  · simp
  · split
    · simp
    · split
      · simp
      · split
        · simp
        · split <;> simp
theorem orN64 (i a b : Nat) (hb : b < 2 ^ i) (ha : 2 ^ i * a + b < 4294967296) : orI .i64 ((2 ^ i * a : Nat) : Int) (b : Int) = ((2 ^ i * a + b : Nat) : Int) := by
  unfold orI
  have e : ∀ n : Nat, BitVec.ofInt 64 (n : Int) = BitVec.ofNat 64 n := fun n => by
    apply BitVec.eq_of_toNat_eq
    simp [BitVec.toNat_ofInt]
  show IntKind.wrap .i64 ((BitVec.ofInt 64 _ ||| BitVec.ofInt 64 _).toNat : Int) = _
  rw [e, e, BitVec.toNat_or, BitVec.toNat_ofNat, BitVec.toNat_ofNat, Nat.mod_eq_of_lt (by omega), Nat.mod_eq_of_lt (by omega), ← Nat.two_pow_add_eq_or_of_lt hb, wrap64 (by omega) (by omega)]
theorem shlN64 (a k : Nat) (h : a < 256) (hk : k ≤ 24) : shlI .i64 (a : Int) (k : Int) = ((2 ^ k * a : Nat) : Int) := by
  unfold shlI
  have h1 : min ((k : Int)).toNat IntKind.i64.bits = k := by
    show min k 64 = k
    omega
  have h2 : 2 ^ k ≤ 2 ^ 24 := Nat.pow_le_pow_right (by decide) hk
  have h3 : 2 ^ k * a ≤ 2 ^ 24 * 255 := Nat.mul_le_mul h2 (by omega)
  have h4 : (a : Int) * 2 ^ k = ((2 ^ k * a : Nat) : Int) := by push_cast; rw [Int.mul_comm]
  rw [h1, h4]
  exact wrap64 (by omega) (by omega)
theorem orNum (l : List UInt8) : orI .i64 (orI .i64 (orI .i64 (shlI .i64 ((l.getD 0 0).toNat : Int) 24) (shlI .i64 ((l.getD 1 0).toNat : Int) 16)) (shlI .i64 ((l.getD 2 0).toNat : Int) 8)) ((l.getD 3 0).toNat : Int) = (numN l : Int) := by
  have h0 := (l.getD 0 0).toNat_lt
  have h1 := (l.getD 1 0).toNat_lt
  have h2 := (l.getD 2 0).toNat_lt
  have h3 := (l.getD 3 0).toNat_lt
  unfold numN
  generalize (l.getD 0 0).toNat = a at *
  generalize (l.getD 1 0).toNat = b at *
  generalize (l.getD 2 0).toNat = c at *
  generalize (l.getD 3 0).toNat = d at *
  have s1 := shlN64 a 24 h0 (by omega)
  have s2 := shlN64 b 16 h1 (by omega)
  have s3 := shlN64 c 8 h2 (by omega)
  have o1 := orN64 24 a (2 ^ 16 * b) (by omega) (by omega)
  have e1 : 2 ^ 24 * a + 2 ^ 16 * b = 2 ^ 16 * (256 * a + b) := by omega
  have o2 := orN64 16 (256 * a + b) (2 ^ 8 * c) (by omega) (by omega)
  have e2 : 2 ^ 16 * (256 * a + b) + 2 ^ 8 * c = 2 ^ 8 * (65536 * a + 256 * b + c) := by omega
  have o3 := orN64 8 (65536 * a + 256 * b + c) d (by omega) (by omega)
  have s1' : shlI .i64 (a : Int) 24 = ((2 ^ 24 * a : Nat) : Int) := s1
  have s2' : shlI .i64 (b : Int) 16 = ((2 ^ 16 * b : Nat) : Int) := s2
  have s3' : shlI .i64 (c : Int) 8 = ((2 ^ 8 * c : Nat) : Int) := s3
  rw [s1', s2', s3', o1, e1, o2, e2, o3]
def wantM : List (Value × Value) := [(.int .i64 1, .int .i64 1), (.int .i64 2, .int .i64 0), (.int .i64 3, .int .i64 4), (.int .i64 4, .int .i64 4)]
def wantS (k : Int) : Int := if k = 1 then 1 else if k = 3 ∨ k = 4 then 4 else 0
theorem wantM_look (k : Int) : lookV (.int .i64) (.int .i64 k) (.int .i64 0) wantM = some (.int .i64 (wantS k)) := by
  unfold wantM wantS
  simp only [lookV, Instr.sameNow]
  grind
theorem zero_int (W : World) : (zeroValue 3).run Try.prog W = .ok (.int .i64 0) W := by kernel_rfl
def jparseLo : Nat → Lo := fun id => match id with | 3 => {uo := [14], un := [4], ex := [13]} | 7 => {hand := true} | 15 => {uo := [23], un := [4], ex := [22]} | _ => {}
set_option maxRecDepth 100000 in
set_option maxHeartbeats 2000000 in
theorem con_jparse (l : List UInt8) (hl : l.length ≤ 4194304) : Con Try.prog D 12 [.sl 1 (l.map byteRow)] ⟨.tup [entryA (entryP l).1, .int .i64 (entryP l).2], []⟩ := by
  have hok : GOk Try.prog D (tabG [eParse]) := tabG_ok _
  have g1 := fun (l : List UInt8) (h : l.length ≤ 4194304) => tabG_use (T := [eParse]) (E := eParse) (i := 0) rfl (by decide) (l) (h)
  generalize tabG [eParse] = G at *
  dsimp only [eParse] at g1
  have hcon : ∀ r, r = entryP l → Con Try.prog D 12 [.sl 1 (l.map byteRow)] ⟨.tup [entryA r.1, .int .i64 r.2], []⟩ := by
    intro r hr
    have hb0 := (l.getD 0 0).toNat_lt
    have hb1 := (l.getD 1 0).toNat_lt
    refine conW (G := G) (rs := [(2, some 30), (3, none)]) hok Try.func12 Try.results12 Try.ntmps12 (jparseLo) fun X hP hD hG' hX => ?_
    simp only [argS, num]
    by_cases h2 : l.length < 2
    · have d2 : decide ((l.length : Int) < 2) = true := by simp; omega
      simp (disch := omega) only [go_sem, Nat.reduceLeDiff, reduceCtorEq, Nat.reduceAdd, Nat.reduceSub, Nat.reduceMul, Nat.reduceLT, Nat.reduceEqDiff, Int.reduceEq, Int.reduceLE, Int.reduceLT, Int.reducePow, Int.reduceMul, Int.reduceToNat, Int.reduceNeg, ↓reduceIte, hD, hG', wrap64, jparseLo, d2, unbox, tmv, Option.some.injEq, exists_eq_left']
      refine RegT.mk [(3, false)] ?_
      simp (disch := omega) only [go_sem, Nat.reduceLeDiff, reduceCtorEq, Nat.reduceAdd, Nat.reduceSub, Nat.reduceMul, Nat.reduceLT, Nat.reduceEqDiff, Int.reduceEq, Int.reduceLE, Int.reduceLT, Int.reducePow, Int.reduceMul, Int.reduceToNat, Int.reduceNeg, ↓reduceIte, hD, hG', wrap64, jparseLo, d2, unbox, tmv, Option.some.injEq, exists_eq_left']
      refine endW [] [] (by simp) rfl rfl rfl ?_ ?_ <;> simp only [go_sem, Nat.reduceEqDiff]
      rw [hr, entryP, if_pos (.inl h2)]
      simp [entryA, entryRow, entryZ, note0, cov, covs, subs, names, namess]
    have d2 : decide ((l.length : Int) < 2) = false := by simp; omega
    by_cases h3 : l.length < 2 + (l.getD 1 0).toNat
    · have d3 : decide ((l.length : Int) < 2 + ((l.getD 1 0).toNat : Int)) = true := decide_eq_true (by omega)
      simp (disch := omega) only [go_sem, Nat.reduceLeDiff, reduceCtorEq, Nat.reduceAdd, Nat.reduceSub, Nat.reduceMul, Nat.reduceLT, Nat.reduceEqDiff, Int.reduceEq, Int.reduceLE, Int.reduceLT, Int.reducePow, Int.reduceMul, Int.reduceToNat, Int.reduceNeg, ↓reduceIte, hD, hG', wrap64, jparseLo, d2, d3, byteGet, wrap_byte, unbox, tmv, Option.some.injEq, exists_eq_left']
      refine RegT.mk [] ?_
      simp (disch := omega) only [go_sem, Nat.reduceLeDiff, reduceCtorEq, Nat.reduceAdd, Nat.reduceSub, Nat.reduceMul, Nat.reduceLT, Nat.reduceEqDiff, Int.reduceEq, Int.reduceLE, Int.reduceLT, Int.reducePow, Int.reduceMul, Int.reduceToNat, Int.reduceNeg, ↓reduceIte, hD, hG', wrap64, jparseLo, d2, d3, byteGet, wrap_byte, unbox, tmv, Option.some.injEq, exists_eq_left']
      refine ⟨by omega, ?_⟩
      refine endW [] [] (by simp) rfl rfl rfl ?_ ?_ <;> simp only [go_sem, Nat.reduceEqDiff]
      rw [hr, entryP, if_pos (.inr h3)]
      simp [entryA, entryRow, entryZ, note0, cov, covs, subs, names, namess]
    have d3 : decide ((l.length : Int) < 2 + ((l.getD 1 0).toNat : Int)) = false := decide_eq_false (by omega)
    have hr2 : r = entryK (l.getD 0 0).toNat ((l.take (2 + (l.getD 1 0).toNat)).drop 2) (l.drop (2 + (l.getD 1 0).toNat)) := by
      rw [hr, entryP, if_neg (fun h => h.elim h2 h3)]
    have et : (2 + ((l.getD 1 0).toNat : Int)).toNat = 2 + (l.getD 1 0).toNat := by omega
    simp (disch := omega) only [go_sem, Nat.reduceLeDiff, reduceCtorEq, Nat.reduceAdd, Nat.reduceSub, Nat.reduceMul, Nat.reduceLT, Nat.reduceEqDiff, Int.reduceEq, Int.reduceLE, Int.reduceLT, Int.reducePow, Int.reduceMul, Int.reduceToNat, Int.reduceNeg, ↓reduceIte, hD, hG', wrap64, jparseLo, d2, d3, byteGet, wrap_byte, et, unbox, tmv, Option.some.injEq, exists_eq_left']
    refine RegT.mk [] ?_
    simp (disch := omega) only [go_sem, Nat.reduceLeDiff, reduceCtorEq, Nat.reduceAdd, Nat.reduceSub, Nat.reduceMul, Nat.reduceLT, Nat.reduceEqDiff, Int.reduceEq, Int.reduceLE, Int.reduceLT, Int.reducePow, Int.reduceMul, Int.reduceToNat, Int.reduceNeg, ↓reduceIte, hD, hG', wrap64, jparseLo, d2, d3, byteGet, wrap_byte, et, List.take_length, unbox, tmv, Option.some.injEq, exists_eq_left']
    (repeat (with_reducible refine And.intro (by first | omega | decide | (simp; done) | (simp only [List.length_append, List.length_cons, List.length_nil, List.length_map]; omega)) ?_))
    have hRl : (l.drop (2 + (l.getD 1 0).toNat)).length = l.length - (2 + (l.getD 1 0).toNat) := List.length_drop
    generalize l.drop (2 + (l.getD 1 0).toNat) = R at *
    generalize (l.take (2 + (l.getD 1 0).toNat)).drop 2 = q at *
    generalize (l.getD 0 0).toNat = c0 at *
    by_cases h4 : c0 < 1
    · have d4 : decide ((c0 : Int) < 1) = true := decide_eq_true (by omega)
      refine RegT.mk [(3, false)] ?_
      simp (disch := omega) only [go_sem, Nat.reduceLeDiff, reduceCtorEq, Nat.reduceAdd, Nat.reduceSub, Nat.reduceMul, Nat.reduceLT, Nat.reduceEqDiff, Int.reduceEq, Int.reduceLE, Int.reduceLT, Int.reducePow, Int.reduceMul, Int.reduceToNat, Int.reduceNeg, ↓reduceIte, hD, hG', wrap64, jparseLo, d4, unbox, tmv, Option.some.injEq, exists_eq_left']
      refine endW [] [] (by simp) rfl rfl rfl ?_ ?_ <;> simp only [go_sem, Nat.reduceEqDiff]
      rw [hr2, entryK, if_pos (.inl h4)]
      simp [entryA, entryRow, entryZ, note0, cov, covs, subs, names, namess]
    have d4 : decide ((c0 : Int) < 1) = false := decide_eq_false (by omega)
    by_cases h5 : 4 < c0
    · have d5 : decide ((c0 : Int) > 4) = true := decide_eq_true (by omega)
      refine RegT.mk [] ?_
      simp (disch := omega) only [go_sem, Nat.reduceLeDiff, reduceCtorEq, Nat.reduceAdd, Nat.reduceSub, Nat.reduceMul, Nat.reduceLT, Nat.reduceEqDiff, Int.reduceEq, Int.reduceLE, Int.reduceLT, Int.reducePow, Int.reduceMul, Int.reduceToNat, Int.reduceNeg, ↓reduceIte, hD, hG', wrap64, jparseLo, d4, d5, unbox, tmv, Option.some.injEq, exists_eq_left']
      refine endW [] [] (by simp) rfl rfl rfl ?_ ?_ <;> simp only [go_sem, Nat.reduceEqDiff]
      rw [hr2, entryK, if_pos (.inr h5)]
      simp [entryA, entryRow, entryZ, note0, cov, covs, subs, names, namess]
    have d5 : decide ((c0 : Int) > 4) = false := decide_eq_false (by omega)
    refine RegT.mk [] ?_
    simp (disch := omega) only [go_sem, Nat.reduceLeDiff, reduceCtorEq, Nat.reduceAdd, Nat.reduceSub, Nat.reduceMul, Nat.reduceLT, Nat.reduceEqDiff, Int.reduceEq, Int.reduceLE, Int.reduceLT, Int.reducePow, Int.reduceMul, Int.reduceToNat, Int.reduceNeg, ↓reduceIte, hD, hG', wrap64, jparseLo, d4, d5, unbox, tmv, Option.some.injEq, exists_eq_left']
    have hu : X.P.underlying 100 = some (.map 3 3) := by rw [hP]; exact Try.underlying100
    have hk : X.P.underlying 3 = some (.int .i64) := by rw [hP]; exact Try.underlying3
    refine Tr.lit hX 0 (d := 53) wantM hu hk (by decide) ⟨_, rfl, rfl, rfl, rfl⟩ (by decide) ?_ ?_ ?_
    · unfold wantM litOps
      repeat (first | exact trivial | refine ⟨⟨_, rfl, _, _, rfl, rfl, rfl, fun _ => rfl, fun _ => rfl⟩, ?_⟩ | unfold litOps)
    · unfold wantM litNew
      repeat (first | exact trivial | refine ⟨rfl, rfl, ?_⟩ | unfold litNew)
    have hlen : wantM.length = 4 := rfl
    generalize hnm : wantM = nm at hlen ⊢
    have hlook := wantM_look c0
    rw [hnm] at hlook
    simp (disch := omega) only [go_sem, Nat.reduceLeDiff, reduceCtorEq, Nat.reduceAdd, Nat.reduceSub, Nat.reduceMul, Nat.reduceLT, Nat.reduceEqDiff, Int.reduceEq, Int.reduceLE, Int.reduceLT, Int.reducePow, Int.reduceMul, Int.reduceToNat, Int.reduceNeg, ↓reduceIte, hD, hG', wrap64, jparseLo, hlen, unbox, tmv, Option.some.injEq, exists_eq_left']
    refine inl_look (dk := .int .i64) (key := .int .i64 c0) (z := .int .i64 0) (v := .int .i64 (wantS c0)) (av := .int .i64 (wantS c0)) hu hk rfl rfl rfl (by rw [hP]; exact zero_int) (by simp [cst]) hlook (fun _ _ _ => .int _ _) rfl (by simp) ?_
    simp (disch := omega) only [go_sem, Nat.reduceLeDiff, reduceCtorEq, Nat.reduceAdd, Nat.reduceSub, Nat.reduceMul, Nat.reduceLT, Nat.reduceEqDiff, Int.reduceEq, Int.reduceLE, Int.reduceLT, Int.reducePow, Int.reduceMul, Int.reduceToNat, Int.reduceNeg, ↓reduceIte, hD, hG', wrap64, jparseLo, hlen, unbox, tmv, Option.some.injEq, exists_eq_left']
    have hw : (c0 = 1 → wantS c0 = 1) ∧ (c0 = 2 → wantS c0 = 0) ∧ (c0 = 3 → wantS c0 = 4) ∧ (c0 = 4 → wantS c0 = 4) := by
      unfold wantS
      refine ⟨?_, ?_, ?_, ?_⟩ <;> rintro rfl <;> rfl
    generalize wantS c0 = ws at *
    have hno : (R.length : Int) < ws ∨ (c0 ≠ 3 ∧ (R.length : Int) > ws) → entryK c0 q R = (entryZ, 2) := fun h => by
      rw [entryK, if_neg (by omega), if_neg (by omega), if_neg (by omega), if_neg (by omega), if_neg (by omega)]
    by_cases h6 : (R.length : Int) < ws
    · have d6 : decide ((R.length : Int) < ws) = true := decide_eq_true h6
      refine RegT.mk [(4, false), (8, true)] ?_
      simp (disch := omega) only [go_sem, Nat.reduceLeDiff, reduceCtorEq, Nat.reduceAdd, Nat.reduceSub, Nat.reduceMul, Nat.reduceLT, Nat.reduceEqDiff, Int.reduceEq, Int.reduceLE, Int.reduceLT, Int.reducePow, Int.reduceMul, Int.reduceToNat, Int.reduceNeg, ↓reduceIte, hD, hG', wrap64, jparseLo, d6, unbox, tmv, Option.some.injEq, exists_eq_left']
      refine endW [] [] (by simp) rfl rfl rfl ?_ ?_ <;> simp only [go_sem, Nat.reduceEqDiff]
      rw [hr2, hno (.inl h6)]
      simp [entryA, entryRow, entryZ, note0, cov, covs, subs, names, namess]
    have d6 : decide ((R.length : Int) < ws) = false := decide_eq_false h6
    by_cases h3 : c0 = 3
    · have e3 : ((c0 : Int) != 3) = false := by simp [h3]
      have n1 : ((c0 : Int) == 1) = false := by simp [h3]
      have n3 : ((c0 : Int) == 3) = true := by simp [h3]
      refine RegT.mk [(8, true)] ?_
      simp (disch := omega) only [go_sem, Nat.reduceLeDiff, reduceCtorEq, Nat.reduceAdd, Nat.reduceSub, Nat.reduceMul, Nat.reduceLT, Nat.reduceEqDiff, Int.reduceEq, Int.reduceLE, Int.reduceLT, Int.reducePow, Int.reduceMul, Int.reduceToNat, Int.reduceNeg, ↓reduceIte, hD, hG', wrap64, jparseLo, d6, e3, n1, n3, byteGet, wrap_byte, orNum, List.take_length, unbox, tmv, Option.some.injEq, exists_eq_left']
      (repeat (with_reducible refine And.intro (by first | omega | decide | (simp; done) | (simp only [List.length_append, List.length_cons, List.length_nil, List.length_map]; omega)) ?_))
      have hR4 : 4 ≤ R.length := by omega
      have hdl : (R.drop 4).length = R.length - 4 := List.length_drop
      have g1 := g1 (R.drop 4) (by omega)
      have hpl := parseS_len (R.drop 4)
      have hK : entryK c0 q R = if (parseS (R.drop 4)).2.2 = 0 ∧ (parseS (R.drop 4)).2.1 = R.length - 4 then (⟨3, ⟨⟨q⟩⟩, 0, numN R, (parseS (R.drop 4)).1⟩, 0) else (entryZ, 2) := by
        rw [entryK, if_neg (by omega), if_neg (by omega), if_neg (by omega), if_neg (by omega), if_pos (by omega)]
      rw [hK] at hr2
      generalize parseS (R.drop 4) = P at *
      obtain ⟨⟨pp, pb⟩, pk, pe⟩ := P
      simp only [noteA] at g1 hr2 hpl
      simp (disch := omega) only [go_sem, Nat.reduceLeDiff, reduceCtorEq, Nat.reduceAdd, Nat.reduceSub, Nat.reduceMul, Nat.reduceLT, Nat.reduceEqDiff, Int.reduceEq, Int.reduceLE, Int.reduceLT, Int.reducePow, Int.reduceMul, Int.reduceToNat, Int.reduceNeg, ↓reduceIte, hD, hG', wrap64, jparseLo, g1, List.take_length, unbox, tmv, Option.some.injEq, exists_eq_left']
      (repeat (with_reducible refine And.intro (by first | omega | decide | (simp; done) | (simp only [List.length_append, List.length_cons, List.length_nil, List.length_map]; omega)) ?_))
      by_cases h8 : pe = 0
      · have d8 : (pe != 0) = false := by simp [h8]
        by_cases h9 : pk = R.length - 4
        · have d9 : ((pk : Int) != (R.length : Int) - 4) = false := by simp; omega
          refine RegT.mk [] ?_
          simp (disch := omega) only [go_sem, Nat.reduceLeDiff, reduceCtorEq, Nat.reduceAdd, Nat.reduceSub, Nat.reduceMul, Nat.reduceLT, Nat.reduceEqDiff, Int.reduceEq, Int.reduceLE, Int.reduceLT, Int.reducePow, Int.reduceMul, Int.reduceToNat, Int.reduceNeg, ↓reduceIte, hD, hG', wrap64, jparseLo, d8, d9, unbox, tmv, Option.some.injEq, exists_eq_left']
          refine endW [] [] (by simp) rfl rfl rfl ?_ ?_ <;> simp only [go_sem, Nat.reduceEqDiff]
          rw [hr2, if_pos ⟨h8, h9⟩]
          simp [entryA, entryRow, h3, cov, covs, subs, names, namess]
        · have d9 : ((pk : Int) != (R.length : Int) - 4) = true := by simp; omega
          refine RegT.mk [] ?_
          simp (disch := omega) only [go_sem, Nat.reduceLeDiff, reduceCtorEq, Nat.reduceAdd, Nat.reduceSub, Nat.reduceMul, Nat.reduceLT, Nat.reduceEqDiff, Int.reduceEq, Int.reduceLE, Int.reduceLT, Int.reducePow, Int.reduceMul, Int.reduceToNat, Int.reduceNeg, ↓reduceIte, hD, hG', wrap64, jparseLo, d8, d9, unbox, tmv, Option.some.injEq, exists_eq_left']
          refine endW [] [] (by simp) rfl rfl rfl ?_ ?_ <;> simp only [go_sem, Nat.reduceEqDiff]
          rw [hr2, if_neg (fun h => h9 h.2)]
          simp [entryA, entryRow, entryZ, note0, cov, covs, subs, names, namess]
      · have d8 : (pe != 0) = true := by simp [h8]
        refine RegT.mk [(2, false)] ?_
        simp (disch := omega) only [go_sem, Nat.reduceLeDiff, reduceCtorEq, Nat.reduceAdd, Nat.reduceSub, Nat.reduceMul, Nat.reduceLT, Nat.reduceEqDiff, Int.reduceEq, Int.reduceLE, Int.reduceLT, Int.reducePow, Int.reduceMul, Int.reduceToNat, Int.reduceNeg, ↓reduceIte, hD, hG', wrap64, jparseLo, d8, unbox, tmv, Option.some.injEq, exists_eq_left']
        refine endW [] [] (by simp) rfl rfl rfl ?_ ?_ <;> simp only [go_sem, Nat.reduceEqDiff]
        rw [hr2, if_neg (fun h => h8 h.1)]
        simp [entryA, entryRow, entryZ, note0, cov, covs, subs, names, namess]
    have e3 : ((c0 : Int) != 3) = true := by simp; omega
    by_cases h7 : (R.length : Int) > ws
    · have d7 : decide ((R.length : Int) > ws) = true := decide_eq_true h7
      refine RegT.mk [] ?_
      simp (disch := omega) only [go_sem, Nat.reduceLeDiff, reduceCtorEq, Nat.reduceAdd, Nat.reduceSub, Nat.reduceMul, Nat.reduceLT, Nat.reduceEqDiff, Int.reduceEq, Int.reduceLE, Int.reduceLT, Int.reducePow, Int.reduceMul, Int.reduceToNat, Int.reduceNeg, ↓reduceIte, hD, hG', wrap64, jparseLo, d6, d7, e3, unbox, tmv, Option.some.injEq, exists_eq_left']
      refine endW [] [] (by simp) rfl rfl rfl ?_ ?_ <;> simp only [go_sem, Nat.reduceEqDiff]
      rw [hr2, hno (.inr ⟨h3, h7⟩)]
      simp [entryA, entryRow, entryZ, note0, cov, covs, subs, names, namess]
    have d7 : decide ((R.length : Int) > ws) = false := decide_eq_false h7
    have h8 : c0 = 1 ∨ c0 = 2 ∨ c0 = 4 := by omega
    rcases h8 with h8 | h8 | h8
    · have n1 : ((c0 : Int) == 1) = true := by simp [h8]
      have n3 : ((c0 : Int) == 3) = false := by simp [h8]
      refine RegT.mk [] ?_
      simp (disch := omega) only [go_sem, Nat.reduceLeDiff, reduceCtorEq, Nat.reduceAdd, Nat.reduceSub, Nat.reduceMul, Nat.reduceLT, Nat.reduceEqDiff, Int.reduceEq, Int.reduceLE, Int.reduceLT, Int.reducePow, Int.reduceMul, Int.reduceToNat, Int.reduceNeg, ↓reduceIte, hD, hG', wrap64, jparseLo, d6, d7, e3, n1, n3, byteGet, wrap_byte, orNum, unbox, tmv, Option.some.injEq, exists_eq_left']
      (repeat (with_reducible refine And.intro (by first | omega | decide | (simp; done) | (simp only [List.length_append, List.length_cons, List.length_nil, List.length_map]; omega)) ?_))
      refine endW [] [] (by simp) rfl rfl rfl ?_ ?_ <;> simp only [go_sem, Nat.reduceEqDiff]
      have hK : entryK c0 q R = (⟨1, ⟨⟨q⟩⟩, (R.getD 0 0).toNat, 0, note0⟩, 0) := by
        rw [entryK, if_neg (by omega), if_pos (by omega)]
      rw [hr2, hK]
      simp [entryA, entryRow, note0, h8, cov, covs, subs, names, namess]
    · have n1 : ((c0 : Int) == 1) = false := by simp [h8]
      have n3 : ((c0 : Int) == 3) = false := by simp [h8]
      have n4 : ((c0 : Int) == 4) = false := by simp [h8]
      refine RegT.mk [] ?_
      simp (disch := omega) only [go_sem, Nat.reduceLeDiff, reduceCtorEq, Nat.reduceAdd, Nat.reduceSub, Nat.reduceMul, Nat.reduceLT, Nat.reduceEqDiff, Int.reduceEq, Int.reduceLE, Int.reduceLT, Int.reducePow, Int.reduceMul, Int.reduceToNat, Int.reduceNeg, ↓reduceIte, hD, hG', wrap64, jparseLo, d6, d7, e3, n1, n3, n4, byteGet, wrap_byte, orNum, unbox, tmv, Option.some.injEq, exists_eq_left']
      (repeat (with_reducible refine And.intro (by first | omega | decide | (simp; done) | (simp only [List.length_append, List.length_cons, List.length_nil, List.length_map]; omega)) ?_))
      refine endW [] [] (by simp) rfl rfl rfl ?_ ?_ <;> simp only [go_sem, Nat.reduceEqDiff]
      have hK : entryK c0 q R = (⟨2, ⟨⟨q⟩⟩, 0, 0, note0⟩, 0) := by
        rw [entryK, if_neg (by omega), if_neg (by omega), if_pos (by omega)]
      rw [hr2, hK]
      simp [entryA, entryRow, note0, h8, cov, covs, subs, names, namess]
    · have n1 : ((c0 : Int) == 1) = false := by simp [h8]
      have n3 : ((c0 : Int) == 3) = false := by simp [h8]
      have n4 : ((c0 : Int) == 4) = true := by simp [h8]
      refine RegT.mk [] ?_
      simp (disch := omega) only [go_sem, Nat.reduceLeDiff, reduceCtorEq, Nat.reduceAdd, Nat.reduceSub, Nat.reduceMul, Nat.reduceLT, Nat.reduceEqDiff, Int.reduceEq, Int.reduceLE, Int.reduceLT, Int.reducePow, Int.reduceMul, Int.reduceToNat, Int.reduceNeg, ↓reduceIte, hD, hG', wrap64, jparseLo, d6, d7, e3, n1, n3, n4, byteGet, wrap_byte, orNum, unbox, tmv, Option.some.injEq, exists_eq_left']
      (repeat (with_reducible refine And.intro (by first | omega | decide | (simp; done) | (simp only [List.length_append, List.length_cons, List.length_nil, List.length_map]; omega)) ?_))
      refine endW [] [] (by simp) rfl rfl rfl ?_ ?_ <;> simp only [go_sem, Nat.reduceEqDiff]
      have hK : entryK c0 q R = (⟨4, ⟨⟨q⟩⟩, 0, numN R, note0⟩, 0) := by
        rw [entryK, if_neg (by omega), if_neg (by omega), if_neg (by omega), if_pos (by omega)]
      rw [hr2, hK]
      simp [entryA, entryRow, note0, h8, cov, covs, subs, names, namess]
  exact hcon _ rfl
end Go.Proofs.Ythbejciebmkclaa.Ab
namespace Go.Proofs.Ythbejciebmkclaa.Ab
open Go Go.RowKit
set_option linter.unusedVariables false
set_option linter.unusedSimpArgs false

end Go.Proofs.Ythbejciebmkclaa.Ab
namespace Go.Proofs.Ythbejciebmkclaa.Ab
open Go Go.RowKit
set_option linter.unusedVariables false
set_option linter.unusedSimpArgs false

/-! in plain Lean -/
def EOk (e : LEntry) : Prop := (1 ≤ e.kind ∧ e.kind ≤ 4) ∧ e.queue.size ≤ 1048576 ∧ e.note.Fits ∧ (bytesN e.note).length ≤ 4194304
def hallLe (k : Nat) (h : LHall) : Prop := h.queues.length ≤ k ∧ ∀ q ∈ h.queues, (q.items.length ≤ k ∧ ∀ i ∈ q.items, i.note.Fits) ∧ q.name.size ≤ 1048576
theorem hallLe.fits {k : Nat} {h : LHall} (hk : k ≤ 1048576) (hh : hallLe k h) : h.Fits :=
  ⟨by have := hh.1; omega, fun q hq => ⟨⟨by have := (hh.2 q hq).1.1; omega, (hh.2 q hq).1.2⟩, (hh.2 q hq).2⟩⟩
theorem hallLe.apply {k : Nat} {h : LHall} (hh : hallLe k h) {e : LEntry} (hq : e.queue.size ≤ 1048576) (hn : e.note.Fits) : hallLe (k + 1) (applyS h e) := by
  obtain ⟨h1, h2⟩ := hh
  have h0 : ∀ q ∈ h.queues, (q.items.length ≤ k + 1 ∧ ∀ i ∈ q.items, i.note.Fits) ∧ q.name.size ≤ 1048576 := fun q hq => ⟨⟨by have := (h2 q hq).1.1; omega, (h2 q hq).1.2⟩, (h2 q hq).2⟩
  unfold applyS applyK
  generalize findS h.queues (nmL e.queue) = j
  split
  · refine ⟨by simp; omega, fun q hq => ?_⟩
    rcases List.mem_append.1 hq with h3 | h3
    · exact h0 q h3
    · rw [List.mem_singleton.1 h3]
      exact ⟨⟨by simp, by simp⟩, by assumption⟩
  split
  · refine ⟨Nat.le_trans (List.length_eraseIdx_le _ _) (by omega), fun q hq => h0 q (List.mem_of_mem_eraseIdx hq)⟩
  split
  · refine ⟨by simp; omega, fun q hq => ?_⟩
    rcases List.mem_or_eq_of_mem_set hq with h3 | h3
    · exact h0 q h3
    · rw [h3]
      unfold gotQ qAt
      by_cases hj : j.toNat < h.queues.length
      · have hm : h.queues.getD j.toNat queue0 ∈ h.queues := by simp [hj]
        have h4 := h2 _ hm
        refine ⟨⟨by simp only [List.length_append, List.length_cons, List.length_nil]; omega, fun i hi => ?_⟩, h4.2⟩
        rcases List.mem_append.1 hi with h5 | h5
        · exact h4.1.2 i h5
        · rw [List.mem_singleton.1 h5]; exact hn
      · rw [List.set_eq_of_length_le (by omega)] at hq
        rw [← gotQ, ← qAt, ← h3]
        exact h0 q hq
  split
  · refine ⟨by simp; omega, fun q hq => ?_⟩
    rcases List.mem_or_eq_of_mem_set hq with h3 | h3
    · exact h0 q h3
    · rw [h3]
      unfold goneQ qAt
      by_cases hj : j.toNat < h.queues.length
      · have hm : h.queues.getD j.toNat queue0 ∈ h.queues := by simp [hj]
        have h4 := h0 _ hm
        exact ⟨⟨Nat.le_trans (List.length_filter_le _ _) h4.1.1, fun i hi => h4.1.2 i (List.mem_filter.1 hi).1⟩, h4.2⟩
      · rw [List.set_eq_of_length_le (by omega)] at hq
        rw [← goneQ, ← qAt, ← h3]
        exact h0 q hq
  · exact ⟨by omega, h0⟩
theorem entryP_fits (l : List UInt8) (hl : l.length ≤ 1048576) : (entryP l).1.queue.size ≤ 1048576 ∧ (entryP l).1.note.Fits ∧ (-1000000000000 ≤ (entryP l).1.id ∧ (entryP l).1.id ≤ 1000000000000) := by
  have h0 : entryZ.queue.size ≤ 1048576 ∧ entryZ.note.Fits ∧ (-1000000000000 ≤ entryZ.id ∧ entryZ.id ≤ 1000000000000) := ⟨by decide, ⟨by simp [entryZ, note0], by decide, by decide⟩, by decide, by decide⟩
  have hn0 : note0.Fits := h0.2.1
  unfold entryP
  split
  · exact h0
  · generalize hq : (l.take (2 + (l.getD 1 0).toNat)).drop 2 = q
    have hql : (⟨⟨q⟩⟩ : ByteArray).size ≤ 1048576 := by
      show q.length ≤ 1048576
      rw [← hq, List.length_drop, List.length_take]
      omega
    generalize l.drop (2 + (l.getD 1 0).toNat) = R
    have hR := numN_lt R
    unfold entryK
    split
    · exact h0
    split
    · exact ⟨hql, hn0, by simp only; omega, by simp only; omega⟩
    split
    · exact ⟨hql, hn0, by simp only; omega, by simp only; omega⟩
    split
    · exact ⟨hql, hn0, by simp only; omega, by simp only; omega⟩
    split
    · split
      · exact ⟨hql, fits_parse _, by simp only; omega, by simp only; omega⟩
      · exact h0
    · exact h0
theorem recs_mem : ∀ (n : Nat) (b : List UInt8), b.length ≤ n → ∀ r ∈ (recsS b).1, r.length ≤ b.length
  | 0, b, h, r, hr => by
    have h0 : b = [] := List.eq_nil_of_length_eq_zero (by omega)
    subst h0
    simp [recsS, recsF] at hr
  | n + 1, b, h, r, hr => by
    cases hk : okS b with
    | false => rw [recsS_no hk] at hr; simp at hr
    | true =>
      have h4 := okS_len hk
      rw [recsS_yes hk] at hr
      rcases List.mem_cons.1 hr with h5 | h5
      · rw [h5, List.length_drop, List.length_take]; omega
      · have := recs_mem n (b.drop (headS b + 4)) (by rw [List.length_drop]; omega) r h5
        rw [List.length_drop] at this
        omega
def stepR (h : LHall) (r : List UInt8) : LHall := if (entryP r).2 = 0 then applyS h (entryP r).1 else h
def replayS (l : List UInt8) : LHall := (recsS l).1.foldl stepR hall0
theorem stepR_le {k : Nat} {h : LHall} (hh : hallLe k h) {r : List UInt8} (hr : r.length ≤ 1048576) : hallLe (k + 1) (stepR h r) := by
  have h1 := entryP_fits r hr
  unfold stepR
  split
  · exact hh.apply h1.1 h1.2.1
  · exact ⟨by have := hh.1; omega, fun q hq => ⟨⟨by have := (hh.2 q hq).1.1; omega, (hh.2 q hq).1.2⟩, (hh.2 q hq).2⟩⟩
theorem replay_le : ∀ (n : Nat) (rs : List (List UInt8)), (∀ r ∈ rs, r.length ≤ 1048576) → n ≤ rs.length → hallLe n ((rs.take n).foldl stepR hall0)
  | 0, rs, h, hn => ⟨by simp [hall0], by simp [hall0]⟩
  | n + 1, rs, h, hn => by
    have hn1 : n < rs.length := by omega
    rw [List.take_succ_eq_append_getElem hn1, List.foldl_append]
    exact stepR_le (replay_le n rs h (by omega)) (h _ (List.getElem_mem hn1))

/-! the tables -/
def eJparse : Ent Try.prog D := ⟨12, List UInt8, fun l => [.sl 1 (l.map byteRow)], fun l => l.length ≤ 4194304, fun l => ⟨.tup [entryA (entryP l).1, .int .i64 (entryP l).2], []⟩, fun x y _ _ h => by rw [one_inj h], con_jparse⟩
def eApply : Ent Try.prog D := ⟨21, LHall × LEntry, fun x => [hallA x.1, entryA x.2], fun x => x.1.Fits ∧ x.2.note.Fits ∧ (-1000000000000 ≤ x.2.id ∧ x.2.id ≤ 1000000000000), fun x => ⟨hallA (applyS x.1 x.2), []⟩, fun x y _ _ h => by
  obtain ⟨a, b⟩ := x; obtain ⟨a', b'⟩ := y
  simp only [List.cons.injEq, and_true] at h
  rw [hallA_inj h.1, entryA_inj h.2], fun x h => con_apply _ _ h.1 h.2.1 h.2.2⟩
def eJbytes : Ent Try.prog D := ⟨19, LEntry, fun x => [entryA x], EOk, fun x => ⟨.sl 1 ((entryB x).map byteRow), []⟩, fun x y _ _ h => by
  simp only [List.cons.injEq, and_true] at h
  rw [entryA_inj h], fun x h => con_jbytes x h.1 h.2.1 h.2.2.1 h.2.2.2⟩

set_option maxRecDepth 100000 in
set_option maxHeartbeats 1000000 in
theorem con_replay (l : List UInt8) (hl : l.length ≤ 1048576) : Con Try.prog D 16 [.sl 1 (l.map byteRow)] ⟨hallA (replayS l), []⟩ := by
  have hok : GOk Try.prog D (tabG [eRecords, eJparse, eApply]) := tabG_ok _
  have g1 := tabG_use (T := [eRecords, eJparse, eApply]) (E := eRecords) (i := 0) rfl (by decide) (l) (by show l.length ≤ 8388608; omega)
  have g2 := fun (r : List UInt8) (h : r.length ≤ 4194304) => tabG_use (T := [eRecords, eJparse, eApply]) (E := eJparse) (i := 1) rfl (by decide) (r) (h)
  have g3 := fun (x : LHall) (e : LEntry) (h : x.Fits ∧ e.note.Fits ∧ (-1000000000000 ≤ e.id ∧ e.id ≤ 1000000000000)) => tabG_use (T := [eRecords, eJparse, eApply]) (E := eApply) (i := 2) rfl (by decide) ((x, e)) (h)
  generalize tabG [eRecords, eJparse, eApply] = G at *
  dsimp only [eRecords] at g1
  dsimp only [eJparse] at g2
  dsimp only [eApply] at g3
  have hml := recs_mem l.length l (Nat.le_refl _)
  have hrl := recsS_le l.length l (Nat.le_refl _)
  unfold replayS
  generalize recsS l = P at *
  obtain ⟨rs, at_⟩ := P
  simp only at g1 hml hrl
  have hrs : ∀ r ∈ rs, r.length ≤ 1048576 := fun r hr => by have := hml r hr; omega
  refine conW (G := G) (rs := [(2, some 24)]) hok Try.func16 Try.results16 Try.ntmps16 (fun _ => {}) fun X hP hD hG' hX => ?_
  simp only [argS, num]
  simp (disch := omega) only [go_sem, Nat.reduceLeDiff, reduceCtorEq, Nat.reduceAdd, Nat.reduceSub, Nat.reduceMul, Nat.reduceLT, Nat.reduceEqDiff, Int.reduceEq, Int.reduceLE, Int.reduceLT, Int.reducePow, Int.reduceMul, Int.reduceToNat, Int.reduceNeg, ↓reduceIte, hD, hG', wrap64, g1, unbox, tmv, Option.some.injEq, exists_eq_left']
  refine Tr.loop (ι := Nat) (fun i => i ≤ rs.length) (fun i => { nt := 33, tm := [(2, .ptr 2 0), (3, .ptr 3 0), (15, .sl 1 (rs.map recRow)), (16, .int .i64 rs.length), (17, .int .i64 i)], bl := [(2, some (.cells [.nils, .int .i64 0])), (3, some (.cells [.sl 3 (((rs.take i).foldl stepR hall0).queues.map queueRow), .int .i64 ((rs.take i).foldl stepR hall0).next]))] }) (fun i => rs.length - i) 0
    ⟨Nat.zero_le _, wk_of hD [(2, 2), (3, 3)] rfl rfl (by simp only [go_sem, Nat.reduceEqDiff]; simp) (by simp only [go_sem, Nat.reduceEqDiff, D_1, D_2, D_3, D_4, D_5, D_6, D_7, D_8, D_9, D_10, D_11, D_12, D_13, D_14, D_15, D_16, D_17, D_18, D_19, D_21, D_22, D_23, D_24, D_25, D_26, D_27, D_28, D_29, D_30, D_31, D_32, D_33, D_35, D_36, D_37, D_38, D_39, D_40, D_41, D_42, D_43, D_45, D_46, D_47, D_48, D_49, D_50, D_51, D_52, D_53, D_55, D_56, D_57, D_58, D_60, D_61, D_62, D_63, D_64, D_65, D_67, D_68, D_69, D_70, D_71, D_72, D_73, D_74, D_75, D_76, D_77, D_78, D_79, D_80, D_81, D_82, D_83, D_84, D_85, D_86, D_87, D_88, D_89, D_91, D_93, D_94, D_95, D_97, D_98, D_99, D_101, D_103, D_104, D_105, D_106, D_108, D_109, D_110, D_111, D_113, D_114, D_115, D_116, D_117, D_118, D_119, D_120, D_121, D_122, D_124, D_125, D_127, D_128, D_130, D_132, D_133, D_134, D_135, D_136, D_138, D_139, D_141, D_143, D_144, D_145, D_147, D_148, D_149, D_150, D_151, D_153, D_154, D_155, D_156, D_157, D_158, D_159, D_160, D_161, D_162, D_163, D_164, D_165, D_166, D_167, D_168, D_169, D_170, D_171, D_172, D_173, D_174, D_178, D_179, D_180, D_181, D_182, D_183, D_184, D_185, D_186]; simp [hall0, cov, covs])⟩ ?_
  intro i hi
  have hle := replay_le i rs hrs hi
  refine evC_sound hX (fun _ => {}) _ _ _ ?_
  simp (disch := omega) only [go_sem, Nat.reduceLeDiff, reduceCtorEq, Nat.reduceAdd, Nat.reduceSub, Nat.reduceMul, Nat.reduceLT, Nat.reduceEqDiff, Int.reduceEq, Int.reduceLE, Int.reduceLT, Int.reducePow, Int.reduceMul, Int.reduceToNat, Int.reduceNeg, ↓reduceIte, hD, hG', wrap64, unbox, tmv, Option.some.injEq, exists_eq_left']
  refine condK_split (fun h => ?_) (fun h => ?_)
  · rw [decide_eq_true_eq] at h
    have hi1 : i < rs.length := by omega
    have hst : (rs.take (i + 1)).foldl stepR hall0 = stepR ((rs.take i).foldl stepR hall0) (rs.getD i []) := by
      rw [List.take_succ_eq_append_getElem hi1, List.foldl_append]
      simp [hi1]
    have hx : (rs.getD i []).length ≤ 1048576 := by
      have : rs.getD i [] = rs[i] := by simp [hi1]
      rw [this]
      exact hrs _ (List.getElem_mem hi1)
    have hgr : (rs.map recRow).getD i [] = [.sl 1 ((rs.getD i []).map byteRow)] := by simp [hi1, recRow]
    have hpf := entryP_fits _ hx
    have g2 := g2 (rs.getD i []) (by omega)
    rw [stepR] at hst
    generalize (rs.take i).foldl stepR hall0 = x at *
    generalize entryP (rs.getD i []) = E at *
    obtain ⟨e, w⟩ := E
    have g3 := g3 x e ⟨hle.fits (by omega), hpf.2⟩
    obtain ⟨xq, xn⟩ := x
    generalize applyS ⟨xq, xn⟩ e = y at *
    obtain ⟨yq, yn⟩ := y
    obtain ⟨e1, e2, e3, e4, ⟨e5, e6⟩⟩ := e
    simp only [hallA, entryA, entryRow] at g2 g3
    simp only at hst
    by_cases hw : w = 0
    · have w0 : (w == 0) = true := by simp [hw]
      rw [if_pos hw] at hst
      simp (disch := omega) only [go_sem, Nat.reduceLeDiff, reduceCtorEq, Nat.reduceAdd, Nat.reduceSub, Nat.reduceMul, Nat.reduceLT, Nat.reduceEqDiff, Int.reduceEq, Int.reduceLE, Int.reduceLT, Int.reducePow, Int.reduceMul, Int.reduceToNat, Int.reduceNeg, ↓reduceIte, hD, hG', wrap64, hgr, g2, g3, w0, unbox, tmv, Option.some.injEq, exists_eq_left']
      ((try and_intros); all_goals (try first | omega | decide | (simp; done) | (simp only [List.length_append, List.length_cons, List.length_nil, List.length_map]; omega)))
      refine ⟨i + 1, ⟨by omega, by omega⟩, wk_of hD [(2, 2), (3, 3)] rfl rfl ?_ ?_⟩ <;> simp only [go_sem, Nat.reduceEqDiff]
      · simp
      · simp [hst]
    · have w0 : (w == 0) = false := by simp [hw]
      rw [if_neg hw] at hst
      simp (disch := omega) only [go_sem, Nat.reduceLeDiff, reduceCtorEq, Nat.reduceAdd, Nat.reduceSub, Nat.reduceMul, Nat.reduceLT, Nat.reduceEqDiff, Int.reduceEq, Int.reduceLE, Int.reduceLT, Int.reducePow, Int.reduceMul, Int.reduceToNat, Int.reduceNeg, ↓reduceIte, hD, hG', wrap64, hgr, g2, g3, w0, unbox, tmv, Option.some.injEq, exists_eq_left']
      ((try and_intros); all_goals (try first | omega | decide | (simp; done) | (simp only [List.length_append, List.length_cons, List.length_nil, List.length_map]; omega)))
      refine ⟨i + 1, ⟨by omega, by omega⟩, wk_of hD [(2, 2), (3, 3)] rfl rfl ?_ ?_⟩ <;> simp only [go_sem, Nat.reduceEqDiff]
      · simp
      · simp [hst]
  · rw [decide_eq_false_iff_not] at h
    have hie : i = rs.length := by omega
    subst hie
    rw [List.take_length] at *
    simp (disch := omega) only [go_sem, Nat.reduceLeDiff, reduceCtorEq, Nat.reduceAdd, Nat.reduceSub, Nat.reduceMul, Nat.reduceLT, Nat.reduceEqDiff, Int.reduceEq, Int.reduceLE, Int.reduceLT, Int.reducePow, Int.reduceMul, Int.reduceToNat, Int.reduceNeg, ↓reduceIte, hD, hG', wrap64, unbox, tmv, Option.some.injEq, exists_eq_left']
    refine endW [] [] (by simp) rfl rfl rfl ?_ ?_ <;> simp only [go_sem, Nat.reduceEqDiff]
    simp [hallA, cov, covs, subs, names, namess]
end Go.Proofs.Ythbejciebmkclaa.Ab
namespace Go.Proofs.Ythbejciebmkclaa.Ab
open Go Go.RowKit
set_option linter.unusedVariables false
set_option linter.unusedSimpArgs false

def writeS (l : List UInt8) (s : Int) (es : List LEntry) : LLog × Int := appendS ⟨l, s⟩ (es.map entryB)
set_option maxRecDepth 100000 in
set_option maxHeartbeats 1000000 in
theorem con_write (l : List UInt8) (s : Int) (es : List LEntry) (hl : l.length + ((es.map entryB).map frameS).flatten.length ≤ 8388608) (hr : es.length ≤ 1048576) (he : ∀ e ∈ es, EOk e) :
    Con Try.prog D 24 [.agg [.sl 1 (l.map byteRow), .int .i64 s], entriesA es] ⟨.tup [.agg [.sl 1 ((writeS l s es).1.bytes.map byteRow), .int .i64 (writeS l s es).1.sure], .int .i64 (writeS l s es).2], []⟩ := by
  have hok : GOk Try.prog D (tabG [eJbytes, eAppend]) := tabG_ok _
  have g1 := fun (e : LEntry) (h : EOk e) => tabG_use (T := [eJbytes, eAppend]) (E := eJbytes) (i := 0) rfl (by decide) (e) (h)
  have g2 := tabG_use (T := [eJbytes, eAppend]) (E := eAppend) (i := 1) rfl (by decide) (((l, s), es.map entryB)) (⟨hl, by rw [List.length_map]; exact hr⟩)
  generalize tabG [eJbytes, eAppend] = G at *
  dsimp only [eJbytes] at g1
  dsimp only [eAppend] at g2
  unfold writeS
  generalize appendS ⟨l, s⟩ (es.map entryB) = W at *
  obtain ⟨⟨wb, ws⟩, we⟩ := W
  refine conW (G := G) (rs := [(4, some 32), (5, none)]) hok Try.func24 Try.results24 Try.ntmps24 (fun _ => {}) fun X hP hD hG' hX => ?_
  simp only [argS, num, entriesA]
  simp (disch := omega) only [go_sem, Nat.reduceLeDiff, reduceCtorEq, Nat.reduceAdd, Nat.reduceSub, Nat.reduceMul, Nat.reduceLT, Nat.reduceEqDiff, Int.reduceEq, Int.reduceLE, Int.reduceLT, Int.reducePow, Int.reduceMul, Int.reduceToNat, Int.reduceNeg, ↓reduceIte, hD, hG', wrap64, unbox, tmv, Option.some.injEq, exists_eq_left']
  refine Tr.loop (ι := Nat) (fun i => i ≤ es.length) (fun i => { nt := 26, tm := [(2, .ptr 2 0), (4, .ptr 4 0), (6, .os 5000), (9, .sl 6 (es.map entryRow)), (10, .int .i64 es.length), (11, .int .i64 i)], bl := [(2, some (.cells [.sl 1 (l.map byteRow), .int .i64 s])), (4, some (.cells [.nils, .int .i64 0])), (5000, some (.rows 26 1 (((es.take i).map entryB).map recRow)))] }) (fun i => es.length - i) 0
    ⟨Nat.zero_le _, wk_of hD [(2, 2), (4, 4)] rfl rfl (by simp only [go_sem, Nat.reduceEqDiff]; simp) (by simp only [go_sem, Nat.reduceEqDiff, D_1, D_2, D_3, D_4, D_5, D_6, D_7, D_8, D_9, D_10, D_11, D_12, D_13, D_14, D_15, D_16, D_17, D_18, D_19, D_21, D_22, D_23, D_24, D_25, D_26, D_27, D_28, D_29, D_30, D_31, D_32, D_33, D_35, D_36, D_37, D_38, D_39, D_40, D_41, D_42, D_43, D_45, D_46, D_47, D_48, D_49, D_50, D_51, D_52, D_53, D_55, D_56, D_57, D_58, D_60, D_61, D_62, D_63, D_64, D_65, D_67, D_68, D_69, D_70, D_71, D_72, D_73, D_74, D_75, D_76, D_77, D_78, D_79, D_80, D_81, D_82, D_83, D_84, D_85, D_86, D_87, D_88, D_89, D_91, D_93, D_94, D_95, D_97, D_98, D_99, D_101, D_103, D_104, D_105, D_106, D_108, D_109, D_110, D_111, D_113, D_114, D_115, D_116, D_117, D_118, D_119, D_120, D_121, D_122, D_124, D_125, D_127, D_128, D_130, D_132, D_133, D_134, D_135, D_136, D_138, D_139, D_141, D_143, D_144, D_145, D_147, D_148, D_149, D_150, D_151, D_153, D_154, D_155, D_156, D_157, D_158, D_159, D_160, D_161, D_162, D_163, D_164, D_165, D_166, D_167, D_168, D_169, D_170, D_171, D_172, D_173, D_174, D_178, D_179, D_180, D_181, D_182, D_183, D_184, D_185, D_186]; simp)⟩ ?_
  intro i hi
  refine evC_sound hX (fun _ => {}) _ _ _ ?_
  simp (disch := omega) only [go_sem, Nat.reduceLeDiff, reduceCtorEq, Nat.reduceAdd, Nat.reduceSub, Nat.reduceMul, Nat.reduceLT, Nat.reduceEqDiff, Int.reduceEq, Int.reduceLE, Int.reduceLT, Int.reducePow, Int.reduceMul, Int.reduceToNat, Int.reduceNeg, ↓reduceIte, hD, hG', wrap64, unbox, tmv, Option.some.injEq, exists_eq_left']
  refine condK_split (fun h => ?_) (fun h => ?_)
  · rw [decide_eq_true_eq] at h
    have hi1 : i < es.length := by omega
    have hgx := entryGet hi1
    have hti : es.take (i + 1) = es.take i ++ [es.getD i entry0] := by
      rw [List.take_succ_eq_append_getElem hi1]
      simp [hi1]
    have htl : (es.take i).length = i := by rw [List.length_take]; omega
    have hok := he (es.getD i entry0) (by rw [show es.getD i entry0 = es[i] by simp [hi1]]; exact List.getElem_mem hi1)
    have g1 := g1 (es.getD i entry0) hok
    generalize es.getD i entry0 = x at *
    generalize hb : entryB x = b at *
    obtain ⟨e1, e2, e3, e4, ⟨e5, e6⟩⟩ := x
    simp only [entryRow] at hgx
    simp only [entryA, entryRow] at g1
    simp (disch := omega) only [go_sem, Nat.reduceLeDiff, reduceCtorEq, Nat.reduceAdd, Nat.reduceSub, Nat.reduceMul, Nat.reduceLT, Nat.reduceEqDiff, Int.reduceEq, Int.reduceLE, Int.reduceLT, Int.reducePow, Int.reduceMul, Int.reduceToNat, Int.reduceNeg, ↓reduceIte, hD, hG', wrap64, hgx, g1, unbox, tmv, Option.some.injEq, exists_eq_left']
    ((try and_intros); all_goals (try first | omega | decide | (simp; done) | (simp only [List.length_append, List.length_cons, List.length_nil, List.length_map]; omega)))
    refine ⟨i + 1, ⟨by omega, by omega⟩, wk_of hD [(2, 2), (4, 4), (5000, 19)] rfl rfl ?_ ?_⟩ <;> simp only [go_sem, Nat.reduceEqDiff]
    · simp
    · simp [hti, hb, recRow]
  · rw [decide_eq_false_iff_not] at h
    have hie : i = es.length := by omega
    subst hie
    rw [List.take_length] at *
    simp (disch := omega) only [go_sem, Nat.reduceLeDiff, reduceCtorEq, Nat.reduceAdd, Nat.reduceSub, Nat.reduceMul, Nat.reduceLT, Nat.reduceEqDiff, Int.reduceEq, Int.reduceLE, Int.reduceLT, Int.reducePow, Int.reduceMul, Int.reduceToNat, Int.reduceNeg, ↓reduceIte, hD, hG', wrap64, g2, unbox, tmv, Option.some.injEq, exists_eq_left']
    refine endW [] [] (by simp) rfl rfl rfl ?_ ?_ <;> simp only [go_sem, Nat.reduceEqDiff]
    try simp [cov, covs, subs, names, namess]
def putE (nm : ByteArray) (i : LItem) : LEntry := ⟨3, nm, 0, i.id, i.note⟩
def shortQ (q : LQueue) : List LEntry := ⟨1, q.name, q.limit, 0, note0⟩ :: q.items.map (putE q.name)
def shortS (h : LHall) : List LEntry := h.queues.flatMap shortQ
theorem short_take {l : List LQueue} {i : Nat} (hi : i < l.length) : (l.take (i + 1)).flatMap shortQ = (l.take i).flatMap shortQ ++ shortQ (l.getD i queue0) := by
  rw [List.take_succ_eq_append_getElem hi, List.flatMap_append]
  simp [hi]
theorem short_le (l : List LQueue) (i : Nat) : ((l.take i).flatMap shortQ).length ≤ (l.flatMap shortQ).length := by
  conv => rhs; rw [← List.take_append_drop i l]
  rw [List.flatMap_append, List.length_append]
  omega
def shortLo : Nat → Lo := fun id => match id with | 9 => {uo := [10], kn := [5001, 39], ex := [0, 8, 9, 11]} | _ => {}
set_option maxRecDepth 100000 in
set_option maxHeartbeats 2000000 in
theorem con_short (h : LHall) (hh : h.Fits) (hs : (shortS h).length ≤ 8388608) : Con Try.prog D 27 [hallA h] ⟨entriesA (shortS h), []⟩ := by
  have hok : GOk Try.prog D (tabG [eOwn1]) := tabG_ok _
  have g1 := fun (n : LNote) (h : n.Fits) => tabG_use (T := [eOwn1]) (E := eOwn1) (i := 0) rfl (by decide) (n) (h)
  generalize tabG [eOwn1] = G at *
  dsimp only [eOwn1] at g1
  have hl := hh.1
  have hfq := fun i hi => queue_fits (i := i) hh hi
  obtain ⟨l, next⟩ := h
  simp only at hl hfq
  have hsl := short_le l
  have hs : (l.flatMap shortQ).length ≤ 8388608 := hs
  refine conW (G := G) (rs := [(2, none)]) hok Try.func27 Try.results27 Try.ntmps27 (shortLo) fun X hP hD hG' hX => ?_
  simp only [argS, num, hallA]
  simp (disch := omega) only [go_sem, Nat.reduceLeDiff, reduceCtorEq, Nat.reduceAdd, Nat.reduceSub, Nat.reduceMul, Nat.reduceLT, Nat.reduceEqDiff, Int.reduceEq, Int.reduceLE, Int.reduceLT, Int.reducePow, Int.reduceMul, Int.reduceToNat, Int.reduceNeg, ↓reduceIte, hD, hG', wrap64, shortLo, unbox, tmv, Option.some.injEq, exists_eq_left']
  refine Tr.loop (ι := Nat) (fun i => i ≤ l.length) (fun i => { nt := 44, tm := [(3, .os 5000), (9, .sl 3 (l.map queueRow)), (10, .int .i64 l.length), (11, .int .i64 i)], bl := [(5000, some (.rows 30 6 (((l.take i).flatMap shortQ).map entryRow)))] }) (fun i => l.length - i) 0
    ⟨Nat.zero_le _, wk_of hD [] rfl rfl (by simp only [go_sem, Nat.reduceEqDiff]; simp) (by simp only [go_sem, Nat.reduceEqDiff, D_1, D_2, D_3, D_4, D_5, D_6, D_7, D_8, D_9, D_10, D_11, D_12, D_13, D_14, D_15, D_16, D_17, D_18, D_19, D_21, D_22, D_23, D_24, D_25, D_26, D_27, D_28, D_29, D_30, D_31, D_32, D_33, D_35, D_36, D_37, D_38, D_39, D_40, D_41, D_42, D_43, D_45, D_46, D_47, D_48, D_49, D_50, D_51, D_52, D_53, D_55, D_56, D_57, D_58, D_60, D_61, D_62, D_63, D_64, D_65, D_67, D_68, D_69, D_70, D_71, D_72, D_73, D_74, D_75, D_76, D_77, D_78, D_79, D_80, D_81, D_82, D_83, D_84, D_85, D_86, D_87, D_88, D_89, D_91, D_93, D_94, D_95, D_97, D_98, D_99, D_101, D_103, D_104, D_105, D_106, D_108, D_109, D_110, D_111, D_113, D_114, D_115, D_116, D_117, D_118, D_119, D_120, D_121, D_122, D_124, D_125, D_127, D_128, D_130, D_132, D_133, D_134, D_135, D_136, D_138, D_139, D_141, D_143, D_144, D_145, D_147, D_148, D_149, D_150, D_151, D_153, D_154, D_155, D_156, D_157, D_158, D_159, D_160, D_161, D_162, D_163, D_164, D_165, D_166, D_167, D_168, D_169, D_170, D_171, D_172, D_173, D_174, D_178, D_179, D_180, D_181, D_182, D_183, D_184, D_185, D_186]; simp)⟩ ?_
  intro i hi
  have hsi := hsl i
  refine evC_sound hX shortLo _ _ _ ?_
  simp (disch := omega) only [go_sem, Nat.reduceLeDiff, reduceCtorEq, Nat.reduceAdd, Nat.reduceSub, Nat.reduceMul, Nat.reduceLT, Nat.reduceEqDiff, Int.reduceEq, Int.reduceLE, Int.reduceLT, Int.reducePow, Int.reduceMul, Int.reduceToNat, Int.reduceNeg, ↓reduceIte, hD, hG', wrap64, shortLo, unbox, tmv, Option.some.injEq, exists_eq_left']
  refine condK_split (fun h => ?_) (fun h => ?_)
  · rw [decide_eq_true_eq] at h
    have hi1 : i < l.length := by omega
    have hgx := queueGet hi1
    have hti := short_take hi1
    have hsi1 := hsl (i + 1)
    have hqf := (hfq i hi1).1
    rw [hti, List.length_append] at hsi1
    generalize l.getD i queue0 = x at *
    obtain ⟨qn, ql, qi⟩ := x
    simp only [queueRow] at hgx
    have hql : (shortQ ⟨qn, ql, qi⟩).length = qi.length + 1 := by simp [shortQ]
    generalize hpre : (l.take i).flatMap shortQ = pre at *
    simp (disch := omega) only [go_sem, Nat.reduceLeDiff, reduceCtorEq, Nat.reduceAdd, Nat.reduceSub, Nat.reduceMul, Nat.reduceLT, Nat.reduceEqDiff, Int.reduceEq, Int.reduceLE, Int.reduceLT, Int.reducePow, Int.reduceMul, Int.reduceToNat, Int.reduceNeg, ↓reduceIte, hD, hG', wrap64, hgx, shortLo, unbox, tmv, Option.some.injEq, exists_eq_left']
    refine ⟨by omega, by omega, ?_⟩
    have w1 : rowsNz (pre.map entryRow ++ [[.int .i64 1, .str qn.data.toList, .int .i64 ql, .int .i64 0, .nils, .nils]]) ((pre ++ [(⟨1, qn, ql, 0, note0⟩ : LEntry)]).map entryRow) := by
      rw [List.map_append]
      exact rowsNz_append (rowsNz_refl _) (by simp [rowsNz, rowNz, cellNz, entryRow, note0])
    refine Tr.loop (ι := Nat) (fun j => j ≤ qi.length) (fun j => { nt := 44, tm := [(3, .os 5001), (5, .ptr 5 0), (9, .sl 3 (l.map queueRow)), (10, .int .i64 l.length), (11, .int .i64 i), (24, .sl 7 (qi.map itemRow)), (25, .int .i64 qi.length), (26, .int .i64 j)], bl := [(5, some (.cells [.str qn.data.toList, .int .i64 ql, .sl 7 (qi.map itemRow)])), (5001, some (.rows 30 6 ((pre ++ (⟨1, qn, ql, 0, note0⟩ :: (qi.take j).map (putE qn))).map entryRow)))] }) (fun j => qi.length - j) 0
      ⟨Nat.zero_le _, (Wk.nz 22 rfl w1).trans (wk_of hD [(5, 5), (5001, 22)] rfl rfl (by simp only [go_sem, Nat.reduceEqDiff]; simp) (by simp only [go_sem, Nat.reduceEqDiff, D_1, D_2, D_3, D_4, D_5, D_6, D_7, D_8, D_9, D_10, D_11, D_12, D_13, D_14, D_15, D_16, D_17, D_18, D_19, D_21, D_22, D_23, D_24, D_25, D_26, D_27, D_28, D_29, D_30, D_31, D_32, D_33, D_35, D_36, D_37, D_38, D_39, D_40, D_41, D_42, D_43, D_45, D_46, D_47, D_48, D_49, D_50, D_51, D_52, D_53, D_55, D_56, D_57, D_58, D_60, D_61, D_62, D_63, D_64, D_65, D_67, D_68, D_69, D_70, D_71, D_72, D_73, D_74, D_75, D_76, D_77, D_78, D_79, D_80, D_81, D_82, D_83, D_84, D_85, D_86, D_87, D_88, D_89, D_91, D_93, D_94, D_95, D_97, D_98, D_99, D_101, D_103, D_104, D_105, D_106, D_108, D_109, D_110, D_111, D_113, D_114, D_115, D_116, D_117, D_118, D_119, D_120, D_121, D_122, D_124, D_125, D_127, D_128, D_130, D_132, D_133, D_134, D_135, D_136, D_138, D_139, D_141, D_143, D_144, D_145, D_147, D_148, D_149, D_150, D_151, D_153, D_154, D_155, D_156, D_157, D_158, D_159, D_160, D_161, D_162, D_163, D_164, D_165, D_166, D_167, D_168, D_169, D_170, D_171, D_172, D_173, D_174, D_178, D_179, D_180, D_181, D_182, D_183, D_184, D_185, D_186]))⟩ ?_
    intro j hj
    refine evC_sound hX shortLo _ _ _ ?_
    simp (disch := omega) only [go_sem, Nat.reduceLeDiff, reduceCtorEq, Nat.reduceAdd, Nat.reduceSub, Nat.reduceMul, Nat.reduceLT, Nat.reduceEqDiff, Int.reduceEq, Int.reduceLE, Int.reduceLT, Int.reducePow, Int.reduceMul, Int.reduceToNat, Int.reduceNeg, ↓reduceIte, hD, hG', wrap64, shortLo, unbox, tmv, Option.some.injEq, exists_eq_left']
    refine condK_split (fun h2 => ?_) (fun h2 => ?_)
    · rw [decide_eq_true_eq] at h2
      have hj1 : j < qi.length := by omega
      have hgy := itemGet hj1
      have hnf := item_fits hqf hj1
      have htj : qi.take (j + 1) = qi.take j ++ [qi.getD j item0] := by
        rw [List.take_succ_eq_append_getElem hj1]
        simp [hj1]
      have htl : (qi.take j).length = j := by rw [List.length_take]; omega
      generalize qi.getD j item0 = y at *
      obtain ⟨i1, i2, i3, i4, i5, ⟨i6, i7⟩⟩ := y
      simp only [itemRow] at hgy
      have g1 := g1 _ hnf
      simp only [noteA] at g1
      simp (disch := omega) only [go_sem, Nat.reduceLeDiff, reduceCtorEq, Nat.reduceAdd, Nat.reduceSub, Nat.reduceMul, Nat.reduceLT, Nat.reduceEqDiff, Int.reduceEq, Int.reduceLE, Int.reduceLT, Int.reducePow, Int.reduceMul, Int.reduceToNat, Int.reduceNeg, ↓reduceIte, hD, hG', wrap64, hgy, g1, shortLo, unbox, tmv, Option.some.injEq, exists_eq_left']
      ((try and_intros); all_goals (try first | omega | decide | (simp; done) | (simp only [List.length_append, List.length_cons, List.length_nil, List.length_map]; omega)))
      refine ⟨j + 1, ⟨by omega, by omega⟩, wk_of hD [(5, 5), (5001, 40)] rfl rfl ?_ ?_⟩ <;> simp only [go_sem, Nat.reduceEqDiff]
      · simp
      · simp [htj, entryRow, putE]
    · rw [decide_eq_false_iff_not] at h2
      have hje : j = qi.length := by omega
      subst hje
      rw [List.take_length] at *
      simp (disch := omega) only [go_sem, Nat.reduceLeDiff, reduceCtorEq, Nat.reduceAdd, Nat.reduceSub, Nat.reduceMul, Nat.reduceLT, Nat.reduceEqDiff, Int.reduceEq, Int.reduceLE, Int.reduceLT, Int.reducePow, Int.reduceMul, Int.reduceToNat, Int.reduceNeg, ↓reduceIte, hD, hG', wrap64, shortLo, unbox, tmv, Option.some.injEq, exists_eq_left']
      refine ⟨i + 1, ⟨by omega, by omega⟩, wk_of hD [(5000, 5001)] rfl rfl ?_ ?_⟩ <;> simp only [go_sem, Nat.reduceEqDiff]
      · simp
      · simp [hti, shortQ]
  · rw [decide_eq_false_iff_not] at h
    have hie : i = l.length := by omega
    subst hie
    rw [List.take_length] at *
    simp (disch := omega) only [go_sem, Nat.reduceLeDiff, reduceCtorEq, Nat.reduceAdd, Nat.reduceSub, Nat.reduceMul, Nat.reduceLT, Nat.reduceEqDiff, Int.reduceEq, Int.reduceLE, Int.reduceLT, Int.reducePow, Int.reduceMul, Int.reduceToNat, Int.reduceNeg, ↓reduceIte, hD, hG', wrap64, shortLo, unbox, tmv, Option.some.injEq, exists_eq_left']
    refine endW [5000] [] (by simp) rfl rfl rfl ?_ ?_ <;> simp only [go_sem, Nat.reduceEqDiff]
    try simp [entriesA, shortS, cov, covs, subs, names, namess]
end Go.Proofs.Ythbejciebmkclaa.Ab
namespace Go.Proofs.Ythbejciebmkclaa.Ab
open Go Go.RowKit
set_option linter.unusedVariables false
set_option linter.unusedSimpArgs false

def eReplay : Ent Try.prog D := ⟨16, List UInt8, fun l => [.sl 1 (l.map byteRow)], fun l => l.length ≤ 1048576, fun l => ⟨hallA (replayS l), []⟩, fun x y _ _ h => by rw [one_inj h], con_replay⟩
def writeA (w : LLog × Int) : AV := .tup [.agg [.sl 1 (w.1.bytes.map byteRow), .int .i64 w.1.sure], .int .i64 w.2]
def WOk (x : (List UInt8 × Int) × List LEntry) : Prop := (x.1.1.length + ((x.2.map entryB).map frameS).flatten.length ≤ 8388608 ∧ x.2.length ≤ 1048576) ∧ ∀ e ∈ x.2, EOk e
def eShort : Ent Try.prog D := ⟨27, LHall, fun h => [hallA h], fun h => h.Fits ∧ (shortS h).length ≤ 8388608, fun h => ⟨entriesA (shortS h), []⟩, fun x y _ _ h => by
  simp only [List.cons.injEq, and_true] at h
  rw [hallA_inj h], fun h hh => con_short h hh.1 hh.2⟩
theorem frameS_length (l : List UInt8) : (frameS l).length = l.length + 4 := by simp [frameS]
theorem entryB_len {e : LEntry} {a b : Nat} (h1 : e.queue.size ≤ a) (h2 : (bytesN e.note).length ≤ b) : (entryB e).length ≤ a + b + 6 := by
  have := size_len e.queue
  simp only [entryB, textS, List.length_cons, List.length_append]
  split
  · simp; omega
  · split
    · simp; omega
    · have := num4 e.id
      split <;> simp only [List.length_append, List.length_nil] <;> omega
theorem short_len {h : LHall} (hl : h.queues.length ≤ 4) (hq : ∀ q ∈ h.queues, q.items.length ≤ 8) : (shortS h).length ≤ 36 := by
  have : ∀ l : List LQueue, (∀ q ∈ l, q.items.length ≤ 8) → (l.flatMap shortQ).length ≤ 9 * l.length := fun l => by
    induction l with
    | nil => simp
    | cons q r ih =>
      intro h
      have h1 := ih fun x hx => h x (by simp [hx])
      have h2 := h q (by simp)
      simp only [List.flatMap_cons, List.length_append, List.length_cons, shortQ, List.length_map]
      omega
  have := this _ hq
  unfold shortS
  omega

/-- what the law asks of an entry -/
def entryNice (e : LEntry) : Prop := ¬(e.kind < 1 ∨ e.kind > 4 ∨ e.queue.size > 100 ∨ e.n < 0 ∨ e.n > 255 ∨ e.id < 0 ∨ e.id > 1000000 ∨ wrongS e.note ≠ 0)
theorem entryNice.ok {e : LEntry} (h : entryNice e) : EOk e ∧ (entryB e).length ≤ 300 := by
  unfold entryNice at h
  have hw : wrongS e.note = 0 := by omega
  have hb := bytes_right hw
  exact ⟨⟨by omega, by omega, fits_right hw, by omega⟩, by have := @entryB_len e 100 134 (by omega) hb; omega⟩
end Go.Proofs.Ythbejciebmkclaa.Ab
namespace Go.Proofs.Ythbejciebmkclaa.Ab
open Go Go.RowKit
set_option linter.unusedVariables false
set_option linter.unusedSimpArgs false

/-- entries bring one plain hall to another -/
def Fw (g g' : LHall) (es : List LEntry) : Prop := es.foldl applyS (plainS g) = plainS g'
theorem Fw.refl (g : LHall) : Fw g g [] := rfl
theorem Fw.trans {g g1 g2 : LHall} {es1 es2 : List LEntry} (h1 : Fw g g1 es1) (h2 : Fw g1 g2 es2) : Fw g g2 (es1 ++ es2) := by
  unfold Fw at *
  rw [List.foldl_append, h1, h2]
/-- ids are unlike, and below the next one -/
def idsOk (g : LHall) : Prop := ∀ q ∈ g.queues, (q.items.map (·.id)).Nodup ∧ ∀ i ∈ q.items, i.id < g.next
theorem idsOk.at {g : LHall} (h : idsOk g) {k : Nat} (hk : k < g.queues.length) : ((qAt g k).items.map (·.id)).Nodup ∧ ∀ i ∈ (qAt g k).items, i.id < g.next := h _ (getD_mem (d := queue0) hk)
theorem idsOk.set {g : LHall} (h : idsOk g) {k : Nat} {q : LQueue} {next : Int} (hn : g.next ≤ next) (hq : (q.items.map (·.id)).Nodup ∧ ∀ i ∈ q.items, i.id < next) : idsOk ⟨g.queues.set k q, next⟩ := fun p hp => by
  rcases List.mem_or_eq_of_mem_set hp with hp | rfl
  · exact ⟨(h p hp).1, fun i hi => by have := (h p hp).2 i hi; simp only; omega⟩
  · exact hq
end Go.Proofs.Ythbejciebmkclaa.Ab
namespace Go.Proofs.Ythbejciebmkclaa.Ab
open Go Go.RowKit
set_option linter.unusedVariables false
set_option linter.unusedSimpArgs false

def eX : LEntry := ⟨3, aB, 0, 7, noteX⟩
def hX1 : LHall := ⟨[qA 2 []], 0⟩
def hX2 : LHall := ⟨[qA 2 [⟨7, 0, 0, false, 0, noteX⟩]], 8⟩
def sX : List LEntry := [⟨1, aB, 2, 0, note0⟩, eX]
theorem eX_parse : entryP (entryB eX) = (eX, 0) := by decide +kernel
theorem hX_apply1 : applyS hall0 ⟨1, aB, 2, 0, note0⟩ = hX1 := by decide +kernel
theorem hX_apply2 : applyS hX1 eX = hX2 := by decide +kernel
theorem hX_short : shortS hX2 = sX := by decide +kernel
theorem hX_write : (writeS [] 0 sX).2 = 0 ∧ (writeS [] 0 sX).1.sure = 0 ∧ (writeS [] 0 sX).1.bytes.length ≤ 1000 ∧ replayS (writeS [] 0 sX).1.bytes = hX2 := by decide +kernel
theorem sX_ok : WOk (([], 0), sX) := by
  refine ⟨⟨by decide +kernel, by decide⟩, fun e he => ?_⟩
  have fX : noteX.Fits := by simp [noteX, LNote.Fits]
  have f0 : note0.Fits := by simp [note0, LNote.Fits]
  simp only [sX, List.mem_cons, List.not_mem_nil, or_false] at he
  rcases he with rfl | rfl
  · exact ⟨by decide, by decide, f0, by decide⟩
  · exact ⟨by decide, by decide, fX, by decide⟩
def aliveLo5 : Nat → Lo := fun id => match id with | 3 => {uo := [6], un := [4], ex := [5]} | _ => {}
set_option maxRecDepth 100000 in
set_option maxHeartbeats 2000000 in
theorem con_alive5 : Con Try.prog D 29 [] ⟨.bool true, []⟩ := by
  have fX : noteX.Fits := by simp [noteX, LNote.Fits]
  have f0 : note0.Fits := by simp [note0, LNote.Fits]
  have fH : ∀ l k, (∀ i ∈ l, i.note = noteX) → l.length ≤ 8 → (⟨[qA 2 l], k⟩ : LHall).Fits := fun l k h1 h2 => ⟨by simp, fun q hq => by
    have : q = qA 2 l := by simpa using hq
    subst this
    exact ⟨⟨by simp only [qA]; omega, fun i hi => by rw [h1 i hi]; exact fX⟩, (by decide : (1 : Nat) ≤ 1048576)⟩⟩
  have ho : EOk eX := sX_ok.2 _ (by simp [sX])
  have c1 : Con Try.prog D 19 [.agg [.int .i64 3, .str [97], .int .i64 0, .int .i64 7, .nils, .sl 1 [[.int .u8 120]]]] ⟨.sl 1 ((entryB eX).map byteRow), []⟩ :=
    (con_jbytes eX ho.1 ho.2.1 ho.2.2.1 ho.2.2.2).weak (by simp [covs, cov, entryA, entryRow, eX, aB, noteX, byteRow])
  have c2 : Con Try.prog D 12 [.sl 1 ((entryB eX).map byteRow)] ⟨.tup [entryA eX, .int .i64 0], []⟩ := by
    have := con_jparse (entryB eX) (by decide)
    rw [eX_parse] at this
    exact this
  have c3 : Con Try.prog D 21 [.agg [.nils, .int .i64 0], .agg [.int .i64 1, .str [97], .int .i64 2, .int .i64 0, .nils, .nils]] ⟨hallA hX1, []⟩ := by
    have := con_apply hall0 ⟨1, aB, 2, 0, note0⟩ fits_hall0 f0 (by decide)
    rw [hX_apply1] at this
    exact this.weak (by simp [covs, cov, hallA, hall0, entryA, entryRow, aB, note0])
  have c4 : Con Try.prog D 21 [hallA hX1, .agg [.int .i64 3, .str [97], .int .i64 0, .int .i64 7, .nils, .sl 1 [[.int .u8 120]]]] ⟨hallA hX2, []⟩ := by
    have := con_apply hX1 eX (fH _ _ (by simp) (by simp)) fX (by decide)
    rw [hX_apply2] at this
    exact this.weak (by simp [covs, cov, hallA, hX1, entryA, entryRow, eX, aB, noteX, byteRow])
  have c5 : Con Try.prog D 27 [hallA hX2] ⟨entriesA sX, []⟩ := by
    have := con_short hX2 (fH _ _ (by simp) (by simp)) (by rw [hX_short]; decide)
    rw [hX_short] at this
    exact this
  obtain ⟨w1, w2, w3, w4⟩ := hX_write
  have c6 : Con Try.prog D 24 [.agg [.nils, .int .i64 0], entriesA sX] ⟨.tup [.agg [.sl 1 ((writeS [] 0 sX).1.bytes.map byteRow), .int .i64 0], .int .i64 0], []⟩ := by
    have := con_write [] 0 sX sX_ok.1.1 sX_ok.1.2 sX_ok.2
    rw [w1, w2] at this
    exact this.weak (by simp [covs, cov, entriesA])
  have c7 : Con Try.prog D 16 [.sl 1 ((writeS [] 0 sX).1.bytes.map byteRow)] ⟨hallA hX2, []⟩ := by
    have := con_replay (writeS [] 0 sX).1.bytes (by omega)
    rw [w4] at this
    exact this
  generalize (writeS [] 0 sX).1.bytes = W at *
  generalize entryB eX = B at *
  clear w1 w2 w3 w4 ho fH
  simp only [hallA, entriesA, entryA, entryRow, queueRow, itemRow, qA, note0, noteX, aB, hX1, hX2, sX, eX, List.map_cons, List.map_nil, byteRow_eq] at c1 c2 c3 c4 c5 c6 c7
  have hok := listG_ok (l := [(_, _, _), (_, _, _), (_, _, _), (_, _, _), (_, _, _), (_, _, _), (_, _, _)]) ⟨c1, c2, c3, c4, c5, c6, c7, trivial⟩
  clear c1 c2 c3 c4 c5 c6 c7
  generalize hG0 : listG _ = G at hok
  have hG : ∀ f a, G f a = listG _ f a := fun f a => by rw [← hG0]
  clear hG0
  have n0 : ((0 : Nat) : Int) = 0 := rfl
  have n1 : ((1 : Nat) : Int) = 1 := rfl
  have z0 : (0 : Int) + 0 = 0 := rfl
  refine conW (G := G) (rs := [(0, none)]) hok Try.func29 Try.results29 Try.ntmps29 aliveLo5 fun X hP hD hG' hX => ?_
  simp only [argS, num]
  simp (disch := omega) only [go_sem, Nat.reduceLeDiff, reduceCtorEq, Nat.reduceAdd, Nat.reduceSub, Nat.reduceMul, Nat.reduceLT, Nat.reduceEqDiff, Int.reduceEq, Int.reduceLE, Int.reduceLT, Int.reducePow, Int.reduceMul, Int.reduceToNat, Int.reduceNeg, ↓reduceIte, hD, hG', wrap64, aliveLo5, hG, listG, AV.agg.injEq, List.cons.injEq, AV.int.injEq, AV.str.injEq, AV.sl.injEq, AV.bool.injEq, n0, n1, z0, List.append_eq, unbox, tmv, Option.some.injEq, exists_eq_left']
  refine ⟨by simp, by decide, RegT.mk [] ?_⟩
  simp (disch := omega) only [go_sem, Nat.reduceLeDiff, reduceCtorEq, Nat.reduceAdd, Nat.reduceSub, Nat.reduceMul, Nat.reduceLT, Nat.reduceEqDiff, Int.reduceEq, Int.reduceLE, Int.reduceLT, Int.reducePow, Int.reduceMul, Int.reduceToNat, Int.reduceNeg, ↓reduceIte, hD, hG', wrap64, aliveLo5, hG, listG, AV.agg.injEq, List.cons.injEq, AV.int.injEq, AV.str.injEq, AV.sl.injEq, AV.bool.injEq, n0, n1, z0, List.append_eq, unbox, tmv, Option.some.injEq, exists_eq_left']
  refine endW [] [] (by simp) rfl rfl rfl ?_ ?_ <;> simp only [go_sem, Nat.reduceEqDiff]
def eAlive5 : Ent Try.prog D := ⟨29, Unit, fun _ => [], fun _ => True, fun _ => ⟨.bool true, []⟩, fun x y _ _ h => rfl, fun _ _ => con_alive5⟩
end Go.Proofs.Ythbejciebmkclaa.Ab
namespace Go.Proofs.Ythbejciebmkclaa.Ab
open Go Go.RowKit
set_option linter.unusedVariables false
set_option linter.unusedSimpArgs false

/-! in plain Lean: short entries, parsed and put to an empty hall -/
theorem numN_num {n : Int} (h0 : 0 ≤ n) (h1 : n < 4294967296) (r : List UInt8) : ((numN (numS n ++ r) : Nat) : Int) = n := by
  have a0 := byteI_nat (n / 16777216)
  have a1 := byteI_nat (n / 65536)
  have a2 := byteI_nat (n / 256)
  have a3 := byteI_nat n
  unfold numN numS
  simp only [List.cons_append, List.nil_append, List.getD_cons_zero, List.getD_cons_succ]
  omega
theorem turn_head {k : Int} {q r : List UInt8} (hk : 0 ≤ k ∧ k < 256) (hq : q.length ≤ 255) : entryP (byteI k :: byteI q.length :: (q ++ r)) = entryK k.toNat q r := by
  have a0 := byteI_nat k
  have a1 := byteI_nat q.length
  unfold entryP
  simp only [List.getD_cons_zero, List.getD_cons_succ, List.length_cons, List.length_append]
  have e0 : (byteI k).toNat = k.toNat := by omega
  have e1 : (byteI (q.length : Int)).toNat = q.length := by omega
  rw [e0, e1, if_neg (by omega)]
  have e2 : 2 + q.length = q.length + 1 + 1 := by omega
  rw [e2]
  simp
theorem turn_make {q : ByteArray} {n : Int} (hq : q.size ≤ 255) (hn : 0 ≤ n ∧ n < 256) : entryP (entryB ⟨1, q, n, 0, note0⟩) = (⟨1, q, n, 0, note0⟩, 0) := by
  have h := turn_head (k := 1) (q := q.data.toList) (r := [byteI n]) (by decide) hq
  have a0 := byteI_nat n
  have e : entryB ⟨1, q, n, 0, note0⟩ = byteI 1 :: byteI q.data.toList.length :: (q.data.toList ++ [byteI n]) := by simp [entryB, textS]
  rw [e, h]
  unfold entryK
  rw [if_neg (by decide), if_pos ⟨rfl, rfl⟩]
  simp only [List.getD_cons_zero]
  have : (((byteI n).toNat : Nat) : Int) = n := by omega
  rw [this]
theorem turn_put {q : ByteArray} {id : Int} {m : LNote} (hq : q.size ≤ 255) (hi : 0 ≤ id ∧ id < 4294967296) (hm : wrongS m = 0) : entryP (entryB ⟨3, q, 0, id, m⟩) = (⟨3, q, 0, id, m⟩, 0) := by
  have h := turn_head (k := 3) (q := q.data.toList) (r := numS id ++ bytesN m) (by decide) hq
  have e : entryB ⟨3, q, 0, id, m⟩ = byteI 3 :: byteI q.data.toList.length :: (q.data.toList ++ (numS id ++ bytesN m)) := by simp [entryB, textS]
  rw [e, h]
  have hp := parse_bytes [] hm
  rw [List.append_nil] at hp
  have h4 := num4 id
  have hd : (numS id ++ bytesN m).drop 4 = bytesN m := by rw [List.drop_append_of_le_length (by omega), List.drop_of_length_le (by omega)]; rfl
  unfold entryK
  rw [if_neg (by decide), if_neg (by rintro ⟨h, _⟩; revert h; decide), if_neg (by rintro ⟨h, _⟩; revert h; decide), if_neg (by rintro ⟨h, _⟩; revert h; decide), if_pos ⟨rfl, by simp; omega⟩, hd, hp, if_pos ⟨rfl, by simp; omega⟩, numN_num hi.1 hi.2]
theorem replay_flat {es : List LEntry} (h1 : ∀ e ∈ es, entryP (entryB e) = (e, 0)) (h2 : ∀ e ∈ es, (entryB e).length ≤ 65535) : replayS (flatS (es.map entryB)) = es.foldl applyS hall0 := by
  unfold replayS
  rw [recsS_flat _ (fun r hr => by obtain ⟨e, he, rfl⟩ := List.mem_map.1 hr; exact h2 e he)]
  simp only
  generalize hall0 = g
  clear h2
  induction es generalizing g with
  | nil => rfl
  | cons e r ih =>
    simp only [List.map_cons, List.foldl_cons]
    have : stepR g (entryB e) = applyS g e := by
      unfold stepR
      rw [h1 e (by simp)]
      rfl
    rw [this]
    exact ih (fun x hx => h1 x (by simp [hx])) _
theorem place_append {α : Type} {p : α → Bool} {m : List α} : ∀ {l : List α} {s : Int}, 0 ≤ s → placeG p l s < 0 → placeG p (l ++ m) s = placeG p m (s + l.length)
  | [], s, _, _ => by simp
  | a :: l, s, hs, h => by
    rw [placeG] at h
    rw [List.cons_append, placeG]
    split at h
    · omega
    · rename_i hp
      rw [if_neg hp, place_append (by omega) h, List.length_cons]
      congr 1
      omega
theorem place_none {α : Type} {p : α → Bool} {l : List α} {a : α} {s : Int} (hs : 0 ≤ s) (h : placeG p l s < 0) (ha : p a = false) : placeG p (l ++ [a]) s < 0 := by
  rw [place_append hs h]
  simp [placeG, ha]
theorem find_last {D : List LQueue} {q : LQueue} (h : findS D (nmL q.name) < 0) : findS (D ++ [q]) (nmL q.name) = (D.length : Int) := by
  unfold findS at *
  rw [place_append (by decide) h]
  simp [placeG, named, nmL]
theorem fold_items {D : List LQueue} {nm : ByteArray} {lim N : Int} (hd : findS D (nmL nm) < 0) : ∀ (is js : List LItem) (nx : Int), 0 ≤ nx → nx ≤ N → (∀ i ∈ is, 0 ≤ i.id ∧ i.id < N) →
    ∃ nx', (0 ≤ nx' ∧ nx' ≤ N) ∧ (is.map (putE nm)).foldl applyS ⟨D ++ [⟨nm, lim, js⟩], nx⟩ = ⟨D ++ [⟨nm, lim, js ++ is.map plainI⟩], nx'⟩
  | [], js, nx, h0, h1, _ => ⟨nx, ⟨h0, h1⟩, by simp⟩
  | i :: r, js, nx, h0, h1, h => by
    have hi := h i (by simp)
    have hs : applyS ⟨D ++ [⟨nm, lim, js⟩], nx⟩ (putE nm i) = ⟨D ++ [⟨nm, lim, js ++ [plainI i]⟩], if nx < i.id + 1 then i.id + 1 else nx⟩ := by
      have hf := find_last (q := ⟨nm, lim, js⟩) hd
      unfold applyS
      simp only [putE]
      rw [show findS (D ++ [⟨nm, lim, js⟩]) (nmL nm) = (D.length : Int) from hf]
      simp [applyK, gotQ, qAt, plainI]
    obtain ⟨nx', h2, h3⟩ := fold_items hd r (js ++ [plainI i]) (if nx < i.id + 1 then i.id + 1 else nx) (by split <;> omega) (by split <;> omega) fun x hx => h x (by simp [hx])
    refine ⟨nx', h2, ?_⟩
    rw [List.map_cons, List.foldl_cons, hs, h3]
    simp
theorem fold_queues {N : Int} : ∀ (l D : List LQueue) (nx : Int), 0 ≤ nx → nx ≤ N → (l.map (·.name)).Nodup → (∀ q ∈ l, findS D (nmL q.name) < 0 ∧ ∀ i ∈ q.items, 0 ≤ i.id ∧ i.id < N) →
    ∃ nx', (0 ≤ nx' ∧ nx' ≤ N) ∧ (l.flatMap shortQ).foldl applyS ⟨D, nx⟩ = ⟨D ++ l.map plainQ, nx'⟩
  | [], D, nx, h0, h1, _, _ => ⟨nx, ⟨h0, h1⟩, by simp⟩
  | q :: r, D, nx, h0, h1, hn, h => by
    obtain ⟨hd, hi⟩ := h q (by simp)
    have hs : applyS ⟨D, nx⟩ ⟨1, q.name, q.limit, 0, note0⟩ = ⟨D ++ [⟨q.name, q.limit, []⟩], nx⟩ := by
      unfold applyS
      rw [applyK, if_pos ⟨rfl, hd⟩]
    obtain ⟨n1, h2, h3⟩ := fold_items (lim := q.limit) hd q.items [] nx h0 h1 hi
    simp only [List.map_cons, List.nodup_cons, List.mem_map, not_exists, not_and] at hn
    obtain ⟨n2, h4, h5⟩ := fold_queues r (D ++ [plainQ q]) n1 h2.1 h2.2 hn.2 fun x hx => ⟨place_none (by decide) (h x (by simp [hx])).1 (by
      have := hn.1 x hx
      simp only [named, nmL, plainQ, beq_eq_false_iff_ne, ne_eq]
      exact fun e => this (bytes_ext e).symm), (h x (by simp [hx])).2⟩
    refine ⟨n2, h4, ?_⟩
    rw [List.flatMap_cons, List.foldl_append, shortQ, List.foldl_cons, hs, h3]
    simp only [List.nil_append]
    rw [show (⟨q.name, q.limit, q.items.map plainI⟩ : LQueue) = plainQ q from rfl, h5]
    simp
theorem names_nodup {l : List LQueue} (h : namesOk l) : (l.map (·.name)).Nodup := by
  refine List.pairwise_iff_getElem.2 fun j k hj hk hjk e => ?_
  simp only [List.length_map] at hj hk
  simp only [List.getElem_map] at e
  have h1 := h j hj
  have h2 := h k hk
  rw [show l.getD j queue0 = l[j] by simp [hj]] at h1
  rw [show l.getD k queue0 = l[k] by simp [hk]] at h2
  rw [e, h2] at h1
  omega
theorem short_turns {h : LHall} (ho : hallOk h) : WOk (([], 0), shortS h) ∧ (writeS [] 0 (shortS h)).2 = 0 ∧ (writeS [] 0 (shortS h)).1.bytes.length ≤ 6000 ∧ ∃ nx, (0 ≤ nx ∧ nx ≤ h.next) ∧ replayS (writeS [] 0 (shortS h)).1.bytes = ⟨(plainS h).queues, nx⟩ := by
  obtain ⟨hf, hl4, hn0, hn1⟩ := hallOk_fine ho
  have hlen := short_len hl4 (fun q hq => by have := (hf.2 q hq).2.2.1; omega)
  have hin : ∀ q ∈ h.queues, ∀ i ∈ q.items, 0 ≤ i.id ∧ i.id < h.next := fun q hq => by
    obtain ⟨k, hk⟩ := List.getElem?_of_mem hq
    have hkl := (List.getElem?_eq_some_iff.1 hk).1
    have e : h.queues.getD k queue0 = q := by rw [List.getD_eq_getElem?_getD, hk]; rfl
    have h5 := (ho.2 k hkl).2
    rw [e] at h5
    exact fun i hi => (itemsOk_all h5 i hi).1
  have hlim : ∀ q ∈ h.queues, 1 ≤ q.limit ∧ q.limit ≤ 8 := fun q hq => by
    obtain ⟨k, hk⟩ := List.getElem?_of_mem hq
    have hkl := (List.getElem?_eq_some_iff.1 hk).1
    have e : h.queues.getD k queue0 = q := by rw [List.getD_eq_getElem?_getD, hk]; rfl
    have h5 := (ho.2 k hkl).1
    rw [e] at h5
    exact ⟨h5.2.2.1, h5.2.2.2.1⟩
  have hall : ∀ e ∈ shortS h, EOk e ∧ (entryB e).length ≤ 148 ∧ entryP (entryB e) = (e, 0) := fun e he => by
    obtain ⟨q, hq, he⟩ := List.mem_flatMap.1 he
    have hqs := keyS_size (hf.2 q hq).1
    have hb0 : (bytesN note0).length ≤ 134 := by decide
    rcases List.mem_cons.1 he with rfl | he
    · exact ⟨⟨by simp, by simp only; omega, fits_zero, by simp only; omega⟩, entryB_len (a := 8) (b := 134) hqs hb0, turn_make (by omega) (by have := hlim q hq; omega)⟩
    · obtain ⟨i, hi, rfl⟩ := List.mem_map.1 he
      have hw := ((hf.2 q hq).2.2.2 i hi).1
      have hb := bytes_right hw
      have hii := hin q hq i hi
      exact ⟨⟨by simp [putE], by simp only [putE]; omega, fits_right hw, by simp only [putE]; omega⟩, entryB_len (a := 8) (b := 134) hqs hb, turn_put (by omega) (by omega) hw⟩
  have hfl : ∀ es : List LEntry, (∀ e ∈ es, (entryB e).length ≤ 148) → ((es.map entryB).map frameS).flatten.length ≤ 152 * es.length := fun es => by
    induction es with
    | nil => simp
    | cons e r ih =>
      intro h
      have h1 := ih fun x hx => h x (by simp [hx])
      have h2 := h e (by simp)
      simp only [List.map_cons, List.flatten_cons, List.length_append, List.length_cons, frameS_length]
      omega
  have hfl := hfl _ fun e he => (hall e he).2.1
  have hw : writeS [] 0 (shortS h) = (⟨flatS ((shortS h).map entryB), 0⟩, 0) := by
    unfold writeS appendS
    have ha : ((shortS h).map entryB).any (fun r => decide (65535 < r.length)) = false := by
      rw [List.any_eq_false]
      intro r hr
      obtain ⟨e, he, rfl⟩ := List.mem_map.1 hr
      have := (hall e he).2.1
      simp
      omega
    rw [ha, if_neg (by simp), if_neg (by simp only [List.nil_append]; omega)]
    rfl
  refine ⟨⟨⟨by simp only [List.length_nil]; omega, by simp only; omega⟩, fun e he => (hall e he).1⟩, by rw [hw], ?_, ?_⟩
  · rw [hw]
    show (((shortS h).map entryB).map frameS).flatten.length ≤ 6000
    omega
  · rw [hw]
    obtain ⟨nx, h1, h2⟩ := fold_queues (N := h.next) h.queues [] 0 (by decide) hn0 (names_nodup hf.1) fun q hq => ⟨by show (-1 : Int) < 0; decide, hin q hq⟩
    refine ⟨nx, h1, ?_⟩
    rw [replay_flat (fun e he => (hall e he).2.2) (fun e he => by have := (hall e he).2.1; omega)]
    exact h2
/-- an empty log is written to -/
def eWriteN : Ent Try.prog D := ⟨24, List LEntry, fun x => [.agg [.nils, .int .i64 0], entriesA x], fun x => WOk (([], 0), x), fun x => ⟨writeA (writeS [] 0 x), []⟩, fun x y _ _ h => by
  simp only [entriesA, List.cons.injEq, AV.sl.injEq, true_and, and_true] at h
  rw [entries_inj h], fun x h => (con_write [] 0 x h.1.1 h.1.2 h.2).weak (by simp [covs, cov, entriesA])⟩
set_option maxRecDepth 100000 in
set_option maxHeartbeats 2000000 in
theorem con_journalshort (h : LHall) (hh : h.Fits) : Con Try.prog D 5 [hallA h] ⟨.bool true, []⟩ := by
  have hok : GOk Try.prog D (tabG [eAlive5, eRightq, eShort, eWriteN, eReplay, eRplain, eSamehall]) := tabG_ok _
  have g0 := tabG_use (T := [eAlive5, eRightq, eShort, eWriteN, eReplay, eRplain, eSamehall]) (E := eAlive5) (i := 0) rfl (by decide) (()) (trivial)
  have g1 := tabG_use (T := [eAlive5, eRightq, eShort, eWriteN, eReplay, eRplain, eSamehall]) (E := eRightq) (i := 1) rfl (by decide) (h) (hh)
  have g2 := fun (hx : (shortS h).length ≤ 8388608) => tabG_use (T := [eAlive5, eRightq, eShort, eWriteN, eReplay, eRplain, eSamehall]) (E := eShort) (i := 2) rfl (by decide) (h) (⟨hh, hx⟩)
  have g3 := fun (hx : WOk (([], 0), shortS h)) => tabG_use (T := [eAlive5, eRightq, eShort, eWriteN, eReplay, eRplain, eSamehall]) (E := eWriteN) (i := 3) rfl (by decide) (shortS h) (hx)
  have g4 := fun (l : List UInt8) (hx : l.length ≤ 1048576) => tabG_use (T := [eAlive5, eRightq, eShort, eWriteN, eReplay, eRplain, eSamehall]) (E := eReplay) (i := 4) rfl (by decide) (l) (hx)
  have g5 := tabG_use (T := [eAlive5, eRightq, eShort, eWriteN, eReplay, eRplain, eSamehall]) (E := eRplain) (i := 5) rfl (by decide) (h) (hh)
  have g6 := fun (x : LHall) (hx : x.Fits) => tabG_use (T := [eAlive5, eRightq, eShort, eWriteN, eReplay, eRplain, eSamehall]) (E := eSamehall) (i := 6) rfl (by decide) (x) (hx)
  generalize tabG [eAlive5, eRightq, eShort, eWriteN, eReplay, eRplain, eSamehall] = G at *
  dsimp only [eAlive5] at g0
  dsimp only [eRightq] at g1
  dsimp only [eShort] at g2
  dsimp only [eWriteN] at g3
  dsimp only [eReplay] at g4
  dsimp only [eRplain] at g5
  dsimp only [eSamehall] at g6
  by_cases ho : hallOk h
  · obtain ⟨hw, hw2, hw3, nx, hnx, hr⟩ := short_turns ho
    rw [decide_eq_true ho] at g1
    have g2 := g2 (by have := hw.1.2; simp only at this; omega)
    have g3 := g3 hw
    have g4 := g4 (writeS [] 0 (shortS h)).1.bytes (by omega)
    rw [hr] at g4
    have g6 := g6 ⟨(plainS h).queues, nx⟩ ⟨(fits_plain hh).1, (fits_plain hh).2⟩
    generalize shortS h = S at *
    generalize writeS [] 0 S = W at *
    have hpn : (plainS h).next = h.next := rfl
    generalize plainS h = P at *
    obtain ⟨⟨wb, ws⟩, we⟩ := W
    obtain ⟨pq, pn⟩ := P
    obtain ⟨q, n⟩ := h
    simp only at hw2 hnx hpn
    subst hw2
    have d1 : decide (nx < 0) = false := decide_eq_false (by omega)
    have d2 : decide (nx > n) = false := decide_eq_false (by omega)
    simp only [hallA, entriesA, writeA, List.map_nil] at g0 g1 g2 g3 g4 g5 g6
    refine conW (G := G) (rs := [(2, none)]) hok Try.func5 Try.results5 Try.ntmps5 (fun _ => {}) fun X hP hD hG' hX => ?_
    simp only [argS, num, hallA]
    simp (disch := omega) only [go_sem, Nat.reduceLeDiff, reduceCtorEq, Nat.reduceAdd, Nat.reduceSub, Nat.reduceMul, Nat.reduceLT, Nat.reduceEqDiff, Int.reduceEq, Int.reduceLE, Int.reduceLT, Int.reducePow, Int.reduceMul, Int.reduceToNat, Int.reduceNeg, ↓reduceIte, hD, hG', wrap64, g0, g1, g2, g3, unbox, tmv, Option.some.injEq, exists_eq_left']
    simp (disch := omega) only [go_sem, Nat.reduceLeDiff, reduceCtorEq, Nat.reduceAdd, Nat.reduceSub, Nat.reduceMul, Nat.reduceLT, Nat.reduceEqDiff, Int.reduceEq, Int.reduceLE, Int.reduceLT, Int.reducePow, Int.reduceMul, Int.reduceToNat, Int.reduceNeg, ↓reduceIte, hD, hG', wrap64, g4, unbox, tmv, Option.some.injEq, exists_eq_left']
    refine RegT.mk [] ?_
    simp (disch := omega) only [go_sem, Nat.reduceLeDiff, reduceCtorEq, Nat.reduceAdd, Nat.reduceSub, Nat.reduceMul, Nat.reduceLT, Nat.reduceEqDiff, Int.reduceEq, Int.reduceLE, Int.reduceLT, Int.reducePow, Int.reduceMul, Int.reduceToNat, Int.reduceNeg, ↓reduceIte, hD, hG', wrap64, g5, g6, d1, d2, unbox, tmv, Option.some.injEq, exists_eq_left']
    refine endW [] [] (by simp) rfl rfl rfl ?_ ?_ <;> simp only [go_sem, Nat.reduceEqDiff]
  · rw [decide_eq_false ho] at g1
    obtain ⟨q, n⟩ := h
    simp only [hallA] at g0 g1
    refine conW (G := G) (rs := [(2, none)]) hok Try.func5 Try.results5 Try.ntmps5 (fun _ => {}) fun X hP hD hG' hX => ?_
    simp only [argS, num, hallA]
    simp (disch := omega) only [go_sem, Nat.reduceLeDiff, reduceCtorEq, Nat.reduceAdd, Nat.reduceSub, Nat.reduceMul, Nat.reduceLT, Nat.reduceEqDiff, Int.reduceEq, Int.reduceLE, Int.reduceLT, Int.reducePow, Int.reduceMul, Int.reduceToNat, Int.reduceNeg, ↓reduceIte, hD, hG', wrap64, g0, g1, unbox, tmv, Option.some.injEq, exists_eq_left']
    refine endW [] [] (by simp) rfl rfl rfl ?_ ?_ <;> simp only [go_sem, Nat.reduceEqDiff]
end Go.Proofs.Ythbejciebmkclaa.Ab
