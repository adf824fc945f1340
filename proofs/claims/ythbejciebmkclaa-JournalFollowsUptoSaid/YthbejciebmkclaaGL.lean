/-
  Texts of the proof, one behind the other: JoC JoD JoE JoF JoG JoH JoI JoJ JoK JoL JoM.
  No condition but those that each theorem names.
-/
import Derived.Test.YthbejciebmkclaaGD
import Derived.Test.YthbejciebmkclaaGC
import Derived.Test.YthbejciebmkclaaGH
import Derived.Test.YthbejciebmkclaaGK
import Derived.Test.YthbejciebmkclaaGJ
namespace Go.Proofs.Ythbejciebmkclaa.Ab
open Go Go.RowKit
set_option linter.unusedVariables false
set_option linter.unusedSimpArgs false

theorem numS_flat (w : World) (im : Nat → Prop) (ρ : Env) (n : Int) : FlatRel w im ρ 1 ((numS n).map byteRow) ((numS n).map byteV) := by
  refine ⟨by simp, fun i row hi => ?_⟩
  rw [List.getElem?_map] at hi
  obtain ⟨b, hb, rfl⟩ := Option.map_eq_some_iff.1 hi
  refine ⟨rfl, fun j x hj => ?_⟩
  cases j with
  | succ j => simp [byteRow] at hj
  | zero =>
    simp [byteRow] at hj
    subst hj
    refine ⟨by simp [names], byteV b, ?_, rfl, .int _ _⟩
    rw [Nat.mul_one, Nat.add_zero, List.getElem?_map, hb]
    rfl
theorem numS_vals (n : Int) : (numS n).map byteV = [.int .u8 (n / 16777216 % 256), .int .u8 (n / 65536 % 256), .int .u8 (n / 256 % 256), .int .u8 (n % 256)] := by
  simp only [numS, List.map_cons, List.map_nil, byteV, byteI_nat]
set_option maxRecDepth 40000 in
set_option maxHeartbeats 400000 in
theorem jnum_calls (n : Int) (rs : List (List AV)) (hn : rs.length ≤ 8388608) (w : World) (im : Nat → Prop) (ρ : Env) (u : Value) (xs : List Value) (hown : w.ownsRow 0 5 1 u rs.length xs) (hf : FlatRel w im ρ 1 rs xs) :
    Calls Try.prog 76 #[u, .int .i64 n] w (RowsPost w im ρ 5 1 u (rs ++ (numS n).map byteRow)) := by
  obtain ⟨i0, hi0, hz0, hz1, hz2⟩ := info_parts info_u8
  have HO := Lib.hid hown
  have HF := Lib.hid hf
  clear hown hf
  go_enter Try.func76, Try.ntmps76
  have HN := Lib.hid (numS_vals n)
  go_wp2_with (at_builtin; refine wpList_append_any _ rfl (.tmp 5) (.tmp 17) _ rfl 0 5 i0 _ 1 1 Try.underlying26 hi0 hz0 hz1 hz2 rfl (by omega) u rs.length xs rfl (own_later HO.out (by repeat (first | exact Below.refl _ _ | apply below_alloc | apply Below.drew | apply below_drewN))) (· = w.heap.size) (some ⟨w.heap.size, 0, none⟩) 4 4 ((numS n).map byteV) rfl (by rw [HN.out]; exact reads_lit w _ 5 1 4 rfl) (one_bytes _) (by simp only [maxLen]; omega) (by omega) (by simp) ?_; intro v1 w1 hown1 hg1 hat1)
  go_ret
  have hlen : (rs ++ (numS n).map byteRow).length = rs.length + 4 := by simp [numS]
  refine ⟨v1, xs ++ (numS n).map byteV, rfl, ?_, HF.out.append (numS_flat w im ρ n), ?_, ?_⟩
  · rw [hlen]; exact hown1
  · exact ⟨hg1.os, hg1.tape, hg1.output, by have := hg1.size; simp at this; omega, fun g hg hne => by rw [hg1.block g (by simp; omega) hne]; exact Below.heap_alloc w _ g hg⟩
  · intro b hb
    rcases hat1 with h | h
    · rw [h] at hb; exact .inl hb
    · rw [h] at hb
      have : b = w.heap.size + 1 := by simpa using hb.symm
      exact .inr (by omega)
/-- what num does to bytes of our own -/
def jnumM : MCtr := fun dn f args bl => if f = 76 then
    match args with
    | [.os v, .int .i64 n] => match bl v with
      | some (.rows e sz rs) => some { v := .os dn, kl := [v], nw := [(dn, .rows e sz (rs ++ (numS n).map byteRow))], pre := (e = 5 ∧ sz = 1) ∧ rs.length ≤ 8388608 }
      | _ => none
    | _ => none
  else none
theorem mok_jnum {G : Ctr} : MOk Try.prog D G jnumM := by
  intro X hP hD hG hM hmx hT hok ops o σ e hgd he hpre hfr
  obtain ⟨dst, f, args, types, ty, pos, af, g, caps, rfl, hf, he⟩ := mEff_call he hgd
  unfold jnumM at he
  split at he
  case isFalse => cases he
  rename_i hg91
  subst hg91
  split at he
  case h_2 => cases he
  rename_i v n hargs
  split at he
  case h_2 => cases he
  rename_i e0 sz rs hbl
  have hbl := snap_some hbl
  injection he with he
  subst he
  obtain ⟨⟨rfl, rfl⟩, hl⟩ := hpre
  simp only [fresh, keys, unbound, Bool.and_eq_true, Option.isNone_iff_eq_none] at hfr
  refine inl_rows (by rw [hP, hD]; exact hT) hf hargs hbl (by rw [hP]; exact Try.func76) rfl (by decide) hfr.1.1 (fun k hk => ?_) (fun w im ρ u vs xs h1 h2 h3 h4 h5 => ?_)
  · have := hfr.2
    rw [hk] at this
    simpa using this
  · obtain ⟨h6, h7⟩ := h4
    match vs, h6 with
    | [y], _ =>
      have := h7 0 _ y rfl rfl
      rw [this.int_, hP]
      exact jnum_calls n rs hl w im ρ u xs h1 h2

theorem rowApp (a b : List UInt8) : a.map byteRow ++ b.map byteRow = (a ++ b).map byteRow := List.map_append.symm
def entryB (e : LEntry) : List UInt8 := byteI e.kind :: (textS e.queue.data.toList ++ (if e.kind = 1 then [byteI e.n] else if e.kind = 2 then [] else numS e.id ++ (if e.kind = 3 then bytesN e.note else [])))
def jbytesLo : Nat → Lo := fun id => match id with | 6 => {uo := [3, 7], ex := [0, 8], kn := [14, 30]} | _ => {}
set_option maxRecDepth 100000 in
set_option maxHeartbeats 1000000 in
theorem con_jbytes (e : LEntry) (hk : 1 ≤ e.kind ∧ e.kind ≤ 4) (hq : e.queue.size ≤ 1048576) (hn : e.note.Fits) (hb : (bytesN e.note).length ≤ 4194304) : Con Try.prog D 19 [entryA e] ⟨.sl 1 ((entryB e).map byteRow), []⟩ := by
  have hok : GOk Try.prog D (tabG [eBytes]) := tabG_ok _
  have g1 := tabG_use (T := [eBytes]) (E := eBytes) (i := 0) rfl (by decide) (e.note) (⟨hn, hb⟩)
  have gn : ∀ a, tabG ([eBytes] : List (Ent Try.prog D)) 76 a = none := fun a => rfl
  generalize tabG [eBytes] = G at *
  dsimp only [eBytes] at g1
  have hs := size_len e.queue
  obtain ⟨ek, eq, en, ei, ⟨ep, eb⟩⟩ := e
  simp only [noteA] at g1
  simp only at hk hq hs hb
  have hn4 := num4 ei
  refine conM mok_jnum (G := G) (rs := [(2, none)]) hok Try.func19 Try.results19 Try.ntmps19 jbytesLo fun X hP hD hG' hX => ?_
  simp only [argS, num, entryA, entryRow]
  simp (disch := omega) only [go_sem, Nat.reduceLeDiff, reduceCtorEq, Nat.reduceAdd, Nat.reduceSub, Nat.reduceMul, Nat.reduceLT, Nat.reduceEqDiff, Int.reduceEq, Int.reduceLE, Int.reduceLT, Int.reducePow, Int.reduceMul, Int.reduceToNat, Int.reduceNeg, ↓reduceIte, hD, hG', wrap64, jbytesLo, wrap8, gn, unbox, tmv, Option.some.injEq, exists_eq_left']
  ((try and_intros); all_goals (try first | omega | decide | (simp; done) | (simp only [List.length_append, List.length_cons, List.length_nil, List.length_map]; omega)))
  have e4 : ek = 1 ∨ ek = 2 ∨ ek = 3 ∨ ek = 4 := by omega
  have hlen : (entryB ⟨ek, eq, en, ei, ⟨ep, eb⟩⟩).length ≤ 6000000 := by
    simp only [entryB, textS, List.length_cons, List.length_append]
    split
    · simp; omega
    · split
      · simp; omega
      · split <;> simp only [List.length_append, List.length_nil] <;> omega
  rcases e4 with h | h | h | h
  · have e1 : (ek == 1) = true := by simp [h]
    have he : entryB ⟨ek, eq, en, ei, ⟨ep, eb⟩⟩ = byteI ek :: byteI eq.data.toList.length :: (eq.data.toList ++ [byteI en]) := by simp [entryB, h, textS]
    rw [he]
    simp (disch := omega) only [go_sem, Nat.reduceLeDiff, reduceCtorEq, Nat.reduceAdd, Nat.reduceSub, Nat.reduceMul, Nat.reduceLT, Nat.reduceEqDiff, Int.reduceEq, Int.reduceLE, Int.reduceLT, Int.reducePow, Int.reduceMul, Int.reduceToNat, Int.reduceNeg, ↓reduceIte, hD, hG', wrap64, jbytesLo, wrap8, gn, e1, rowApp, unbox, tmv, Option.some.injEq, exists_eq_left']
    (repeat (with_reducible refine And.intro (by first | omega | decide | (simp; done) | (simp only [List.length_append, List.length_cons, List.length_nil, List.length_map]; omega)) ?_))
    refine endW [24] [] (by simp) rfl rfl rfl ?_ ?_ <;> simp only [go_sem, Nat.reduceEqDiff]
    simp [byteRow]
  · have e1 : (ek == 1) = false := by simp [h]
    have e3 : (ek == 3) = false := by simp [h]
    have e4 : (ek == 4) = false := by simp [h]
    have he : entryB ⟨ek, eq, en, ei, ⟨ep, eb⟩⟩ = byteI ek :: byteI eq.data.toList.length :: eq.data.toList := by simp [entryB, h, textS]
    rw [he]
    simp (disch := omega) only [go_sem, Nat.reduceLeDiff, reduceCtorEq, Nat.reduceAdd, Nat.reduceSub, Nat.reduceMul, Nat.reduceLT, Nat.reduceEqDiff, Int.reduceEq, Int.reduceLE, Int.reduceLT, Int.reducePow, Int.reduceMul, Int.reduceToNat, Int.reduceNeg, ↓reduceIte, hD, hG', wrap64, jbytesLo, wrap8, gn, e1, e3, e4, rowApp, unbox, tmv, Option.some.injEq, exists_eq_left']
    refine endW [14] [] (by simp) rfl rfl rfl ?_ ?_ <;> simp only [go_sem, Nat.reduceEqDiff]
    simp [byteRow]
  · have e1 : (ek == 1) = false := by simp [h]
    have e3 : (ek == 3) = true := by simp [h]
    have e4 : (ek == 4) = false := by simp [h]
    have he : entryB ⟨ek, eq, en, ei, ⟨ep, eb⟩⟩ = byteI ek :: byteI eq.data.toList.length :: (eq.data.toList ++ numS ei ++ bytesN ⟨ep, eb⟩) := by simp [entryB, h, textS]
    rw [he]
    simp (disch := omega) only [go_sem, Nat.reduceLeDiff, reduceCtorEq, Nat.reduceAdd, Nat.reduceSub, Nat.reduceMul, Nat.reduceLT, Nat.reduceEqDiff, Int.reduceEq, Int.reduceLE, Int.reduceLT, Int.reducePow, Int.reduceMul, Int.reduceToNat, Int.reduceNeg, ↓reduceIte, hD, hG', wrap64, jbytesLo, wrap8, gn, g1, asked_none, jnumM, e1, e3, e4, rowApp, unbox, tmv, Option.some.injEq, exists_eq_left']
    (repeat (with_reducible refine And.intro (by first | omega | decide | (simp; done) | (simp only [List.length_append, List.length_cons, List.length_nil, List.length_map]; omega)) ?_))
    refine endW [34] [] (by simp) rfl rfl rfl ?_ ?_ <;> simp only [go_sem, Nat.reduceEqDiff]
    simp [byteRow]
  · have e1 : (ek == 1) = false := by simp [h]
    have e3 : (ek == 3) = false := by simp [h]
    have e4 : (ek == 4) = true := by simp [h]
    have he : entryB ⟨ek, eq, en, ei, ⟨ep, eb⟩⟩ = byteI ek :: byteI eq.data.toList.length :: (eq.data.toList ++ numS ei) := by simp [entryB, h, textS]
    rw [he]
    simp (disch := omega) only [go_sem, Nat.reduceLeDiff, reduceCtorEq, Nat.reduceAdd, Nat.reduceSub, Nat.reduceMul, Nat.reduceLT, Nat.reduceEqDiff, Int.reduceEq, Int.reduceLE, Int.reduceLT, Int.reducePow, Int.reduceMul, Int.reduceToNat, Int.reduceNeg, ↓reduceIte, hD, hG', wrap64, jbytesLo, wrap8, gn, asked_none, jnumM, e1, e3, e4, rowApp, unbox, tmv, Option.some.injEq, exists_eq_left']
    (repeat (with_reducible refine And.intro (by first | omega | decide | (simp; done) | (simp only [List.length_append, List.length_cons, List.length_nil, List.length_map]; omega)) ?_))
    refine endW [40] [] (by simp) rfl rfl rfl ?_ ?_ <;> simp only [go_sem, Nat.reduceEqDiff]
    simp [byteRow]
end Go.Proofs.Ythbejciebmkclaa.Ab
namespace Go.Proofs.Ythbejciebmkclaa.Ab
open Go Go.RowKit
set_option linter.unusedVariables false
set_option linter.unusedSimpArgs false

def entryZ : LEntry := ⟨0, ⟨#[]⟩, 0, 0, note0⟩
def entryK (k : Nat) (q : List UInt8) (r : List UInt8) : LEntry × Int :=
  if k < 1 ∨ 4 < k then (entryZ, 1)
  else if k = 1 ∧ r.length = 1 then (⟨1, ⟨⟨q⟩⟩, (r.getD 0 0).toNat, 0, note0⟩, 0)
  else if k = 2 ∧ r.length = 0 then (⟨2, ⟨⟨q⟩⟩, 0, 0, note0⟩, 0)
  else if k = 4 ∧ r.length = 4 then (⟨4, ⟨⟨q⟩⟩, 0, numN r, note0⟩, 0)
  else if k = 3 ∧ 4 ≤ r.length then
    if (parseS (r.drop 4)).2.2 = 0 ∧ (parseS (r.drop 4)).2.1 = r.length - 4 then (⟨3, ⟨⟨q⟩⟩, 0, numN r, (parseS (r.drop 4)).1⟩, 0) else (entryZ, 2)
  else (entryZ, 2)
/-- the entry of bytes, an errno's number -/
def entryP (l : List UInt8) : LEntry × Int :=
  if l.length < 2 ∨ l.length < 2 + (l.getD 1 0).toNat then (entryZ, 2)
  else entryK (l.getD 0 0).toNat ((l.take (2 + (l.getD 1 0).toNat)).drop 2) (l.drop (2 + (l.getD 1 0).toNat))
theorem parseS_len (l : List UInt8) : (parseS l).2.1 ≤ l.length := by
  unfold parseS
  split
  · simp
  · split
    · simp
    · split
      · simp
      · split
        · simp
        · split <;> simp
theorem orN64 (i a b : Nat) (hb : b < 2 ^ i) (ha : 2 ^ i * a + b < 4294967296) : orI .i64 ((2 ^ i * a : Nat) : Int) (b : Int) = ((2 ^ i * a + b : Nat) : Int) := by
  unfold orI
  have e : ∀ n : Nat, BitVec.ofInt 64 (n : Int) = BitVec.ofNat 64 n := fun n => by
    apply BitVec.eq_of_toNat_eq
    simp [BitVec.toNat_ofInt]
  show IntKind.wrap .i64 ((BitVec.ofInt 64 _ ||| BitVec.ofInt 64 _).toNat : Int) = _
  rw [e, e, BitVec.toNat_or, BitVec.toNat_ofNat, BitVec.toNat_ofNat, Nat.mod_eq_of_lt (by omega), Nat.mod_eq_of_lt (by omega), ← Nat.two_pow_add_eq_or_of_lt hb, wrap64 (by omega) (by omega)]
theorem shlN64 (a k : Nat) (h : a < 256) (hk : k ≤ 24) : shlI .i64 (a : Int) (k : Int) = ((2 ^ k * a : Nat) : Int) := by
  unfold shlI
  have h1 : min ((k : Int)).toNat IntKind.i64.bits = k := by
    show min k 64 = k
    omega
  have h2 : 2 ^ k ≤ 2 ^ 24 := Nat.pow_le_pow_right (by decide) hk
  have h3 : 2 ^ k * a ≤ 2 ^ 24 * 255 := Nat.mul_le_mul h2 (by omega)
  have h4 : (a : Int) * 2 ^ k = ((2 ^ k * a : Nat) : Int) := by push_cast; rw [Int.mul_comm]
  rw [h1, h4]
  exact wrap64 (by omega) (by omega)
theorem orNum (l : List UInt8) : orI .i64 (orI .i64 (orI .i64 (shlI .i64 ((l.getD 0 0).toNat : Int) 24) (shlI .i64 ((l.getD 1 0).toNat : Int) 16)) (shlI .i64 ((l.getD 2 0).toNat : Int) 8)) ((l.getD 3 0).toNat : Int) = (numN l : Int) := by
  have h0 := (l.getD 0 0).toNat_lt
  have h1 := (l.getD 1 0).toNat_lt
  have h2 := (l.getD 2 0).toNat_lt
  have h3 := (l.getD 3 0).toNat_lt
  unfold numN
  generalize (l.getD 0 0).toNat = a at *
  generalize (l.getD 1 0).toNat = b at *
  generalize (l.getD 2 0).toNat = c at *
  generalize (l.getD 3 0).toNat = d at *
  have s1 := shlN64 a 24 h0 (by omega)
  have s2 := shlN64 b 16 h1 (by omega)
  have s3 := shlN64 c 8 h2 (by omega)
  have o1 := orN64 24 a (2 ^ 16 * b) (by omega) (by omega)
  have e1 : 2 ^ 24 * a + 2 ^ 16 * b = 2 ^ 16 * (256 * a + b) := by omega
  have o2 := orN64 16 (256 * a + b) (2 ^ 8 * c) (by omega) (by omega)
  have e2 : 2 ^ 16 * (256 * a + b) + 2 ^ 8 * c = 2 ^ 8 * (65536 * a + 256 * b + c) := by omega
  have o3 := orN64 8 (65536 * a + 256 * b + c) d (by omega) (by omega)
  have s1' : shlI .i64 (a : Int) 24 = ((2 ^ 24 * a : Nat) : Int) := s1
  have s2' : shlI .i64 (b : Int) 16 = ((2 ^ 16 * b : Nat) : Int) := s2
  have s3' : shlI .i64 (c : Int) 8 = ((2 ^ 8 * c : Nat) : Int) := s3
  rw [s1', s2', s3', o1, e1, o2, e2, o3]
def wantM : List (Value × Value) := [(.int .i64 1, .int .i64 1), (.int .i64 2, .int .i64 0), (.int .i64 3, .int .i64 4), (.int .i64 4, .int .i64 4)]
def wantS (k : Int) : Int := if k = 1 then 1 else if k = 3 ∨ k = 4 then 4 else 0
theorem wantM_look (k : Int) : lookV (.int .i64) (.int .i64 k) (.int .i64 0) wantM = some (.int .i64 (wantS k)) := by
  unfold wantM wantS
  simp only [lookV, Instr.sameNow]
  grind
theorem zero_int (W : World) : (zeroValue 3).run Try.prog W = .ok (.int .i64 0) W := by kernel_rfl
def jparseLo : Nat → Lo := fun id => match id with | 3 => {uo := [14], un := [4], ex := [13]} | 7 => {hand := true} | 15 => {uo := [23], un := [4], ex := [22]} | _ => {}
set_option maxRecDepth 100000 in
set_option maxHeartbeats 2000000 in
theorem con_jparse (l : List UInt8) (hl : l.length ≤ 4194304) : Con Try.prog D 12 [.sl 1 (l.map byteRow)] ⟨.tup [entryA (entryP l).1, .int .i64 (entryP l).2], []⟩ := by
  have hok : GOk Try.prog D (tabG [eParse]) := tabG_ok _
  have g1 := fun (l : List UInt8) (h : l.length ≤ 4194304) => tabG_use (T := [eParse]) (E := eParse) (i := 0) rfl (by decide) (l) (h)
  generalize tabG [eParse] = G at *
  dsimp only [eParse] at g1
  have hcon : ∀ r, r = entryP l → Con Try.prog D 12 [.sl 1 (l.map byteRow)] ⟨.tup [entryA r.1, .int .i64 r.2], []⟩ := by
    intro r hr
    have hb0 := (l.getD 0 0).toNat_lt
    have hb1 := (l.getD 1 0).toNat_lt
    refine conW (G := G) (rs := [(2, some 30), (3, none)]) hok Try.func12 Try.results12 Try.ntmps12 (jparseLo) fun X hP hD hG' hX => ?_
    simp only [argS, num]
    by_cases h2 : l.length < 2
    · have d2 : decide ((l.length : Int) < 2) = true := by simp; omega
      simp (disch := omega) only [go_sem, Nat.reduceLeDiff, reduceCtorEq, Nat.reduceAdd, Nat.reduceSub, Nat.reduceMul, Nat.reduceLT, Nat.reduceEqDiff, Int.reduceEq, Int.reduceLE, Int.reduceLT, Int.reducePow, Int.reduceMul, Int.reduceToNat, Int.reduceNeg, ↓reduceIte, hD, hG', wrap64, jparseLo, d2, unbox, tmv, Option.some.injEq, exists_eq_left']
      refine RegT.mk [(3, false)] ?_
      simp (disch := omega) only [go_sem, Nat.reduceLeDiff, reduceCtorEq, Nat.reduceAdd, Nat.reduceSub, Nat.reduceMul, Nat.reduceLT, Nat.reduceEqDiff, Int.reduceEq, Int.reduceLE, Int.reduceLT, Int.reducePow, Int.reduceMul, Int.reduceToNat, Int.reduceNeg, ↓reduceIte, hD, hG', wrap64, jparseLo, d2, unbox, tmv, Option.some.injEq, exists_eq_left']
      refine endW [] [] (by simp) rfl rfl rfl ?_ ?_ <;> simp only [go_sem, Nat.reduceEqDiff]
      rw [hr, entryP, if_pos (.inl h2)]
      simp [entryA, entryRow, entryZ, note0, cov, covs, subs, names, namess]
    have d2 : decide ((l.length : Int) < 2) = false := by simp; omega
    by_cases h3 : l.length < 2 + (l.getD 1 0).toNat
    · have d3 : decide ((l.length : Int) < 2 + ((l.getD 1 0).toNat : Int)) = true := decide_eq_true (by omega)
      simp (disch := omega) only [go_sem, Nat.reduceLeDiff, reduceCtorEq, Nat.reduceAdd, Nat.reduceSub, Nat.reduceMul, Nat.reduceLT, Nat.reduceEqDiff, Int.reduceEq, Int.reduceLE, Int.reduceLT, Int.reducePow, Int.reduceMul, Int.reduceToNat, Int.reduceNeg, ↓reduceIte, hD, hG', wrap64, jparseLo, d2, d3, byteGet, wrap_byte, unbox, tmv, Option.some.injEq, exists_eq_left']
      refine RegT.mk [] ?_
      simp (disch := omega) only [go_sem, Nat.reduceLeDiff, reduceCtorEq, Nat.reduceAdd, Nat.reduceSub, Nat.reduceMul, Nat.reduceLT, Nat.reduceEqDiff, Int.reduceEq, Int.reduceLE, Int.reduceLT, Int.reducePow, Int.reduceMul, Int.reduceToNat, Int.reduceNeg, ↓reduceIte, hD, hG', wrap64, jparseLo, d2, d3, byteGet, wrap_byte, unbox, tmv, Option.some.injEq, exists_eq_left']
      refine ⟨by omega, ?_⟩
      refine endW [] [] (by simp) rfl rfl rfl ?_ ?_ <;> simp only [go_sem, Nat.reduceEqDiff]
      rw [hr, entryP, if_pos (.inr h3)]
      simp [entryA, entryRow, entryZ, note0, cov, covs, subs, names, namess]
    have d3 : decide ((l.length : Int) < 2 + ((l.getD 1 0).toNat : Int)) = false := decide_eq_false (by omega)
    have hr2 : r = entryK (l.getD 0 0).toNat ((l.take (2 + (l.getD 1 0).toNat)).drop 2) (l.drop (2 + (l.getD 1 0).toNat)) := by
      rw [hr, entryP, if_neg (fun h => h.elim h2 h3)]
    have et : (2 + ((l.getD 1 0).toNat : Int)).toNat = 2 + (l.getD 1 0).toNat := by omega
    simp (disch := omega) only [go_sem, Nat.reduceLeDiff, reduceCtorEq, Nat.reduceAdd, Nat.reduceSub, Nat.reduceMul, Nat.reduceLT, Nat.reduceEqDiff, Int.reduceEq, Int.reduceLE, Int.reduceLT, Int.reducePow, Int.reduceMul, Int.reduceToNat, Int.reduceNeg, ↓reduceIte, hD, hG', wrap64, jparseLo, d2, d3, byteGet, wrap_byte, et, unbox, tmv, Option.some.injEq, exists_eq_left']
    refine RegT.mk [] ?_
    simp (disch := omega) only [go_sem, Nat.reduceLeDiff, reduceCtorEq, Nat.reduceAdd, Nat.reduceSub, Nat.reduceMul, Nat.reduceLT, Nat.reduceEqDiff, Int.reduceEq, Int.reduceLE, Int.reduceLT, Int.reducePow, Int.reduceMul, Int.reduceToNat, Int.reduceNeg, ↓reduceIte, hD, hG', wrap64, jparseLo, d2, d3, byteGet, wrap_byte, et, List.take_length, unbox, tmv, Option.some.injEq, exists_eq_left']
    (repeat (with_reducible refine And.intro (by first | omega | decide | (simp; done) | (simp only [List.length_append, List.length_cons, List.length_nil, List.length_map]; omega)) ?_))
    have hRl : (l.drop (2 + (l.getD 1 0).toNat)).length = l.length - (2 + (l.getD 1 0).toNat) := List.length_drop
    generalize l.drop (2 + (l.getD 1 0).toNat) = R at *
    generalize (l.take (2 + (l.getD 1 0).toNat)).drop 2 = q at *
    generalize (l.getD 0 0).toNat = c0 at *
    by_cases h4 : c0 < 1
    · have d4 : decide ((c0 : Int) < 1) = true := decide_eq_true (by omega)
      refine RegT.mk [(3, false)] ?_
      simp (disch := omega) only [go_sem, Nat.reduceLeDiff, reduceCtorEq, Nat.reduceAdd, Nat.reduceSub, Nat.reduceMul, Nat.reduceLT, Nat.reduceEqDiff, Int.reduceEq, Int.reduceLE, Int.reduceLT, Int.reducePow, Int.reduceMul, Int.reduceToNat, Int.reduceNeg, ↓reduceIte, hD, hG', wrap64, jparseLo, d4, unbox, tmv, Option.some.injEq, exists_eq_left']
      refine endW [] [] (by simp) rfl rfl rfl ?_ ?_ <;> simp only [go_sem, Nat.reduceEqDiff]
      rw [hr2, entryK, if_pos (.inl h4)]
      simp [entryA, entryRow, entryZ, note0, cov, covs, subs, names, namess]
    have d4 : decide ((c0 : Int) < 1) = false := decide_eq_false (by omega)
    by_cases h5 : 4 < c0
    · have d5 : decide ((c0 : Int) > 4) = true := decide_eq_true (by omega)
      refine RegT.mk [] ?_
      simp (disch := omega) only [go_sem, Nat.reduceLeDiff, reduceCtorEq, Nat.reduceAdd, Nat.reduceSub, Nat.reduceMul, Nat.reduceLT, Nat.reduceEqDiff, Int.reduceEq, Int.reduceLE, Int.reduceLT, Int.reducePow, Int.reduceMul, Int.reduceToNat, Int.reduceNeg, ↓reduceIte, hD, hG', wrap64, jparseLo, d4, d5, unbox, tmv, Option.some.injEq, exists_eq_left']
      refine endW [] [] (by simp) rfl rfl rfl ?_ ?_ <;> simp only [go_sem, Nat.reduceEqDiff]
      rw [hr2, entryK, if_pos (.inr h5)]
      simp [entryA, entryRow, entryZ, note0, cov, covs, subs, names, namess]
    have d5 : decide ((c0 : Int) > 4) = false := decide_eq_false (by omega)
    refine RegT.mk [] ?_
    simp (disch := omega) only [go_sem, Nat.reduceLeDiff, reduceCtorEq, Nat.reduceAdd, Nat.reduceSub, Nat.reduceMul, Nat.reduceLT, Nat.reduceEqDiff, Int.reduceEq, Int.reduceLE, Int.reduceLT, Int.reducePow, Int.reduceMul, Int.reduceToNat, Int.reduceNeg, ↓reduceIte, hD, hG', wrap64, jparseLo, d4, d5, unbox, tmv, Option.some.injEq, exists_eq_left']
    have hu : X.P.underlying 100 = some (.map 3 3) := by rw [hP]; exact Try.underlying100
    have hk : X.P.underlying 3 = some (.int .i64) := by rw [hP]; exact Try.underlying3
    refine Tr.lit hX 0 (d := 53) wantM hu hk (by decide) ⟨_, rfl, rfl, rfl, rfl⟩ (by decide) ?_ ?_ ?_
    · unfold wantM litOps
      repeat (first | exact trivial | refine ⟨⟨_, rfl, _, _, rfl, rfl, rfl, fun _ => rfl, fun _ => rfl⟩, ?_⟩ | unfold litOps)
    · unfold wantM litNew
      repeat (first | exact trivial | refine ⟨rfl, rfl, ?_⟩ | unfold litNew)
    have hlen : wantM.length = 4 := rfl
    generalize hnm : wantM = nm at hlen ⊢
    have hlook := wantM_look c0
    rw [hnm] at hlook
    simp (disch := omega) only [go_sem, Nat.reduceLeDiff, reduceCtorEq, Nat.reduceAdd, Nat.reduceSub, Nat.reduceMul, Nat.reduceLT, Nat.reduceEqDiff, Int.reduceEq, Int.reduceLE, Int.reduceLT, Int.reducePow, Int.reduceMul, Int.reduceToNat, Int.reduceNeg, ↓reduceIte, hD, hG', wrap64, jparseLo, hlen, unbox, tmv, Option.some.injEq, exists_eq_left']
    refine inl_look (dk := .int .i64) (key := .int .i64 c0) (z := .int .i64 0) (v := .int .i64 (wantS c0)) (av := .int .i64 (wantS c0)) hu hk rfl rfl rfl (by rw [hP]; exact zero_int) (by simp [cst]) hlook (fun _ _ _ => .int _ _) rfl (by simp) ?_
    simp (disch := omega) only [go_sem, Nat.reduceLeDiff, reduceCtorEq, Nat.reduceAdd, Nat.reduceSub, Nat.reduceMul, Nat.reduceLT, Nat.reduceEqDiff, Int.reduceEq, Int.reduceLE, Int.reduceLT, Int.reducePow, Int.reduceMul, Int.reduceToNat, Int.reduceNeg, ↓reduceIte, hD, hG', wrap64, jparseLo, hlen, unbox, tmv, Option.some.injEq, exists_eq_left']
    have hw : (c0 = 1 → wantS c0 = 1) ∧ (c0 = 2 → wantS c0 = 0) ∧ (c0 = 3 → wantS c0 = 4) ∧ (c0 = 4 → wantS c0 = 4) := by
      unfold wantS
      refine ⟨?_, ?_, ?_, ?_⟩ <;> rintro rfl <;> rfl
    generalize wantS c0 = ws at *
    have hno : (R.length : Int) < ws ∨ (c0 ≠ 3 ∧ (R.length : Int) > ws) → entryK c0 q R = (entryZ, 2) := fun h => by
      rw [entryK, if_neg (by omega), if_neg (by omega), if_neg (by omega), if_neg (by omega), if_neg (by omega)]
    by_cases h6 : (R.length : Int) < ws
    · have d6 : decide ((R.length : Int) < ws) = true := decide_eq_true h6
      refine RegT.mk [(4, false), (8, true)] ?_
      simp (disch := omega) only [go_sem, Nat.reduceLeDiff, reduceCtorEq, Nat.reduceAdd, Nat.reduceSub, Nat.reduceMul, Nat.reduceLT, Nat.reduceEqDiff, Int.reduceEq, Int.reduceLE, Int.reduceLT, Int.reducePow, Int.reduceMul, Int.reduceToNat, Int.reduceNeg, ↓reduceIte, hD, hG', wrap64, jparseLo, d6, unbox, tmv, Option.some.injEq, exists_eq_left']
      refine endW [] [] (by simp) rfl rfl rfl ?_ ?_ <;> simp only [go_sem, Nat.reduceEqDiff]
      rw [hr2, hno (.inl h6)]
      simp [entryA, entryRow, entryZ, note0, cov, covs, subs, names, namess]
    have d6 : decide ((R.length : Int) < ws) = false := decide_eq_false h6
    by_cases h3 : c0 = 3
    · have e3 : ((c0 : Int) != 3) = false := by simp [h3]
      have n1 : ((c0 : Int) == 1) = false := by simp [h3]
      have n3 : ((c0 : Int) == 3) = true := by simp [h3]
      refine RegT.mk [(8, true)] ?_
      simp (disch := omega) only [go_sem, Nat.reduceLeDiff, reduceCtorEq, Nat.reduceAdd, Nat.reduceSub, Nat.reduceMul, Nat.reduceLT, Nat.reduceEqDiff, Int.reduceEq, Int.reduceLE, Int.reduceLT, Int.reducePow, Int.reduceMul, Int.reduceToNat, Int.reduceNeg, ↓reduceIte, hD, hG', wrap64, jparseLo, d6, e3, n1, n3, byteGet, wrap_byte, orNum, List.take_length, unbox, tmv, Option.some.injEq, exists_eq_left']
      (repeat (with_reducible refine And.intro (by first | omega | decide | (simp; done) | (simp only [List.length_append, List.length_cons, List.length_nil, List.length_map]; omega)) ?_))
      have hR4 : 4 ≤ R.length := by omega
      have hdl : (R.drop 4).length = R.length - 4 := List.length_drop
      have g1 := g1 (R.drop 4) (by omega)
      have hpl := parseS_len (R.drop 4)
      have hK : entryK c0 q R = if (parseS (R.drop 4)).2.2 = 0 ∧ (parseS (R.drop 4)).2.1 = R.length - 4 then (⟨3, ⟨⟨q⟩⟩, 0, numN R, (parseS (R.drop 4)).1⟩, 0) else (entryZ, 2) := by
        rw [entryK, if_neg (by omega), if_neg (by omega), if_neg (by omega), if_neg (by omega), if_pos (by omega)]
      rw [hK] at hr2
      generalize parseS (R.drop 4) = P at *
      obtain ⟨⟨pp, pb⟩, pk, pe⟩ := P
      simp only [noteA] at g1 hr2 hpl
      simp (disch := omega) only [go_sem, Nat.reduceLeDiff, reduceCtorEq, Nat.reduceAdd, Nat.reduceSub, Nat.reduceMul, Nat.reduceLT, Nat.reduceEqDiff, Int.reduceEq, Int.reduceLE, Int.reduceLT, Int.reducePow, Int.reduceMul, Int.reduceToNat, Int.reduceNeg, ↓reduceIte, hD, hG', wrap64, jparseLo, g1, List.take_length, unbox, tmv, Option.some.injEq, exists_eq_left']
      (repeat (with_reducible refine And.intro (by first | omega | decide | (simp; done) | (simp only [List.length_append, List.length_cons, List.length_nil, List.length_map]; omega)) ?_))
      by_cases h8 : pe = 0
      · have d8 : (pe != 0) = false := by simp [h8]
        by_cases h9 : pk = R.length - 4
        · have d9 : ((pk : Int) != (R.length : Int) - 4) = false := by simp; omega
          refine RegT.mk [] ?_
          simp (disch := omega) only [go_sem, Nat.reduceLeDiff, reduceCtorEq, Nat.reduceAdd, Nat.reduceSub, Nat.reduceMul, Nat.reduceLT, Nat.reduceEqDiff, Int.reduceEq, Int.reduceLE, Int.reduceLT, Int.reducePow, Int.reduceMul, Int.reduceToNat, Int.reduceNeg, ↓reduceIte, hD, hG', wrap64, jparseLo, d8, d9, unbox, tmv, Option.some.injEq, exists_eq_left']
          refine endW [] [] (by simp) rfl rfl rfl ?_ ?_ <;> simp only [go_sem, Nat.reduceEqDiff]
          rw [hr2, if_pos ⟨h8, h9⟩]
          simp [entryA, entryRow, h3, cov, covs, subs, names, namess]
        · have d9 : ((pk : Int) != (R.length : Int) - 4) = true := by simp; omega
          refine RegT.mk [] ?_
          simp (disch := omega) only [go_sem, Nat.reduceLeDiff, reduceCtorEq, Nat.reduceAdd, Nat.reduceSub, Nat.reduceMul, Nat.reduceLT, Nat.reduceEqDiff, Int.reduceEq, Int.reduceLE, Int.reduceLT, Int.reducePow, Int.reduceMul, Int.reduceToNat, Int.reduceNeg, ↓reduceIte, hD, hG', wrap64, jparseLo, d8, d9, unbox, tmv, Option.some.injEq, exists_eq_left']
          refine endW [] [] (by simp) rfl rfl rfl ?_ ?_ <;> simp only [go_sem, Nat.reduceEqDiff]
          rw [hr2, if_neg (fun h => h9 h.2)]
          simp [entryA, entryRow, entryZ, note0, cov, covs, subs, names, namess]
      · have d8 : (pe != 0) = true := by simp [h8]
        refine RegT.mk [(2, false)] ?_
        simp (disch := omega) only [go_sem, Nat.reduceLeDiff, reduceCtorEq, Nat.reduceAdd, Nat.reduceSub, Nat.reduceMul, Nat.reduceLT, Nat.reduceEqDiff, Int.reduceEq, Int.reduceLE, Int.reduceLT, Int.reducePow, Int.reduceMul, Int.reduceToNat, Int.reduceNeg, ↓reduceIte, hD, hG', wrap64, jparseLo, d8, unbox, tmv, Option.some.injEq, exists_eq_left']
        refine endW [] [] (by simp) rfl rfl rfl ?_ ?_ <;> simp only [go_sem, Nat.reduceEqDiff]
        rw [hr2, if_neg (fun h => h8 h.1)]
        simp [entryA, entryRow, entryZ, note0, cov, covs, subs, names, namess]
    have e3 : ((c0 : Int) != 3) = true := by simp; omega
    by_cases h7 : (R.length : Int) > ws
    · have d7 : decide ((R.length : Int) > ws) = true := decide_eq_true h7
      refine RegT.mk [] ?_
      simp (disch := omega) only [go_sem, Nat.reduceLeDiff, reduceCtorEq, Nat.reduceAdd, Nat.reduceSub, Nat.reduceMul, Nat.reduceLT, Nat.reduceEqDiff, Int.reduceEq, Int.reduceLE, Int.reduceLT, Int.reducePow, Int.reduceMul, Int.reduceToNat, Int.reduceNeg, ↓reduceIte, hD, hG', wrap64, jparseLo, d6, d7, e3, unbox, tmv, Option.some.injEq, exists_eq_left']
      refine endW [] [] (by simp) rfl rfl rfl ?_ ?_ <;> simp only [go_sem, Nat.reduceEqDiff]
      rw [hr2, hno (.inr ⟨h3, h7⟩)]
      simp [entryA, entryRow, entryZ, note0, cov, covs, subs, names, namess]
    have d7 : decide ((R.length : Int) > ws) = false := decide_eq_false h7
    have h8 : c0 = 1 ∨ c0 = 2 ∨ c0 = 4 := by omega
    rcases h8 with h8 | h8 | h8
    · have n1 : ((c0 : Int) == 1) = true := by simp [h8]
      have n3 : ((c0 : Int) == 3) = false := by simp [h8]
      refine RegT.mk [] ?_
      simp (disch := omega) only [go_sem, Nat.reduceLeDiff, reduceCtorEq, Nat.reduceAdd, Nat.reduceSub, Nat.reduceMul, Nat.reduceLT, Nat.reduceEqDiff, Int.reduceEq, Int.reduceLE, Int.reduceLT, Int.reducePow, Int.reduceMul, Int.reduceToNat, Int.reduceNeg, ↓reduceIte, hD, hG', wrap64, jparseLo, d6, d7, e3, n1, n3, byteGet, wrap_byte, orNum, unbox, tmv, Option.some.injEq, exists_eq_left']
      (repeat (with_reducible refine And.intro (by first | omega | decide | (simp; done) | (simp only [List.length_append, List.length_cons, List.length_nil, List.length_map]; omega)) ?_))
      refine endW [] [] (by simp) rfl rfl rfl ?_ ?_ <;> simp only [go_sem, Nat.reduceEqDiff]
      have hK : entryK c0 q R = (⟨1, ⟨⟨q⟩⟩, (R.getD 0 0).toNat, 0, note0⟩, 0) := by
        rw [entryK, if_neg (by omega), if_pos (by omega)]
      rw [hr2, hK]
      simp [entryA, entryRow, note0, h8, cov, covs, subs, names, namess]
    · have n1 : ((c0 : Int) == 1) = false := by simp [h8]
      have n3 : ((c0 : Int) == 3) = false := by simp [h8]
      have n4 : ((c0 : Int) == 4) = false := by simp [h8]
      refine RegT.mk [] ?_
      simp (disch := omega) only [go_sem, Nat.reduceLeDiff, reduceCtorEq, Nat.reduceAdd, Nat.reduceSub, Nat.reduceMul, Nat.reduceLT, Nat.reduceEqDiff, Int.reduceEq, Int.reduceLE, Int.reduceLT, Int.reducePow, Int.reduceMul, Int.reduceToNat, Int.reduceNeg, ↓reduceIte, hD, hG', wrap64, jparseLo, d6, d7, e3, n1, n3, n4, byteGet, wrap_byte, orNum, unbox, tmv, Option.some.injEq, exists_eq_left']
      (repeat (with_reducible refine And.intro (by first | omega | decide | (simp; done) | (simp only [List.length_append, List.length_cons, List.length_nil, List.length_map]; omega)) ?_))
      refine endW [] [] (by simp) rfl rfl rfl ?_ ?_ <;> simp only [go_sem, Nat.reduceEqDiff]
      have hK : entryK c0 q R = (⟨2, ⟨⟨q⟩⟩, 0, 0, note0⟩, 0) := by
        rw [entryK, if_neg (by omega), if_neg (by omega), if_pos (by omega)]
      rw [hr2, hK]
      simp [entryA, entryRow, note0, h8, cov, covs, subs, names, namess]
    · have n1 : ((c0 : Int) == 1) = false := by simp [h8]
      have n3 : ((c0 : Int) == 3) = false := by simp [h8]
      have n4 : ((c0 : Int) == 4) = true := by simp [h8]
      refine RegT.mk [] ?_
      simp (disch := omega) only [go_sem, Nat.reduceLeDiff, reduceCtorEq, Nat.reduceAdd, Nat.reduceSub, Nat.reduceMul, Nat.reduceLT, Nat.reduceEqDiff, Int.reduceEq, Int.reduceLE, Int.reduceLT, Int.reducePow, Int.reduceMul, Int.reduceToNat, Int.reduceNeg, ↓reduceIte, hD, hG', wrap64, jparseLo, d6, d7, e3, n1, n3, n4, byteGet, wrap_byte, orNum, unbox, tmv, Option.some.injEq, exists_eq_left']
      (repeat (with_reducible refine And.intro (by first | omega | decide | (simp; done) | (simp only [List.length_append, List.length_cons, List.length_nil, List.length_map]; omega)) ?_))
      refine endW [] [] (by simp) rfl rfl rfl ?_ ?_ <;> simp only [go_sem, Nat.reduceEqDiff]
      have hK : entryK c0 q R = (⟨4, ⟨⟨q⟩⟩, 0, numN R, note0⟩, 0) := by
        rw [entryK, if_neg (by omega), if_neg (by omega), if_neg (by omega), if_pos (by omega)]
      rw [hr2, hK]
      simp [entryA, entryRow, note0, h8, cov, covs, subs, names, namess]
  exact hcon _ rfl
end Go.Proofs.Ythbejciebmkclaa.Ab
namespace Go.Proofs.Ythbejciebmkclaa.Ab
open Go Go.RowKit
set_option linter.unusedVariables false
set_option linter.unusedSimpArgs false

end Go.Proofs.Ythbejciebmkclaa.Ab
namespace Go.Proofs.Ythbejciebmkclaa.Ab
open Go Go.RowKit
set_option linter.unusedVariables false
set_option linter.unusedSimpArgs false

/-! in plain Lean -/
def EOk (e : LEntry) : Prop := (1 ≤ e.kind ∧ e.kind ≤ 4) ∧ e.queue.size ≤ 1048576 ∧ e.note.Fits ∧ (bytesN e.note).length ≤ 4194304
def hallLe (k : Nat) (h : LHall) : Prop := h.queues.length ≤ k ∧ ∀ q ∈ h.queues, (q.items.length ≤ k ∧ ∀ i ∈ q.items, i.note.Fits) ∧ q.name.size ≤ 1048576
theorem hallLe.fits {k : Nat} {h : LHall} (hk : k ≤ 1048576) (hh : hallLe k h) : h.Fits :=
  ⟨by have := hh.1; omega, fun q hq => ⟨⟨by have := (hh.2 q hq).1.1; omega, (hh.2 q hq).1.2⟩, (hh.2 q hq).2⟩⟩
theorem hallLe.apply {k : Nat} {h : LHall} (hh : hallLe k h) {e : LEntry} (hq : e.queue.size ≤ 1048576) (hn : e.note.Fits) : hallLe (k + 1) (applyS h e) := by
  obtain ⟨h1, h2⟩ := hh
  have h0 : ∀ q ∈ h.queues, (q.items.length ≤ k + 1 ∧ ∀ i ∈ q.items, i.note.Fits) ∧ q.name.size ≤ 1048576 := fun q hq => ⟨⟨by have := (h2 q hq).1.1; omega, (h2 q hq).1.2⟩, (h2 q hq).2⟩
  unfold applyS applyK
  generalize findS h.queues (nmL e.queue) = j
  split
  · refine ⟨by simp; omega, fun q hq => ?_⟩
    rcases List.mem_append.1 hq with h3 | h3
    · exact h0 q h3
    · rw [List.mem_singleton.1 h3]
      exact ⟨⟨by simp, by simp⟩, by assumption⟩
  split
  · refine ⟨Nat.le_trans (List.length_eraseIdx_le _ _) (by omega), fun q hq => h0 q (List.mem_of_mem_eraseIdx hq)⟩
  split
  · refine ⟨by simp; omega, fun q hq => ?_⟩
    rcases List.mem_or_eq_of_mem_set hq with h3 | h3
    · exact h0 q h3
    · rw [h3]
      unfold gotQ qAt
      by_cases hj : j.toNat < h.queues.length
      · have hm : h.queues.getD j.toNat queue0 ∈ h.queues := by simp [hj]
        have h4 := h2 _ hm
        refine ⟨⟨by simp only [List.length_append, List.length_cons, List.length_nil]; omega, fun i hi => ?_⟩, h4.2⟩
        rcases List.mem_append.1 hi with h5 | h5
        · exact h4.1.2 i h5
        · rw [List.mem_singleton.1 h5]; exact hn
      · rw [List.set_eq_of_length_le (by omega)] at hq
        rw [← gotQ, ← qAt, ← h3]
        exact h0 q hq
  split
  · refine ⟨by simp; omega, fun q hq => ?_⟩
    rcases List.mem_or_eq_of_mem_set hq with h3 | h3
    · exact h0 q h3
    · rw [h3]
      unfold goneQ qAt
      by_cases hj : j.toNat < h.queues.length
      · have hm : h.queues.getD j.toNat queue0 ∈ h.queues := by simp [hj]
        have h4 := h0 _ hm
        exact ⟨⟨Nat.le_trans (List.length_filter_le _ _) h4.1.1, fun i hi => h4.1.2 i (List.mem_filter.1 hi).1⟩, h4.2⟩
      · rw [List.set_eq_of_length_le (by omega)] at hq
        rw [← goneQ, ← qAt, ← h3]
        exact h0 q hq
  · exact ⟨by omega, h0⟩
theorem entryP_fits (l : List UInt8) (hl : l.length ≤ 1048576) : (entryP l).1.queue.size ≤ 1048576 ∧ (entryP l).1.note.Fits ∧ (-1000000000000 ≤ (entryP l).1.id ∧ (entryP l).1.id ≤ 1000000000000) := by
  have h0 : entryZ.queue.size ≤ 1048576 ∧ entryZ.note.Fits ∧ (-1000000000000 ≤ entryZ.id ∧ entryZ.id ≤ 1000000000000) := ⟨by decide, ⟨by simp [entryZ, note0], by decide, by decide⟩, by decide, by decide⟩
  have hn0 : note0.Fits := h0.2.1
  unfold entryP
  split
  · exact h0
  · generalize hq : (l.take (2 + (l.getD 1 0).toNat)).drop 2 = q
    have hql : (⟨⟨q⟩⟩ : ByteArray).size ≤ 1048576 := by
      show q.length ≤ 1048576
      rw [← hq, List.length_drop, List.length_take]
      omega
    generalize l.drop (2 + (l.getD 1 0).toNat) = R
    have hR := numN_lt R
    unfold entryK
    split
    · exact h0
    split
    · exact ⟨hql, hn0, by simp only; omega, by simp only; omega⟩
    split
    · exact ⟨hql, hn0, by simp only; omega, by simp only; omega⟩
    split
    · exact ⟨hql, hn0, by simp only; omega, by simp only; omega⟩
    split
    · split
      · exact ⟨hql, fits_parse _, by simp only; omega, by simp only; omega⟩
      · exact h0
    · exact h0
theorem recs_mem : ∀ (n : Nat) (b : List UInt8), b.length ≤ n → ∀ r ∈ (recsS b).1, r.length ≤ b.length
  | 0, b, h, r, hr => by
    have h0 : b = [] := List.eq_nil_of_length_eq_zero (by omega)
    subst h0
    simp [recsS, recsF] at hr
  | n + 1, b, h, r, hr => by
    cases hk : okS b with
    | false => rw [recsS_no hk] at hr; simp at hr
    | true =>
      have h4 := okS_len hk
      rw [recsS_yes hk] at hr
      rcases List.mem_cons.1 hr with h5 | h5
      · rw [h5, List.length_drop, List.length_take]; omega
      · have := recs_mem n (b.drop (headS b + 4)) (by rw [List.length_drop]; omega) r h5
        rw [List.length_drop] at this
        omega
def stepR (h : LHall) (r : List UInt8) : LHall := if (entryP r).2 = 0 then applyS h (entryP r).1 else h
def replayS (l : List UInt8) : LHall := (recsS l).1.foldl stepR hall0
theorem stepR_le {k : Nat} {h : LHall} (hh : hallLe k h) {r : List UInt8} (hr : r.length ≤ 1048576) : hallLe (k + 1) (stepR h r) := by
  have h1 := entryP_fits r hr
  unfold stepR
  split
  · exact hh.apply h1.1 h1.2.1
  · exact ⟨by have := hh.1; omega, fun q hq => ⟨⟨by have := (hh.2 q hq).1.1; omega, (hh.2 q hq).1.2⟩, (hh.2 q hq).2⟩⟩
theorem replay_le : ∀ (n : Nat) (rs : List (List UInt8)), (∀ r ∈ rs, r.length ≤ 1048576) → n ≤ rs.length → hallLe n ((rs.take n).foldl stepR hall0)
  | 0, rs, h, hn => ⟨by simp [hall0], by simp [hall0]⟩
  | n + 1, rs, h, hn => by
    have hn1 : n < rs.length := by omega
    rw [List.take_succ_eq_append_getElem hn1, List.foldl_append]
    exact stepR_le (replay_le n rs h (by omega)) (h _ (List.getElem_mem hn1))

/-! the tables -/
def eJparse : Ent Try.prog D := ⟨12, List UInt8, fun l => [.sl 1 (l.map byteRow)], fun l => l.length ≤ 4194304, fun l => ⟨.tup [entryA (entryP l).1, .int .i64 (entryP l).2], []⟩, fun x y _ _ h => by rw [one_inj h], con_jparse⟩
def eApply : Ent Try.prog D := ⟨21, LHall × LEntry, fun x => [hallA x.1, entryA x.2], fun x => x.1.Fits ∧ x.2.note.Fits ∧ (-1000000000000 ≤ x.2.id ∧ x.2.id ≤ 1000000000000), fun x => ⟨hallA (applyS x.1 x.2), []⟩, fun x y _ _ h => by
  obtain ⟨a, b⟩ := x; obtain ⟨a', b'⟩ := y
  simp only [List.cons.injEq, and_true] at h
  rw [hallA_inj h.1, entryA_inj h.2], fun x h => con_apply _ _ h.1 h.2.1 h.2.2⟩
def eJbytes : Ent Try.prog D := ⟨19, LEntry, fun x => [entryA x], EOk, fun x => ⟨.sl 1 ((entryB x).map byteRow), []⟩, fun x y _ _ h => by
  simp only [List.cons.injEq, and_true] at h
  rw [entryA_inj h], fun x h => con_jbytes x h.1 h.2.1 h.2.2.1 h.2.2.2⟩

set_option maxRecDepth 100000 in
set_option maxHeartbeats 1000000 in
theorem con_replay (l : List UInt8) (hl : l.length ≤ 1048576) : Con Try.prog D 16 [.sl 1 (l.map byteRow)] ⟨hallA (replayS l), []⟩ := by
  have hok : GOk Try.prog D (tabG [eRecords, eJparse, eApply]) := tabG_ok _
  have g1 := tabG_use (T := [eRecords, eJparse, eApply]) (E := eRecords) (i := 0) rfl (by decide) (l) (by show l.length ≤ 8388608; omega)
  have g2 := fun (r : List UInt8) (h : r.length ≤ 4194304) => tabG_use (T := [eRecords, eJparse, eApply]) (E := eJparse) (i := 1) rfl (by decide) (r) (h)
  have g3 := fun (x : LHall) (e : LEntry) (h : x.Fits ∧ e.note.Fits ∧ (-1000000000000 ≤ e.id ∧ e.id ≤ 1000000000000)) => tabG_use (T := [eRecords, eJparse, eApply]) (E := eApply) (i := 2) rfl (by decide) ((x, e)) (h)
  generalize tabG [eRecords, eJparse, eApply] = G at *
  dsimp only [eRecords] at g1
  dsimp only [eJparse] at g2
  dsimp only [eApply] at g3
  have hml := recs_mem l.length l (Nat.le_refl _)
  have hrl := recsS_le l.length l (Nat.le_refl _)
  unfold replayS
  generalize recsS l = P at *
  obtain ⟨rs, at_⟩ := P
  simp only at g1 hml hrl
  have hrs : ∀ r ∈ rs, r.length ≤ 1048576 := fun r hr => by have := hml r hr; omega
  refine conW (G := G) (rs := [(2, some 24)]) hok Try.func16 Try.results16 Try.ntmps16 (fun _ => {}) fun X hP hD hG' hX => ?_
  simp only [argS, num]
  simp (disch := omega) only [go_sem, Nat.reduceLeDiff, reduceCtorEq, Nat.reduceAdd, Nat.reduceSub, Nat.reduceMul, Nat.reduceLT, Nat.reduceEqDiff, Int.reduceEq, Int.reduceLE, Int.reduceLT, Int.reducePow, Int.reduceMul, Int.reduceToNat, Int.reduceNeg, ↓reduceIte, hD, hG', wrap64, g1, unbox, tmv, Option.some.injEq, exists_eq_left']
  refine Tr.loop (ι := Nat) (fun i => i ≤ rs.length) (fun i => { nt := 33, tm := [(2, .ptr 2 0), (3, .ptr 3 0), (15, .sl 1 (rs.map recRow)), (16, .int .i64 rs.length), (17, .int .i64 i)], bl := [(2, some (.cells [.nils, .int .i64 0])), (3, some (.cells [.sl 3 (((rs.take i).foldl stepR hall0).queues.map queueRow), .int .i64 ((rs.take i).foldl stepR hall0).next]))] }) (fun i => rs.length - i) 0
    ⟨Nat.zero_le _, wk_of hD [(2, 2), (3, 3)] rfl rfl (by simp only [go_sem, Nat.reduceEqDiff]; simp) (by simp only [go_sem, Nat.reduceEqDiff, D_1, D_2, D_3, D_4, D_5, D_6, D_7, D_8, D_9, D_10, D_11, D_12, D_13, D_14, D_15, D_16, D_17, D_18, D_19, D_21, D_22, D_23, D_24, D_25, D_26, D_27, D_28, D_29, D_30, D_31, D_32, D_33, D_35, D_36, D_37, D_38, D_39, D_40, D_41, D_42, D_43, D_45, D_46, D_47, D_48, D_49, D_50, D_51, D_52, D_53, D_55, D_56, D_57, D_58, D_60, D_61, D_62, D_63, D_64, D_65, D_67, D_68, D_69, D_70, D_71, D_72, D_73, D_74, D_75, D_76, D_77, D_78, D_79, D_80, D_81, D_82, D_83, D_84, D_85, D_86, D_87, D_88, D_89, D_91, D_93, D_94, D_95, D_97, D_98, D_99, D_101, D_103, D_104, D_105, D_106, D_108, D_109, D_110, D_111, D_113, D_114, D_115, D_116, D_117, D_118, D_119, D_120, D_121, D_122, D_124, D_125, D_127, D_128, D_130, D_132, D_133, D_134, D_135, D_136, D_138, D_139, D_141, D_143, D_144, D_145, D_147, D_148, D_149, D_150, D_151, D_153, D_154, D_155, D_156, D_157, D_158, D_159, D_160, D_161, D_162, D_163, D_164, D_165, D_166, D_167, D_168, D_169, D_170, D_171, D_172, D_173, D_174, D_178, D_179, D_180, D_181, D_182, D_183, D_184, D_185, D_186]; simp [hall0, cov, covs])⟩ ?_
  intro i hi
  have hle := replay_le i rs hrs hi
  refine evC_sound hX (fun _ => {}) _ _ _ ?_
  simp (disch := omega) only [go_sem, Nat.reduceLeDiff, reduceCtorEq, Nat.reduceAdd, Nat.reduceSub, Nat.reduceMul, Nat.reduceLT, Nat.reduceEqDiff, Int.reduceEq, Int.reduceLE, Int.reduceLT, Int.reducePow, Int.reduceMul, Int.reduceToNat, Int.reduceNeg, ↓reduceIte, hD, hG', wrap64, unbox, tmv, Option.some.injEq, exists_eq_left']
  refine condK_split (fun h => ?_) (fun h => ?_)
  · rw [decide_eq_true_eq] at h
    have hi1 : i < rs.length := by omega
    have hst : (rs.take (i + 1)).foldl stepR hall0 = stepR ((rs.take i).foldl stepR hall0) (rs.getD i []) := by
      rw [List.take_succ_eq_append_getElem hi1, List.foldl_append]
      simp [hi1]
    have hx : (rs.getD i []).length ≤ 1048576 := by
      have : rs.getD i [] = rs[i] := by simp [hi1]
      rw [this]
      exact hrs _ (List.getElem_mem hi1)
    have hgr : (rs.map recRow).getD i [] = [.sl 1 ((rs.getD i []).map byteRow)] := by simp [hi1, recRow]
    have hpf := entryP_fits _ hx
    have g2 := g2 (rs.getD i []) (by omega)
    rw [stepR] at hst
    generalize (rs.take i).foldl stepR hall0 = x at *
    generalize entryP (rs.getD i []) = E at *
    obtain ⟨e, w⟩ := E
    have g3 := g3 x e ⟨hle.fits (by omega), hpf.2⟩
    obtain ⟨xq, xn⟩ := x
    generalize applyS ⟨xq, xn⟩ e = y at *
    obtain ⟨yq, yn⟩ := y
    obtain ⟨e1, e2, e3, e4, ⟨e5, e6⟩⟩ := e
    simp only [hallA, entryA, entryRow] at g2 g3
    simp only at hst
    by_cases hw : w = 0
    · have w0 : (w == 0) = true := by simp [hw]
      rw [if_pos hw] at hst
      simp (disch := omega) only [go_sem, Nat.reduceLeDiff, reduceCtorEq, Nat.reduceAdd, Nat.reduceSub, Nat.reduceMul, Nat.reduceLT, Nat.reduceEqDiff, Int.reduceEq, Int.reduceLE, Int.reduceLT, Int.reducePow, Int.reduceMul, Int.reduceToNat, Int.reduceNeg, ↓reduceIte, hD, hG', wrap64, hgr, g2, g3, w0, unbox, tmv, Option.some.injEq, exists_eq_left']
      ((try and_intros); all_goals (try first | omega | decide | (simp; done) | (simp only [List.length_append, List.length_cons, List.length_nil, List.length_map]; omega)))
      refine ⟨i + 1, ⟨by omega, by omega⟩, wk_of hD [(2, 2), (3, 3)] rfl rfl ?_ ?_⟩ <;> simp only [go_sem, Nat.reduceEqDiff]
      · simp
      · simp [hst]
    · have w0 : (w == 0) = false := by simp [hw]
      rw [if_neg hw] at hst
      simp (disch := omega) only [go_sem, Nat.reduceLeDiff, reduceCtorEq, Nat.reduceAdd, Nat.reduceSub, Nat.reduceMul, Nat.reduceLT, Nat.reduceEqDiff, Int.reduceEq, Int.reduceLE, Int.reduceLT, Int.reducePow, Int.reduceMul, Int.reduceToNat, Int.reduceNeg, ↓reduceIte, hD, hG', wrap64, hgr, g2, g3, w0, unbox, tmv, Option.some.injEq, exists_eq_left']
      ((try and_intros); all_goals (try first | omega | decide | (simp; done) | (simp only [List.length_append, List.length_cons, List.length_nil, List.length_map]; omega)))
      refine ⟨i + 1, ⟨by omega, by omega⟩, wk_of hD [(2, 2), (3, 3)] rfl rfl ?_ ?_⟩ <;> simp only [go_sem, Nat.reduceEqDiff]
      · simp
      · simp [hst]
  · rw [decide_eq_false_iff_not] at h
    have hie : i = rs.length := by omega
    subst hie
    rw [List.take_length] at *
    simp (disch := omega) only [go_sem, Nat.reduceLeDiff, reduceCtorEq, Nat.reduceAdd, Nat.reduceSub, Nat.reduceMul, Nat.reduceLT, Nat.reduceEqDiff, Int.reduceEq, Int.reduceLE, Int.reduceLT, Int.reducePow, Int.reduceMul, Int.reduceToNat, Int.reduceNeg, ↓reduceIte, hD, hG', wrap64, unbox, tmv, Option.some.injEq, exists_eq_left']
    refine endW [] [] (by simp) rfl rfl rfl ?_ ?_ <;> simp only [go_sem, Nat.reduceEqDiff]
    simp [hallA, cov, covs, subs, names, namess]
end Go.Proofs.Ythbejciebmkclaa.Ab
namespace Go.Proofs.Ythbejciebmkclaa.Ab
open Go Go.RowKit
set_option linter.unusedVariables false
set_option linter.unusedSimpArgs false

def writeS (l : List UInt8) (s : Int) (es : List LEntry) : LLog × Int := appendS ⟨l, s⟩ (es.map entryB)
set_option maxRecDepth 100000 in
set_option maxHeartbeats 1000000 in
theorem con_write (l : List UInt8) (s : Int) (es : List LEntry) (hl : l.length + ((es.map entryB).map frameS).flatten.length ≤ 8388608) (hr : es.length ≤ 1048576) (he : ∀ e ∈ es, EOk e) :
    Con Try.prog D 24 [.agg [.sl 1 (l.map byteRow), .int .i64 s], entriesA es] ⟨.tup [.agg [.sl 1 ((writeS l s es).1.bytes.map byteRow), .int .i64 (writeS l s es).1.sure], .int .i64 (writeS l s es).2], []⟩ := by
  have hok : GOk Try.prog D (tabG [eJbytes, eAppend]) := tabG_ok _
  have g1 := fun (e : LEntry) (h : EOk e) => tabG_use (T := [eJbytes, eAppend]) (E := eJbytes) (i := 0) rfl (by decide) (e) (h)
  have g2 := tabG_use (T := [eJbytes, eAppend]) (E := eAppend) (i := 1) rfl (by decide) (((l, s), es.map entryB)) (⟨hl, by rw [List.length_map]; exact hr⟩)
  generalize tabG [eJbytes, eAppend] = G at *
  dsimp only [eJbytes] at g1
  dsimp only [eAppend] at g2
  unfold writeS
  generalize appendS ⟨l, s⟩ (es.map entryB) = W at *
  obtain ⟨⟨wb, ws⟩, we⟩ := W
  refine conW (G := G) (rs := [(4, some 32), (5, none)]) hok Try.func24 Try.results24 Try.ntmps24 (fun _ => {}) fun X hP hD hG' hX => ?_
  simp only [argS, num, entriesA]
  simp (disch := omega) only [go_sem, Nat.reduceLeDiff, reduceCtorEq, Nat.reduceAdd, Nat.reduceSub, Nat.reduceMul, Nat.reduceLT, Nat.reduceEqDiff, Int.reduceEq, Int.reduceLE, Int.reduceLT, Int.reducePow, Int.reduceMul, Int.reduceToNat, Int.reduceNeg, ↓reduceIte, hD, hG', wrap64, unbox, tmv, Option.some.injEq, exists_eq_left']
  refine Tr.loop (ι := Nat) (fun i => i ≤ es.length) (fun i => { nt := 26, tm := [(2, .ptr 2 0), (4, .ptr 4 0), (6, .os 5000), (9, .sl 6 (es.map entryRow)), (10, .int .i64 es.length), (11, .int .i64 i)], bl := [(2, some (.cells [.sl 1 (l.map byteRow), .int .i64 s])), (4, some (.cells [.nils, .int .i64 0])), (5000, some (.rows 26 1 (((es.take i).map entryB).map recRow)))] }) (fun i => es.length - i) 0
    ⟨Nat.zero_le _, wk_of hD [(2, 2), (4, 4)] rfl rfl (by simp only [go_sem, Nat.reduceEqDiff]; simp) (by simp only [go_sem, Nat.reduceEqDiff, D_1, D_2, D_3, D_4, D_5, D_6, D_7, D_8, D_9, D_10, D_11, D_12, D_13, D_14, D_15, D_16, D_17, D_18, D_19, D_21, D_22, D_23, D_24, D_25, D_26, D_27, D_28, D_29, D_30, D_31, D_32, D_33, D_35, D_36, D_37, D_38, D_39, D_40, D_41, D_42, D_43, D_45, D_46, D_47, D_48, D_49, D_50, D_51, D_52, D_53, D_55, D_56, D_57, D_58, D_60, D_61, D_62, D_63, D_64, D_65, D_67, D_68, D_69, D_70, D_71, D_72, D_73, D_74, D_75, D_76, D_77, D_78, D_79, D_80, D_81, D_82, D_83, D_84, D_85, D_86, D_87, D_88, D_89, D_91, D_93, D_94, D_95, D_97, D_98, D_99, D_101, D_103, D_104, D_105, D_106, D_108, D_109, D_110, D_111, D_113, D_114, D_115, D_116, D_117, D_118, D_119, D_120, D_121, D_122, D_124, D_125, D_127, D_128, D_130, D_132, D_133, D_134, D_135, D_136, D_138, D_139, D_141, D_143, D_144, D_145, D_147, D_148, D_149, D_150, D_151, D_153, D_154, D_155, D_156, D_157, D_158, D_159, D_160, D_161, D_162, D_163, D_164, D_165, D_166, D_167, D_168, D_169, D_170, D_171, D_172, D_173, D_174, D_178, D_179, D_180, D_181, D_182, D_183, D_184, D_185, D_186]; simp)⟩ ?_
  intro i hi
  refine evC_sound hX (fun _ => {}) _ _ _ ?_
  simp (disch := omega) only [go_sem, Nat.reduceLeDiff, reduceCtorEq, Nat.reduceAdd, Nat.reduceSub, Nat.reduceMul, Nat.reduceLT, Nat.reduceEqDiff, Int.reduceEq, Int.reduceLE, Int.reduceLT, Int.reducePow, Int.reduceMul, Int.reduceToNat, Int.reduceNeg, ↓reduceIte, hD, hG', wrap64, unbox, tmv, Option.some.injEq, exists_eq_left']
  refine condK_split (fun h => ?_) (fun h => ?_)
  · rw [decide_eq_true_eq] at h
    have hi1 : i < es.length := by omega
    have hgx := entryGet hi1
    have hti : es.take (i + 1) = es.take i ++ [es.getD i entry0] := by
      rw [List.take_succ_eq_append_getElem hi1]
      simp [hi1]
    have htl : (es.take i).length = i := by rw [List.length_take]; omega
    have hok := he (es.getD i entry0) (by rw [show es.getD i entry0 = es[i] by simp [hi1]]; exact List.getElem_mem hi1)
    have g1 := g1 (es.getD i entry0) hok
    generalize es.getD i entry0 = x at *
    generalize hb : entryB x = b at *
    obtain ⟨e1, e2, e3, e4, ⟨e5, e6⟩⟩ := x
    simp only [entryRow] at hgx
    simp only [entryA, entryRow] at g1
    simp (disch := omega) only [go_sem, Nat.reduceLeDiff, reduceCtorEq, Nat.reduceAdd, Nat.reduceSub, Nat.reduceMul, Nat.reduceLT, Nat.reduceEqDiff, Int.reduceEq, Int.reduceLE, Int.reduceLT, Int.reducePow, Int.reduceMul, Int.reduceToNat, Int.reduceNeg, ↓reduceIte, hD, hG', wrap64, hgx, g1, unbox, tmv, Option.some.injEq, exists_eq_left']
    ((try and_intros); all_goals (try first | omega | decide | (simp; done) | (simp only [List.length_append, List.length_cons, List.length_nil, List.length_map]; omega)))
    refine ⟨i + 1, ⟨by omega, by omega⟩, wk_of hD [(2, 2), (4, 4), (5000, 19)] rfl rfl ?_ ?_⟩ <;> simp only [go_sem, Nat.reduceEqDiff]
    · simp
    · simp [hti, hb, recRow]
  · rw [decide_eq_false_iff_not] at h
    have hie : i = es.length := by omega
    subst hie
    rw [List.take_length] at *
    simp (disch := omega) only [go_sem, Nat.reduceLeDiff, reduceCtorEq, Nat.reduceAdd, Nat.reduceSub, Nat.reduceMul, Nat.reduceLT, Nat.reduceEqDiff, Int.reduceEq, Int.reduceLE, Int.reduceLT, Int.reducePow, Int.reduceMul, Int.reduceToNat, Int.reduceNeg, ↓reduceIte, hD, hG', wrap64, g2, unbox, tmv, Option.some.injEq, exists_eq_left']
    refine endW [] [] (by simp) rfl rfl rfl ?_ ?_ <;> simp only [go_sem, Nat.reduceEqDiff]
    try simp [cov, covs, subs, names, namess]
def putE (nm : ByteArray) (i : LItem) : LEntry := ⟨3, nm, 0, i.id, i.note⟩
def shortQ (q : LQueue) : List LEntry := ⟨1, q.name, q.limit, 0, note0⟩ :: q.items.map (putE q.name)
def shortS (h : LHall) : List LEntry := h.queues.flatMap shortQ
theorem short_take {l : List LQueue} {i : Nat} (hi : i < l.length) : (l.take (i + 1)).flatMap shortQ = (l.take i).flatMap shortQ ++ shortQ (l.getD i queue0) := by
  rw [List.take_succ_eq_append_getElem hi, List.flatMap_append]
  simp [hi]
theorem short_le (l : List LQueue) (i : Nat) : ((l.take i).flatMap shortQ).length ≤ (l.flatMap shortQ).length := by
  conv => rhs; rw [← List.take_append_drop i l]
  rw [List.flatMap_append, List.length_append]
  omega
def shortLo : Nat → Lo := fun id => match id with | 9 => {uo := [10], kn := [5001, 39], ex := [0, 8, 9, 11]} | _ => {}
set_option maxRecDepth 100000 in
set_option maxHeartbeats 2000000 in
theorem con_short (h : LHall) (hh : h.Fits) (hs : (shortS h).length ≤ 8388608) : Con Try.prog D 27 [hallA h] ⟨entriesA (shortS h), []⟩ := by
  have hok : GOk Try.prog D (tabG [eOwn1]) := tabG_ok _
  have g1 := fun (n : LNote) (h : n.Fits) => tabG_use (T := [eOwn1]) (E := eOwn1) (i := 0) rfl (by decide) (n) (h)
  generalize tabG [eOwn1] = G at *
  dsimp only [eOwn1] at g1
  have hl := hh.1
  have hfq := fun i hi => queue_fits (i := i) hh hi
  obtain ⟨l, next⟩ := h
  simp only at hl hfq
  have hsl := short_le l
  have hs : (l.flatMap shortQ).length ≤ 8388608 := hs
  refine conW (G := G) (rs := [(2, none)]) hok Try.func27 Try.results27 Try.ntmps27 (shortLo) fun X hP hD hG' hX => ?_
  simp only [argS, num, hallA]
  simp (disch := omega) only [go_sem, Nat.reduceLeDiff, reduceCtorEq, Nat.reduceAdd, Nat.reduceSub, Nat.reduceMul, Nat.reduceLT, Nat.reduceEqDiff, Int.reduceEq, Int.reduceLE, Int.reduceLT, Int.reducePow, Int.reduceMul, Int.reduceToNat, Int.reduceNeg, ↓reduceIte, hD, hG', wrap64, shortLo, unbox, tmv, Option.some.injEq, exists_eq_left']
  refine Tr.loop (ι := Nat) (fun i => i ≤ l.length) (fun i => { nt := 44, tm := [(3, .os 5000), (9, .sl 3 (l.map queueRow)), (10, .int .i64 l.length), (11, .int .i64 i)], bl := [(5000, some (.rows 30 6 (((l.take i).flatMap shortQ).map entryRow)))] }) (fun i => l.length - i) 0
    ⟨Nat.zero_le _, wk_of hD [] rfl rfl (by simp only [go_sem, Nat.reduceEqDiff]; simp) (by simp only [go_sem, Nat.reduceEqDiff, D_1, D_2, D_3, D_4, D_5, D_6, D_7, D_8, D_9, D_10, D_11, D_12, D_13, D_14, D_15, D_16, D_17, D_18, D_19, D_21, D_22, D_23, D_24, D_25, D_26, D_27, D_28, D_29, D_30, D_31, D_32, D_33, D_35, D_36, D_37, D_38, D_39, D_40, D_41, D_42, D_43, D_45, D_46, D_47, D_48, D_49, D_50, D_51, D_52, D_53, D_55, D_56, D_57, D_58, D_60, D_61, D_62, D_63, D_64, D_65, D_67, D_68, D_69, D_70, D_71, D_72, D_73, D_74, D_75, D_76, D_77, D_78, D_79, D_80, D_81, D_82, D_83, D_84, D_85, D_86, D_87, D_88, D_89, D_91, D_93, D_94, D_95, D_97, D_98, D_99, D_101, D_103, D_104, D_105, D_106, D_108, D_109, D_110, D_111, D_113, D_114, D_115, D_116, D_117, D_118, D_119, D_120, D_121, D_122, D_124, D_125, D_127, D_128, D_130, D_132, D_133, D_134, D_135, D_136, D_138, D_139, D_141, D_143, D_144, D_145, D_147, D_148, D_149, D_150, D_151, D_153, D_154, D_155, D_156, D_157, D_158, D_159, D_160, D_161, D_162, D_163, D_164, D_165, D_166, D_167, D_168, D_169, D_170, D_171, D_172, D_173, D_174, D_178, D_179, D_180, D_181, D_182, D_183, D_184, D_185, D_186]; simp)⟩ ?_
  intro i hi
  have hsi := hsl i
  refine evC_sound hX shortLo _ _ _ ?_
  simp (disch := omega) only [go_sem, Nat.reduceLeDiff, reduceCtorEq, Nat.reduceAdd, Nat.reduceSub, Nat.reduceMul, Nat.reduceLT, Nat.reduceEqDiff, Int.reduceEq, Int.reduceLE, Int.reduceLT, Int.reducePow, Int.reduceMul, Int.reduceToNat, Int.reduceNeg, ↓reduceIte, hD, hG', wrap64, shortLo, unbox, tmv, Option.some.injEq, exists_eq_left']
  refine condK_split (fun h => ?_) (fun h => ?_)
  · rw [decide_eq_true_eq] at h
    have hi1 : i < l.length := by omega
    have hgx := queueGet hi1
    have hti := short_take hi1
    have hsi1 := hsl (i + 1)
    have hqf := (hfq i hi1).1
    rw [hti, List.length_append] at hsi1
    generalize l.getD i queue0 = x at *
    obtain ⟨qn, ql, qi⟩ := x
    simp only [queueRow] at hgx
    have hql : (shortQ ⟨qn, ql, qi⟩).length = qi.length + 1 := by simp [shortQ]
    generalize hpre : (l.take i).flatMap shortQ = pre at *
    simp (disch := omega) only [go_sem, Nat.reduceLeDiff, reduceCtorEq, Nat.reduceAdd, Nat.reduceSub, Nat.reduceMul, Nat.reduceLT, Nat.reduceEqDiff, Int.reduceEq, Int.reduceLE, Int.reduceLT, Int.reducePow, Int.reduceMul, Int.reduceToNat, Int.reduceNeg, ↓reduceIte, hD, hG', wrap64, hgx, shortLo, unbox, tmv, Option.some.injEq, exists_eq_left']
    refine ⟨by omega, by omega, ?_⟩
    have w1 : rowsNz (pre.map entryRow ++ [[.int .i64 1, .str qn.data.toList, .int .i64 ql, .int .i64 0, .nils, .nils]]) ((pre ++ [(⟨1, qn, ql, 0, note0⟩ : LEntry)]).map entryRow) := by
      rw [List.map_append]
      exact rowsNz_append (rowsNz_refl _) (by simp [rowsNz, rowNz, cellNz, entryRow, note0])
    refine Tr.loop (ι := Nat) (fun j => j ≤ qi.length) (fun j => { nt := 44, tm := [(3, .os 5001), (5, .ptr 5 0), (9, .sl 3 (l.map queueRow)), (10, .int .i64 l.length), (11, .int .i64 i), (24, .sl 7 (qi.map itemRow)), (25, .int .i64 qi.length), (26, .int .i64 j)], bl := [(5, some (.cells [.str qn.data.toList, .int .i64 ql, .sl 7 (qi.map itemRow)])), (5001, some (.rows 30 6 ((pre ++ (⟨1, qn, ql, 0, note0⟩ :: (qi.take j).map (putE qn))).map entryRow)))] }) (fun j => qi.length - j) 0
      ⟨Nat.zero_le _, (Wk.nz 22 rfl w1).trans (wk_of hD [(5, 5), (5001, 22)] rfl rfl (by simp only [go_sem, Nat.reduceEqDiff]; simp) (by simp only [go_sem, Nat.reduceEqDiff, D_1, D_2, D_3, D_4, D_5, D_6, D_7, D_8, D_9, D_10, D_11, D_12, D_13, D_14, D_15, D_16, D_17, D_18, D_19, D_21, D_22, D_23, D_24, D_25, D_26, D_27, D_28, D_29, D_30, D_31, D_32, D_33, D_35, D_36, D_37, D_38, D_39, D_40, D_41, D_42, D_43, D_45, D_46, D_47, D_48, D_49, D_50, D_51, D_52, D_53, D_55, D_56, D_57, D_58, D_60, D_61, D_62, D_63, D_64, D_65, D_67, D_68, D_69, D_70, D_71, D_72, D_73, D_74, D_75, D_76, D_77, D_78, D_79, D_80, D_81, D_82, D_83, D_84, D_85, D_86, D_87, D_88, D_89, D_91, D_93, D_94, D_95, D_97, D_98, D_99, D_101, D_103, D_104, D_105, D_106, D_108, D_109, D_110, D_111, D_113, D_114, D_115, D_116, D_117, D_118, D_119, D_120, D_121, D_122, D_124, D_125, D_127, D_128, D_130, D_132, D_133, D_134, D_135, D_136, D_138, D_139, D_141, D_143, D_144, D_145, D_147, D_148, D_149, D_150, D_151, D_153, D_154, D_155, D_156, D_157, D_158, D_159, D_160, D_161, D_162, D_163, D_164, D_165, D_166, D_167, D_168, D_169, D_170, D_171, D_172, D_173, D_174, D_178, D_179, D_180, D_181, D_182, D_183, D_184, D_185, D_186]))⟩ ?_
    intro j hj
    refine evC_sound hX shortLo _ _ _ ?_
    simp (disch := omega) only [go_sem, Nat.reduceLeDiff, reduceCtorEq, Nat.reduceAdd, Nat.reduceSub, Nat.reduceMul, Nat.reduceLT, Nat.reduceEqDiff, Int.reduceEq, Int.reduceLE, Int.reduceLT, Int.reducePow, Int.reduceMul, Int.reduceToNat, Int.reduceNeg, ↓reduceIte, hD, hG', wrap64, shortLo, unbox, tmv, Option.some.injEq, exists_eq_left']
    refine condK_split (fun h2 => ?_) (fun h2 => ?_)
    · rw [decide_eq_true_eq] at h2
      have hj1 : j < qi.length := by omega
      have hgy := itemGet hj1
      have hnf := item_fits hqf hj1
      have htj : qi.take (j + 1) = qi.take j ++ [qi.getD j item0] := by
        rw [List.take_succ_eq_append_getElem hj1]
        simp [hj1]
      have htl : (qi.take j).length = j := by rw [List.length_take]; omega
      generalize qi.getD j item0 = y at *
      obtain ⟨i1, i2, i3, i4, i5, ⟨i6, i7⟩⟩ := y
      simp only [itemRow] at hgy
      have g1 := g1 _ hnf
      simp only [noteA] at g1
      simp (disch := omega) only [go_sem, Nat.reduceLeDiff, reduceCtorEq, Nat.reduceAdd, Nat.reduceSub, Nat.reduceMul, Nat.reduceLT, Nat.reduceEqDiff, Int.reduceEq, Int.reduceLE, Int.reduceLT, Int.reducePow, Int.reduceMul, Int.reduceToNat, Int.reduceNeg, ↓reduceIte, hD, hG', wrap64, hgy, g1, shortLo, unbox, tmv, Option.some.injEq, exists_eq_left']
      ((try and_intros); all_goals (try first | omega | decide | (simp; done) | (simp only [List.length_append, List.length_cons, List.length_nil, List.length_map]; omega)))
      refine ⟨j + 1, ⟨by omega, by omega⟩, wk_of hD [(5, 5), (5001, 40)] rfl rfl ?_ ?_⟩ <;> simp only [go_sem, Nat.reduceEqDiff]
      · simp
      · simp [htj, entryRow, putE]
    · rw [decide_eq_false_iff_not] at h2
      have hje : j = qi.length := by omega
      subst hje
      rw [List.take_length] at *
      simp (disch := omega) only [go_sem, Nat.reduceLeDiff, reduceCtorEq, Nat.reduceAdd, Nat.reduceSub, Nat.reduceMul, Nat.reduceLT, Nat.reduceEqDiff, Int.reduceEq, Int.reduceLE, Int.reduceLT, Int.reducePow, Int.reduceMul, Int.reduceToNat, Int.reduceNeg, ↓reduceIte, hD, hG', wrap64, shortLo, unbox, tmv, Option.some.injEq, exists_eq_left']
      refine ⟨i + 1, ⟨by omega, by omega⟩, wk_of hD [(5000, 5001)] rfl rfl ?_ ?_⟩ <;> simp only [go_sem, Nat.reduceEqDiff]
      · simp
      · simp [hti, shortQ]
  · rw [decide_eq_false_iff_not] at h
    have hie : i = l.length := by omega
    subst hie
    rw [List.take_length] at *
    simp (disch := omega) only [go_sem, Nat.reduceLeDiff, reduceCtorEq, Nat.reduceAdd, Nat.reduceSub, Nat.reduceMul, Nat.reduceLT, Nat.reduceEqDiff, Int.reduceEq, Int.reduceLE, Int.reduceLT, Int.reducePow, Int.reduceMul, Int.reduceToNat, Int.reduceNeg, ↓reduceIte, hD, hG', wrap64, shortLo, unbox, tmv, Option.some.injEq, exists_eq_left']
    refine endW [5000] [] (by simp) rfl rfl rfl ?_ ?_ <;> simp only [go_sem, Nat.reduceEqDiff]
    try simp [entriesA, shortS, cov, covs, subs, names, namess]
end Go.Proofs.Ythbejciebmkclaa.Ab
namespace Go.Proofs.Ythbejciebmkclaa.Ab
open Go Go.RowKit
set_option linter.unusedVariables false
set_option linter.unusedSimpArgs false

def WOk (x : (List UInt8 × Int) × List LEntry) : Prop := (x.1.1.length + ((x.2.map entryB).map frameS).flatten.length ≤ 8388608 ∧ x.2.length ≤ 1048576) ∧ ∀ e ∈ x.2, EOk e
theorem entryB_len {e : LEntry} {a b : Nat} (h1 : e.queue.size ≤ a) (h2 : (bytesN e.note).length ≤ b) : (entryB e).length ≤ a + b + 6 := by
  have := size_len e.queue
  simp only [entryB, textS, List.length_cons, List.length_append]
  split
  · simp; omega
  · split
    · simp; omega
    · have := num4 e.id
      split <;> simp only [List.length_append, List.length_nil] <;> omega

/-- what the law asks of an entry -/
def entryNice (e : LEntry) : Prop := ¬(e.kind < 1 ∨ e.kind > 4 ∨ e.queue.size > 100 ∨ e.n < 0 ∨ e.n > 255 ∨ e.id < 0 ∨ e.id > 1000000 ∨ wrongS e.note ≠ 0)
theorem entryNice.ok {e : LEntry} (h : entryNice e) : EOk e ∧ (entryB e).length ≤ 300 := by
  unfold entryNice at h
  have hw : wrongS e.note = 0 := by omega
  have hb := bytes_right hw
  exact ⟨⟨by omega, by omega, fits_right hw, by omega⟩, by have := @entryB_len e 100 134 (by omega) hb; omega⟩
end Go.Proofs.Ythbejciebmkclaa.Ab
namespace Go.Proofs.Ythbejciebmkclaa.Ab
open Go Go.RowKit
set_option linter.unusedVariables false
set_option linter.unusedSimpArgs false

/-- entries bring one plain hall to another -/
def Fw (g g' : LHall) (es : List LEntry) : Prop := es.foldl applyS (plainS g) = plainS g'
theorem Fw.refl (g : LHall) : Fw g g [] := rfl
theorem Fw.trans {g g1 g2 : LHall} {es1 es2 : List LEntry} (h1 : Fw g g1 es1) (h2 : Fw g1 g2 es2) : Fw g g2 (es1 ++ es2) := by
  unfold Fw at *
  rw [List.foldl_append, h1, h2]
theorem plain_find {l : List LQueue} {nm : List UInt8} : findS (l.map plainQ) nm = findS l nm := findS_congr (by rw [List.map_map]; rfl)
theorem plain_get {l : List LQueue} {k : Nat} : (l.map plainQ).getD k queue0 = plainQ (l.getD k queue0) := by
  by_cases hk : k < l.length
  · simp [hk]
  · simp only [List.getD_eq_getElem?_getD, List.getElem?_map, List.getElem?_eq_none (Nat.le_of_not_lt hk), Option.map_none, Option.getD_none]
    rfl
theorem filter_plain {id : Int} {l : List LItem} : (l.map plainI).filter (keptI id) = (l.filter (keptI id)).map plainI := by
  rw [List.filter_map]
  rfl
/-- an item goes -/
theorem fw_gone {g : LHall} {nm : ByteArray} {k : Nat} {id n : Int} (hf : findS g.queues (nmL nm) = (k : Int)) : Fw g (setQ g k (goneQ (qAt g k) id)) [⟨4, nm, n, id, note0⟩] := by
  obtain ⟨l, next⟩ := g
  unfold Fw
  simp only [List.foldl_cons, List.foldl_nil, applyS, plainS, plain_find]
  simp only at hf
  rw [hf]
  simp [applyK, setQ, goneQ, qAt, plain_get, plainQ, filter_plain, List.map_set, -List.getD_eq_getElem?_getD]
/-- an item comes -/
theorem fw_put {g : LHall} {nm : ByteArray} {k : Nat} {m : LNote} {n : Int} (hf : findS g.queues (nmL nm) = (k : Int)) :
    Fw g ⟨g.queues.set k { qAt g k with items := (qAt g k).items ++ [⟨g.next, 0, 0, false, 0, m⟩] }, g.next + 1⟩ [⟨3, nm, n, g.next, m⟩] := by
  obtain ⟨l, next⟩ := g
  unfold Fw
  simp only [List.foldl_cons, List.foldl_nil, applyS, plainS, plain_find]
  simp only at hf
  rw [hf]
  have h1 : next < next + 1 := by omega
  simp [applyK, gotQ, qAt, plain_get, plainQ, plainI, List.map_set, h1, -List.getD_eq_getElem?_getD]
/-- ids are unlike, and below the next one -/
def idsOk (g : LHall) : Prop := ∀ q ∈ g.queues, (q.items.map (·.id)).Nodup ∧ ∀ i ∈ q.items, i.id < g.next
theorem filter_erase : ∀ {l : List LItem} {j : Nat}, (l.map (·.id)).Nodup → j < l.length → l.eraseIdx j = l.filter (keptI (l.getD j item0).id)
  | [], j, _, h => by simp at h
  | a :: l, 0, hn, _ => by
    have h1 : ∀ x ∈ l, keptI a.id x = true := fun x hx => by
      simp only [List.map_cons, List.nodup_cons, List.mem_map, not_exists, not_and] at hn
      simp only [keptI, Bool.not_eq_true', decide_eq_false_iff_not]
      exact hn.1 x hx
    have h2 : keptI a.id a = false := by simp [keptI]
    simp only [List.eraseIdx_cons_zero, List.getD_cons_zero]
    rw [List.filter_cons_of_neg (by simp [h2]), List.filter_eq_self.2 h1]
  | a :: l, j + 1, hn, h => by
    have hj : j < l.length := by simpa using h
    have ih := filter_erase (l := l) (j := j) (by simp only [List.map_cons, List.nodup_cons] at hn; exact hn.2) hj
    have h1 : keptI (l.getD j item0).id a = true := by
      simp only [List.map_cons, List.nodup_cons, List.mem_map, not_exists, not_and] at hn
      simp only [keptI, Bool.not_eq_true', decide_eq_false_iff_not]
      exact fun e => hn.1 _ (getD_mem (d := item0) hj) e.symm
    simp only [List.eraseIdx_cons_succ, List.getD_cons_succ]
    rw [List.filter_cons_of_pos h1, ih]
theorem idsOk.at {g : LHall} (h : idsOk g) {k : Nat} (hk : k < g.queues.length) : ((qAt g k).items.map (·.id)).Nodup ∧ ∀ i ∈ (qAt g k).items, i.id < g.next := h _ (getD_mem (d := queue0) hk)
theorem idsOk.set {g : LHall} (h : idsOk g) {k : Nat} {q : LQueue} {next : Int} (hn : g.next ≤ next) (hq : (q.items.map (·.id)).Nodup ∧ ∀ i ∈ q.items, i.id < next) : idsOk ⟨g.queues.set k q, next⟩ := fun p hp => by
  rcases List.mem_or_eq_of_mem_set hp with hp | rfl
  · exact ⟨(h p hp).1, fun i hi => by have := (h p hp).2 i hi; simp only; omega⟩
  · exact hq
theorem ids_sub {l m : List LItem} {next : Int} (hs : m.Sublist l) (h : (l.map (·.id)).Nodup ∧ ∀ i ∈ l, i.id < next) : (m.map (·.id)).Nodup ∧ ∀ i ∈ m, i.id < next :=
  ⟨h.1.sublist (hs.map _), fun i hi => h.2 i (hs.subset hi)⟩
theorem put_follows {g : LHall} {k : Nat} {m : LNote} (hi : idsOk g) (hf : findS g.queues (nmL (qAt g k).name) = (k : Int)) (hk : k < g.queues.length) : Fw g (putAt g k m).1 (putAt g k m).2.1 ∧ idsOk (putAt g k m).1 := by
  unfold putAt
  split
  · exact ⟨Fw.refl g, hi⟩
  · rename_i hp
    have hp : ¬ (qAt g k).limit ≤ (qAt g k).items.length := fun h => hp (by simp [putS, h])
    simp only [putS, if_neg hp]
    refine ⟨fw_put hf, hi.set (by omega) ?_⟩
    have h1 := hi.at hk
    refine ⟨?_, fun i hi => ?_⟩
    · rw [List.map_append, List.nodup_append]
      refine ⟨h1.1, by simp, fun a ha b hb => ?_⟩
      obtain ⟨i, hi, rfl⟩ := List.mem_map.1 ha
      have := h1.2 i hi
      simp only [List.map_cons, List.map_nil, List.mem_singleton] at hb
      omega
    · rcases List.mem_append.1 hi with hi | hi
      · have := h1.2 i hi; omega
      · rw [List.mem_singleton.1 hi]; simp only; omega
theorem hput_follows {h : LHall} {nm : ByteArray} {m : LNote} (hi : idsOk h) (he : (hputS h nm m).2.2 = 0) : Fw h (hputS h nm m).1 (hputS h nm m).2.1 := by
  unfold hputS at *
  split
  · rename_i hw; rw [if_pos hw] at he; exact absurd he hw
  split
  · rename_i hw hk; rw [if_neg hw, if_pos hk] at he; exact absurd he (by decide)
  split
  · rename_i hw hk hp; rw [if_neg hw, if_neg hk, if_pos hp] at he; exact absurd he hp
  · rename_i hw hk hp
    refine (put_follows hi ?_ (find_lt hk)).1
    rw [show (qAt h (findS h.queues (nmL nm)).toNat).name = nm from find_name hk]
    have := @findS_range h.queues (nmL nm)
    omega
theorem make_follows {h : LHall} {nm : ByteArray} {n : Int} (he : (makeS h nm n).2.2 = 0) : Fw h (makeS h nm n).1 (makeS h nm n).2.1 := by
  obtain ⟨l, next⟩ := h
  unfold makeS at *
  split
  · rename_i h1; rw [if_pos h1] at he; exact absurd he (by decide)
  split
  · rename_i h1 h2; rw [if_neg h1, if_pos h2] at he; exact absurd he (by decide)
  split
  · rename_i h1 h2 h3; rw [if_neg h1, if_neg h2, if_pos h3] at he; exact absurd he (by decide)
  · rename_i h1 h2 h3
    unfold Fw
    simp only [List.foldl_cons, List.foldl_nil, applyS, plainS, plain_find]
    rw [applyK, if_pos ⟨rfl, by simp only at h1; omega⟩]
    simp [plainQ]
theorem drop_follows {h : LHall} {nm : ByteArray} (he : (dropS h nm).2.2 = 0) : Fw h (dropS h nm).1 (dropS h nm).2.1 := by
  obtain ⟨l, next⟩ := h
  unfold dropS at *
  split
  · rename_i h1; rw [if_pos h1] at he; exact absurd he (by decide)
  · rename_i h1
    unfold Fw
    simp only [List.foldl_cons, List.foldl_nil, applyS, plainS, plain_find]
    simp only at h1
    have h2 : 0 ≤ findS l (nmL nm) := by omega
    rw [applyK, if_neg (by simp), if_pos ⟨rfl, h2⟩]
    simp [erase_map]
theorem done_erase {g : LHall} {nm : ByteArray} {k : Nat} {j : Nat} {id n : Int} (hi : idsOk g) (hf : findS g.queues (nmL nm) = (k : Int)) (hk : k < g.queues.length) (hj : j < (qAt g k).items.length) (hid : ((qAt g k).items.getD j item0).id = id) :
    Fw g (setQ g k { qAt g k with items := (qAt g k).items.eraseIdx j }) [⟨4, nm, n, id, note0⟩] ∧ idsOk (setQ g k { qAt g k with items := (qAt g k).items.eraseIdx j }) := by
  have h1 := hi.at hk
  refine ⟨?_, ?_⟩
  · rw [filter_erase h1.1 hj, hid]
    exact fw_gone hf
  · exact hi.set (Int.le_refl _) (ids_sub (List.eraseIdx_sublist _ _) h1)
theorem it_id {id turn : Int} {l : List LItem} (h : ¬ placeS (isIt id turn) l 0 < 0) : (placeS (isIt id turn) l 0).toNat < l.length ∧ (l.getD (placeS (isIt id turn) l 0).toNat item0).id = id := by
  obtain ⟨k, hk, e, hp⟩ := placeS_found h
  rw [e, Int.toNat_natCast]
  simp only [isIt, Bool.and_eq_true, decide_eq_true_eq] at hp
  exact ⟨hk, hp.1.1⟩
theorem find_nat {l : List LQueue} {nm : List UInt8} (h : ¬ findS l nm < 0) : findS l nm = ((findS l nm).toNat : Int) := by omega
theorem hdone_follows {h : LHall} {t : LTag} (hi : idsOk h) (he : (hdoneS h t).2.2 = 0) : Fw h (hdoneS h t).1 (hdoneS h t).2.1 := by
  unfold hdoneS at *
  split
  · rename_i h1; rw [if_pos h1] at he; exact absurd he (by decide)
  split
  · rename_i h1 h2; rw [if_neg h1, if_pos h2] at he; exact absurd he h2
  · rename_i h1 h2
    have h3 : ¬ placeS (isIt t.id t.turn) (qAt h (findS h.queues (nmL t.queue)).toNat).items 0 < 0 := fun h => h2 (by simp [doneS, h])
    obtain ⟨h4, h5⟩ := it_id h3
    simp only [doneS, if_neg h3]
    exact (done_erase hi (find_nat h1) (find_lt h1) h4 h5).1
theorem hback_follows {h : LHall} {t : LTag} (hi : idsOk h) (hn : namesOk h.queues) (he : (hbackS h t).2.2 = 0) : Fw h (hbackS h t).1 (hbackS h t).2.1 ∧ idsOk (hbackS h t).1 := by
  unfold hbackS at *
  by_cases h1 : findS h.queues (nmL t.queue) < 0
  · rw [if_pos h1] at he; exact absurd he (by decide)
  rw [if_neg h1] at he ⊢
  have hk := find_lt h1
  have hfn := find_nat h1
  generalize (findS h.queues (nmL t.queue)).toNat = k at *
  by_cases h3 : placeS (isIt t.id t.turn) (qAt h k).items 0 < 0
  · exfalso
    simp [backS, h3] at he
  obtain ⟨h4, h5⟩ := it_id h3
  unfold backS at *
  rw [if_neg h3] at he ⊢
  generalize (placeS (isIt t.id t.turn) (qAt h k).items 0).toNat = j at *
  have h6 := hi.at hk
  by_cases h7 : (backI ((qAt h k).items.getD j item0)).tries < 3
  · rw [if_pos h7]
    simp only [ne_eq, not_true_eq_false, if_false, if_true]
    have hp : (((qAt h k).items.set j (backI ((qAt h k).items.getD j item0))).map (·.id)) = (qAt h k).items.map (·.id) := by
      rw [List.map_set]
      apply List.ext_getElem?
      intro x
      rw [List.getElem?_set]
      split
      · rename_i e
        subst e
        simp [h4, backI]
      · rfl
    have hp2 : (((qAt h k).items.set j (backI ((qAt h k).items.getD j item0))).map plainI) = (qAt h k).items.map plainI := by
      rw [List.map_set]
      apply List.ext_getElem?
      intro x
      rw [List.getElem?_set]
      split
      · rename_i e
        subst e
        simp [h4, backI, plainI]
      · rfl
    refine ⟨?_, hi.set (Int.le_refl _) ⟨by rw [hp]; exact h6.1, fun i hi => ?_⟩⟩
    · unfold Fw plainS setQ
      simp only [List.foldl_nil, List.map_set, plainQ, hp2]
      congr 1
      apply List.ext_getElem?
      intro x
      rw [List.getElem?_set]
      split
      · rename_i e
        subst e
        simp [qAt, plainQ, hk]
      · rfl
    · have : i.id ∈ (qAt h k).items.map (·.id) := by rw [← hp]; exact List.mem_map.2 ⟨i, hi, rfl⟩
      obtain ⟨y, hy, e⟩ := List.mem_map.1 this
      rw [← e]
      exact h6.2 y hy
  · rw [if_neg h7]
    obtain ⟨d1, d2⟩ := done_erase (n := 0) hi hfn hk h4 h5
    have hnm : (qAt h k).name = t.queue := by
      have := find_name h1
      rw [hfn] at this
      exact this
    have hsn : ({ qAt h k with items := (qAt h k).items.eraseIdx j } : LQueue).name = (h.queues.getD k queue0).name := rfl
    have hne : ¬ ((0 : Int) ≠ 0) := by simp
    simp only [ne_eq, not_true_eq_false, if_false, Bool.true_eq_false]
    generalize hg : setQ h k { qAt h k with items := (qAt h k).items.eraseIdx j } = g at *
    unfold deadS
    split
    · rename_i hd
      have hd1 : ¬ findS g.queues (nmL deadB) < 0 := by omega
      have hp := @put_follows g (findS g.queues (nmL deadB)).toNat (backI ((qAt h k).items.getD j item0)).note d2 (by
        rw [show (qAt g (findS g.queues (nmL deadB)).toNat).name = deadB from find_name hd1]
        exact find_nat hd1) (find_lt hd1)
      exact ⟨d1.trans hp.1, hp.2⟩
    · exact ⟨d1, d2⟩
theorem set_self {α : Type} {l : List α} {k : Nat} {d : α} : l.set k (l.getD k d) = l := by
  apply List.ext_getElem?
  intro x
  rw [List.getElem?_set]
  split
  · rename_i e
    subst e
    split
    · rename_i h; simp [h]
    · rename_i h; rw [List.getElem?_eq_none (Nat.le_of_not_lt h)]
  · rfl
theorem nodup_id : ∀ {l : List LItem}, (l.map (·.id)).Nodup → ∀ x ∈ l, ∀ y ∈ l, x.id = y.id → x = y
  | [], _, x, hx, _, _, _ => by cases hx
  | a :: l, hn, x, hx, y, hy, e => by
    simp only [List.map_cons, List.nodup_cons, List.mem_map, not_exists, not_and] at hn
    rcases List.mem_cons.1 hx with hx1 | hx1
    · rcases List.mem_cons.1 hy with hy1 | hy1
      · rw [hx1, hy1]
      · rw [hx1] at e
        exact absurd e.symm (hn.1 y hy1)
    · rcases List.mem_cons.1 hy with hy1 | hy1
      · rw [hy1] at e
        exact absurd e (hn.1 x hx1)
      · exact nodup_id hn.2 x hx1 y hy1 e
theorem fw_gones {nm : ByteArray} {k : Nat} : ∀ (ids : List Int) (g : LHall), findS g.queues (nmL nm) = (k : Int) → k < g.queues.length → (qAt g k).name = nm →
    Fw g (setQ g k { qAt g k with items := (qAt g k).items.filter (fun i => !ids.contains i.id) }) (ids.map fun i => ⟨4, nm, 0, i, note0⟩)
  | [], g, hf, hk, hn => by
    have e : ({ qAt g k with items := (qAt g k).items.filter (fun i => !([] : List Int).contains i.id) } : LQueue) = qAt g k := by
      rw [List.filter_eq_self.2 (by simp)]
    rw [e]
    unfold setQ qAt
    rw [set_self]
    exact Fw.refl g
  | id :: r, g, hf, hk, hn => by
    have h1 : Fw g (setQ g k (goneQ (qAt g k) id)) [⟨4, nm, 0, id, note0⟩] := fw_gone hf
    have e1 : qAt (setQ g k (goneQ (qAt g k) id)) k = goneQ (qAt g k) id := by
      unfold qAt setQ
      simp only
      rw [getD_set hk, if_pos rfl]
    have ih := fw_gones r (setQ g k (goneQ (qAt g k) id)) (by
      show findS (g.queues.set k _) _ = _
      rw [findS_set (by rfl)]
      exact hf) (by simpa [setQ] using hk) (by rw [e1]; exact hn)
    rw [e1] at ih
    have h2 := h1.trans ih
    have e2 : setQ (setQ g k (goneQ (qAt g k) id)) k { goneQ (qAt g k) id with items := (goneQ (qAt g k) id).items.filter (fun i => !r.contains i.id) } = setQ g k { qAt g k with items := (qAt g k).items.filter (fun i => !(id :: r).contains i.id) } := by
      unfold setQ goneQ
      simp only [List.set_set, List.filter_filter]
      congr 2
      have : (fun a : LItem => (!r.contains a.id) && keptI id a) = (fun i : LItem => !(id :: r).contains i.id) := by
        funext a
        simp only [keptI, List.contains_cons, Bool.not_or]
        rw [Bool.and_comm]
        congr 1
      rw [this]
    rw [e2] at h2
    exact h2
theorem hpurge_follows {h : LHall} {nm : ByteArray} (hi : idsOk h) (he : (hpurgeS h nm).2.2 = 0) : Fw h (hpurgeS h nm).1 (hpurgeS h nm).2.1 := by
  unfold hpurgeS at *
  split
  · rename_i h1; rw [if_pos h1] at he; exact absurd he (by decide)
  · rename_i h1
    have hk := find_lt h1
    have hn : (qAt h (findS h.queues (nmL nm)).toNat).name = nm := find_name h1
    have h2 := fw_gones (goneS (qAt h (findS h.queues (nmL nm)).toNat).items) h (find_nat h1) hk hn
    have h3 := hi.at hk
    have e : (qAt h (findS h.queues (nmL nm)).toNat).items.filter (fun i => !(goneS (qAt h (findS h.queues (nmL nm)).toNat).items).contains i.id) = (qAt h (findS h.queues (nmL nm)).toNat).items.filter isOut := by
      refine List.filter_congr fun x hx => ?_
      rw [Bool.eq_iff_iff]
      simp only [Bool.not_eq_true', List.contains_eq_mem, decide_eq_false_iff_not, goneS, List.mem_map, List.mem_filter, isOut, notOut, not_exists, not_and]
      constructor
      · intro h4
        cases hx2 : x.out
        · exact absurd rfl (h4 x ⟨hx, by simp [hx2]⟩)
        · rfl
      · intro h4 y hy e
        have := nodup_id h3.1 x hx y hy.1 e.symm
        subst this
        simp [h4] at hy
    rw [e] at h2
    exact h2
theorem tickI_follows {T M now : Int} {n i : Nat} (hT : 0 ≤ T) (hi : i < n) : ∀ (f : Nat) (g : LHall) (es : List LEntry), hallP T M n g → idsOk g →
    ∃ es', (tickI f g i now es).2 = es ++ es' ∧ Fw g (tickI f g i now es).1 es' ∧ idsOk (tickI f g i now es).1 ∧ hallP T M n (tickI f g i now es).1
  | 0, g, es, h, hd => ⟨[], by simp [tickI], Fw.refl g, hd, h⟩
  | f + 1, g, es, h, hd => by
    rw [tickI]
    split
    · exact ⟨[], by simp, Fw.refl g, hd, h⟩
    · rename_i hl
      have hl' : (lateS (qAt g i) now).2 = true := by simpa using hl
      obtain ⟨h1, h2, h3⟩ := back_step h hT hi hl'
      obtain ⟨b1, b2⟩ := hback_follows hd h.1.1 h1
      obtain ⟨es', q1, q2, q3, q4⟩ := tickI_follows (now := now) hT hi f (hbackS g (tagOf g i now)).1 (es ++ (hbackS g (tagOf g i now)).2.1) h2 b2
      exact ⟨(hbackS g (tagOf g i now)).2.1 ++ es', by rw [q1, List.append_assoc], b1.trans q2, q3, q4⟩
theorem tickO_follows {T M now : Int} {n : Nat} (hT : 0 ≤ T) : ∀ (m i : Nat) (g : LHall) (es : List LEntry), i + m ≤ n → hallP T M n g → idsOk g →
    ∃ es', (tickO m g i now es).2 = es ++ es' ∧ Fw g (tickO m g i now es).1 es'
  | 0, i, g, es, _, h, hd => ⟨[], by simp [tickO], Fw.refl g⟩
  | m + 1, i, g, es, hm, h, hd => by
    rw [tickO]
    obtain ⟨e1, q1, q2, q3, q4⟩ := tickI_follows (now := now) hT (show i < n by omega) (outs g) g es h hd
    obtain ⟨e2, r1, r2⟩ := tickO_follows (now := now) hT m (i + 1) _ (tickI (outs g) g i now es).2 (by omega) q4 q3
    exact ⟨e1 ++ e2, by rw [r1, q1, List.append_assoc], q2.trans r2⟩
theorem htick_follows {T M now : Int} {h : LHall} (hT : 0 ≤ T) (hp : hallP T M h.queues.length h) (hd : idsOk h) : Fw h (htickS h now).1 (htickS h now).2 := by
  obtain ⟨es, h1, h2⟩ := tickO_follows (now := now) hT h.queues.length 0 h [] (by omega) hp hd
  unfold htickS
  rw [h1]
  exact h2
theorem items_nodup {next : Int} {l : List LItem} (h : itemsOk next l) : (l.map (·.id)).Nodup := by
  have key : ∀ j k, j < k → k < l.length → (l.getD j item0).id < (l.getD k item0).id := by
    intro j k hjk
    induction k with
    | zero => omega
    | succ k ih =>
      intro hk
      have h1 := (badI_not (h (k + 1) hk)).1.1
      rw [lastS_succ] at h1
      by_cases hj : j = k
      · subst hj; exact h1
      · have := ih (by omega) (by omega)
        omega
  refine List.pairwise_iff_getElem.2 fun j k hj hk hjk => ?_
  simp only [List.length_map] at hj hk
  have := key j k hjk hk
  rw [show l.getD j item0 = l[j] by simp [hj], show l.getD k item0 = l[k] by simp [hk]] at this
  simp only [List.getElem_map]
  omega
theorem hallOk_ids {h : LHall} (ho : hallOk h) : idsOk h := fun q hq => by
  obtain ⟨k, hk⟩ := List.getElem?_of_mem hq
  have hkl := (List.getElem?_eq_some_iff.1 hk).1
  have e : h.queues.getD k queue0 = q := by rw [List.getD_eq_getElem?_getD, hk]; rfl
  have h5 := (ho.2 k hkl).2
  rw [e] at h5
  exact ⟨items_nodup h5, fun i hi => (itemsOk_all h5 i hi).1.2⟩
end Go.Proofs.Ythbejciebmkclaa.Ab
namespace Go.Proofs.Ythbejciebmkclaa.Ab
open Go Go.RowKit
set_option linter.unusedVariables false
set_option linter.unusedSimpArgs false

def EntB (M : Int) (e : LEntry) : Prop := e.queue.size ≤ 1048576 ∧ 0 ≤ e.id ∧ e.id ≤ M
def idsIn (g : LHall) : Prop := ∀ q ∈ g.queues, q.name.size ≤ 1048576 ∧ ∀ i ∈ q.items, 0 ≤ i.id ∧ i.id < g.next
theorem idsIn.at {g : LHall} (h : idsIn g) {k : Nat} (hk : k < g.queues.length) : (qAt g k).name.size ≤ 1048576 ∧ ∀ i ∈ (qAt g k).items, 0 ≤ i.id ∧ i.id < g.next := h _ (getD_mem (d := queue0) hk)
theorem idsIn.set {g : LHall} (h : idsIn g) {k : Nat} {q : LQueue} {next : Int} (hn : g.next ≤ next) (hq : q.name.size ≤ 1048576 ∧ ∀ i ∈ q.items, 0 ≤ i.id ∧ i.id < next) : idsIn ⟨g.queues.set k q, next⟩ := fun p hp => by
  rcases List.mem_or_eq_of_mem_set hp with hp | rfl
  · exact ⟨(h p hp).1, fun i hi => by have := (h p hp).2 i hi; simp only; omega⟩
  · exact hq
theorem put_in {M : Int} {g : LHall} {k : Nat} {m : LNote} (hi : idsIn g) (h0 : 0 ≤ g.next) (hM : g.next ≤ M) (hk : k < g.queues.length) : (∀ e ∈ (putAt g k m).2.1, EntB M e) ∧ idsIn (putAt g k m).1 := by
  unfold putAt
  split
  · exact ⟨by simp, hi⟩
  · rename_i hp
    have hp : ¬ (qAt g k).limit ≤ (qAt g k).items.length := fun h => hp (by simp [putS, h])
    have h1 := hi.at hk
    simp only [putS, if_neg hp]
    refine ⟨fun e he => ?_, hi.set (by omega) ⟨h1.1, fun i hi => ?_⟩⟩
    · rw [List.mem_singleton.1 he]
      exact ⟨h1.1, h0, hM⟩
    · rcases List.mem_append.1 hi with hi | hi
      · have := h1.2 i hi; omega
      · rw [List.mem_singleton.1 hi]; simp only; omega
theorem back_in {M : Int} {h : LHall} {t : LTag} (hi : idsIn h) (h0 : 0 ≤ h.next) (hM : h.next ≤ M) : (∀ e ∈ (hbackS h t).2.1, EntB M e) ∧ idsIn (hbackS h t).1 := by
  unfold hbackS
  by_cases h1 : findS h.queues (nmL t.queue) < 0
  · rw [if_pos h1]; exact ⟨by simp, fun q hq => by cases hq⟩
  rw [if_neg h1]
  have hk := find_lt h1
  have hnm : (qAt h (findS h.queues (nmL t.queue)).toNat).name = t.queue := find_name h1
  generalize hkk : (findS h.queues (nmL t.queue)).toNat = k at *
  have h6 := hi.at hk
  unfold backS
  by_cases h3 : placeS (isIt t.id t.turn) (qAt h k).items 0 < 0
  · rw [if_pos h3]; exact ⟨by simp, fun q hq => by simp [hall0] at hq⟩
  obtain ⟨h4, h5⟩ := it_id h3
  rw [if_neg h3]
  generalize (placeS (isIt t.id t.turn) (qAt h k).items 0).toNat = j at *
  have h8 := h6.2 _ (getD_mem (d := item0) h4)
  by_cases h7 : (backI ((qAt h k).items.getD j item0)).tries < 3
  · rw [if_pos h7]
    simp only [ne_eq, not_true_eq_false, if_false, if_true]
    refine ⟨by simp, hi.set (Int.le_refl _) ⟨h6.1, fun i hi => ?_⟩⟩
    rcases List.mem_or_eq_of_mem_set hi with hi | rfl
    · exact h6.2 i hi
    · exact h8
  · rw [if_neg h7]
    simp only [ne_eq, not_true_eq_false, if_false, Bool.true_eq_false]
    have hg2 : idsIn (setQ h k { qAt h k with items := (qAt h k).items.eraseIdx j }) := hi.set (Int.le_refl _) ⟨h6.1, fun i hi => h6.2 i (List.mem_of_mem_eraseIdx hi)⟩
    have hgn : (setQ h k { qAt h k with items := (qAt h k).items.eraseIdx j }).next = h.next := rfl
    have hgl : (setQ h k { qAt h k with items := (qAt h k).items.eraseIdx j }).queues.length = h.queues.length := by simp [setQ]
    have he : EntB M ⟨4, t.queue, 0, t.id, note0⟩ := by
      rw [← hnm, ← h5]
      exact ⟨h6.1, h8.1, by simp only; omega⟩
    generalize setQ h k { qAt h k with items := (qAt h k).items.eraseIdx j } = g at *
    unfold deadS
    split
    · rename_i hd
      have hp := put_in (m := (backI ((qAt h k).items.getD j item0)).note) hg2 (by omega) (M := M) (by omega) (find_lt (nm := nmL deadB) (by omega))
      exact ⟨fun e hm => (List.mem_cons.1 hm).elim (fun q => q ▸ he) (hp.1 e), hp.2⟩
    · exact ⟨fun e hm => (List.mem_cons.1 hm).elim (fun q => q ▸ he) (fun q => by cases q), hg2⟩
theorem tickI_in {T M now : Int} {n i : Nat} (hT : 0 ≤ T) (hi : i < n) : ∀ (f : Nat) (g : LHall) (es : List LEntry), hallP T M n g → idsIn g → (∀ e ∈ es, EntB M e) →
    (∀ e ∈ (tickI f g i now es).2, EntB M e) ∧ idsIn (tickI f g i now es).1 ∧ hallP T M n (tickI f g i now es).1
  | 0, g, es, h, hd, he => ⟨he, hd, h⟩
  | f + 1, g, es, h, hd, he => by
    rw [tickI]
    split
    · exact ⟨he, hd, h⟩
    · rename_i hl
      have hl' : (lateS (qAt g i) now).2 = true := by simpa using hl
      obtain ⟨h1, h2, h3⟩ := back_step h hT hi hl'
      obtain ⟨b1, b2⟩ := back_in (M := M) (t := tagOf g i now) hd h.2.2.1 (by have := h.2.2.2; omega)
      exact tickI_in (now := now) hT hi f _ _ h2 b2 fun e hm => (List.mem_append.1 hm).elim (he e) (b1 e)
theorem tickO_in {T M now : Int} {n : Nat} (hT : 0 ≤ T) : ∀ (m i : Nat) (g : LHall) (es : List LEntry), i + m ≤ n → hallP T M n g → idsIn g → (∀ e ∈ es, EntB M e) → ∀ e ∈ (tickO m g i now es).2, EntB M e
  | 0, i, g, es, _, h, hd, he => he
  | m + 1, i, g, es, hm, h, hd, he => by
    rw [tickO]
    obtain ⟨q1, q2, q3⟩ := tickI_in (now := now) hT (show i < n by omega) (outs g) g es h hd he
    exact tickO_in (now := now) hT m (i + 1) _ _ (by omega) q3 q2 q1
theorem hallOk_in {h : LHall} (ho : hallOk h) : idsIn h := fun q hq => by
  obtain ⟨k, hk⟩ := List.getElem?_of_mem hq
  have hkl := (List.getElem?_eq_some_iff.1 hk).1
  have e : h.queues.getD k queue0 = q := by rw [List.getD_eq_getElem?_getD, hk]; rfl
  have h5 := (ho.2 k hkl).2
  rw [e] at h5
  exact ⟨by have := keyS_size ((hallOk_fine ho).1.2 q hq).1; omega, fun i hi => (itemsOk_all h5 i hi).1⟩
/-- what the law's closure wants of an answer -/
def FolOk (h : LHall) (r : LHall × List LEntry × Int) : Prop := r.2.2 = 0 → (Fw h r.1 r.2.1 ∧ r.1.Fits) ∧ r.2.1.length ≤ 1000 ∧ ∀ e ∈ r.2.1, EntB 1000000000 e ∧ e.note.Fits
theorem fol_make {h : LHall} {nm : ByteArray} {n : Int} (hh : h.Fits) (hn : nm.size ≤ 1048576) : FolOk h (makeS h nm n) := fun he => by
  have h1 := rf_make (nm := nm) (n := n) hh hn
  refine ⟨⟨make_follows he, h1.1⟩, ?_⟩
  have h2 := h1.2.2
  unfold makeS at *
  repeat' split
  all_goals simp_all [EntB]
theorem fol_drop {h : LHall} {nm : ByteArray} (hh : h.Fits) (hn : nm.size ≤ 1048576) : FolOk h (dropS h nm) := fun he => by
  have h1 := rf_drop (nm := nm) hh
  refine ⟨⟨drop_follows he, h1.1⟩, ?_⟩
  have h2 := h1.2.2
  unfold dropS at *
  repeat' split
  all_goals simp_all [EntB]
theorem fol_put {h : LHall} {nm : ByteArray} {m : LNote} (ho : hallOk h) (hh : h.Fits) (hm : m.Fits) : FolOk h (hputS h nm m) := fun he => by
  obtain ⟨hf, hl4, hn0, hn1⟩ := hallOk_fine ho
  have h1 := rf_put (nm := nm) hh (fine_len hf) hm
  refine ⟨⟨hput_follows (hallOk_ids ho) he, h1.1⟩, ?_⟩
  have h2 := h1.2.2
  unfold hputS at *
  split
  · simp
  split
  · simp
  split
  · simp
  · rename_i a1 a2 a3
    have h3 := (put_in (M := 1000000000) (m := m) (hallOk_in ho) hn0 (by omega) (find_lt a2)).1
    rw [if_neg a1, if_neg a2, if_neg a3] at h2
    refine ⟨?_, fun e hm => ⟨h3 e hm, h2 e hm⟩⟩
    unfold putAt
    split <;> simp
theorem fol_done {h : LHall} {t : LTag} (ho : hallOk h) (hh : h.Fits) (ht : t.queue.size ≤ 1048576) : FolOk h (hdoneS h t) := fun he => by
  obtain ⟨hf, hl4, hn0, hn1⟩ := hallOk_fine ho
  have h1 := rf_done (t := t) hh
  refine ⟨⟨hdone_follows (hallOk_ids ho) he, h1.1⟩, ?_⟩
  have h2 := h1.2.2
  unfold hdoneS at *
  split
  · simp
  split
  · simp
  · rename_i a1 a2
    have h3 : ¬ placeS (isIt t.id t.turn) (qAt h (findS h.queues (nmL t.queue)).toNat).items 0 < 0 := fun h => a2 (by simp [doneS, h])
    obtain ⟨h4, h5⟩ := it_id h3
    have h6 := ((hallOk_in ho).at (find_lt a1)).2 _ (getD_mem (d := item0) h4)
    rw [h5] at h6
    rw [if_neg a1, if_neg a2] at h2
    refine ⟨by simp, fun e hm => ⟨?_, h2 e hm⟩⟩
    rw [List.mem_singleton.1 hm]
    exact ⟨ht, h6.1, by simp only; omega⟩
theorem fol_back {h : LHall} {t : LTag} (ho : hallOk h) (hh : h.Fits) : FolOk h (hbackS h t) := fun he => by
  obtain ⟨hf, hl4, hn0, hn1⟩ := hallOk_fine ho
  have h1 := rf_back (t := t) hh (fine_len hf)
  have h3 := (back_in (M := 1000000000) (t := t) (hallOk_in ho) hn0 (by omega)).1
  refine ⟨⟨(hback_follows (hallOk_ids ho) hf.1 he).1, h1.1⟩, ?_, fun e hm => ⟨h3 e hm, h1.2.2 e hm⟩⟩
  unfold hbackS
  split
  · simp
  generalize backS (qAt h (findS h.queues (nmL t.queue)).toNat) t.id t.turn = b
  obtain ⟨q, i, d, e⟩ := b
  simp only
  split
  · simp
  split
  · simp
  · unfold deadS putAt
    split
    · split <;> simp
    · simp
theorem fol_purge {h : LHall} {nm : ByteArray} (ho : hallOk h) (hh : h.Fits) (hn : nm.size ≤ 1048576) : FolOk h (hpurgeS h nm) := fun he => by
  obtain ⟨hf, hl4, hn0, hn1⟩ := hallOk_fine ho
  have h1 := rf_purge (nm := nm) hh
  refine ⟨⟨hpurge_follows (hallOk_ids ho) he, h1.1⟩, ?_⟩
  have h2 := h1.2.2
  unfold hpurgeS at *
  split
  · simp
  · rename_i a1
    rw [if_neg a1] at h2
    have h6 := ((hallOk_in ho).at (find_lt a1)).2
    have h7 := (hf.2 _ (getD_mem (d := queue0) (find_lt a1))).2.2.1
    have h8 : (goneS (qAt h (findS h.queues (nmL nm)).toNat).items).length ≤ (qAt h (findS h.queues (nmL nm)).toNat).items.length := by
      unfold goneS
      rw [List.length_map]
      exact List.length_filter_le _ _
    refine ⟨?_, fun e hm => ⟨?_, h2 e hm⟩⟩
    · simp only [List.length_map, purgeS]
      unfold qAt at h8 ⊢
      omega
    · obtain ⟨i, hi, rfl⟩ := List.mem_map.1 hm
      simp only [purgeS, goneS] at hi
      obtain ⟨x, hx, rfl⟩ := List.mem_map.1 hi
      have := h6 x (List.mem_filter.1 hx).1
      exact ⟨hn, this.1, by simp only; omega⟩
theorem fol_tick {h : LHall} {now : Int} (ho : hallOk h) : FolOk h ((htickS h now).1, (htickS h now).2, 0) := fun _ => by
  obtain ⟨hf, hl4, hn0, hn1⟩ := hallOk_fine ho
  have hp := hallOk_P ho
  have h1 := rf_tick (now := now) ho
  have h3 := tickO_in (now := now) (T := 1000) (M := 1000100) (by decide) h.queues.length 0 h [] (by omega) hp (hallOk_in ho) (by simp)
  refine ⟨⟨htick_follows (by decide) hp (hallOk_ids ho), h1.1⟩, ?_, fun e hm => ⟨?_, h1.2.2 e hm⟩⟩
  · have := outs_le fun q hq => (by have := (hf.2 q hq).2.2.1; omega : q.items.length ≤ 8)
    obtain ⟨k1, k2, k3⟩ := tickO_fits (now := now) ⟨by decide, by decide⟩ (by omega) h.queues.length 0 h [] (by omega) hp (by simp)
    simp only [List.length_nil] at k3
    unfold htickS
    simp only
    omega
  · have := h3 e hm
    exact ⟨this.1, this.2.1, by have := this.2.2; omega⟩
end Go.Proofs.Ythbejciebmkclaa.Ab
namespace Go.Proofs.Ythbejciebmkclaa.Ab
open Go Go.RowKit
set_option linter.unusedVariables false
set_option linter.unusedSimpArgs false

theorem hallLe.fold {es : List LEntry} : ∀ {k : Nat} {g : LHall}, hallLe k g → (∀ e ∈ es, e.queue.size ≤ 1048576 ∧ e.note.Fits) → hallLe (k + es.length) (es.foldl applyS g) := by
  induction es with
  | nil => intro k g h _; exact h
  | cons e r ih =>
    intro k g h he
    have h1 := ih (h.apply (he e (by simp)).1 (he e (by simp)).2) fun x hx => he x (by simp [hx])
    rw [List.length_cons, show k + (r.length + 1) = k + 1 + r.length by omega]
    exact h1
theorem hallLe.plain {k : Nat} {h : LHall} (hl : hallLe k h) : hallLe k (plainS h) := ⟨by simp [plainS]; exact hl.1, fun q hq => by
  obtain ⟨p, hp, rfl⟩ := List.mem_map.1 hq
  have h1 := hl.2 p hp
  refine ⟨⟨by simp only [plainQ, List.length_map]; exact h1.1.1, fun i hi => ?_⟩, h1.2⟩
  obtain ⟨x, hx, rfl⟩ := List.mem_map.1 hi
  exact h1.1.2 x hx⟩
abbrev FolX := LHall × Res4
def folArgs (x : FolX) : List AV := [.agg (hallCs x.2.1), entriesA x.2.2.1, .int .i64 x.2.2.2, .iptr (hallCs x.1), .ptr 60000 0]
def folBl : List (Nat × Blk) := [(60000, .cells [.bool true])]
def folLo : Nat → Lo := fun id => match id with | 8 => {uo := [7], un := [60000], ex := [0]} | _ => {}
set_option maxRecDepth 100000 in
set_option maxHeartbeats 1000000 in
theorem pc_fol (x : FolX) (hx : hallLe 1000 x.1 ∧ FolOk x.1 x.2) : PC Try.prog D 30 (folArgs x) folBl (.tup []) folBl := by
  have hok : GOk Try.prog D (tabG [eRplain, eApply, eSamehall]) := tabG_ok _
  have g1 := tabG_use (T := [eRplain, eApply, eSamehall]) (E := eRplain) (i := 0) rfl (by decide) (x.1) (hx.1.fits (by decide))
  have g2 := fun (p : LHall) (e : LEntry) (h : p.Fits ∧ e.note.Fits ∧ (-1000000000000 ≤ e.id ∧ e.id ≤ 1000000000000)) => tabG_use (T := [eRplain, eApply, eSamehall]) (E := eApply) (i := 1) rfl (by decide) ((p, e)) (h)
  have g3 := fun (q : LHall) (h : q.Fits) => tabG_use (T := [eRplain, eApply, eSamehall]) (E := eRplain) (i := 0) rfl (by decide) (q) (h)
  have g4 := fun (q : LHall) (h : q.Fits) => tabG_use (T := [eRplain, eApply, eSamehall]) (E := eSamehall) (i := 2) rfl (by decide) (q) (h)
  generalize tabG [eRplain, eApply, eSamehall] = G at *
  dsimp only [eRplain] at g1
  dsimp only [eApply] at g2
  dsimp only [eRplain] at g3
  dsimp only [eSamehall] at g4
  obtain ⟨hl, hf⟩ := hx
  obtain ⟨h, ⟨x, es, er⟩⟩ := x
  simp only at hl hf g1
  have hpl := hl.plain
  obtain ⟨q, nx⟩ := h
  obtain ⟨xq, xn⟩ := x
  refine pc_of (G := G) (rs := []) MOk.none mixed tok hok [60000] Try.func30 rfl (by decide) Try.results30 (by decide) rfl (by decide) Try.ntmps30 (by simp [folArgs]) (by simp [folArgs, folBl, hallCs, entriesA, namess, names, keys])
    (closB_of (by simp [folBl, subs, namess, names])) (ndB_of (by simp [folBl, nd])) (ndB_of (by simp [folBl, nd])) (by simp [folBl, get]) (by simp [folBl, keys]) fun X hP hD hG' hX => evC_sound hX folLo _ _ _ ?_
  simp only [argP, num, pinT, pin, folArgs, folBl, hallCs, entriesA]
  by_cases h0 : er = 0
  · have e0 : (er != 0) = false := by simp [h0]
    obtain ⟨⟨hfw, hxf⟩, hel, hee⟩ := hf h0
    simp only at hfw hxf hel hee
    have hlei : ∀ i, hallLe (1000 + i) ((es.take i).foldl applyS (plainS ⟨q, nx⟩)) := fun i => by
      have h1 := hpl.fold (es := es.take i) fun e he => ⟨(hee e (List.mem_of_mem_take he)).1.1, (hee e (List.mem_of_mem_take he)).2⟩
      have h2 : (es.take i).length ≤ i := by rw [List.length_take]; omega
      exact ⟨by have := h1.1; omega, fun q hq => ⟨⟨by have := (h1.2 q hq).1.1; omega, (h1.2 q hq).1.2⟩, (h1.2 q hq).2⟩⟩
    have g3 := g3 ⟨xq, xn⟩ hxf
    have g5 := g4 _ (fits_plain hxf)
    generalize hp0 : plainS ⟨q, nx⟩ = p0 at *
    unfold Fw at hfw
    rw [hp0] at hfw
    simp only [hallA] at g1 g3 g5
    simp (disch := omega) only [go_sem, Nat.reduceLeDiff, reduceCtorEq, Nat.reduceAdd, Nat.reduceSub, Nat.reduceMul, Nat.reduceLT, Nat.reduceEqDiff, Int.reduceEq, Int.reduceLE, Int.reduceLT, Int.reducePow, Int.reduceMul, Int.reduceToNat, Int.reduceNeg, ↓reduceIte, hD, hG', wrap64, g1, e0, folLo, unbox, tmv, Option.some.injEq, exists_eq_left']
    refine Tr.loop (ι := Nat) (fun i => i ≤ es.length) (fun i => { nt := 32, tm := [(65536, .tup [.ptr 60000 0, .os 60000, .eptr 60000 1 0]), (4, .ptr 60000 0), (5, .ptr 5 0), (8, .ptr 8 0), (15, .sl 6 (es.map entryRow)), (16, .int .i64 es.length), (17, .int .i64 i)], bl := [(60000, some (.cells [.bool true])), (5, some (.cells [.sl 3 (xq.map queueRow), .int .i64 xn])), (8, some (.cells [.sl 3 (((es.take i).foldl applyS p0).queues.map queueRow), .int .i64 ((es.take i).foldl applyS p0).next]))] }) (fun i => es.length - i) 0
      ⟨Nat.zero_le _, wk_of hD [(60000, 60000), (5, 5), (8, 8)] rfl rfl (by simp only [go_sem, Nat.reduceEqDiff]; simp) (by simp only [go_sem, Nat.reduceEqDiff]; simp)⟩ ?_
    intro i hi
    have hli := hlei i
    refine evC_sound hX folLo _ _ _ ?_
    simp (disch := omega) only [go_sem, Nat.reduceLeDiff, reduceCtorEq, Nat.reduceAdd, Nat.reduceSub, Nat.reduceMul, Nat.reduceLT, Nat.reduceEqDiff, Int.reduceEq, Int.reduceLE, Int.reduceLT, Int.reducePow, Int.reduceMul, Int.reduceToNat, Int.reduceNeg, ↓reduceIte, hD, hG', wrap64, folLo, unbox, tmv, Option.some.injEq, exists_eq_left']
    refine condK_split (fun h => ?_) (fun h => ?_)
    · rw [decide_eq_true_eq] at h
      have hi1 : i < es.length := by omega
      have hgx := entryGet hi1
      have hst : (es.take (i + 1)).foldl applyS p0 = applyS ((es.take i).foldl applyS p0) (es.getD i entry0) := by
        rw [List.take_succ_eq_append_getElem hi1, List.foldl_append]
        simp [hi1]
      have hxe := hee (es.getD i entry0) (getD_mem (d := entry0) hi1)
      generalize es.getD i entry0 = y at *
      generalize (es.take i).foldl applyS p0 = p at *
      have g2 := g2 p y ⟨hli.fits (by omega), hxe.2, by have := hxe.1.2.1; omega, by have := hxe.1.2.2; omega⟩
      generalize applyS p y = p' at *
      obtain ⟨p1, p2⟩ := p
      obtain ⟨y1, y2, y3, y4, ⟨y5, y6⟩⟩ := y
      simp only [hallA, entryA, entryRow] at g2 hgx
      simp (disch := omega) only [go_sem, Nat.reduceLeDiff, reduceCtorEq, Nat.reduceAdd, Nat.reduceSub, Nat.reduceMul, Nat.reduceLT, Nat.reduceEqDiff, Int.reduceEq, Int.reduceLE, Int.reduceLT, Int.reducePow, Int.reduceMul, Int.reduceToNat, Int.reduceNeg, ↓reduceIte, hD, hG', wrap64, hgx, g2, folLo, unbox, tmv, Option.some.injEq, exists_eq_left']
      ((try and_intros); all_goals (try first | omega | decide | (simp; done) | (simp only [List.length_append, List.length_cons, List.length_nil, List.length_map]; omega)))
      refine ⟨i + 1, ⟨by omega, by omega⟩, wk_of hD [(60000, 60000), (5, 5), (8, 8)] rfl rfl ?_ ?_⟩ <;> simp only [go_sem, Nat.reduceEqDiff]
      · simp
      · simp [hst]
    · rw [decide_eq_false_iff_not] at h
      have hie : i = es.length := by omega
      subst hie
      rw [List.take_length] at *
      rw [hfw]
      simp (disch := omega) only [go_sem, Nat.reduceLeDiff, reduceCtorEq, Nat.reduceAdd, Nat.reduceSub, Nat.reduceMul, Nat.reduceLT, Nat.reduceEqDiff, Int.reduceEq, Int.reduceLE, Int.reduceLT, Int.reducePow, Int.reduceMul, Int.reduceToNat, Int.reduceNeg, ↓reduceIte, hD, hG', wrap64, folLo, unbox, tmv, Option.some.injEq, exists_eq_left']
      refine RegA.mk [] (by decide) ?_
      simp (disch := omega) only [go_sem, Nat.reduceLeDiff, reduceCtorEq, Nat.reduceAdd, Nat.reduceSub, Nat.reduceMul, Nat.reduceLT, Nat.reduceEqDiff, Int.reduceEq, Int.reduceLE, Int.reduceLT, Int.reducePow, Int.reduceMul, Int.reduceToNat, Int.reduceNeg, ↓reduceIte, hD, hG', wrap64, g3, g5, folLo, unbox, tmv, Option.some.injEq, exists_eq_left']
      refine ⟨[], [(60000, 60000)], rfl, rfl, ?_, ?_⟩ <;> simp only [go_sem, Nat.reduceEqDiff, resP, pinT, pin, here, Nat.reduceAdd, ↓reduceIte, reduceCtorEq]
  · have e0 : (er != 0) = true := by simp [h0]
    simp (disch := omega) only [go_sem, Nat.reduceLeDiff, reduceCtorEq, Nat.reduceAdd, Nat.reduceSub, Nat.reduceMul, Nat.reduceLT, Nat.reduceEqDiff, Int.reduceEq, Int.reduceLE, Int.reduceLT, Int.reducePow, Int.reduceMul, Int.reduceToNat, Int.reduceNeg, ↓reduceIte, hD, hG', wrap64, e0, folLo, unbox, tmv, Option.some.injEq, exists_eq_left']
    refine ⟨[], [(60000, 60000)], rfl, rfl, ?_, ?_⟩ <;> simp only [go_sem, Nat.reduceEqDiff, resP, pinT, pin, here, Nat.reduceAdd, ↓reduceIte, reduceCtorEq]
def eFol : PEnt Try.prog D where
  f := 30
  X := FolX
  np := 1
  args := folArgs
  bl0 := fun _ => folBl
  v0 := fun _ => .tup []
  bl1 := fun _ => folBl
  ok := fun x => hallLe 1000 x.1 ∧ FolOk x.1 x.2
  k0 := fun x n h => by simp [folBl, keys] at h; omega
  k1 := fun x n h => .inr h
  nd := fun x => by simp [folBl, keys]
  inj := fun x y dn aa bs bl _ _ h1 h2 h _ _ => by
    obtain ⟨a, rfl⟩ : ∃ a, aa = [a] := List.length_eq_one_iff.1 h1
    obtain ⟨b, rfl⟩ : ∃ b, bs = [b] := List.length_eq_one_iff.1 h2
    simp only [folArgs, entriesA, renFs, renF, List.cons.injEq, AV.ptr.injEq, true_and, and_true] at h
    obtain ⟨_, _, _, _, r3⟩ := h
    have r3 : a = b := by simpa [mkAct] using r3
    rw [r3]
  con := fun x h => pc_fol x h
noncomputable def folM : MCtr := pcM [eFol]
theorem folM_ok {G : Ctr} : MOk Try.prog D G folM := mok_pc
open Classical in
theorem folM_1 {h : LHall} {q : List LQueue} {nx : Int} {es : List LEntry} {e : Int} (hx : hallLe 1000 h ∧ FolOk h (⟨q, nx⟩, es, e)) (n dn : Nat) (bl : Nat → Option Blk) :
    folM dn 30 [.agg [.sl 3 (q.map queueRow), .int .i64 nx], .sl 6 (es.map entryRow), .int .i64 e, .iptr [.sl 3 (h.queues.map queueRow), .int .i64 h.next], .ptr n 0] bl =
      if bl n = some (.cells [.bool true]) then some { v := .tup [], up := [(n, .cells [.bool true])] }
      else folM dn 30 [.agg [.sl 3 (q.map queueRow), .int .i64 nx], .sl 6 (es.map entryRow), .int .i64 e, .iptr [.sl 3 (h.queues.map queueRow), .int .i64 h.next], .ptr n 0] bl := by
  split
  · rename_i h
    exact pcM_use (T := [eFol]) (E := eFol) (i := 0) rfl (by decide) (_, ⟨q, nx⟩, es, e) hx [n] rfl (by simp) (by simp [eFol, folArgs, renFs, renF, hallCs, entriesA, mkAct]) (fun k z hz => by
      simp only [eFol, folBl, get] at hz
      split at hz
      · rename_i q; cases hz; subst q; simpa [mkAct, renBl, renFs, renF] using h
      · cases hz)
  · rfl
end Go.Proofs.Ythbejciebmkclaa.Ab
namespace Go.Proofs.Ythbejciebmkclaa.Ab
open Go Go.RowKit
set_option linter.unusedVariables false
set_option linter.unusedSimpArgs false

def eX : LEntry := ⟨3, aB, 0, 7, noteX⟩
def hX1 : LHall := ⟨[qA 2 []], 0⟩
def hX2 : LHall := ⟨[qA 2 [⟨7, 0, 0, false, 0, noteX⟩]], 8⟩
def sX : List LEntry := [⟨1, aB, 2, 0, note0⟩, eX]
theorem eX_parse : entryP (entryB eX) = (eX, 0) := by decide +kernel
theorem hX_apply1 : applyS hall0 ⟨1, aB, 2, 0, note0⟩ = hX1 := by decide +kernel
theorem hX_apply2 : applyS hX1 eX = hX2 := by decide +kernel
theorem hX_short : shortS hX2 = sX := by decide +kernel
theorem hX_write : (writeS [] 0 sX).2 = 0 ∧ (writeS [] 0 sX).1.sure = 0 ∧ (writeS [] 0 sX).1.bytes.length ≤ 1000 ∧ replayS (writeS [] 0 sX).1.bytes = hX2 := by decide +kernel
theorem sX_ok : WOk (([], 0), sX) := by
  refine ⟨⟨by decide +kernel, by decide⟩, fun e he => ?_⟩
  have fX : noteX.Fits := by simp [noteX, LNote.Fits]
  have f0 : note0.Fits := by simp [note0, LNote.Fits]
  simp only [sX, List.mem_cons, List.not_mem_nil, or_false] at he
  rcases he with rfl | rfl
  · exact ⟨by decide, by decide, f0, by decide⟩
  · exact ⟨by decide, by decide, fX, by decide⟩
def aliveLo5 : Nat → Lo := fun id => match id with | 3 => {uo := [6], un := [4], ex := [5]} | _ => {}
set_option maxRecDepth 100000 in
set_option maxHeartbeats 2000000 in
theorem con_alive5 : Con Try.prog D 29 [] ⟨.bool true, []⟩ := by
  have fX : noteX.Fits := by simp [noteX, LNote.Fits]
  have f0 : note0.Fits := by simp [note0, LNote.Fits]
  have fH : ∀ l k, (∀ i ∈ l, i.note = noteX) → l.length ≤ 8 → (⟨[qA 2 l], k⟩ : LHall).Fits := fun l k h1 h2 => ⟨by simp, fun q hq => by
    have : q = qA 2 l := by simpa using hq
    subst this
    exact ⟨⟨by simp only [qA]; omega, fun i hi => by rw [h1 i hi]; exact fX⟩, (by decide : (1 : Nat) ≤ 1048576)⟩⟩
  have ho : EOk eX := sX_ok.2 _ (by simp [sX])
  have c1 : Con Try.prog D 19 [.agg [.int .i64 3, .str [97], .int .i64 0, .int .i64 7, .nils, .sl 1 [[.int .u8 120]]]] ⟨.sl 1 ((entryB eX).map byteRow), []⟩ :=
    (con_jbytes eX ho.1 ho.2.1 ho.2.2.1 ho.2.2.2).weak (by simp [covs, cov, entryA, entryRow, eX, aB, noteX, byteRow])
  have c2 : Con Try.prog D 12 [.sl 1 ((entryB eX).map byteRow)] ⟨.tup [entryA eX, .int .i64 0], []⟩ := by
    have := con_jparse (entryB eX) (by decide)
    rw [eX_parse] at this
    exact this
  have c3 : Con Try.prog D 21 [.agg [.nils, .int .i64 0], .agg [.int .i64 1, .str [97], .int .i64 2, .int .i64 0, .nils, .nils]] ⟨hallA hX1, []⟩ := by
    have := con_apply hall0 ⟨1, aB, 2, 0, note0⟩ fits_hall0 f0 (by decide)
    rw [hX_apply1] at this
    exact this.weak (by simp [covs, cov, hallA, hall0, entryA, entryRow, aB, note0])
  have c4 : Con Try.prog D 21 [hallA hX1, .agg [.int .i64 3, .str [97], .int .i64 0, .int .i64 7, .nils, .sl 1 [[.int .u8 120]]]] ⟨hallA hX2, []⟩ := by
    have := con_apply hX1 eX (fH _ _ (by simp) (by simp)) fX (by decide)
    rw [hX_apply2] at this
    exact this.weak (by simp [covs, cov, hallA, hX1, entryA, entryRow, eX, aB, noteX, byteRow])
  have c5 : Con Try.prog D 27 [hallA hX2] ⟨entriesA sX, []⟩ := by
    have := con_short hX2 (fH _ _ (by simp) (by simp)) (by rw [hX_short]; decide)
    rw [hX_short] at this
    exact this
  obtain ⟨w1, w2, w3, w4⟩ := hX_write
  have c6 : Con Try.prog D 24 [.agg [.nils, .int .i64 0], entriesA sX] ⟨.tup [.agg [.sl 1 ((writeS [] 0 sX).1.bytes.map byteRow), .int .i64 0], .int .i64 0], []⟩ := by
    have := con_write [] 0 sX sX_ok.1.1 sX_ok.1.2 sX_ok.2
    rw [w1, w2] at this
    exact this.weak (by simp [covs, cov, entriesA])
  have c7 : Con Try.prog D 16 [.sl 1 ((writeS [] 0 sX).1.bytes.map byteRow)] ⟨hallA hX2, []⟩ := by
    have := con_replay (writeS [] 0 sX).1.bytes (by omega)
    rw [w4] at this
    exact this
  generalize (writeS [] 0 sX).1.bytes = W at *
  generalize entryB eX = B at *
  clear w1 w2 w3 w4 ho fH
  simp only [hallA, entriesA, entryA, entryRow, queueRow, itemRow, qA, note0, noteX, aB, hX1, hX2, sX, eX, List.map_cons, List.map_nil, byteRow_eq] at c1 c2 c3 c4 c5 c6 c7
  have hok := listG_ok (l := [(_, _, _), (_, _, _), (_, _, _), (_, _, _), (_, _, _), (_, _, _), (_, _, _)]) ⟨c1, c2, c3, c4, c5, c6, c7, trivial⟩
  clear c1 c2 c3 c4 c5 c6 c7
  generalize hG0 : listG _ = G at hok
  have hG : ∀ f a, G f a = listG _ f a := fun f a => by rw [← hG0]
  clear hG0
  have n0 : ((0 : Nat) : Int) = 0 := rfl
  have n1 : ((1 : Nat) : Int) = 1 := rfl
  have z0 : (0 : Int) + 0 = 0 := rfl
  refine conW (G := G) (rs := [(0, none)]) hok Try.func29 Try.results29 Try.ntmps29 aliveLo5 fun X hP hD hG' hX => ?_
  simp only [argS, num]
  simp (disch := omega) only [go_sem, Nat.reduceLeDiff, reduceCtorEq, Nat.reduceAdd, Nat.reduceSub, Nat.reduceMul, Nat.reduceLT, Nat.reduceEqDiff, Int.reduceEq, Int.reduceLE, Int.reduceLT, Int.reducePow, Int.reduceMul, Int.reduceToNat, Int.reduceNeg, ↓reduceIte, hD, hG', wrap64, aliveLo5, hG, listG, AV.agg.injEq, List.cons.injEq, AV.int.injEq, AV.str.injEq, AV.sl.injEq, AV.bool.injEq, n0, n1, z0, List.append_eq, unbox, tmv, Option.some.injEq, exists_eq_left']
  refine ⟨by simp, by decide, RegT.mk [] ?_⟩
  simp (disch := omega) only [go_sem, Nat.reduceLeDiff, reduceCtorEq, Nat.reduceAdd, Nat.reduceSub, Nat.reduceMul, Nat.reduceLT, Nat.reduceEqDiff, Int.reduceEq, Int.reduceLE, Int.reduceLT, Int.reducePow, Int.reduceMul, Int.reduceToNat, Int.reduceNeg, ↓reduceIte, hD, hG', wrap64, aliveLo5, hG, listG, AV.agg.injEq, List.cons.injEq, AV.int.injEq, AV.str.injEq, AV.sl.injEq, AV.bool.injEq, n0, n1, z0, List.append_eq, unbox, tmv, Option.some.injEq, exists_eq_left']
  refine endW [] [] (by simp) rfl rfl rfl ?_ ?_ <;> simp only [go_sem, Nat.reduceEqDiff]
def eAlive5 : Ent Try.prog D := ⟨29, Unit, fun _ => [], fun _ => True, fun _ => ⟨.bool true, []⟩, fun x y _ _ h => rfl, fun _ _ => con_alive5⟩
end Go.Proofs.Ythbejciebmkclaa.Ab
namespace Go.Proofs.Ythbejciebmkclaa.Ab
open Go Go.RowKit
set_option linter.unusedVariables false
set_option linter.unusedSimpArgs false

theorem hallOk_le {h : LHall} (ho : hallOk h) : hallLe 1000 h := by
  obtain ⟨hf, hl4, _⟩ := hallOk_fine ho
  exact ⟨by omega, fun q hq => ⟨⟨by have := (hf.2 q hq).2.2.1; omega, fun i hi => itemFine_fits ((hf.2 q hq).2.2.2 i hi)⟩, by have := keyS_size (hf.2 q hq).1; omega⟩⟩
def folsLo : Nat → Lo := fun id => match id with | 6 => {hand := true} | 9 => {hand := true} | 12 => {hand := true} | _ => {}
set_option maxRecDepth 100000 in
set_option maxHeartbeats 4000000 in
theorem con_journalfollows (h : LHall) (nm : ByteArray) (n : Int) (m : LNote) (t : LTag) (now : Int) (hh : h.Fits) (hn : nm.size ≤ 1048576) (hm : m.Fits) (ht : t.queue.size ≤ 1048576) :
    Con Try.prog D 4 [hallA h, .str nm.data.toList, .int .i64 n, noteA m, tagA t, .int .i64 now] ⟨.bool true, []⟩ := by
  have hok : GOk Try.prog D (tabG [eAlive5, eRightq, eRmake, eRdrop, eRefhput, eRdone, eRefhback, eRpurge, eRtick]) := tabG_ok _
  have g0 := tabG_use (T := [eAlive5, eRightq, eRmake, eRdrop, eRefhput, eRdone, eRefhback, eRpurge, eRtick]) (E := eAlive5) (i := 0) rfl (by decide) (()) (trivial)
  have g1 := tabG_use (T := [eAlive5, eRightq, eRmake, eRdrop, eRefhput, eRdone, eRefhback, eRpurge, eRtick]) (E := eRightq) (i := 1) rfl (by decide) (h) (hh)
  have g9 := tabG_use (T := [eAlive5, eRightq, eRmake, eRdrop, eRefhput, eRdone, eRefhback, eRpurge, eRtick]) (E := eRmake) (i := 2) rfl (by decide) ((h, nm, n)) (⟨hh, hn⟩)
  have g11 := tabG_use (T := [eAlive5, eRightq, eRmake, eRdrop, eRefhput, eRdone, eRefhback, eRpurge, eRtick]) (E := eRdrop) (i := 3) rfl (by decide) ((h, nm)) (hh)
  have g13 := fun (hx : -1000000000 ≤ h.next ∧ h.next ≤ 1000000000) => tabG_use (T := [eAlive5, eRightq, eRmake, eRdrop, eRefhput, eRdone, eRefhback, eRpurge, eRtick]) (E := eRefhput) (i := 4) rfl (by decide) ((h, nm, m)) (⟨hh, hm, hx⟩)
  have g15 := tabG_use (T := [eAlive5, eRightq, eRmake, eRdrop, eRefhput, eRdone, eRefhback, eRpurge, eRtick]) (E := eRdone) (i := 5) rfl (by decide) ((h, t)) (hh)
  have g17 := fun (hx : HallNice h) => tabG_use (T := [eAlive5, eRightq, eRmake, eRdrop, eRefhput, eRdone, eRefhback, eRpurge, eRtick]) (E := eRefhback) (i := 6) rfl (by decide) ((h, t)) (hx)
  have g19 := tabG_use (T := [eAlive5, eRightq, eRmake, eRdrop, eRefhput, eRdone, eRefhback, eRpurge, eRtick]) (E := eRpurge) (i := 7) rfl (by decide) ((h, nm)) (hh)
  have g23 := fun (hx : hallOk h) => tabG_use (T := [eAlive5, eRightq, eRmake, eRdrop, eRefhput, eRdone, eRefhback, eRpurge, eRtick]) (E := eRtick) (i := 8) rfl (by decide) ((h, now)) (hx)
  generalize tabG [eAlive5, eRightq, eRmake, eRdrop, eRefhput, eRdone, eRefhback, eRpurge, eRtick] = G at *
  dsimp only [eAlive5] at g0
  dsimp only [eRightq] at g1
  dsimp only [eRmake] at g9
  dsimp only [eRdrop] at g11
  dsimp only [eRefhput] at g13
  dsimp only [eRdone] at g15
  dsimp only [eRefhback] at g17
  dsimp only [eRpurge] at g19
  dsimp only [eRtick] at g23
  by_cases hgood : (0 ≤ now ∧ now ≤ 1000000) ∧ hallOk h
  · obtain ⟨hnow, hok'⟩ := hgood
    obtain ⟨hf, hl4, hn0, hn1⟩ := hallOk_fine hok'
    have hp := hallOk_P hok'
    have hle := hallOk_le hok'
    rw [decide_eq_true hok'] at g1
    have g13 := g13 ⟨by omega, by omega⟩
    have g17 := g17 (hallP_nice hp (by decide) (by decide) (by omega))
    have g23 := g23 hok'
    have f1 := fol_make (nm := nm) (n := n) hh hn
    have f2 := fol_drop (nm := nm) hh hn
    have f3 := fol_put (nm := nm) hok' hh hm
    have f4 := fol_done (t := t) hok' hh ht
    have f5 := fol_back (t := t) hok' hh
    have f6 := fol_purge (nm := nm) hok' hh hn
    have f7 := fol_tick (now := now) hok'
    clear hok' hp hf
    generalize makeS h nm n = a1 at *
    generalize dropS h nm = a2 at *
    generalize hputS h nm m = a3 at *
    generalize hdoneS h t = a4 at *
    generalize hbackS h t = a5 at *
    generalize hpurgeS h nm = a6 at *
    generalize htickS h now = a7 at *
    obtain ⟨⟨a1q, a1x⟩, a1e, a1r⟩ := a1
    obtain ⟨⟨a2q, a2x⟩, a2e, a2r⟩ := a2
    obtain ⟨⟨a3q, a3x⟩, a3e, a3r⟩ := a3
    obtain ⟨⟨a4q, a4x⟩, a4e, a4r⟩ := a4
    obtain ⟨⟨a5q, a5x⟩, a5e, a5r⟩ := a5
    obtain ⟨⟨a6q, a6x⟩, a6e, a6r⟩ := a6
    obtain ⟨⟨a7q, a7x⟩, a7e⟩ := a7
    obtain ⟨q, nx⟩ := h
    have c1 := folM_1 ⟨hle, f1⟩
    have c2 := folM_1 ⟨hle, f2⟩
    have c3 := folM_1 ⟨hle, f3⟩
    have c4 := folM_1 ⟨hle, f4⟩
    have c5 := folM_1 ⟨hle, f5⟩
    have c6 := folM_1 ⟨hle, f6⟩
    have c7 := folM_1 ⟨hle, f7⟩
    clear f1 f2 f3 f4 f5 f6 f7 hle
    obtain ⟨m1, m2⟩ := m
    obtain ⟨t1, t2, t3, t4⟩ := t
    simp only [hallA, hres, entriesA, noteA, tagA, tagRow, nmL] at g0 g1 g9 g11 g13 g15 g17 g19 g23 c1 c2 c3 c4 c5 c6 c7
    refine conM (G := G) (M := folM) (rs := [(12, none)]) folM_ok hok Try.func4 Try.results4 Try.ntmps4 folsLo fun X hP hD hG' hX => ?_
    generalize folM = M at *
    simp only [argS, num, hallA, noteA, tagA, tagRow]
    have hd1 : decide (now < 0) = false := by simp; omega
    have hd2 : decide (now > 1000000) = false := by simp; omega
    generalize nm.data.toList = ns at *
    generalize t2.data.toList = ts at *
    simp (disch := omega) only [go_sem, Nat.reduceLeDiff, reduceCtorEq, Nat.reduceAdd, Nat.reduceSub, Nat.reduceMul, Nat.reduceLT, Nat.reduceEqDiff, Int.reduceEq, Int.reduceLE, Int.reduceLT, Int.reducePow, Int.reduceMul, Int.reduceToNat, Int.reduceNeg, ↓reduceIte, hD, hG', wrap64, g0, g1, hd1, hd2, folsLo, unbox, tmv, Option.some.injEq, exists_eq_left']
    refine RegT.mk [] ?_
    simp (disch := omega) only [go_sem, Nat.reduceLeDiff, reduceCtorEq, Nat.reduceAdd, Nat.reduceSub, Nat.reduceMul, Nat.reduceLT, Nat.reduceEqDiff, Int.reduceEq, Int.reduceLE, Int.reduceLT, Int.reducePow, Int.reduceMul, Int.reduceToNat, Int.reduceNeg, ↓reduceIte, hD, hG', wrap64, g0, g1, hd1, hd2, folsLo, unbox, tmv, Option.some.injEq, exists_eq_left']
    refine Tr.wk (Wk.ice 6 (cs := [.sl 3 (q.map queueRow), .int .i64 nx]) (by rfl) rfl) (evC_sound hX (fun _ => {}) _ _ _ ?_)
    simp (disch := omega) only [go_sem, Nat.reduceLeDiff, reduceCtorEq, Nat.reduceAdd, Nat.reduceSub, Nat.reduceMul, Nat.reduceLT, Nat.reduceEqDiff, Int.reduceEq, Int.reduceLE, Int.reduceLT, Int.reducePow, Int.reduceMul, Int.reduceToNat, Int.reduceNeg, ↓reduceIte, hD, hG', wrap64, g9, g11, c1, c2, folsLo, unbox, tmv, Option.some.injEq, exists_eq_left']
    refine evC_sound hX (fun _ => {}) _ _ _ ?_
    simp (disch := omega) only [go_sem, Nat.reduceLeDiff, reduceCtorEq, Nat.reduceAdd, Nat.reduceSub, Nat.reduceMul, Nat.reduceLT, Nat.reduceEqDiff, Int.reduceEq, Int.reduceLE, Int.reduceLT, Int.reducePow, Int.reduceMul, Int.reduceToNat, Int.reduceNeg, ↓reduceIte, hD, hG', wrap64, g13, g15, g17, c3, c4, c5, folsLo, unbox, tmv, Option.some.injEq, exists_eq_left']
    refine evC_sound hX (fun _ => {}) _ _ _ ?_
    simp (disch := omega) only [go_sem, Nat.reduceLeDiff, reduceCtorEq, Nat.reduceAdd, Nat.reduceSub, Nat.reduceMul, Nat.reduceLT, Nat.reduceEqDiff, Int.reduceEq, Int.reduceLE, Int.reduceLT, Int.reducePow, Int.reduceMul, Int.reduceToNat, Int.reduceNeg, ↓reduceIte, hD, hG', wrap64, g19, g23, c6, c7, folsLo, unbox, tmv, Option.some.injEq, exists_eq_left']
    refine endW [] [] (by simp) rfl rfl rfl ?_ ?_ <;> simp only [go_sem, Nat.reduceEqDiff]
  · clear g9 g11 g13 g15 g17 g19 g23
    obtain ⟨q, nx⟩ := h
    obtain ⟨m1, m2⟩ := m
    obtain ⟨t1, t2, t3, t4⟩ := t
    simp only [hallA] at g0 g1
    refine conW (G := G) (rs := [(12, none)]) hok Try.func4 Try.results4 Try.ntmps4 (folsLo) fun X hP hD hG' hX => ?_
    simp only [argS, num, hallA, noteA, tagA, tagRow]
    generalize nm.data.toList = ns at *
    generalize t2.data.toList = ts at *
    by_cases hho : hallOk ⟨q, nx⟩
    · rw [decide_eq_true hho] at g1
      have hbad : ¬ (0 ≤ now ∧ now ≤ 1000000) := fun h => hgood ⟨h, hho⟩
      clear hgood hho
      simp (disch := omega) only [go_sem, Nat.reduceLeDiff, reduceCtorEq, Nat.reduceAdd, Nat.reduceSub, Nat.reduceMul, Nat.reduceLT, Nat.reduceEqDiff, Int.reduceEq, Int.reduceLE, Int.reduceLT, Int.reducePow, Int.reduceMul, Int.reduceToNat, Int.reduceNeg, ↓reduceIte, hD, hG', wrap64, g0, g1, folsLo, unbox, tmv, Option.some.injEq, exists_eq_left']
      refine RegT.mk [] ?_
      simp (disch := omega) only [go_sem, Nat.reduceLeDiff, reduceCtorEq, Nat.reduceAdd, Nat.reduceSub, Nat.reduceMul, Nat.reduceLT, Nat.reduceEqDiff, Int.reduceEq, Int.reduceLE, Int.reduceLT, Int.reducePow, Int.reduceMul, Int.reduceToNat, Int.reduceNeg, ↓reduceIte, hD, hG', wrap64, g0, g1, folsLo, unbox, tmv, Option.some.injEq, exists_eq_left']
      and_intros
      all_goals (try (first | (intro hk; refine ⟨hk, fun h2 => ?_⟩; first | (rw [hk, h2]; rfl) | (rw [hk, decide_eq_false h2]; rfl)) | (intro hk; rw [decide_eq_false hk]; rfl) | (intro hk; rw [hk]; rfl)))
      refine condK_split (fun h => ?_) (fun h => ?_)
      · simp (disch := omega) only [go_sem, Nat.reduceLeDiff, reduceCtorEq, Nat.reduceAdd, Nat.reduceSub, Nat.reduceMul, Nat.reduceLT, Nat.reduceEqDiff, Int.reduceEq, Int.reduceLE, Int.reduceLT, Int.reducePow, Int.reduceMul, Int.reduceToNat, Int.reduceNeg, ↓reduceIte, hD, hG', wrap64, folsLo, unbox, tmv, Option.some.injEq, exists_eq_left']
        refine endW [] [] (by simp) rfl rfl rfl ?_ ?_ <;> simp only [go_sem, Nat.reduceEqDiff]
      · exfalso
        clear g1
        simp at h
        omega
    · rw [decide_eq_false hho] at g1
      clear hgood hho
      simp (disch := omega) only [go_sem, Nat.reduceLeDiff, reduceCtorEq, Nat.reduceAdd, Nat.reduceSub, Nat.reduceMul, Nat.reduceLT, Nat.reduceEqDiff, Int.reduceEq, Int.reduceLE, Int.reduceLT, Int.reducePow, Int.reduceMul, Int.reduceToNat, Int.reduceNeg, ↓reduceIte, hD, hG', wrap64, g0, g1, folsLo, unbox, tmv, Option.some.injEq, exists_eq_left']
      refine RegT.mk [] ?_
      simp (disch := omega) only [go_sem, Nat.reduceLeDiff, reduceCtorEq, Nat.reduceAdd, Nat.reduceSub, Nat.reduceMul, Nat.reduceLT, Nat.reduceEqDiff, Int.reduceEq, Int.reduceLE, Int.reduceLT, Int.reducePow, Int.reduceMul, Int.reduceToNat, Int.reduceNeg, ↓reduceIte, hD, hG', wrap64, g0, g1, folsLo, unbox, tmv, Option.some.injEq, exists_eq_left']
      and_intros
      all_goals (try (first | (intro hk; refine ⟨hk, fun h2 => ?_⟩; first | (rw [hk, h2]; rfl) | (rw [hk, decide_eq_false h2]; rfl)) | (intro hk; rw [decide_eq_false hk]; rfl) | (intro hk; rw [hk]; rfl)))
      · simp
      · refine ⟨_, Wk.refl, _, rfl, [], [], rfl, rfl, ?_, ?_⟩ <;> simp only [go_sem, Nat.reduceEqDiff]
end Go.Proofs.Ythbejciebmkclaa.Ab
