/-
  Texts of the proof, one behind the other: FrS FrB FrC StoreA StoreB StoreC Rec Dt DfI JoA JoB St SPlain DeT.
  No condition but those that each theorem names.
-/
import Derived.Test.YthbejciebmkclaaGD
import Derived.Test.YthbejciebmkclaaGC
import Derived.Test.YthbejciebmkclaaChecked
import Derived.Test.YthbejciebmkclaaGA
import Derived.Deep.RegionLaw
import Derived.Test.YthbejciebmkclaaGI
import Derived.Test.YthbejciebmkclaaGQ
import Derived.Test.YthbejciebmkclaaGJ
namespace Go.Proofs.Ythbejciebmkclaa.Ab
open Go Go.RowKit
set_option linter.unusedVariables false
set_option linter.unusedSimpArgs false

structure LAsk where
  kind : Int
  queue : ByteArray
  n : Int
  note : LNote
structure LSay where
  kind : Int
  n : Int
  m : Int
  err : Int
  note : LNote
def LAsk.Fits (a : LAsk) : Prop := a.queue.size ≤ 1048576 ∧ a.note.Fits
def namedS (k : Int) : Bool := decide (k = 2 ∨ k = 3 ∨ k = 4 ∨ k = 5 ∨ k = 6 ∨ k = 9)
def lowS (k : Int) : Int := if k = 6 ∨ k = 7 ∨ k = 8 then 1 else 0
def highS (k : Int) : Int := if k = 2 ∨ k = 7 ∨ k = 8 then 1073741824 else if k = 6 then 9 else 0
def wrongAskS (a : LAsk) : Int :=
  if a.kind < 1 ∨ 9 < a.kind then 1
  else if (if namedS a.kind = true then keyS a.queue = false else a.queue.size ≠ 0) then 7
  else if a.n < lowS a.kind ∨ highS a.kind < a.n then 3
  else if a.kind ≠ 4 ∧ 0 < a.note.props.length + a.note.body.length then 2
  else wrongS a.note
def askA (a : LAsk) : AV := .agg [.int .i64 a.kind, .str a.queue.data.toList, .int .i64 a.n, .sl 4 (a.note.props.map propRow), .sl 1 (a.note.body.map byteRow)]
def sayA (s : LSay) : AV := .agg [.int .i64 s.kind, .int .i64 s.n, .int .i64 s.m, .int .i64 s.err, .sl 4 (s.note.props.map propRow), .sl 1 (s.note.body.map byteRow)]
theorem askA_inj {a b : LAsk} (h : askA a = askA b) : a = b := by
  obtain ⟨k, q, n, ⟨p, y⟩⟩ := a
  obtain ⟨k', q', n', ⟨p', y'⟩⟩ := b
  simp only [askA, AV.agg.injEq, List.cons.injEq, AV.int.injEq, AV.str.injEq, AV.sl.injEq, true_and, and_true] at h
  obtain ⟨rfl, h2, rfl, h4, h5⟩ := h
  rw [bytes_ext h2, props_inj h4, bytes_inj h5]
end Go.Proofs.Ythbejciebmkclaa.Ab
namespace Go.Proofs.Ythbejciebmkclaa.Ab
open Go Go.RowKit
set_option linter.unusedVariables false
set_option linter.unusedSimpArgs false

set_option maxRecDepth 100000 in
set_option maxHeartbeats 4000000 in
theorem con_wrongask (s : LAsk) (hs : s.Fits) : Con Try.prog D 59 [askA s] ⟨.int .i64 (wrongAskS s), []⟩ := by
  obtain ⟨kind, q, n, ⟨ps, bs⟩⟩ := s
  obtain ⟨hq, hs⟩ := hs
  have h1 := hs.2.1
  have h2 := hs.2.2
  simp only at h1 h2 hq
  have g1 : tabG [eWrong, eKey] 97 [noteA ⟨ps, bs⟩] = some ⟨.int .i64 (wrongS ⟨ps, bs⟩), []⟩ := tabG_at (E := eWrong) (T := [eWrong, eKey]) (i := 0) rfl (by decide) _ hs rfl rfl
  have g2 : tabG [eWrong, eKey] 96 [.str q.data.toList] = some ⟨.bool (keyS q), []⟩ := tabG_at (E := eKey) (T := [eWrong, eKey]) (i := 1) rfl (by decide) q hq rfl rfl
  have hok : GOk Try.prog D (tabG [eWrong, eKey]) := tabG_ok _
  generalize tabG [eWrong, eKey] = G at *
  simp only [noteA] at g1
  have hl : q.data.toList.length = q.size := rfl
  have hcon : ∀ r, r = wrongAskS ⟨kind, q, n, ⟨ps, bs⟩⟩ → Con Try.prog D 59 [askA ⟨kind, q, n, ⟨ps, bs⟩⟩] ⟨.int .i64 r, []⟩ := by
    intro r hr
    refine con_of (G := G) (rs := [(2, none)]) mixed tok hok Try.func59 rfl (by decide) Try.results59 (by decide) rfl Try.ntmps59 (by simp) (by simp [askA, namess, names]) fun X hP hD hG' hX => evC_sound hX (fun _ => {}) _ _ _ ?_
    simp only [argS, num, askA]
    generalize q.data.toList = ql at *
    simp (disch := omega) only [go_sem, Nat.reduceLeDiff, reduceCtorEq, Nat.reduceAdd, Nat.reduceSub, Nat.reduceMul, Nat.reduceLT, Nat.reduceEqDiff, Int.reduceEq, Int.reduceLE, Int.reduceLT, Int.reducePow, Int.reduceMul, Int.reduceToNat, Int.reduceNeg, ↓reduceIte, hD, hG', wrap64, g1, g2, unbox, tmv, Option.some.injEq, exists_eq_left']
    iterate 24 (all_goals (try (first | (refine RegT.mk [] ?_; simp (disch := omega) only [go_sem, Nat.reduceLeDiff, reduceCtorEq, Nat.reduceAdd, Nat.reduceSub, Nat.reduceMul, Nat.reduceLT, Nat.reduceEqDiff, Int.reduceEq, Int.reduceLE, Int.reduceLT, Int.reducePow, Int.reduceMul, Int.reduceToNat, Int.reduceNeg, ↓reduceIte, hD, hG', wrap64, g1, g2, unbox, tmv, Option.some.injEq, exists_eq_left']) | (refine condK_split (fun h => ?_) (fun h => ?_) <;> simp (disch := omega) only [go_sem, Nat.reduceLeDiff, reduceCtorEq, Nat.reduceAdd, Nat.reduceSub, Nat.reduceMul, Nat.reduceLT, Nat.reduceEqDiff, Int.reduceEq, Int.reduceLE, Int.reduceLT, Int.reducePow, Int.reduceMul, Int.reduceToNat, Int.reduceNeg, ↓reduceIte, hD, hG', wrap64, g1, g2, unbox, tmv, Option.some.injEq, exists_eq_left']) | and_intros)))
    all_goals (try (refine ⟨[], [], rfl, rfl, ?_, ?_⟩ <;> simp only [go_sem, Nat.reduceEqDiff]))
    all_goals clear g1 g2 hok hP hD hG' hX
    all_goals try (first | (intro hk; refine ⟨hk, fun h2 => ?_⟩; first | (rw [hk, h2]; rfl) | (rw [hk, decide_eq_false h2]; rfl)) | (intro hk; rw [decide_eq_false hk]; rfl) | (intro hk; rw [hk]; rfl))
    all_goals (subst hr; unfold wrongAskS namedS lowS highS; simp only)
    all_goals grind
  exact hcon _ rfl
end Go.Proofs.Ythbejciebmkclaa.Ab
namespace Go.Proofs.Ythbejciebmkclaa.Ab
open Go Go.RowKit
set_option linter.unusedVariables false
set_option linter.unusedSimpArgs false

def eWrongask : Ent Try.prog D := ⟨59, LAsk, fun x => [askA x], LAsk.Fits, fun x => ⟨.int .i64 (wrongAskS x), []⟩, fun x y _ _ h => by
  simp only [List.cons.injEq, and_true] at h
  rw [askA_inj h], con_wrongask⟩
end Go.Proofs.Ythbejciebmkclaa.Ab
namespace Go.Proofs.Ythbejciebmkclaa
open Go.RowKit
set_option linter.unusedSimpArgs false
set_option linter.unusedVariables false

theorem sum_any (l : List UInt8) (n : Nat) (hn : n = l.length) (A : Option Addr) (c : Nat) (w : World) (hl : l.length ≤ 16777216) (hr : RBytes w (· < w.heap.size) A l) :
    Calls Try.prog 116 #[.slice A n c] w fun e w' => e = .returned (.int .i64 (sumS l)) ∧ w = w' := by
  subst hn
  have HC := Lib.hid hr
  clear hr
  go_enter Try.func116, Try.ntmps116
  go_wp2
  go_loop [3, 5, 8] (fun s _ i => ∃ k : Nat, k ≤ l.length ∧ i = .int .i64 k ∧ s = .int .i64 (sumS (l.take k))) (fun _ _ i => l.length - (intOf i).toNat)
  case atStart => exact ⟨0, Nat.zero_le _, rfl, rfl⟩
  case round =>
    obtain ⟨k, hk, rfl, rfl⟩ := hrel
    by_cases hlt : k < l.length
    · obtain ⟨b, o, rfl, _, hc⟩ := HC.out.at_ (by omega)
      have h1 := hc k hlt
      have h2 := sumS_lt (l.take k)
      have h3 : l[k].toNat < 256 := UInt8.toNat_lt _
      have h4 : sumS (l.take (k+1)) = (sumS (l.take k) * 33 + l[k].toNat + 1) % 65521 := by
        rw [List.take_succ_eq_append_getElem hlt, sumS_snoc]
      have H4 := Lib.hid h4
      clear h4 hc
      go_wp2
      go_round
      case rel => exact ⟨k + 1, by omega, by go_num, by rw [H4.out]; go_num⟩
      case measure => simp [intOf]; omega
    · go_wp2
      go_ret
      exact ⟨ret_int (by rw [List.take_of_length_le (by omega)]), rfl⟩

/-- a header's two bytes, as the walk has them -/
theorem two_lit (n : Nat) (hn : n < 65536) : [Value.int .u8 ((n : Int) / 256), .int .u8 ((n : Int) % 256)] = [byteOf (n / 256), byteOf n].map byteV := by
  simp only [byteOf, List.map_cons, List.map_nil, byteV_of]
  rw [Nat.mod_eq_of_lt (show n / 256 < 256 by omega)]
  simp
theorem Reads.of_eq {w : World} {S : Nat → Prop} {size n m : Nat} {A : Option Addr} {xs ys : List Value} (h : Reads w S size A n xs) (e1 : n = m) (e2 : xs = ys) : Reads w S size A m ys := by subst e1 e2; exact h
theorem own_of_eq {w : World} {base e size n m : Nat} {v : Value} {xs ys : List Value} (h : w.ownsRow base e size v n xs) (e1 : n = m) (e2 : xs = ys) : w.ownsRow base e size v m ys := by subst e1 e2; exact h

theorem frame_any (l : List UInt8) (n : Nat) (hn : n = l.length) (A : Option Addr) (c : Nat) (w : World) (hl : l.length ≤ 65535) (hr : RBytes w (· < w.heap.size) A l) :
    Calls Try.prog 123 #[.slice A n c] w fun e w' => ∃ A1 c1, e = .returned (.slice A1 (l.length + 4) c1) ∧ w'.ownsRow w.heap.size 5 1 (.slice A1 (l.length + 4) c1) (l.length + 4) ((frameS l).map byteV) ∧ Below w.heap.size w w' := by
  subst hn
  obtain ⟨i0, hi0, hz0, hz1, hz2⟩ := info_parts info_u8
  have HR := Lib.hid hr
  clear hr
  have hs := sumS_lt (byteOf (l.length / 256) :: byteOf l.length :: l)
  have HF : Hid (frameS l = ([byteOf (l.length / 256), byteOf l.length] ++ l) ++ [byteOf (sumS (byteOf (l.length / 256) :: byteOf l.length :: l) / 256), byteOf (sumS (byteOf (l.length / 256) :: byteOf l.length :: l))]) := Lib.hid rfl
  generalize hq : sumS (byteOf (l.length / 256) :: byteOf l.length :: l) = q at *
  have HQ := Lib.hid hq
  clear hq
  go_enter Try.func123, Try.ntmps123
  go_wp2_with (at_builtin; refine wpList_append_any _ rfl (.tmp 12) (.tmp 13) _ rfl w.heap.size 5 i0 _ 1 1 Try.underlying26 hi0 hz0 hz1 hz2 rfl (by omega) (.slice (some ⟨w.heap.size, 0, none⟩) 2 2) 2 _ rfl (own_lit _ _ _ _ _ rfl (by simp only [maxLen]; omega)) (· < w.heap.size) A l.length c _ rfl (Reads.keep HR.out (Kept.below (below_alloc (Below.refl _ _) _) (fun _ h => h))) (one_bytes _) (by simp only [maxLen]; omega) (by omega) (by simp) ?_; intro v1 w1 hown1 hg1 hat1; obtain ⟨A1, c1, rfl, hc11, hc12, hr1⟩ := own_reads hown1)
  have hb1 : Below w.heap.size w w1 := below_grown (below_alloc (Below.refl _ _) _) hg1 (by simp [Value.ownBlock])
  have e1 := two_lit l.length (by omega)
  have r1 : RBytes w1 (· < w1.heap.size) A1 ([byteOf (l.length / 256), byteOf l.length] ++ l) := (hr1.mono fun b h => h.2.1).of_eq (by simp; omega) (by rw [List.map_append, ← e1])
  have HO := Lib.hid (own_of_eq hown1 rfl (show _ = ([byteOf (l.length / 256), byteOf l.length] ++ l).map byteV by rw [List.map_append, ← e1]))
  have hlt1 := hown1.lt
  clear hown1 hg1 hat1 hr1 e1
  refine (sum_any _ _ (by simp; omega) _ _ _ (by simp; omega) r1).mono ?_
  rw [show sumS ([byteOf (l.length / 256), byteOf l.length] ++ l) = q from HQ.out]
  rintro e w2 ⟨rfl, rfl⟩
  clear r1
  go_wp2_with (at_builtin; refine wpList_append_any _ rfl (.tmp 17) (.tmp 23) _ rfl w.heap.size 5 i0 _ 1 1 Try.underlying26 hi0 hz0 hz1 hz2 rfl (by omega) (.slice A1 (2 + l.length) c1) (2 + l.length) _ rfl (HO.out.alloc _) (· = w1.heap.size) (some ⟨w1.heap.size, 0, none⟩) 2 2 _ rfl (reads_lit _ _ _ _ 2 rfl) (by rw [two_lit q (by omega)]; exact one_bytes _) (by simp only [maxLen]; omega) (by omega) (by have := hb1.size; simp; omega) ?_; intro v2 w2 hown2 hg2 hat2; obtain ⟨A2, c2, rfl, hc21, hc22, hr2⟩ := own_reads hown2)
  go_ret
  rw [two_lit q (by omega), ← List.map_append, ← HF.out, show 2 + l.length + 2 = l.length + 4 from by omega] at hown2
  exact ⟨A2, c2, by simp; omega, hown2, below_grown (below_alloc hb1 _) hg2 (fun k hk => (hlt1 k hk).1)⟩

/-- store.Own: a copy -/
theorem logown_any (a : LLog) (A : Option Addr) (n : Nat) (hn : n = a.bytes.length) (c : Nat) (w : World) (hl : a.bytes.length ≤ 8388608) (hr : RBytes w (· < w.heap.size) A a.bytes) :
    Calls Try.prog 122 #[.agg #[.slice A n c, .int .i64 a.sure]] w fun e w' => ∃ A1 c1, e = .returned (.agg #[.slice A1 a.bytes.length c1, .int .i64 a.sure]) ∧
      w'.ownsRow w.heap.size 5 1 (.slice A1 a.bytes.length c1) a.bytes.length (a.bytes.map byteV) ∧ Below w.heap.size w w' := by
  subst hn
  obtain ⟨l, s⟩ := a
  simp only at hl hr ⊢
  have HR := Lib.hid hr
  clear hr
  go_enter Try.func122, Try.ntmps122
  go_wp2_with fail
  go_region_held3 (fun w' => w'.cell? ⟨w.heap.size, 0, none⟩ = some (.slice A l.length c) ∧ w'.cell? ⟨w.heap.size, 1, none⟩ = some (.int .i64 s)) (first | (refine ⟨?_, ?_⟩ <;> assumption) | go_keep)
    (first
      | (go_at_call 117; refine (clone_bytes _ _ rfl _ _ _ (by omega) (Reads.later HR.out (by repeat (first | exact Below.refl _ _ | apply below_alloc | apply Below.drew | apply below_drewN)))).mono ?_; rintro e w1 ⟨A1, c1, rfl, hown1, hb1⟩; have s0 : w1.cell? ⟨w.heap.size, 0, none⟩ = some (.slice A l.length c) := cell_later hb1 (by first | (simp; done) | assumption); have s1 : w1.cell? ⟨w.heap.size, 1, none⟩ = some (.int .i64 s) := cell_later hb1 (by first | (simp; done) | assumption); obtain ⟨hc1, hf1⟩ := bcell hb1; have hz1 : w.heap.size + 1 < w1.heap.size := by (have := hb1.size; simp at this; omega)))
  go_wp2_with fail
  have q1 := own_set (own_set hown1 (a := ⟨w.heap.size + 1, 0, none⟩) (by simp) (.slice A1 l.length c1)) (a := ⟨w.heap.size + 1, 1, none⟩) (by simp) (.int .i64 s)
  have hb9 : Below w.heap.size w w1 := below_trans (by repeat (first | exact Below.refl _ _ | apply below_alloc | apply Below.drew | apply below_drewN)) hb1
  refine bodyPost_ret (v := .agg #[.slice A1 l.length c1, .int .i64 s]) (by simp [results, Try.results122, go_sem, hc1, hz1]) rfl ⟨A1, c1, rfl, own_mono q1 (by simp; omega), below_set (below_set hb9 (by simp) _) (by simp) _⟩

end Go.Proofs.Ythbejciebmkclaa
namespace Go.Proofs.Ythbejciebmkclaa
open Go.RowKit
set_option linter.unusedSimpArgs false
set_option linter.unusedVariables false

theorem frames_take (l : List UInt8) (rs : List (List UInt8)) (k : Nat) (hk : k < rs.length) : l ++ ((rs.take (k + 1)).map frameS).flatten = (l ++ ((rs.take k).map frameS).flatten) ++ frameS rs[k] := by
  rw [List.take_succ_eq_append_getElem hk, List.map_append, List.flatten_append, List.append_assoc]
  simp
theorem frames_le (rs : List (List UInt8)) : ∀ k, ((rs.take k).map frameS).flatten.length ≤ (rs.map frameS).flatten.length := by
  intro k
  have h := congrArg (fun l => (List.map frameS l).flatten.length) (List.take_append_drop k rs)
  simp only [List.map_append, List.flatten_append, List.length_append] at h
  omega
theorem any_false_take {α : Type} (p : α → Bool) (l : List α) (k : Nat) (hk : k < l.length) (h : (l.take k).any p = false) (hp : p l[k] = false) : (l.take (k + 1)).any p = false := by
  rw [List.take_succ_eq_append_getElem hk, List.any_append, h]
  simp [hp]

set_option maxRecDepth 20000 in
set_option maxHeartbeats 1000000 in
theorem append_any (a : LLog) (rs : List (List UInt8)) (A A' : Option Addr) (c c' : Nat) (w : World) (hl : a.bytes.length + (rs.map frameS).flatten.length ≤ 8388608) (hrl : rs.length ≤ 1048576) (hr : RBytes w (· < w.heap.size) A a.bytes) (hr' : RRecs w (· < w.heap.size) (· < w.heap.size) A' rs) :
    Calls Try.prog 86 #[.agg #[.slice A a.bytes.length c, .int .i64 a.sure], .slice A' rs.length c'] w fun e w' => ∃ A1 c1, e = .returned (.tuple #[.agg #[.slice A1 (appendS a rs).1.bytes.length c1, .int .i64 (appendS a rs).1.sure], .int .i64 (appendS a rs).2]) ∧
      w'.ownsRow w.heap.size 5 1 (.slice A1 (appendS a rs).1.bytes.length c1) (appendS a rs).1.bytes.length ((appendS a rs).1.bytes.map byteV) ∧ Below w.heap.size w w' := by
  obtain ⟨i0, hi0, hz0, hz1, hz2⟩ := info_parts info_u8
  obtain ⟨l, s⟩ := a
  simp only at hl hr ⊢
  have HR := Lib.hid hr
  have HR' := Lib.hid hr'
  have HL := Lib.hid hl
  have hl1 : l.length ≤ 8388608 := by omega
  generalize hq : appendS ⟨l, s⟩ rs = q
  have HQ := Lib.hid hq
  clear hr hr' hl hq
  go_enter Try.func86, Try.ntmps86
  go_wp2_with (go_at_call 122; refine (logown_any ⟨l, s⟩ _ _ rfl _ _ hl1 (Reads.later HR.out (by repeat (first | exact Below.refl _ _ | apply below_alloc | apply Below.drew | apply below_drewN)))).mono ?_; rintro e w1 ⟨A1, c1, rfl, hown1, hb1⟩; obtain ⟨hc1, hf1⟩ := bcell hb1; have hz1' : w.heap.size + 1 < w1.heap.size := by (have := hb1.size; simp at this; omega))
  have hg6 : w.heap.size + 1 < w1.heap.size := by have := hb1.size; simp at this; omega
  have hb9 : Below w.heap.size w w1 := below_trans (by repeat (first | exact Below.refl _ _ | apply below_alloc | apply Below.drew | apply below_drewN)) hb1
  have hblk4 : Blk w1 (w.heap.size + 1) 32 #[.slice none 0 0, .int .i64 0] := Blk.below (Blk.new_at (w.alloc (.cells #[.slice A l.length c, .int .i64 s] 32)) 32 #[.slice none 0 0, .int .i64 0] (by simp)) hb1 (by simp)
  go_loopw [13] (fun i wr => ∃ (k : Nat) (A2 : Option Addr) (m c2 : Nat), k ≤ rs.length ∧ i = .int .i64 k ∧ Hid ((rs.take k).any (fun r => decide (65535 < r.length)) = false) ∧ Hid (m = (l ++ ((rs.take k).map frameS).flatten).length) ∧
      Blk wr w1.heap.size 32 #[.slice A2 m c2, .int .i64 s] ∧ wr.ownsRow w.heap.size 5 1 (.slice A2 m c2) m ((l ++ ((rs.take k).map frameS).flatten).map byteV) ∧
      Below w.heap.size w wr ∧ Blk wr (w.heap.size + 1) 32 #[.slice none 0 0, .int .i64 0]) (fun i _ => rs.length - (intOf i).toNat)
  case atStart => exact ⟨0, A1, l.length, c1, Nat.zero_le _, rfl, Lib.hid rfl, Lib.hid (by simp), Blk.new _ _ _, by simpa using (own_mono hown1 (by simp; omega)).alloc _, below_alloc hb9 _, hblk4.alloc _⟩
  case round =>
    clear hc1 hf1 hown1 hb1 hblk4 hz1'
    obtain ⟨k, A2, m, c2, hk, rfl, HA, HM, hblk, hown, hb, hblk4⟩ := hrel
    have hg := hblk.lt
    have m0 := hblk.cell 0
    have m1 := hblk.cell 1
    have mf := hblk.frozen 0
    have n0 := hblk4.cell 0
    have n1 := hblk4.cell 1
    have nf0 := hblk4.frozen 0
    have nf1 := hblk4.frozen 1
    simp at m0 m1 n0 n1
    have HO := Lib.hid hown
    clear hown
    have hml : m ≤ 8388608 := by
      have h1 := HM.out
      have h2 := HL.out
      have h3 := frames_le rs k
      rw [h1, List.length_append]
      omega
    by_cases hlt : k < rs.length
    · obtain ⟨b, o, rfl, hS, hcc⟩ := HR'.out.at_ (by omega)
      obtain ⟨A3, c3, f0, hrk, _, _⟩ := hcc k hlt
      have hS' : b < w.heap.size := hS
      have f0' : wr.cell? ⟨b, o + k, none⟩ = some (.slice A3 rs[k].length c3) := (hb.cell hS').trans f0
      have HRK := Lib.hid (Reads.later hrk hb)
      clear f0 hrk hcc
      by_cases hbig : 65535 < rs[k].length
      · have hfin : q = (⟨[], 0⟩, 4) := by
          rw [← HQ.out]
          unfold appendS
          rw [if_pos (List.any_eq_true.2 ⟨rs[k], List.getElem_mem hlt, by simpa using hbig⟩)]
        subst hfin
        go_wp2_with fail
        exact bodyPost_ret (v := .tuple #[.agg #[.slice none 0 0, .int .i64 0], .int .i64 4]) (by simp [results, Try.results86, go_sem, n0, n1]) rfl
          ⟨none, 0, rfl, World.ownsRow_nil _ _ _ _, below_set (below_set hb (by simp) _) (by simp) _⟩
      · have HA1 := Lib.hid (any_false_take (fun r => decide (65535 < r.length)) rs k hlt HA.out (by simpa using hbig))
        have HT := Lib.hid (frames_take l rs k hlt)
        have hrb : rs[k].length ≤ 65535 := by omega
        have hml2 : m + (rs[k].length + 4) ≤ 8388608 := by
          have h1 := HM.out
          have h2 := HL.out
          have h3 := frames_le rs (k + 1)
          have h4 := congrArg List.length HT.out
          rw [List.length_append, List.length_append, frameS_len] at h4
          rw [h1]
          omega
        have HM2 : Hid (m + (rs[k].length + 4) = (l ++ ((rs.take (k + 1)).map frameS).flatten).length) := Lib.hid (by rw [HT.out, List.length_append, frameS_len, ← HM.out])
        go_wp2_with fail
        go_region_law (first
            | ((refine step_call (by rfl) 123 _ _ (by rfl) Try.func123 (by rfl) (by rfl) _ (by rfl) (frame_any _ _ rfl _ _ _ hrb (Reads.later HRK.out (by repeat (first | exact Below.refl _ _ | apply below_alloc | apply Below.drew | apply below_drewN)))) ?_; rintro e w2 ⟨A4, c4, rfl, hown4, hb4⟩; refine ⟨_, rfl, ?_⟩; have hb4' : Below wr.heap.size wr w2 := below_trans (by repeat (first | exact Below.refl _ _ | apply below_alloc | apply Below.drew | apply below_drewN)) hb4; have s0 : w2.cell? ⟨w1.heap.size, 0, none⟩ = some (.slice A2 m c2) := cell_later hb4' m0; obtain ⟨A4', c4', e4, _, _, hrd4⟩ := own_reads hown4; obtain ⟨rfl, rfl⟩ : A4 = A4' ∧ c4 = c4' := (by simpa using e4)))
            | ((refine step_append_any _ rfl (.tmp 22) (.tmp 24) _ (by rfl) w.heap.size 5 i0 _ 1 1 Try.underlying26 hi0 hz0 hz1 hz2 rfl (by omega) (.slice A2 m c2) m _ (by rfl) (own_later HO.out hb4') _ A4 (rs[k].length + 4) c4 _ (by rfl) hrd4 (one_bytes _) (by simp only [maxLen]; omega) (by omega) (Nat.le_trans hb.size hb4'.size) ?_; intro v5 w5 hown5 hg5 hat5; obtain ⟨A5, c5, rfl, _, _, _⟩ := own_reads hown5; have hne5 := own_blk_ne (own_later HO.out hb4') (hblk.later hb4') (by decide); have hblk5 := (hblk.later hb4').grown hg5 (Ne.symm hne5); have s5 : w5.cell? ⟨w1.heap.size, 0, none⟩ = some (.slice A2 m c2) := (by simpa using hblk5.cell 0); have nf5 := hblk5.frozen 0)))
        all_goals
          have hb5 : Below w.heap.size w w5 := below_grown (below_trans hb hb4') hg5 (fun k hk => ((own_later HO.out hb4').lt k hk).1)
          have hne4 := own_blk_ne (own_later HO.out hb4') (hblk4.later hb4') (by decide)
          have hb44 := (hblk4.later hb4').grown hg5 (Ne.symm hne4)
          have hne6 := own_blk_ne hown5 hblk5 (by decide)
          have hown6 := own_kept hown5 (w' := w5.setCell ⟨w1.heap.size, 0, none⟩ (.slice A5 (m + (rs[k].length + 4)) c5)) (fun g hg => Below.heap_setCell _ _ _ _ (fun e => hne6 (by rw [hg, e])))
          have HO6 := Lib.hid hown6
          have HB6 := Lib.hid (hblk5.set_ 0 (.slice A5 (m + (rs[k].length + 4)) c5))
          have HB4 := Lib.hid (hb44.far (p := ⟨w1.heap.size, 0, none⟩) (by show w.heap.size + 1 ≠ w1.heap.size; omega) (.slice A5 (m + (rs[k].length + 4)) c5))
          clear hown5 hown4 hrd4 hown6 hblk5 hb44 hblk4 hblk hat5 hg5 s0 s5 nf5
          go_wp2_with fail
          go_roundw
          case rel => exact ⟨k + 1, A5, m + (rs[k].length + 4), c5, by omega, by go_num, HA1, HM2, by simpa using HB6.out, by rw [HT.out, List.map_append]; exact HO6.out, below_set hb5 (by show _ ≤ w1.heap.size; omega) _, HB4.out⟩
          case measure => simp [intOf]; omega
    · have e : k = rs.length := by omega
      have h1 := HA.out
      have h2 := HM.out
      rw [List.take_of_length_le (by omega)] at h1 h2
      have HO2 := HO.out
      rw [List.take_of_length_le (by omega)] at HO2
      have HO3 := Lib.hid HO2
      clear e HO2
      by_cases hbig : 6000 < m
      · have hfin : q = (⟨[], 0⟩, 8) := by
          rw [← HQ.out]
          unfold appendS
          rw [if_neg (by rw [h1]; decide), if_pos (by rw [← h2]; exact hbig)]
        subst hfin
        clear h1 h2
        go_wp2_with fail
        exact bodyPost_ret (v := .tuple #[.agg #[.slice none 0 0, .int .i64 0], .int .i64 8]) (by simp [results, Try.results86, go_sem, n0, n1]) rfl
          ⟨none, 0, rfl, World.ownsRow_nil _ _ _ _, below_set (below_set hb (by simp) _) (by simp) _⟩
      · have hfin : q = (⟨l ++ (rs.map frameS).flatten, s⟩, 0) := by
          rw [← HQ.out]
          unfold appendS
          rw [if_neg (by rw [h1]; decide), if_neg (by rw [← h2]; exact hbig)]
        have HF := Lib.hid hfin
        have H2 := Lib.hid h2
        have hne4 := own_blk_ne HO.out hblk4 (by decide)
        clear h1 h2 hfin
        have hown6 := own_kept HO3.out (w' := (wr.setCell ⟨w.heap.size + 1, 0, none⟩ (.slice A2 m c2)).setCell ⟨w.heap.size + 1, 1, none⟩ (.int .i64 s)) (fun g hg => (Below.heap_setCell _ _ _ _ (fun e => hne4 (by rw [hg, e]))).trans (Below.heap_setCell _ _ _ _ (fun e => hne4 (by rw [hg, e]))))
        have HO6 := Lib.hid hown6
        clear hown6
        go_wp2_with fail
        refine bodyPost_ret (v := .tuple #[.agg #[.slice A2 m c2, .int .i64 s], .int .i64 0]) (by simp [results, Try.results86, go_sem, n0, n1]) rfl ⟨A2, c2, ?_, ?_, below_set (below_set hb (by simp) _) (by simp) _⟩
        · rw [HF.out]; simp only [← H2.out]
        · rw [HF.out]; simp only [← H2.out]; exact HO6.out
end Go.Proofs.Ythbejciebmkclaa
namespace Go.Proofs.Ythbejciebmkclaa
open Go.RowKit
set_option linter.unusedSimpArgs false
set_option linter.unusedVariables false

end Go.Proofs.Ythbejciebmkclaa
namespace Go.Proofs.Ythbejciebmkclaa.Ab
open Go Go.RowKit
set_option linter.unusedVariables false
set_option linter.unusedSimpArgs false

end Go.Proofs.Ythbejciebmkclaa.Ab
namespace Go.Proofs.Ythbejciebmkclaa.Ab
open Go
set_option linter.unusedVariables false
set_option linter.unusedSimpArgs false

section
variable {X : Cx} {ops : Array Oper} {σ : AS}
end
end Go.Proofs.Ythbejciebmkclaa.Ab
namespace Go.Proofs.Ythbejciebmkclaa.Ab
open Go Go.RowKit
set_option linter.unusedVariables false
set_option linter.unusedSimpArgs false

def keptI (id : Int) (i : LItem) : Bool := !(decide (i.id = id))
end Go.Proofs.Ythbejciebmkclaa.Ab
namespace Go.Proofs.Ythbejciebmkclaa.Ab
open Go Go.RowKit
set_option linter.unusedVariables false
set_option linter.unusedSimpArgs false

def gotQ (q : LQueue) (e : LEntry) : LQueue := { q with items := q.items ++ [⟨e.id, 0, 0, false, 0, e.note⟩] }
def goneQ (q : LQueue) (id : Int) : LQueue := { q with items := q.items.filter (keptI id) }
def applyK (h : LHall) (e : LEntry) (k : Int) : LHall :=
  if e.kind = 1 ∧ k < 0 then ⟨h.queues ++ [⟨e.queue, e.n, []⟩], h.next⟩
  else if e.kind = 2 ∧ 0 ≤ k then ⟨h.queues.eraseIdx k.toNat, h.next⟩
  else if e.kind = 3 ∧ 0 ≤ k then ⟨h.queues.set k.toNat (gotQ (qAt h k.toNat) e), if h.next < e.id + 1 then e.id + 1 else h.next⟩
  else if e.kind = 4 ∧ 0 ≤ k then ⟨h.queues.set k.toNat (goneQ (qAt h k.toNat) e.id), h.next⟩
  else h
def applyS (h : LHall) (e : LEntry) : LHall := applyK h e (findS h.queues (nmL e.queue))
end Go.Proofs.Ythbejciebmkclaa.Ab
namespace Go.Proofs.Ythbejciebmkclaa.Ab
open Go Go.RowKit
set_option linter.unusedVariables false
set_option linter.unusedSimpArgs false

end Go.Proofs.Ythbejciebmkclaa.Ab
namespace Go.Proofs.Ythbejciebmkclaa.Ab
open Go Go.RowKit
set_option linter.unusedVariables false
set_option linter.unusedSimpArgs false

section
variable {w : World} {im : Nat → Prop} {ρ : Env}
theorem rel_log {l : List UInt8} {s : Int} {v : Value} (h : Rel w im ρ (.agg [.sl 1 (l.map byteRow), .int .i64 s]) v) : ∃ A c, v = .agg #[.slice A l.length c, .int .i64 s] ∧ l.length ≤ c ∧ c ≤ maxLen ∧ RBytes w im A l := by
  obtain ⟨a, b, rfl, ⟨_, h1⟩, _, h2⟩ := rel_agg2 h
  obtain ⟨A, c, rfl, q1, q2, q3⟩ := rel_bytes h1
  exact ⟨A, c, by rw [h2.int_], q1, q2, q3⟩
end
theorem own_bytes {w w' : World} {im : Nat → Prop} {ρ : Env} {A : Option Addr} {c e : Nat} {l : List UInt8} (h : w'.ownsRow w.heap.size e 1 (.slice A l.length c) l.length (l.map byteV)) :
    Rel w' (fun b => b < w'.heap.size ∧ (im b ∨ w.heap.size ≤ b)) ρ (.sl 1 (l.map byteRow)) (.slice A l.length c) := by
  obtain ⟨A2, c2, e2, q1, q2, q3⟩ := own_reads h
  cases e2
  exact bytes_rel q1 q2 (q3.mono fun b hb => ⟨hb.2.1, .inr hb.1⟩)
theorem own_log {w w' : World} {im : Nat → Prop} {ρ : Env} {A : Option Addr} {c e : Nat} {l : List UInt8} {s : Int} (h : w'.ownsRow w.heap.size e 1 (.slice A l.length c) l.length (l.map byteV)) :
    Rel w' (fun b => b < w'.heap.size ∧ (im b ∨ w.heap.size ≤ b)) ρ (.agg [.sl 1 (l.map byteRow), .int .i64 s]) (.agg #[.slice A l.length c, .int .i64 s]) :=
  agg2_rel rfl rfl (own_bytes h) (.int _ _)

theorem con_append (l : List UInt8) (s : Int) (rs : List (List UInt8)) (hl : l.length + (rs.map frameS).flatten.length ≤ 8388608) (hr : rs.length ≤ 1048576) :
    Con Try.prog D 86 [.agg [.sl 1 (l.map byteRow), .int .i64 s], .sl 1 (rs.map recRow)] ⟨.tup [.agg [.sl 1 ((appendS ⟨l, s⟩ rs).1.bytes.map byteRow), .int .i64 (appendS ⟨l, s⟩ rs).1.sure], .int .i64 (appendS ⟨l, s⟩ rs).2], []⟩ := by
  refine con_below Try.func86 (by decide) rfl (by simp [names, namess]) fun w im ρ vs him hvs => ?_
  obtain ⟨v, u, rfl, hv, hu⟩ := rels_two hvs
  obtain ⟨A, c, rfl, h1, h2, h3⟩ := rel_log hv
  obtain ⟨A', c', rfl, h1', h2', h3'⟩ := rel_recs hu
  exact (append_any ⟨l, s⟩ rs A A' c c' w hl hr (h3.mono him) (h3'.mono him him)).mono fun e w' ⟨A1, c1, he, hown, hb⟩ => ⟨_, he, hb, tup2_rel (own_log hown) (.int _ _)⟩

/-! rows of the table -/
theorem log_inj {l m : List UInt8} {s t : Int} (h : AV.agg [.sl 1 (l.map byteRow), .int .i64 s] = AV.agg [.sl 1 (m.map byteRow), .int .i64 t]) : l = m ∧ s = t := by
  simp only [AV.agg.injEq, List.cons.injEq, AV.sl.injEq, AV.int.injEq, true_and, and_true] at h
  exact ⟨bytes_inj h.1, h.2⟩
def eAppend : Ent Try.prog D := ⟨86, (List UInt8 × Int) × List (List UInt8), fun x => [.agg [.sl 1 (x.1.1.map byteRow), .int .i64 x.1.2], .sl 1 (x.2.map recRow)], fun x => x.1.1.length + (x.2.map frameS).flatten.length ≤ 8388608 ∧ x.2.length ≤ 1048576,
  fun x => ⟨.tup [.agg [.sl 1 ((appendS ⟨x.1.1, x.1.2⟩ x.2).1.bytes.map byteRow), .int .i64 (appendS ⟨x.1.1, x.1.2⟩ x.2).1.sure], .int .i64 (appendS ⟨x.1.1, x.1.2⟩ x.2).2], []⟩, fun x y _ _ h => by
    simp only [List.cons.injEq, AV.sl.injEq, true_and, and_true] at h
    obtain ⟨h1, h2⟩ := log_inj h.1
    rw [h1, h2, recs_inj h.2], fun x h => con_append _ _ _ h.1 h.2⟩

/-! the document's Records, by what is left -/

end Go.Proofs.Ythbejciebmkclaa.Ab
namespace Go.Proofs.Ythbejciebmkclaa
set_option linter.unusedVariables false
set_option linter.unusedSimpArgs false

def flatS (X : List (List UInt8)) : List UInt8 := (X.map frameS).flatten

theorem appendS_ok {l : LLog} {rs : List (List UInt8)} (h : (appendS l rs).2 = 0) : (∀ r ∈ rs, r.length ≤ 65535) ∧ (l.bytes ++ flatS rs).length ≤ 6000 ∧ (appendS l rs).1 = ⟨l.bytes ++ flatS rs, l.sure⟩ := by
  unfold appendS at h ⊢
  split at h
  · simp at h
  · rename_i h1
    split at h
    · simp at h
    · rename_i h2
      rw [if_neg h1, if_neg h2]
      refine ⟨fun r hr => ?_, by show (l.bytes ++ (rs.map frameS).flatten).length ≤ 6000; omega, rfl⟩
      have : rs.any (fun r => decide (65535 < r.length)) = false := by simpa using h1
      have := List.any_eq_false.1 this r hr
      simpa using this
end Go.Proofs.Ythbejciebmkclaa
namespace Go.Proofs.Ythbejciebmkclaa.Ab
open Go Go.RowKit
set_option linter.unusedVariables false
set_option linter.unusedSimpArgs false

theorem info_itemT : (Try.prog.info? 50).map (fun i => (i.zero, i.size, i.bytes)) = some (some (.agg #[.int .i64 0, .string ⟨#[]⟩, .int .i64 0, .int .i64 0]), 4, 40) := by kernel_rfl
def itemZT : List Value := [.int .i64 0, .string ⟨#[]⟩, .int .i64 0, .int .i64 0]
theorem zero_itemT (w : World) : (zeroValue 50).run Try.prog w = .ok (.agg itemZT.toArray) w := by kernel_rfl
theorem zcells_itemT : (Builtin.zeroCells (Value.agg itemZT.toArray).cells 1).toList = itemZT := by kernel_rfl
set_option maxRecDepth 40000 in
set_option maxHeartbeats 1000000 in
theorem delete_callsT (rs : List (List AV)) (k : Nat) (hk : k < rs.length) (w : World) (im : Nat → Prop) (ρ : Env) (u : Value) (xs : List Value) (hown : w.ownsRow 0 50 4 u rs.length xs) (hf : FlatRel w im ρ 4 rs xs) :
    Calls Try.prog 133 #[u, .int .i64 k, .int .i64 ((k + 1 : Nat) : Int)] w (RowsPost w im ρ 50 4 u (rs.eraseIdx k)) := by
  obtain ⟨i0, hi0, hz0, hz1, hz2⟩ := info_parts info_itemT
  rcases hown.2 with ⟨_, h0⟩ | ⟨g, cap, cur, rfl, _, hg, hnc, hcm, hcs, hcx⟩
  · omega
  have hlen := hown.1
  have hcm' : cap ≤ 9223372036854775807 := by simpa [maxLen] using hcm
  have hB : Go.Proofs.Ythbejciebmkclaa.Blk w g 50 cur := hg
  have hfl := hf.one (by decide)
  generalize hnd : (cur.toList.drop ((k + 1) * 4)).take ((rs.length - (k + 1)) * 4) = news
  have hnl : news.length = (rs.length - (k + 1)) * 4 := by
    rw [← hnd, List.length_take, List.length_drop]
    have : cur.toList.length = cap * 4 := hcs
    omega
  have hng : ∀ t u, news[t]? = some u → cur[(k + 1) * 4 + t]? = some u := fun t u ht => by
    rw [← hnd, List.getElem?_take] at ht
    split at ht
    · rw [List.getElem?_drop, Array.getElem?_toList] at ht
      exact ht
    · cases ht
  have hxg : ∀ j, j < rs.length * 4 → xs[j]? = cur[j]? := fun j hj => by
    rw [← hcx, List.getElem?_take, if_pos hj, Array.getElem?_toList]
  obtain ⟨A, hA, hsrc⟩ : ∃ A : Addr, (if cap = k + 1 then some (⟨g, 0, none⟩ : Addr) else some ⟨g, (k + 1) * 4, none⟩) = some A ∧ Hid (∀ t u, news[t]? = some u → w.drew.cell? (A.add t) = some u) := by
    by_cases h : cap = k + 1
    · refine ⟨⟨g, 0, none⟩, by simp [h], fun t u hu => ?_⟩
      have h0 : news.length = 0 := by rw [hnl]; omega
      rw [List.length_eq_zero_iff.1 h0] at hu
      simp at hu
    · refine ⟨⟨g, (k + 1) * 4, none⟩, by simp [h], fun t u hu => ?_⟩
      have := hng t u hu
      rw [add_flat]
      exact hB.drew.cell _ |>.trans this
  have s1 : Hid (news.length = (rs.length - (k + 1)) * 4) := hnl
  have s2 : Hid (∀ u ∈ news, u.oneCell' = true) := by
    intro u hu
    obtain ⟨t, ht⟩ := List.getElem?_of_mem hu
    have h1 := hng t u ht
    have h2 := (List.getElem?_eq_some_iff.1 ht).1
    rw [hnl] at h2
    rw [← hxg _ (by omega)] at h1
    exact hfl u (List.mem_of_getElem? h1)
  have s3 : Hid (∀ t, t < news.length → (w.drew.cell? ⟨g, 0 + k * 4 + t, none⟩).isSome = true ∧ w.drew.frozen? ⟨g, 0 + k * 4 + t, none⟩ = false) := by
    intro t ht
    rw [hnl] at ht
    have hlt : 0 + k * 4 + t < cur.size := by rw [hcs]; omega
    refine ⟨?_, hB.drew.frozen _⟩
    rw [hB.drew.cell]
    simp only [Array.getElem?_eq_getElem hlt, Option.isSome_some]
  obtain ⟨W1, hW1⟩ : ∃ W1, W1 = w.drew.setCells g (0 + k * 4) news := ⟨_, rfl⟩
  have hB1 : Go.Proofs.Ythbejciebmkclaa.Blk W1 g 50 (putL cur (0 + k * 4) news) := by rw [hW1]; exact blk_setCells news _ hB.drew
  have hsz1 : (putL cur (0 + k * 4) news).size = cap * 4 := by rw [putL_size, hcs]
  have hm1 : k + (rs.length - (k + 1)) = rs.length - 1 := by omega
  have hcl : ∀ ty, (Builtin.clear_ #[77] ty #[.slice (some ⟨g, (k + (rs.length - (k + 1))) * 4, none⟩) (rs.length - (k + (rs.length - (k + 1)))) (cap - (k + (rs.length - (k + 1))))]).run Try.prog W1 = .ok (.tuple #[]) (W1.setCells g ((k + (rs.length - (k + 1))) * 4) itemZT) := fun ty => by
    rw [show rs.length - (k + (rs.length - (k + 1))) = 1 by omega]
    refine run_clear_one W1 _ _ ty _ itemZT Try.underlying77 zero_itemT zcells_itemT (by decide) g _ _ (fun t ht => ?_) (fun t ht => hB1.frozen _)
    have ht7 : t < 4 := ht
    rw [hB1.cell]
    have hlt : (k + (rs.length - (k + 1))) * 4 + t < (putL cur (0 + k * 4) news).size := by rw [hsz1]; omega
    simp only [Array.getElem?_eq_getElem hlt, Option.isSome_some]
  have hW : Hid (W1 = w.drew.setCells g (0 + k * 4) news) := hW1
  have HB1 := Lib.hid hB1
  have HXG := Lib.hid hxg
  have HNG := Lib.hid hng
  have HCS := Lib.hid hcs
  have HLEN := Lib.hid hlen
  have HNL := Lib.hid hnl
  have HF := Lib.hid hf
  have hic : k ≤ cap := by omega
  have hjc : k + 1 ≤ cap := by omega
  clear hW1 hB1 hsz1 hfl hxg hng hcs hcx hlen hnl hnd hf hB hg hown hm1
  generalize hn : rs.length = n at *
  have HN := Lib.hid hn
  clear hn
  have hjn : k + 1 ≤ n := by omega
  have hkj : k < k + 1 := by omega
  have HJ : Hid (∃ j, j = k + 1) := ⟨_, rfl⟩
  generalize hj : k + 1 = j at *
  have HJJ := Lib.hid hj
  clear hj hk
  go_enter Try.func133, Try.ntmps133
  go_wp2_with fail
  go_region_law (refine step_append_room rfl (.tmp 22) (.tmp 25) 77 rfl 50 i0 4 Try.underlying77 hi0 hz1 g 0 k cap (by simp [Act.eval, Act.put]) A (n - j) (cap - j) news (by simp [Act.eval, Act.put]) s1.out hsrc.out s2.out (by omega) s3.out ?_; rw [← hW.out])
  go_wp2
  go_ret
  have hj := HJJ.out
  subst hj
  have hn := HN.out
  have hcs := HCS.out
  have hlen := HLEN.out
  have hnl := HNL.out
  have hxg := HXG.out
  have hng := HNG.out
  have hlr : (rs.eraseIdx k).length = k + (n - (k + 1)) := by rw [List.length_eraseIdx, if_pos (by omega)]; omega
  refine ⟨.slice (some ⟨g, 0, none⟩) (k + (n - (k + 1))) cap, xs.take (k * 4) ++ xs.drop ((k + 1) * 4), rfl, ?_, ?_, ?_, fun b hb => .inl hb⟩
  · rw [hlr]
    refine ⟨by rw [List.length_append, List.length_take, List.length_drop, hlen]; omega, .inr ⟨g, cap, putL (putL cur (0 + k * 4) news) ((k + (n - (k + 1))) * 4) itemZT, rfl, Nat.zero_le _, blk_setCells itemZT _ HB1.out, by omega, hcm, by rw [putL_size, putL_size, hcs], ?_⟩⟩
    apply List.ext_getElem?
    intro i
    have hzl : itemZT.length = 4 := rfl
    by_cases hi : i < (k + (n - (k + 1))) * 4
    · rw [List.getElem?_take, if_pos hi, Array.getElem?_toList, putL_get _ _ _ _ (by rw [putL_size, hcs, hzl]; omega), if_neg (by omega), putL_get _ _ _ _ (by rw [hcs, hnl]; omega)]
      by_cases hik : i < k * 4
      · rw [if_neg (by omega), List.getElem?_append_left (by rw [List.length_take, hlen]; omega), List.getElem?_take, if_pos hik, hxg _ (by omega)]
      · rw [if_pos (by rw [hnl]; omega), List.getElem?_append_right (by rw [List.length_take, hlen]; omega), List.length_take, hlen, List.getElem?_drop]
        have hin : i - (0 + k * 4) < news.length := by rw [hnl]; omega
        have h1 := hng _ _ (List.getElem?_eq_getElem hin)
        rw [List.getElem?_eq_getElem hin, ← h1, ← hxg _ (by omega)]
        congr 1
        omega
    · rw [List.getElem?_eq_none (by rw [List.length_take]; omega), List.getElem?_eq_none (by rw [List.length_append, List.length_take, List.length_drop, hlen]; omega)]
  · obtain ⟨f1, f2⟩ := HF.out
    refine ⟨by rw [hlr, List.length_append, List.length_take, List.length_drop, hlen]; omega, fun i row hi => ?_⟩
    have hil : i < k + (n - (k + 1)) := by rw [← hlr]; exact (List.getElem?_eq_some_iff.1 hi).1
    rw [List.getElem?_eraseIdx] at hi
    split at hi
    · rename_i hik
      obtain ⟨f3, f4⟩ := f2 i row hi
      refine ⟨f3, fun j x hj => ?_⟩
      have hj7 : j < 4 := by rw [← f3]; exact (List.getElem?_eq_some_iff.1 hj).1
      obtain ⟨f5, v, f6, f7⟩ := f4 j x hj
      refine ⟨f5, v, ?_, f7⟩
      rw [List.getElem?_append_left (by rw [List.length_take, hlen]; omega), List.getElem?_take, if_pos (by omega)]
      exact f6
    · rename_i hik
      obtain ⟨f3, f4⟩ := f2 (i + 1) row hi
      refine ⟨f3, fun j x hj => ?_⟩
      have hj7 : j < 4 := by rw [← f3]; exact (List.getElem?_eq_some_iff.1 hj).1
      obtain ⟨f5, v, f6, f7⟩ := f4 j x hj
      refine ⟨f5, v, ?_, f7⟩
      rw [List.getElem?_append_right (by rw [List.length_take, hlen]; omega), List.length_take, hlen, List.getElem?_drop]
      rw [← f6]
      congr 1
      omega
  · refine grown_setCells itemZT _ ?_
    rw [hW.out]
    exact grown_setCells news _ ⟨rfl, rfl, rfl, Nat.le_refl _, fun _ _ _ => rfl⟩
/-- an item goes out of a slice of our own -/
def deleteMT : MCtr := fun dn f args bl => if f = 133 then
    match args with
    | [.os v, .int .i64 k, .int .i64 k'] => match bl v with
      | some (.rows e sz rs) => some { v := .os dn, kl := [v], nw := [(dn, .rows e sz (rs.eraseIdx k.toNat))], pre := (e = 50 ∧ sz = 4) ∧ (0 ≤ k ∧ k < rs.length) ∧ k' = k + 1 }
      | _ => none
    | _ => none
  else none
theorem mok_deleteT {G : Ctr} : MOk Try.prog D G deleteMT := by
  intro X hP hD hG hM hmx hT hok ops o σ e hgd he hpre hfr
  obtain ⟨dst, f, args, types, ty, pos, af, g, caps, rfl, hf, he⟩ := mEff_call he hgd
  unfold deleteMT at he
  split at he
  case isFalse => cases he
  rename_i hg91
  subst hg91
  split at he
  case h_2 => cases he
  rename_i v k k' hargs
  split at he
  case h_2 => cases he
  rename_i e0 sz rs hbl
  have hbl := snap_some hbl
  injection he with he
  subst he
  obtain ⟨⟨rfl, rfl⟩, ⟨hk0, hk1⟩, rfl⟩ := hpre
  simp only [fresh, keys, unbound, Bool.and_eq_true, Option.isNone_iff_eq_none] at hfr
  refine inl_rows (by rw [hP, hD]; exact hT) hf hargs hbl (by rw [hP]; exact Try.func133) rfl (by decide) hfr.1.1 (fun j hj => ?_) (fun w im ρ u vs xs h1 h2 h3 h4 h5 => ?_)
  · have := hfr.2
    rw [hj] at this
    simpa using this
  · obtain ⟨h6, h7⟩ := h4
    match vs, h6 with
    | [y, z], _ =>
      have hy := (h7 0 _ y rfl rfl).int_
      have hz := (h7 1 _ z rfl rfl).int_
      obtain ⟨k, rfl⟩ := Int.eq_ofNat_of_zero_le hk0
      rw [hy, hz, hP]
      exact delete_callsT rs k (by omega) w im ρ u xs h1 h2
end Go.Proofs.Ythbejciebmkclaa.Ab
