/-
  Texts of the proof, one behind the other: StoreA StoreB StoreC Rec Dt DfI JoA JoB St SPlain.
  No condition but those that each theorem names.
-/
import Derived.Test.YthbejciebmkclaaChecked
import Derived.Test.YthbejciebmkclaaGA
import Derived.Deep.RegionLaw
import Derived.Test.YthbejciebmkclaaGC
import Derived.Test.YthbejciebmkclaaGI
import Derived.Test.YthbejciebmkclaaGQ
import Derived.Test.YthbejciebmkclaaGJ
namespace Go.Proofs.Ythbejciebmkclaa
open Go.RowKit
set_option linter.unusedSimpArgs false
set_option linter.unusedVariables false

theorem sum_any (l : List UInt8) (n : Nat) (hn : n = l.length) (A : Option Addr) (c : Nat) (w : World) (hl : l.length ≤ 16777216) (hr : RBytes w (· < w.heap.size) A l) :
    Calls Try.prog 116 #[.slice A n c] w fun e w' => e = .returned (.int .i64 (sumS l)) ∧ w = w' := by
  subst hn
  have HC := Lib.hid hr
  clear hr
  go_enter Try.func116, Try.ntmps116
  go_wp2
  go_loop [3, 5, 8] (fun s _ i => ∃ k : Nat, k ≤ l.length ∧ i = .int .i64 k ∧ s = .int .i64 (sumS (l.take k))) (fun _ _ i => l.length - (intOf i).toNat)
  case atStart => exact ⟨0, Nat.zero_le _, rfl, rfl⟩
  case round =>
    obtain ⟨k, hk, rfl, rfl⟩ := hrel
    by_cases hlt : k < l.length
    · obtain ⟨b, o, rfl, _, hc⟩ := HC.out.at_ (by omega)
      have h1 := hc k hlt
      have h2 := sumS_lt (l.take k)
      have h3 : l[k].toNat < 256 := UInt8.toNat_lt _
      have h4 : sumS (l.take (k+1)) = (sumS (l.take k) * 33 + l[k].toNat + 1) % 65521 := by
        rw [List.take_succ_eq_append_getElem hlt, sumS_snoc]
      have H4 := Lib.hid h4
      clear h4 hc
      go_wp2
      go_round
      case rel => exact ⟨k + 1, by omega, by go_num, by rw [H4.out]; go_num⟩
      case measure => simp [intOf]; omega
    · go_wp2
      go_ret
      exact ⟨ret_int (by rw [List.take_of_length_le (by omega)]), rfl⟩

/-- a header's two bytes, as the walk has them -/
theorem two_lit (n : Nat) (hn : n < 65536) : [Value.int .u8 ((n : Int) / 256), .int .u8 ((n : Int) % 256)] = [byteOf (n / 256), byteOf n].map byteV := by
  simp only [byteOf, List.map_cons, List.map_nil, byteV_of]
  rw [Nat.mod_eq_of_lt (show n / 256 < 256 by omega)]
  simp
theorem Reads.of_eq {w : World} {S : Nat → Prop} {size n m : Nat} {A : Option Addr} {xs ys : List Value} (h : Reads w S size A n xs) (e1 : n = m) (e2 : xs = ys) : Reads w S size A m ys := by subst e1 e2; exact h
theorem own_of_eq {w : World} {base e size n m : Nat} {v : Value} {xs ys : List Value} (h : w.ownsRow base e size v n xs) (e1 : n = m) (e2 : xs = ys) : w.ownsRow base e size v m ys := by subst e1 e2; exact h

theorem frame_any (l : List UInt8) (n : Nat) (hn : n = l.length) (A : Option Addr) (c : Nat) (w : World) (hl : l.length ≤ 65535) (hr : RBytes w (· < w.heap.size) A l) :
    Calls Try.prog 123 #[.slice A n c] w fun e w' => ∃ A1 c1, e = .returned (.slice A1 (l.length + 4) c1) ∧ w'.ownsRow w.heap.size 5 1 (.slice A1 (l.length + 4) c1) (l.length + 4) ((frameS l).map byteV) ∧ Below w.heap.size w w' := by
  subst hn
  obtain ⟨i0, hi0, hz0, hz1, hz2⟩ := info_parts info_u8
  have HR := Lib.hid hr
  clear hr
  have hs := sumS_lt (byteOf (l.length / 256) :: byteOf l.length :: l)
  have HF : Hid (frameS l = ([byteOf (l.length / 256), byteOf l.length] ++ l) ++ [byteOf (sumS (byteOf (l.length / 256) :: byteOf l.length :: l) / 256), byteOf (sumS (byteOf (l.length / 256) :: byteOf l.length :: l))]) := Lib.hid rfl
  generalize hq : sumS (byteOf (l.length / 256) :: byteOf l.length :: l) = q at *
  have HQ := Lib.hid hq
  clear hq
  go_enter Try.func123, Try.ntmps123
  go_wp2_with (at_builtin; refine wpList_append_any _ rfl (.tmp 12) (.tmp 13) _ rfl w.heap.size 5 i0 _ 1 1 Try.underlying26 hi0 hz0 hz1 hz2 rfl (by omega) (.slice (some ⟨w.heap.size, 0, none⟩) 2 2) 2 _ rfl (own_lit _ _ _ _ _ rfl (by simp only [maxLen]; omega)) (· < w.heap.size) A l.length c _ rfl (Reads.keep HR.out (Kept.below (below_alloc (Below.refl _ _) _) (fun _ h => h))) (one_bytes _) (by simp only [maxLen]; omega) (by omega) (by simp) ?_; intro v1 w1 hown1 hg1 hat1; obtain ⟨A1, c1, rfl, hc11, hc12, hr1⟩ := own_reads hown1)
  have hb1 : Below w.heap.size w w1 := below_grown (below_alloc (Below.refl _ _) _) hg1 (by simp [Value.ownBlock])
  have e1 := two_lit l.length (by omega)
  have r1 : RBytes w1 (· < w1.heap.size) A1 ([byteOf (l.length / 256), byteOf l.length] ++ l) := (hr1.mono fun b h => h.2.1).of_eq (by simp; omega) (by rw [List.map_append, ← e1])
  have HO := Lib.hid (own_of_eq hown1 rfl (show _ = ([byteOf (l.length / 256), byteOf l.length] ++ l).map byteV by rw [List.map_append, ← e1]))
  have hlt1 := hown1.lt
  clear hown1 hg1 hat1 hr1 e1
  refine (sum_any _ _ (by simp; omega) _ _ _ (by simp; omega) r1).mono ?_
  rw [show sumS ([byteOf (l.length / 256), byteOf l.length] ++ l) = q from HQ.out]
  rintro e w2 ⟨rfl, rfl⟩
  clear r1
  go_wp2_with (at_builtin; refine wpList_append_any _ rfl (.tmp 17) (.tmp 23) _ rfl w.heap.size 5 i0 _ 1 1 Try.underlying26 hi0 hz0 hz1 hz2 rfl (by omega) (.slice A1 (2 + l.length) c1) (2 + l.length) _ rfl (HO.out.alloc _) (· = w1.heap.size) (some ⟨w1.heap.size, 0, none⟩) 2 2 _ rfl (reads_lit _ _ _ _ 2 rfl) (by rw [two_lit q (by omega)]; exact one_bytes _) (by simp only [maxLen]; omega) (by omega) (by have := hb1.size; simp; omega) ?_; intro v2 w2 hown2 hg2 hat2; obtain ⟨A2, c2, rfl, hc21, hc22, hr2⟩ := own_reads hown2)
  go_ret
  rw [two_lit q (by omega), ← List.map_append, ← HF.out, show 2 + l.length + 2 = l.length + 4 from by omega] at hown2
  exact ⟨A2, c2, by simp; omega, hown2, below_grown (below_alloc hb1 _) hg2 (fun k hk => (hlt1 k hk).1)⟩

/-- store.Own: a copy -/
theorem logown_any (a : LLog) (A : Option Addr) (n : Nat) (hn : n = a.bytes.length) (c : Nat) (w : World) (hl : a.bytes.length ≤ 8388608) (hr : RBytes w (· < w.heap.size) A a.bytes) :
    Calls Try.prog 122 #[.agg #[.slice A n c, .int .i64 a.sure]] w fun e w' => ∃ A1 c1, e = .returned (.agg #[.slice A1 a.bytes.length c1, .int .i64 a.sure]) ∧
      w'.ownsRow w.heap.size 5 1 (.slice A1 a.bytes.length c1) a.bytes.length (a.bytes.map byteV) ∧ Below w.heap.size w w' := by
  subst hn
  obtain ⟨l, s⟩ := a
  simp only at hl hr ⊢
  have HR := Lib.hid hr
  clear hr
  go_enter Try.func122, Try.ntmps122
  go_wp2_with fail
  go_region_held3 (fun w' => w'.cell? ⟨w.heap.size, 0, none⟩ = some (.slice A l.length c) ∧ w'.cell? ⟨w.heap.size, 1, none⟩ = some (.int .i64 s)) (first | (refine ⟨?_, ?_⟩ <;> assumption) | go_keep)
    (first
      | (go_at_call 117; refine (clone_bytes _ _ rfl _ _ _ (by omega) (Reads.later HR.out (by repeat (first | exact Below.refl _ _ | apply below_alloc | apply Below.drew | apply below_drewN)))).mono ?_; rintro e w1 ⟨A1, c1, rfl, hown1, hb1⟩; have s0 : w1.cell? ⟨w.heap.size, 0, none⟩ = some (.slice A l.length c) := cell_later hb1 (by first | (simp; done) | assumption); have s1 : w1.cell? ⟨w.heap.size, 1, none⟩ = some (.int .i64 s) := cell_later hb1 (by first | (simp; done) | assumption); obtain ⟨hc1, hf1⟩ := bcell hb1; have hz1 : w.heap.size + 1 < w1.heap.size := by (have := hb1.size; simp at this; omega)))
  go_wp2_with fail
  have q1 := own_set (own_set hown1 (a := ⟨w.heap.size + 1, 0, none⟩) (by simp) (.slice A1 l.length c1)) (a := ⟨w.heap.size + 1, 1, none⟩) (by simp) (.int .i64 s)
  have hb9 : Below w.heap.size w w1 := below_trans (by repeat (first | exact Below.refl _ _ | apply below_alloc | apply Below.drew | apply below_drewN)) hb1
  refine bodyPost_ret (v := .agg #[.slice A1 l.length c1, .int .i64 s]) (by simp [results, Try.results122, go_sem, hc1, hz1]) rfl ⟨A1, c1, rfl, own_mono q1 (by simp; omega), below_set (below_set hb9 (by simp) _) (by simp) _⟩

end Go.Proofs.Ythbejciebmkclaa
namespace Go.Proofs.Ythbejciebmkclaa
open Go.RowKit
set_option linter.unusedSimpArgs false
set_option linter.unusedVariables false

theorem frames_take (l : List UInt8) (rs : List (List UInt8)) (k : Nat) (hk : k < rs.length) : l ++ ((rs.take (k + 1)).map frameS).flatten = (l ++ ((rs.take k).map frameS).flatten) ++ frameS rs[k] := by
  rw [List.take_succ_eq_append_getElem hk, List.map_append, List.flatten_append, List.append_assoc]
  simp
theorem frames_le (rs : List (List UInt8)) : ∀ k, ((rs.take k).map frameS).flatten.length ≤ (rs.map frameS).flatten.length := by
  intro k
  have h := congrArg (fun l => (List.map frameS l).flatten.length) (List.take_append_drop k rs)
  simp only [List.map_append, List.flatten_append, List.length_append] at h
  omega
theorem any_false_take {α : Type} (p : α → Bool) (l : List α) (k : Nat) (hk : k < l.length) (h : (l.take k).any p = false) (hp : p l[k] = false) : (l.take (k + 1)).any p = false := by
  rw [List.take_succ_eq_append_getElem hk, List.any_append, h]
  simp [hp]

set_option maxRecDepth 20000 in
set_option maxHeartbeats 1000000 in
theorem append_any (a : LLog) (rs : List (List UInt8)) (A A' : Option Addr) (c c' : Nat) (w : World) (hl : a.bytes.length + (rs.map frameS).flatten.length ≤ 8388608) (hrl : rs.length ≤ 1048576) (hr : RBytes w (· < w.heap.size) A a.bytes) (hr' : RRecs w (· < w.heap.size) (· < w.heap.size) A' rs) :
    Calls Try.prog 86 #[.agg #[.slice A a.bytes.length c, .int .i64 a.sure], .slice A' rs.length c'] w fun e w' => ∃ A1 c1, e = .returned (.tuple #[.agg #[.slice A1 (appendS a rs).1.bytes.length c1, .int .i64 (appendS a rs).1.sure], .int .i64 (appendS a rs).2]) ∧
      w'.ownsRow w.heap.size 5 1 (.slice A1 (appendS a rs).1.bytes.length c1) (appendS a rs).1.bytes.length ((appendS a rs).1.bytes.map byteV) ∧ Below w.heap.size w w' := by
  obtain ⟨i0, hi0, hz0, hz1, hz2⟩ := info_parts info_u8
  obtain ⟨l, s⟩ := a
  simp only at hl hr ⊢
  have HR := Lib.hid hr
  have HR' := Lib.hid hr'
  have HL := Lib.hid hl
  have hl1 : l.length ≤ 8388608 := by omega
  generalize hq : appendS ⟨l, s⟩ rs = q
  have HQ := Lib.hid hq
  clear hr hr' hl hq
  go_enter Try.func86, Try.ntmps86
  go_wp2_with (go_at_call 122; refine (logown_any ⟨l, s⟩ _ _ rfl _ _ hl1 (Reads.later HR.out (by repeat (first | exact Below.refl _ _ | apply below_alloc | apply Below.drew | apply below_drewN)))).mono ?_; rintro e w1 ⟨A1, c1, rfl, hown1, hb1⟩; obtain ⟨hc1, hf1⟩ := bcell hb1; have hz1' : w.heap.size + 1 < w1.heap.size := by (have := hb1.size; simp at this; omega))
  have hg6 : w.heap.size + 1 < w1.heap.size := by have := hb1.size; simp at this; omega
  have hb9 : Below w.heap.size w w1 := below_trans (by repeat (first | exact Below.refl _ _ | apply below_alloc | apply Below.drew | apply below_drewN)) hb1
  have hblk4 : Blk w1 (w.heap.size + 1) 32 #[.slice none 0 0, .int .i64 0] := Blk.below (Blk.new_at (w.alloc (.cells #[.slice A l.length c, .int .i64 s] 32)) 32 #[.slice none 0 0, .int .i64 0] (by simp)) hb1 (by simp)
  go_loopw [13] (fun i wr => ∃ (k : Nat) (A2 : Option Addr) (m c2 : Nat), k ≤ rs.length ∧ i = .int .i64 k ∧ Hid ((rs.take k).any (fun r => decide (65535 < r.length)) = false) ∧ Hid (m = (l ++ ((rs.take k).map frameS).flatten).length) ∧
      Blk wr w1.heap.size 32 #[.slice A2 m c2, .int .i64 s] ∧ wr.ownsRow w.heap.size 5 1 (.slice A2 m c2) m ((l ++ ((rs.take k).map frameS).flatten).map byteV) ∧
      Below w.heap.size w wr ∧ Blk wr (w.heap.size + 1) 32 #[.slice none 0 0, .int .i64 0]) (fun i _ => rs.length - (intOf i).toNat)
  case atStart => exact ⟨0, A1, l.length, c1, Nat.zero_le _, rfl, Lib.hid rfl, Lib.hid (by simp), Blk.new _ _ _, by simpa using (own_mono hown1 (by simp; omega)).alloc _, below_alloc hb9 _, hblk4.alloc _⟩
  case round =>
    clear hc1 hf1 hown1 hb1 hblk4 hz1'
    obtain ⟨k, A2, m, c2, hk, rfl, HA, HM, hblk, hown, hb, hblk4⟩ := hrel
    have hg := hblk.lt
    have m0 := hblk.cell 0
    have m1 := hblk.cell 1
    have mf := hblk.frozen 0
    have n0 := hblk4.cell 0
    have n1 := hblk4.cell 1
    have nf0 := hblk4.frozen 0
    have nf1 := hblk4.frozen 1
    simp at m0 m1 n0 n1
    have HO := Lib.hid hown
    clear hown
    have hml : m ≤ 8388608 := by
      have h1 := HM.out
      have h2 := HL.out
      have h3 := frames_le rs k
      rw [h1, List.length_append]
      omega
    by_cases hlt : k < rs.length
    · obtain ⟨b, o, rfl, hS, hcc⟩ := HR'.out.at_ (by omega)
      obtain ⟨A3, c3, f0, hrk, _, _⟩ := hcc k hlt
      have hS' : b < w.heap.size := hS
      have f0' : wr.cell? ⟨b, o + k, none⟩ = some (.slice A3 rs[k].length c3) := (hb.cell hS').trans f0
      have HRK := Lib.hid (Reads.later hrk hb)
      clear f0 hrk hcc
      by_cases hbig : 65535 < rs[k].length
      · have hfin : q = (⟨[], 0⟩, 4) := by
          rw [← HQ.out]
          unfold appendS
          rw [if_pos (List.any_eq_true.2 ⟨rs[k], List.getElem_mem hlt, by simpa using hbig⟩)]
        subst hfin
        go_wp2_with fail
        exact bodyPost_ret (v := .tuple #[.agg #[.slice none 0 0, .int .i64 0], .int .i64 4]) (by simp [results, Try.results86, go_sem, n0, n1]) rfl
          ⟨none, 0, rfl, World.ownsRow_nil _ _ _ _, below_set (below_set hb (by simp) _) (by simp) _⟩
      · have HA1 := Lib.hid (any_false_take (fun r => decide (65535 < r.length)) rs k hlt HA.out (by simpa using hbig))
        have HT := Lib.hid (frames_take l rs k hlt)
        have hrb : rs[k].length ≤ 65535 := by omega
        have hml2 : m + (rs[k].length + 4) ≤ 8388608 := by
          have h1 := HM.out
          have h2 := HL.out
          have h3 := frames_le rs (k + 1)
          have h4 := congrArg List.length HT.out
          rw [List.length_append, List.length_append, frameS_len] at h4
          rw [h1]
          omega
        have HM2 : Hid (m + (rs[k].length + 4) = (l ++ ((rs.take (k + 1)).map frameS).flatten).length) := Lib.hid (by rw [HT.out, List.length_append, frameS_len, ← HM.out])
        go_wp2_with fail
        go_region_law (first
            | ((refine step_call (by rfl) 123 _ _ (by rfl) Try.func123 (by rfl) (by rfl) _ (by rfl) (frame_any _ _ rfl _ _ _ hrb (Reads.later HRK.out (by repeat (first | exact Below.refl _ _ | apply below_alloc | apply Below.drew | apply below_drewN)))) ?_; rintro e w2 ⟨A4, c4, rfl, hown4, hb4⟩; refine ⟨_, rfl, ?_⟩; have hb4' : Below wr.heap.size wr w2 := below_trans (by repeat (first | exact Below.refl _ _ | apply below_alloc | apply Below.drew | apply below_drewN)) hb4; have s0 : w2.cell? ⟨w1.heap.size, 0, none⟩ = some (.slice A2 m c2) := cell_later hb4' m0; obtain ⟨A4', c4', e4, _, _, hrd4⟩ := own_reads hown4; obtain ⟨rfl, rfl⟩ : A4 = A4' ∧ c4 = c4' := (by simpa using e4)))
            | ((refine step_append_any _ rfl (.tmp 22) (.tmp 24) _ (by rfl) w.heap.size 5 i0 _ 1 1 Try.underlying26 hi0 hz0 hz1 hz2 rfl (by omega) (.slice A2 m c2) m _ (by rfl) (own_later HO.out hb4') _ A4 (rs[k].length + 4) c4 _ (by rfl) hrd4 (one_bytes _) (by simp only [maxLen]; omega) (by omega) (Nat.le_trans hb.size hb4'.size) ?_; intro v5 w5 hown5 hg5 hat5; obtain ⟨A5, c5, rfl, _, _, _⟩ := own_reads hown5; have hne5 := own_blk_ne (own_later HO.out hb4') (hblk.later hb4') (by decide); have hblk5 := (hblk.later hb4').grown hg5 (Ne.symm hne5); have s5 : w5.cell? ⟨w1.heap.size, 0, none⟩ = some (.slice A2 m c2) := (by simpa using hblk5.cell 0); have nf5 := hblk5.frozen 0)))
        all_goals
          have hb5 : Below w.heap.size w w5 := below_grown (below_trans hb hb4') hg5 (fun k hk => ((own_later HO.out hb4').lt k hk).1)
          have hne4 := own_blk_ne (own_later HO.out hb4') (hblk4.later hb4') (by decide)
          have hb44 := (hblk4.later hb4').grown hg5 (Ne.symm hne4)
          have hne6 := own_blk_ne hown5 hblk5 (by decide)
          have hown6 := own_kept hown5 (w' := w5.setCell ⟨w1.heap.size, 0, none⟩ (.slice A5 (m + (rs[k].length + 4)) c5)) (fun g hg => Below.heap_setCell _ _ _ _ (fun e => hne6 (by rw [hg, e])))
          have HO6 := Lib.hid hown6
          have HB6 := Lib.hid (hblk5.set_ 0 (.slice A5 (m + (rs[k].length + 4)) c5))
          have HB4 := Lib.hid (hb44.far (p := ⟨w1.heap.size, 0, none⟩) (by show w.heap.size + 1 ≠ w1.heap.size; omega) (.slice A5 (m + (rs[k].length + 4)) c5))
          clear hown5 hown4 hrd4 hown6 hblk5 hb44 hblk4 hblk hat5 hg5 s0 s5 nf5
          go_wp2_with fail
          go_roundw
          case rel => exact ⟨k + 1, A5, m + (rs[k].length + 4), c5, by omega, by go_num, HA1, HM2, by simpa using HB6.out, by rw [HT.out, List.map_append]; exact HO6.out, below_set hb5 (by show _ ≤ w1.heap.size; omega) _, HB4.out⟩
          case measure => simp [intOf]; omega
    · have e : k = rs.length := by omega
      have h1 := HA.out
      have h2 := HM.out
      rw [List.take_of_length_le (by omega)] at h1 h2
      have HO2 := HO.out
      rw [List.take_of_length_le (by omega)] at HO2
      have HO3 := Lib.hid HO2
      clear e HO2
      by_cases hbig : 6000 < m
      · have hfin : q = (⟨[], 0⟩, 8) := by
          rw [← HQ.out]
          unfold appendS
          rw [if_neg (by rw [h1]; decide), if_pos (by rw [← h2]; exact hbig)]
        subst hfin
        clear h1 h2
        go_wp2_with fail
        exact bodyPost_ret (v := .tuple #[.agg #[.slice none 0 0, .int .i64 0], .int .i64 8]) (by simp [results, Try.results86, go_sem, n0, n1]) rfl
          ⟨none, 0, rfl, World.ownsRow_nil _ _ _ _, below_set (below_set hb (by simp) _) (by simp) _⟩
      · have hfin : q = (⟨l ++ (rs.map frameS).flatten, s⟩, 0) := by
          rw [← HQ.out]
          unfold appendS
          rw [if_neg (by rw [h1]; decide), if_neg (by rw [← h2]; exact hbig)]
        have HF := Lib.hid hfin
        have H2 := Lib.hid h2
        have hne4 := own_blk_ne HO.out hblk4 (by decide)
        clear h1 h2 hfin
        have hown6 := own_kept HO3.out (w' := (wr.setCell ⟨w.heap.size + 1, 0, none⟩ (.slice A2 m c2)).setCell ⟨w.heap.size + 1, 1, none⟩ (.int .i64 s)) (fun g hg => (Below.heap_setCell _ _ _ _ (fun e => hne4 (by rw [hg, e]))).trans (Below.heap_setCell _ _ _ _ (fun e => hne4 (by rw [hg, e]))))
        have HO6 := Lib.hid hown6
        clear hown6
        go_wp2_with fail
        refine bodyPost_ret (v := .tuple #[.agg #[.slice A2 m c2, .int .i64 s], .int .i64 0]) (by simp [results, Try.results86, go_sem, n0, n1]) rfl ⟨A2, c2, ?_, ?_, below_set (below_set hb (by simp) _) (by simp) _⟩
        · rw [HF.out]; simp only [← H2.out]
        · rw [HF.out]; simp only [← H2.out]; exact HO6.out
end Go.Proofs.Ythbejciebmkclaa
namespace Go.Proofs.Ythbejciebmkclaa
open Go.RowKit
set_option linter.unusedSimpArgs false
set_option linter.unusedVariables false

theorem or_byte (x y : Nat) (hx : x < 65536) (hy : y < 256) : bits .or .i64 ((x : Int) * 256) (y : Int) = ((256 * x + y : Nat) : Int) := by
  have e : (x : Int) * 256 = ((x * 256 : Nat) : Int) := by omega
  rw [e]
  show IntKind.i64.wrap ((BitVec.ofInt 64 ((x * 256 : Nat) : Int) ||| BitVec.ofInt 64 (y : Int)).toNat : Int) = _
  rw [BitVec.toNat_or, ofInt_u64 _ (by omega), ofInt_u64 y (by omega), nat_join8 _ _ (by omega) hy, IntWalk.i64_in _ (by omega)]
  omega

end Go.Proofs.Ythbejciebmkclaa
namespace Go.Proofs.Ythbejciebmkclaa.Ab
open Go Go.RowKit
set_option linter.unusedVariables false
set_option linter.unusedSimpArgs false

theorem con_sum (l : List UInt8) (hl : l.length ≤ 16777216) : Con Try.prog D 116 [.sl 1 (l.map byteRow)] ⟨.int .i64 (sumS l), []⟩ := by
  refine con_below Try.func116 (by decide) rfl (by simp [names]) fun w im ρ vs him hvs => ?_
  obtain ⟨v, rfl, hv⟩ := rels_one hvs
  obtain ⟨A, c, rfl, h1, h2, h3⟩ := rel_bytes hv
  refine (sum_any l _ rfl A c w hl (h3.mono him)).mono fun e w' ⟨he, hw⟩ => ⟨_, he, ?_, .int _ _⟩
  subst hw
  exact Below.refl _ _
theorem con_clone (l : List UInt8) (hl : l.length ≤ 8388608) : Con Try.prog D 117 [.sl 1 (l.map byteRow)] ⟨.sl 1 (l.map byteRow), []⟩ := by
  refine con_below Try.func117 (by decide) rfl (by simp [names]) fun w im ρ vs him hvs => ?_
  obtain ⟨v, rfl, hv⟩ := rels_one hvs
  obtain ⟨A, c, rfl, h1, h2, h3⟩ := rel_bytes hv
  refine (clone_bytes l _ rfl A c w hl (h3.mono him)).mono fun e w' ⟨A1, c1, he, hown, hb⟩ => ⟨_, he, hb, ?_⟩
  obtain ⟨A2, c2, e2, q1, q2, q3⟩ := own_reads hown
  cases e2
  exact bytes_rel q1 q2 (q3.mono fun b hb => ⟨hb.2.1, .inr hb.1⟩)

def entSum : Ent Try.prog D := ⟨116, List UInt8, fun l => [.sl 1 (l.map byteRow)], fun l => l.length ≤ 16777216, fun l => ⟨.int .i64 (sumS l), []⟩, fun x y _ _ h => by
  simp only [List.cons.injEq, AV.sl.injEq, true_and, and_true] at h
  rw [bytes_inj h], con_sum⟩
def entClone : Ent Try.prog D := ⟨117, List UInt8, fun l => [.sl 1 (l.map byteRow)], fun l => l.length ≤ 8388608, fun l => ⟨.sl 1 (l.map byteRow), []⟩, fun x y _ _ h => by
  simp only [List.cons.injEq, AV.sl.injEq, true_and, and_true] at h
  rw [bytes_inj h], con_clone⟩

theorem orBytes (x y : UInt8) : orI .i64 (shlI .i64 (x.toNat : Int) 8) (y.toNat : Int) = ((256 * x.toNat + y.toNat : Nat) : Int) := by
  have hx := x.toNat_lt
  have hy := y.toNat_lt
  rw [shl8, show IntKind.wrap .i64 ((x.toNat : Int) * 256) = (x.toNat : Int) * 256 from wrap64 (by omega) (by omega)]
  exact or_byte x.toNat y.toNat (by omega) (by omega)
theorem con_records (l : List UInt8) (hl : l.length ≤ 8388608) : Con Try.prog D 73 [.sl 1 (l.map byteRow)] ⟨.tup [.sl 1 ((recsS l).1.map recRow), .int .i64 (recsS l).2], []⟩ := by
  have g1 : ∀ m : List UInt8, m.length ≤ 8388608 → tabG [entSum, entClone] 116 [.sl 1 (m.map byteRow)] = some ⟨.int .i64 (sumS m), []⟩ := fun m hm => tabG_hit rfl m (show m.length ≤ 16777216 by omega) rfl rfl
  have g2 : ∀ m : List UInt8, m.length ≤ 8388608 → tabG [entSum, entClone] 117 [.sl 1 (m.map byteRow)] = some ⟨.sl 1 (m.map byteRow), []⟩ := fun m hm => tabG_skip (by decide) (tabG_hit rfl m hm rfl rfl)
  generalize hG : tabG [entSum, entClone] = G at g1 g2
  have hok : GOk Try.prog D G := by rw [← hG]; exact tabG_ok _
  refine con_of (G := G) (rs := [(2, none), (3, none)]) mixed tok hok Try.func73 rfl (by decide) Try.results73 (by decide) rfl Try.ntmps73 (by simp) (by simp [namess, names]) fun X hP hD hG' hX => evC_sound hX (fun _ => {}) _ _ _ ?_
  simp only [argS, num]
  simp (disch := ((try simp only [List.length_drop, List.length_take, List.length_append, List.length_cons, List.length_nil, List.length_map]); omega)) only [go_sem, Nat.reduceLeDiff, reduceCtorEq, Nat.reduceAdd, Nat.reduceSub, Nat.reduceMul, Nat.reduceLT, Nat.reduceEqDiff, Int.reduceEq, Int.reduceLE, Int.reduceLT, Int.reducePow, Int.reduceMul, Int.reduceToNat, Int.reduceNeg, ↓reduceIte, ← List.map_take, ← List.map_drop, hD, hG']
  refine Tr.loop (ι := Nat × List (List UInt8)) (fun i => (i.1 ≤ l.length ∧ i.2.length ≤ i.1) ∧ recsS l = (i.2 ++ (recsS (l.drop i.1)).1, i.1 + (recsS (l.drop i.1)).2))
    (fun i => { nt := 79, tm := [(0, .sl 1 (l.map byteRow)), (4, .os 5000), (5, .int .i64 i.1)], bl := [(5000, some (.rows 26 1 (i.2.map recRow)))] }) (fun i => l.length - i.1) (0, [])
    ⟨⟨⟨by simp, by simp⟩, by simp⟩, wk_of hD [] rfl rfl (by simp only [freeze_nil, freeze_cons, mapT, mapB, mapL, gone, fz, fzs, plain, rowsAt, List.cons_append, List.nil_append, covT, covB, covBlk, cov, covs, keys, get, blk, jn, subs, mem, names, namess, Option.map_some, Option.map_none, Option.getD_some, Option.getD_none, resS, resT, resT.resT', ownS, Nat.reduceEqDiff, ↓reduceIte, if_true, if_false, and_true, true_and, and_self, Nat.reduceAdd, List.map_cons, List.map_nil, ite_true, ite_false, reduceCtorEq]; simp) (by simp only [freeze_nil, freeze_cons, mapT, mapB, mapL, gone, fz, fzs, plain, rowsAt, List.cons_append, List.nil_append, covT, covB, covBlk, cov, covs, keys, get, blk, jn, subs, mem, names, namess, Option.map_some, Option.map_none, Option.getD_some, Option.getD_none, resS, resT, resT.resT', ownS, Nat.reduceEqDiff, ↓reduceIte, if_true, if_false, and_true, true_and, and_self, Nat.reduceAdd, List.map_cons, List.map_nil, ite_true, ite_false, reduceCtorEq, D_3, D_5, D_26, D_106]; simp)⟩ ?_
  rintro ⟨k, done⟩ ⟨⟨hk, hdl⟩, hrec⟩
  simp only at hk hdl hrec
  refine evC_sound hX (fun _ => {}) _ _ _ ?_
  simp (disch := ((try simp only [List.length_drop, List.length_take, List.length_append, List.length_cons, List.length_nil, List.length_map]); omega)) only [go_sem, Nat.reduceLeDiff, reduceCtorEq, Nat.reduceAdd, Nat.reduceSub, Nat.reduceMul, Nat.reduceLT, Nat.reduceEqDiff, Int.reduceEq, Int.reduceLE, Int.reduceLT, Int.reducePow, Int.reduceMul, Int.reduceToNat, Int.reduceNeg, ↓reduceIte, ← List.map_take, ← List.map_drop, hD, hG', wrap64]
  refine condK_split (fun h => ?_) (fun h => ?_)
  · rw [decide_eq_true_eq] at h
    simp (disch := ((try simp only [List.length_drop, List.length_take, List.length_append, List.length_cons, List.length_nil, List.length_map]); omega)) only [go_sem, Nat.reduceLeDiff, reduceCtorEq, Nat.reduceAdd, Nat.reduceSub, Nat.reduceMul, Nat.reduceLT, Nat.reduceEqDiff, Int.reduceEq, Int.reduceLE, Int.reduceLT, Int.reducePow, Int.reduceMul, Int.reduceToNat, Int.reduceNeg, ↓reduceIte, ← List.map_take, ← List.map_drop, hD, hG', wrap64, wrap_byte, byteGet, Int.toNat_add, orBytes]
    refine ⟨by decide, by omega, by omega, ?_⟩
    have hb0 := (l.getD k 0).toNat_lt
    have hb1 := (l.getD (k + 1) 0).toNat_lt
    have hhd : headS (l.drop k) = 256 * (l.getD k 0).toNat + (l.getD (k + 1) 0).toNat := by simp [headS]
    have hn : 256 * (l.getD k 0).toNat + (l.getD (k + 1) 0).toNat < 65536 := by omega
    generalize 256 * (l.getD k 0).toNat + (l.getD (k + 1) 0).toNat = n at hhd hn
    simp (disch := omega) only [wrap64]
    refine condK_split (fun h2 => ?_) (fun h2 => ?_)
    · rw [decide_eq_true_eq] at h2
      simp (disch := ((try simp only [List.length_drop, List.length_take, List.length_append, List.length_cons, List.length_nil, List.length_map]); omega)) only [go_sem, Nat.reduceLeDiff, reduceCtorEq, Nat.reduceAdd, Nat.reduceSub, Nat.reduceMul, Nat.reduceLT, Nat.reduceEqDiff, Int.reduceEq, Int.reduceLE, Int.reduceLT, Int.reducePow, Int.reduceMul, Int.reduceToNat, Int.reduceNeg, ↓reduceIte, ← List.map_take, ← List.map_drop, hD, hG', wrap64, unbox, Option.some.injEq, exists_eq_left']
      have hno : okS (l.drop k) = false := by simp [okS, hhd]; omega
      refine ⟨[5000], [], rfl, rfl, ?_, ?_⟩
      · simp only [freeze_nil, freeze_cons, mapT, mapB, mapL, gone, fz, fzs, plain, rowsAt, List.cons_append, List.nil_append, covT, covB, covBlk, cov, covs, keys, get, blk, jn, subs, mem, names, namess, Option.map_some, Option.map_none, Option.getD_some, Option.getD_none, resS, resT, resT.resT', ownS, Nat.reduceEqDiff, ↓reduceIte, if_true, if_false, and_true, true_and, and_self, Nat.reduceAdd, List.map_cons, List.map_nil, ite_true, ite_false, reduceCtorEq]
        rw [hrec, recsS_no hno]
        simp
      · simp only [freeze_nil, freeze_cons, mapT, mapB, mapL, gone, fz, fzs, plain, rowsAt, List.cons_append, List.nil_append, covT, covB, covBlk, cov, covs, keys, get, blk, jn, subs, mem, names, namess, Option.map_some, Option.map_none, Option.getD_some, Option.getD_none, resS, resT, resT.resT', ownS, Nat.reduceEqDiff, ↓reduceIte, if_true, if_false, and_true, true_and, and_self, Nat.reduceAdd, List.map_cons, List.map_nil, ite_true, ite_false, reduceCtorEq]
    · rw [decide_eq_false_iff_not] at h2
      simp (disch := ((try simp only [List.length_drop, List.length_take, List.length_append, List.length_cons, List.length_nil, List.length_map]); omega)) only [go_sem, Nat.reduceLeDiff, reduceCtorEq, Nat.reduceAdd, Nat.reduceSub, Nat.reduceMul, Nat.reduceLT, Nat.reduceEqDiff, Int.reduceEq, Int.reduceLE, Int.reduceLT, Int.reducePow, Int.reduceMul, Int.reduceToNat, Int.reduceNeg, ↓reduceIte, ← List.map_take, ← List.map_drop, hD, hG', wrap64, wrap_byte, byteGet, Int.toNat_add, orBytes, g1]
      ((try and_intros); all_goals (try first | omega | decide | (simp; done) | (simp only [List.length_append, List.length_cons, List.length_nil, List.length_map]; omega)))
      have hb2 := (l.getD (k + 2 + n) 0).toNat_lt
      have hb3 := (l.getD (k + 3 + n) 0).toNat_lt
      have htk : List.drop k (List.take (k + 2 + n) l) = (l.drop k).take (n + 2) := by rw [List.drop_take]; congr 1; omega
      have hkk : okS (l.drop k) = decide (sumS (List.drop k (List.take (k + 2 + n) l)) = 256 * (l.getD (k + 2 + n) 0).toNat + (l.getD (k + 3 + n) 0).toNat) := by
        have e1 : k + (n + 2) = k + 2 + n := by omega
        have e2 : k + (n + 3) = k + 3 + n := by omega
        have h1 : 4 ≤ l.length - k := by omega
        have h2' : n + 4 ≤ l.length - k := by omega
        rw [htk]
        simp [okS, hhd, e1, e2, h1, h2']
      refine condK_split (fun h3 => ?_) (fun h3 => ?_)
      · simp (disch := ((try simp only [List.length_drop, List.length_take, List.length_append, List.length_cons, List.length_nil, List.length_map]); omega)) only [go_sem, Nat.reduceLeDiff, reduceCtorEq, Nat.reduceAdd, Nat.reduceSub, Nat.reduceMul, Nat.reduceLT, Nat.reduceEqDiff, Int.reduceEq, Int.reduceLE, Int.reduceLT, Int.reducePow, Int.reduceMul, Int.reduceToNat, Int.reduceNeg, ↓reduceIte, ← List.map_take, ← List.map_drop, hD, hG', wrap64, unbox, Option.some.injEq, exists_eq_left']
        have hno : okS (l.drop k) = false := by
          rw [hkk]
          rw [bne_iff_ne] at h3
          exact decide_eq_false fun e => h3 (by rw [e])
        refine ⟨[5000], [], rfl, rfl, ?_, ?_⟩
        · simp only [freeze_nil, freeze_cons, mapT, mapB, mapL, gone, fz, fzs, plain, rowsAt, List.cons_append, List.nil_append, covT, covB, covBlk, cov, covs, keys, get, blk, jn, subs, mem, names, namess, Option.map_some, Option.map_none, Option.getD_some, Option.getD_none, resS, resT, resT.resT', ownS, Nat.reduceEqDiff, ↓reduceIte, if_true, if_false, and_true, true_and, and_self, Nat.reduceAdd, List.map_cons, List.map_nil, ite_true, ite_false, reduceCtorEq]
          rw [hrec, recsS_no hno]
          simp
        · simp only [freeze_nil, freeze_cons, mapT, mapB, mapL, gone, fz, fzs, plain, rowsAt, List.cons_append, List.nil_append, covT, covB, covBlk, cov, covs, keys, get, blk, jn, subs, mem, names, namess, Option.map_some, Option.map_none, Option.getD_some, Option.getD_none, resS, resT, resT.resT', ownS, Nat.reduceEqDiff, ↓reduceIte, if_true, if_false, and_true, true_and, and_self, Nat.reduceAdd, List.map_cons, List.map_nil, ite_true, ite_false, reduceCtorEq]
      · simp (disch := ((try simp only [List.length_drop, List.length_take, List.length_append, List.length_cons, List.length_nil, List.length_map]); omega)) only [go_sem, Nat.reduceLeDiff, reduceCtorEq, Nat.reduceAdd, Nat.reduceSub, Nat.reduceMul, Nat.reduceLT, Nat.reduceEqDiff, Int.reduceEq, Int.reduceLE, Int.reduceLT, Int.reducePow, Int.reduceMul, Int.reduceToNat, Int.reduceNeg, ↓reduceIte, ← List.map_take, ← List.map_drop, hD, hG', wrap64, wrap_byte, byteGet, Int.toNat_add, orBytes, g1, g2]
        ((try and_intros); all_goals (try first | omega | decide | (simp; done) | (simp only [List.length_append, List.length_cons, List.length_nil, List.length_map]; omega)))
        have hyes : okS (l.drop k) = true := by
          rw [hkk]
          rw [bne_eq_false_iff_eq] at h3
          exact decide_eq_true (by exact_mod_cast h3)
        have hlast : List.drop (k + 2) (List.take (k + 2 + n) l) = ((l.drop k).take (n + 2)).drop 2 := by
          rw [← htk, List.drop_drop]
        refine ⟨(k + (4 + n), done ++ [((l.drop k).take (n + 2)).drop 2]), ⟨⟨⟨by simp only; omega, by simp; omega⟩, ?_⟩, by simp only; omega⟩, wk_of hD [(5000, 72)] rfl rfl ?_ ?_⟩
        · rw [hrec, recsS_yes hyes, hhd, List.drop_drop]
          have e3 : k + (n + 4) = k + (4 + n) := by omega
          rw [e3]
          simp only [List.append_assoc, List.cons_append, List.nil_append, Prod.mk.injEq, true_and]
          omega
        · simp only [freeze_nil, freeze_cons, mapT, mapB, mapL, gone, fz, fzs, plain, rowsAt, List.cons_append, List.nil_append, covT, covB, covBlk, cov, covs, keys, get, blk, jn, subs, mem, names, namess, Option.map_some, Option.map_none, Option.getD_some, Option.getD_none, resS, resT, resT.resT', ownS, Nat.reduceEqDiff, ↓reduceIte, if_true, if_false, and_true, true_and, and_self, Nat.reduceAdd, List.map_cons, List.map_nil, ite_true, ite_false, reduceCtorEq]
          simp
        · simp only [freeze_nil, freeze_cons, mapT, mapB, mapL, gone, fz, fzs, plain, rowsAt, List.cons_append, List.nil_append, covT, covB, covBlk, cov, covs, keys, get, blk, jn, subs, mem, names, namess, Option.map_some, Option.map_none, Option.getD_some, Option.getD_none, resS, resT, resT.resT', ownS, Nat.reduceEqDiff, ↓reduceIte, if_true, if_false, and_true, true_and, and_self, Nat.reduceAdd, List.map_cons, List.map_nil, ite_true, ite_false, reduceCtorEq]
          rw [hlast]
          simp [recRow]
  · rw [decide_eq_false_iff_not] at h
    simp (disch := ((try simp only [List.length_drop, List.length_take, List.length_append, List.length_cons, List.length_nil, List.length_map]); omega)) only [go_sem, Nat.reduceLeDiff, reduceCtorEq, Nat.reduceAdd, Nat.reduceSub, Nat.reduceMul, Nat.reduceLT, Nat.reduceEqDiff, Int.reduceEq, Int.reduceLE, Int.reduceLT, Int.reducePow, Int.reduceMul, Int.reduceToNat, Int.reduceNeg, ↓reduceIte, ← List.map_take, ← List.map_drop, hD, hG', wrap64, unbox, Option.some.injEq, exists_eq_left']
    refine ⟨[5000], [], rfl, rfl, ?_, ?_⟩
    · simp only [freeze_nil, freeze_cons, mapT, mapB, mapL, gone, fz, fzs, plain, rowsAt, List.cons_append, List.nil_append, covT, covB, covBlk, cov, covs, keys, get, blk, jn, subs, mem, names, namess, Option.map_some, Option.map_none, Option.getD_some, Option.getD_none, resS, resT, resT.resT', ownS, Nat.reduceEqDiff, ↓reduceIte, if_true, if_false, and_true, true_and, and_self, Nat.reduceAdd, List.map_cons, List.map_nil, ite_true, ite_false, reduceCtorEq]
      have hno : okS (l.drop k) = false := by simp [okS]; omega
      rw [hrec, recsS_no hno]
      simp
    · simp only [freeze_nil, freeze_cons, mapT, mapB, mapL, gone, fz, fzs, plain, rowsAt, List.cons_append, List.nil_append, covT, covB, covBlk, cov, covs, keys, get, blk, jn, subs, mem, names, namess, Option.map_some, Option.map_none, Option.getD_some, Option.getD_none, resS, resT, resT.resT', ownS, Nat.reduceEqDiff, ↓reduceIte, if_true, if_false, and_true, true_and, and_self, Nat.reduceAdd, List.map_cons, List.map_nil, ite_true, ite_false, reduceCtorEq]
end Go.Proofs.Ythbejciebmkclaa.Ab
namespace Go.Proofs.Ythbejciebmkclaa.Ab
open Go
set_option linter.unusedVariables false
set_option linter.unusedSimpArgs false

section
variable {X : Cx} {ops : Array Oper} {σ : AS}
theorem inl_trunc {R : AS → Prop} {d T v m k el e sz : Nat} {rs : List (List AV)} {x y : Operand} {ty : Nat} {pos : String} {af : Array Edge} (hT : TOk X.P X.D) (hk : (X.D T).k = .slice el) (hx : ev σ x = .os v) (hy : ev σ y = .int .i64 k)
    (hb : blk σ v = some (.rows e sz rs)) (hpos : 0 < rs.length) (hl : k ≤ rs.length) (hsz : sz = (X.D el).n) (hd : d < σ.nt) (hm : blk σ m = none)
    (h : R { nt := σ.nt, tm := (d, .os m) :: (kill σ [v]).tm, bl := (m, some (.rows e sz (rs.take k))) :: (kill σ [v]).bl }) : InlOp X ops ⟨some d, .slice T x none (some y) none, ty, pos, af, none⟩ σ R := by
  refine ⟨fun γ a w i Qx hi ⟨ρ, hs⟩ => ?_⟩
  obtain ⟨hu, hne, hpz⟩ := ty_slice hT hk
  have hvx := (hs.ev x).1
  have hvy := (hs.ev y).1
  rw [hx] at hvx
  rw [hy] at hvy
  have hvy := hvy.int_
  have hB := hs.hp.blk v _ hb
  obtain ⟨g1, g2, g3, A, c, g4, g5, g6, g7⟩ := hB
  rcases g7 with ⟨rfl, _⟩ | ⟨b, arr, g8, rfl, g10, g11, g14⟩
  · simp at hpos
  have hvx' : a.eval x = .slice (some ⟨b, 0, none⟩) rs.length c := by
    rw [← g4]
    generalize a.eval x = u at hvx
    cases hvx
    rfl
  have hvm : v ≠ m := by rintro rfl; rw [hm] at hb; cases hb
  have hlen : (rs.take k).length = k := by simp; omega
  refine wpOp_plain hi rfl ?_
  have hex : execOp a.eval ⟨some d, .slice T x none (some y) none, ty, pos, af, none⟩ = (do pure (.value (← Instr.sliceAt T (a.eval x) none (some (a.eval y)) none))) := rfl
  have hrun := slice_run (P := X.P) (w := w) T el (some ⟨b, 0, none⟩) rs.length c 0 k (X.D el).n none (some (.int .i64 k)) hu (ty_size hT hne w) (.inl ⟨rfl, rfl⟩) (.inr ⟨_, rfl⟩) (by omega) (by omega)
  rw [if_neg (by omega)] at hrun
  have hA0 : (some (⟨b, 0, none⟩ : Addr)).map (·.add (0 * (X.D el).n)) = some ⟨b, 0, none⟩ := by simp [Addr.add]
  rw [hA0, Nat.sub_zero, Nat.sub_zero] at hrun
  let ρ' : Env := fun n => if n = m then ⟨some b, some ⟨b, 0, none⟩, k, c, sz, fun _ => none⟩ else ρ n
  have em : ρ' m = ⟨some b, some ⟨b, 0, none⟩, k, c, sz, fun _ => none⟩ := if_pos rfl
  have eo : ∀ n, n ≠ m → ρ' n = ρ n := fun n q => if_neg q
  have hne' : ∀ n, (blk σ n).isSome = true → n ≠ m := by rintro n hn rfl; rw [hm] at hn; cases hn
  have hget : ∀ n y, get n ([(m, Blk.rows e sz (rs.take k))] ++ []) = some y → n = m ∧ y = .rows e sz (rs.take k) := fun n y h => by
    simp only [List.append_nil, get] at h
    split at h
    · rename_i q; cases h; exact ⟨q.symm, rfl⟩
    · cases h
  have hst := hs.rearr (ρ' := ρ') (ks := [v]) (nw := [(m, .rows e sz (rs.take k))]) (up := []) (fun n hn _ => Core.of_eq (eo n (hne' n hn))) (fun n hn _ _ _ => eo n (hne' n hn)) (fun n hn => by simp [keys] at hn; subst hn; exact hm)
    (fun n y b' hy hbn => by
      obtain ⟨rfl, rfl⟩ := hget n y hy
      have hbn : (ρ' n).b = some b' := hbn
      rw [em] at hbn
      cases hbn
      exact ⟨v, _, hb, owns_b g8, .inl (by simp)⟩)
    (fun n n' y z b' hy hz _ _ => by rw [(hget n y hy).1, (hget n' z hz).1])
    (fun im' him himn n y hy => by
      obtain ⟨rfl, rfl⟩ := hget n y hy
      refine ⟨by rw [em], g2, g3, some ⟨b, 0, none⟩, c, by rw [em, hlen]; rfl, by rw [hlen]; omega, g6, .inr ⟨b, arr, by rw [em], rfl, g10, g11, fun i row hi => ?_⟩⟩
      rw [List.getElem?_take] at hi
      split at hi
      · refine ⟨(g14 i row hi).1, fun j x hj => ?_⟩
        obtain ⟨q1, u, q2, q3, q4⟩ := (g14 i row hi).2 j x hj
        exact ⟨q1, u, q2, q3, q4.mono him (fun _ _ => rfl) fun m hm => by rw [q1] at hm; cases hm⟩
      · cases hi)
    (fun n y hy k' hk' => by
      obtain ⟨rfl, rfl⟩ := hget n y hy
      cases hk')
    (fun n hn => by simp [keys] at hn)
  have hbm : blk (stepS σ [v] [(m, .rows e sz (rs.take k))] []) m = some (.rows e sz (rs.take k)) := by rw [blk_step]; simp [get]
  have hfin := hst.put (d := d) (x := .os m) (v := .slice (some ⟨b, 0, none⟩) k c) hd (by
    have := @Rel.os w (imOf X.S X.N0 X.B w ρ' (blk (stepS σ [v] [(m, .rows e sz (rs.take k))] []))) ρ' m
    rw [em] at this
    exact this) (fun n hn => by
      simp [names] at hn
      subst hn
      rw [hbm]; rfl)
  exact wp_of_value hex (w' := w) (by rw [hvx', hvy]; exact hrun) ⟨_, h, ρ', hfin⟩
end
end Go.Proofs.Ythbejciebmkclaa.Ab
namespace Go.Proofs.Ythbejciebmkclaa.Ab
open Go Go.RowKit
set_option linter.unusedVariables false
set_option linter.unusedSimpArgs false

def keptI (id : Int) (i : LItem) : Bool := !(decide (i.id = id))
def keptP (id : Int) (l : List LItem) (j : Nat) : List LItem := (l.take j).filter (keptI id)
theorem keptP_succ {id : Int} {l : List LItem} {j : Nat} (h : j < l.length) : keptP id l (j + 1) = keptP id l j ++ (if (l.getD j item0).id = id then [] else [l.getD j item0]) := by
  unfold keptP
  rw [take_item h, List.filter_append]
  by_cases hx : (l.getD j item0).id = id
  · rw [if_pos hx]; simp only [List.filter, keptI, hx, decide_true, Bool.not_true]
  · rw [if_neg hx]; simp only [List.filter, keptI, hx, decide_false, Bool.not_false]
theorem keptP_all {id : Int} {l : List LItem} {i : Nat} (h : ∀ j, j < i → (l.getD j item0).id ≠ id) : i ≤ l.length → keptP id l i = l.take i := by
  induction i with
  | zero => exact fun _ => rfl
  | succ i ih =>
    intro hi
    rw [keptP_succ (by omega), if_neg (h i (by omega)), ih (fun j hj => h j (by omega)) (by omega), take_item (by omega)]
set_option maxRecDepth 100000 in
set_option maxHeartbeats 2000000 in
theorem pc_df (items : List LItem) (e : LEntry) (hl : items.length ≤ 1048576) : PC Try.prog D 83 [.os 60000, .func 84 [.iptr (entryRow e)]] [(60000, .rows 65 7 (items.map itemRow))] (.os 1) [(1, .rows 65 7 ((items.filter (keptI e.id)).map itemRow))] := by
  have hok : GOk Try.prog D (tabG []) := tabG_ok _
  have gn : ∀ f a, tabG ([] : List (Ent Try.prog D)) f a = none := fun f a => rfl
  generalize tabG [] = G at *
  have hcon : ∀ r, r = items.filter (keptI e.id) → PC Try.prog D 83 [.os 60000, .func 84 [.iptr (entryRow e)]] [(60000, .rows 65 7 (items.map itemRow))] (.os 1) [(1, .rows 65 7 (r.map itemRow))] := by
    intro r hr
    obtain ⟨ek, eq, en, ei, ⟨ep, eb⟩⟩ := e
    simp only [entryRow] at hr ⊢
    generalize hq : eq.data.toList = qs at *
    generalize hp : ep.map propRow = ps at *
    generalize hb : eb.map byteRow = bs at *
    refine pc_of (G := G) (rs := [(4, none)]) MOk.none mixed tok hok [] Try.func83 rfl (by decide) Try.results83 (by decide) rfl (by decide) Try.ntmps83 (by simp) (by simp [namess, names, keys])
      (closB_of (by simp)) (ndB_of (by simp [nd])) (ndB_of (by simp [nd])) (by simp) (by simp [keys]) fun X hP hD hG' hX => evC_sound hX (fun id => match id with | 11 => {hand := true} | 12 => {hand := true} | _ => {}) _ _ _ ?_
    simp only [argP, num, pinT, here]
    simp (disch := omega) only [go_sem, Nat.reduceLeDiff, reduceCtorEq, Nat.reduceAdd, Nat.reduceSub, Nat.reduceMul, Nat.reduceLT, Nat.reduceEqDiff, Int.reduceEq, Int.reduceLE, Int.reduceLT, Int.reducePow, Int.reduceMul, Int.reduceToNat, Int.reduceNeg, ↓reduceIte, hD, hG', wrap64, gn, asked_none, List.append_nil]
    refine inl_call (rs := [(4, none)]) hX.types rfl (by show X.P.funcs[_]? = _; rw [hP]; exact Try.func121) rfl (by decide) Try.results121 (by decide) Try.ntmps121 (by simp) (by simp) 140000 noM ?_
    have hX2 := inl_ok hX 140000 MOk.none
    refine evC_sound hX2 (fun _ => {}) _ _ _ ?_
    rw [hD.1, hG'] at hX2
    simp (disch := omega) only [go_sem, Nat.reduceLeDiff, reduceCtorEq, Nat.reduceAdd, Nat.reduceSub, Nat.reduceMul, Nat.reduceLT, Nat.reduceEqDiff, Int.reduceEq, Int.reduceLE, Int.reduceLT, Int.reducePow, Int.reduceMul, Int.reduceToNat, Int.reduceNeg, ↓reduceIte, hD, hG', wrap64, gn, asked_none, enterS, leaveS, shT, unT, resA, num, unbox, Option.some.injEq, exists_eq_left', tmv]
    have hD2 : ({ P := X.P, D := D, G := G, S := X.S, N0 := X.N0, B := X.B, w0 := X.w0, nb := 140000, M := noM } : Cx).D = D ∧ True := ⟨rfl, trivial⟩
    refine Tr.loop (ι := Nat) (fun i => i ≤ items.length ∧ ∀ j, j < i → (items.getD j item0).id ≠ ei) (fun i => { nt := 19, tm := [(0, .os 60000), (1, .func 84 [.iptr [.int .i64 ek, .str qs, .int .i64 en, .int .i64 ei, .sl 4 ps, .sl 1 bs]]), (7, .int .i64 items.length), (8, .int .i64 i), (65536, .os 60000), (65537, .func 84 [.iptr [.int .i64 ek, .str qs, .int .i64 en, .int .i64 ei, .sl 4 ps, .sl 1 bs]])], bl := [(60000, some (.rows 65 7 (items.map itemRow)))] }) (fun i => items.length - i) 0
      ⟨⟨Nat.zero_le _, fun j hj => absurd hj (Nat.not_lt_zero j)⟩, wk_of hD2 [(60000, 60000)] rfl rfl (by simp only [go_sem, Nat.reduceEqDiff]; simp) (by simp only [go_sem, Nat.reduceEqDiff])⟩ ?_
    rintro i ⟨hi, hnot⟩
    refine evC_sound hX2 (fun _ => {}) _ _ _ ?_
    simp (disch := omega) only [go_sem, Nat.reduceLeDiff, reduceCtorEq, Nat.reduceAdd, Nat.reduceSub, Nat.reduceMul, Nat.reduceLT, Nat.reduceEqDiff, Int.reduceEq, Int.reduceLE, Int.reduceLT, Int.reducePow, Int.reduceMul, Int.reduceToNat, Int.reduceNeg, ↓reduceIte, hD, hG', wrap64, gn, asked_none]
    refine condK_split (fun h => ?_) (fun h => ?_)
    · rw [decide_eq_true_eq] at h
      have hi1 : i < items.length := by omega
      have hgx := itemGet hi1
      generalize hx : items.getD i item0 = x at *
      obtain ⟨a1, a2, a3, a4, a5, ⟨xp, xb⟩⟩ := x
      simp only [itemRow] at hgx
      simp (disch := omega) only [go_sem, Nat.reduceLeDiff, reduceCtorEq, Nat.reduceAdd, Nat.reduceSub, Nat.reduceMul, Nat.reduceLT, Nat.reduceEqDiff, Int.reduceEq, Int.reduceLE, Int.reduceLT, Int.reducePow, Int.reduceMul, Int.reduceToNat, Int.reduceNeg, ↓reduceIte, hD, hG', wrap64, gn, asked_none, hgx]
      refine ⟨by omega, inl_call (rs := [(3, none)]) hX2.types rfl (by show X.P.funcs[_]? = _; rw [hP]; exact Try.func84) rfl (by decide) Try.results84 (by decide) Try.ntmps84 (by simp) (by simp) 210000 noM ?_⟩
      have hX3 := inl_ok hX2 210000 MOk.none
      refine evC_sound hX3 (fun _ => {}) _ _ _ ?_
      by_cases hid : a1 = ei
      · have hb1 : (a1 == ei) = true := by simpa using hid
        have hm1 : ((i : Int) == -1) = false := by simp
        simp (disch := omega) only [go_sem, Nat.reduceLeDiff, reduceCtorEq, Nat.reduceAdd, Nat.reduceSub, Nat.reduceMul, Nat.reduceLT, Nat.reduceEqDiff, Int.reduceEq, Int.reduceLE, Int.reduceLT, Int.reducePow, Int.reduceMul, Int.reduceToNat, Int.reduceNeg, ↓reduceIte, hD, hG', wrap64, gn, asked_none, enterS, leaveS, shT, unT, resA, num, unbox, Option.some.injEq, exists_eq_left', tmv, hm1, hb1]
        have hk1 : keptP ei items (i + 1) = items.take i := by rw [keptP_succ hi1, hx, if_pos hid, List.append_nil, keptP_all hnot hi]
        have hkl : (keptP ei items (i + 1)).length = i := by rw [hk1, List.length_take]; omega
        refine Tr.loop (ι := Nat × List LItem) (fun p => (p.1 ≤ items.length ∧ (keptP ei items p.1).length < p.1) ∧ (p.2.length = items.length ∧ p.2.take (keptP ei items p.1).length = keptP ei items p.1) ∧ ∀ m, p.1 ≤ m → p.2.getD m item0 = items.getD m item0) (fun p => { nt := 42, tm := [(0, .os 60000), (1, .func 84 [.iptr [.int .i64 ek, .str qs, .int .i64 en, .int .i64 ei, .sl 4 ps, .sl 1 bs]]), (5, .int .i64 (keptP ei items p.1).length), (6, .int .i64 p.1)], bl := [(60000, some (.rows 65 7 (p.2.map itemRow)))] }) (fun p => items.length - p.1) (i + 1, items)
          ⟨?_, wk_of hD [(60000, 60000)] rfl rfl ?_ ?_⟩ ?_
        · exact ⟨⟨hi1, by show (keptP ei items (i + 1)).length < i + 1; omega⟩, ⟨rfl, by show items.take (keptP ei items (i + 1)).length = keptP ei items (i + 1); rw [hkl, hk1]⟩, fun m _ => rfl⟩
        · simp only [go_sem, Nat.reduceEqDiff, hkl]
          simp
        · simp only [go_sem, Nat.reduceEqDiff]
        rintro ⟨j, l⟩ ⟨⟨hj1, hj2⟩, ⟨hj3, hj4⟩, hj5⟩
        simp only at hj1 hj2 hj3 hj4 hj5
        have hkj : (keptP ei items j).length ≤ 1048576 := by omega
        refine evC_sound hX (fun id => match id with | 11 => {hand := true} | 12 => {hand := true} | _ => {}) _ _ _ ?_
        simp (disch := omega) only [go_sem, Nat.reduceLeDiff, reduceCtorEq, Nat.reduceAdd, Nat.reduceSub, Nat.reduceMul, Nat.reduceLT, Nat.reduceEqDiff, Int.reduceEq, Int.reduceLE, Int.reduceLT, Int.reducePow, Int.reduceMul, Int.reduceToNat, Int.reduceNeg, ↓reduceIte, hD, hG', wrap64, gn, asked_none]
        refine condK_split (fun h => ?_) (fun h => ?_)
        · rw [decide_eq_true_eq] at h
          have hji : j < items.length := by omega
          have hjl : j < l.length := by omega
          have hgx := itemGet hjl
          have hgy := itemGet (l := l) (i := (keptP ei items j).length) (by omega)
          have hks := keptP_succ (id := ei) hji
          rw [hj5 j (Nat.le_refl j)] at hgx
          generalize hy : l.getD (keptP ei items j).length item0 = y at *
          generalize hx : items.getD j item0 = x at *
          obtain ⟨a1, a2, a3, a4, a5, ⟨xp, xb⟩⟩ := x
          obtain ⟨b1, b2, b3, b4, b5, ⟨yp, yb⟩⟩ := y
          simp only [itemRow] at hgx hgy
          simp only at hks
          simp (disch := omega) only [go_sem, Nat.reduceLeDiff, reduceCtorEq, Nat.reduceAdd, Nat.reduceSub, Nat.reduceMul, Nat.reduceLT, Nat.reduceEqDiff, Int.reduceEq, Int.reduceLE, Int.reduceLT, Int.reducePow, Int.reduceMul, Int.reduceToNat, Int.reduceNeg, ↓reduceIte, hD, hG', wrap64, gn, asked_none, hgx]
          refine ⟨by omega, inl_call (rs := [(3, none)]) hX.types rfl (by show X.P.funcs[_]? = _; rw [hP]; exact Try.func84) rfl (by decide) Try.results84 (by decide) Try.ntmps84 (by simp) (by simp) 280000 noM ?_⟩
          have hX4 := inl_ok hX 280000 MOk.none
          refine evC_sound hX4 (fun _ => {}) _ _ _ ?_
          by_cases hid2 : a1 = ei
          · have hb2 : (a1 == ei) = true := by simpa using hid2
            simp (disch := omega) only [go_sem, Nat.reduceLeDiff, reduceCtorEq, Nat.reduceAdd, Nat.reduceSub, Nat.reduceMul, Nat.reduceLT, Nat.reduceEqDiff, Int.reduceEq, Int.reduceLE, Int.reduceLT, Int.reducePow, Int.reduceMul, Int.reduceToNat, Int.reduceNeg, ↓reduceIte, hD, hG', wrap64, gn, asked_none, enterS, leaveS, shT, unT, resA, num, unbox, Option.some.injEq, exists_eq_left', tmv, hb2]
            rw [if_pos hid2, List.append_nil] at hks
            refine ⟨(j + 1, l), ⟨⟨⟨hji, by show (keptP ei items (j + 1)).length < j + 1; rw [hks]; omega⟩, ⟨hj3, by show l.take (keptP ei items (j + 1)).length = keptP ei items (j + 1); rw [hks]; exact hj4⟩, fun m hm => hj5 m (by simp only at hm; omega)⟩, by simp only; omega⟩, wk_of hD [(60000, 60000)] rfl rfl ?_ ?_⟩
            all_goals simp only [go_sem, Nat.reduceEqDiff, hks]
            all_goals simp
          · have hb2 : (a1 == ei) = false := by simpa using hid2
            simp (disch := omega) only [go_sem, Nat.reduceLeDiff, reduceCtorEq, Nat.reduceAdd, Nat.reduceSub, Nat.reduceMul, Nat.reduceLT, Nat.reduceEqDiff, Int.reduceEq, Int.reduceLE, Int.reduceLT, Int.reducePow, Int.reduceMul, Int.reduceToNat, Int.reduceNeg, ↓reduceIte, hD, hG', wrap64, gn, asked_none, enterS, leaveS, shT, unT, resA, num, unbox, Option.some.injEq, exists_eq_left', tmv, hb2, hgy]
            rw [if_neg hid2] at hks
            have hkl : (keptP ei items j).length < l.length := by omega
            refine ⟨by omega, hkl, (j + 1, l.set (keptP ei items j).length ⟨a1, a2, a3, a4, a5, ⟨xp, xb⟩⟩), ⟨⟨⟨hji, by show (keptP ei items (j + 1)).length < j + 1; rw [hks, List.length_append, List.length_singleton]; omega⟩, ⟨by simpa using hj3, by show List.take (keptP ei items (j + 1)).length (l.set _ _) = keptP ei items (j + 1); rw [hks, List.length_append, List.length_singleton, set_take hkl, hj4]⟩, fun m hm => by simp only at hm ⊢; rw [set_far (by omega)]; exact hj5 m (by omega)⟩, by simp only; omega⟩, wk_of hD [(60000, 60000)] rfl rfl ?_ ?_⟩
            all_goals simp only [go_sem, Nat.reduceEqDiff, hks]
            all_goals simp [itemRow]
        · rw [decide_eq_false_iff_not] at h
          have hie : j = items.length := by omega
          subst hie
          simp (disch := omega) only [go_sem, Nat.reduceLeDiff, reduceCtorEq, Nat.reduceAdd, Nat.reduceSub, Nat.reduceMul, Nat.reduceLT, Nat.reduceEqDiff, Int.reduceEq, Int.reduceLE, Int.reduceLT, Int.reducePow, Int.reduceMul, Int.reduceToNat, Int.reduceNeg, ↓reduceIte, hD, hG', wrap64, gn, asked_none, enterS, leaveS, shT, unT, resA, num, unbox, Option.some.injEq, exists_eq_left', tmv]
          have hka : keptP ei items items.length = items.filter (keptI ei) := by unfold keptP; rw [List.take_length]
          rw [hka] at hj2 hj4 ⊢
          generalize hkp : (items.filter (keptI ei)).length = k at hj2 hj4 ⊢
          refine Tr.inl hX [2, 3] ?_
          simp (disch := omega) only [go_sem, Nat.reduceLeDiff, reduceCtorEq, Nat.reduceAdd, Nat.reduceSub, Nat.reduceMul, Nat.reduceLT, Nat.reduceEqDiff, Int.reduceEq, Int.reduceLE, Int.reduceLT, Int.reducePow, Int.reduceMul, Int.reduceToNat, Int.reduceNeg, ↓reduceIte, hD, hG', wrap64, regI_cons, regI_nil, gn, asked_none, enterS, leaveS, shT, unT, resA, num, unbox, Option.some.injEq, exists_eq_left', tmv]
          refine inl_tail (v := 60000) (l := k) (el := 65) (rs := l.map itemRow) hX.types (by rw [hD.1]; rfl) (by rfl) (by rfl) (by rfl) (by rw [List.length_map]; omega) (by rw [hD.1]; rfl) (by simp) ?_
          simp (disch := omega) only [go_sem, Nat.reduceLeDiff, reduceCtorEq, Nat.reduceAdd, Nat.reduceSub, Nat.reduceMul, Nat.reduceLT, Nat.reduceEqDiff, Int.reduceEq, Int.reduceLE, Int.reduceLT, Int.reducePow, Int.reduceMul, Int.reduceToNat, Int.reduceNeg, ↓reduceIte, hD, hG', wrap64, regI_cons, regI_nil, gn, asked_none, enterS, leaveS, shT, unT, resA, num, unbox, Option.some.injEq, exists_eq_left', tmv]
          refine inl_clear (v := 60000) (l := k) (el := 65) (rs := l.map itemRow) hX.types (by rw [hD.1]; rfl) (by rfl) (by rfl) (by rw [List.length_map]; omega) ?_
          have hrs : (l.map itemRow).take k = (items.filter (keptI ei)).map itemRow := by rw [← List.map_take, hj4]
          rw [hrs]
          generalize hR : List.replicate _ _ = R
          have hkm : k = ((items.filter (keptI ei)).map itemRow).length := by rw [List.length_map, hkp]
          have htk : ((items.filter (keptI ei)).map itemRow ++ R).take k = (items.filter (keptI ei)).map itemRow := by rw [hkm]; simp
          have hln : k ≤ ((items.filter (keptI ei)).map itemRow ++ R).length := by rw [List.length_append, ← hkm]; omega
          have hlp : 0 < ((items.filter (keptI ei)).map itemRow ++ R).length := by
            have hRl : R.length = l.length - k := by rw [← hR]; simp
            rw [List.length_append, ← hkm, hRl]
            have : 0 < items.length := by omega
            omega
          generalize (items.filter (keptI ei)).map itemRow ++ R = R2 at htk hln hlp ⊢
          simp (disch := omega) only [go_sem, Nat.reduceLeDiff, reduceCtorEq, Nat.reduceAdd, Nat.reduceSub, Nat.reduceMul, Nat.reduceLT, Nat.reduceEqDiff, Int.reduceEq, Int.reduceLE, Int.reduceLT, Int.reducePow, Int.reduceMul, Int.reduceToNat, Int.reduceNeg, ↓reduceIte, hD, hG', wrap64, regI_cons, regI_nil, gn, asked_none, enterS, leaveS, shT, unT, resA, num, unbox, Option.some.injEq, exists_eq_left', tmv]
          refine Tr.inl hX [2] ?_
          simp (disch := omega) only [go_sem, Nat.reduceLeDiff, reduceCtorEq, Nat.reduceAdd, Nat.reduceSub, Nat.reduceMul, Nat.reduceLT, Nat.reduceEqDiff, Int.reduceEq, Int.reduceLE, Int.reduceLT, Int.reducePow, Int.reduceMul, Int.reduceToNat, Int.reduceNeg, ↓reduceIte, hD, hG', wrap64, regI_cons, regI_nil, gn, asked_none, enterS, leaveS, shT, unT, resA, num, unbox, Option.some.injEq, exists_eq_left', tmv]
          refine inl_trunc (v := 60000) (m := 5000) (k := k) (el := 65) (rs := R2) hX.types (by rw [hD.1]; rfl) (by rfl) (by rfl) (by rfl) hlp hln (by rw [hD.1]; rfl) (by simp) (by rfl) ?_
          simp (disch := omega) only [go_sem, Nat.reduceLeDiff, reduceCtorEq, Nat.reduceAdd, Nat.reduceSub, Nat.reduceMul, Nat.reduceLT, Nat.reduceEqDiff, Int.reduceEq, Int.reduceLE, Int.reduceLT, Int.reducePow, Int.reduceMul, Int.reduceToNat, Int.reduceNeg, ↓reduceIte, hD, hG', wrap64, regI_cons, regI_nil, gn, asked_none, htk, enterS, leaveS, shT, unT, resA, num, unbox, Option.some.injEq, exists_eq_left', tmv]
          refine ⟨[], [(1, 5000)], rfl, rfl, ?_, ?_⟩ <;> simp only [go_sem, Nat.reduceEqDiff, resP, pinT, here, List.append_nil]
          rw [hr]
      · have hb1 : (a1 == ei) = false := by simpa using hid
        simp (disch := omega) only [go_sem, Nat.reduceLeDiff, reduceCtorEq, Nat.reduceAdd, Nat.reduceSub, Nat.reduceMul, Nat.reduceLT, Nat.reduceEqDiff, Int.reduceEq, Int.reduceLE, Int.reduceLT, Int.reducePow, Int.reduceMul, Int.reduceToNat, Int.reduceNeg, ↓reduceIte, hD, hG', wrap64, gn, asked_none, enterS, leaveS, shT, unT, resA, num, unbox, Option.some.injEq, exists_eq_left', tmv, hb1]
        refine ⟨i + 1, ⟨⟨by omega, fun j hj => ?_⟩, by omega⟩, wk_of hD2 [(60000, 60000)] rfl rfl ?_ ?_⟩
        · by_cases hji : j = i
          · rw [hji, hx]; exact hid
          · exact hnot j (by omega)
        all_goals simp only [go_sem, Nat.reduceEqDiff]
        all_goals simp
    · rw [decide_eq_false_iff_not] at h
      have hie : i = items.length := by omega
      subst hie
      simp (disch := omega) only [go_sem, Nat.reduceLeDiff, reduceCtorEq, Nat.reduceAdd, Nat.reduceSub, Nat.reduceMul, Nat.reduceLT, Nat.reduceEqDiff, Int.reduceEq, Int.reduceLE, Int.reduceLT, Int.reducePow, Int.reduceMul, Int.reduceToNat, Int.reduceNeg, ↓reduceIte, hD, hG', wrap64, gn, asked_none, enterS, leaveS, shT, unT, resA, num, unbox, Option.some.injEq, exists_eq_left', tmv]
      have hall : items.filter (keptI ei) = items := List.filter_eq_self.2 fun x hx => by
        obtain ⟨k, hk⟩ := List.getElem?_of_mem hx
        have hkl := (List.getElem?_eq_some_iff.1 hk).1
        have := hnot k hkl
        rw [List.getD_eq_getElem?_getD, hk] at this
        simpa [keptI] using this
      refine ⟨[], [(1, 60000)], rfl, rfl, ?_, ?_⟩ <;> simp only [go_sem, Nat.reduceEqDiff, resP, pinT, here, List.append_nil]
      rw [hr, hall]
  exact hcon _ rfl
def eDf : PEnt Try.prog D where
  f := 83
  X := List LItem × LEntry
  np := 1
  args := fun x => [.os 60000, .func 84 [.iptr (entryRow x.2)]]
  bl0 := fun x => [(60000, .rows 65 7 (x.1.map itemRow))]
  v0 := fun x => .os 1
  bl1 := fun x => [(1, .rows 65 7 ((x.1.filter (keptI x.2.id)).map itemRow))]
  ok := fun x => x.1.length ≤ 1048576
  k0 := fun x n h => by simp [keys] at h; omega
  k1 := fun x n h => by simp [keys] at h ⊢; omega
  nd := fun x => by simp [keys]
  inj := fun x y dn aa bs bl _ _ h1 h2 h hx hy => by
    obtain ⟨a, rfl⟩ : ∃ a, aa = [a] := List.length_eq_one_iff.1 h1
    obtain ⟨b, rfl⟩ : ∃ b, bs = [b] := List.length_eq_one_iff.1 h2
    obtain ⟨l, e⟩ := x
    obtain ⟨l', e'⟩ := y
    simp only [renFs, renF, List.cons.injEq, AV.os.injEq, AV.func.injEq, AV.iptr.injEq, true_and, and_true] at h
    obtain ⟨r1, r2⟩ := h
    have r2 := entryRow_inj r2
    subst r2
    have r1 : a = b := by simpa [mkAct] using r1
    subst r1
    have q1 := hx 60000 _ rfl
    have q2 := hy 60000 _ rfl
    rw [q1] at q2
    simp only [renBl, Option.some.injEq, Blk.rows.injEq, true_and] at q2
    have q3 := (List.map_inj_right (fun _ _ h => itemRow_inj h)).1 q2
    subst q3
    rfl
  con := fun x h => pc_df x.1 x.2 h
noncomputable def dfM : MCtr := pcM [eDf]
theorem dfM_ok {G : Ctr} : MOk Try.prog D G dfM := mok_pc
open Classical in
theorem dfM_1 (l : List LItem) (hl : l.length ≤ 1048576) (e : LEntry) (n dn : Nat) (bl : Nat → Option Blk) :
    dfM dn 83 [.os n, .func 84 [.iptr (entryRow e)]] bl =
      if bl n = some (.rows 65 7 (l.map itemRow)) then some { v := .os (dn + 8192), kl := [n], nw := [(dn + 8192, .rows 65 7 ((l.filter (keptI e.id)).map itemRow))] }
      else dfM dn 83 [.os n, .func 84 [.iptr (entryRow e)]] bl := by
  split
  · rename_i h
    exact pcM_use (T := [eDf]) (E := eDf) (i := 0) rfl (by decide) (l, e) hl [n] rfl (by simp) (by simp [eDf, renFs, renF, mkAct]) (fun k z hz => by
      simp only [eDf, get] at hz
      split at hz
      · rename_i q; cases hz; subst q; simpa [mkAct, renBl] using h
      · cases hz)
  · rfl
end Go.Proofs.Ythbejciebmkclaa.Ab
namespace Go.Proofs.Ythbejciebmkclaa.Ab
open Go Go.RowKit
set_option linter.unusedVariables false
set_option linter.unusedSimpArgs false

def gotQ (q : LQueue) (e : LEntry) : LQueue := { q with items := q.items ++ [⟨e.id, 0, 0, false, 0, e.note⟩] }
def goneQ (q : LQueue) (id : Int) : LQueue := { q with items := q.items.filter (keptI id) }
def applyK (h : LHall) (e : LEntry) (k : Int) : LHall :=
  if e.kind = 1 ∧ k < 0 then ⟨h.queues ++ [⟨e.queue, e.n, []⟩], h.next⟩
  else if e.kind = 2 ∧ 0 ≤ k then ⟨h.queues.eraseIdx k.toNat, h.next⟩
  else if e.kind = 3 ∧ 0 ≤ k then ⟨h.queues.set k.toNat (gotQ (qAt h k.toNat) e), if h.next < e.id + 1 then e.id + 1 else h.next⟩
  else if e.kind = 4 ∧ 0 ≤ k then ⟨h.queues.set k.toNat (goneQ (qAt h k.toNat) e.id), h.next⟩
  else h
def applyS (h : LHall) (e : LEntry) : LHall := applyK h e (findS h.queues (nmL e.queue))
theorem rows_at {l : List LQueue} {k : Nat} (h : k < l.length) : ∃ (pre post : List (List AV)) (qn : ByteArray) (ql : Int) (qi : List LItem), l.getD k queue0 = ⟨qn, ql, qi⟩ ∧ pre.length = k ∧ l.map queueRow = pre ++ [.str qn.data.toList, .int .i64 ql, .sl 7 (qi.map itemRow)] :: post ∧
    ∀ x : LQueue, (l.set k x).map queueRow = pre ++ queueRow x :: post := by
  refine ⟨(l.take k).map queueRow, (l.drop (k + 1)).map queueRow, l[k].name, l[k].limit, l[k].items, by simp [h], by simp; omega, ?_, fun x => ?_⟩
  · have e := congrArg (List.map queueRow) (List.take_append_drop k l)
    rw [List.drop_eq_getElem_cons h, List.map_append, List.map_cons] at e
    exact e.symm
  · rw [List.set_eq_take_append_cons_drop, if_pos h]
    simp [queueRow]
def applyLo : Nat → Lo := fun id => match id with | 2 => {hand := true} | 5 => {hand := true} | 7 => {hand := true} | 8 => {uo := [16, 19], un := [5000], kn := [5001], ex := [6, 8, 17]} | 10 => {hand := true} | 11 => {uo := [10, 13], un := [5000], kn := [5001], ex := [6, 8, 11]} | _ => {}
noncomputable def applyM : MCtr := elseM deleteMQ dfM
set_option maxRecDepth 100000 in
set_option maxHeartbeats 4000000 in
theorem con_apply (h : LHall) (e : LEntry) (hh : h.Fits) (he : e.note.Fits) (hid : -1000000000000 ≤ e.id ∧ e.id ≤ 1000000000000) : Con Try.prog D 21 [hallA h, entryA e] ⟨hallA (applyS h e), []⟩ := by
  have hok : GOk Try.prog D (tabG [eOwnq, eHfind, eOwn1]) := tabG_ok _
  have g1 := fun (q : LQueue) (h : q.Fits) => tabG_use (T := [eOwnq, eHfind, eOwn1]) (E := eOwnq) (i := 0) rfl (by decide) (q) (h)
  have g2 := tabG_use (T := [eOwnq, eHfind, eOwn1]) (E := eHfind) (i := 1) rfl (by decide) ((h, nmL e.queue)) (hh.1)
  have g3 := tabG_use (T := [eOwnq, eHfind, eOwn1]) (E := eOwn1) (i := 2) rfl (by decide) (e.note) (he)
  have gd : ∀ a, tabG ([eOwnq, eHfind, eOwn1] : List (Ent Try.prog D)) 81 a = none := fun a => rfl
  have gf : ∀ a, tabG ([eOwnq, eHfind, eOwn1] : List (Ent Try.prog D)) 83 a = none := fun a => rfl
  have gn : ∀ a, tabG ([eOwnq, eHfind, eOwn1] : List (Ent Try.prog D)) 39 a = none := fun a => rfl
  generalize tabG [eOwnq, eHfind, eOwn1] = G at *
  dsimp only [eOwnq] at g1
  dsimp only [eHfind] at g2
  dsimp only [eOwn1] at g3
  have hl := hh.1
  have hfq := fun i hi => queue_fits (i := i) hh hi
  obtain ⟨l, next⟩ := h
  obtain ⟨ek, eq, en, ei, ⟨ep, eb⟩⟩ := e
  simp only [hallA, nmL, noteA] at hl hfq g2 g3 hid
  have hcon : ∀ r, r = applyS ⟨l, next⟩ ⟨ek, eq, en, ei, ⟨ep, eb⟩⟩ → Con Try.prog D 21 [hallA ⟨l, next⟩, entryA ⟨ek, eq, en, ei, ⟨ep, eb⟩⟩] ⟨.agg [.sl 3 (r.queues.map queueRow), .int .i64 r.next], []⟩ := by
    intro r hr
    unfold applyS at hr
    simp only [nmL] at hr
    have hfr := @findS_range l eq.data.toList
    refine conM (mok_else mok_deleteQ dfM_ok) (G := G) (rs := [(4, some 24)]) hok Try.func21 Try.results21 Try.ntmps21 applyLo fun X hP hD hG' hX => ?_
    simp only [argS, num, hallA, entryA, entryRow]
    simp (disch := omega) only [go_sem, Nat.reduceLeDiff, reduceCtorEq, Nat.reduceAdd, Nat.reduceSub, Nat.reduceMul, Nat.reduceLT, Nat.reduceEqDiff, Int.reduceEq, Int.reduceLE, Int.reduceLT, Int.reducePow, Int.reduceMul, Int.reduceToNat, Int.reduceNeg, ↓reduceIte, hD, hG', wrap64, gn, applyLo, unbox, tmv, Option.some.injEq, exists_eq_left']
    refine inlW (rs := [(2, some 24)]) hX hP 70000 hownDLo Try.func39 Try.results39 Try.ntmps39 fun hX1 => ?_
    rw [hD.1, hG'] at hX1
    have hD1 : ({ P := X.P, D := D, G := G, S := X.S, N0 := X.N0, B := X.B, w0 := X.w0, nb := 70000, M := noM } : Cx).D = D ∧ True := ⟨rfl, trivial⟩
    simp (disch := omega) only [go_sem, Nat.reduceLeDiff, reduceCtorEq, Nat.reduceAdd, Nat.reduceSub, Nat.reduceMul, Nat.reduceLT, Nat.reduceEqDiff, Int.reduceEq, Int.reduceLE, Int.reduceLT, Int.reducePow, Int.reduceMul, Int.reduceToNat, Int.reduceNeg, ↓reduceIte, hD, hG', wrap64, gn, enterS, leaveS, shT, unT, resA, num, unbox, Option.some.injEq, exists_eq_left', tmv, applyLo, unbox, tmv, Option.some.injEq, exists_eq_left']
    refine Tr.loop (ι := Nat) (fun i => i ≤ l.length) (fun i => { nt := 25, tm := [(2, .ptr 70002 0), (3, .ptr 70003 0), (10, .sl 3 (l.map queueRow)), (11, .int .i64 l.length), (12, .int .i64 i), (65538, .ptr 2 0), (65539, .ptr 3 0), (65540, .ptr 4 0)], bl := [(2, some (.cells [.sl 3 (l.map queueRow), .int .i64 next])), (3, some (.cells [.int .i64 ek, .str eq.data.toList, .int .i64 en, .int .i64 ei, .sl 4 (ep.map propRow), .sl 1 (eb.map byteRow)])), (4, some (.cells [.nils, .int .i64 0])), (70002, some (.cells [.nils, .int .i64 0])), (70003, some (.cells [.os 5000, .int .i64 next])), (5000, some (.deep 71 3 ((l.take i).map queueRow) [(2, 65, 7)] []))] }) (fun i => l.length - i) 0
      ⟨Nat.zero_le _, wk_of hD1 [(2, 2), (3, 3), (4, 4), (70002, 70002), (70003, 70003)] rfl rfl (by simp only [go_sem, Nat.reduceEqDiff]; simp) (by simp only [go_sem, Nat.reduceEqDiff, D_3, D_4, D_5, D_9, D_22, D_24, D_25, D_26, D_28, D_30, D_65, D_69, D_71, D_110, D_120]; simp)⟩ ?_
    intro i hi
    refine evC_sound hX1 hownDLo _ _ _ ?_
    simp (disch := omega) only [go_sem, Nat.reduceLeDiff, reduceCtorEq, Nat.reduceAdd, Nat.reduceSub, Nat.reduceMul, Nat.reduceLT, Nat.reduceEqDiff, Int.reduceEq, Int.reduceLE, Int.reduceLT, Int.reducePow, Int.reduceMul, Int.reduceToNat, Int.reduceNeg, ↓reduceIte, hD, hG', wrap64, unbox, tmv, Option.some.injEq, exists_eq_left']
    refine condK_split (fun h => ?_) (fun h => ?_)
    · rw [decide_eq_true_eq] at h
      have hi1 : i < l.length := by omega
      have hgx := queueGet hi1
      have hti := take_queue hi1
      have g1 := g1 _ (hfq i hi1).1
      have htl : (l.take i).length = i := by rw [List.length_take]; omega
      generalize l.getD i queue0 = x at *
      obtain ⟨qn, ql, qi⟩ := x
      simp only [queueRow] at hgx
      simp only [queueA] at g1
      simp (disch := omega) only [go_sem, Nat.reduceLeDiff, reduceCtorEq, Nat.reduceAdd, Nat.reduceSub, Nat.reduceMul, Nat.reduceLT, Nat.reduceEqDiff, Int.reduceEq, Int.reduceLE, Int.reduceLT, Int.reducePow, Int.reduceMul, Int.reduceToNat, Int.reduceNeg, ↓reduceIte, hD, hG', wrap64, hgx, g1, hownDLo, unbox, tmv, Option.some.injEq, exists_eq_left']
      ((try and_intros); all_goals (try first | omega | decide | (simp; done) | (simp only [List.length_append, List.length_cons, List.length_nil, List.length_map]; omega)))
      refine ⟨i + 1, ⟨by omega, by omega⟩, (Wk.unfocus 70021 74115 (pre := (l.take i).map queueRow) (rp := [.str qn.data.toList, .int .i64 ql]) (rq := []) (post := []) (y0 := .junk) (rs' := qi.map itemRow) rfl rfl rfl rfl (by simp [focHas])).trans (wk_of hD1 [(2, 2), (3, 3), (4, 4), (70002, 70002), (70003, 70003), (5000, 70021)] rfl rfl ?_ ?_)⟩ <;> simp only [go_sem, Nat.reduceEqDiff]
      · simp
      · simp [hti, queueRow]
    · rw [decide_eq_false_iff_not] at h
      have hie : i = l.length := by omega
      subst hie
      rw [List.take_length] at *
      simp (disch := omega) only [go_sem, Nat.reduceLeDiff, reduceCtorEq, Nat.reduceAdd, Nat.reduceSub, Nat.reduceMul, Nat.reduceLT, Nat.reduceEqDiff, Int.reduceEq, Int.reduceLE, Int.reduceLT, Int.reducePow, Int.reduceMul, Int.reduceToNat, Int.reduceNeg, ↓reduceIte, hD, hG', wrap64, enterS, leaveS, shT, unT, resA, num, unbox, Option.some.injEq, exists_eq_left', tmv, hownDLo, applyLo, unbox, tmv, Option.some.injEq, exists_eq_left']
      generalize findS l eq.data.toList = k at *
      by_cases hk : k < 0
      · have k0 : decide (k < 0) = true := by simpa using hk
        have k1 : decide (k ≥ 0) = false := by simp; omega
        have hk' : ¬ 0 ≤ k := by omega
        by_cases hj1 : ek = 1
        · have e1 : (ek == 1) = true := by simp [hj1]
          have e2 : (ek == 2) = false := by simp [hj1]
          have e3 : (ek == 3) = false := by simp [hj1]
          have e4 : (ek == 4) = false := by simp [hj1]
          refine evC_sound hX (fun _ => {}) _ _ _ ?_
          simp (disch := omega) only [go_sem, Nat.reduceLeDiff, reduceCtorEq, Nat.reduceAdd, Nat.reduceSub, Nat.reduceMul, Nat.reduceLT, Nat.reduceEqDiff, Int.reduceEq, Int.reduceLE, Int.reduceLT, Int.reducePow, Int.reduceMul, Int.reduceToNat, Int.reduceNeg, ↓reduceIte, hD, hG', wrap64, g2, g3, e1, e2, e3, e4, k0, k1, applyLo, deleteMQ, gd, unbox, tmv, Option.some.injEq, exists_eq_left']
          refine RegT.mk [] ?_
          simp (disch := omega) only [go_sem, Nat.reduceLeDiff, reduceCtorEq, Nat.reduceAdd, Nat.reduceSub, Nat.reduceMul, Nat.reduceLT, Nat.reduceEqDiff, Int.reduceEq, Int.reduceLE, Int.reduceLT, Int.reducePow, Int.reduceMul, Int.reduceToNat, Int.reduceNeg, ↓reduceIte, hD, hG', wrap64, g2, g3, e1, e2, e3, e4, k0, k1, applyLo, deleteMQ, gd, unbox, tmv, Option.some.injEq, exists_eq_left']
          have w1 : rowsNz (l.map queueRow ++ [[.str eq.data.toList, .int .i64 en, .nils]]) ((l ++ [(⟨eq, en, []⟩ : LQueue)]).map queueRow) := by
            rw [List.map_append]
            exact rowsNz_append (rowsNz_refl _) (by simp [rowsNz, rowNz, cellNz, queueRow])
          refine ⟨by omega, ?_⟩
          refine endK ((Wk.flat 29 rfl).trans (Wk.nz 29 rfl w1)) [29] [] (by simp) rfl rfl rfl ?_ ?_ <;> simp only [go_sem, Nat.reduceEqDiff]
          rw [hr]
          simp [applyK, hj1, hk, cov, covs, subs, names, namess]
        by_cases hj2 : ek = 2
        · have e1 : (ek == 1) = false := by simp [hj2]
          have e2 : (ek == 2) = true := by simp [hj2]
          have e3 : (ek == 3) = false := by simp [hj2]
          have e4 : (ek == 4) = false := by simp [hj2]
          refine evC_sound hX (fun _ => {}) _ _ _ ?_
          simp (disch := omega) only [go_sem, Nat.reduceLeDiff, reduceCtorEq, Nat.reduceAdd, Nat.reduceSub, Nat.reduceMul, Nat.reduceLT, Nat.reduceEqDiff, Int.reduceEq, Int.reduceLE, Int.reduceLT, Int.reducePow, Int.reduceMul, Int.reduceToNat, Int.reduceNeg, ↓reduceIte, hD, hG', wrap64, g2, g3, e1, e2, e3, e4, k0, k1, applyLo, deleteMQ, gd, unbox, tmv, Option.some.injEq, exists_eq_left']
          iterate 8 (try (first | (refine RegT.mk [] ?_; simp (disch := omega) only [go_sem, Nat.reduceLeDiff, reduceCtorEq, Nat.reduceAdd, Nat.reduceSub, Nat.reduceMul, Nat.reduceLT, Nat.reduceEqDiff, Int.reduceEq, Int.reduceLE, Int.reduceLT, Int.reducePow, Int.reduceMul, Int.reduceToNat, Int.reduceNeg, ↓reduceIte, hD, hG', wrap64, g2, g3, e1, e2, e3, e4, k0, k1, applyLo, deleteMQ, gd, unbox, tmv, Option.some.injEq, exists_eq_left']) | (refine evC_sound hX (fun _ => {}) _ _ _ ?_; simp (disch := omega) only [go_sem, Nat.reduceLeDiff, reduceCtorEq, Nat.reduceAdd, Nat.reduceSub, Nat.reduceMul, Nat.reduceLT, Nat.reduceEqDiff, Int.reduceEq, Int.reduceLE, Int.reduceLT, Int.reducePow, Int.reduceMul, Int.reduceToNat, Int.reduceNeg, ↓reduceIte, hD, hG', wrap64, g2, g3, e1, e2, e3, e4, k0, k1, applyLo, deleteMQ, gd, unbox, tmv, Option.some.injEq, exists_eq_left'])))
          refine endK (Wk.flat 5000 rfl) [5000] [] (by simp) rfl rfl rfl ?_ ?_ <;> simp only [go_sem, Nat.reduceEqDiff]
          rw [hr]
          simp [applyK, hk, hk', hj2, cov, covs, subs, names, namess]
        by_cases hj3 : ek = 3
        · have e1 : (ek == 1) = false := by simp [hj3]
          have e2 : (ek == 2) = false := by simp [hj3]
          have e3 : (ek == 3) = true := by simp [hj3]
          have e4 : (ek == 4) = false := by simp [hj3]
          refine evC_sound hX (fun _ => {}) _ _ _ ?_
          simp (disch := omega) only [go_sem, Nat.reduceLeDiff, reduceCtorEq, Nat.reduceAdd, Nat.reduceSub, Nat.reduceMul, Nat.reduceLT, Nat.reduceEqDiff, Int.reduceEq, Int.reduceLE, Int.reduceLT, Int.reducePow, Int.reduceMul, Int.reduceToNat, Int.reduceNeg, ↓reduceIte, hD, hG', wrap64, g2, g3, e1, e2, e3, e4, k0, k1, applyLo, deleteMQ, gd, unbox, tmv, Option.some.injEq, exists_eq_left']
          iterate 8 (try (first | (refine RegT.mk [] ?_; simp (disch := omega) only [go_sem, Nat.reduceLeDiff, reduceCtorEq, Nat.reduceAdd, Nat.reduceSub, Nat.reduceMul, Nat.reduceLT, Nat.reduceEqDiff, Int.reduceEq, Int.reduceLE, Int.reduceLT, Int.reducePow, Int.reduceMul, Int.reduceToNat, Int.reduceNeg, ↓reduceIte, hD, hG', wrap64, g2, g3, e1, e2, e3, e4, k0, k1, applyLo, deleteMQ, gd, unbox, tmv, Option.some.injEq, exists_eq_left']) | (refine evC_sound hX (fun _ => {}) _ _ _ ?_; simp (disch := omega) only [go_sem, Nat.reduceLeDiff, reduceCtorEq, Nat.reduceAdd, Nat.reduceSub, Nat.reduceMul, Nat.reduceLT, Nat.reduceEqDiff, Int.reduceEq, Int.reduceLE, Int.reduceLT, Int.reducePow, Int.reduceMul, Int.reduceToNat, Int.reduceNeg, ↓reduceIte, hD, hG', wrap64, g2, g3, e1, e2, e3, e4, k0, k1, applyLo, deleteMQ, gd, unbox, tmv, Option.some.injEq, exists_eq_left'])))
          refine endK (Wk.flat 5000 rfl) [5000] [] (by simp) rfl rfl rfl ?_ ?_ <;> simp only [go_sem, Nat.reduceEqDiff]
          rw [hr]
          simp [applyK, hk, hk', hj3, cov, covs, subs, names, namess]
        by_cases hj4 : ek = 4
        · have e1 : (ek == 1) = false := by simp [hj4]
          have e2 : (ek == 2) = false := by simp [hj4]
          have e3 : (ek == 3) = false := by simp [hj4]
          have e4 : (ek == 4) = true := by simp [hj4]
          refine evC_sound hX (fun _ => {}) _ _ _ ?_
          simp (disch := omega) only [go_sem, Nat.reduceLeDiff, reduceCtorEq, Nat.reduceAdd, Nat.reduceSub, Nat.reduceMul, Nat.reduceLT, Nat.reduceEqDiff, Int.reduceEq, Int.reduceLE, Int.reduceLT, Int.reducePow, Int.reduceMul, Int.reduceToNat, Int.reduceNeg, ↓reduceIte, hD, hG', wrap64, g2, g3, e1, e2, e3, e4, k0, k1, applyLo, deleteMQ, gd, unbox, tmv, Option.some.injEq, exists_eq_left']
          iterate 8 (try (first | (refine RegT.mk [] ?_; simp (disch := omega) only [go_sem, Nat.reduceLeDiff, reduceCtorEq, Nat.reduceAdd, Nat.reduceSub, Nat.reduceMul, Nat.reduceLT, Nat.reduceEqDiff, Int.reduceEq, Int.reduceLE, Int.reduceLT, Int.reducePow, Int.reduceMul, Int.reduceToNat, Int.reduceNeg, ↓reduceIte, hD, hG', wrap64, g2, g3, e1, e2, e3, e4, k0, k1, applyLo, deleteMQ, gd, unbox, tmv, Option.some.injEq, exists_eq_left']) | (refine evC_sound hX (fun _ => {}) _ _ _ ?_; simp (disch := omega) only [go_sem, Nat.reduceLeDiff, reduceCtorEq, Nat.reduceAdd, Nat.reduceSub, Nat.reduceMul, Nat.reduceLT, Nat.reduceEqDiff, Int.reduceEq, Int.reduceLE, Int.reduceLT, Int.reducePow, Int.reduceMul, Int.reduceToNat, Int.reduceNeg, ↓reduceIte, hD, hG', wrap64, g2, g3, e1, e2, e3, e4, k0, k1, applyLo, deleteMQ, gd, unbox, tmv, Option.some.injEq, exists_eq_left'])))
          refine endK (Wk.flat 5000 rfl) [5000] [] (by simp) rfl rfl rfl ?_ ?_ <;> simp only [go_sem, Nat.reduceEqDiff]
          rw [hr]
          simp [applyK, hk, hk', hj4, cov, covs, subs, names, namess]
        have e1 : (ek == 1) = false := by simp [hj1]
        have e2 : (ek == 2) = false := by simp [hj2]
        have e3 : (ek == 3) = false := by simp [hj3]
        have e4 : (ek == 4) = false := by simp [hj4]
        refine evC_sound hX (fun _ => {}) _ _ _ ?_
        simp (disch := omega) only [go_sem, Nat.reduceLeDiff, reduceCtorEq, Nat.reduceAdd, Nat.reduceSub, Nat.reduceMul, Nat.reduceLT, Nat.reduceEqDiff, Int.reduceEq, Int.reduceLE, Int.reduceLT, Int.reducePow, Int.reduceMul, Int.reduceToNat, Int.reduceNeg, ↓reduceIte, hD, hG', wrap64, g2, g3, e1, e2, e3, e4, k0, k1, applyLo, deleteMQ, gd, unbox, tmv, Option.some.injEq, exists_eq_left']
        iterate 8 (try (first | (refine RegT.mk [] ?_; simp (disch := omega) only [go_sem, Nat.reduceLeDiff, reduceCtorEq, Nat.reduceAdd, Nat.reduceSub, Nat.reduceMul, Nat.reduceLT, Nat.reduceEqDiff, Int.reduceEq, Int.reduceLE, Int.reduceLT, Int.reducePow, Int.reduceMul, Int.reduceToNat, Int.reduceNeg, ↓reduceIte, hD, hG', wrap64, g2, g3, e1, e2, e3, e4, k0, k1, applyLo, deleteMQ, gd, unbox, tmv, Option.some.injEq, exists_eq_left']) | (refine evC_sound hX (fun _ => {}) _ _ _ ?_; simp (disch := omega) only [go_sem, Nat.reduceLeDiff, reduceCtorEq, Nat.reduceAdd, Nat.reduceSub, Nat.reduceMul, Nat.reduceLT, Nat.reduceEqDiff, Int.reduceEq, Int.reduceLE, Int.reduceLT, Int.reducePow, Int.reduceMul, Int.reduceToNat, Int.reduceNeg, ↓reduceIte, hD, hG', wrap64, g2, g3, e1, e2, e3, e4, k0, k1, applyLo, deleteMQ, gd, unbox, tmv, Option.some.injEq, exists_eq_left'])))
        refine endK (Wk.flat 5000 rfl) [5000] [] (by simp) rfl rfl rfl ?_ ?_ <;> simp only [go_sem, Nat.reduceEqDiff]
        rw [hr]
        simp [applyK, hk, hk', hj1, hj2, hj3, hj4, cov, covs, subs, names, namess]
      · have k0 : decide (k < 0) = false := by simpa using hk
        have k1 : decide (k ≥ 0) = true := by simp; omega
        have hk' : 0 ≤ k := by omega
        obtain ⟨kn, rfl⟩ := Int.eq_ofNat_of_zero_le hk'
        have hkl : kn < l.length := by omega
        by_cases hj1 : ek = 1
        · have e1 : (ek == 1) = true := by simp [hj1]
          have e2 : (ek == 2) = false := by simp [hj1]
          have e3 : (ek == 3) = false := by simp [hj1]
          have e4 : (ek == 4) = false := by simp [hj1]
          refine evC_sound hX (fun _ => {}) _ _ _ ?_
          simp (disch := omega) only [go_sem, Nat.reduceLeDiff, reduceCtorEq, Nat.reduceAdd, Nat.reduceSub, Nat.reduceMul, Nat.reduceLT, Nat.reduceEqDiff, Int.reduceEq, Int.reduceLE, Int.reduceLT, Int.reducePow, Int.reduceMul, Int.reduceToNat, Int.reduceNeg, ↓reduceIte, hD, hG', wrap64, g2, g3, e1, e2, e3, e4, k0, k1, applyLo, deleteMQ, gd, unbox, tmv, Option.some.injEq, exists_eq_left']
          iterate 8 (try (first | (refine RegT.mk [] ?_; simp (disch := omega) only [go_sem, Nat.reduceLeDiff, reduceCtorEq, Nat.reduceAdd, Nat.reduceSub, Nat.reduceMul, Nat.reduceLT, Nat.reduceEqDiff, Int.reduceEq, Int.reduceLE, Int.reduceLT, Int.reducePow, Int.reduceMul, Int.reduceToNat, Int.reduceNeg, ↓reduceIte, hD, hG', wrap64, g2, g3, e1, e2, e3, e4, k0, k1, applyLo, deleteMQ, gd, unbox, tmv, Option.some.injEq, exists_eq_left']) | (refine evC_sound hX (fun _ => {}) _ _ _ ?_; simp (disch := omega) only [go_sem, Nat.reduceLeDiff, reduceCtorEq, Nat.reduceAdd, Nat.reduceSub, Nat.reduceMul, Nat.reduceLT, Nat.reduceEqDiff, Int.reduceEq, Int.reduceLE, Int.reduceLT, Int.reducePow, Int.reduceMul, Int.reduceToNat, Int.reduceNeg, ↓reduceIte, hD, hG', wrap64, g2, g3, e1, e2, e3, e4, k0, k1, applyLo, deleteMQ, gd, unbox, tmv, Option.some.injEq, exists_eq_left'])))
          refine endK (Wk.flat 5000 rfl) [5000] [] (by simp) rfl rfl rfl ?_ ?_ <;> simp only [go_sem, Nat.reduceEqDiff]
          rw [hr]
          simp [applyK, hk, hk', hj1, cov, covs, subs, names, namess]
        by_cases hj2 : ek = 2
        · have e1 : (ek == 1) = false := by simp [hj2]
          have e2 : (ek == 2) = true := by simp [hj2]
          have e3 : (ek == 3) = false := by simp [hj2]
          have e4 : (ek == 4) = false := by simp [hj2]
          refine evC_sound hX (fun _ => {}) _ _ _ ?_
          simp (disch := omega) only [go_sem, Nat.reduceLeDiff, reduceCtorEq, Nat.reduceAdd, Nat.reduceSub, Nat.reduceMul, Nat.reduceLT, Nat.reduceEqDiff, Int.reduceEq, Int.reduceLE, Int.reduceLT, Int.reducePow, Int.reduceMul, Int.reduceToNat, Int.reduceNeg, ↓reduceIte, hD, hG', wrap64, g2, g3, e1, e2, e3, e4, k0, k1, applyLo, deleteMQ, gd, unbox, tmv, Option.some.injEq, exists_eq_left']
          refine RegT.mk [] ?_
          simp (disch := omega) only [go_sem, Nat.reduceLeDiff, reduceCtorEq, Nat.reduceAdd, Nat.reduceSub, Nat.reduceMul, Nat.reduceLT, Nat.reduceEqDiff, Int.reduceEq, Int.reduceLE, Int.reduceLT, Int.reducePow, Int.reduceMul, Int.reduceToNat, Int.reduceNeg, ↓reduceIte, hD, hG', wrap64, g2, g3, e1, e2, e3, e4, k0, k1, applyLo, deleteMQ, gd, unbox, tmv, Option.some.injEq, exists_eq_left']
          refine Tr.wk (Wk.flat 5000 rfl) (evC_sound hX (fun _ => {}) _ _ _ ?_)
          simp (disch := omega) only [go_sem, Nat.reduceLeDiff, reduceCtorEq, Nat.reduceAdd, Nat.reduceSub, Nat.reduceMul, Nat.reduceLT, Nat.reduceEqDiff, Int.reduceEq, Int.reduceLE, Int.reduceLT, Int.reducePow, Int.reduceMul, Int.reduceToNat, Int.reduceNeg, ↓reduceIte, hD, hG', wrap64, g2, g3, e1, e2, e3, e4, k0, k1, applyLo, deleteMQ, gd, applyM, elseM_at, unbox, tmv, Option.some.injEq, exists_eq_left']
          refine RegT.mk [] ?_
          simp (disch := omega) only [go_sem, Nat.reduceLeDiff, reduceCtorEq, Nat.reduceAdd, Nat.reduceSub, Nat.reduceMul, Nat.reduceLT, Nat.reduceEqDiff, Int.reduceEq, Int.reduceLE, Int.reduceLT, Int.reducePow, Int.reduceMul, Int.reduceToNat, Int.reduceNeg, ↓reduceIte, hD, hG', wrap64, g2, g3, e1, e2, e3, e4, k0, k1, applyLo, deleteMQ, gd, applyM, elseM_at, unbox, tmv, Option.some.injEq, exists_eq_left']
          refine ⟨by omega, ?_⟩
          refine endW [44] [] (by simp) rfl rfl rfl ?_ ?_ <;> simp only [go_sem, Nat.reduceEqDiff]
          rw [hr]
          simp [applyK, hj2, hk', cov, covs, subs, names, namess, erase_map]
        by_cases hj3 : ek = 3
        · have e1 : (ek == 1) = false := by simp [hj3]
          have e2 : (ek == 2) = false := by simp [hj3]
          have e3 : (ek == 3) = true := by simp [hj3]
          have e4 : (ek == 4) = false := by simp [hj3]
          refine evC_sound hX (fun _ => {}) _ _ _ ?_
          simp (disch := omega) only [go_sem, Nat.reduceLeDiff, reduceCtorEq, Nat.reduceAdd, Nat.reduceSub, Nat.reduceMul, Nat.reduceLT, Nat.reduceEqDiff, Int.reduceEq, Int.reduceLE, Int.reduceLT, Int.reducePow, Int.reduceMul, Int.reduceToNat, Int.reduceNeg, ↓reduceIte, hD, hG', wrap64, g2, g3, e1, e2, e3, e4, k0, k1, applyLo, deleteMQ, gd, unbox, tmv, Option.some.injEq, exists_eq_left']
          refine RegT.mk [] ?_
          simp (disch := omega) only [go_sem, Nat.reduceLeDiff, reduceCtorEq, Nat.reduceAdd, Nat.reduceSub, Nat.reduceMul, Nat.reduceLT, Nat.reduceEqDiff, Int.reduceEq, Int.reduceLE, Int.reduceLT, Int.reducePow, Int.reduceMul, Int.reduceToNat, Int.reduceNeg, ↓reduceIte, hD, hG', wrap64, g2, g3, e1, e2, e3, e4, k0, k1, applyLo, deleteMQ, gd, unbox, tmv, Option.some.injEq, exists_eq_left']
          refine evC_sound hX (fun _ => {}) _ _ _ ?_
          simp (disch := omega) only [go_sem, Nat.reduceLeDiff, reduceCtorEq, Nat.reduceAdd, Nat.reduceSub, Nat.reduceMul, Nat.reduceLT, Nat.reduceEqDiff, Int.reduceEq, Int.reduceLE, Int.reduceLT, Int.reducePow, Int.reduceMul, Int.reduceToNat, Int.reduceNeg, ↓reduceIte, hD, hG', wrap64, g2, g3, e1, e2, e3, e4, k0, k1, applyLo, deleteMQ, gd, unbox, tmv, Option.some.injEq, exists_eq_left']
          refine RegT.mk [] ?_
          simp (disch := omega) only [go_sem, Nat.reduceLeDiff, reduceCtorEq, Nat.reduceAdd, Nat.reduceSub, Nat.reduceMul, Nat.reduceLT, Nat.reduceEqDiff, Int.reduceEq, Int.reduceLE, Int.reduceLT, Int.reducePow, Int.reduceMul, Int.reduceToNat, Int.reduceNeg, ↓reduceIte, hD, hG', wrap64, g2, g3, e1, e2, e3, e4, k0, k1, applyLo, deleteMQ, gd, unbox, tmv, Option.some.injEq, exists_eq_left']
          obtain ⟨pre, post, qn, ql, qi, hq, hpl, q0, q5⟩ := rows_at hkl
          have hgd : ∀ z : List AV, (pre ++ z :: post).getD kn [] = z := fun z => by rw [← hpl]; simp
          have hln : ∀ z : List AV, (kn : Int) < ((pre ++ z :: post).length : Int) := fun z => by rw [List.length_append, List.length_cons, hpl]; omega
          have hln1 : ∀ z : List AV, kn < (pre ++ z :: post).length := fun z => by rw [List.length_append, List.length_cons, hpl]; omega
          have hset : ∀ z z' : List AV, (pre ++ z :: post).set kn z' = pre ++ z' :: post := fun z z' => by rw [← hpl]; simp
          have hqf := (hfq kn hkl).1.1
          rw [hq] at hqf
          simp only at hqf
          refine Tr.wk (Wk.focus 5000 5001 (pre := pre) (rp := [.str qn.data.toList, .int .i64 ql]) (rq := []) (post := post) (rs' := qi.map itemRow) rfl q0 rfl rfl) ?_
          refine evC_sound hX (fun _ => {}) _ _ _ ?_
          simp only [hpl]
          simp (disch := omega) only [go_sem, Nat.reduceLeDiff, reduceCtorEq, Nat.reduceAdd, Nat.reduceSub, Nat.reduceMul, Nat.reduceLT, Nat.reduceEqDiff, Int.reduceEq, Int.reduceLE, Int.reduceLT, Int.reducePow, Int.reduceMul, Int.reduceToNat, Int.reduceNeg, ↓reduceIte, hD, hG', wrap64, g2, g3, e1, e2, e3, e4, k0, k1, applyLo, deleteMQ, gd, applyM, elseM_at, unbox, tmv, Option.some.injEq, exists_eq_left']
          refine RegT.mk [] ?_
          simp (disch := omega) only [go_sem, Nat.reduceLeDiff, reduceCtorEq, Nat.reduceAdd, Nat.reduceSub, Nat.reduceMul, Nat.reduceLT, Nat.reduceEqDiff, Int.reduceEq, Int.reduceLE, Int.reduceLT, Int.reducePow, Int.reduceMul, Int.reduceToNat, Int.reduceNeg, ↓reduceIte, hD, hG', wrap64, g2, g3, e1, e2, e3, e4, k0, k1, applyLo, deleteMQ, gd, hgd, hln, hln1, hset, applyM, elseM_at, unbox, tmv, Option.some.injEq, exists_eq_left']
          refine ⟨by decide, by omega, by omega, by omega, ?_⟩
          refine endK ((Wk.unfocus 5000 70 (pre := pre) (rp := [.str qn.data.toList, .int .i64 ql]) (rq := []) (post := post) (y0 := .junk) (rs' := qi.map itemRow ++ [[.int .i64 ei, .int .i64 0, .int .i64 0, .bool false, .int .i64 0, .sl 4 (ep.map propRow), .sl 1 (eb.map byteRow)]]) rfl rfl rfl rfl (by simp [focHas, hpl])).trans (Wk.flat 5000 rfl)) [5000] [] (by simp) rfl rfl rfl ?_ ?_ <;> simp only [go_sem, Nat.reduceEqDiff]
          have hrr : r = ⟨l.set kn (gotQ ⟨qn, ql, qi⟩ ⟨ek, eq, en, ei, ⟨ep, eb⟩⟩), if next < ei + 1 then ei + 1 else next⟩ := by rw [hr]; simp [applyK, hj3, show qAt ⟨l, next⟩ kn = ⟨qn, ql, qi⟩ from hq]
          rw [hrr, q5]
          simp [gotQ, queueRow, itemRow, cov, covs, subs, names, namess]
        by_cases hj4 : ek = 4
        · have e1 : (ek == 1) = false := by simp [hj4]
          have e2 : (ek == 2) = false := by simp [hj4]
          have e3 : (ek == 3) = false := by simp [hj4]
          have e4 : (ek == 4) = true := by simp [hj4]
          refine evC_sound hX (fun _ => {}) _ _ _ ?_
          simp (disch := omega) only [go_sem, Nat.reduceLeDiff, reduceCtorEq, Nat.reduceAdd, Nat.reduceSub, Nat.reduceMul, Nat.reduceLT, Nat.reduceEqDiff, Int.reduceEq, Int.reduceLE, Int.reduceLT, Int.reducePow, Int.reduceMul, Int.reduceToNat, Int.reduceNeg, ↓reduceIte, hD, hG', wrap64, g2, g3, e1, e2, e3, e4, k0, k1, applyLo, deleteMQ, gd, unbox, tmv, Option.some.injEq, exists_eq_left']
          refine RegT.mk [] ?_
          simp (disch := omega) only [go_sem, Nat.reduceLeDiff, reduceCtorEq, Nat.reduceAdd, Nat.reduceSub, Nat.reduceMul, Nat.reduceLT, Nat.reduceEqDiff, Int.reduceEq, Int.reduceLE, Int.reduceLT, Int.reducePow, Int.reduceMul, Int.reduceToNat, Int.reduceNeg, ↓reduceIte, hD, hG', wrap64, g2, g3, e1, e2, e3, e4, k0, k1, applyLo, deleteMQ, gd, unbox, tmv, Option.some.injEq, exists_eq_left']
          refine evC_sound hX (fun _ => {}) _ _ _ ?_
          simp (disch := omega) only [go_sem, Nat.reduceLeDiff, reduceCtorEq, Nat.reduceAdd, Nat.reduceSub, Nat.reduceMul, Nat.reduceLT, Nat.reduceEqDiff, Int.reduceEq, Int.reduceLE, Int.reduceLT, Int.reducePow, Int.reduceMul, Int.reduceToNat, Int.reduceNeg, ↓reduceIte, hD, hG', wrap64, g2, g3, e1, e2, e3, e4, k0, k1, applyLo, deleteMQ, gd, unbox, tmv, Option.some.injEq, exists_eq_left']
          refine RegT.mk [] ?_
          simp (disch := omega) only [go_sem, Nat.reduceLeDiff, reduceCtorEq, Nat.reduceAdd, Nat.reduceSub, Nat.reduceMul, Nat.reduceLT, Nat.reduceEqDiff, Int.reduceEq, Int.reduceLE, Int.reduceLT, Int.reducePow, Int.reduceMul, Int.reduceToNat, Int.reduceNeg, ↓reduceIte, hD, hG', wrap64, g2, g3, e1, e2, e3, e4, k0, k1, applyLo, deleteMQ, gd, unbox, tmv, Option.some.injEq, exists_eq_left']
          refine evC_sound hX (fun _ => {}) _ _ _ ?_
          simp (disch := omega) only [go_sem, Nat.reduceLeDiff, reduceCtorEq, Nat.reduceAdd, Nat.reduceSub, Nat.reduceMul, Nat.reduceLT, Nat.reduceEqDiff, Int.reduceEq, Int.reduceLE, Int.reduceLT, Int.reducePow, Int.reduceMul, Int.reduceToNat, Int.reduceNeg, ↓reduceIte, hD, hG', wrap64, g2, g3, e1, e2, e3, e4, k0, k1, applyLo, deleteMQ, gd, unbox, tmv, Option.some.injEq, exists_eq_left']
          refine RegT.mk [] ?_
          simp (disch := omega) only [go_sem, Nat.reduceLeDiff, reduceCtorEq, Nat.reduceAdd, Nat.reduceSub, Nat.reduceMul, Nat.reduceLT, Nat.reduceEqDiff, Int.reduceEq, Int.reduceLE, Int.reduceLT, Int.reducePow, Int.reduceMul, Int.reduceToNat, Int.reduceNeg, ↓reduceIte, hD, hG', wrap64, g2, g3, e1, e2, e3, e4, k0, k1, applyLo, deleteMQ, gd, unbox, tmv, Option.some.injEq, exists_eq_left']
          obtain ⟨pre, post, qn, ql, qi, hq, hpl, q0, q5⟩ := rows_at hkl
          have hgd : ∀ z : List AV, (pre ++ z :: post).getD kn [] = z := fun z => by rw [← hpl]; simp
          have hln : ∀ z : List AV, (kn : Int) < ((pre ++ z :: post).length : Int) := fun z => by rw [List.length_append, List.length_cons, hpl]; omega
          have hln1 : ∀ z : List AV, kn < (pre ++ z :: post).length := fun z => by rw [List.length_append, List.length_cons, hpl]; omega
          have hset : ∀ z z' : List AV, (pre ++ z :: post).set kn z' = pre ++ z' :: post := fun z z' => by rw [← hpl]; simp
          have hqf := (hfq kn hkl).1.1
          rw [hq] at hqf
          simp only at hqf
          have hdf := dfM_1 qi hqf ⟨ek, eq, en, ei, ⟨ep, eb⟩⟩
          simp only [entryRow] at hdf
          refine Tr.wk (Wk.ice 3 (cs := entryRow ⟨ek, eq, en, ei, ⟨ep, eb⟩⟩) (by rfl) rfl) ?_
          refine Tr.wk (Wk.focus 5000 5001 (pre := pre) (rp := [.str qn.data.toList, .int .i64 ql]) (rq := []) (post := post) (rs' := qi.map itemRow) rfl q0 rfl rfl) ?_
          refine evC_sound hX (fun _ => {}) _ _ _ ?_
          simp only [hpl, entryRow]
          simp (disch := omega) only [go_sem, Nat.reduceLeDiff, reduceCtorEq, Nat.reduceAdd, Nat.reduceSub, Nat.reduceMul, Nat.reduceLT, Nat.reduceEqDiff, Int.reduceEq, Int.reduceLE, Int.reduceLT, Int.reducePow, Int.reduceMul, Int.reduceToNat, Int.reduceNeg, ↓reduceIte, hD, hG', wrap64, g2, g3, e1, e2, e3, e4, k0, k1, applyLo, deleteMQ, gd, applyM, elseM_at, unbox, tmv, Option.some.injEq, exists_eq_left']
          refine RegT.mk [] ?_
          simp (disch := omega) only [go_sem, Nat.reduceLeDiff, reduceCtorEq, Nat.reduceAdd, Nat.reduceSub, Nat.reduceMul, Nat.reduceLT, Nat.reduceEqDiff, Int.reduceEq, Int.reduceLE, Int.reduceLT, Int.reducePow, Int.reduceMul, Int.reduceToNat, Int.reduceNeg, ↓reduceIte, hD, hG', wrap64, g2, g3, e1, e2, e3, e4, k0, k1, applyLo, deleteMQ, gd, hgd, hln, hln1, hset, applyM, elseM_at, hdf, gf, unbox, tmv, Option.some.injEq, exists_eq_left']
          refine ⟨by decide, by omega, by omega, ?_⟩
          refine endK ((Wk.unfocus 5000 8290 (pre := pre) (rp := [.str qn.data.toList, .int .i64 ql]) (rq := []) (post := post) (y0 := .junk) (rs' := (qi.filter (keptI ei)).map itemRow) rfl rfl rfl rfl (by simp [focHas, hpl])).trans (Wk.flat 5000 rfl)) [5000] [] (by simp) rfl rfl rfl ?_ ?_ <;> simp only [go_sem, Nat.reduceEqDiff]
          have hrr : r = ⟨l.set kn (goneQ ⟨qn, ql, qi⟩ ei), next⟩ := by rw [hr]; simp [applyK, hj4, show qAt ⟨l, next⟩ kn = ⟨qn, ql, qi⟩ from hq]
          rw [hrr, q5]
          simp [goneQ, queueRow, cov, covs, subs, names, namess]
        have e1 : (ek == 1) = false := by simp [hj1]
        have e2 : (ek == 2) = false := by simp [hj2]
        have e3 : (ek == 3) = false := by simp [hj3]
        have e4 : (ek == 4) = false := by simp [hj4]
        refine evC_sound hX (fun _ => {}) _ _ _ ?_
        simp (disch := omega) only [go_sem, Nat.reduceLeDiff, reduceCtorEq, Nat.reduceAdd, Nat.reduceSub, Nat.reduceMul, Nat.reduceLT, Nat.reduceEqDiff, Int.reduceEq, Int.reduceLE, Int.reduceLT, Int.reducePow, Int.reduceMul, Int.reduceToNat, Int.reduceNeg, ↓reduceIte, hD, hG', wrap64, g2, g3, e1, e2, e3, e4, k0, k1, applyLo, deleteMQ, gd, unbox, tmv, Option.some.injEq, exists_eq_left']
        iterate 8 (try (first | (refine RegT.mk [] ?_; simp (disch := omega) only [go_sem, Nat.reduceLeDiff, reduceCtorEq, Nat.reduceAdd, Nat.reduceSub, Nat.reduceMul, Nat.reduceLT, Nat.reduceEqDiff, Int.reduceEq, Int.reduceLE, Int.reduceLT, Int.reducePow, Int.reduceMul, Int.reduceToNat, Int.reduceNeg, ↓reduceIte, hD, hG', wrap64, g2, g3, e1, e2, e3, e4, k0, k1, applyLo, deleteMQ, gd, unbox, tmv, Option.some.injEq, exists_eq_left']) | (refine evC_sound hX (fun _ => {}) _ _ _ ?_; simp (disch := omega) only [go_sem, Nat.reduceLeDiff, reduceCtorEq, Nat.reduceAdd, Nat.reduceSub, Nat.reduceMul, Nat.reduceLT, Nat.reduceEqDiff, Int.reduceEq, Int.reduceLE, Int.reduceLT, Int.reducePow, Int.reduceMul, Int.reduceToNat, Int.reduceNeg, ↓reduceIte, hD, hG', wrap64, g2, g3, e1, e2, e3, e4, k0, k1, applyLo, deleteMQ, gd, unbox, tmv, Option.some.injEq, exists_eq_left'])))
        refine endK (Wk.flat 5000 rfl) [5000] [] (by simp) rfl rfl rfl ?_ ?_ <;> simp only [go_sem, Nat.reduceEqDiff]
        rw [hr]
        simp [applyK, hk, hk', hj1, hj2, hj3, hj4, cov, covs, subs, names, namess]
  exact hcon _ rfl
end Go.Proofs.Ythbejciebmkclaa.Ab
namespace Go.Proofs.Ythbejciebmkclaa.Ab
open Go Go.RowKit
set_option linter.unusedVariables false
set_option linter.unusedSimpArgs false

end Go.Proofs.Ythbejciebmkclaa.Ab
namespace Go.Proofs.Ythbejciebmkclaa.Ab
open Go Go.RowKit
set_option linter.unusedVariables false
set_option linter.unusedSimpArgs false

section
variable {w : World} {im : Nat → Prop} {ρ : Env}
theorem rel_log {l : List UInt8} {s : Int} {v : Value} (h : Rel w im ρ (.agg [.sl 1 (l.map byteRow), .int .i64 s]) v) : ∃ A c, v = .agg #[.slice A l.length c, .int .i64 s] ∧ l.length ≤ c ∧ c ≤ maxLen ∧ RBytes w im A l := by
  obtain ⟨a, b, rfl, ⟨_, h1⟩, _, h2⟩ := rel_agg2 h
  obtain ⟨A, c, rfl, q1, q2, q3⟩ := rel_bytes h1
  exact ⟨A, c, by rw [h2.int_], q1, q2, q3⟩
end
theorem own_bytes {w w' : World} {im : Nat → Prop} {ρ : Env} {A : Option Addr} {c e : Nat} {l : List UInt8} (h : w'.ownsRow w.heap.size e 1 (.slice A l.length c) l.length (l.map byteV)) :
    Rel w' (fun b => b < w'.heap.size ∧ (im b ∨ w.heap.size ≤ b)) ρ (.sl 1 (l.map byteRow)) (.slice A l.length c) := by
  obtain ⟨A2, c2, e2, q1, q2, q3⟩ := own_reads h
  cases e2
  exact bytes_rel q1 q2 (q3.mono fun b hb => ⟨hb.2.1, .inr hb.1⟩)
theorem own_log {w w' : World} {im : Nat → Prop} {ρ : Env} {A : Option Addr} {c e : Nat} {l : List UInt8} {s : Int} (h : w'.ownsRow w.heap.size e 1 (.slice A l.length c) l.length (l.map byteV)) :
    Rel w' (fun b => b < w'.heap.size ∧ (im b ∨ w.heap.size ≤ b)) ρ (.agg [.sl 1 (l.map byteRow), .int .i64 s]) (.agg #[.slice A l.length c, .int .i64 s]) :=
  agg2_rel rfl rfl (own_bytes h) (.int _ _)

theorem con_append (l : List UInt8) (s : Int) (rs : List (List UInt8)) (hl : l.length + (rs.map frameS).flatten.length ≤ 8388608) (hr : rs.length ≤ 1048576) :
    Con Try.prog D 86 [.agg [.sl 1 (l.map byteRow), .int .i64 s], .sl 1 (rs.map recRow)] ⟨.tup [.agg [.sl 1 ((appendS ⟨l, s⟩ rs).1.bytes.map byteRow), .int .i64 (appendS ⟨l, s⟩ rs).1.sure], .int .i64 (appendS ⟨l, s⟩ rs).2], []⟩ := by
  refine con_below Try.func86 (by decide) rfl (by simp [names, namess]) fun w im ρ vs him hvs => ?_
  obtain ⟨v, u, rfl, hv, hu⟩ := rels_two hvs
  obtain ⟨A, c, rfl, h1, h2, h3⟩ := rel_log hv
  obtain ⟨A', c', rfl, h1', h2', h3'⟩ := rel_recs hu
  exact (append_any ⟨l, s⟩ rs A A' c c' w hl hr (h3.mono him) (h3'.mono him him)).mono fun e w' ⟨A1, c1, he, hown, hb⟩ => ⟨_, he, hb, tup2_rel (own_log hown) (.int _ _)⟩

/-! rows of the table -/
theorem one_inj {l m : List UInt8} (h : [AV.sl 1 (l.map byteRow)] = [AV.sl 1 (m.map byteRow)]) : l = m := by
  simp only [List.cons.injEq, AV.sl.injEq, true_and, and_true] at h
  exact bytes_inj h
theorem log_inj {l m : List UInt8} {s t : Int} (h : AV.agg [.sl 1 (l.map byteRow), .int .i64 s] = AV.agg [.sl 1 (m.map byteRow), .int .i64 t]) : l = m ∧ s = t := by
  simp only [AV.agg.injEq, List.cons.injEq, AV.sl.injEq, AV.int.injEq, true_and, and_true] at h
  exact ⟨bytes_inj h.1, h.2⟩
def eAppend : Ent Try.prog D := ⟨86, (List UInt8 × Int) × List (List UInt8), fun x => [.agg [.sl 1 (x.1.1.map byteRow), .int .i64 x.1.2], .sl 1 (x.2.map recRow)], fun x => x.1.1.length + (x.2.map frameS).flatten.length ≤ 8388608 ∧ x.2.length ≤ 1048576,
  fun x => ⟨.tup [.agg [.sl 1 ((appendS ⟨x.1.1, x.1.2⟩ x.2).1.bytes.map byteRow), .int .i64 (appendS ⟨x.1.1, x.1.2⟩ x.2).1.sure], .int .i64 (appendS ⟨x.1.1, x.1.2⟩ x.2).2], []⟩, fun x y _ _ h => by
    simp only [List.cons.injEq, AV.sl.injEq, true_and, and_true] at h
    obtain ⟨h1, h2⟩ := log_inj h.1
    rw [h1, h2, recs_inj h.2], fun x h => con_append _ _ _ h.1 h.2⟩
def eRecords : Ent Try.prog D := ⟨73, List UInt8, fun l => [.sl 1 (l.map byteRow)], fun l => l.length ≤ 8388608, fun l => ⟨.tup [.sl 1 ((recsS l).1.map recRow), .int .i64 (recsS l).2], []⟩, fun x y _ _ h => by rw [one_inj h], con_records⟩

/-! the document's Records, by what is left -/

end Go.Proofs.Ythbejciebmkclaa.Ab
namespace Go.Proofs.Ythbejciebmkclaa
set_option linter.unusedVariables false
set_option linter.unusedSimpArgs false

def flatS (X : List (List UInt8)) : List UInt8 := (X.map frameS).flatten
theorem flatS_cons (r : List UInt8) (X : List (List UInt8)) : flatS (r :: X) = frameS r ++ flatS X := by simp [flatS]

theorem byteOf_toNat (n : Nat) : (byteOf n).toNat = n % 256 := by simp [byteOf]
theorem frameS_eq (r : List UInt8) : frameS r = byteOf (r.length / 256) :: byteOf r.length :: (r ++ [byteOf (sumS (byteOf (r.length / 256) :: byteOf r.length :: r) / 256), byteOf (sumS (byteOf (r.length / 256) :: byteOf r.length :: r))]) := by simp [frameS]
theorem headS_frame (r t : List UInt8) (h : r.length ≤ 65535) : headS (frameS r ++ t) = r.length := by
  rw [frameS_eq]
  simp only [headS, List.cons_append, List.getD_cons_zero, List.getD_cons_succ, byteOf_toNat]
  omega
theorem getD_mid (a b t : List UInt8) (x : UInt8) (n : Nat) (hn : n = a.length) : (a ++ x :: t).getD n 0 = x := by
  subst hn
  simp [List.getD_eq_getElem?_getD]
theorem okS_frame (r t : List UInt8) (h : r.length ≤ 65535) : okS (frameS r ++ t) = true := by
  have hh := headS_frame r t h
  have hs := sumS_lt (byteOf (r.length / 256) :: byteOf r.length :: r)
  have hlen : (frameS r ++ t).length = r.length + 4 + t.length := by rw [List.length_append, frameS_len]
  generalize hS : sumS (byteOf (r.length / 256) :: byteOf r.length :: r) = s at hs
  have e : frameS r ++ t = (byteOf (r.length / 256) :: byteOf r.length :: r) ++ byteOf (s / 256) :: byteOf s :: t := by
    rw [frameS_eq, hS]; simp
  have h1 : (frameS r ++ t).getD (r.length + 2) 0 = byteOf (s / 256) := by rw [e]; exact getD_mid _ [] _ _ _ (by simp)
  have h2 : (frameS r ++ t).getD (r.length + 3) 0 = byteOf s := by
    rw [e, show (byteOf (r.length / 256) :: byteOf r.length :: r) ++ byteOf (s / 256) :: byteOf s :: t = ((byteOf (r.length / 256) :: byteOf r.length :: r) ++ [byteOf (s / 256)]) ++ byteOf s :: t by simp]
    exact getD_mid _ [] _ _ _ (by simp)
  have h3 : (frameS r ++ t).take (r.length + 2) = byteOf (r.length / 256) :: byteOf r.length :: r := by
    rw [e]
    exact List.take_left' (by simp)
  simp only [okS, hh, hlen, h1, h2, h3, hS, byteOf_toNat, Bool.and_eq_true, decide_eq_true_eq]
  omega
theorem recsS_frame (r t : List UInt8) (h : r.length ≤ 65535) : recsS (frameS r ++ t) = (r :: (recsS t).1, r.length + 4 + (recsS t).2) := by
  have e : frameS r ++ t = (byteOf (r.length / 256) :: byteOf r.length :: r) ++ (byteOf (sumS (byteOf (r.length / 256) :: byteOf r.length :: r) / 256) :: byteOf (sumS (byteOf (r.length / 256) :: byteOf r.length :: r)) :: t) := by
    rw [frameS_eq]; simp
  have h1 : ((frameS r ++ t).take (r.length + 2)).drop 2 = r := by
    rw [e, List.take_left' (by simp)]
    rfl
  have h2 : (frameS r ++ t).drop (r.length + 4) = t := List.drop_left' (frameS_len r)
  rw [recsS_yes (okS_frame r t h), headS_frame r t h, h1, h2]
/-- records behind one another -/
theorem recsS_flat : ∀ (X : List (List UInt8)), (∀ r ∈ X, r.length ≤ 65535) → recsS (flatS X) = (X, (flatS X).length)
  | [], _ => rfl
  | r :: X, h => by
    rw [flatS_cons, recsS_frame r _ (h r (List.mem_cons_self ..)), recsS_flat X fun x hx => h x (List.mem_cons_of_mem _ hx)]
    simp [frameS_len]
end Go.Proofs.Ythbejciebmkclaa
