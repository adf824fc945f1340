/-
  The walks of both texts' Sum and Frame: what they return.
  No condition but that the bytes are no more than 2^24.
-/
import Derived.Test.YtcgdjdlcecnanaaChecked
import Derived.Test.YtcgdjdlcecnanaaNoteC
namespace Go.Proofs.Ytcgdjdlcecnanaa
open Go.RowKit
set_option linter.unusedSimpArgs false
set_option linter.unusedVariables false

theorem sum_any (l : List UInt8) (n : Nat) (hn : n = l.length) (A : Option Addr) (c : Nat) (w : World) (hl : l.length ≤ 16777216) (hr : RBytes w (· < w.heap.size) A l) :
    Calls Try.prog 15 #[.slice A n c] w fun e w' => e = .returned (.int .i64 (sumS l)) ∧ w = w' := by
  subst hn
  have HC := Lib.hid hr
  clear hr
  go_enter Try.func15, Try.ntmps15
  go_wp2
  go_loop [3, 5, 8] (fun s _ i => ∃ k : Nat, k ≤ l.length ∧ i = .int .i64 k ∧ s = .int .i64 (sumS (l.take k))) (fun _ _ i => l.length - (intOf i).toNat)
  case atStart => exact ⟨0, Nat.zero_le _, rfl, rfl⟩
  case round =>
    obtain ⟨k, hk, rfl, rfl⟩ := hrel
    by_cases hlt : k < l.length
    · obtain ⟨b, o, rfl, _, hc⟩ := HC.out.at_ (by omega)
      have h1 := hc k hlt
      have h2 := sumS_lt (l.take k)
      have h3 : l[k].toNat < 256 := UInt8.toNat_lt _
      have h4 : sumS (l.take (k+1)) = (sumS (l.take k) * 33 + l[k].toNat + 1) % 65521 := by
        rw [List.take_succ_eq_append_getElem hlt, sumS_snoc]
      have H4 := Lib.hid h4
      clear h4 hc
      go_wp2
      go_round
      case rel => exact ⟨k + 1, by omega, by go_num, by rw [H4.out]; go_num⟩
      case measure => simp [intOf]; omega
    · go_wp2
      go_ret
      exact ⟨ret_int (by rw [List.take_of_length_le (by omega)]), rfl⟩

theorem refsum_any (l : List UInt8) (n : Nat) (hn : n = l.length) (A : Option Addr) (c : Nat) (w : World) (hl : l.length ≤ 16777216) (hr : RBytes w (· < w.heap.size) A l) :
    Calls Try.prog 16 #[.slice A n c] w fun e w' => e = .returned (.int .i64 (sumS l)) ∧ w = w' := by
  subst hn
  have HC := Lib.hid hr
  clear hr
  go_enter Try.func16, Try.ntmps16
  go_wp2
  go_loop [3, 5, 8] (fun s _ i => ∃ k : Nat, k ≤ l.length ∧ i = .int .i64 k ∧ s = .int .i64 (sumS (l.take k))) (fun _ _ i => l.length - (intOf i).toNat)
  case atStart => exact ⟨0, Nat.zero_le _, rfl, rfl⟩
  case round =>
    obtain ⟨k, hk, rfl, rfl⟩ := hrel
    by_cases hlt : k < l.length
    · obtain ⟨b, o, rfl, _, hc⟩ := HC.out.at_ (by omega)
      have h1 := hc k hlt
      have h2 := sumS_lt (l.take k)
      have h3 : l[k].toNat < 256 := UInt8.toNat_lt _
      have h4 : sumS (l.take (k+1)) = (33 * sumS (l.take k) + l[k].toNat + 1) % 65521 := by
        rw [List.take_succ_eq_append_getElem hlt, sumS_snoc, Nat.mul_comm]
      have H4 := Lib.hid h4
      clear h4 hc
      go_wp2
      go_round
      case rel => exact ⟨k + 1, by omega, by go_num, by rw [H4.out]; go_num⟩
      case measure => simp [intOf]; omega
    · go_wp2
      go_ret
      exact ⟨ret_int (by rw [List.take_of_length_le (by omega)]), rfl⟩


/-- a header's two bytes, as the walk has them -/
theorem two_lit (n : Nat) (hn : n < 65536) : [Value.int .u8 ((n : Int) / 256), .int .u8 ((n : Int) % 256)] = [byteOf (n / 256), byteOf n].map byteV := by
  simp only [byteOf, List.map_cons, List.map_nil, byteV_of]
  rw [Nat.mod_eq_of_lt (show n / 256 < 256 by omega)]
  simp
theorem Reads.of_eq {w : World} {S : Nat → Prop} {size n m : Nat} {A : Option Addr} {xs ys : List Value} (h : Reads w S size A n xs) (e1 : n = m) (e2 : xs = ys) : Reads w S size A m ys := by subst e1 e2; exact h
theorem own_of_eq {w : World} {base e size n m : Nat} {v : Value} {xs ys : List Value} (h : w.ownsRow base e size v n xs) (e1 : n = m) (e2 : xs = ys) : w.ownsRow base e size v m ys := by subst e1 e2; exact h

theorem frame_any (l : List UInt8) (n : Nat) (hn : n = l.length) (A : Option Addr) (c : Nat) (w : World) (hl : l.length ≤ 65535) (hr : RBytes w (· < w.heap.size) A l) :
    Calls Try.prog 17 #[.slice A n c] w fun e w' => ∃ A1 c1, e = .returned (.slice A1 (l.length + 4) c1) ∧ w'.ownsRow w.heap.size 5 1 (.slice A1 (l.length + 4) c1) (l.length + 4) ((frameS l).map byteV) ∧ Below w.heap.size w w' := by
  subst hn
  obtain ⟨i0, hi0, hz0, hz1, hz2⟩ := info_parts info_u8
  have HR := Lib.hid hr
  clear hr
  have hs := sumS_lt (byteOf (l.length / 256) :: byteOf l.length :: l)
  have HF : Hid (frameS l = ([byteOf (l.length / 256), byteOf l.length] ++ l) ++ [byteOf (sumS (byteOf (l.length / 256) :: byteOf l.length :: l) / 256), byteOf (sumS (byteOf (l.length / 256) :: byteOf l.length :: l))]) := Lib.hid rfl
  generalize hq : sumS (byteOf (l.length / 256) :: byteOf l.length :: l) = q at *
  have HQ := Lib.hid hq
  clear hq
  go_enter Try.func17, Try.ntmps17
  go_wp2_with (at_builtin; refine wpList_append_any _ rfl (.tmp 12) (.tmp 13) _ rfl w.heap.size 5 i0 _ 1 1 Try.underlying22 hi0 hz0 hz1 hz2 rfl (by omega) (.slice (some ⟨w.heap.size, 0, none⟩) 2 2) 2 _ rfl (own_lit _ _ _ _ _ rfl (by simp only [maxLen]; omega)) (· < w.heap.size) A l.length c _ rfl (Reads.keep HR.out (Kept.below (below_alloc (Below.refl _ _) _) (fun _ h => h))) (one_bytes _) (by simp only [maxLen]; omega) (by omega) (by simp) ?_; intro v1 w1 hown1 hg1 hat1; obtain ⟨A1, c1, rfl, hc11, hc12, hr1⟩ := own_reads hown1)
  have hb1 : Below w.heap.size w w1 := below_grown (below_alloc (Below.refl _ _) _) hg1 (by simp [Value.ownBlock])
  have e1 := two_lit l.length (by omega)
  have r1 : RBytes w1 (· < w1.heap.size) A1 ([byteOf (l.length / 256), byteOf l.length] ++ l) := (hr1.mono fun b h => h.2.1).of_eq (by simp; omega) (by rw [List.map_append, ← e1])
  have HO := Lib.hid (own_of_eq hown1 rfl (show _ = ([byteOf (l.length / 256), byteOf l.length] ++ l).map byteV by rw [List.map_append, ← e1]))
  have hlt1 := hown1.lt
  clear hown1 hg1 hat1 hr1 e1
  refine (sum_any _ _ (by simp; omega) _ _ _ (by simp; omega) r1).mono ?_
  rw [show sumS ([byteOf (l.length / 256), byteOf l.length] ++ l) = q from HQ.out]
  rintro e w2 ⟨rfl, rfl⟩
  clear r1
  go_wp2_with (at_builtin; refine wpList_append_any _ rfl (.tmp 17) (.tmp 23) _ rfl w.heap.size 5 i0 _ 1 1 Try.underlying22 hi0 hz0 hz1 hz2 rfl (by omega) (.slice A1 (2 + l.length) c1) (2 + l.length) _ rfl (HO.out.alloc _) (· = w1.heap.size) (some ⟨w1.heap.size, 0, none⟩) 2 2 _ rfl (reads_lit _ _ _ _ 2 rfl) (by rw [two_lit q (by omega)]; exact one_bytes _) (by simp only [maxLen]; omega) (by omega) (by have := hb1.size; simp; omega) ?_; intro v2 w2 hown2 hg2 hat2; obtain ⟨A2, c2, rfl, hc21, hc22, hr2⟩ := own_reads hown2)
  go_ret
  rw [two_lit q (by omega), ← List.map_append, ← HF.out, show 2 + l.length + 2 = l.length + 4 from by omega] at hown2
  exact ⟨A2, c2, by simp; omega, hown2, below_grown (below_alloc hb1 _) hg2 (fun k hk => (hlt1 k hk).1)⟩
theorem refframe_any (l : List UInt8) (n : Nat) (hn : n = l.length) (A : Option Addr) (c : Nat) (w : World) (hl : l.length ≤ 65535) (hr : RBytes w (· < w.heap.size) A l) :
    Calls Try.prog 18 #[.slice A n c] w fun e w' => ∃ A1 c1, e = .returned (.slice A1 (l.length + 4) c1) ∧ w'.ownsRow w.heap.size 5 1 (.slice A1 (l.length + 4) c1) (l.length + 4) ((frameS l).map byteV) ∧ Below w.heap.size w w' := by
  subst hn
  obtain ⟨i0, hi0, hz0, hz1, hz2⟩ := info_parts info_u8
  have HR := Lib.hid hr
  clear hr
  have hs := sumS_lt (byteOf (l.length / 256) :: byteOf l.length :: l)
  have HF : Hid (frameS l = ([byteOf (l.length / 256), byteOf l.length] ++ l) ++ [byteOf (sumS (byteOf (l.length / 256) :: byteOf l.length :: l) / 256), byteOf (sumS (byteOf (l.length / 256) :: byteOf l.length :: l))]) := Lib.hid rfl
  generalize hq : sumS (byteOf (l.length / 256) :: byteOf l.length :: l) = q at *
  have HQ := Lib.hid hq
  clear hq
  go_enter Try.func18, Try.ntmps18
  go_wp2_with (at_builtin; refine wpList_append_any _ rfl (.tmp 13) (.tmp 14) _ rfl w.heap.size 5 i0 _ 1 1 Try.underlying22 hi0 hz0 hz1 hz2 rfl (by omega) (.slice (some ⟨w.heap.size, 0, none⟩) 2 2) 2 _ rfl (own_lit _ _ _ _ _ rfl (by simp only [maxLen]; omega)) (· < w.heap.size) A l.length c _ rfl (Reads.keep HR.out (Kept.below (below_alloc (Below.refl _ _) _) (fun _ h => h))) (one_bytes _) (by simp only [maxLen]; omega) (by omega) (by simp) ?_; intro v1 w1 hown1 hg1 hat1; obtain ⟨A1, c1, rfl, hc11, hc12, hr1⟩ := own_reads hown1)
  have hb1 : Below w.heap.size w w1 := below_grown (below_alloc (Below.refl _ _) _) hg1 (by simp [Value.ownBlock])
  have e1 := two_lit l.length (by omega)
  have r1 : RBytes w1 (· < w1.heap.size) A1 ([byteOf (l.length / 256), byteOf l.length] ++ l) := (hr1.mono fun b h => h.2.1).of_eq (by simp; omega) (by rw [List.map_append, ← e1])
  have HO := Lib.hid (own_of_eq hown1 rfl (show _ = ([byteOf (l.length / 256), byteOf l.length] ++ l).map byteV by rw [List.map_append, ← e1]))
  have hlt1 := hown1.lt
  clear hown1 hg1 hat1 hr1 e1
  refine (refsum_any _ _ (by simp; omega) _ _ _ (by simp; omega) r1).mono ?_
  rw [show sumS ([byteOf (l.length / 256), byteOf l.length] ++ l) = q from HQ.out]
  rintro e w2 ⟨rfl, rfl⟩
  clear r1
  go_wp2_with (at_builtin; refine wpList_append_any _ rfl (.tmp 18) (.tmp 25) _ rfl w.heap.size 5 i0 _ 1 1 Try.underlying22 hi0 hz0 hz1 hz2 rfl (by omega) (.slice A1 (2 + l.length) c1) (2 + l.length) _ rfl (HO.out.alloc _) (· = w1.heap.size) (some ⟨w1.heap.size, 0, none⟩) 2 2 _ rfl (reads_lit _ _ _ _ 2 rfl) (by rw [two_lit q (by omega)]; exact one_bytes _) (by simp only [maxLen]; omega) (by omega) (by have := hb1.size; simp; omega) ?_; intro v2 w2 hown2 hg2 hat2; obtain ⟨A2, c2, rfl, hc21, hc22, hr2⟩ := own_reads hown2)
  go_ret
  rw [two_lit q (by omega), ← List.map_append, ← HF.out, show 2 + l.length + 2 = l.length + 4 from by omega] at hown2
  exact ⟨A2, c2, by simp; omega, hown2, below_grown (below_alloc hb1 _) hg2 (fun k hk => (hlt1 k hk).1)⟩
theorem samelog_any (a b : LLog) (A A' : Option Addr) (c c' : Nat) (w : World) (hr : RBytes w (· < w.heap.size) A a.bytes) (hr' : RBytes w (· < w.heap.size) A' b.bytes) :
    Calls Try.prog 19 #[.agg #[.slice A a.bytes.length c, .int .i64 a.sure], .agg #[.slice A' b.bytes.length c', .int .i64 b.sure]] w fun e w' => e = .returned (.bool (decide (a = b))) ∧ Below w.heap.size w w' := by
  obtain ⟨l, s⟩ := a
  obtain ⟨m, t⟩ := b
  simp only at hr hr' ⊢
  have HR := Lib.hid hr
  have HR' := Lib.hid hr'
  clear hr hr'
  generalize hq : decide ((⟨l, s⟩ : LLog) = ⟨m, t⟩) = q
  have HQ := Lib.hid hq
  clear hq
  go_enter Try.func19, Try.ntmps19
  go_wp2_with (first
    | (refine wpList_string_of_bytes _ rfl (.tmp 6) 22 9 5 rfl Try.underlying22 Try.underlying5 Try.underlying9 _ A _ c l rfl rfl (Reads.later HR.out (by repeat (first | exact Below.refl _ _ | apply below_alloc | apply Below.drew | apply below_drewN))) ?_)
    | (refine wpList_string_of_bytes _ rfl (.tmp 9) 22 9 5 rfl Try.underlying22 Try.underlying5 Try.underlying9 _ A' _ c' m rfl rfl (Reads.later HR'.out (by repeat (first | exact Below.refl _ _ | apply below_alloc | apply Below.drew | apply below_drewN))) ?_))
  all_goals go_ret
  · rename_i h
    exact ⟨ret_bool (by rw [← HQ.out, h, Bool.eq_iff_iff]; simp), (by repeat (first | exact Below.refl _ _ | apply below_alloc | apply Below.drew | apply below_drewN))⟩
  · rename_i h
    exact ⟨ret_bool (by rw [← HQ.out]; simp [h]), (by repeat (first | exact Below.refl _ _ | apply below_alloc | apply Below.drew | apply below_drewN))⟩

/-- store.Own: a copy -/
theorem logown_any (a : LLog) (A : Option Addr) (n : Nat) (hn : n = a.bytes.length) (c : Nat) (w : World) (hl : a.bytes.length ≤ 8388608) (hr : RBytes w (· < w.heap.size) A a.bytes) :
    Calls Try.prog 20 #[.agg #[.slice A n c, .int .i64 a.sure]] w fun e w' => ∃ A1 c1, e = .returned (.agg #[.slice A1 a.bytes.length c1, .int .i64 a.sure]) ∧
      w'.ownsRow w.heap.size 5 1 (.slice A1 a.bytes.length c1) a.bytes.length (a.bytes.map byteV) ∧ Below w.heap.size w w' := by
  subst hn
  obtain ⟨l, s⟩ := a
  simp only at hl hr ⊢
  have HR := Lib.hid hr
  clear hr
  go_enter Try.func20, Try.ntmps20
  go_wp2_with fail
  go_region_held3 (fun w' => w'.cell? ⟨w.heap.size, 0, none⟩ = some (.slice A l.length c) ∧ w'.cell? ⟨w.heap.size, 1, none⟩ = some (.int .i64 s)) (first | (refine ⟨?_, ?_⟩ <;> assumption) | go_keep)
    (first
      | (go_at_call 72; refine (clone_bytes _ _ rfl _ _ _ (by omega) (Reads.later HR.out (by repeat (first | exact Below.refl _ _ | apply below_alloc | apply Below.drew | apply below_drewN)))).mono ?_; rintro e w1 ⟨A1, c1, rfl, hown1, hb1⟩; have s0 : w1.cell? ⟨w.heap.size, 0, none⟩ = some (.slice A l.length c) := cell_later hb1 (by first | (simp; done) | assumption); have s1 : w1.cell? ⟨w.heap.size, 1, none⟩ = some (.int .i64 s) := cell_later hb1 (by first | (simp; done) | assumption); obtain ⟨hc1, hf1⟩ := bcell hb1; have hz1 : w.heap.size + 1 < w1.heap.size := by (have := hb1.size; simp at this; omega)))
  go_wp2_with fail
  have q1 := own_set (own_set hown1 (a := ⟨w.heap.size + 1, 0, none⟩) (by simp) (.slice A1 l.length c1)) (a := ⟨w.heap.size + 1, 1, none⟩) (by simp) (.int .i64 s)
  have hb9 : Below w.heap.size w w1 := below_trans (by repeat (first | exact Below.refl _ _ | apply below_alloc | apply Below.drew | apply below_drewN)) hb1
  refine bodyPost_ret (v := .agg #[.slice A1 l.length c1, .int .i64 s]) (by simp [results, Try.results20, go_sem, hc1, hz1]) rfl ⟨A1, c1, rfl, own_mono q1 (by simp; omega), below_set (below_set hb9 (by simp) _) (by simp) _⟩


end Go.Proofs.Ytcgdjdlcecnanaa
