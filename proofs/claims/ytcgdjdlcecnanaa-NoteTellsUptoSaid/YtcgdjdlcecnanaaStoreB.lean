/-
  The walks of store.Sync and of both texts' Append of logs: what they return.
  No condition but that what comes out is no more than 2^23 bytes.
-/
import Derived.Test.YtcgdjdlcecnanaaStoreA
import Derived.Deep.RegionLaw
namespace Go.Proofs.Ytcgdjdlcecnanaa
open Go.RowKit
set_option linter.unusedSimpArgs false
set_option linter.unusedVariables false

theorem sync_any (a : LLog) (A : Option Addr) (n : Nat) (hn : n = a.bytes.length) (c : Nat) (w : World) (hl : a.bytes.length ≤ 8388608) (hr : RBytes w (· < w.heap.size) A a.bytes) :
    Calls Try.prog 21 #[.agg #[.slice A n c, .int .i64 a.sure]] w fun e w' => ∃ A1 c1, e = .returned (.agg #[.slice A1 a.bytes.length c1, .int .i64 a.bytes.length]) ∧
      w'.ownsRow w.heap.size 5 1 (.slice A1 a.bytes.length c1) a.bytes.length (a.bytes.map byteV) ∧ Below w.heap.size w w' := by
  subst hn
  have HR := Lib.hid hr
  clear hr
  go_enter Try.func21, Try.ntmps21
  go_wp2_with (go_at_call 20; refine (logown_any a _ _ rfl _ _ hl (Reads.later HR.out (by repeat (first | exact Below.refl _ _ | apply below_alloc | apply Below.drew | apply below_drewN)))).mono ?_; rintro e w1 ⟨A1, c1, rfl, hown1, hb1⟩; obtain ⟨hc1, hf1⟩ := bcell hb1; have hz1 : w.heap.size + 1 < w1.heap.size := by (have := hb1.size; simp at this; omega))
  have hb9 : Below w.heap.size w w1 := below_trans (by repeat (first | exact Below.refl _ _ | apply below_alloc | apply Below.drew | apply below_drewN)) hb1
  have q1 := (own_set (own_set hown1 (a := ⟨w.heap.size + 1, 0, none⟩) (by simp) (.slice A1 a.bytes.length c1)) (a := ⟨w.heap.size + 1, 1, none⟩) (by simp) (.int .i64 a.bytes.length)).alloc (.cells #[.slice A1 a.bytes.length c1, .int .i64 a.bytes.length] 24)
  exact bodyPost_ret (v := .agg #[.slice A1 a.bytes.length c1, .int .i64 a.bytes.length]) (by simp [results, Try.results21, go_sem, hc1, hz1]) rfl ⟨A1, c1, rfl, own_mono q1 (by simp; omega), below_alloc (below_set (below_set hb9 (by simp) _) (by simp) _) _⟩

theorem frames_take (l : List UInt8) (rs : List (List UInt8)) (k : Nat) (hk : k < rs.length) : l ++ ((rs.take (k + 1)).map frameS).flatten = (l ++ ((rs.take k).map frameS).flatten) ++ frameS rs[k] := by
  rw [List.take_succ_eq_append_getElem hk, List.map_append, List.flatten_append, List.append_assoc]
  simp
theorem frames_le (rs : List (List UInt8)) : ∀ k, ((rs.take k).map frameS).flatten.length ≤ (rs.map frameS).flatten.length := by
  intro k
  have h := congrArg (fun l => (List.map frameS l).flatten.length) (List.take_append_drop k rs)
  simp only [List.map_append, List.flatten_append, List.length_append] at h
  omega
theorem any_false_take {α : Type} (p : α → Bool) (l : List α) (k : Nat) (hk : k < l.length) (h : (l.take k).any p = false) (hp : p l[k] = false) : (l.take (k + 1)).any p = false := by
  rw [List.take_succ_eq_append_getElem hk, List.any_append, h]
  simp [hp]

set_option maxRecDepth 20000 in
set_option maxHeartbeats 1000000 in
theorem append_any (a : LLog) (rs : List (List UInt8)) (A A' : Option Addr) (c c' : Nat) (w : World) (hl : a.bytes.length + (rs.map frameS).flatten.length ≤ 8388608) (hrl : rs.length ≤ 1048576) (hr : RBytes w (· < w.heap.size) A a.bytes) (hr' : RRecs w (· < w.heap.size) (· < w.heap.size) A' rs) :
    Calls Try.prog 22 #[.agg #[.slice A a.bytes.length c, .int .i64 a.sure], .slice A' rs.length c'] w fun e w' => ∃ A1 c1, e = .returned (.tuple #[.agg #[.slice A1 (appendS a rs).1.bytes.length c1, .int .i64 (appendS a rs).1.sure], .int .i64 (appendS a rs).2]) ∧
      w'.ownsRow w.heap.size 5 1 (.slice A1 (appendS a rs).1.bytes.length c1) (appendS a rs).1.bytes.length ((appendS a rs).1.bytes.map byteV) ∧ Below w.heap.size w w' := by
  obtain ⟨i0, hi0, hz0, hz1, hz2⟩ := info_parts info_u8
  obtain ⟨l, s⟩ := a
  simp only at hl hr ⊢
  have HR := Lib.hid hr
  have HR' := Lib.hid hr'
  have HL := Lib.hid hl
  have hl1 : l.length ≤ 8388608 := by omega
  generalize hq : appendS ⟨l, s⟩ rs = q
  have HQ := Lib.hid hq
  clear hr hr' hl hq
  go_enter Try.func22, Try.ntmps22
  go_wp2_with (go_at_call 20; refine (logown_any ⟨l, s⟩ _ _ rfl _ _ hl1 (Reads.later HR.out (by repeat (first | exact Below.refl _ _ | apply below_alloc | apply Below.drew | apply below_drewN)))).mono ?_; rintro e w1 ⟨A1, c1, rfl, hown1, hb1⟩; obtain ⟨hc1, hf1⟩ := bcell hb1; have hz1' : w.heap.size + 1 < w1.heap.size := by (have := hb1.size; simp at this; omega))
  have hg6 : w.heap.size + 1 < w1.heap.size := by have := hb1.size; simp at this; omega
  have hb9 : Below w.heap.size w w1 := below_trans (by repeat (first | exact Below.refl _ _ | apply below_alloc | apply Below.drew | apply below_drewN)) hb1
  have hblk4 : Blk w1 (w.heap.size + 1) 24 #[.slice none 0 0, .int .i64 0] := Blk.below (Blk.new_at (w.alloc (.cells #[.slice A l.length c, .int .i64 s] 24)) 24 #[.slice none 0 0, .int .i64 0] (by simp)) hb1 (by simp)
  go_loopw [13] (fun i wr => ∃ (k : Nat) (A2 : Option Addr) (m c2 : Nat), k ≤ rs.length ∧ i = .int .i64 k ∧ Hid ((rs.take k).any (fun r => decide (65535 < r.length)) = false) ∧ Hid (m = (l ++ ((rs.take k).map frameS).flatten).length) ∧
      Blk wr w1.heap.size 24 #[.slice A2 m c2, .int .i64 s] ∧ wr.ownsRow w.heap.size 5 1 (.slice A2 m c2) m ((l ++ ((rs.take k).map frameS).flatten).map byteV) ∧
      Below w.heap.size w wr ∧ Blk wr (w.heap.size + 1) 24 #[.slice none 0 0, .int .i64 0]) (fun i _ => rs.length - (intOf i).toNat)
  case atStart => exact ⟨0, A1, l.length, c1, Nat.zero_le _, rfl, Lib.hid rfl, Lib.hid (by simp), Blk.new _ _ _, by simpa using (own_mono hown1 (by simp; omega)).alloc _, below_alloc hb9 _, hblk4.alloc _⟩
  case round =>
    clear hc1 hf1 hown1 hb1 hblk4 hz1'
    obtain ⟨k, A2, m, c2, hk, rfl, HA, HM, hblk, hown, hb, hblk4⟩ := hrel
    have hg := hblk.lt
    have m0 := hblk.cell 0
    have m1 := hblk.cell 1
    have mf := hblk.frozen 0
    have n0 := hblk4.cell 0
    have n1 := hblk4.cell 1
    have nf0 := hblk4.frozen 0
    have nf1 := hblk4.frozen 1
    simp at m0 m1 n0 n1
    have HO := Lib.hid hown
    clear hown
    have hml : m ≤ 8388608 := by
      have h1 := HM.out
      have h2 := HL.out
      have h3 := frames_le rs k
      rw [h1, List.length_append]
      omega
    by_cases hlt : k < rs.length
    · obtain ⟨b, o, rfl, hS, hcc⟩ := HR'.out.at_ (by omega)
      obtain ⟨A3, c3, f0, hrk, _, _⟩ := hcc k hlt
      have hS' : b < w.heap.size := hS
      have f0' : wr.cell? ⟨b, o + k, none⟩ = some (.slice A3 rs[k].length c3) := (hb.cell hS').trans f0
      have HRK := Lib.hid (Reads.later hrk hb)
      clear f0 hrk hcc
      by_cases hbig : 65535 < rs[k].length
      · have hfin : q = (⟨[], 0⟩, 4) := by
          rw [← HQ.out]
          unfold appendS
          rw [if_pos (List.any_eq_true.2 ⟨rs[k], List.getElem_mem hlt, by simpa using hbig⟩)]
        subst hfin
        go_wp2_with fail
        exact bodyPost_ret (v := .tuple #[.agg #[.slice none 0 0, .int .i64 0], .int .i64 4]) (by simp [results, Try.results22, go_sem, n0, n1]) rfl
          ⟨none, 0, rfl, World.ownsRow_nil _ _ _ _, below_set (below_set hb (by simp) _) (by simp) _⟩
      · have HA1 := Lib.hid (any_false_take (fun r => decide (65535 < r.length)) rs k hlt HA.out (by simpa using hbig))
        have HT := Lib.hid (frames_take l rs k hlt)
        have hrb : rs[k].length ≤ 65535 := by omega
        have hml2 : m + (rs[k].length + 4) ≤ 8388608 := by
          have h1 := HM.out
          have h2 := HL.out
          have h3 := frames_le rs (k + 1)
          have h4 := congrArg List.length HT.out
          rw [List.length_append, List.length_append, frameS_len] at h4
          rw [h1]
          omega
        have HM2 : Hid (m + (rs[k].length + 4) = (l ++ ((rs.take (k + 1)).map frameS).flatten).length) := Lib.hid (by rw [HT.out, List.length_append, frameS_len, ← HM.out])
        go_wp2_with fail
        go_region_law (first
            | ((refine step_call (by rfl) 17 _ _ (by rfl) Try.func17 (by rfl) (by rfl) _ (by rfl) (frame_any _ _ rfl _ _ _ hrb (Reads.later HRK.out (by repeat (first | exact Below.refl _ _ | apply below_alloc | apply Below.drew | apply below_drewN)))) ?_; rintro e w2 ⟨A4, c4, rfl, hown4, hb4⟩; refine ⟨_, rfl, ?_⟩; have hb4' : Below wr.heap.size wr w2 := below_trans (by repeat (first | exact Below.refl _ _ | apply below_alloc | apply Below.drew | apply below_drewN)) hb4; have s0 : w2.cell? ⟨w1.heap.size, 0, none⟩ = some (.slice A2 m c2) := cell_later hb4' m0; obtain ⟨A4', c4', e4, _, _, hrd4⟩ := own_reads hown4; obtain ⟨rfl, rfl⟩ : A4 = A4' ∧ c4 = c4' := (by simpa using e4)))
            | ((refine step_append_any _ rfl (.tmp 22) (.tmp 24) _ (by rfl) w.heap.size 5 i0 _ 1 1 Try.underlying22 hi0 hz0 hz1 hz2 rfl (by omega) (.slice A2 m c2) m _ (by rfl) (own_later HO.out hb4') _ A4 (rs[k].length + 4) c4 _ (by rfl) hrd4 (one_bytes _) (by simp only [maxLen]; omega) (by omega) (Nat.le_trans hb.size hb4'.size) ?_; intro v5 w5 hown5 hg5 hat5; obtain ⟨A5, c5, rfl, _, _, _⟩ := own_reads hown5; have hne5 := own_blk_ne (own_later HO.out hb4') (hblk.later hb4') (by decide); have hblk5 := (hblk.later hb4').grown hg5 (Ne.symm hne5); have s5 : w5.cell? ⟨w1.heap.size, 0, none⟩ = some (.slice A2 m c2) := (by simpa using hblk5.cell 0); have nf5 := hblk5.frozen 0)))
        all_goals
          have hb5 : Below w.heap.size w w5 := below_grown (below_trans hb hb4') hg5 (fun k hk => ((own_later HO.out hb4').lt k hk).1)
          have hne4 := own_blk_ne (own_later HO.out hb4') (hblk4.later hb4') (by decide)
          have hb44 := (hblk4.later hb4').grown hg5 (Ne.symm hne4)
          have hne6 := own_blk_ne hown5 hblk5 (by decide)
          have hown6 := own_kept hown5 (w' := w5.setCell ⟨w1.heap.size, 0, none⟩ (.slice A5 (m + (rs[k].length + 4)) c5)) (fun g hg => Below.heap_setCell _ _ _ _ (fun e => hne6 (by rw [hg, e])))
          have HO6 := Lib.hid hown6
          have HB6 := Lib.hid (hblk5.set_ 0 (.slice A5 (m + (rs[k].length + 4)) c5))
          have HB4 := Lib.hid (hb44.far (p := ⟨w1.heap.size, 0, none⟩) (by show w.heap.size + 1 ≠ w1.heap.size; omega) (.slice A5 (m + (rs[k].length + 4)) c5))
          clear hown5 hown4 hrd4 hown6 hblk5 hb44 hblk4 hblk hat5 hg5 s0 s5 nf5
          go_wp2_with fail
          go_roundw
          case rel => exact ⟨k + 1, A5, m + (rs[k].length + 4), c5, by omega, by go_num, HA1, HM2, by simpa using HB6.out, by rw [HT.out, List.map_append]; exact HO6.out, below_set hb5 (by show _ ≤ w1.heap.size; omega) _, HB4.out⟩
          case measure => simp [intOf]; omega
    · have e : k = rs.length := by omega
      have h1 := HA.out
      have h2 := HM.out
      rw [List.take_of_length_le (by omega)] at h1 h2
      have HO2 := HO.out
      rw [List.take_of_length_le (by omega)] at HO2
      have HO3 := Lib.hid HO2
      clear e HO2
      by_cases hbig : 6000 < m
      · have hfin : q = (⟨[], 0⟩, 8) := by
          rw [← HQ.out]
          unfold appendS
          rw [if_neg (by rw [h1]; decide), if_pos (by rw [← h2]; exact hbig)]
        subst hfin
        clear h1 h2
        go_wp2_with fail
        exact bodyPost_ret (v := .tuple #[.agg #[.slice none 0 0, .int .i64 0], .int .i64 8]) (by simp [results, Try.results22, go_sem, n0, n1]) rfl
          ⟨none, 0, rfl, World.ownsRow_nil _ _ _ _, below_set (below_set hb (by simp) _) (by simp) _⟩
      · have hfin : q = (⟨l ++ (rs.map frameS).flatten, s⟩, 0) := by
          rw [← HQ.out]
          unfold appendS
          rw [if_neg (by rw [h1]; decide), if_neg (by rw [← h2]; exact hbig)]
        have HF := Lib.hid hfin
        have H2 := Lib.hid h2
        have hne4 := own_blk_ne HO.out hblk4 (by decide)
        clear h1 h2 hfin
        have hown6 := own_kept HO3.out (w' := (wr.setCell ⟨w.heap.size + 1, 0, none⟩ (.slice A2 m c2)).setCell ⟨w.heap.size + 1, 1, none⟩ (.int .i64 s)) (fun g hg => (Below.heap_setCell _ _ _ _ (fun e => hne4 (by rw [hg, e]))).trans (Below.heap_setCell _ _ _ _ (fun e => hne4 (by rw [hg, e]))))
        have HO6 := Lib.hid hown6
        clear hown6
        go_wp2_with fail
        refine bodyPost_ret (v := .tuple #[.agg #[.slice A2 m c2, .int .i64 s], .int .i64 0]) (by simp [results, Try.results22, go_sem, n0, n1]) rfl ⟨A2, c2, ?_, ?_, below_set (below_set hb (by simp) _) (by simp) _⟩
        · rw [HF.out]; simp only [← H2.out]
        · rw [HF.out]; simp only [← H2.out]; exact HO6.out
set_option maxRecDepth 20000 in
set_option maxHeartbeats 1000000 in
theorem refappend_any (a : LLog) (rs : List (List UInt8)) (A A' : Option Addr) (c c' : Nat) (w : World) (hl : a.bytes.length + (rs.map frameS).flatten.length ≤ 8388608) (hrl : rs.length ≤ 1048576) (hr : RBytes w (· < w.heap.size) A a.bytes) (hr' : RRecs w (· < w.heap.size) (· < w.heap.size) A' rs) :
    Calls Try.prog 23 #[.agg #[.slice A a.bytes.length c, .int .i64 a.sure], .slice A' rs.length c'] w fun e w' => ∃ A1 c1, e = .returned (.tuple #[.agg #[.slice A1 (appendS a rs).1.bytes.length c1, .int .i64 (appendS a rs).1.sure], .int .i64 (appendS a rs).2]) ∧
      w'.ownsRow w.heap.size 5 1 (.slice A1 (appendS a rs).1.bytes.length c1) (appendS a rs).1.bytes.length ((appendS a rs).1.bytes.map byteV) ∧ Below w.heap.size w w' := by
  obtain ⟨i0, hi0, hz0, hz1, hz2⟩ := info_parts info_u8
  obtain ⟨l, s⟩ := a
  simp only at hl hr ⊢
  have HR := Lib.hid hr
  have HR' := Lib.hid hr'
  have HL := Lib.hid hl
  have hl1 : l.length ≤ 8388608 := by omega
  generalize hq : appendS ⟨l, s⟩ rs = q
  have HQ := Lib.hid hq
  clear hr hr' hl hq
  go_enter Try.func23, Try.ntmps23
  go_wp2_with (at_builtin; (refine wpList_append_any _ rfl (.tmp 9) (.tmp 11) _ rfl w.heap.size 5 i0 _ 1 1 Try.underlying22 hi0 hz0 hz1 hz2 rfl (by omega) (.slice (some ⟨w.heap.size + 2, 0, none⟩) 0 0) 0 [] rfl (own_lit_at _ #[] _ _ _ _ _ (by simp) (Nat.zero_le _) (by simp) (by first | (simp; done) | (simp; omega) | omega)) _ A l.length c _ rfl (Reads.later HR.out (by repeat (first | exact Below.refl _ _ | apply below_alloc | apply Below.drew | apply below_drewN))) (one_bytes _) (by simp only [maxLen]; omega) (by omega) (by first | (simp; done) | (simp; omega) | omega) ?_); intro v1 w1 hown1 hg1 hat1; obtain ⟨A1, c1, rfl, _, _, _⟩ := own_reads hown1)
  have hb1 : Below w.heap.size w w1 := below_grown (by repeat (first | exact Below.refl _ _ | apply below_alloc | apply Below.drew | apply below_drewN)) hg1 (by intro k hk; simp [Value.ownBlock] at hk; omega)
  have hblk4 : Blk w1 (w.heap.size + 1) 24 #[.slice none 0 0, .int .i64 0] := Blk.grown ((Blk.new_at (w.alloc (.cells #[.slice A l.length c, .int .i64 s] 24)) 24 #[.slice none 0 0, .int .i64 0] (by simp)).alloc _) hg1 (by simp [Value.ownBlock])
  have hblk2 : Blk w1 w.heap.size 24 #[.slice A l.length c, .int .i64 s] := Blk.grown (((Blk.new w 24 #[.slice A l.length c, .int .i64 s]).alloc _).alloc _) hg1 (by simp [Value.ownBlock])
  go_loopw [6, 15] (fun v i wr => ∃ (k : Nat) (A2 : Option Addr) (m c2 : Nat), k ≤ rs.length ∧ v = .slice A2 m c2 ∧ i = .int .i64 k ∧ Hid ((rs.take k).any (fun r => decide (65535 < r.length)) = false) ∧ Hid (m = (l ++ ((rs.take k).map frameS).flatten).length) ∧
      wr.ownsRow w.heap.size 5 1 (.slice A2 m c2) m ((l ++ ((rs.take k).map frameS).flatten).map byteV) ∧
      Below w.heap.size w wr ∧ Blk wr (w.heap.size + 1) 24 #[.slice none 0 0, .int .i64 0] ∧ Blk wr w.heap.size 24 #[.slice A l.length c, .int .i64 s]) (fun _ i _ => rs.length - (intOf i).toNat)
  case atStart => exact ⟨0, A1, _, c1, Nat.zero_le _, rfl, rfl, Lib.hid rfl, Lib.hid (by simp), by simpa using hown1, hb1, hblk4, hblk2⟩
  case round =>
    clear hown1 hb1 hblk4 hblk2 hg1 hat1
    obtain ⟨k, A2, m, c2, hk, rfl, rfl, HA, HM, hown, hb, hblk4, hblk2⟩ := hrel
    have n0 := hblk4.cell 0
    have n1 := hblk4.cell 1
    have nf0 := hblk4.frozen 0
    have nf1 := hblk4.frozen 1
    have p1 := hblk2.cell 1
    simp at n0 n1 p1
    have HO := Lib.hid hown
    clear hown
    have hml : m ≤ 8388608 := by
      have h1 := HM.out
      have h2 := HL.out
      have h3 := frames_le rs k
      rw [h1, List.length_append]
      omega
    by_cases hlt : k < rs.length
    · obtain ⟨b, o, rfl, hS, hcc⟩ := HR'.out.at_ (by omega)
      obtain ⟨A3, c3, f0, hrk, _, _⟩ := hcc k hlt
      have hS' : b < w.heap.size := hS
      have f0' : wr.cell? ⟨b, o + k, none⟩ = some (.slice A3 rs[k].length c3) := (hb.cell hS').trans f0
      have HRK := Lib.hid (Reads.later hrk hb)
      clear f0 hrk hcc
      by_cases hbig : 65535 < rs[k].length
      · have hfin : q = (⟨[], 0⟩, 4) := by
          rw [← HQ.out]
          unfold appendS
          rw [if_pos (List.any_eq_true.2 ⟨rs[k], List.getElem_mem hlt, by simpa using hbig⟩)]
        subst hfin
        have hB : decide ((65536 : Int) ≤ (rs[k].length : Int)) = true := by simp only [decide_eq_true_eq]; omega
        clear hbig
        go_wp2_with fail
        exact bodyPost_ret (v := .tuple #[.agg #[.slice none 0 0, .int .i64 0], .int .i64 4]) (by simp [results, Try.results23, go_sem, n0, n1]) rfl
          ⟨none, 0, rfl, World.ownsRow_nil _ _ _ _, below_set (below_set hb (by simp) _) (by simp) _⟩
      · have HA1 := Lib.hid (any_false_take (fun r => decide (65535 < r.length)) rs k hlt HA.out (by simpa using hbig))
        have HT := Lib.hid (frames_take l rs k hlt)
        have hrb : rs[k].length ≤ 65535 := by omega
        have hml2 : m + (rs[k].length + 4) ≤ 8388608 := by
          have h1 := HM.out
          have h2 := HL.out
          have h3 := frames_le rs (k + 1)
          have h4 := congrArg List.length HT.out
          rw [List.length_append, List.length_append, frameS_len] at h4
          rw [h1]
          omega
        have HM2 : Hid (m + (rs[k].length + 4) = (l ++ ((rs.take (k + 1)).map frameS).flatten).length) := Lib.hid (by rw [HT.out, List.length_append, frameS_len, ← HM.out])
        have hB : decide ((65536 : Int) ≤ (rs[k].length : Int)) = false := by simp only [decide_eq_false_iff_not]; omega
        clear hbig
        go_wp2_with fail
        refine (refframe_any _ _ rfl _ _ _ hrb HRK.out).mono ?_
        rintro e w2 ⟨A4, c4, rfl, hown4, hb4⟩
        obtain ⟨A4', c4', e4, _, _, hrd4⟩ := own_reads hown4
        obtain ⟨rfl, rfl⟩ : A4 = A4' ∧ c4 = c4' := by simpa using e4
        have HO4 := Lib.hid (own_later HO.out hb4)
        clear hown4 e4
        go_wp2_with (at_builtin; refine wpList_append_any _ rfl (.tmp 23) (.tmp 25) _ rfl w.heap.size 5 i0 _ 1 1 Try.underlying22 hi0 hz0 hz1 hz2 rfl (by omega) (.slice A2 m c2) m _ rfl HO4.out _ A4 (rs[k].length + 4) c4 _ rfl hrd4 (one_bytes _) (by simp only [maxLen]; omega) (by omega) (Nat.le_trans hb.size hb4.size) ?_; intro v5 w5 hown5 hg5 hat5; obtain ⟨A5, c5, rfl, _, _, _⟩ := own_reads hown5)
        have hb5 : Below w.heap.size w w5 := below_grown (below_trans hb hb4) hg5 (fun k hk => (HO4.out.lt k hk).1)
        have hb44 := (hblk4.later hb4).grown hg5 (Ne.symm (own_blk_ne HO4.out (hblk4.later hb4) (by decide)))
        have hb22 := (hblk2.later hb4).grown hg5 (Ne.symm (own_blk_ne HO4.out (hblk2.later hb4) (by decide)))
        go_roundw
        case rel => exact ⟨k + 1, A5, m + (rs[k].length + 4), c5, by omega, rfl, by go_num, HA1, HM2, by rw [HT.out, List.map_append]; exact hown5, hb5, hb44, hb22⟩
        case measure => simp [intOf]; omega
    · have e : k = rs.length := by omega
      have h1 := HA.out
      have h2 := HM.out
      rw [List.take_of_length_le (by omega)] at h1 h2
      have HO2 := HO.out
      rw [List.take_of_length_le (by omega)] at HO2
      have HO3 := Lib.hid HO2
      clear e HO2
      by_cases hbig : 6000 < m
      · have hfin : q = (⟨[], 0⟩, 8) := by
          rw [← HQ.out]
          unfold appendS
          rw [if_neg (by rw [h1]; decide), if_pos (by rw [← h2]; exact hbig)]
        subst hfin
        clear h1 h2
        go_wp2_with fail
        exact bodyPost_ret (v := .tuple #[.agg #[.slice none 0 0, .int .i64 0], .int .i64 8]) (by simp [results, Try.results23, go_sem, n0, n1]) rfl
          ⟨none, 0, rfl, World.ownsRow_nil _ _ _ _, below_set (below_set hb (by simp) _) (by simp) _⟩
      · have hfin : q = (⟨l ++ (rs.map frameS).flatten, s⟩, 0) := by
          rw [← HQ.out]
          unfold appendS
          rw [if_neg (by rw [h1]; decide), if_neg (by rw [← h2]; exact hbig)]
        have HF := Lib.hid hfin
        have H2 := Lib.hid h2
        have hne4 := own_blk_ne HO.out hblk4 (by decide)
        clear h1 h2 hfin
        have hown6 := own_kept HO3.out (w' := (wr.setCell ⟨w.heap.size + 1, 0, none⟩ (.slice A2 m c2)).setCell ⟨w.heap.size + 1, 1, none⟩ (.int .i64 s)) (fun g hg => (Below.heap_setCell _ _ _ _ (fun e => hne4 (by rw [hg, e]))).trans (Below.heap_setCell _ _ _ _ (fun e => hne4 (by rw [hg, e]))))
        have HO6 := Lib.hid hown6
        clear hown6
        go_wp2_with fail
        refine bodyPost_ret (v := .tuple #[.agg #[.slice A2 m c2, .int .i64 s], .int .i64 0]) (by simp [results, Try.results23, go_sem, n0, n1]) rfl ⟨A2, c2, ?_, ?_, below_set (below_set hb (by simp) _) (by simp) _⟩
        · rw [HF.out]; simp only [← H2.out]
        · rw [HF.out]; simp only [← H2.out]; exact HO6.out
end Go.Proofs.Ytcgdjdlcecnanaa
