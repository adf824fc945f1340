/-
  The walks of both texts' Crash of logs: what they return.
  No condition but that the log is one that may be, and no more than 2^23 bytes.
-/
import Derived.Test.YtcgdjdlcecnanaaStoreC
namespace Go.Proofs.Ytcgdjdlcecnanaa
open Go.RowKit
set_option linter.unusedSimpArgs false
set_option linter.unusedVariables false

set_option maxRecDepth 20000 in
set_option maxHeartbeats 1000000 in
theorem crash_any (a : LLog) (keep : Int) (A : Option Addr) (c : Nat) (hnc : a.bytes.length ≤ c) (hcm : c ≤ maxLen) (w : World) (hl : a.bytes.length ≤ 8388608) (hs0 : 0 ≤ a.sure) (hs1 : a.sure ≤ a.bytes.length) (hr : RBytes w (· < w.heap.size) A a.bytes) :
    Calls Try.prog 24 #[.agg #[.slice A a.bytes.length c, .int .i64 a.sure], .int .i64 keep] w fun e w' => ∃ A1 c1, e = .returned (.agg #[.slice A1 (crashS a keep).bytes.length c1, .int .i64 (crashS a keep).sure]) ∧
      w'.ownsRow w.heap.size 5 1 (.slice A1 (crashS a keep).bytes.length c1) (crashS a keep).bytes.length ((crashS a keep).bytes.map byteV) ∧ Below w.heap.size w w' := by
  obtain ⟨i0, hi0, hz0, hz1, hz2⟩ := info_parts info_u8
  obtain ⟨l, s⟩ := a
  simp only at hl hr hs0 hs1 hnc ⊢
  obtain ⟨s, rfl⟩ := Int.eq_ofNat_of_zero_le hs0
  generalize hq : crashS ⟨l, s⟩ keep = q
  have HQ := Lib.hid hq
  have HR := Lib.hid hr
  clear hq hr
  obtain ⟨m, hm⟩ : ∃ m, m = keptS ⟨l, s⟩ keep := ⟨_, rfl⟩
  have hml : m ≤ l.length := by rw [hm]; simp only [keptS]; omega
  have HM := Lib.hid hm
  clear hm
  have hq2 := recsS_le m (l.take m) (by rw [List.length_take]; omega)
  rw [List.length_take] at hq2
  by_cases k0 : keep < 0
  · have E1 := Lib.hid (show (m : Int) = s by rw [HM.out]; simp only [keptS]; omega)
    go_enter Try.func24, Try.ntmps24
    go_wp2_with fail
    refine (records_any (l.take m) _ (by have := E1.out; rw [List.length_take]; omega) _ _ (by have := E1.out; omega) hcm _ (by rw [List.length_take]; omega) (by exact Reads.later (RBytes.take HR.out _) (by repeat (first | exact Below.refl _ _ | apply below_alloc | apply Below.drew | apply below_drewN)))).mono ?_
    generalize hgr : recsS (l.take m) = q2 at *
    have HG := Lib.hid hgr
    clear hgr
    rintro e w1 ⟨A1, c1, rfl, hrr, hc11, hb1⟩
    obtain ⟨rs, n2⟩ := q2
    simp only at hq2 ⊢
    clear hrr hc11
    obtain ⟨hcc1, hff1⟩ := bcell hb1
    have hzz1 : w.heap.size + 1 < w1.heap.size := by have := hb1.size; simp at this; omega
    have hb9 : Below w.heap.size w w1 := below_trans (by repeat (first | exact Below.refl _ _ | apply below_alloc | apply Below.drew | apply below_drewN)) hb1
    go_wp2_with (refine wpList_slice_h _ rfl (.tmp 27) (.tmp 28) 22 5 rfl Try.underlying22 i0 hi0 A l.length c n2 .i64 _ rfl rfl rfl (by omega) ?_)
    have HT2 := Lib.hid (show (l.take n2).length = n2 by rw [List.length_take]; omega)
    refine (clone_bytes (l.take n2) _ HT2.out.symm _ _ _ (by rw [List.length_take]; omega) (by exact Reads.later (RBytes.take HR.out _) hb9)).mono ?_
    rw [HT2.out]
    rintro e w2 ⟨A2, c2, rfl, hown2, hb2⟩
    obtain ⟨hcc2, hff2⟩ := bcell hb2
    have hzz2 : w.heap.size + 1 < w2.heap.size := by have := hb2.size; omega
    have hb10 := below_trans hb9 hb2
    go_wp2_with fail
    have hq : q = ⟨l.take n2, n2⟩ := by rw [← HQ.out]; simp only [crashS, ← HM.out, HG.out]
    have q1 := own_set (own_set hown2 (a := ⟨w.heap.size + 1, 0, none⟩) (by show _ < _; omega) (.slice A2 n2 c2)) (a := ⟨w.heap.size + 1, 1, none⟩) (by show _ < _; omega) (.int .i64 n2)
    refine bodyPost_ret (v := .agg #[.slice A2 n2 c2, .int .i64 n2]) (by simp [results, Try.results24, go_sem, hcc2, hzz2, hcc1, hzz1]) rfl ⟨A2, c2, ?_, ?_, below_set (below_set hb10 (by simp) _) (by simp) _⟩
    · rw [hq]; simp only [HT2.out]
    · rw [hq]; simp only [HT2.out]; exact own_mono q1 hb9.size
  · by_cases k1 : keep ≤ l.length - s
    · have E1 := Lib.hid (show (m : Int) = s + keep by rw [HM.out]; simp only [keptS]; omega)
      go_enter Try.func24, Try.ntmps24
      go_wp2_with fail
      refine (records_any (l.take m) _ (by have := E1.out; rw [List.length_take]; omega) _ _ (by have := E1.out; omega) hcm _ (by rw [List.length_take]; omega) (by exact Reads.later (RBytes.take HR.out _) (by repeat (first | exact Below.refl _ _ | apply below_alloc | apply Below.drew | apply below_drewN)))).mono ?_
      generalize hgr : recsS (l.take m) = q2 at *
      have HG := Lib.hid hgr
      clear hgr
      rintro e w1 ⟨A1, c1, rfl, hrr, hc11, hb1⟩
      obtain ⟨rs, n2⟩ := q2
      simp only at hq2 ⊢
      clear hrr hc11
      obtain ⟨hcc1, hff1⟩ := bcell hb1
      have hzz1 : w.heap.size + 1 < w1.heap.size := by have := hb1.size; simp at this; omega
      have hb9 : Below w.heap.size w w1 := below_trans (by repeat (first | exact Below.refl _ _ | apply below_alloc | apply Below.drew | apply below_drewN)) hb1
      go_wp2_with (refine wpList_slice_h _ rfl (.tmp 27) (.tmp 28) 22 5 rfl Try.underlying22 i0 hi0 A l.length c n2 .i64 _ rfl rfl rfl (by omega) ?_)
      have HT2 := Lib.hid (show (l.take n2).length = n2 by rw [List.length_take]; omega)
      refine (clone_bytes (l.take n2) _ HT2.out.symm _ _ _ (by rw [List.length_take]; omega) (by exact Reads.later (RBytes.take HR.out _) hb9)).mono ?_
      rw [HT2.out]
      rintro e w2 ⟨A2, c2, rfl, hown2, hb2⟩
      obtain ⟨hcc2, hff2⟩ := bcell hb2
      have hzz2 : w.heap.size + 1 < w2.heap.size := by have := hb2.size; omega
      have hb10 := below_trans hb9 hb2
      go_wp2_with fail
      have hq : q = ⟨l.take n2, n2⟩ := by rw [← HQ.out]; simp only [crashS, ← HM.out, HG.out]
      have q1 := own_set (own_set hown2 (a := ⟨w.heap.size + 1, 0, none⟩) (by show _ < _; omega) (.slice A2 n2 c2)) (a := ⟨w.heap.size + 1, 1, none⟩) (by show _ < _; omega) (.int .i64 n2)
      refine bodyPost_ret (v := .agg #[.slice A2 n2 c2, .int .i64 n2]) (by simp [results, Try.results24, go_sem, hcc2, hzz2, hcc1, hzz1]) rfl ⟨A2, c2, ?_, ?_, below_set (below_set hb10 (by simp) _) (by simp) _⟩
      · rw [hq]; simp only [HT2.out]
      · rw [hq]; simp only [HT2.out]; exact own_mono q1 hb9.size
    · have E1 := Lib.hid (show (m : Int) = l.length by rw [HM.out]; simp only [keptS]; omega)
      go_enter Try.func24, Try.ntmps24
      go_wp2_with fail
      refine (records_any (l.take m) _ (by have := E1.out; rw [List.length_take]; omega) _ _ (by have := E1.out; omega) hcm _ (by rw [List.length_take]; omega) (by exact Reads.later (RBytes.take HR.out _) (by repeat (first | exact Below.refl _ _ | apply below_alloc | apply Below.drew | apply below_drewN)))).mono ?_
      generalize hgr : recsS (l.take m) = q2 at *
      have HG := Lib.hid hgr
      clear hgr
      rintro e w1 ⟨A1, c1, rfl, hrr, hc11, hb1⟩
      obtain ⟨rs, n2⟩ := q2
      simp only at hq2 ⊢
      clear hrr hc11
      obtain ⟨hcc1, hff1⟩ := bcell hb1
      have hzz1 : w.heap.size + 1 < w1.heap.size := by have := hb1.size; simp at this; omega
      have hb9 : Below w.heap.size w w1 := below_trans (by repeat (first | exact Below.refl _ _ | apply below_alloc | apply Below.drew | apply below_drewN)) hb1
      go_wp2_with (refine wpList_slice_h _ rfl (.tmp 27) (.tmp 28) 22 5 rfl Try.underlying22 i0 hi0 A l.length c n2 .i64 _ rfl rfl rfl (by omega) ?_)
      have HT2 := Lib.hid (show (l.take n2).length = n2 by rw [List.length_take]; omega)
      refine (clone_bytes (l.take n2) _ HT2.out.symm _ _ _ (by rw [List.length_take]; omega) (by exact Reads.later (RBytes.take HR.out _) hb9)).mono ?_
      rw [HT2.out]
      rintro e w2 ⟨A2, c2, rfl, hown2, hb2⟩
      obtain ⟨hcc2, hff2⟩ := bcell hb2
      have hzz2 : w.heap.size + 1 < w2.heap.size := by have := hb2.size; omega
      have hb10 := below_trans hb9 hb2
      go_wp2_with fail
      have hq : q = ⟨l.take n2, n2⟩ := by rw [← HQ.out]; simp only [crashS, ← HM.out, HG.out]
      have q1 := own_set (own_set hown2 (a := ⟨w.heap.size + 1, 0, none⟩) (by show _ < _; omega) (.slice A2 n2 c2)) (a := ⟨w.heap.size + 1, 1, none⟩) (by show _ < _; omega) (.int .i64 n2)
      refine bodyPost_ret (v := .agg #[.slice A2 n2 c2, .int .i64 n2]) (by simp [results, Try.results24, go_sem, hcc2, hzz2, hcc1, hzz1]) rfl ⟨A2, c2, ?_, ?_, below_set (below_set hb10 (by simp) _) (by simp) _⟩
      · rw [hq]; simp only [HT2.out]
      · rw [hq]; simp only [HT2.out]; exact own_mono q1 hb9.size

set_option maxRecDepth 20000 in
set_option maxHeartbeats 1000000 in
theorem refcrash_any (a : LLog) (keep : Int) (A : Option Addr) (c : Nat) (hnc : a.bytes.length ≤ c) (hcm : c ≤ maxLen) (w : World) (hl : a.bytes.length ≤ 8388608) (hs0 : 0 ≤ a.sure) (hs1 : a.sure ≤ a.bytes.length) (hr : RBytes w (· < w.heap.size) A a.bytes) :
    Calls Try.prog 25 #[.agg #[.slice A a.bytes.length c, .int .i64 a.sure], .int .i64 keep] w fun e w' => ∃ A1 c1, e = .returned (.agg #[.slice A1 (crashS a keep).bytes.length c1, .int .i64 (crashS a keep).sure]) ∧
      RBytes w' (· < w'.heap.size) A1 (crashS a keep).bytes ∧ (crashS a keep).bytes.length ≤ c1 ∧ c1 ≤ maxLen ∧ Below w.heap.size w w' := by
  obtain ⟨i0, hi0, hz0, hz1, hz2⟩ := info_parts info_u8
  obtain ⟨l, s⟩ := a
  simp only at hl hr hs0 hs1 hnc ⊢
  obtain ⟨s, rfl⟩ := Int.eq_ofNat_of_zero_le hs0
  generalize hq : crashS ⟨l, s⟩ keep = q
  have HQ := Lib.hid hq
  have HR := Lib.hid hr
  clear hq hr
  obtain ⟨m, hm⟩ : ∃ m, m = keptS ⟨l, s⟩ keep := ⟨_, rfl⟩
  have hml : m ≤ l.length := by rw [hm]; simp only [keptS]; omega
  have HM := Lib.hid hm
  clear hm
  have hq2 := recsS_le m (l.take m) (by rw [List.length_take]; omega)
  rw [List.length_take] at hq2
  by_cases k0 : keep < 0
  · have E1 := Lib.hid (show (m : Int) = s by rw [HM.out]; simp only [keptS]; omega)
    by_cases k1 : s < l.length
    · go_enter Try.func25, Try.ntmps25
      go_wp2_with fail
      refine (refrecords_any m (l.take m) _ (by have := E1.out; rw [List.length_take]; omega) (by rw [List.length_take]; omega) _ _ (by have := E1.out; omega) hcm _ (by rw [List.length_take]; omega) (by exact Reads.later (RBytes.take HR.out _) (by repeat (first | exact Below.refl _ _ | apply below_alloc | apply Below.drew | apply below_drewN)))).mono ?_
      generalize hgr : recsS (l.take m) = q2 at *
      have HG := Lib.hid hgr
      clear hgr
      rintro e w1 ⟨A1, c1, rfl, hrr, hc11, hb1⟩
      obtain ⟨rs, n2⟩ := q2
      simp only at hq2 ⊢
      clear hrr hc11
      obtain ⟨hcc1, hff1⟩ := bcell hb1
      have hzz1 : w.heap.size + 1 < w1.heap.size := by have := hb1.size; simp at this; omega
      have hb9 : Below w.heap.size w w1 := below_trans (by repeat (first | exact Below.refl _ _ | apply below_alloc | apply Below.drew | apply below_drewN)) hb1
      go_wp2_with (refine wpList_slice_h _ rfl (.tmp 32) (.tmp 33) 22 5 rfl Try.underlying22 i0 hi0 A l.length c n2 .i64 _ rfl rfl rfl (by omega) ?_)
      have HT2 := Lib.hid (show (l.take n2).length = n2 by rw [List.length_take]; omega)
      have hq : q = ⟨l.take n2, n2⟩ := by rw [← HQ.out]; simp only [crashS, ← HM.out, HG.out]
      have hb11 := below_set (below_set hb9 (p := ⟨w.heap.size + 1, 0, none⟩) (by simp) (.slice A n2 c)) (p := ⟨w.heap.size + 1, 1, none⟩) (by simp) (.int .i64 n2)
      refine bodyPost_ret (v := .agg #[.slice A n2 c, .int .i64 n2]) (by simp [results, Try.results25, go_sem, hcc1, hzz1]) rfl ⟨A, c, ?_, ?_, ?_, hcm, hb11⟩
      · rw [hq]; simp only [HT2.out]
      · rw [hq]; exact Reads.later (RBytes.take HR.out _) hb11
      · rw [hq]; simp only [HT2.out]; omega
    · go_enter Try.func25, Try.ntmps25
      go_wp2_with fail
      refine (refrecords_any m (l.take m) _ (by have := E1.out; rw [List.length_take]; omega) (by rw [List.length_take]; omega) _ _ (by have := E1.out; omega) hcm _ (by rw [List.length_take]; omega) (by exact Reads.later (RBytes.take HR.out _) (by repeat (first | exact Below.refl _ _ | apply below_alloc | apply Below.drew | apply below_drewN)))).mono ?_
      generalize hgr : recsS (l.take m) = q2 at *
      have HG := Lib.hid hgr
      clear hgr
      rintro e w1 ⟨A1, c1, rfl, hrr, hc11, hb1⟩
      obtain ⟨rs, n2⟩ := q2
      simp only at hq2 ⊢
      clear hrr hc11
      obtain ⟨hcc1, hff1⟩ := bcell hb1
      have hzz1 : w.heap.size + 1 < w1.heap.size := by have := hb1.size; simp at this; omega
      have hb9 : Below w.heap.size w w1 := below_trans (by repeat (first | exact Below.refl _ _ | apply below_alloc | apply Below.drew | apply below_drewN)) hb1
      go_wp2_with (refine wpList_slice_h _ rfl (.tmp 32) (.tmp 33) 22 5 rfl Try.underlying22 i0 hi0 A l.length c n2 .i64 _ rfl rfl rfl (by omega) ?_)
      have HT2 := Lib.hid (show (l.take n2).length = n2 by rw [List.length_take]; omega)
      have hq : q = ⟨l.take n2, n2⟩ := by rw [← HQ.out]; simp only [crashS, ← HM.out, HG.out]
      have hb11 := below_set (below_set hb9 (p := ⟨w.heap.size + 1, 0, none⟩) (by simp) (.slice A n2 c)) (p := ⟨w.heap.size + 1, 1, none⟩) (by simp) (.int .i64 n2)
      refine bodyPost_ret (v := .agg #[.slice A n2 c, .int .i64 n2]) (by simp [results, Try.results25, go_sem, hcc1, hzz1]) rfl ⟨A, c, ?_, ?_, ?_, hcm, hb11⟩
      · rw [hq]; simp only [HT2.out]
      · rw [hq]; exact Reads.later (RBytes.take HR.out _) hb11
      · rw [hq]; simp only [HT2.out]; omega
  · by_cases k1 : keep < l.length - s
    · have E1 := Lib.hid (show (m : Int) = s + keep by rw [HM.out]; simp only [keptS]; omega)
      go_enter Try.func25, Try.ntmps25
      go_wp2_with fail
      refine (refrecords_any m (l.take m) _ (by have := E1.out; rw [List.length_take]; omega) (by rw [List.length_take]; omega) _ _ (by have := E1.out; omega) hcm _ (by rw [List.length_take]; omega) (by exact Reads.later (RBytes.take HR.out _) (by repeat (first | exact Below.refl _ _ | apply below_alloc | apply Below.drew | apply below_drewN)))).mono ?_
      generalize hgr : recsS (l.take m) = q2 at *
      have HG := Lib.hid hgr
      clear hgr
      rintro e w1 ⟨A1, c1, rfl, hrr, hc11, hb1⟩
      obtain ⟨rs, n2⟩ := q2
      simp only at hq2 ⊢
      clear hrr hc11
      obtain ⟨hcc1, hff1⟩ := bcell hb1
      have hzz1 : w.heap.size + 1 < w1.heap.size := by have := hb1.size; simp at this; omega
      have hb9 : Below w.heap.size w w1 := below_trans (by repeat (first | exact Below.refl _ _ | apply below_alloc | apply Below.drew | apply below_drewN)) hb1
      go_wp2_with (refine wpList_slice_h _ rfl (.tmp 32) (.tmp 33) 22 5 rfl Try.underlying22 i0 hi0 A l.length c n2 .i64 _ rfl rfl rfl (by omega) ?_)
      have HT2 := Lib.hid (show (l.take n2).length = n2 by rw [List.length_take]; omega)
      have hq : q = ⟨l.take n2, n2⟩ := by rw [← HQ.out]; simp only [crashS, ← HM.out, HG.out]
      have hb11 := below_set (below_set hb9 (p := ⟨w.heap.size + 1, 0, none⟩) (by simp) (.slice A n2 c)) (p := ⟨w.heap.size + 1, 1, none⟩) (by simp) (.int .i64 n2)
      refine bodyPost_ret (v := .agg #[.slice A n2 c, .int .i64 n2]) (by simp [results, Try.results25, go_sem, hcc1, hzz1]) rfl ⟨A, c, ?_, ?_, ?_, hcm, hb11⟩
      · rw [hq]; simp only [HT2.out]
      · rw [hq]; exact Reads.later (RBytes.take HR.out _) hb11
      · rw [hq]; simp only [HT2.out]; omega
    · have E1 := Lib.hid (show (m : Int) = l.length by rw [HM.out]; simp only [keptS]; omega)
      go_enter Try.func25, Try.ntmps25
      go_wp2_with fail
      refine (refrecords_any m (l.take m) _ (by have := E1.out; rw [List.length_take]; omega) (by rw [List.length_take]; omega) _ _ (by have := E1.out; omega) hcm _ (by rw [List.length_take]; omega) (by exact Reads.later (RBytes.take HR.out _) (by repeat (first | exact Below.refl _ _ | apply below_alloc | apply Below.drew | apply below_drewN)))).mono ?_
      generalize hgr : recsS (l.take m) = q2 at *
      have HG := Lib.hid hgr
      clear hgr
      rintro e w1 ⟨A1, c1, rfl, hrr, hc11, hb1⟩
      obtain ⟨rs, n2⟩ := q2
      simp only at hq2 ⊢
      clear hrr hc11
      obtain ⟨hcc1, hff1⟩ := bcell hb1
      have hzz1 : w.heap.size + 1 < w1.heap.size := by have := hb1.size; simp at this; omega
      have hb9 : Below w.heap.size w w1 := below_trans (by repeat (first | exact Below.refl _ _ | apply below_alloc | apply Below.drew | apply below_drewN)) hb1
      go_wp2_with (refine wpList_slice_h _ rfl (.tmp 32) (.tmp 33) 22 5 rfl Try.underlying22 i0 hi0 A l.length c n2 .i64 _ rfl rfl rfl (by omega) ?_)
      have HT2 := Lib.hid (show (l.take n2).length = n2 by rw [List.length_take]; omega)
      have hq : q = ⟨l.take n2, n2⟩ := by rw [← HQ.out]; simp only [crashS, ← HM.out, HG.out]
      have hb11 := below_set (below_set hb9 (p := ⟨w.heap.size + 1, 0, none⟩) (by simp) (.slice A n2 c)) (p := ⟨w.heap.size + 1, 1, none⟩) (by simp) (.int .i64 n2)
      refine bodyPost_ret (v := .agg #[.slice A n2 c, .int .i64 n2]) (by simp [results, Try.results25, go_sem, hcc1, hzz1]) rfl ⟨A, c, ?_, ?_, ?_, hcm, hb11⟩
      · rw [hq]; simp only [HT2.out]
      · rw [hq]; exact Reads.later (RBytes.take HR.out _) hb11
      · rw [hq]; simp only [HT2.out]; omega
end Go.Proofs.Ytcgdjdlcecnanaa
