/-
  The walks of both texts' Records: what they return.
  No condition but that the bytes are no more than 2^23.
-/
import Derived.Test.YtcgdjdlcecnanaaStoreB
namespace Go.Proofs.Ytcgdjdlcecnanaa
open Go.RowKit
set_option linter.unusedSimpArgs false
set_option linter.unusedVariables false

theorem getD_eq (l : List UInt8) (k : Nat) (h : k < l.length) : l.getD k 0 = l[k] := by
  rw [List.getD_eq_getElem?_getD, List.getElem?_eq_getElem h]; rfl

theorem info_bytes : (Try.prog.info? 22).map (fun i => (i.zero, i.size, i.bytes)) = some (some (.slice none 0 0), 1, 24) := by kernel_rfl
theorem one_recs : ∀ (hs : List (Option Addr × Nat)) (rs : List (List UInt8)), ∀ u ∈ List.zipWith recV hs rs, u.oneCell' = true
  | [], _, u, hu => by simp at hu
  | _ :: _, [], u, hu => by simp at hu
  | h :: hs, r :: rs, u, hu => by
    rw [List.zipWith_cons_cons, List.mem_cons] at hu
    rcases hu with rfl | hu
    · rfl
    · exact one_recs hs rs u hu

set_option maxRecDepth 20000 in
set_option maxHeartbeats 1000000 in
theorem refrecords_any (f : Nat) : ∀ (l : List UInt8) (n : Nat) (_ : n = l.length) (_ : l.length ≤ f) (A : Option Addr) (c : Nat) (_ : n ≤ c) (_ : c ≤ maxLen) (w : World) (_ : l.length ≤ 8388608) (_ : RBytes w (· < w.heap.size) A l),
    Calls Try.prog 27 #[.slice A n c] w fun e w' => ∃ A1 c1, e = .returned (.tuple #[.slice A1 (recsS l).1.length c1, .int .i64 (recsS l).2]) ∧
      RRecs w' (· < w'.heap.size) (· < w'.heap.size) A1 (recsS l).1 ∧ (recsS l).1.length ≤ c1 ∧ Below w.heap.size w w' := by
  obtain ⟨i0, hi0, hz0, hz1, hz2⟩ := info_parts info_u8
  obtain ⟨i1, hi1, hy0, hy1, hy2⟩ := info_parts info_bytes
  induction f with
  | zero =>
    intro l n hn hf A c hnc hcm w hl hr
    subst hn
    have h0 : l = [] := List.eq_nil_of_length_eq_zero (by omega)
    subst h0
    go_enter Try.func27, Try.ntmps27
    go_wp2_with fail
    go_ret2
    exact ⟨none, 0, rfl, ⟨[], rfl, Reads.nil, fun i h => absurd h (by simp)⟩, Nat.zero_le _, Below.refl _ _⟩
  | succ f ih =>
    intro l n hn hf A c hnc hcm w hl hr
    subst hn
    generalize hq : recsS l = q
    have HQ := Lib.hid hq
    clear hq
    have HR := Lib.hid hr
    have IH := Lib.hid ih
    have HF := Lib.hid hf
    clear hr ih hf
    by_cases h4 : l.length < 4
    · have hno : okS l = false := by
        cases h : okS l with
        | false => rfl
        | true => have := okS_len h; omega
      have hfin := recsS_no hno
      have HFN := Lib.hid (HQ.out.symm.trans hfin)
      clear hno hfin
      go_enter Try.func27, Try.ntmps27
      go_wp2_with fail
      go_ret2
      rw [HFN.out]
      exact ⟨none, 0, rfl, ⟨[], rfl, Reads.nil, fun i h => absurd h (by simp)⟩, Nat.zero_le _, Below.refl _ _⟩
    · obtain ⟨b, o, rfl, hS, hc⟩ := HR.out.at_ (by omega)
      have hS' : b < w.heap.size := hS
      have f0 := hc 0 (by omega)
      have f1 := hc 1 (by omega)
      rw [Nat.add_zero] at f0
      have hh : headS l = 256 * l[0].toNat + l[1].toNat := by
        unfold headS
        rw [getD_eq l 0 (by omega), getD_eq l 1 (by omega)]
      have HH := Lib.hid hh
      have hx0 : l[0].toNat < 256 := UInt8.toNat_lt _
      have hx1 : l[1].toNat < 256 := UInt8.toNat_lt _
      generalize l[0].toNat = x0 at *
      generalize l[1].toNat = x1 at *
      have HC := Lib.hid hc
      clear hc hh
      go_enter Try.func27, Try.ntmps27
      go_wp2_with fail
      go_quiet (fail)
      go_wp2_with fail
      obtain ⟨h, e1, e2⟩ : ∃ h : Nat, 256 * (x0 : Int) + x1 = h ∧ headS l = h := ⟨256 * x0 + x1, by omega, HH.out⟩
      rw [e1]
      have hhl : h ≤ 65535 := by omega
      clear e1 f0 f1 hx0 hx1
      have E2 := Lib.hid e2
      clear e2
      by_cases hlen : l.length < h + 4
      · have hno : okS l = false := by
          cases hq : okS l with
          | false => rfl
          | true => have := okS_len hq; have := E2.out; omega
        have hfin := recsS_no hno
        have HFN := Lib.hid (HQ.out.symm.trans hfin)
        clear hno hfin
        have hB : decide ((l.length : Int) < (h : Int) + 4) = true := by simp only [decide_eq_true_eq]; omega
        go_quiet (fail)
        go_wp2_with fail
        go_ret2
        rw [HFN.out]
        exact ⟨none, 0, rfl, ⟨[], rfl, Reads.nil, fun i h => absurd h (by simp)⟩, Nat.zero_le _, (by repeat (first | exact Below.refl _ _ | apply below_alloc | apply Below.drew | apply below_drewN))⟩
      · have hB : decide ((l.length : Int) < (h : Int) + 4) = false := by simp only [decide_eq_false_iff_not]; omega
        have f2 := HC.out (h + 2) (by omega)
        have f3 := HC.out (h + 3) (by omega)
        have g2 := getD_eq l (h + 2) (by omega)
        have g3 := getD_eq l (h + 3) (by omega)
        have G2 := Lib.hid g2
        have G3 := Lib.hid g3
        clear g2 g3
        have hx2 : l[h + 2].toNat < 256 := UInt8.toNat_lt _
        have hx3 : l[h + 3].toNat < 256 := UInt8.toNat_lt _
        generalize l[h + 2] = x2 at *
        generalize l[h + 3] = x3 at *
        have HSZ := Lib.hid (show (l.take (h + 2)).length = h + 2 by rw [List.length_take]; omega)
        have hs := sumS_lt (l.take (h + 2))
        obtain ⟨sm, HGS⟩ : ∃ sm, Hid (sumS (l.take (h + 2)) = sm) := ⟨_, Lib.hid rfl⟩
        rw [HGS.out] at hs
        have HX : Hid (okS l = decide (sm = 256 * x2.toNat + x3.toNat)) := Lib.hid (by
          simp only [okS, E2.out, G2.out, G3.out, HGS.out]
          rw [decide_eq_true (show 4 ≤ l.length by omega), decide_eq_true (show h + 4 ≤ l.length by omega)]
          rfl)
        generalize x2.toNat = y2 at *
        generalize x3.toNat = y3 at *
        have v1 : IntKind.i64.wrap (256 * (y2 : Int)) = 256 * (y2 : Int) := IntWalk.i64_in _ (by omega)
        have v2 : IntKind.i64.wrap (256 * (y2 : Int) + y3) = 256 * (y2 : Int) + y3 := IntWalk.i64_in _ (by omega)
        have w4 : IntKind.i64.wrap ((h : Int) + 4) = (h : Int) + 4 := IntWalk.i64_in _ (by omega)
        have w2 : IntKind.i64.wrap ((h : Int) + 2) = (h : Int) + 2 := IntWalk.i64_in _ (by omega)
        have w3 : IntKind.i64.wrap ((h : Int) + 3) = (h : Int) + 3 := IntWalk.i64_in _ (by omega)
        have q2 : (h : Int) + 2 ≤ (c : Int) := by omega
        have q3 : (h : Int) + 2 < (l.length : Int) := by omega
        have q4 : (h : Int) + 3 < (l.length : Int) := by omega
        have p2 : 0 ≤ (h : Int) + 2 := by omega
        have p3 : 0 ≤ (h : Int) + 3 := by omega
        have n2 : ((h : Int) + 2).toNat = h + 2 := by omega
        have n3 : ((h : Int) + 3).toNat = h + 3 := by omega
        cases hok : okS l with
        | false =>
          have hfin := recsS_no hok
          have HFN := Lib.hid (HQ.out.symm.trans hfin)
          have hne : ((sm : Int) != 256 * (y2 : Int) + y3) = true := by
            rw [bne_iff_ne]
            intro e
            have := HX.out
            rw [hok, eq_comm, decide_eq_false_iff_not] at this
            omega
          clear hok hfin
          go_quiet (((go_at_call 16; refine (refsum_any (l.take (h + 2)) _ HSZ.out.symm _ _ _ (by rw [HSZ.out]; omega) (by exact HR.out.take _)).mono ?_; rw [HGS.out]; rintro e w' ⟨rfl, rfl⟩; exact ⟨rfl, _, rfl⟩)))
          go_wp2_with fail
          go_ret2
          rw [HFN.out]
          exact ⟨none, 0, rfl, ⟨[], rfl, Reads.nil, fun i h => absurd h (by simp)⟩, Nat.zero_le _, (by repeat (first | exact Below.refl _ _ | apply below_alloc | apply Below.drew | apply below_drewN))⟩
        | true =>
          have hfin := recsS_yes hok
          rw [E2.out] at hfin
          have HFN := Lib.hid (HQ.out.symm.trans hfin)
          have heq : ((sm : Int) != 256 * (y2 : Int) + y3) = false := by
            rw [bne_eq_false_iff_eq]
            have := HX.out
            rw [hok, eq_comm, decide_eq_true_eq] at this
            omega
          clear hok hfin
          go_quiet (((go_at_call 16; refine (refsum_any (l.take (h + 2)) _ HSZ.out.symm _ _ _ (by rw [HSZ.out]; omega) (by exact HR.out.take _)).mono ?_; rw [HGS.out]; rintro e w' ⟨rfl, rfl⟩; exact ⟨rfl, _, rfl⟩)))
          go_wp2_with (refine wpList_slice_l _ rfl (.tmp 48) (.tmp 50) 22 5 rfl Try.underlying22 i0 hi0 1 hz1 (some ⟨b, o, none⟩) l.length c (h + 4) .i64 _ rfl rfl (by omega) (by omega) ?_; intro A1 hA1)
          have hA1' : h + 4 < l.length → A1 = some ⟨b, o + (h + 4), none⟩ := fun hlt => by
            rw [hA1 (by omega)]
            simp only [Option.map_some, add_flat, Nat.mul_one]
          have hlen2 : (l.drop (h + 4)).length = l.length - (h + 4) := by rw [List.length_drop]
          have HL2 := Lib.hid hlen2
          clear hlen2
          refine (IH.out (l.drop (h + 4)) _ HL2.out.symm (by have := HF.out; rw [HL2.out]; omega) A1 _ (by omega) (by omega) _ (by rw [HL2.out]; omega) (by exact RBytes.drop HR.out _ _ hA1')).mono ?_
          have hq2 := recsS_le l.length (l.drop (h + 4)) (by rw [HL2.out]; omega)
          rw [HL2.out] at hq2
          generalize hgr : recsS (l.drop (h + 4)) = q2 at *
          have HG2 := Lib.hid hgr
          clear hgr hA1 hA1'
          rintro e w1 ⟨A2, c2, rfl, hrr, hc22, hb1⟩
          obtain ⟨rs2, n2'⟩ := q2
          simp only at hrr hc22 hq2
          obtain ⟨hs2, hh1, hh2, hh3⟩ := hrr
          have HH3 := Lib.hid hh3
          have HH2 := Lib.hid hh2
          clear hh3 hh2
          go_wp2_with (first
            | (refine wpList_slice_lh _ rfl (.tmp 55) (.const (.int .i64 2)) (.tmp 57) 22 5 rfl Try.underlying22 i0 hi0 1 hz1 (some ⟨b, o, none⟩) l.length c 2 (h + 2) .i64 .i64 _ _ rfl rfl (by omega) rfl (by omega) (by omega) (by omega) ?_; intro A3 hA3)
            | (at_builtin; refine wpList_append_any _ rfl (.tmp 59) (.tmp 60) _ rfl w1.heap.size 22 i1 _ 1 24 Try.underlying25 hi1 hy0 hy1 hy2 rfl (by omega) (.slice (some ⟨w1.heap.size, 0, none⟩) 1 1) 1 _ rfl (own_lit_at _ _ _ _ _ _ _ rfl (by simp only [maxLen]; omega) (by simp) (Nat.le_refl _)) (· < w1.heap.size) A2 rs2.length c2 _ rfl (HH2.out.keep (Kept.below (below_alloc (Below.refl _ _) _) fun _ h => h)) (one_recs _ _) (by simp only [maxLen]; omega) (by omega) (by simp) ?_; intro v4 w4 hown4 hg4 hat4; obtain ⟨A4, c4, rfl, hc41, hc42, hr4⟩ := own_reads hown4))
          have hA3' : A3 = some ⟨b, o + 2, none⟩ := by rw [hA3 (by omega)]; simp only [Option.map_some, add_flat, Nat.mul_one]
          subst hA3'
          have hb4 : Below w1.heap.size w1 w4 := below_grown (below_alloc (Below.refl _ _) _) hg4 (by intro k hk; simp [Value.ownBlock] at hk; omega)
          have hb9 : Below w.heap.size w w4 := below_trans (below_trans (by repeat (first | exact Below.refl _ _ | apply below_alloc | apply Below.drew | apply below_drewN)) hb1) hb4
          have hrl : ((l.take (h + 2)).drop 2).length = h := by rw [List.length_drop, HSZ.out]; omega
          have hq : q = (((l.take (h + 2)).drop 2) :: rs2, h + 4 + n2') := HFN.out
          go_ret2
          refine ⟨A4, c4, ?_, ?_, ?_, hb9⟩
          · rw [hq]; simp only [List.length_cons]
            congr 3
            simp
            omega
          · rw [hq]
            refine ⟨(some ⟨b, o + 2, none⟩, c - 2) :: hs2, by simp [hh1], (hr4.mono fun b h => h.2.1).of_eq (by simp; omega) (by simp [recV, HSZ.out]), ?_⟩
            intro i h1 h2
            cases i with
            | zero =>
              refine ⟨Reads.later (RBytes.drop (HR.out.take _) 2 _ fun _ => rfl) hb9, ?_, by show c - 2 ≤ maxLen; omega⟩
              show ((l.take (h + 2)).drop 2).length ≤ c - 2
              omega
            | succ i =>
              obtain ⟨r1, r2, r3⟩ := HH3.out i (by simpa using h1) (by simpa using h2)
              exact ⟨Reads.later r1 hb4, r2, r3⟩
          · rw [hq]; simp only [List.length_cons]; omega
theorem or_byte (x y : Nat) (hx : x < 65536) (hy : y < 256) : bits .or .i64 ((x : Int) * 256) (y : Int) = ((256 * x + y : Nat) : Int) := by
  have e : (x : Int) * 256 = ((x * 256 : Nat) : Int) := by omega
  rw [e]
  show IntKind.i64.wrap ((BitVec.ofInt 64 ((x * 256 : Nat) : Int) ||| BitVec.ofInt 64 (y : Int)).toNat : Int) = _
  rw [BitVec.toNat_or, ofInt_u64 _ (by omega), ofInt_u64 y (by omega), nat_join8 _ _ (by omega) hy, IntWalk.i64_in _ (by omega)]
  omega

set_option maxRecDepth 20000 in
set_option maxHeartbeats 1000000 in
theorem records_any (l : List UInt8) (n : Nat) (hn : n = l.length) (A : Option Addr) (c : Nat) (hnc : n ≤ c) (hcm : c ≤ maxLen) (w : World) (hl : l.length ≤ 8388608) (hr : RBytes w (· < w.heap.size) A l) :
    Calls Try.prog 26 #[.slice A n c] w fun e w' => ∃ A1 c1, e = .returned (.tuple #[.slice A1 (recsS l).1.length c1, .int .i64 (recsS l).2]) ∧
      RRecs w' (· < w'.heap.size) (· < w'.heap.size) A1 (recsS l).1 ∧ (recsS l).1.length ≤ c1 ∧ Below w.heap.size w w' := by
  subst hn
  obtain ⟨i0, hi0, hz0, hz1, hz2⟩ := info_parts info_u8
  obtain ⟨i1, hi1, hy0, hy1, hy2⟩ := info_parts info_bytes
  generalize hq : recsS l = q
  have HQ := Lib.hid hq
  have HR := Lib.hid hr
  clear hq hr
  go_enter Try.func26, Try.ntmps26
  go_wp2_with fail
  go_loopw [4, 5] (fun v i wr => ∃ (k : Nat) (A2 : Option Addr) (c2 : Nat) (rs : List (List UInt8)) (hs : List (Option Addr × Nat)), k ≤ l.length ∧ rs.length ≤ k ∧ v = .slice A2 rs.length c2 ∧ i = .int .i64 k ∧
      Hid (q = (rs ++ (recsS (l.drop k)).1, k + (recsS (l.drop k)).2)) ∧ hs.length = rs.length ∧ wr.ownsRow w.heap.size 22 1 (.slice A2 rs.length c2) rs.length (List.zipWith recV hs rs) ∧
      Hid (∀ (i : Nat) (h1 : i < hs.length) (h2 : i < rs.length), RBytes wr (fun b => b < wr.heap.size ∧ (Value.slice A2 rs.length c2).ownBlock ≠ some b) hs[i].1 rs[i] ∧ rs[i].length ≤ hs[i].2 ∧ hs[i].2 ≤ maxLen) ∧
      Below w.heap.size w wr) (fun _ i _ => l.length - (intOf i).toNat)
  case atStart => exact ⟨0, none, 0, [], [], Nat.zero_le _, Nat.le_refl _, rfl, rfl, Lib.hid (by rw [← HQ.out]; simp), rfl, World.ownsRow_nil _ _ _ _, Lib.hid (fun i h => absurd h (by simp)), Below.refl _ _⟩
  case round =>
    obtain ⟨k, A2, c2, rs, hs, hk, hrk, rfl, rfl, HT, hhs, hown, HE, hb⟩ := hrel
    by_cases h4 : k + 4 ≤ l.length
    · obtain ⟨b, o, rfl, hS, hc⟩ := HR.out.at_ (by omega)
      have hS' : b < w.heap.size := hS
      have hcc : ∀ j, wr.cell? ⟨b, j, none⟩ = w.cell? ⟨b, j, none⟩ := fun j => hb.cell (p := ⟨b, j, none⟩) hS'
      have f0 := (hcc _).trans (hc k (by omega))
      have f1 := (hcc _).trans (hc (k + 1) (by omega))
      have HC := Lib.hid hc
      have hcc' : ∀ j (hj : j < l.length), wr.cell? ⟨b, o + j, none⟩ = some (.int .u8 l[j].toNat) := fun j hj => (hcc _).trans (hc j hj)
      have HCC := Lib.hid hcc'
      clear hc hcc hcc'
      have hx0 : l[k].toNat < 256 := UInt8.toNat_lt _
      have hx1 : l[k+1].toNat < 256 := UInt8.toNat_lt _
      have hd : (l.drop k).length = l.length - k := by rw [List.length_drop]
      have HD := Lib.hid hd
      clear hd
      have hh : headS (l.drop k) = 256 * l[k].toNat + l[k+1].toNat := by
        unfold headS
        rw [getD_eq _ 0 (by rw [HD.out]; omega), getD_eq _ 1 (by rw [HD.out]; omega)]
        simp
      generalize l[k].toNat = x0 at *
      generalize l[k+1].toNat = x1 at *
      have hor := or_byte x0 x1 (by omega) hx1
      rw [← hh] at hor
      have hhl : headS (l.drop k) ≤ 65535 := by omega
      generalize hgh : headS (l.drop k) = h at *
      have E2 := Lib.hid hgh
      clear hgh hh
      have j1 : (k : Int) < l.length := by omega
      have j2 : (k : Int) + 1 < l.length := by omega
      have w1 : IntKind.i64.wrap ((k : Int) + 1) = (k : Int) + 1 := IntWalk.i64_in _ (by omega)
      have p1 : 0 ≤ (k : Int) + 1 := by omega
      have n1 : ((k : Int) + 1).toNat = k + 1 := by omega
      go_wp2_with fail
      go_quiet (fail)
      clear w1 p1 n1 j1 j2 f0 f1 hor hx0 hx1
      by_cases hlen : l.length < k + 4 + h
      · have hno : okS (l.drop k) = false := by
          cases hk : okS (l.drop k) with
          | false => rfl
          | true => have := okS_len hk; rw [HD.out, E2.out] at this; omega
        have hfin := HT.out
        rw [recsS_no hno] at hfin
        have HF := Lib.hid hfin
        clear hfin hno
        go_wp2_with fail
        go_ret2
        refine ⟨A2, c2, ?_, ?_, ?_, below_drewN hb _⟩
        · rw [HF.out]; simp
        · rw [HF.out]
          simp only [List.append_nil]
          obtain ⟨A2', c2', e2, _, _, hrd⟩ := own_reads hown
          obtain ⟨rfl, rfl⟩ : A2 = A2' ∧ c2 = c2' := by simpa using e2
          exact ⟨hs, hhs, (hrd.mono fun b h => h.2.1), fun i h1 h2 => ⟨(HE.out i h1 h2).1.mono fun b h => h.1, (HE.out i h1 h2).2⟩⟩
        · rw [HF.out]
          simp only [List.append_nil]
          obtain ⟨A2', c2', e2, hle, _, _⟩ := own_reads hown
          obtain ⟨rfl, rfl⟩ : A2 = A2' ∧ c2 = c2' := by simpa using e2
          exact hle
      · have f2 := HCC.out (k + 2 + h) (by omega)
        have f3 := HCC.out (k + 3 + h) (by omega)
        have g2 := getD_eq (l.drop k) (h + 2) (by rw [HD.out]; omega)
        have g3 := getD_eq (l.drop k) (h + 3) (by rw [HD.out]; omega)
        rw [List.getElem_drop] at g2 g3
        simp only [show k + (h + 2) = k + 2 + h by omega, show k + (h + 3) = k + 3 + h by omega] at g2 g3
        have G2 := Lib.hid g2
        have G3 := Lib.hid g3
        clear g2 g3
        have hx2 : l[k + 2 + h].toNat < 256 := UInt8.toNat_lt _
        have hx3 : l[k + 3 + h].toNat < 256 := UInt8.toNat_lt _
        have HSZ := Lib.hid (show ((l.drop k).take (h + 2)).length = h + 2 by rw [List.length_take, HD.out]; omega)
        have hs' := sumS_lt ((l.drop k).take (h + 2))
        obtain ⟨sm, HGS⟩ : ∃ sm, Hid (sumS ((l.drop k).take (h + 2)) = sm) := ⟨_, Lib.hid rfl⟩
        rw [HGS.out] at hs'
        have HX : Hid (okS (l.drop k) = decide (sm = 256 * l[k + 2 + h].toNat + l[k + 3 + h].toNat)) := Lib.hid (by
          simp only [okS, E2.out, G2.out, G3.out, HGS.out]
          rw [decide_eq_true (show 4 ≤ (l.drop k).length by rw [HD.out]; omega), decide_eq_true (show h + 4 ≤ (l.drop k).length by rw [HD.out]; omega)]
          rfl)
        generalize l[k + 2 + h].toNat = y2 at *
        generalize l[k + 3 + h].toNat = y3 at *
        have hor := or_byte y2 y3 (by omega) hx3
        go_wp2_with fail
        refine (sum_any ((l.drop k).take (h + 2)) _ (by rw [HSZ.out]; omega) _ _ _ (by rw [HSZ.out]; omega) (by exact RBytes.take (RBytes.drop (Reads.later HR.out (below_drewN hb _)) k _ fun _ => rfl) _)).mono ?_
        rw [HGS.out]
        rintro e w' ⟨rfl, rfl⟩
        have j2 : (k : Int) + 2 + h < l.length := by omega
        have j3 : (k : Int) + 3 + h < l.length := by omega
        have w2 : IntKind.i64.wrap ((k : Int) + 2) = (k : Int) + 2 := IntWalk.i64_in _ (by omega)
        have w3 : IntKind.i64.wrap ((k : Int) + 3) = (k : Int) + 3 := IntWalk.i64_in _ (by omega)
        have w2' : IntKind.i64.wrap ((k : Int) + 2 + h) = (k : Int) + 2 + h := IntWalk.i64_in _ (by omega)
        have w3' : IntKind.i64.wrap ((k : Int) + 3 + h) = (k : Int) + 3 + h := IntWalk.i64_in _ (by omega)
        have p2 : 0 ≤ (k : Int) + 2 + h := by omega
        have p3 : 0 ≤ (k : Int) + 3 + h := by omega
        have n2 : ((k : Int) + 2 + h).toNat = k + 2 + h := by omega
        have n3 : ((k : Int) + 3 + h).toNat = k + 3 + h := by omega
        by_cases hok : sm = 256 * y2 + y3
        · have hyes : okS (l.drop k) = true := by rw [HX.out]; simpa using hok
          have hfin := HT.out
          rw [recsS_yes hyes, E2.out] at hfin
          have HF := Lib.hid hfin
          have hne : ((sm : Int) != ((256 * y2 + y3 : Nat) : Int)) = false := by rw [bne_eq_false_iff_eq]; omega
          clear hfin hok hyes
          generalize 256 * y2 + y3 = yy at *
          have HO := Lib.hid hown
          clear hown
          go_wp2_with fail
          go_quiet (fail)
          go_wp2_with fail
          have hrl : (((l.drop k).take (h + 2)).drop 2).length = h := by rw [List.length_drop, HSZ.out]; omega
          have HRL := Lib.hid hrl
          clear hrl
          have r0 : RBytes w (· < w.heap.size) (some ⟨b, o + (k + 2), none⟩) (((l.drop k).take (h + 2)).drop 2) :=
            RBytes.drop (RBytes.take (RBytes.drop HR.out k _ fun _ => rfl) _) 2 _ fun _ => by rw [Nat.add_assoc]
          have hb2 : ∀ n, Below w.heap.size w (wr.drewN n) := fun n => below_drewN hb n
          refine (clone_bytes (((l.drop k).take (h + 2)).drop 2) _ HRL.out.symm _ _ _ (by rw [HRL.out]; omega) (by exact Reads.later r0 (hb2 _))).mono ?_
          rw [HRL.out]
          rintro e w3 ⟨A3, c3, rfl, hown3, hb3'⟩
          have hb3 : Below wr.heap.size wr w3 := (below_drewN (Below.refl _ _) _).trans hb3'
          obtain ⟨A3', c3', e3, hc31, hc32, hr3⟩ := own_reads hown3
          obtain ⟨rfl, rfl⟩ : A3 = A3' ∧ c3 = c3' := by simpa using e3
          have hr3' : RBytes w3 (fun b => wr.heap.size ≤ b ∧ b < w3.heap.size) A3 (((l.drop k).take (h + 2)).drop 2) := (hr3.mono fun b h => ⟨h.1, h.2.1⟩).of_eq HRL.out.symm rfl
          have HR3 := Lib.hid hr3'
          have HO3 := Lib.hid (own_later HO.out hb3)
          clear hown3 hb3' e3 hr3 hr3'
          go_wp2_with (at_builtin; refine wpList_append_any _ rfl (.tmp 61) (.tmp 71) _ rfl w.heap.size 22 i1 _ 1 24 Try.underlying25 hi1 hy0 hy1 hy2 rfl (by omega) (.slice A2 rs.length c2) rs.length _ rfl (HO3.out.alloc _) (· = w3.heap.size) (some ⟨w3.heap.size, 0, none⟩) 1 1 _ rfl (reads_lit _ _ _ _ 1 rfl) (by intro u hu; simp at hu; subst hu; rfl) (by simp only [maxLen]; omega) (by omega) (by have := hb.size; have := hb3.size; simp; omega) ?_; intro v4 w4 hown4 hg4 hat4; obtain ⟨A4, c4, rfl, hc41, hc42, _⟩ := own_reads hown4)
          have hblt := fun g hg => (HO3.out.lt g hg)
          have hb4 : Below w.heap.size w w4 := below_grown (below_alloc (below_trans hb hb3) _) hg4 (fun k hk => (HO3.out.lt k hk).1)
          refine ⟨⟨k + (4 + h), A4, c4, rs ++ [((l.drop k).take (h + 2)).drop 2], hs ++ [(A3, c3)], by omega, by simp; omega, by simp, by go_num, ?_, by simp [hhs], ?_, ?_, hb4⟩, by simp [intOf]; omega⟩
          · refine Lib.hid ?_
            rw [HF.out, List.drop_drop, show h + 4 = 4 + h from Nat.add_comm _ _, List.append_assoc]
            simp
            omega
          · rw [List.zipWith_append hhs]
            have e4 : List.zipWith recV [(A3, c3)] [((l.drop k).take (h + 2)).drop 2] = [.slice A3 h c3] := by simp [recV, HRL.out]
            rw [e4, List.length_append]
            exact hown4
          · refine Lib.hid fun i h1 h2 => ?_
            have hnew : ∀ x, x < w3.heap.size → (Value.slice A2 rs.length c2).ownBlock ≠ some x → w4.heap[x]? = w3.heap[x]? ∧ (Value.slice A4 (rs.length + 1) c4).ownBlock ≠ some x := fun x hx hne => by
              refine ⟨(hg4.block x (by simp; omega) (Ne.symm hne)).trans (Below.heap_alloc _ _ _ hx), ?_⟩
              rcases hat4 with e | e
              · rw [e]; exact hne
              · rw [e]; simp; omega
            have hsz4 := hg4.size
            simp only [World.size_alloc] at hsz4
            by_cases hi : i < rs.length
            · have h1' : i < hs.length := by omega
              rw [List.getElem_append_left h1', List.getElem_append_left hi, List.length_append]
              obtain ⟨r1, r2, r3⟩ := HE.out i h1' hi
              refine ⟨?_, r2, r3⟩
              have r1' := Reads.keep r1 (Kept.below hb3 fun b h => h.1)
              refine (Reads.keep r1' fun x hx => (hnew x (Nat.lt_of_lt_of_le hx.1 hb3.size) hx.2).1).mono fun x hx => ?_
              have h3 := hb3.size
              exact ⟨by have := hx.1; omega, (hnew x (Nat.lt_of_lt_of_le hx.1 hb3.size) hx.2).2⟩
            · have hi' : i = rs.length := by simp at h2; omega
              subst hi'
              rw [List.getElem_append_right (by omega), List.getElem_append_right (by omega), List.length_append]
              simp only [hhs, Nat.sub_self, List.getElem_cons_zero]
              have hap : ∀ x, wr.heap.size ≤ x → (Value.slice A2 rs.length c2).ownBlock ≠ some x := fun x hx e => by
                have := (HO.out.lt x e).2
                omega
              refine ⟨?_, by rw [HRL.out]; exact hc31, hc32⟩
              refine (Reads.keep HR3.out fun x hx => (hnew x hx.2 (hap x hx.1)).1).mono fun x hx => ?_
              exact ⟨by have := hx.2; omega, (hnew x hx.2 (hap x hx.1)).2⟩
        · have hfin := HT.out
          rw [recsS_no (by rw [HX.out]; simpa using hok)] at hfin
          have HF := Lib.hid hfin
          have hne : ((sm : Int) != ((256 * y2 + y3 : Nat) : Int)) = true := by rw [bne_iff_ne]; omega
          clear hfin hok
          generalize 256 * y2 + y3 = yy at *
          go_wp2_with fail
          go_quiet (fail)
          go_wp2_with fail
          go_ret2
          refine ⟨A2, c2, ?_, ?_, ?_, below_drewN (below_drewN hb _) _⟩
          · rw [HF.out]; simp
          · rw [HF.out]
            simp only [List.append_nil]
            obtain ⟨A2', c2', e2, _, _, hrd⟩ := own_reads hown
            obtain ⟨rfl, rfl⟩ : A2 = A2' ∧ c2 = c2' := by simpa using e2
            exact ⟨hs, hhs, (hrd.mono fun b h => h.2.1), fun i h1 h2 => ⟨(HE.out i h1 h2).1.mono fun b h => h.1, (HE.out i h1 h2).2⟩⟩
          · rw [HF.out]
            simp only [List.append_nil]
            obtain ⟨A2', c2', e2, hle, _, _⟩ := own_reads hown
            obtain ⟨rfl, rfl⟩ : A2 = A2' ∧ c2 = c2' := by simpa using e2
            exact hle
    · have hno : okS (l.drop k) = false := by
        cases hk : okS (l.drop k) with
        | false => rfl
        | true => have := okS_len hk; rw [List.length_drop] at this; omega
      have hfin := HT.out
      rw [recsS_no hno] at hfin
      have HF := Lib.hid hfin
      clear hfin hno
      go_wp2_with fail
      go_ret2
      refine ⟨A2, c2, ?_, ?_, ?_, hb⟩
      · rw [HF.out]; simp
      · rw [HF.out]
        simp only [List.append_nil]
        obtain ⟨A2', c2', e2, _, _, hrd⟩ := own_reads hown
        obtain ⟨rfl, rfl⟩ : A2 = A2' ∧ c2 = c2' := by simpa using e2
        exact ⟨hs, hhs, (hrd.mono fun b h => h.2.1), fun i h1 h2 => ⟨(HE.out i h1 h2).1.mono fun b h => h.1, (HE.out i h1 h2).2⟩⟩
      · rw [HF.out]
        simp only [List.append_nil]
        obtain ⟨A2', c2', e2, hle, _, _⟩ := own_reads hown
        obtain ⟨rfl, rfl⟩ : A2 = A2' ∧ c2 = c2' := by simpa using e2
        exact hle

end Go.Proofs.Ytcgdjdlcecnanaa
