/-
  The walks of note.Key and note.prop: what they return.
  No condition but that texts are no longer than 2^20 bytes.
-/
import Derived.Test.YtcgdjdlcecnanaaChecked
import Derived.Test.YtcgdjdlcecnanaaBase
import Derived.Test.YtcgdjdlcecnanaaLaws
namespace Go.Proofs.Ytcgdjdlcecnanaa
open Go.RowKit
set_option linter.unusedSimpArgs false
set_option linter.unusedVariables false

theorem lower_tests (c : UInt8) : lower c = (!decide ((c.toNat : Int) < 97) && !decide ((122 : Int) < c.toNat)) := by
  unfold lower
  rw [Bool.eq_iff_iff]
  simp
  omega

theorem all_take_succ {l : List UInt8} {k : Nat} (h : k < l.length) (p : UInt8 → Bool) : (l.take (k + 1)).all p = ((l.take k).all p && p l[k]) := by
  rw [List.take_succ_eq_append_getElem h, List.all_append]; simp

theorem all_false_of {l : List UInt8} {k : Nat} (h : k < l.length) (p : UInt8 → Bool) (hp : p l[k] = false) : l.all p = false := by
  rw [List.all_eq_false]
  exact ⟨l[k], List.getElem_mem h, by simp [hp]⟩

theorem key_any (s : ByteArray) (w : World) (hs : s.size ≤ 1048576) :
    Calls Try.prog 31 #[.string s] w fun e w' => e = .returned (.bool (keyS s)) ∧ w = w' := by
  go_enter Try.func31, Try.ntmps31
  go_wp2
  go_loop [3, 6] (fun _ i => ∃ k : Nat, k ≤ s.size ∧ i = .int .i64 k ∧ (s.data.toList.take k).all lower = true) (fun _ i => s.size - (intOf i).toNat)
  case atStart => exact ⟨0, Nat.zero_le _, rfl, rfl⟩
  case round =>
    obtain ⟨k, hk, rfl, hal⟩ := hrel
    have HAL := Lib.hid hal
    clear hal
    by_cases hlt : k < s.size
    · have hb : s[k].toNat < 256 := UInt8.toNat_lt _
      have hl : k < s.data.toList.length := by simpa using hlt
      have he : s[k] = s.data.toList[k] := rfl
      cases hlow : lower s[k] with
      | true =>
        have h1 := lower_tests s[k]
        rw [hlow] at h1
        have h97 : decide ((s[k].toNat : Int) < 97) = false := by simp at h1; simp; omega
        have h122 : decide ((122 : Int) < s[k].toNat) = false := by simp at h1; simp; omega
        have HL := Lib.hid hlow
        have HE := Lib.hid he
        clear hlow h1 he
        go_wp2
        go_round
        case rel => exact ⟨k + 1, by omega, by go_num, by rw [all_take_succ hl, HAL.out, ← HE.out, HL.out]; rfl⟩
        case measure => simp [intOf]; omega
      | false =>
        have h1 := lower_tests s[k]
        rw [hlow] at h1
        have hall : s.data.toList.all lower = false := all_false_of hl lower (by rw [← he]; exact hlow)
        have hkey : keyS s = false := by simp [keyS, hall]
        have HK := Lib.hid hkey
        clear hkey hall hlow he
        by_cases h97 : (s[k].toNat : Int) < 97
        · have h97' : decide ((s[k].toNat : Int) < 97) = true := by simpa using h97
          clear h1 h97
          go_wp2
          go_ret
          exact ⟨ret_bool HK.out.symm, rfl⟩
        · have h97' : decide ((s[k].toNat : Int) < 97) = false := by simpa using h97
          have h122 : decide ((122 : Int) < s[k].toNat) = true := by simp at h1; simp; omega
          clear h1 h97
          go_wp2
          go_ret
          exact ⟨ret_bool HK.out.symm, rfl⟩
    · have e : k = s.size := by omega
      have ha : keyS s = (decide (1 ≤ s.size) && decide (s.size ≤ 8)) := by
        have h2 := HAL.out
        rw [List.take_of_length_le (by simp; omega)] at h2
        simp [keyS, h2]
      have HA := Lib.hid ha
      clear ha
      by_cases h1 : (1 ≤ s.size)
      · go_wp2
        go_ret
        refine ⟨ret_bool ?_, rfl⟩
        rw [HA.out]; simp [h1]; omega
      · go_wp2
        go_ret
        refine ⟨ret_bool ?_, rfl⟩
        rw [HA.out]; simp; omega
set_option maxHeartbeats 1000000 in
theorem prop_any (p : LProp) (w : World) (hs : p.key.size ≤ 1048576) :
    Calls Try.prog 73 #[.agg #[.string p.key, .int .i64 p.kind, .int .i64 p.n, .string p.text]] w fun e w' => e = .returned (.int .i64 (propS p)) ∧ Below w.heap.size w w' := by
  obtain ⟨k, kind, n, t⟩ := p
  simp only at hs ⊢
  cases hk : keyS k with
  | false =>
    have hfin : propS ⟨k, kind, n, t⟩ = 7 := by simp [propS, hk]
    generalize propS ⟨k, kind, n, t⟩ = r at *
    have HK := Lib.hid hk
    have HF := Lib.hid hfin
    clear hk hfin
    go_enter Try.func73, Try.ntmps73
    go_wp2_with (go_at_call 31; refine (key_any _ _ hs).mono ?_; rw [HK.out]; rintro e w' ⟨rfl, rfl⟩)
    go_ret
    exact ⟨ret_int HF.out.symm, by repeat (first | exact Below.refl _ _ | apply Below.drew | apply Below.alloc _ (Nat.le_refl _))⟩
  | true =>
    have hfin : propS ⟨k, kind, n, t⟩ = if kind < 1 ∨ 3 < kind then 1
      else if (kind = 1 ∧ (n < -1073741824 ∨ 1073741824 < n)) ∨ (kind = 3 ∧ (n < 0 ∨ 1 < n)) then 3
      else if kind = 2 ∧ 12 < t.size then 4
      else if (kind = 2 ∧ n ≠ 0) ∨ (kind ≠ 2 ∧ 0 < t.size) then 2 else 0 := by simp [propS, hk]
    generalize propS ⟨k, kind, n, t⟩ = r at *
    have HK := Lib.hid hk
    have HF := Lib.hid hfin
    clear hk hfin
    go_enter Try.func73, Try.ntmps73
    go_wp2_with (go_at_call 31; refine (key_any _ _ hs).mono ?_; rw [HK.out]; rintro e w' ⟨rfl, rfl⟩)
    all_goals go_ret
    all_goals refine ⟨ret_int ?_, by repeat (first | exact Below.refl _ _ | apply Below.drew | apply Below.alloc _ (Nat.le_refl _))⟩
    all_goals rw [HF.out]
    all_goals try simp only [isEmpty_size, Bool.not_eq_true', Bool.not_eq_false', decide_eq_false_iff_not, decide_eq_true_eq] at *
    all_goals (repeat' split)
    all_goals first | rfl | (exfalso; omega)

theorem propsS_zero_take (l : List LProp) (k : Nat) (h : k < l.length) (h0 : propsS (l.take k) = 0) : propsS l = if propS l[k] = 0 then propsS (l.drop (k + 1)) else propS l[k] := by
  induction l generalizing k with
  | nil => simp at h
  | cons p r ih =>
    cases k with
    | zero => simp [propsS]
    | succ k =>
      have hp : propS p = 0 := by
        by_cases e : propS p = 0
        · exact e
        · simp [propsS, e] at h0
      simp [propsS, hp] at h0 ⊢
      exact ih k (by simpa using h) h0
theorem propsS_take_succ (l : List LProp) (k : Nat) (h : k < l.length) (h0 : propsS (l.take k) = 0) (hp : propS l[k] = 0) : propsS (l.take (k + 1)) = 0 := by
  induction l generalizing k with
  | nil => simp at h
  | cons p r ih =>
    cases k with
    | zero => simp [propsS] at hp ⊢; simp [hp]
    | succ k =>
      have hq : propS p = 0 := by
        by_cases e : propS p = 0
        · exact e
        · simp [propsS, e] at h0
      simp [propsS, hq] at h0 ⊢
      exact ih k (by simpa using h) h0 (by simpa using hp)

set_option maxHeartbeats 1000000 in
theorem wrong_any (n : LNote) (A A' : Option Addr) (c c' : Nat) (w : World) (hn : n.Fits) (hp : RProps w (· < w.heap.size) A n.props) :
    Calls Try.prog 29 #[.agg #[.slice A n.props.length c, .slice A' n.body.length c']] w fun e w' => e = .returned (.int .i64 (wrongS n)) ∧ Below w.heap.size w w' := by
  obtain ⟨hn1, hn2, hn3⟩ := hn
  generalize hr : wrongS n = r
  have HR := Lib.hid hr
  have HP := Lib.hid hp
  have HN1 := Lib.hid hn1
  clear hr hp hn1
  by_cases h4 : 4 < n.props.length
  · go_enter Try.func29, Try.ntmps29
    go_wp2_with fail
    go_ret
    exact ⟨ret_int (by rw [← HR.out]; simp [wrongS, h4]), by repeat (first | exact Below.refl _ _ | apply Below.drew | apply Below.alloc _ (Nat.le_refl _))⟩
  · go_enter Try.func29, Try.ntmps29
    go_wp2_with fail
    go_loopw [4, 5, 13] (fun _ _ i wr => ∃ k : Nat, k ≤ n.props.length ∧ i = .int .i64 k ∧ Hid (propsS (n.props.take k) = 0) ∧
      Below (w.heap.size + 1) (w.alloc (.cells #[.slice A n.props.length c, .slice A' n.body.length c'] 42)) wr) (fun _ _ i _ => n.props.length - (intOf i).toNat)
    case atStart => exact ⟨0, Nat.zero_le _, rfl, Lib.hid rfl, Below.refl _ _⟩
    case round =>
      obtain ⟨k, hk, rfl, H0, hb⟩ := hrel
      have hsz := hb.size
      simp only [World.size_alloc] at hsz
      have c0 : wr.cell? ⟨w.heap.size, 1, none⟩ = some (.slice A' n.body.length c') := by
        rw [hb.cell (by simp)]; simp
      by_cases hlt : k < n.props.length
      · obtain ⟨b, o, rfl, hS, hc⟩ := (HP.out).at_ (by omega)
        obtain ⟨f0, f1, f2, f3⟩ := hc k hlt
        have hS' : b < w.heap.size := hS
        have e0 : ∀ j, wr.cell? ⟨b, j, none⟩ = w.cell? ⟨b, j, none⟩ := fun j => by
          rw [hb.cell (p := ⟨b, j, none⟩) (by show b < _; omega)]
          exact World.cell?_alloc_lt _ _ _ hS'
        rw [← e0] at f0 f1 f2 f3
        clear hc e0
        have hfit := HN1.out n.props[k] (List.getElem_mem hlt)
        have hks := hfit.1
        have HFT := Lib.hid hfit
        clear hfit
        by_cases hz : propS n.props[k] = 0
        · have H1 := Lib.hid (propsS_take_succ n.props k hlt H0.out hz)
          have HZ := Lib.hid hz
          clear hz
          go_wp2_with fail
          refine (prop_any n.props[k] _ hks).mono ?_
          rw [HZ.out]
          rintro e w1 ⟨rfl, hb1⟩
          have hz1 := hb1.size
          simp at hz1
          have hb2 : Below (w.heap.size + 1) (w.alloc (.cells #[.slice (some ⟨b, o, none⟩) n.props.length c, .slice A' n.body.length c'] 42)) w1 :=
            (hb.alloc (by omega) _).trans (hb1.mono (by simp; omega))
          clear hb1 f0 f1 f2 f3
          go_wp2_with fail
          go_roundw
          case rel => exact ⟨k + 1, by omega, by go_num, H1, hb2⟩
          case measure => simp [intOf]; omega
        · have hfin : propS n.props[k] = r := by
            rw [← HR.out]
            have h1 := propsS_zero_take n.props k hlt H0.out
            rw [if_neg hz] at h1
            simp [wrongS, h4, h1, hz]
          have hz' : ((propS n.props[k]) != 0) = true := by simpa using hz
          have HF := Lib.hid hfin
          clear hfin hz
          go_wp2_with fail
          refine (prop_any n.props[k] _ hks).mono ?_
          rintro e w1 ⟨rfl, hb1⟩
          have hb2 : Below w.heap.size w w1 :=
            (((Below.refl _ _).alloc (Nat.le_refl _) _).trans ((hb.alloc (by omega) _).mono (by omega))).trans (hb1.mono (by simp; omega))
          clear hb1 f0 f1 f2 f3
          go_wp2_with fail
          go_ret
          exact ⟨ret_int HF.out, hb2⟩
      · have e : k = n.props.length := by omega
        have hfin : r = if 40 < n.body.length then 4 else 0 := by
          have h0 := H0.out
          rw [List.take_of_length_le (by omega)] at h0
          rw [← HR.out]
          simp [wrongS, h4, h0]
        have HF := Lib.hid hfin
        clear hfin e
        have hb2 : Below w.heap.size w wr := ((Below.refl _ _).alloc (Nat.le_refl _) _).trans (hb.mono (by omega))
        by_cases h40 : 40 < n.body.length
        · go_wp2_with fail
          go_ret
          exact ⟨ret_int (by rw [HF.out, if_pos h40]), hb2⟩
        · go_wp2_with fail
          go_ret
          exact ⟨ret_int (by rw [HF.out, if_neg h40]), hb2⟩

theorem refkey_any (s : ByteArray) (w : World) (hs : s.size ≤ 1048576) :
    Calls Try.prog 32 #[.string s] w fun e w' => e = .returned (.bool (keyS s)) ∧ Below w.heap.size w w' := by
  generalize hr : keyS s = r
  have HR := Lib.hid hr
  clear hr
  by_cases h1 : s.size = 0
  · have he : s.toList.isEmpty = true := by rw [isEmpty_size]; simp [h1]
    have hfin : r = false := by rw [← HR.out]; simp [keyS, h1]
    have HF := Lib.hid hfin
    clear hfin
    go_enter Try.func32, Try.ntmps32
    go_wp2_with fail
    go_ret
    exact ⟨ret_bool HF.out.symm, Below.refl _ _⟩
  · have he : s.toList.isEmpty = false := by rw [isEmpty_size]; simp [h1]
    by_cases h8 : 8 < s.size
    · have hfin : r = false := by rw [← HR.out]; simp [keyS]; omega
      have HF := Lib.hid hfin
      clear hfin
      go_enter Try.func32, Try.ntmps32
      go_wp2_with fail
      go_ret
      exact ⟨ret_bool HF.out.symm, Below.refl _ _⟩
    · have hkey : keyS s = (s.data.toList.all lower && decide (1 ≤ s.size) && decide (s.size ≤ 8)) := rfl
      have hl : s.data.toList.length = s.size := rfl
      generalize hdl : s.data.toList = l at *
      have HL := Lib.hid hl
      have HD := Lib.hid hdl
      have HK := Lib.hid hkey
      clear hl hdl hkey
      go_enter Try.func32, Try.ntmps32
      go_wp2_with (refine wpList_bytes_of_string _ rfl (.tmp 12) 9 22 5 rfl Try.underlying9 Try.underlying22 Try.underlying5 s l HD.out rfl ?_ (by omega); intro c w1 hc1 hc2 hr1 hb1)
      go_loop [4, 15] (fun _ i => ∃ k : Nat, k ≤ l.length ∧ i = .int .i64 k ∧ Hid ((l.take k).all lower = true)) (fun _ i => l.length - (intOf i).toNat)
      case atStart => exact ⟨0, Nat.zero_le _, rfl, Lib.hid rfl⟩
      case round =>
        obtain ⟨k, hk, rfl, HAL⟩ := hrel
        have hb20 : l.length ≤ 1048576 := by rw [HL.out]; exact hs
        by_cases hlt : k < l.length
        · obtain ⟨b, o, e, hS, hc⟩ := hr1.at_ (by omega)
          injection e with e
          injection e with e1 e2 e3
          subst e1 e2
          have hk1 := hc k hlt
          rw [Nat.zero_add] at hk1
          have h256 : l[k].toNat < 256 := UInt8.toNat_lt _
          cases hlow : lower l[k] with
          | true =>
            have h1 := lower_tests l[k]
            rw [hlow] at h1
            have h97 : decide ((l[k].toNat : Int) < 97) = false := by simp at h1; simp; omega
            have h122 : decide ((122 : Int) < l[k].toNat) = false := by simp at h1; simp; omega
            have HW := Lib.hid hlow
            clear hlow h1 hc
            go_wp2
            go_round
            case rel => exact ⟨k + 1, by omega, by go_num, Lib.hid (by rw [all_take_succ hlt, HAL.out, HW.out]; rfl)⟩
            case measure => simp [intOf]; omega
          | false =>
            have h1 := lower_tests l[k]
            rw [hlow] at h1
            have hall : l.all lower = false := all_false_of hlt lower hlow
            have hfin : r = false := by rw [← HR.out, HK.out]; simp [hall]
            have HF := Lib.hid hfin
            clear hfin hall hlow hc
            by_cases h97 : (l[k].toNat : Int) < 97
            · have h97' : decide ((l[k].toNat : Int) < 97) = true := by simpa using h97
              clear h1 h97
              go_wp2
              go_ret
              exact ⟨ret_bool HF.out.symm, hb1⟩
            · have h97' : decide ((l[k].toNat : Int) < 97) = false := by simpa using h97
              have h122 : decide ((122 : Int) < l[k].toNat) = true := by simp at h1; simp; omega
              clear h1 h97
              go_wp2
              go_ret
              exact ⟨ret_bool HF.out.symm, hb1⟩
        · have hfin : r = true := by
            have h2 := HAL.out
            rw [List.take_of_length_le (by omega)] at h2
            rw [← HR.out, HK.out]
            have := HL.out
            simp only [h2, Bool.true_and, Bool.and_eq_true, decide_eq_true_eq]
            omega
          have HF := Lib.hid hfin
          clear hfin
          go_wp2
          go_ret
          exact ⟨ret_bool HF.out.symm, hb1⟩

end Go.Proofs.Ytcgdjdlcecnanaa
