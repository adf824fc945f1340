/-
  The walk of the reference's Wrong of notes: what it returns.
  No condition but that texts and lists are no longer than 2^20.
-/
import Derived.Test.YtcgdjdlcecnanaaNoteA
import Derived.Test.YtcgdjdlcecnanaaMap
namespace Go.Proofs.Ytcgdjdlcecnanaa
open Go.RowKit
set_option linter.unusedSimpArgs false
set_option linter.unusedVariables false


theorem prop_cases (p : LProp) (hk : keyS p.key = true) :
    (((p.kind == 1) = false ∧ (p.kind == 2) = false ∧ (p.kind == 3) = false) ∧ propS p = 1) ∨ ((p.kind = 1 ∧ p.n < -1073741824) ∧ propS p = 3) ∨ ((p.kind = 1 ∧ -1073741824 ≤ p.n ∧ 1073741824 < p.n) ∧ propS p = 3) ∨
    ((p.kind = 1 ∧ -1073741824 ≤ p.n ∧ p.n ≤ 1073741824 ∧ 0 < p.text.size) ∧ propS p = 2) ∨ ((p.kind = 1 ∧ -1073741824 ≤ p.n ∧ p.n ≤ 1073741824 ∧ p.text.size = 0) ∧ propS p = 0) ∨
    ((p.kind = 2 ∧ 12 < p.text.size) ∧ propS p = 4) ∨ ((p.kind = 2 ∧ p.text.size ≤ 12 ∧ (p.n != 0) = true) ∧ propS p = 2) ∨ ((p.kind = 2 ∧ p.text.size ≤ 12 ∧ (p.n != 0) = false) ∧ propS p = 0) ∨
    ((p.kind = 3 ∧ p.n < 0) ∧ propS p = 3) ∨ ((p.kind = 3 ∧ 0 ≤ p.n ∧ 1 < p.n) ∧ propS p = 3) ∨ ((p.kind = 3 ∧ 0 ≤ p.n ∧ p.n ≤ 1 ∧ 0 < p.text.size) ∧ propS p = 2) ∨ ((p.kind = 3 ∧ 0 ≤ p.n ∧ p.n ≤ 1 ∧ p.text.size = 0) ∧ propS p = 0) := by
  have hp : propS p = if p.kind < 1 ∨ 3 < p.kind then 1
      else if (p.kind = 1 ∧ (p.n < -1073741824 ∨ 1073741824 < p.n)) ∨ (p.kind = 3 ∧ (p.n < 0 ∨ 1 < p.n)) then 3
      else if p.kind = 2 ∧ 12 < p.text.size then 4
      else if (p.kind = 2 ∧ p.n ≠ 0) ∨ (p.kind ≠ 2 ∧ 0 < p.text.size) then 2 else 0 := by simp [propS, hk]
  by_cases k1 : p.kind = 1
  · have h1 : propS p = if p.n < -1073741824 ∨ 1073741824 < p.n then 3 else if 0 < p.text.size then 2 else 0 := by rw [hp, k1]; simp
    by_cases a : p.n < -1073741824
    · exact .inr (.inl ⟨⟨k1, a⟩, by rw [h1, if_pos (.inl a)]⟩)
    · by_cases b : 1073741824 < p.n
      · exact .inr (.inr (.inl ⟨⟨k1, by omega, b⟩, by rw [h1, if_pos (.inr b)]⟩))
      · by_cases c : 0 < p.text.size
        · exact .inr (.inr (.inr (.inl ⟨⟨k1, by omega, by omega, c⟩, by rw [h1, if_neg (by omega), if_pos c]⟩)))
        · exact .inr (.inr (.inr (.inr (.inl ⟨⟨k1, by omega, by omega, by omega⟩, by rw [h1, if_neg (by omega), if_neg c]⟩))))
  by_cases k2 : p.kind = 2
  · have h1 : propS p = if 12 < p.text.size then 4 else if p.n ≠ 0 then 2 else 0 := by rw [hp, k2]; simp
    by_cases a : 12 < p.text.size
    · exact .inr (.inr (.inr (.inr (.inr (.inl ⟨⟨k2, a⟩, by rw [h1, if_pos a]⟩)))))
    · by_cases b : p.n ≠ 0
      · exact .inr (.inr (.inr (.inr (.inr (.inr (.inl ⟨⟨k2, by omega, by simpa using b⟩, by rw [h1, if_neg a, if_pos b]⟩))))))
      · exact .inr (.inr (.inr (.inr (.inr (.inr (.inr (.inl ⟨⟨k2, by omega, by simpa using b⟩, by rw [h1, if_neg a, if_neg b]⟩)))))))
  by_cases k3 : p.kind = 3
  · have h1 : propS p = if p.n < 0 ∨ 1 < p.n then 3 else if 0 < p.text.size then 2 else 0 := by rw [hp, k3]; simp
    by_cases a : p.n < 0
    · exact .inr (.inr (.inr (.inr (.inr (.inr (.inr (.inr (.inl ⟨⟨k3, a⟩, by rw [h1, if_pos (.inl a)]⟩))))))))
    · by_cases b : 1 < p.n
      · exact .inr (.inr (.inr (.inr (.inr (.inr (.inr (.inr (.inr (.inl ⟨⟨k3, by omega, b⟩, by rw [h1, if_pos (.inr b)]⟩)))))))))
      · by_cases c : 0 < p.text.size
        · exact .inr (.inr (.inr (.inr (.inr (.inr (.inr (.inr (.inr (.inr (.inl ⟨⟨k3, by omega, by omega, c⟩, by rw [h1, if_neg (by omega), if_pos c]⟩))))))))))
        · exact .inr (.inr (.inr (.inr (.inr (.inr (.inr (.inr (.inr (.inr (.inr ⟨⟨k3, by omega, by omega, by omega⟩, by rw [h1, if_neg (by omega), if_neg c]⟩))))))))))
  exact .inl ⟨⟨by simpa using k1, by simpa using k2, by simpa using k3⟩, by rw [hp, if_pos (by omega)]⟩

theorem zero_int (w : World) : (zeroValue 3).run Try.prog w = .ok (.int .i64 0) w := by kernel_rfl
def kindMap : Array MapEntry := #[⟨.int .i64 1, .int .i64 1073741824, 0⟩, ⟨.int .i64 2, .int .i64 0, 1⟩, ⟨.int .i64 3, .int .i64 1, 2⟩]
set_option maxRecDepth 100000 in
set_option maxHeartbeats 1000000 in
theorem refwrong_any (n : LNote) (A A' : Option Addr) (c c' : Nat) (w : World) (hn : n.Fits) (hp : RProps w (· < w.heap.size) A n.props) :
    Calls Try.prog 30 #[.agg #[.slice A n.props.length c, .slice A' n.body.length c']] w fun e w' => e = .returned (.int .i64 (wrongS n)) ∧ Below w.heap.size w w' := by
  obtain ⟨hn1, hn2, hn3⟩ := hn
  generalize hr : wrongS n = r
  have HR := Lib.hid hr
  have HP := Lib.hid hp
  have HN1 := Lib.hid hn1
  clear hr hp hn1
  by_cases h4 : 4 < n.props.length
  · go_enter Try.func30, Try.ntmps30
    go_wp2_with fail
    go_ret
    exact ⟨ret_int (by rw [← HR.out]; simp [wrongS, h4]), by repeat (first | exact Below.refl _ _ | apply Below.drew | apply Below.alloc _ (Nat.le_refl _))⟩
  · have hmm := @run_makeMap Try.prog
    have hi0 := lit_ins0 (P := Try.prog) Try.underlying101 Try.underlying3
    have hi1 := lit_ins1 (P := Try.prog) Try.underlying101 Try.underlying3
    have hi2 := lit_ins2 (P := Try.prog) Try.underlying101 Try.underlying3
    go_enter Try.func30, Try.ntmps30
    go_wp2_with fail
    go_loopw [4, 5, 6, 7, 15] (fun _ _ _ _ i wr => ∃ k : Nat, k ≤ n.props.length ∧ i = .int .i64 k ∧ Hid (propsS (n.props.take k) = 0) ∧
      Below (w.heap.size + 1) (w.alloc (.cells #[.slice A n.props.length c, .slice A' n.body.length c'] 42)) wr) (fun _ _ _ _ i _ => n.props.length - (intOf i).toNat)
    case atStart => exact ⟨0, Nat.zero_le _, rfl, Lib.hid rfl, Below.refl _ _⟩
    case round =>
      obtain ⟨k, hk, rfl, H0, hb⟩ := hrel
      have hsz := hb.size
      simp only [World.size_alloc] at hsz
      have c0 : wr.cell? ⟨w.heap.size, 1, none⟩ = some (.slice A' n.body.length c') := by
        rw [hb.cell (by simp)]; simp
      by_cases hlt : k < n.props.length
      · obtain ⟨b, o, rfl, hS, hc⟩ := (HP.out).at_ (by omega)
        obtain ⟨f0, f1, f2, f3⟩ := hc k hlt
        have hS' : b < w.heap.size := hS
        have e0 : ∀ j, wr.cell? ⟨b, j, none⟩ = w.cell? ⟨b, j, none⟩ := fun j => by
          rw [hb.cell (p := ⟨b, j, none⟩) (by show b < _; omega)]
          exact World.cell?_alloc_lt _ _ _ hS'
        rw [← e0] at f0 f1 f2 f3
        clear hc e0
        have hfit := HN1.out n.props[k] (List.getElem_mem hlt)
        have hks := hfit.1
        have HFT := Lib.hid hfit
        clear hfit
        have hb9 : Below w.heap.size w wr := ((Below.refl _ _).alloc (Nat.le_refl _) _).trans (hb.mono (by omega))
        have HF : Hid (propS n.props[k] ≠ 0 → r = propS n.props[k]) := Lib.hid fun hz => by
          rw [← HR.out]
          have h1 := propsS_zero_take n.props k hlt H0.out
          rw [if_neg hz] at h1
          simp [wrongS, h4, h1, hz]
        have H1 : Hid (propS n.props[k] = 0 → propsS (n.props.take (k + 1)) = 0) := Lib.hid fun hz => propsS_take_succ n.props k hlt H0.out hz
        have HB : Hid (∀ (o : Obj) (w1 : World), Below (wr.heap.size + 1) (wr.alloc o) w1 → Below w.heap.size w w1 ∧ ∀ o', Below (w.heap.size + 1) (w.alloc o') wr → Below (w.heap.size + 1) (w.alloc o') w1) :=
          Lib.hid fun o w1 h => ⟨hb9.trans (((Below.refl _ _).alloc (by omega) _).trans (h.mono (by omega))), fun o' ho => (ho.alloc (by omega) _).trans (h.mono (by omega))⟩
        cases hkey : keyS n.props[k].key with
        | false =>
          have hv : propS n.props[k] = 7 := by simp [propS, hkey]
          have HV := Lib.hid hv
          have HKY := Lib.hid hkey
          clear hv hkey
          generalize n.props[k] = p at *
          go_wp2_with (go_at_call 32; refine (refkey_any _ _ hks).mono ?_; rw [HKY.out]; rintro e w1 ⟨rfl, hb1⟩)
          go_ret
          exact ⟨ret_int (by rw [HF.out (by rw [HV.out]; decide), HV.out]), (HB.out _ _ (by simpa using hb1)).1⟩
        | true =>
          have hcases := prop_cases n.props[k] hkey
          have HKY := Lib.hid hkey
          clear hkey
          generalize n.props[k] = p at *
          obtain ⟨key, kind, pn, text⟩ := p
          simp only at hcases f0 f1 f2 f3 hks
          clear hb9
          rcases hcases with ⟨⟨q1, q2, q3⟩, hv⟩ | ⟨⟨rfl, q1⟩, hv⟩ | ⟨⟨rfl, q1, q2⟩, hv⟩ | ⟨⟨rfl, q1, q2, q3⟩, hv⟩ | ⟨⟨rfl, q1, q2, q3⟩, hv⟩ | ⟨⟨rfl, q1⟩, hv⟩ | ⟨⟨rfl, q1, q2⟩, hv⟩ | ⟨⟨rfl, q1, q2⟩, hv⟩ | ⟨⟨rfl, q1⟩, hv⟩ | ⟨⟨rfl, q1, q2⟩, hv⟩ | ⟨⟨rfl, q1, q2, q3⟩, hv⟩ | ⟨⟨rfl, q1, q2, q3⟩, hv⟩
          · have hl1 := lit_look (P := Try.prog) Try.underlying101 Try.underlying3 #[⟨.int .i64 1, .int .i64 1073741824, 0⟩, ⟨.int .i64 2, .int .i64 0, 1⟩, ⟨.int .i64 3, .int .i64 1, 2⟩] 3 kind true _ zero_int none (by simp [Instr.findNow, Instr.sameNow, q1, q2, q3])
            simp only [Option.map_none, Option.getD_none, Option.isSome_none, if_true] at hl1
            have HV := Lib.hid hv
            clear hv
            go_wp2_with (go_at_call 32; refine (refkey_any _ _ hks).mono ?_; rw [HKY.out]; rintro e w1 ⟨rfl, hb1⟩; obtain ⟨hc1, hf1⟩ := bcell hb1; have hz1 : wr.heap.size < w1.heap.size := by have := hb1.size; simp at this; omega)
            have hb1' := HB.out _ _ (by simpa using hb1)
            go_ret
            exact ⟨ret_int (by rw [HF.out (by rw [HV.out]; decide), HV.out]), hb1'.1.trans ((Below.refl _ _).alloc (by omega) _)⟩
          · have hl1 := lit_look (P := Try.prog) Try.underlying101 Try.underlying3 #[⟨.int .i64 1, .int .i64 1073741824, 0⟩, ⟨.int .i64 2, .int .i64 0, 1⟩, ⟨.int .i64 3, .int .i64 1, 2⟩] 3 1 true _ zero_int (some (0, .int .i64 1073741824)) rfl
            simp only [Option.map_some, Option.getD_some, Option.isSome_some, if_true, Bool.false_eq_true, if_false] at hl1
            have hl2 := lit_look (P := Try.prog) Try.underlying101 Try.underlying3 #[⟨.int .i64 1, .int .i64 1073741824, 0⟩, ⟨.int .i64 2, .int .i64 0, 1⟩, ⟨.int .i64 3, .int .i64 1, 2⟩] 3 1 false _ zero_int (some (0, .int .i64 1073741824)) rfl
            simp only [Option.map_some, Option.getD_some, Option.isSome_some, if_true, Bool.false_eq_true, if_false] at hl2
            have HV := Lib.hid hv
            clear hv
            go_wp2_with (go_at_call 32; refine (refkey_any _ _ hks).mono ?_; rw [HKY.out]; rintro e w1 ⟨rfl, hb1⟩; obtain ⟨hc1, hf1⟩ := bcell hb1; have hz1 : wr.heap.size < w1.heap.size := by have := hb1.size; simp at this; omega)
            have hb1' := HB.out _ _ (by simpa using hb1)
            go_ret
            exact ⟨ret_int (by rw [HF.out (by rw [HV.out]; decide), HV.out]), hb1'.1.trans ((Below.refl _ _).alloc (by omega) _)⟩
          · have hl1 := lit_look (P := Try.prog) Try.underlying101 Try.underlying3 #[⟨.int .i64 1, .int .i64 1073741824, 0⟩, ⟨.int .i64 2, .int .i64 0, 1⟩, ⟨.int .i64 3, .int .i64 1, 2⟩] 3 1 true _ zero_int (some (0, .int .i64 1073741824)) rfl
            simp only [Option.map_some, Option.getD_some, Option.isSome_some, if_true, Bool.false_eq_true, if_false] at hl1
            have hl2 := lit_look (P := Try.prog) Try.underlying101 Try.underlying3 #[⟨.int .i64 1, .int .i64 1073741824, 0⟩, ⟨.int .i64 2, .int .i64 0, 1⟩, ⟨.int .i64 3, .int .i64 1, 2⟩] 3 1 false _ zero_int (some (0, .int .i64 1073741824)) rfl
            simp only [Option.map_some, Option.getD_some, Option.isSome_some, if_true, Bool.false_eq_true, if_false] at hl2
            have HV := Lib.hid hv
            clear hv
            go_wp2_with (go_at_call 32; refine (refkey_any _ _ hks).mono ?_; rw [HKY.out]; rintro e w1 ⟨rfl, hb1⟩; obtain ⟨hc1, hf1⟩ := bcell hb1; have hz1 : wr.heap.size < w1.heap.size := by have := hb1.size; simp at this; omega)
            have hb1' := HB.out _ _ (by simpa using hb1)
            go_ret
            exact ⟨ret_int (by rw [HF.out (by rw [HV.out]; decide), HV.out]), hb1'.1.trans ((Below.refl _ _).alloc (by omega) _)⟩
          · have hl1 := lit_look (P := Try.prog) Try.underlying101 Try.underlying3 #[⟨.int .i64 1, .int .i64 1073741824, 0⟩, ⟨.int .i64 2, .int .i64 0, 1⟩, ⟨.int .i64 3, .int .i64 1, 2⟩] 3 1 true _ zero_int (some (0, .int .i64 1073741824)) rfl
            simp only [Option.map_some, Option.getD_some, Option.isSome_some, if_true, Bool.false_eq_true, if_false] at hl1
            have hl2 := lit_look (P := Try.prog) Try.underlying101 Try.underlying3 #[⟨.int .i64 1, .int .i64 1073741824, 0⟩, ⟨.int .i64 2, .int .i64 0, 1⟩, ⟨.int .i64 3, .int .i64 1, 2⟩] 3 1 false _ zero_int (some (0, .int .i64 1073741824)) rfl
            simp only [Option.map_some, Option.getD_some, Option.isSome_some, if_true, Bool.false_eq_true, if_false] at hl2
            have HV := Lib.hid hv
            clear hv
            go_wp2_with (go_at_call 32; refine (refkey_any _ _ hks).mono ?_; rw [HKY.out]; rintro e w1 ⟨rfl, hb1⟩; obtain ⟨hc1, hf1⟩ := bcell hb1; have hz1 : wr.heap.size < w1.heap.size := by have := hb1.size; simp at this; omega)
            have hb1' := HB.out _ _ (by simpa using hb1)
            go_ret
            exact ⟨ret_int (by rw [HF.out (by rw [HV.out]; decide), HV.out]), hb1'.1.trans ((Below.refl _ _).alloc (by omega) _)⟩
          · have hl1 := lit_look (P := Try.prog) Try.underlying101 Try.underlying3 #[⟨.int .i64 1, .int .i64 1073741824, 0⟩, ⟨.int .i64 2, .int .i64 0, 1⟩, ⟨.int .i64 3, .int .i64 1, 2⟩] 3 1 true _ zero_int (some (0, .int .i64 1073741824)) rfl
            simp only [Option.map_some, Option.getD_some, Option.isSome_some, if_true, Bool.false_eq_true, if_false] at hl1
            have hl2 := lit_look (P := Try.prog) Try.underlying101 Try.underlying3 #[⟨.int .i64 1, .int .i64 1073741824, 0⟩, ⟨.int .i64 2, .int .i64 0, 1⟩, ⟨.int .i64 3, .int .i64 1, 2⟩] 3 1 false _ zero_int (some (0, .int .i64 1073741824)) rfl
            simp only [Option.map_some, Option.getD_some, Option.isSome_some, if_true, Bool.false_eq_true, if_false] at hl2
            have HV := Lib.hid hv
            clear hv
            go_wp2_with (go_at_call 32; refine (refkey_any _ _ hks).mono ?_; rw [HKY.out]; rintro e w1 ⟨rfl, hb1⟩; obtain ⟨hc1, hf1⟩ := bcell hb1; have hz1 : wr.heap.size < w1.heap.size := by have := hb1.size; simp at this; omega)
            have hb1' := HB.out _ _ (by simpa using hb1)
            go_roundw
            case rel => exact ⟨k + 1, by omega, by go_num, Lib.hid (H1.out HV.out), (hb1'.2 _ hb).alloc (by omega) _⟩
            case measure => simp [intOf]; omega
          · have hl1 := lit_look (P := Try.prog) Try.underlying101 Try.underlying3 #[⟨.int .i64 1, .int .i64 1073741824, 0⟩, ⟨.int .i64 2, .int .i64 0, 1⟩, ⟨.int .i64 3, .int .i64 1, 2⟩] 3 2 true _ zero_int (some (1, .int .i64 0)) rfl
            simp only [Option.map_some, Option.getD_some, Option.isSome_some, if_true, Bool.false_eq_true, if_false] at hl1
            have hl2 := lit_look (P := Try.prog) Try.underlying101 Try.underlying3 #[⟨.int .i64 1, .int .i64 1073741824, 0⟩, ⟨.int .i64 2, .int .i64 0, 1⟩, ⟨.int .i64 3, .int .i64 1, 2⟩] 3 2 false _ zero_int (some (1, .int .i64 0)) rfl
            simp only [Option.map_some, Option.getD_some, Option.isSome_some, if_true, Bool.false_eq_true, if_false] at hl2
            have HV := Lib.hid hv
            clear hv
            go_wp2_with (go_at_call 32; refine (refkey_any _ _ hks).mono ?_; rw [HKY.out]; rintro e w1 ⟨rfl, hb1⟩; obtain ⟨hc1, hf1⟩ := bcell hb1; have hz1 : wr.heap.size < w1.heap.size := by have := hb1.size; simp at this; omega)
            have hb1' := HB.out _ _ (by simpa using hb1)
            go_ret
            exact ⟨ret_int (by rw [HF.out (by rw [HV.out]; decide), HV.out]), hb1'.1.trans ((Below.refl _ _).alloc (by omega) _)⟩
          · have hl1 := lit_look (P := Try.prog) Try.underlying101 Try.underlying3 #[⟨.int .i64 1, .int .i64 1073741824, 0⟩, ⟨.int .i64 2, .int .i64 0, 1⟩, ⟨.int .i64 3, .int .i64 1, 2⟩] 3 2 true _ zero_int (some (1, .int .i64 0)) rfl
            simp only [Option.map_some, Option.getD_some, Option.isSome_some, if_true, Bool.false_eq_true, if_false] at hl1
            have hl2 := lit_look (P := Try.prog) Try.underlying101 Try.underlying3 #[⟨.int .i64 1, .int .i64 1073741824, 0⟩, ⟨.int .i64 2, .int .i64 0, 1⟩, ⟨.int .i64 3, .int .i64 1, 2⟩] 3 2 false _ zero_int (some (1, .int .i64 0)) rfl
            simp only [Option.map_some, Option.getD_some, Option.isSome_some, if_true, Bool.false_eq_true, if_false] at hl2
            have HV := Lib.hid hv
            clear hv
            go_wp2_with (go_at_call 32; refine (refkey_any _ _ hks).mono ?_; rw [HKY.out]; rintro e w1 ⟨rfl, hb1⟩; obtain ⟨hc1, hf1⟩ := bcell hb1; have hz1 : wr.heap.size < w1.heap.size := by have := hb1.size; simp at this; omega)
            have hb1' := HB.out _ _ (by simpa using hb1)
            go_ret
            exact ⟨ret_int (by rw [HF.out (by rw [HV.out]; decide), HV.out]), hb1'.1.trans ((Below.refl _ _).alloc (by omega) _)⟩
          · have hl1 := lit_look (P := Try.prog) Try.underlying101 Try.underlying3 #[⟨.int .i64 1, .int .i64 1073741824, 0⟩, ⟨.int .i64 2, .int .i64 0, 1⟩, ⟨.int .i64 3, .int .i64 1, 2⟩] 3 2 true _ zero_int (some (1, .int .i64 0)) rfl
            simp only [Option.map_some, Option.getD_some, Option.isSome_some, if_true, Bool.false_eq_true, if_false] at hl1
            have hl2 := lit_look (P := Try.prog) Try.underlying101 Try.underlying3 #[⟨.int .i64 1, .int .i64 1073741824, 0⟩, ⟨.int .i64 2, .int .i64 0, 1⟩, ⟨.int .i64 3, .int .i64 1, 2⟩] 3 2 false _ zero_int (some (1, .int .i64 0)) rfl
            simp only [Option.map_some, Option.getD_some, Option.isSome_some, if_true, Bool.false_eq_true, if_false] at hl2
            have HV := Lib.hid hv
            clear hv
            go_wp2_with (go_at_call 32; refine (refkey_any _ _ hks).mono ?_; rw [HKY.out]; rintro e w1 ⟨rfl, hb1⟩; obtain ⟨hc1, hf1⟩ := bcell hb1; have hz1 : wr.heap.size < w1.heap.size := by have := hb1.size; simp at this; omega)
            have hb1' := HB.out _ _ (by simpa using hb1)
            go_roundw
            case rel => exact ⟨k + 1, by omega, by go_num, Lib.hid (H1.out HV.out), (hb1'.2 _ hb).alloc (by omega) _⟩
            case measure => simp [intOf]; omega
          · have hl1 := lit_look (P := Try.prog) Try.underlying101 Try.underlying3 #[⟨.int .i64 1, .int .i64 1073741824, 0⟩, ⟨.int .i64 2, .int .i64 0, 1⟩, ⟨.int .i64 3, .int .i64 1, 2⟩] 3 3 true _ zero_int (some (2, .int .i64 1)) rfl
            simp only [Option.map_some, Option.getD_some, Option.isSome_some, if_true, Bool.false_eq_true, if_false] at hl1
            have hl2 := lit_look (P := Try.prog) Try.underlying101 Try.underlying3 #[⟨.int .i64 1, .int .i64 1073741824, 0⟩, ⟨.int .i64 2, .int .i64 0, 1⟩, ⟨.int .i64 3, .int .i64 1, 2⟩] 3 3 false _ zero_int (some (2, .int .i64 1)) rfl
            simp only [Option.map_some, Option.getD_some, Option.isSome_some, if_true, Bool.false_eq_true, if_false] at hl2
            have HV := Lib.hid hv
            clear hv
            go_wp2_with (go_at_call 32; refine (refkey_any _ _ hks).mono ?_; rw [HKY.out]; rintro e w1 ⟨rfl, hb1⟩; obtain ⟨hc1, hf1⟩ := bcell hb1; have hz1 : wr.heap.size < w1.heap.size := by have := hb1.size; simp at this; omega)
            have hb1' := HB.out _ _ (by simpa using hb1)
            go_ret
            exact ⟨ret_int (by rw [HF.out (by rw [HV.out]; decide), HV.out]), hb1'.1.trans ((Below.refl _ _).alloc (by omega) _)⟩
          · have hl1 := lit_look (P := Try.prog) Try.underlying101 Try.underlying3 #[⟨.int .i64 1, .int .i64 1073741824, 0⟩, ⟨.int .i64 2, .int .i64 0, 1⟩, ⟨.int .i64 3, .int .i64 1, 2⟩] 3 3 true _ zero_int (some (2, .int .i64 1)) rfl
            simp only [Option.map_some, Option.getD_some, Option.isSome_some, if_true, Bool.false_eq_true, if_false] at hl1
            have hl2 := lit_look (P := Try.prog) Try.underlying101 Try.underlying3 #[⟨.int .i64 1, .int .i64 1073741824, 0⟩, ⟨.int .i64 2, .int .i64 0, 1⟩, ⟨.int .i64 3, .int .i64 1, 2⟩] 3 3 false _ zero_int (some (2, .int .i64 1)) rfl
            simp only [Option.map_some, Option.getD_some, Option.isSome_some, if_true, Bool.false_eq_true, if_false] at hl2
            have HV := Lib.hid hv
            clear hv
            go_wp2_with (go_at_call 32; refine (refkey_any _ _ hks).mono ?_; rw [HKY.out]; rintro e w1 ⟨rfl, hb1⟩; obtain ⟨hc1, hf1⟩ := bcell hb1; have hz1 : wr.heap.size < w1.heap.size := by have := hb1.size; simp at this; omega)
            have hb1' := HB.out _ _ (by simpa using hb1)
            go_ret
            exact ⟨ret_int (by rw [HF.out (by rw [HV.out]; decide), HV.out]), hb1'.1.trans ((Below.refl _ _).alloc (by omega) _)⟩
          · have hl1 := lit_look (P := Try.prog) Try.underlying101 Try.underlying3 #[⟨.int .i64 1, .int .i64 1073741824, 0⟩, ⟨.int .i64 2, .int .i64 0, 1⟩, ⟨.int .i64 3, .int .i64 1, 2⟩] 3 3 true _ zero_int (some (2, .int .i64 1)) rfl
            simp only [Option.map_some, Option.getD_some, Option.isSome_some, if_true, Bool.false_eq_true, if_false] at hl1
            have hl2 := lit_look (P := Try.prog) Try.underlying101 Try.underlying3 #[⟨.int .i64 1, .int .i64 1073741824, 0⟩, ⟨.int .i64 2, .int .i64 0, 1⟩, ⟨.int .i64 3, .int .i64 1, 2⟩] 3 3 false _ zero_int (some (2, .int .i64 1)) rfl
            simp only [Option.map_some, Option.getD_some, Option.isSome_some, if_true, Bool.false_eq_true, if_false] at hl2
            have HV := Lib.hid hv
            clear hv
            go_wp2_with (go_at_call 32; refine (refkey_any _ _ hks).mono ?_; rw [HKY.out]; rintro e w1 ⟨rfl, hb1⟩; obtain ⟨hc1, hf1⟩ := bcell hb1; have hz1 : wr.heap.size < w1.heap.size := by have := hb1.size; simp at this; omega)
            have hb1' := HB.out _ _ (by simpa using hb1)
            go_ret
            exact ⟨ret_int (by rw [HF.out (by rw [HV.out]; decide), HV.out]), hb1'.1.trans ((Below.refl _ _).alloc (by omega) _)⟩
          · have hl1 := lit_look (P := Try.prog) Try.underlying101 Try.underlying3 #[⟨.int .i64 1, .int .i64 1073741824, 0⟩, ⟨.int .i64 2, .int .i64 0, 1⟩, ⟨.int .i64 3, .int .i64 1, 2⟩] 3 3 true _ zero_int (some (2, .int .i64 1)) rfl
            simp only [Option.map_some, Option.getD_some, Option.isSome_some, if_true, Bool.false_eq_true, if_false] at hl1
            have hl2 := lit_look (P := Try.prog) Try.underlying101 Try.underlying3 #[⟨.int .i64 1, .int .i64 1073741824, 0⟩, ⟨.int .i64 2, .int .i64 0, 1⟩, ⟨.int .i64 3, .int .i64 1, 2⟩] 3 3 false _ zero_int (some (2, .int .i64 1)) rfl
            simp only [Option.map_some, Option.getD_some, Option.isSome_some, if_true, Bool.false_eq_true, if_false] at hl2
            have HV := Lib.hid hv
            clear hv
            go_wp2_with (go_at_call 32; refine (refkey_any _ _ hks).mono ?_; rw [HKY.out]; rintro e w1 ⟨rfl, hb1⟩; obtain ⟨hc1, hf1⟩ := bcell hb1; have hz1 : wr.heap.size < w1.heap.size := by have := hb1.size; simp at this; omega)
            have hb1' := HB.out _ _ (by simpa using hb1)
            go_roundw
            case rel => exact ⟨k + 1, by omega, by go_num, Lib.hid (H1.out HV.out), (hb1'.2 _ hb).alloc (by omega) _⟩
            case measure => simp [intOf]; omega
      · have e : k = n.props.length := by omega
        have hfin : r = if 40 < n.body.length then 4 else 0 := by
          have h0 := H0.out
          rw [List.take_of_length_le (by omega)] at h0
          rw [← HR.out]
          simp [wrongS, h4, h0]
        have HF := Lib.hid hfin
        clear hfin e
        have hb2 : Below w.heap.size w wr := ((Below.refl _ _).alloc (Nat.le_refl _) _).trans (hb.mono (by omega))
        by_cases h40 : 40 < n.body.length
        · go_wp2_with fail
          go_ret
          exact ⟨ret_int (by rw [HF.out, if_pos h40]), hb2⟩
        · go_wp2_with fail
          go_ret
          exact ⟨ret_int (by rw [HF.out, if_neg h40]), hb2⟩
end Go.Proofs.Ytcgdjdlcecnanaa
