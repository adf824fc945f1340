/-
  The walks of slices.Equal over properties and over bytes, of slices.Clone over the same, of note.Own, and of both texts' Same: what they return.
  No condition but that texts and lists are no longer than 2^20.
-/
import Derived.Test.YtcgdjdlcecnanaaNoteA
import Derived.KernelRfl
import Derived.Deep.RegionHeld3
import Derived.Lib.SliceRun
namespace Go.Proofs.Ytcgdjdlcecnanaa
open Go.RowKit
set_option linter.unusedSimpArgs false
set_option linter.unusedVariables false

theorem toList_inj (a b : ByteArray) : a.toList = b.toList ↔ a = b := by
  rw [ByteArray.toList_eq, ByteArray.toList_eq]
  constructor
  · intro h
    cases a; cases b
    simp at h
    rw [h]
  · rintro rfl; rfl
theorem prop_fields : Try.prog.underlying 99 = some (.struct (Try.prog.fieldsOf 99)) := by kernel_rfl
theorem prop_held : Try.prog.stoodInHeld 99 = false := by kernel_rfl
theorem prop_guard : Try.prog.eqGuardType Try.prog.depth 99 = false := by kernel_rfl
theorem prop_eqF (d : Nat) (p q : LProp) (w : World) : (Op.eqFields (d + 1) (propV p).toArray (propV q).toArray (Try.prog.fieldsOf 99).toList).run Try.prog w = .ok (decide (p = q)) w := by
  have h : (p = q) ↔ (p.key = q.key ∧ p.kind = q.kind ∧ p.n = q.n ∧ p.text = q.text) := by
    cases p; cases q; simp
  have hd : decide (p = q) = (decide (p.key.toList = q.key.toList) && decide (p.kind = q.kind) && decide (p.n = q.n) && decide (p.text.toList = q.text.toList)) := by
    rw [Bool.eq_iff_iff]
    simp only [decide_eq_true_eq, Bool.and_eq_true, toList_inj, h, and_assoc]
  rw [hd]
  simp [go_sem, propV]
  by_cases h1 : p.key.toList = q.key.toList <;> by_cases h2 : p.kind = q.kind <;> by_cases h3 : p.n = q.n <;> by_cases h4 : p.text.toList = q.text.toList <;> simp [h1, h2, h3, h4]
theorem prop_neq (p q : LProp) (w : World) : (binOp .neq 99 (.agg #[.string p.key, .int .i64 p.kind, .int .i64 p.n, .string p.text]) (.agg #[.string q.key, .int .i64 q.kind, .int .i64 q.n, .string q.text])).run Try.prog w = .ok (.bool (!decide (p = q))) w := by
  rw [run_neq_struct, run_equalIn_struct w 9999 _ _ _ prop_fields prop_held]
  have := prop_eqF 9998 p q w
  simp only [propV] at this
  rw [this]
  rfl
theorem eqprops_any (l m : List LProp) (A A' : Option Addr) (c c' : Nat) (w : World) (hl : l.length ≤ 1048576) (hm : m.length ≤ 1048576) (hp : RProps w (· < w.heap.size) A l) (hp' : RProps w (· < w.heap.size) A' m) :
    Calls Try.prog 74 #[.slice A l.length c, .slice A' m.length c'] w fun e w' => ∃ nq, e = .returned (.bool (decide (l = m))) ∧ w' = w.drewN nq := by
  by_cases hne : l.length = m.length
  · have hb : (l.length != m.length) = false := by simpa using hne
    have hml : m.length ≤ l.length := by omega
    have HNE := Lib.hid hne
    have HP := Lib.hid hp
    have HP' := Lib.hid hp'
    clear hne hp hp'
    go_enter Try.func74, Try.ntmps74
    go_wp2_with fail
    go_loopw [5, 13] (fun _ i wr => ∃ k : Nat, k ≤ l.length ∧ i = .int .i64 k ∧ Hid (l.take k = m.take k) ∧ ∃ nq, wr = w.drewN nq) (fun _ i _ => l.length - (intOf i).toNat)
    case atStart => exact ⟨0, Nat.zero_le _, rfl, Lib.hid rfl, 0, rfl⟩
    case round =>
      obtain ⟨k, hk, rfl, HT, nq, rfl⟩ := hrel
      by_cases hlt : k < l.length
      · have hlt' : k < m.length := by have := HNE.out; omega
        obtain ⟨b, o, rfl, hS, hc⟩ := (HP.out).at_ (by omega)
        obtain ⟨b', o', rfl, hS', hc'⟩ := (HP'.out).at_ (by omega)
        obtain ⟨f0, f1, f2, f3⟩ := hc k hlt
        obtain ⟨g0, g1, g2, g3⟩ := hc' k hlt'
        clear hc hc'
        have hgd := prop_guard
        by_cases he : l[k] = m[k]
        · have hq : ∀ w', (binOp .neq 99 (.agg #[.string l[k].key, .int .i64 l[k].kind, .int .i64 l[k].n, .string l[k].text]) (.agg #[.string m[k].key, .int .i64 m[k].kind, .int .i64 m[k].n, .string m[k].text])).run Try.prog w' = .ok (.bool false) w' := fun w' => by
            rw [prop_neq]; simp [he]
          have H1 : Hid (l.take (k + 1) = m.take (k + 1)) := Lib.hid (by rw [List.take_succ_eq_append_getElem hlt, List.take_succ_eq_append_getElem hlt', HT.out, he])
          clear he
          generalize l[k] = p at *
          generalize m[k] = q at *
          go_wp2_with fail
          go_quiet (fail)
          go_wp2_with fail
          go_roundw
          case rel => exact ⟨k + 1, by omega, by go_num, H1, _, rfl⟩
          case measure => simp [intOf]; omega
        · have hq : ∀ w', (binOp .neq 99 (.agg #[.string l[k].key, .int .i64 l[k].kind, .int .i64 l[k].n, .string l[k].text]) (.agg #[.string m[k].key, .int .i64 m[k].kind, .int .i64 m[k].n, .string m[k].text])).run Try.prog w' = .ok (.bool true) w' := fun w' => by
            rw [prop_neq]; simp [he]
          have hf : decide (l = m) = false := by
            simp only [decide_eq_false_iff_not]
            intro e
            subst e
            exact he rfl
          have HF := Lib.hid hf
          clear he hf
          generalize l[k] = p at *
          generalize m[k] = q at *
          go_wp2_with fail
          go_quiet (fail)
          go_wp2_with fail
          go_ret
          exact ⟨_, ret_bool HF.out.symm, World.drewN_drewN _ _ _⟩
      · have hf : decide (l = m) = true := by
          have h := HT.out
          rw [List.take_of_length_le (by omega), List.take_of_length_le (by omega)] at h
          simpa using h
        have HF := Lib.hid hf
        clear hf
        go_wp2_with fail
        go_ret
        exact ⟨_, ret_bool HF.out.symm, rfl⟩
  · have hb : (l.length != m.length) = true := by simpa using hne
    have hf : decide (l = m) = false := by
      simp only [decide_eq_false_iff_not]
      intro e
      subst e
      exact hne rfl
    have HF := Lib.hid hf
    clear hf hne
    go_enter Try.func74, Try.ntmps74
    go_wp2_with fail
    go_ret
    exact ⟨0, ret_bool HF.out.symm, rfl⟩
theorem eqbytes_any (l m : List UInt8) (A A' : Option Addr) (c c' : Nat) (w : World) (hl : l.length ≤ 1048576) (hm : m.length ≤ 1048576) (hp : RBytes w (· < w.heap.size) A l) (hp' : RBytes w (· < w.heap.size) A' m) :
    Calls Try.prog 75 #[.slice A l.length c, .slice A' m.length c'] w fun e w' => ∃ nq, e = .returned (.bool (decide (l = m))) ∧ w' = w.drewN nq := by
  by_cases hne : l.length = m.length
  · have hb : (l.length != m.length) = false := by simpa using hne
    have hml : m.length ≤ l.length := by omega
    have HNE := Lib.hid hne
    have HP := Lib.hid hp
    have HP' := Lib.hid hp'
    clear hne hp hp'
    go_enter Try.func75, Try.ntmps75
    go_wp2_with fail
    go_loopw [5, 13] (fun _ i wr => ∃ k : Nat, k ≤ l.length ∧ i = .int .i64 k ∧ Hid (l.take k = m.take k) ∧ ∃ nq, wr = w.drewN nq) (fun _ i _ => l.length - (intOf i).toNat)
    case atStart => exact ⟨0, Nat.zero_le _, rfl, Lib.hid rfl, 0, rfl⟩
    case round =>
      obtain ⟨k, hk, rfl, HT, nq, rfl⟩ := hrel
      by_cases hlt : k < l.length
      · have hlt' : k < m.length := by have := HNE.out; omega
        obtain ⟨b, o, rfl, hS, hc⟩ := (HP.out).at_ (by omega)
        obtain ⟨b', o', rfl, hS', hc'⟩ := (HP'.out).at_ (by omega)
        have f0 := hc k hlt
        have g0 := hc' k hlt'
        clear hc hc'
        by_cases he : l[k] = m[k]
        · have hq : ((l[k].toNat : Int) != m[k].toNat) = false := by simp [he]
          have H1 : Hid (l.take (k + 1) = m.take (k + 1)) := Lib.hid (by rw [List.take_succ_eq_append_getElem hlt, List.take_succ_eq_append_getElem hlt', HT.out, he])
          clear he
          generalize l[k] = p at *
          generalize m[k] = q at *
          go_wp2_with fail
          go_quiet (fail)
          go_wp2_with fail
          go_roundw
          case rel => exact ⟨k + 1, by omega, by go_num, H1, _, rfl⟩
          case measure => simp [intOf]; omega
        · have hq : ((l[k].toNat : Int) != m[k].toNat) = true := by
            rw [bne_iff_ne]; intro e; exact he (UInt8.toNat_inj.1 (by omega))
          have hf : decide (l = m) = false := by
            simp only [decide_eq_false_iff_not]
            intro e
            subst e
            exact he rfl
          have HF := Lib.hid hf
          clear he hf
          generalize l[k] = p at *
          generalize m[k] = q at *
          go_wp2_with fail
          go_quiet (fail)
          go_wp2_with fail
          go_ret
          exact ⟨_, ret_bool HF.out.symm, World.drewN_drewN _ _ _⟩
      · have hf : decide (l = m) = true := by
          have h := HT.out
          rw [List.take_of_length_le (by omega), List.take_of_length_le (by omega)] at h
          simpa using h
        have HF := Lib.hid hf
        clear hf
        go_wp2_with fail
        go_ret
        exact ⟨_, ret_bool HF.out.symm, rfl⟩
  · have hb : (l.length != m.length) = true := by simpa using hne
    have hf : decide (l = m) = false := by
      simp only [decide_eq_false_iff_not]
      intro e
      subst e
      exact hne rfl
    have HF := Lib.hid hf
    clear hf hne
    go_enter Try.func75, Try.ntmps75
    go_wp2_with fail
    go_ret
    exact ⟨0, ret_bool HF.out.symm, rfl⟩
theorem info_u8 : (Try.prog.info? 5).map (fun i => (i.zero, i.size, i.bytes)) = some (some (.int .u8 0), 1, 1) := by kernel_rfl
theorem info_prop : (Try.prog.info? 99).map (fun i => (i.zero, i.size, i.bytes)) = some (some (.agg #[.string ByteArray.empty, .int .i64 0, .int .i64 0, .string ByteArray.empty]), 4, 48) := by kernel_rfl
theorem one_bytes (l : List UInt8) : ∀ u ∈ l.map byteV, u.oneCell' = true := by
  intro u hu
  obtain ⟨b, _, rfl⟩ := List.mem_map.1 hu
  rfl
theorem one_props (l : List LProp) : ∀ u ∈ l.flatMap propV, u.oneCell' = true := by
  intro u hu
  obtain ⟨b, _, hu⟩ := List.mem_flatMap.1 hu
  simp only [propV, List.mem_cons, List.not_mem_nil, or_false] at hu
  rcases hu with rfl | rfl | rfl | rfl <;> rfl


theorem own_empty (w : World) (e size : Nat) : (w.alloc (.cells #[] e)).ownsRow w.heap.size e size (.slice (some ⟨w.heap.size, 0, none⟩) 0 0) 0 [] :=
  World.ownsRow_lit w #[] 0 (Nat.le_refl _) (Nat.zero_le _) (by simp)

set_option maxHeartbeats 400000 in
theorem clone_bytes (l : List UInt8) (n : Nat) (hn : n = l.length) (A : Option Addr) (c : Nat) (w : World) (hl : l.length ≤ 8388608) (hr : RBytes w (· < w.heap.size) A l) :
    Calls Try.prog 72 #[.slice A n c] w fun e w' => ∃ A1 c1, e = .returned (.slice A1 l.length c1) ∧ w'.ownsRow w.heap.size 5 1 (.slice A1 l.length c1) l.length (l.map byteV) ∧ Below w.heap.size w w' := by
  subst hn
  obtain ⟨i0, hi0, hz0, hz1, hz2⟩ := info_parts info_u8
  have HR := Lib.hid hr
  clear hr
  cases A with
  | none =>
    have hl0 : l = [] := by
      rcases Nat.eq_zero_or_pos l.length with h | h
      · exact List.eq_nil_of_length_eq_zero h
      · obtain ⟨b, o, e, _⟩ := HR.out.at_ h
        cases e
    subst hl0
    have hq : ∀ wx, (binOp .eql 22 (.slice none 0 c) (.slice none 0 0)).run Try.prog wx = .ok (.bool true) wx := fun wx => by
      rw [Lib.run_eql_slice_nil wx _ _ _ _ _ _ _ Try.underlying22]; rfl
    go_enter Try.func72, Try.ntmps72
    go_wp2_with fail
    go_ret
    exact ⟨none, 0, rfl, World.ownsRow_nil _ _ _ _, Below.refl _ _⟩
  | some ad =>
    have hq : ∀ wx, (binOp .eql 22 (.slice (some ad) l.length c) (.slice none 0 0)).run Try.prog wx = .ok (.bool false) wx := fun wx => by
      rw [Lib.run_eql_slice_nil wx _ _ _ _ _ _ _ Try.underlying22]; rfl
    go_enter Try.func72, Try.ntmps72
    go_wp2_with (at_builtin; refine wpList_append_any _ rfl (.tmp 5) (.tmp 6) _ rfl w.heap.size 5 i0 _ 1 1 Try.underlying22 hi0 hz0 hz1 hz2 rfl (by omega) (.slice (some ⟨w.heap.size, 0, none⟩) 0 0) 0 [] rfl (own_empty _ _ _) (· < w.heap.size) (some ad) l.length c _ rfl (Reads.keep HR.out (Kept.below ((Below.refl _ _).alloc (Nat.le_refl _) _) (fun _ h => h))) (one_bytes _) (by simp only [maxLen]; omega) (by omega) (by simp) ?_; intro v1 w1 hown1 hg1 hat1)
    obtain ⟨A1, c1, rfl, _⟩ := own_reads hown1
    simp only [Nat.zero_add, List.nil_append] at hown1
    go_ret
    refine ⟨A1, c1, by simp, hown1, ?_⟩
    exact ((Below.refl _ _).alloc (Nat.le_refl _) _).grown hg1 (by simp) (by simp [Value.ownBlock])
set_option maxHeartbeats 400000 in
theorem clone_props (l : List LProp) (n : Nat) (hn : n = l.length) (A : Option Addr) (c : Nat) (w : World) (hl : l.length ≤ 8388608) (hr : RProps w (· < w.heap.size) A l) :
    Calls Try.prog 76 #[.slice A n c] w fun e w' => ∃ A1 c1, e = .returned (.slice A1 l.length c1) ∧ w'.ownsRow w.heap.size 99 4 (.slice A1 l.length c1) l.length (l.flatMap propV) ∧ Below w.heap.size w w' := by
  subst hn
  obtain ⟨i0, hi0, hz0, hz1, hz2⟩ := info_parts info_prop
  have HR := Lib.hid hr
  clear hr
  cases A with
  | none =>
    have hl0 : l = [] := by
      rcases Nat.eq_zero_or_pos l.length with h | h
      · exact List.eq_nil_of_length_eq_zero h
      · obtain ⟨b, o, e, _⟩ := HR.out.at_ h
        cases e
    subst hl0
    have hq : ∀ wx, (binOp .eql 40 (.slice none 0 c) (.slice none 0 0)).run Try.prog wx = .ok (.bool true) wx := fun wx => by
      rw [Lib.run_eql_slice_nil wx _ _ _ _ _ _ _ Try.underlying40]; rfl
    go_enter Try.func76, Try.ntmps76
    go_wp2_with fail
    go_ret
    exact ⟨none, 0, rfl, World.ownsRow_nil _ _ _ _, Below.refl _ _⟩
  | some ad =>
    have hq : ∀ wx, (binOp .eql 40 (.slice (some ad) l.length c) (.slice none 0 0)).run Try.prog wx = .ok (.bool false) wx := fun wx => by
      rw [Lib.run_eql_slice_nil wx _ _ _ _ _ _ _ Try.underlying40]; rfl
    go_enter Try.func76, Try.ntmps76
    go_wp2_with (at_builtin; refine wpList_append_any _ rfl (.tmp 5) (.tmp 6) _ rfl w.heap.size 99 i0 _ 4 48 Try.underlying40 hi0 hz0 hz1 hz2 rfl (by omega) (.slice (some ⟨w.heap.size, 0, none⟩) 0 0) 0 [] rfl (own_empty _ _ _) (· < w.heap.size) (some ad) l.length c _ rfl (Reads.keep HR.out (Kept.below ((Below.refl _ _).alloc (Nat.le_refl _) _) (fun _ h => h))) (one_props _) (by simp only [maxLen]; omega) (by omega) (by simp) ?_; intro v1 w1 hown1 hg1 hat1)
    obtain ⟨A1, c1, rfl, _⟩ := own_reads hown1
    simp only [Nat.zero_add, List.nil_append] at hown1
    go_ret
    refine ⟨A1, c1, by simp, hown1, ?_⟩
    exact ((Below.refl _ _).alloc (Nat.le_refl _) _).grown hg1 (by simp) (by simp [Value.ownBlock])

set_option maxHeartbeats 400000 in
theorem noteown_any (n : LNote) (A A' : Option Addr) (c c' : Nat) (w : World) (hn : n.Fits) (hp : RProps w (· < w.heap.size) A n.props) (hb : RBytes w (· < w.heap.size) A' n.body) :
    Calls Try.prog 35 #[.agg #[.slice A n.props.length c, .slice A' n.body.length c']] w fun e w' => ∃ A1 c1 A2 c2, e = .returned (.agg #[.slice A1 n.props.length c1, .slice A2 n.body.length c2]) ∧
      w'.ownsRow w.heap.size 99 4 (.slice A1 n.props.length c1) n.props.length (n.props.flatMap propV) ∧ w'.ownsRow w.heap.size 5 1 (.slice A2 n.body.length c2) n.body.length (n.body.map byteV) ∧ Below w.heap.size w w' := by
  obtain ⟨hn1, hn2, hn3⟩ := hn
  have HP := Lib.hid hp
  have HB := Lib.hid hb
  have HN1 := Lib.hid hn1
  clear hp hb hn1
  go_enter Try.func35, Try.ntmps35
  go_wp2_with fail
  go_region_held3 (fun w' => w'.cell? ⟨w.heap.size, 0, none⟩ = some (.slice A n.props.length c) ∧ w'.cell? ⟨w.heap.size, 1, none⟩ = some (.slice A' n.body.length c')) (first | (refine ⟨?_, ?_⟩ <;> assumption) | go_keep)
    (first
      | (go_at_call 76; refine (clone_props _ _ rfl _ _ _ (by omega) (Reads.later HP.out (by repeat (first | exact Below.refl _ _ | apply below_alloc | apply Below.drew | apply below_drewN)))).mono ?_; rintro e w1 ⟨A1, c1, rfl, hown1, hb1⟩; have s0 : w1.cell? ⟨w.heap.size, 0, none⟩ = some (.slice A n.props.length c) := cell_later hb1 (by first | (simp; done) | assumption); have s1 : w1.cell? ⟨w.heap.size, 1, none⟩ = some (.slice A' n.body.length c') := cell_later hb1 (by first | (simp; done) | assumption); obtain ⟨hc1, hf1⟩ := bcell hb1; have hz1 : w.heap.size + 1 < w1.heap.size := by (have := hb1.size; simp at this; omega))
      | (go_at_call 72; refine (clone_bytes _ _ rfl _ _ _ (by omega) (Reads.later HB.out (below_trans (by repeat (first | exact Below.refl _ _ | apply below_alloc | apply Below.drew | apply below_drewN)) hb1))).mono ?_; rintro e w2 ⟨A2, c2, rfl, hown2, hb2⟩; have t0 : w2.cell? ⟨w.heap.size, 0, none⟩ = some (.slice A n.props.length c) := cell_later hb2 (by first | (simp; done) | assumption); have t1 : w2.cell? ⟨w.heap.size, 1, none⟩ = some (.slice A' n.body.length c') := cell_later hb2 (by first | (simp; done) | assumption); obtain ⟨hc2, hf2⟩ := bcell hb2; have hz2 : w.heap.size + 1 < w2.heap.size := by (have := hb2.size; omega)))
  go_wp2_with fail
  have q1 := own_set (own_set (own_later hown1 hb2) (a := ⟨w.heap.size + 1, 0, none⟩) (by simp) (.slice A1 n.props.length c1)) (a := ⟨w.heap.size + 1, 1, none⟩) (by simp) (.slice A2 n.body.length c2)
  have q2 := own_set (own_set hown2 (a := ⟨w.heap.size + 1, 0, none⟩) (by show _ < _; omega) (.slice A1 n.props.length c1)) (a := ⟨w.heap.size + 1, 1, none⟩) (by show _ < _; omega) (.slice A2 n.body.length c2)
  have hb9 : Below w.heap.size w w2 := below_trans (below_trans (by repeat (first | exact Below.refl _ _ | apply below_alloc | apply Below.drew | apply below_drewN)) hb1) hb2
  refine bodyPost_ret (v := .agg #[.slice A1 n.props.length c1, .slice A2 n.body.length c2]) (by simp [results, Try.results35, go_sem, hc2, hz2, hc1, hz1]) rfl ⟨A1, c1, A2, c2, rfl, own_mono q1 (by simp; omega), own_mono q2 (by omega), below_set (below_set hb9 (by simp) _) (by simp) _⟩
end Go.Proofs.Ytcgdjdlcecnanaa
