/-
  Texts of the proof, one behind the other: NtA NtB NtO NtC NtD NtS NtE NtF NtG NtP KlA PcC PcD OpenG.
  No condition but those that each theorem names.
-/
import Derived.Test.YtmlejhpeoiicpaaGreatDoorGC
import Derived.Test.YtmlejhpeoiicpaaGreatDoorGA
namespace Go.Proofs.YtmlejhpeoiicpaaGreatDoor.Ab
open Go Go.RowKit
set_option linter.unusedVariables false
set_option linter.unusedSimpArgs false

def byteI (n : Int) : UInt8 := UInt8.ofNat (n % 256).toNat
theorem byteI_nat (n : Int) : ((byteI n).toNat : Int) = n % 256 := by
  simp [byteI]
  omega
theorem wrap8 (n : Int) : IntKind.wrap .u8 n = ((byteI n).toNat : Int) := by rw [byteI_nat, IntKind.wrap_u8]
def propRow (p : LProp) : List AV := [.str p.key.data.toList, .int .i64 p.kind, .int .i64 p.n, .str p.text.data.toList]
def propD : LProp := ⟨⟨#[]⟩, 0, 0, ⟨#[]⟩⟩
theorem propGet {l : List LProp} {i : Nat} (h : i < l.length) : (l.map propRow).getD i [] = propRow (l.getD i propD) := by
  rw [List.getD_eq_getElem?_getD, List.getElem?_map, List.getD_eq_getElem?_getD]
  simp [h]
theorem bytes_ext {a b : ByteArray} (h : a.data.toList = b.data.toList) : a = b := by
  obtain ⟨⟨x⟩⟩ := a
  obtain ⟨⟨y⟩⟩ := b
  simp at h
  rw [h]
theorem propRow_inj {p q : LProp} (h : propRow p = propRow q) : p = q := by
  obtain ⟨a, b, c, d⟩ := p
  obtain ⟨a', b', c', d'⟩ := q
  simp only [propRow, List.cons.injEq, AV.str.injEq, AV.int.injEq, true_and, and_true] at h
  rw [bytes_ext h.1, h.2.1, h.2.2.1, bytes_ext h.2.2.2]
theorem props_inj : ∀ {l m : List LProp}, l.map propRow = m.map propRow → l = m
  | [], [], _ => rfl
  | [], _ :: _, h => by simp at h
  | _ :: _, [], h => by simp at h
  | a :: l, b :: m, h => by
    simp only [List.map_cons, List.cons.injEq] at h
    rw [propRow_inj h.1, props_inj h.2]
def noteA (n : LNote) : AV := .agg [.sl 4 (n.props.map propRow), .sl 1 (n.body.map byteRow)]
theorem noteA_inj {n m : LNote} (h : noteA n = noteA m) : n = m := by
  obtain ⟨a, b⟩ := n
  obtain ⟨c, d⟩ := m
  simp only [noteA, AV.agg.injEq, List.cons.injEq, AV.sl.injEq, true_and, and_true] at h
  rw [props_inj h.1, bytes_inj h.2]

section
variable {w : World} {im : Nat → Prop} {ρ : Env}
theorem prop_cell (p : LProp) (r : Nat) (u : Value) (h : (propV p)[r]? = some u) : ∃ x, (propRow p)[r]? = some x ∧ ∀ v, Rel w im ρ x v → v = u := by
  match r with
  | 0 => simp [propV] at h; subst h; exact ⟨_, rfl, fun v hv => hv.str_⟩
  | 1 => simp [propV] at h; subst h; exact ⟨_, rfl, fun v hv => hv.int_⟩
  | 2 => simp [propV] at h; subst h; exact ⟨_, rfl, fun v hv => hv.int_⟩
  | 3 => simp [propV] at h; subst h; exact ⟨_, rfl, fun v hv => hv.str_⟩
  | r + 4 => simp [propV] at h
theorem rel_props {l : List LProp} {v : Value} (h : Rel w im ρ (.sl 4 (l.map propRow)) v) : ∃ A c, v = .slice A l.length c ∧ l.length ≤ c ∧ c ≤ maxLen ∧ RProps w im A l := by
  generalize hrs : l.map propRow = rs at h
  cases h with
  | sl sz rs A c b o val hc hm hA hrow hcell hval =>
  subst hrs
  rw [List.length_map] at hc hA ⊢
  refine ⟨A, c, rfl, hc, hm, by rw [flatMap_len propV 4 (fun _ => rfl)], fun hn => ?_⟩
  obtain ⟨h1, h2⟩ := hA hn
  refine ⟨b, o, h1, h2, fun j u hu => ?_⟩
  have hj := (List.getElem?_eq_some_iff.1 hu).1
  rw [flatMap_len propV 4 (fun _ => rfl)] at hj
  have hi : j / 4 < l.length := by omega
  have hg := flatMap_get propV 4 (fun _ => rfl) l (j / 4) hi (j % 4) (Nat.mod_lt _ (by omega))
  rw [show j / 4 * 4 + j % 4 = j by omega] at hg
  rw [hg] at hu
  obtain ⟨x, hx, hv⟩ := prop_cell (w := w) (im := im) (ρ := ρ) _ _ _ hu
  have hr : (l.map propRow)[j / 4]? = some (propRow l[j / 4]) := by rw [List.getElem?_map, List.getElem?_eq_getElem hi]; rfl
  have h3 := hcell (j / 4) (j % 4) _ x hr hx
  have h4 := hv _ (hval (j / 4) (j % 4) _ x hr hx)
  rw [h4, show o + (j / 4 * 4 + j % 4) = o + j by omega] at h3
  exact h3.1
theorem rel_note {n : LNote} {v : Value} (h : Rel w im ρ (noteA n) v) : ∃ A c A' c', v = .agg #[.slice A n.props.length c, .slice A' n.body.length c'] ∧ RProps w im A n.props ∧ RBytes w im A' n.body := by
  obtain ⟨a, b, rfl, ⟨_, h1⟩, _, h2⟩ := rel_agg2 h
  obtain ⟨A, c, rfl, _, _, p1⟩ := rel_props h1
  obtain ⟨A', c', rfl, _, _, p2⟩ := rel_bytes h2
  exact ⟨A, c, A', c', rfl, p1, p2⟩
end
/-! contracts of what was walked -/
theorem con_key (s : ByteArray) (hs : s.size ≤ 1048576) : Con Tryz.prog D 103 [.str s.data.toList] ⟨.bool (keyS s), []⟩ := by
  refine con_below Tryz.func103 (by decide) rfl (by simp [names]) fun w im ρ vs him hvs => ?_
  obtain ⟨v, rfl, hv⟩ := rels_one hvs
  rw [hv.str_]
  refine (key_any s w hs).mono fun e w' ⟨he, hw⟩ => ⟨_, he, ?_, .bool _⟩
  first | exact hw | (subst hw; exact Below.refl _ _)
theorem con_refkey (s : ByteArray) (hs : s.size ≤ 1048576) : Con Tryz.prog D 53 [.str s.data.toList] ⟨.bool (keyS s), []⟩ := by
  refine con_below Tryz.func53 (by decide) rfl (by simp [names]) fun w im ρ vs him hvs => ?_
  obtain ⟨v, rfl, hv⟩ := rels_one hvs
  rw [hv.str_]
  exact (refkey_any s w hs).mono fun e w' ⟨he, hw⟩ => ⟨_, he, hw, .bool _⟩
theorem con_wrong (n : LNote) (hn : n.Fits) : Con Tryz.prog D 104 [noteA n] ⟨.int .i64 (wrongS n), []⟩ := by
  refine con_below Tryz.func104 (by decide) rfl (by simp [names]) fun w im ρ vs him hvs => ?_
  obtain ⟨v, rfl, hv⟩ := rels_one hvs
  obtain ⟨A, c, A', c', rfl, h1, h2⟩ := rel_note hv
  exact (wrong_any n A A' c c' w hn (h1.mono him)).mono fun e w' ⟨he, hw⟩ => ⟨_, he, hw, .int _ _⟩
theorem con_refwrong (n : LNote) (hn : n.Fits) : Con Tryz.prog D 54 [noteA n] ⟨.int .i64 (wrongS n), []⟩ := by
  refine con_below Tryz.func54 (by decide) rfl (by simp [names]) fun w im ρ vs him hvs => ?_
  obtain ⟨v, rfl, hv⟩ := rels_one hvs
  obtain ⟨A, c, A', c', rfl, h1, h2⟩ := rel_note hv
  exact (refwrong_any n A A' c c' w hn (h1.mono him)).mono fun e w' ⟨he, hw⟩ => ⟨_, he, hw, .int _ _⟩
theorem names_propRow (p : LProp) : namess (propRow p) = [] := by simp [propRow, names, namess]
theorem names_note (n : LNote) : names (noteA n) = [] := by simp [noteA, names, namess]
attribute [simp] names_propRow names_note
def note0 : LNote := ⟨[], []⟩
theorem fits_zero : note0.Fits := ⟨by simp [note0], by simp [note0], by simp [note0]⟩
end Go.Proofs.YtmlejhpeoiicpaaGreatDoor.Ab
namespace Go.Proofs.YtmlejhpeoiicpaaGreatDoor.Ab
open Go Go.RowKit
set_option linter.unusedVariables false
set_option linter.unusedSimpArgs false

theorem asked_none {ys : List AV} : asked ys none = none := rfl

set_option maxRecDepth 100000 in
theorem inl_neq {X : Cx} (hP : X.P = Tryz.prog) {ops : Array Oper} {σ : AS} {R : AS → Prop} {d : Nat} {x y : Operand} {U : Nat} {ty : Nat} {pos : String} {af : Array Edge} {p q : LProp} (hx : ev σ x = .agg (propRow p)) (hy : ev σ y = .agg (propRow q)) (hd : d < σ.nt)
    (h : R { σ with tm := (d, .bool (!decide (p = q))) :: σ.tm }) : InlOp X ops ⟨some d, .binOp .neq 36 x y U, ty, pos, af, none⟩ σ R := by
  refine ⟨fun γ a w i Qx hi ⟨ρ, hs⟩ => ?_⟩
  have hvx := (hs.ev x).1
  have hvy := (hs.ev y).1
  rw [hx] at hvx
  rw [hy] at hvy
  have hag : ∀ (r : LProp) (v : Value) (im : Nat → Prop), Rel w im ρ (.agg (propRow r)) v → v = .agg #[.string r.key, .int .i64 r.kind, .int .i64 r.n, .string r.text] := fun r v im h => by
    cases h with
    | agg cs vs hl h1 hval =>
    obtain ⟨vs⟩ := vs
    match vs, hl with
    | [a, b, c, d], _ =>
      rw [(hval 0 _ a rfl rfl).str_, (hval 1 _ b rfl rfl).int_, (hval 2 _ c rfl rfl).int_, (hval 3 _ d rfl rfl).str_]
  unfold wpOp
  simp only [hi]
  rw [if_pos (by simp [Region.wanted])]
  left
  have hex : execOp a.eval ⟨some d, .binOp .neq 36 x y U, ty, pos, af, none⟩ = (do pure (.value (← (do eqGuard .neq 36 x y (a.eval x) (a.eval y); binOp .neq 36 (a.eval x) (a.eval y))))) := rfl
  refine wp_of_value hex (v := .bool (!decide (p = q))) (w' := w) ?_ ⟨_, h, ρ, hs.put hd (.bool _) (by simp [names])⟩
  rw [hag p _ _ hvx, hag q _ _ hvy, hP]
  rw [Sem.run_bind, run_eqGuard_agg w _ _ _ _ _ _ prop_guard, Result.andThen_ok]
  exact prop_neq p q w

def eKey : Ent Tryz.prog D := ⟨103, ByteArray, fun s => [.str s.data.toList], fun s => s.size ≤ 1048576, fun s => ⟨.bool (keyS s), []⟩, fun x y _ _ h => by
  simp only [List.cons.injEq, AV.str.injEq, and_true] at h
  rw [bytes_ext h], con_key⟩
def eRefkey : Ent Tryz.prog D := ⟨53, ByteArray, fun s => [.str s.data.toList], fun s => s.size ≤ 1048576, fun s => ⟨.bool (keyS s), []⟩, fun x y _ _ h => by
  simp only [List.cons.injEq, AV.str.injEq, and_true] at h
  rw [bytes_ext h], con_refkey⟩
def eWrong : Ent Tryz.prog D := ⟨104, LNote, fun n => [noteA n], fun n => n.Fits, fun n => ⟨.int .i64 (wrongS n), []⟩, fun x y _ _ h => by
  simp only [List.cons.injEq, and_true] at h
  rw [noteA_inj h], con_wrong⟩
def eRefwrong : Ent Tryz.prog D := ⟨54, LNote, fun n => [noteA n], fun n => n.Fits, fun n => ⟨.int .i64 (wrongS n), []⟩, fun x y _ _ h => by
  simp only [List.cons.injEq, and_true] at h
  rw [noteA_inj h], con_refwrong⟩
set_option maxRecDepth 100000 in
theorem con_refsame (n m : LNote) (hn : n.Fits) (hm : m.Fits) : Con Tryz.prog D 65 [noteA n, noteA m] ⟨.bool (decide (n = m)), []⟩ := by
  have hok : GOk Tryz.prog D (tabG []) := tabG_ok _
  refine con_of (G := tabG []) (rs := [(4, none)]) mixed tok hok Tryz.func65 rfl (by decide) Tryz.results65 (by decide) rfl Tryz.ntmps65 (by simp) (by simp [noteA, namess, names]) fun X hP hD hG' hX => evC_sound hX (fun _ => {}) _ _ _ ?_
  simp only [argS, num, noteA]
  simp (disch := omega) only [go_sem, hD, hG', wrap64, wrap8, unbox]
  refine RegT.mk [] ?_
  simp (disch := omega) only [go_sem, hD, hG', wrap64, wrap8, unbox]
  ((try and_intros); all_goals (try first | omega | decide | (simp; done) | (simp only [List.length_append, List.length_cons, List.length_nil, List.length_map]; omega)))
  refine condK_split (fun h => ?_) (fun h => ?_)
  · simp (disch := omega) only [go_sem, hD, hG', wrap64, wrap8, unbox]
    refine ⟨[], [], rfl, rfl, ?_, ?_⟩ <;> simp only [go_sem]
    rw [eq_comm, decide_eq_false_iff_not]
    rintro rfl
    simp at h
  · have hl : n.props.length = m.props.length := by
      by_cases hc : n.props.length = m.props.length
      · exact hc
      · exfalso
        revert h
        have : ((n.props.length : Int) != (m.props.length : Int)) = true := by simp; omega
        simp [this]
    have hb : n.body = m.body := by simpa [hl] using h
    simp (disch := omega) only [go_sem, hD, hG', wrap64, wrap8, unbox]
    refine Tr.loop (ι := Nat) (fun i => i ≤ n.props.length ∧ n.props.take i = m.props.take i) (fun i => { nt := 40, tm := [(2, .ptr 2 0), (3, .ptr 3 0), (24, .int .i64 n.props.length), (25, .int .i64 i)], bl := [(2, some (.cells [.sl 4 (n.props.map propRow), .sl 1 (n.body.map byteRow)])), (3, some (.cells [.sl 4 (m.props.map propRow), .sl 1 (m.body.map byteRow)]))] }) (fun i => n.props.length - i) 0
      ⟨⟨Nat.zero_le _, rfl⟩, wk_of hD [(2, 2), (3, 3)] rfl rfl (by simp only [go_sem]; try simp) (by simp only [go_sem])⟩ ?_
    rintro i ⟨hi, ht⟩
    have hnl := hn.2.1
    refine evC_sound hX (fun id => match id with | 6 => {lo := [10]} | _ => {}) _ _ _ ?_
    simp (disch := omega) only [go_sem, hD, hG', wrap64]
    refine condK_split (fun h => ?_) (fun h => ?_)
    · rw [decide_eq_true_eq] at h
      have hi1 : i < n.props.length := by omega
      have hi2 : i < m.props.length := by omega
      simp (disch := omega) only [go_sem, hD, hG', wrap64, propGet, propRow, asked_none]
      refine ⟨by decide, ⟨by omega, by omega⟩, ⟨by omega, by omega⟩, inl_neq hP (p := n.props.getD i propD) (q := m.props.getD i propD) rfl rfl (by simp) ?_⟩
      simp (disch := omega) only [go_sem, hD, hG', wrap64, propGet, propRow, asked_none]
      have e1 : n.props.getD i propD = n.props[i] := by simp [hi1]
      have e2 : m.props.getD i propD = m.props[i] := by simp [hi2]
      refine condK_split (fun h => ?_) (fun h => ?_)
      · simp (disch := omega) only [go_sem, hD, hG', wrap64, wrap8, unbox]
        refine ⟨[], [], rfl, rfl, ?_, ?_⟩ <;> simp only [go_sem]
        rw [eq_comm, decide_eq_false_iff_not]
        rintro rfl
        simp at h
      · simp (disch := omega) only [go_sem, hD, hG', wrap64]
        have he : n.props[i] = m.props[i] := by
          rw [← e1, ← e2]
          simpa using h
        refine ⟨i + 1, ⟨⟨by omega, by rw [List.take_succ_eq_append_getElem hi1, List.take_succ_eq_append_getElem hi2, ht, he]⟩, by omega⟩, wk_of hD [(2, 2), (3, 3)] rfl rfl ?_ ?_⟩ <;> simp only [go_sem]
        simp
    · rw [decide_eq_false_iff_not] at h
      simp (disch := omega) only [go_sem, hD, hG', wrap64, wrap8, unbox]
      refine ⟨[], [], rfl, rfl, ?_, ?_⟩ <;> simp only [go_sem]
      have : i = n.props.length := by omega
      subst this
      rw [List.take_length, hl, List.take_length] at ht
      rw [eq_comm, decide_eq_true_eq]
      obtain ⟨a, b⟩ := n
      obtain ⟨c, d⟩ := m
      simp only at ht hb
      rw [ht, hb]
theorem propS_ok {p : LProp} (h : propS p = 0) : p.key.size ≤ 8 ∧ ((p.kind = 2 ∧ p.text.size ≤ 12 ∧ p.n = 0) ∨ ((p.kind = 1 ∨ p.kind = 3) ∧ p.text.size = 0 ∧ -1073741824 ≤ p.n ∧ p.n ≤ 1073741824)) := by
  unfold propS at h
  split at h
  · cases h
  rename_i hk
  have hk8 : p.key.size ≤ 8 := by
    have : keyS p.key = true := by simpa using hk
    unfold keyS at this
    simp at this
    omega
  refine ⟨hk8, ?_⟩
  split at h
  · cases h
  split at h
  · cases h
  split at h
  · cases h
  split at h
  · cases h
  omega
theorem text_nil {b : ByteArray} (h : b.size = 0) : b = ⟨#[]⟩ := bytes_ext (List.eq_nil_of_length_eq_zero h)
theorem propsS_all {l : List LProp} (h : propsS l = 0) : ∀ p ∈ l, propS p = 0 := by
  induction l with
  | nil => simp
  | cons q r ih =>
    rw [propsS] at h
    split at h
    · rename_i hq
      intro p hp
      rcases List.mem_cons.1 hp with rfl | hp
      · exact hq
      · exact ih h p hp
    · rename_i hq
      exact absurd h hq
theorem wrongS_ok {n : LNote} (h : wrongS n = 0) : n.props.length ≤ 4 ∧ (∀ p ∈ n.props, propS p = 0) ∧ n.body.length ≤ 40 := by
  unfold wrongS at h
  split at h
  · cases h
  · split at h
    · rename_i h1
      exact absurd h h1
    · rename_i h0 h1
      split at h
      · cases h
      · refine ⟨by omega, propsS_all (by simpa using h1), by omega⟩
theorem fits_right {n : LNote} (h : wrongS n = 0) : n.Fits := by
  obtain ⟨h1, h2, h3⟩ := wrongS_ok h
  refine ⟨fun p hp => ?_, by omega, by omega⟩
  obtain ⟨q1, q2⟩ := propS_ok (h2 p hp)
  exact ⟨by omega, by omega⟩
end Go.Proofs.YtmlejhpeoiicpaaGreatDoor.Ab
namespace Go.Proofs.YtmlejhpeoiicpaaGreatDoor.Ab
open Go Go.RowKit
set_option linter.unusedVariables false
set_option linter.unusedSimpArgs false

theorem con_copy (l : List UInt8) (hl : l.length ≤ 8388608) : Con Tryz.prog D 101 [.sl 1 (l.map byteRow)] ⟨.sl 1 (l.map byteRow), []⟩ := by
  refine con_below Tryz.func101 (by decide) rfl (by simp [names]) fun w im ρ vs him hvs => ?_
  obtain ⟨v, rfl, hv⟩ := rels_one hvs
  obtain ⟨A, c, rfl, h1, h2, h3⟩ := rel_bytes hv
  refine (clone_bytes l _ rfl A c w hl (h3.mono him)).mono fun e w' ⟨A1, c1, he, hown, hb⟩ => ⟨_, he, hb, ?_⟩
  obtain ⟨A2, c2, e2, q1, q2, q3⟩ := own_reads hown
  cases e2
  exact bytes_rel q1 q2 (q3.mono fun b hb => ⟨hb.2.1, .inr hb.1⟩)
def eCopy : Ent Tryz.prog D := ⟨101, List UInt8, fun l => [.sl 1 (l.map byteRow)], fun l => l.length ≤ 8388608, fun l => ⟨.sl 1 (l.map byteRow), []⟩, fun x y _ _ h => by
  simp only [List.cons.injEq, AV.sl.injEq, true_and, and_true] at h
  rw [bytes_inj h], con_copy⟩
end Go.Proofs.YtmlejhpeoiicpaaGreatDoor.Ab
namespace Go.Proofs.YtmlejhpeoiicpaaGreatDoor.Ab
open Go Go.RowKit
set_option linter.unusedVariables false
set_option linter.unusedSimpArgs false

end Go.Proofs.YtmlejhpeoiicpaaGreatDoor.Ab
namespace Go.Proofs.YtmlejhpeoiicpaaGreatDoor.Ab
open Go Go.RowKit
set_option linter.unusedVariables false
set_option linter.unusedSimpArgs false

end Go.Proofs.YtmlejhpeoiicpaaGreatDoor.Ab
namespace Go.Proofs.YtmlejhpeoiicpaaGreatDoor.Ab
open Go Go.RowKit
set_option linter.unusedVariables false
set_option linter.unusedSimpArgs false

end Go.Proofs.YtmlejhpeoiicpaaGreatDoor.Ab
namespace Go.Proofs.YtmlejhpeoiicpaaGreatDoor.Ab
open Go Go.RowKit
set_option linter.unusedVariables false
set_option linter.unusedSimpArgs false

end Go.Proofs.YtmlejhpeoiicpaaGreatDoor.Ab
namespace Go.Proofs.YtmlejhpeoiicpaaGreatDoor.Ab
open Go Go.RowKit
set_option linter.unusedVariables false
set_option linter.unusedSimpArgs false

end Go.Proofs.YtmlejhpeoiicpaaGreatDoor.Ab
namespace Go.Proofs.YtmlejhpeoiicpaaGreatDoor.Ab
open Go Go.RowKit
set_option linter.unusedVariables false
set_option linter.unusedSimpArgs false

end Go.Proofs.YtmlejhpeoiicpaaGreatDoor.Ab
namespace Go.Proofs.YtmlejhpeoiicpaaGreatDoor.Ab
open Go Go.RowKit
set_option linter.unusedVariables false
set_option linter.unusedSimpArgs false

end Go.Proofs.YtmlejhpeoiicpaaGreatDoor.Ab
namespace Go.Proofs.YtmlejhpeoiicpaaGreatDoor.Ab
open Go
set_option linter.unusedVariables false
set_option linter.unusedSimpArgs false

section
variable {D : Nat → TI} {S N0 : Nat → Prop} {B : Nat} {w0 : W0} {ρ : Env} {σ : AS} {a : Act} {w : World}
end
end Go.Proofs.YtmlejhpeoiicpaaGreatDoor.Ab
namespace Go.Proofs.YtmlejhpeoiicpaaGreatDoor.Ab
open Go
set_option linter.unusedVariables false
set_option linter.unusedSimpArgs false

/-! a pointer compared with nil -/
end Go.Proofs.YtmlejhpeoiicpaaGreatDoor.Ab
namespace Go.Proofs.YtmlejhpeoiicpaaGreatDoor.Ab
open Go
set_option linter.unusedVariables false
set_option linter.unusedSimpArgs false

mutual
/-- pointers into the block n, whose cells are cs, become pointers into memory that is only read -/
def ice (n : Nat) (cs : List AV) : AV → AV
  | .os t => if t = n then .junk else .os t
  | .ptr v o => if v = n then .iptr (cs.drop o) else .ptr v o
  | .tsl v o => if v = n then .junk else .tsl v o
  | .psl v o => if v = n then .junk else .psl v o
  | .eptr v i o => if v = n then .junk else .eptr v i o
  | .agg xs => .agg (ices n cs xs)
  | .tup xs => .tup (ices n cs xs)
  | .func f xs => .func f (ices n cs xs)
  | .opt g v => .opt g (ice n cs v)
  | v => v
def ices (n : Nat) (cs : List AV) : List AV → List AV
  | [] => []
  | v :: r => ice n cs v :: ices n cs r
end
theorem ices_eq (n : Nat) (ds : List AV) : ∀ cs : List AV, ices n ds cs = cs.map (ice n ds)
  | [] => by simp [ices]
  | c :: r => by simp [ices, ices_eq n ds r]
mutual
theorem names_ice (n : Nat) (cs : List AV) : ∀ x : AV, (∀ m ∈ names (ice n cs x), m ∈ names x ∧ m ≠ n)
  | .os t => by simp only [ice]; split <;> simp_all [names]
  | .ptr v o => by simp only [ice]; split <;> simp_all [names]
  | .tsl v o => by simp only [ice]; split <;> simp_all [names]
  | .psl v o => by simp only [ice]; split <;> simp_all [names]
  | .eptr v i o => by simp only [ice]; split <;> simp_all [names]
  | .agg xs => by simpa only [ice, names] using namess_ices n cs xs
  | .tup xs => by simpa only [ice, names] using namess_ices n cs xs
  | .func f xs => by simpa only [ice, names] using namess_ices n cs xs
  | .opt g v => by simpa only [ice, names] using names_ice n cs v
  | .junk => by simp [ice, names]
  | .int _ _ => by simp [ice, names]
  | .bool _ => by simp [ice, names]
  | .str _ => by simp [ice, names]
  | .nils => by simp [ice, names]
  | .sl _ _ => by simp [ice, names]
  | .iptr _ => by simp [ice, names]
  | .lsl _ => by simp [ice, names]
  | .imap _ => by simp [ice, names]
  | .nilp => by simp [ice, names]
  | .ifc _ => by simp [ice, names]
theorem namess_ices (n : Nat) (cs : List AV) : ∀ xs : List AV, (∀ m ∈ namess (ices n cs xs), m ∈ namess xs ∧ m ≠ n)
  | [] => by simp [ices, namess]
  | c :: r => by
    simp only [ices, namess, List.mem_append]
    rintro m (hn | hn)
    · exact ⟨.inl (names_ice n cs c m hn).1, (names_ice n cs c m hn).2⟩
    · exact ⟨.inr (namess_ices n cs r m hn).1, (namess_ices n cs r m hn).2⟩
end
theorem Rel.ice {D : Nat → TI} {w : World} {im im' : Nat → Prop} {ρ : Env} {n : Nat} {cs : List AV} (hbl : BRel D w im ρ n (.cells cs)) (hcs : namess cs = []) (him : ∀ b, im b → im' b)
    (hb : ∀ b, (ρ n).b = some b → im' b) {x : AV} {v : Value} (h : Rel w im ρ x v) : Rel w im' ρ (Ab.ice n cs x) v := by
  have self : ∀ {y : AV} {u : Value}, Rel w im ρ y u → Rel w im' ρ y u := fun h => h.mono him (fun _ _ => rfl) fun n hn' => rfl
  induction h with
  | junk v => simp only [Ab.ice]; exact .junk v
  | int k n => simp only [Ab.ice]; exact .int k n
  | bool b => simp only [Ab.ice]; exact .bool b
  | str l => simp only [Ab.ice]; exact .str l
  | nils => simp only [Ab.ice]; exact .nils
  | sl sz rs A c b o val hc hm hA hrow hcell hval ih => simp only [Ab.ice]; exact self (.sl sz rs A c b o val hc hm hA hrow hcell hval)
  | os t => simp only [Ab.ice]; split <;> first | exact .junk _ | exact .os t
  | ptr v off b h =>
    simp only [Ab.ice]
    split
    · rename_i e
      subst e
      obtain ⟨b', arr, T, h1, h2, h3, h5⟩ := hbl
      rw [h] at h1
      cases h1
      have hget : ∀ i, i < arr.size → arr[i]? = some (arr.getD i undef) := fun i hi => by simp [Array.getD_eq_getD_getElem?, hi]
      have hat : ∀ (j : Nat) x, (cs.drop off)[j]? = some x → cs[off + j]? = some x ∧ off + j < arr.size := fun j x hj => by
        rw [List.getElem?_drop] at hj
        exact ⟨hj, by rw [h3]; exact (List.getElem?_eq_some_iff.1 hj).1⟩
      refine .iptr _ b off (fun j => arr.getD (off + j) undef) (hb b h) (fun j x hj => ?_) (fun j x hj => ?_)
      · obtain ⟨q1, q2⟩ := hat j x hj
        refine ⟨?_, (h5 _ x _ q1 (hget _ q2)).1, ?_⟩
        · unfold World.cell?
          rw [h2]
          exact hget _ q2
        · refine List.eq_nil_iff_forall_not_mem.2 fun m hm => ?_
          have := mem_namess q1 hm
          rw [hcs] at this
          cases this
      · obtain ⟨q1, q2⟩ := hat j x hj
        exact self (h5 _ x _ q1 (hget _ q2)).2
    · exact .ptr v off b h
  | iptr cs b o val hb hcell hval ih => simp only [Ab.ice]; exact self (.iptr cs b o val hb hcell hval)
  | eptr t i off b h => simp only [Ab.ice]; split <;> first | exact .junk _ | exact .eptr t i off b h
  | lsl n A c hc hm => simp only [Ab.ice]; exact .lsl n A c hc hm
  | imap es b c arr hb ho he => simp only [Ab.ice]; exact .imap es b c arr (him _ hb) ho he
  | nilp => simp only [Ab.ice]; exact .nilp
  | ifc b v h => simp only [Ab.ice]; exact .ifc b v h
  | tsl t i b A' h hA => simp only [Ab.ice]; split <;> first | exact .junk _ | exact .tsl t i b A' h hA
  | psl t n c b h hc hm => simp only [Ab.ice]; split <;> first | exact .junk _ | exact .psl t n c b h hc hm
  | func f cs vs hl hval ih =>
    simp only [Ab.ice, ices_eq]
    refine .func f _ vs (by simpa using hl) fun i x v h1 h2 => ?_
    rw [List.getElem?_map] at h1
    obtain ⟨y, hy, rfl⟩ := Option.map_eq_some_iff.1 h1
    exact ih i y v hy h2
  | agg cs vs hl h1 hval ih =>
    simp only [Ab.ice, ices_eq]
    refine .agg _ vs (by simpa using hl) h1 fun i x v h1 h2 => ?_
    rw [List.getElem?_map] at h1
    obtain ⟨y, hy, rfl⟩ := Option.map_eq_some_iff.1 h1
    exact ih i y v hy h2
  | tup cs vs hl hval ih =>
    simp only [Ab.ice, ices_eq]
    refine .tup _ vs (by simpa using hl) fun i x v h1 h2 => ?_
    rw [List.getElem?_map] at h1
    obtain ⟨y, hy, rfl⟩ := Option.map_eq_some_iff.1 h1
    exact ih i y v hy h2
  | opt g x v h1 h2 ih => simp only [Ab.ice]; exact .opt g _ v ih h2
/-- the state then -/
def iceS (σ : AS) (n : Nat) (cs : List AV) : AS := { nt := σ.nt, tm := mapT (ice n cs) σ.tm, bl := (n, none) :: mapB (ice n cs) σ.bl }
theorem blk_iceS (σ : AS) (n : Nat) (cs : List AV) (m : Nat) : blk (iceS σ n cs) m = if m = n then none else (blk σ m).map (mapBlk (ice n cs)) := by
  unfold blk iceS
  simp only [get]
  by_cases h : n = m
  · rw [if_pos h, if_pos h.symm]; rfl
  · rw [if_neg h, if_neg (fun e => h e.symm), get_mapB]
    cases get m σ.bl with
    | none => rfl
    | some x => cases x <;> rfl
theorem bnames_ice {n : Nat} {cs : List AV} {x : Blk} {m : Nat} (h : m ∈ bnames (mapBlk (ice n cs) x)) : m ∈ bnames x ∧ m ≠ n := by
  cases x with
  | cells ds =>
    have h : m ∈ namess (ds.map (ice n cs)) := h
    rw [← ices_eq] at h
    exact namess_ices n cs ds m h
  | rows e sz rs => cases h
  | deep e sz rs cols foc =>
    obtain ⟨i, j, hm⟩ := focN_mem.1 (show m ∈ focN (keepF (ice n cs) foc) from h)
    obtain ⟨h1, k, h2⟩ := keepF_mem hm
    refine ⟨focN_mem.2 ⟨i, j, h1⟩, ?_⟩
    simp only [ice] at h2
    split at h2
    · cases h2
    · assumption
section
variable {D : Nat → TI} {S N0 : Nat → Prop} {B : Nat} {w0 : W0} {ρ : Env} {σ : AS} {a : Act} {w : World}
theorem St0.ice (h : St0 D S N0 B w0 ρ σ a w) {n : Nat} {cs : List AV} (hn : blk σ n = some (.cells cs)) (hcs : namess cs = []) : St0 D S N0 B w0 ρ (iceS σ n cs) a w := by
  have him : ∀ b, imOf S N0 B w ρ (blk σ) b → imOf S N0 B w ρ (blk (iceS σ n cs)) b := by
    rintro b ⟨h1, h2, h3⟩
    refine ⟨h1, h2, fun m x hx => ?_⟩
    rw [blk_iceS] at hx
    split at hx
    · cases hx
    · obtain ⟨y, hy, rfl⟩ := mapBlk_some hx
      rw [owns_map]
      exact h3 m y hy
  have hbim : ∀ b, (ρ n).b = some b → imOf S N0 B w ρ (blk (iceS σ n cs)) b := by
    intro b hb
    refine ⟨h.named_lt hn hb, .inr (h.own n _ b hn (owns_b hb)), fun m y hy hm => ?_⟩
    rw [blk_iceS] at hy
    split at hy
    · cases hy
    · rename_i hmn
      obtain ⟨y', hy', rfl⟩ := mapBlk_some hy
      exact hmn (h.hp.inj m n b y' _ hy' hn (owns_map.1 hm) (owns_b hb))
  have frel : ∀ x v, Rel w (imOf S N0 B w ρ (blk σ)) ρ x v → Rel w (imOf S N0 B w ρ (blk (iceS σ n cs))) ρ (Ab.ice n cs x) v := fun x v hx =>
    Rel.ice (h.hp.blk n _ hn) hcs him hbim hx
  have bnd : ∀ m, (blk σ m).isSome = true → m ≠ n → (blk (iceS σ n cs) m).isSome = true := by
    intro m hm hne
    rw [blk_iceS, if_neg hne]
    simpa using hm
  refine ⟨fun t x hx => ?_, ⟨fun m x hx => ?_, fun m k b x y hx hy => ?_, fun m x b hx hb hm => ?_, fun b hb => hb.1, fun m ds hx k hk => ?_⟩, h.nt, h.base, h.frm, fun m x b hx hb => ?_, h.defers⟩
  · have hx' : get t (mapT (Ab.ice n cs) σ.tm) = some x := hx
    rw [get_mapT] at hx'
    obtain ⟨y, hy, rfl⟩ := Option.map_eq_some_iff.1 hx'
    obtain ⟨h1, h2⟩ := h.tm t y hy
    exact ⟨frel y _ h1, fun m hm => bnd m (h2 m (names_ice n cs y m hm).1) (names_ice n cs y m hm).2⟩
  · rw [blk_iceS] at hx
    split at hx
    · cases hx
    · obtain ⟨y, hy, rfl⟩ := mapBlk_some hx
      have hy' := h.hp.blk m y hy
      cases y with
      | rows e sz rs => exact hy'.mono rfl (fun _ _ => rfl) him (fun _ _ => rfl) (fun _ _ => rfl)
      | deep e sz rs cols foc => exact (hy'.keepF (h := Ab.ice n cs)).mono rfl (fun _ _ => rfl) him (fun _ _ => rfl) (fun _ _ => rfl)
      | cells ds =>
        obtain ⟨b, arr, T, h1, h2, h3, h5⟩ := hy'
        refine ⟨b, arr, T, h1, h2, by simpa using h3, fun i x v hx hv => ?_⟩
        rw [List.getElem?_map] at hx
        obtain ⟨z, hz, rfl⟩ := Option.map_eq_some_iff.1 hx
        exact ⟨(h5 i z v hz hv).1, frel z v (h5 i z v hz hv).2⟩
  · rw [blk_iceS] at hx hy
    split at hx
    · cases hx
    split at hy
    · cases hy
    obtain ⟨x', hx', rfl⟩ := mapBlk_some hx
    obtain ⟨y', hy', rfl⟩ := mapBlk_some hy
    rw [owns_map, owns_map]
    exact h.hp.inj m k b x' y' hx' hy'
  · exact hm.2.2 m x hx hb
  · rw [blk_iceS] at hx
    split at hx
    · cases hx
    · obtain ⟨y, hy, rfl⟩ := mapBlk_some hx
      obtain ⟨h1, h2⟩ := bnames_ice hk
      exact bnd k (h.hp.clos m y hy k h1) h2
  · rw [blk_iceS] at hx
    split at hx
    · cases hx
    · obtain ⟨y, hy, rfl⟩ := mapBlk_some hx
      exact h.own m y b hy (owns_map.1 hb)
end
theorem Wk.ice {X : Cx} {σ : AS} (n : Nat) {cs : List AV} (hn : blk σ n = some (.cells cs)) (hcs : namess cs = []) : Wk X σ (iceS σ n cs) := fun γ a w ⟨ρ, h⟩ => ⟨ρ, h.ice hn hcs⟩
attribute [go_sem] iceS ice ices
end Go.Proofs.YtmlejhpeoiicpaaGreatDoor.Ab
namespace Go.Proofs.YtmlejhpeoiicpaaGreatDoor.Ab
open Go Go.RowKit Go.ChangeShapes Go.WideShapes
set_option linter.unusedVariables false
set_option linter.unusedSimpArgs false

def contB (D : Nat → TI) : List (Nat × Nat) → Nat → Nat → Bool
  | [], o, n => decide (o = n)
  | (o', t) :: r, o, n => decide (o' = o) && contB D r (o + (D t).n) n
def plainB (D : Nat → TI) : Nat → Nat → Bool
  | 0, _ => false
  | f + 1, t => match (D t).k with
    | .int _ => decide ((D t).n = 1)
    | .bool => decide ((D t).n = 1)
    | .str => decide ((D t).n = 1)
    | .slice e => decide ((D t).n = 1) && plainB D f e
    | .struct fs => contB D fs 0 (D t).n && fs.all (fun x => plainB D f x.2)
    | _ => false
def ShpF (S : Nat → List AV → Prop) : List (Nat × Nat) → List AV → Prop
  | [], cs => cs = []
  | (_, t) :: r, cs => ∃ a b, cs = a ++ b ∧ S t a ∧ ShpF S r b
/-- cells of a plain type; lists and texts no longer than B -/
def Shp (D : Nat → TI) (B : Nat) : Nat → Nat → List AV → Prop
  | 0, _, _ => False
  | f + 1, t, cs => match (D t).k with
    | .int k => ∃ n, cs = [.int k n] ∧ (Lit.int k n).wf = true
    | .bool => ∃ b, cs = [.bool b]
    | .str => ∃ l, cs = [.str l] ∧ l.length ≤ B
    | .slice e => ∃ rs, cs = [.sl (D e).n rs] ∧ rs.length ≤ B ∧ ∀ row ∈ rs, Shp D B f e row
    | .struct fs => ShpF (Shp D B f) fs cs
    | _ => False

theorem cellsOf_n {P : Program} {D : Nat → TI} (hT : TOk P D) {t : Nat} (h : isOther (D t).k = false) : P.cellsOf t = (D t).n := by
  obtain ⟨i, z, h1, h2, _⟩ := ty_info hT h
  simp [Program.cellsOf, h1, h2]
theorem plain_other {D : Nat → TI} {f t : Nat} (h : plainB D f t = true) : isOther (D t).k = false := by
  cases f with
  | zero => cases h
  | succ f =>
    unfold plainB at h
    cases hk : (D t).k <;> rw [hk] at h <;> first | rfl | cases h

section
variable {H : Type} {enc : TypeId × Value → H} {P : Program} {W : World} {D : Nat → TI} {B : Nat}
def GoodA (W : World) (us : List AV) (cs : List Value) : Prop := us.length = cs.length ∧ ∀ (i : Nat) a v, us[i]? = some a → cs[i]? = some v → Rel W (· < W.heap.size) ρ0 a v ∧ v.oneCell' = true ∧ names a = []
theorem GoodA.one {a : AV} {v : Value} (h : Rel W (· < W.heap.size) ρ0 a v) (h1 : v.oneCell' = true) (h2 : names a = []) : GoodA W [a] [v] := by
  refine ⟨rfl, fun i x u hx hu => ?_⟩
  cases i with
  | zero => simp at hx hu; subst hx hu; exact ⟨h, h1, h2⟩
  | succ i => simp at hx
theorem GoodA.append {us bs : List AV} {cs ds : List Value} (h : GoodA W us cs) (k : GoodA W bs ds) : GoodA W (us ++ bs) (cs ++ ds) := by
  refine ⟨by simp [h.1, k.1], fun i x u hx hu => ?_⟩
  by_cases hi : i < us.length
  · rw [List.getElem?_append_left hi] at hx
    rw [List.getElem?_append_left (by rw [← h.1]; exact hi)] at hu
    exact h.2 i x u hx hu
  · rw [List.getElem?_append_right (by omega)] at hx
    rw [List.getElem?_append_right (by rw [← h.1]; omega), ← h.1] at hu
    exact k.2 _ x u hx hu

theorem open_fields (hT : TOk P D) {S : Nat → List AV → Prop} {m N : Nat} {cs : List Value} (hN : cs.length = N)
    (hS : ∀ (t : Nat) (ds : List Value) (y : DataW H × List MemPlace), isOther (D t).k = false → plainB D m t = true → ∀ n, DataW.trod enc P W 0 (fun _ => true) true n t ds = some y → Rows.uptoBulk y.1 ≤ B → ∃ us, S t us ∧ us.length = (D t).n ∧ GoodA W us ds)
    {n : Nat} : ∀ (fs : List (Nat × Nat)) (flds : List Field) (xs : List (DataW H × List MemPlace)) (o : Nat), fieldsB P D fs flds = true → contB D fs o N = true → fs.all (fun x => plainB D m x.2) = true → o ≤ N → xs.length = flds.length →
      (∀ (i : Nat) (f : Field), flds[i]? = some f → DataW.trod enc P W 0 (fun _ => true) true n f.type ((cs.drop f.offset).take (P.cellsOf f.type)) = xs[i]?) → (∀ x ∈ xs, Rows.uptoBulk x.1 ≤ B) →
      ∃ us, ShpF S fs us ∧ o + us.length = N ∧ GoodA W us (cs.drop o)
  | [], [], xs, o, _, hc, _, ho, _, _, _ => by
    simp only [contB, decide_eq_true_eq] at hc
    refine ⟨[], rfl, by simpa using hc, by simp; omega, fun i a v ha => by simp at ha⟩
  | [], _ :: _, _, _, h, _, _, _, _, _, _ => by simp [fieldsB] at h
  | _ :: _, [], _, _, h, _, _, _, _, _, _ => by simp [fieldsB] at h
  | (o', t) :: r, f :: flds, xs, o, h, hc, hp, ho, hl, hf, hb => by
    simp only [fieldsB, Bool.and_eq_true, decide_eq_true_eq] at h
    obtain ⟨⟨⟨h1, h2⟩, h3⟩, h4⟩ := h
    simp only [contB, Bool.and_eq_true, decide_eq_true_eq] at hc
    obtain ⟨rfl, hc⟩ := hc
    rw [List.all_cons, Bool.and_eq_true] at hp
    match xs, hl with
    | x :: xs, hl =>
      have hot := plain_other hp.1
      have hx := hf 0 f rfl
      rw [h1, h2, cellsOf_n hT hot] at hx
      simp only [List.getElem?_cons_zero] at hx
      obtain ⟨us, a1, a2, a3⟩ := hS t _ x hot hp.1 n hx (hb x (by simp))
      have hlen : ((cs.drop o').take (D t).n).length = (D t).n := by rw [← a3.1, a2]
      rw [List.length_take, List.length_drop] at hlen
      obtain ⟨bs, b1, b2, b3⟩ := open_fields hT hN hS r flds xs (o' + (D t).n) h4 hc hp.2 (by omega) (by simpa using hl) (fun i f hi => by simpa using hf (i + 1) f (by simpa using hi)) (fun y hy => hb y (by simp [hy]))
      refine ⟨us ++ bs, ⟨us, bs, rfl, a1, b1⟩, by rw [List.length_append]; omega, ?_⟩
      have := a3.append b3
      rwa [← List.drop_drop, List.take_append_drop] at this

theorem open_any (hT : TOk P D) : ∀ (m t : Nat), plainB D m t = true → ∀ (n : Nat) (cs : List Value) (x : DataW H × List MemPlace), DataW.trod enc P W 0 (fun _ => true) true n t cs = some x → Rows.uptoBulk x.1 ≤ B →
    ∃ us, Shp D B m t us ∧ us.length = (D t).n ∧ GoodA W us cs
  | 0, t, hp, _, _, _, _, _ => by cases hp
  | m + 1, t, hp, n, cs, x, h, hb => by
    have hot := plain_other hp
    unfold plainB at hp
    unfold Shp
    cases hk : (D t).k with
    | int k =>
      rw [hk] at hp
      obtain ⟨z, rfl, rfl, hw⟩ := DataW.trod_int (ty_int hT hk) h
      exact ⟨[.int k z], ⟨z, rfl, hw⟩, by simpa using (of_decide_eq_true hp).symm, GoodA.one (.int _ _) rfl rfl⟩
    | bool =>
      rw [hk] at hp
      have hu : P.underlying t = some .bool := by
        have h1 := (ty_kind hT (T := t) hot).1
        rw [hk] at h1
        cases hu : P.underlying t with
        | none => rw [hu] at h1; cases h1
        | some u => rw [hu] at h1; cases u <;> simp [kindB] at h1; rfl
      obtain ⟨z, rfl, rfl⟩ := DataW.trod_bool hu h
      exact ⟨[.bool z], ⟨z, rfl⟩, by simpa using (of_decide_eq_true hp).symm, GoodA.one (.bool _) rfl rfl⟩
    | str =>
      rw [hk] at hp
      obtain ⟨s, rfl, rfl, hs⟩ := DataW.trod_string (ty_str hT hk) h
      refine ⟨[.str s.data.toList], ⟨_, rfl, ?_⟩, by simpa using (of_decide_eq_true hp).symm, GoodA.one (.str _) rfl rfl⟩
      simp only [Rows.uptoBulk] at hb
      omega
    | slice e =>
      rw [hk] at hp
      simp only [Bool.and_eq_true, decide_eq_true_eq] at hp
      obtain ⟨hu, he, hpos⟩ := ty_slice hT hk
      have hce := cellsOf_n hT he
      rcases Deep.open_slice hu h with ⟨rfl, rfl⟩ | ⟨a, len, cap, mm, n', Dd, Pl, rfl, _, h1, h2, h3, rfl, hc⟩
      · refine ⟨[.sl (D e).n []], ⟨[], rfl, Nat.zero_le _, by simp⟩, by simp [hp.1], GoodA.one (.sl _ [] none 0 0 0 (fun _ _ => .nilIface) (Nat.le_refl _) (Nat.zero_le _) (fun h => absurd h (by simp)) (by simp) (by simp) (by simp)) rfl rfl⟩
      · simp only [if_true] at h3
        subst h3
        simp only [Rows.uptoBulk] at hb
        have hbl := bulk_len ((List.range len).map Dd)
        rw [List.length_map, List.length_range] at hbl
        have each : ∀ i, i < len → ∃ y : List AV × List Value, Shp D B m e y.1 ∧ y.1.length = (D e).n ∧ GoodA W y.1 y.2 ∧ ∀ j v, y.2[j]? = some v → W.cell? ((a.add (i * (D e).n)).add j) = some v := fun i hi => by
          obtain ⟨cs', q1, q2⟩ := hc i (by omega)
          rw [hce] at q1
          obtain ⟨_, ql, qc⟩ := World.cells?_some q1
          have hm := bulk_mem (l := (List.range len).map Dd) (d := Dd i) (List.mem_map.2 ⟨i, List.mem_range.2 hi, rfl⟩)
          obtain ⟨us, p1, p2, p3⟩ := open_any hT m e hp.2 n' cs' (Dd i, Pl i) q2 (by simp only; omega)
          refine ⟨(us, cs'), p1, p2, p3, fun j v hj => ?_⟩
          have hj' := (List.getElem?_eq_some_iff.1 hj).1
          simp only at hj hj'
          rw [qc j (by omega), hj]
        obtain ⟨Y, hY⟩ := Deep.choose_lt each
        have hrow : ∀ {i : Nat} {row : List AV}, ((List.range len).map fun i => (Y i).1)[i]? = some row → i < len ∧ row = (Y i).1 := fun {i row} hi => by
          rw [List.getElem?_map] at hi
          obtain ⟨k, hk1, rfl⟩ := Option.map_eq_some_iff.1 hi
          obtain ⟨hlt, e1⟩ := List.getElem?_eq_some_iff.1 hk1
          simp at hlt e1
          subst e1
          exact ⟨hlt, rfl⟩
        have hadr : 0 < len → ∃ b o, a = ⟨b, o, none⟩ ∧ b < W.heap.size := fun hl => by
          obtain ⟨q1, q2, q3, q4⟩ := hY 0 hl
          have hpos' : 0 < (Y 0).2.length := by rw [← q3.1, q2]; exact hpos
          have hc0 := q4 0 _ (List.getElem?_eq_getElem hpos')
          obtain ⟨⟨b', o', e'⟩, hb'⟩ := cell_addr hc0
          obtain ⟨b, o, s⟩ := a
          rw [block_of_add, block_of_add] at hb'
          have hs : s = none := by
            cases s with
            | none => rfl
            | some k => simp [Addr.add] at e'
          subst hs
          exact ⟨b, o, rfl, hb'⟩
        refine ⟨[.sl (D e).n ((List.range len).map fun i => (Y i).1)], ⟨_, rfl, by rw [List.length_map, List.length_range]; omega, fun row hr => ?_⟩, by simp [hp.1], GoodA.one ?_ rfl rfl⟩
        · obtain ⟨i, hi, rfl⟩ := List.mem_map.1 hr
          exact (hY i (List.mem_range.1 hi)).1
        · have hll : ((List.range len).map fun i => (Y i).1).length = len := by simp
          by_cases hl : 0 < len
          · obtain ⟨b, o, rfl, hblt⟩ := hadr hl
            have := Rel.sl (w := W) (im := (· < W.heap.size)) (ρ := ρ0) (D e).n ((List.range len).map fun i => (Y i).1) (some ⟨b, o, none⟩) mm b o (fun i j => (Y i).2.getD j .nilIface) (by omega) h2 (fun _ => ⟨rfl, hblt⟩) (fun i row hi => ?_) (fun i j row x hi hj => ?_) (fun i j row x hi hj => ?_)
            · rw [hll] at this; exact this
            · obtain ⟨hlt, rfl⟩ := hrow hi
              exact (hY i hlt).2.1
            · obtain ⟨hlt, rfl⟩ := hrow hi
              obtain ⟨p1, p2, p3, p4⟩ := hY i hlt
              have hjl := (List.getElem?_eq_some_iff.1 hj).1
              have hj2 : j < (Y i).2.length := by rw [← p3.1]; exact hjl
              have hv : (Y i).2[j]? = some (Y i).2[j] := List.getElem?_eq_getElem hj2
              have hg : (Y i).2.getD j .nilIface = (Y i).2[j] := by simp [hj2]
              have hc1 := p4 j _ hv
              rw [add_flat, add_flat] at hc1
              simp only [hg]
              exact ⟨by rw [← Nat.add_assoc]; exact hc1, (p3.2 j x _ hj hv).2⟩
            · obtain ⟨hlt, rfl⟩ := hrow hi
              obtain ⟨p1, p2, p3, p4⟩ := hY i hlt
              have hjl := (List.getElem?_eq_some_iff.1 hj).1
              have hj2 : j < (Y i).2.length := by rw [← p3.1]; exact hjl
              have hv : (Y i).2[j]? = some (Y i).2[j] := List.getElem?_eq_getElem hj2
              have hg : (Y i).2.getD j .nilIface = (Y i).2[j] := by simp [hj2]
              simp only [hg]
              exact (p3.2 j x _ hj hv).1
          · have hl0 : len = 0 := by omega
            subst hl0
            exact .sl (D e).n [] (some a) mm 0 0 (fun _ _ => .nilIface) (Nat.zero_le _) h2 (fun h => absurd h (by simp)) (by simp) (by simp) (by simp)
    | struct fs =>
      rw [hk] at hp
      simp only [Bool.and_eq_true] at hp
      obtain ⟨flds, hu, hfb⟩ := ty_struct hT hk
      obtain ⟨xs, n', rfl, rfl, hl, hxl, hf⟩ := DataW.trod_struct hu h
      rw [cellsOf_n hT hot] at hl
      simp only [Rows.uptoBulk] at hb
      obtain ⟨us, a1, a2, a3⟩ := open_fields hT (S := Shp D B m) (m := m) (B := B) hl (fun t' ds y _ hpt n hy hyb => open_any hT m t' hpt n ds y hy hyb) fs flds.toList xs 0 hfb hp.1 hp.2 (Nat.zero_le _) (by simpa using hxl) (fun i f hi => hf i f (by simpa using hi))
        (fun y hy => by have := bulk_mem (l := xs.map (·.1)) (d := y.1) (List.mem_map.2 ⟨y, hy, rfl⟩); omega)
      rw [Nat.zero_add] at a2
      exact ⟨us, a1, a2, by simpa using a3⟩
    | ref => rw [hk] at hp; cases hp
    | iface => rw [hk] at hp; cases hp
    | other => rw [hk] at hp; cases hp
/-- an argument of a plain type -/
theorem open_arg (hT : TOk P D) {m t : Nat} (hp : plainB D m t = true) {r : Reach} {b0 : Nat} {v : Value} {d : DataW H} {ps : List MemPlace} (hval : Value.okWide P W r b0 t v) (h : DataW.Trod enc P W 0 (fun _ => true) true t v d ps) (hb : Rows.uptoBulk d ≤ B) :
    ∃ us, Shp D B m t us ∧ us.length = (D t).n ∧ Rel W (· < W.heap.size) ρ0 (match (D t).k with | .struct _ => .agg us | _ => us.headD .junk) v := by
  obtain ⟨n, hn⟩ := h
  obtain ⟨us, h1, h2, h3⟩ := open_any hT m t hp n _ _ hn hb
  refine ⟨us, h1, h2, ?_⟩
  have hot := plain_other hp
  have one : v.cells = #[v] → Rel W (· < W.heap.size) ρ0 (us.headD .junk) v := fun hc => by
    rw [hc] at h3
    match us, h3 with
    | [a], h3 => exact (h3.2 0 a v rfl rfl).1
    | [], h3 => have := h3.1; simp at this
    | _ :: _ :: _, h3 => have := h3.1; simp at this
  cases hk : (D t).k with
  | int k =>
    obtain ⟨z, rfl⟩ := okWide_int (ty_int hT hk) hval
    exact one rfl
  | bool =>
    have hu : P.underlying t = some .bool := by
      have h1 := (ty_kind hT (T := t) hot).1
      rw [hk] at h1
      cases hu : P.underlying t with
      | none => rw [hu] at h1; cases h1
      | some u => rw [hu] at h1; cases u <;> simp [kindB] at h1; rfl
    obtain ⟨z, rfl⟩ := okWide_bool hu hval
    exact one rfl
  | str =>
    obtain ⟨z, rfl⟩ := okWide_string (ty_str hT hk) hval
    exact one rfl
  | slice e =>
    obtain ⟨a, l, c, rfl⟩ := okWide_slice (ty_slice hT hk).1 hval
    exact one rfl
  | struct fs =>
    obtain ⟨flds, hu, _⟩ := ty_struct hT hk
    obtain ⟨vs, rfl, hsz⟩ := okWide_struct hu hval
    simp only [Value.cells] at h3
    exact .agg us vs (by have := h3.1; simp at this; omega) (fun i u hu => by
      have hi := (Array.getElem?_eq_some_iff.1 hu).1
      have hi2 : i < us.length := by have := h3.1; simp at this; omega
      exact (h3.2 i us[i] u (List.getElem?_eq_getElem hi2) (by simpa using hu)).2.1) (fun i a u ha hu => (h3.2 i a u ha (by simpa using hu)).1)
  | ref => unfold plainB at hp; cases m <;> simp [hk] at hp
  | iface => unfold plainB at hp; cases m <;> simp [hk] at hp
  | other => rw [hk] at hot; cases hot
end
/-! texts, numbers, properties, notes -/
theorem shp_str {t : Nat} (hk : (D t).k = .str) {m : Nat} {B : Nat} {us : List AV} (h : Shp D B (m + 1) t us) : ∃ s : ByteArray, us = [.str s.data.toList] ∧ s.size ≤ B := by
  simp only [Shp, hk] at h
  obtain ⟨l, rfl, hl⟩ := h
  exact ⟨⟨⟨l⟩⟩, rfl, hl⟩
theorem shp_i64 {t : Nat} (hk : (D t).k = .int .i64) {m : Nat} {B : Nat} {us : List AV} (h : Shp D B (m + 1) t us) : ∃ n : Int, us = [.int .i64 n] ∧ -9223372036854775808 ≤ n ∧ n ≤ 9223372036854775807 := by
  simp only [Shp, hk] at h
  obtain ⟨n, rfl, hw⟩ := h
  exact ⟨n, rfl, by simpa [Lit.wf, IntKind.min, IntKind.max, IntKind.signed, IntKind.bits] using hw⟩
theorem shp_slice {t e : Nat} (hk : (D t).k = .slice e) {m : Nat} {B : Nat} {us : List AV} (h : Shp D B (m + 1) t us) : ∃ rs, us = [.sl (D e).n rs] ∧ rs.length ≤ B ∧ ∀ row ∈ rs, Shp D B m e row := by
  unfold Shp at h
  rw [hk] at h
  exact h
theorem shp_struct {t : Nat} {fs : List (Nat × Nat)} (hk : (D t).k = .struct fs) {m : Nat} {B : Nat} {us : List AV} (h : Shp D B (m + 1) t us) : ShpF (Shp D B m) fs us := by
  unfold Shp at h
  rw [hk] at h
  exact h
theorem shp_rows {α : Type} {f : α → List AV} {Q : α → Prop} : ∀ {rs : List (List AV)}, (∀ row ∈ rs, ∃ x, row = f x ∧ Q x) → ∃ l : List α, rs = l.map f ∧ ∀ x ∈ l, Q x
  | [], _ => ⟨[], rfl, by simp⟩
  | r :: rs, h => by
    obtain ⟨x, rfl, hx⟩ := h r (by simp)
    obtain ⟨l, rfl, hl⟩ := shp_rows (rs := rs) (f := f) (Q := Q) fun row hrow => h row (by simp [hrow])
    refine ⟨x :: l, rfl, fun y hy => ?_⟩
    rcases List.mem_cons.1 hy with rfl | hy
    · exact hx
    · exact hl y hy
theorem shp_prop {m : Nat} {B : Nat} {us : List AV} (h : Shp D B (m + 2) 36 us) : ∃ p : LProp, us = propRow p ∧ p.key.size ≤ B ∧ p.text.size ≤ B := by
  simp only [Shp, ShpF, D_1, D_2, D_3, D_4, D_5, D_6, D_7, D_8, D_9, D_10, D_11, D_12, D_13, D_14, D_15, D_16, D_17, D_18, D_19, D_20, D_21, D_22, D_23, D_24, D_25, D_26, D_27, D_28, D_29, D_30, D_32, D_34, D_35, D_36, D_38, D_39, D_40, D_41, D_42, D_43, D_44, D_46, D_47, D_49, D_50, D_51, D_52, D_54, D_55, D_56, D_58, D_59, D_61, D_62, D_63, D_64, D_65, D_66, D_67, D_68, D_69, D_70, D_71, D_73, D_74, D_75, D_76, D_78, D_81, D_82, D_83, D_84, D_85, D_86, D_87, D_89, D_91, D_92, D_94, D_95, D_97, D_98, D_100, D_101, D_103, D_105, D_106, D_108, D_109, D_110, D_111, D_112, D_114, D_115, D_116, D_118, D_119, D_121, D_122, D_123, D_124, D_125, D_126, D_127, D_129, D_130, D_131, D_132, D_134, D_135, D_136, D_138, D_139, D_140, D_141, D_143, D_144, D_145, D_146, D_147, D_148, D_149, D_150, D_151, D_152, D_154, D_155, D_156, D_158, D_159, D_161, D_162, D_163, D_164, D_165, D_167, D_168, D_170, D_172, D_173, D_175, D_176, D_177, D_178, D_179, D_180, D_181, D_182, D_185, D_186, D_187, D_188, D_189, D_190, D_191, D_193, D_195, D_196, D_200, D_201, D_205, D_206, D_207, D_208, D_209, D_210, D_211, D_212] at h
  obtain ⟨_, _, rfl, ⟨k, rfl, hk⟩, _, _, rfl, ⟨a, rfl, ha⟩, _, _, rfl, ⟨b, rfl, hb⟩, _, _, rfl, ⟨t, rfl, ht⟩, rfl⟩ := h
  exact ⟨⟨⟨⟨k⟩⟩, a, b, ⟨⟨t⟩⟩⟩, rfl, hk, ht⟩
theorem shp_props {m : Nat} {B : Nat} {us : List AV} (h : Shp D B (m + 3) 22 us) : ∃ l : List LProp, us = [.sl 4 (l.map propRow)] ∧ l.length ≤ B ∧ ∀ p ∈ l, p.key.size ≤ B ∧ p.text.size ≤ B := by
  obtain ⟨rs, rfl, hl, hr⟩ := shp_slice (e := 36) (by simp only [D_1, D_2, D_3, D_4, D_5, D_6, D_7, D_8, D_9, D_10, D_11, D_12, D_13, D_14, D_15, D_16, D_17, D_18, D_19, D_20, D_21, D_22, D_23, D_24, D_25, D_26, D_27, D_28, D_29, D_30, D_32, D_34, D_35, D_36, D_38, D_39, D_40, D_41, D_42, D_43, D_44, D_46, D_47, D_49, D_50, D_51, D_52, D_54, D_55, D_56, D_58, D_59, D_61, D_62, D_63, D_64, D_65, D_66, D_67, D_68, D_69, D_70, D_71, D_73, D_74, D_75, D_76, D_78, D_81, D_82, D_83, D_84, D_85, D_86, D_87, D_89, D_91, D_92, D_94, D_95, D_97, D_98, D_100, D_101, D_103, D_105, D_106, D_108, D_109, D_110, D_111, D_112, D_114, D_115, D_116, D_118, D_119, D_121, D_122, D_123, D_124, D_125, D_126, D_127, D_129, D_130, D_131, D_132, D_134, D_135, D_136, D_138, D_139, D_140, D_141, D_143, D_144, D_145, D_146, D_147, D_148, D_149, D_150, D_151, D_152, D_154, D_155, D_156, D_158, D_159, D_161, D_162, D_163, D_164, D_165, D_167, D_168, D_170, D_172, D_173, D_175, D_176, D_177, D_178, D_179, D_180, D_181, D_182, D_185, D_186, D_187, D_188, D_189, D_190, D_191, D_193, D_195, D_196, D_200, D_201, D_205, D_206, D_207, D_208, D_209, D_210, D_211, D_212]) h
  obtain ⟨l, rfl, h2⟩ := shp_rows (f := propRow) (Q := fun p => p.key.size ≤ B ∧ p.text.size ≤ B) fun row hrow => shp_prop (hr row hrow)
  refine ⟨l, by simp only [D_1, D_2, D_3, D_4, D_5, D_6, D_7, D_8, D_9, D_10, D_11, D_12, D_13, D_14, D_15, D_16, D_17, D_18, D_19, D_20, D_21, D_22, D_23, D_24, D_25, D_26, D_27, D_28, D_29, D_30, D_32, D_34, D_35, D_36, D_38, D_39, D_40, D_41, D_42, D_43, D_44, D_46, D_47, D_49, D_50, D_51, D_52, D_54, D_55, D_56, D_58, D_59, D_61, D_62, D_63, D_64, D_65, D_66, D_67, D_68, D_69, D_70, D_71, D_73, D_74, D_75, D_76, D_78, D_81, D_82, D_83, D_84, D_85, D_86, D_87, D_89, D_91, D_92, D_94, D_95, D_97, D_98, D_100, D_101, D_103, D_105, D_106, D_108, D_109, D_110, D_111, D_112, D_114, D_115, D_116, D_118, D_119, D_121, D_122, D_123, D_124, D_125, D_126, D_127, D_129, D_130, D_131, D_132, D_134, D_135, D_136, D_138, D_139, D_140, D_141, D_143, D_144, D_145, D_146, D_147, D_148, D_149, D_150, D_151, D_152, D_154, D_155, D_156, D_158, D_159, D_161, D_162, D_163, D_164, D_165, D_167, D_168, D_170, D_172, D_173, D_175, D_176, D_177, D_178, D_179, D_180, D_181, D_182, D_185, D_186, D_187, D_188, D_189, D_190, D_191, D_193, D_195, D_196, D_200, D_201, D_205, D_206, D_207, D_208, D_209, D_210, D_211, D_212], by simpa using hl, h2⟩
/-! bytes -/
theorem shp_bytes {m : Nat} {B : Nat} {us : List AV} (h : Shp D B (m + 2) 23 us) : ∃ l : List UInt8, us = [.sl 1 (l.map byteRow)] ∧ l.length ≤ B := by
  simp only [Shp, D_1, D_2, D_3, D_4, D_5, D_6, D_7, D_8, D_9, D_10, D_11, D_12, D_13, D_14, D_15, D_16, D_17, D_18, D_19, D_20, D_21, D_22, D_23, D_24, D_25, D_26, D_27, D_28, D_29, D_30, D_32, D_34, D_35, D_36, D_38, D_39, D_40, D_41, D_42, D_43, D_44, D_46, D_47, D_49, D_50, D_51, D_52, D_54, D_55, D_56, D_58, D_59, D_61, D_62, D_63, D_64, D_65, D_66, D_67, D_68, D_69, D_70, D_71, D_73, D_74, D_75, D_76, D_78, D_81, D_82, D_83, D_84, D_85, D_86, D_87, D_89, D_91, D_92, D_94, D_95, D_97, D_98, D_100, D_101, D_103, D_105, D_106, D_108, D_109, D_110, D_111, D_112, D_114, D_115, D_116, D_118, D_119, D_121, D_122, D_123, D_124, D_125, D_126, D_127, D_129, D_130, D_131, D_132, D_134, D_135, D_136, D_138, D_139, D_140, D_141, D_143, D_144, D_145, D_146, D_147, D_148, D_149, D_150, D_151, D_152, D_154, D_155, D_156, D_158, D_159, D_161, D_162, D_163, D_164, D_165, D_167, D_168, D_170, D_172, D_173, D_175, D_176, D_177, D_178, D_179, D_180, D_181, D_182, D_185, D_186, D_187, D_188, D_189, D_190, D_191, D_193, D_195, D_196, D_200, D_201, D_205, D_206, D_207, D_208, D_209, D_210, D_211, D_212] at h
  obtain ⟨rs, rfl, hl, hr⟩ := h
  have hB : ∀ row ∈ rs, ∃ b : UInt8, row = byteRow b := fun row hrow => by
    obtain ⟨n, rfl, hw⟩ := hr row hrow
    have hx : 0 ≤ n ∧ n ≤ 255 := by simpa [Lit.wf, IntKind.min, IntKind.max, IntKind.signed, IntKind.bits] using hw
    refine ⟨UInt8.ofNat n.toNat, ?_⟩
    have e : ((UInt8.ofNat n.toNat).toNat : Int) = n := by
      rw [UInt8.toNat_ofNat']
      omega
    rw [byteRow, e]
  clear hr
  have : ∃ l : List UInt8, rs = l.map byteRow := by
    clear hl
    induction rs with
    | nil => exact ⟨[], rfl⟩
    | cons x r ih =>
      obtain ⟨b, rfl⟩ := hB x (by simp)
      obtain ⟨l, rfl⟩ := ih fun row hrow => hB row (by simp [hrow])
      exact ⟨b :: l, rfl⟩
  obtain ⟨l, rfl⟩ := this
  exact ⟨l, rfl, by simpa using hl⟩
theorem shp_note {m : Nat} {B : Nat} {us : List AV} (h : Shp D B (m + 4) 25 us) : ∃ n : LNote, AV.agg us = noteA n ∧ us = [.sl 4 (n.props.map propRow), .sl 1 (n.body.map byteRow)] ∧ n.props.length ≤ B ∧ n.body.length ≤ B ∧ ∀ p ∈ n.props, p.key.size ≤ B ∧ p.text.size ≤ B := by
  have h := shp_struct (fs := [(0, 22), (1, 23)]) (by simp only [D_1, D_2, D_3, D_4, D_5, D_6, D_7, D_8, D_9, D_10, D_11, D_12, D_13, D_14, D_15, D_16, D_17, D_18, D_19, D_20, D_21, D_22, D_23, D_24, D_25, D_26, D_27, D_28, D_29, D_30, D_32, D_34, D_35, D_36, D_38, D_39, D_40, D_41, D_42, D_43, D_44, D_46, D_47, D_49, D_50, D_51, D_52, D_54, D_55, D_56, D_58, D_59, D_61, D_62, D_63, D_64, D_65, D_66, D_67, D_68, D_69, D_70, D_71, D_73, D_74, D_75, D_76, D_78, D_81, D_82, D_83, D_84, D_85, D_86, D_87, D_89, D_91, D_92, D_94, D_95, D_97, D_98, D_100, D_101, D_103, D_105, D_106, D_108, D_109, D_110, D_111, D_112, D_114, D_115, D_116, D_118, D_119, D_121, D_122, D_123, D_124, D_125, D_126, D_127, D_129, D_130, D_131, D_132, D_134, D_135, D_136, D_138, D_139, D_140, D_141, D_143, D_144, D_145, D_146, D_147, D_148, D_149, D_150, D_151, D_152, D_154, D_155, D_156, D_158, D_159, D_161, D_162, D_163, D_164, D_165, D_167, D_168, D_170, D_172, D_173, D_175, D_176, D_177, D_178, D_179, D_180, D_181, D_182, D_185, D_186, D_187, D_188, D_189, D_190, D_191, D_193, D_195, D_196, D_200, D_201, D_205, D_206, D_207, D_208, D_209, D_210, D_211, D_212]) h
  simp only [ShpF] at h
  obtain ⟨_, _, rfl, h1, _, _, rfl, h2, rfl⟩ := h
  obtain ⟨l, rfl, q1, q2⟩ := shp_props h1
  obtain ⟨b, rfl, q3⟩ := shp_bytes h2
  exact ⟨⟨l, b⟩, rfl, rfl, q1, q3, q2⟩
end Go.Proofs.YtmlejhpeoiicpaaGreatDoor.Ab
