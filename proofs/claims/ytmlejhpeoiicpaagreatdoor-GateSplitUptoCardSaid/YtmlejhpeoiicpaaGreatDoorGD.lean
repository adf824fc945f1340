/-
  Texts of the proof, one behind the other: NtA NtB NtO NtC NtD NtS NtE NtF NtG NtP NtT KlA PcC PcD OpenG.
  No condition but those that each theorem names.
-/
import Derived.Test.YtmlejhpeoiicpaaGreatDoorGC
import Derived.Test.YtmlejhpeoiicpaaGreatDoorGA
namespace Go.Proofs.YtmlejhpeoiicpaaGreatDoor.Ab
open Go Go.RowKit
set_option linter.unusedVariables false
set_option linter.unusedSimpArgs false

def byteI (n : Int) : UInt8 := UInt8.ofNat (n % 256).toNat
theorem byteI_nat (n : Int) : ((byteI n).toNat : Int) = n % 256 := by
  simp [byteI]
  omega
theorem wrap8 (n : Int) : IntKind.wrap .u8 n = ((byteI n).toNat : Int) := by rw [byteI_nat, IntKind.wrap_u8]
theorem byteI_of (b : UInt8) : byteI (b.toNat : Int) = b := by
  have h1 := byteI_nat (b.toNat : Int)
  have h2 := b.toNat_lt
  exact UInt8.toNat_inj.1 (by omega)
def propRow (p : LProp) : List AV := [.str p.key.data.toList, .int .i64 p.kind, .int .i64 p.n, .str p.text.data.toList]
def propD : LProp := ⟨⟨#[]⟩, 0, 0, ⟨#[]⟩⟩
theorem propGet {l : List LProp} {i : Nat} (h : i < l.length) : (l.map propRow).getD i [] = propRow (l.getD i propD) := by
  rw [List.getD_eq_getElem?_getD, List.getElem?_map, List.getD_eq_getElem?_getD]
  simp [h]
theorem bytes_ext {a b : ByteArray} (h : a.data.toList = b.data.toList) : a = b := by
  obtain ⟨⟨x⟩⟩ := a
  obtain ⟨⟨y⟩⟩ := b
  simp at h
  rw [h]
theorem propRow_inj {p q : LProp} (h : propRow p = propRow q) : p = q := by
  obtain ⟨a, b, c, d⟩ := p
  obtain ⟨a', b', c', d'⟩ := q
  simp only [propRow, List.cons.injEq, AV.str.injEq, AV.int.injEq, true_and, and_true] at h
  rw [bytes_ext h.1, h.2.1, h.2.2.1, bytes_ext h.2.2.2]
theorem props_inj : ∀ {l m : List LProp}, l.map propRow = m.map propRow → l = m
  | [], [], _ => rfl
  | [], _ :: _, h => by simp at h
  | _ :: _, [], h => by simp at h
  | a :: l, b :: m, h => by
    simp only [List.map_cons, List.cons.injEq] at h
    rw [propRow_inj h.1, props_inj h.2]
def noteA (n : LNote) : AV := .agg [.sl 4 (n.props.map propRow), .sl 1 (n.body.map byteRow)]
theorem noteA_inj {n m : LNote} (h : noteA n = noteA m) : n = m := by
  obtain ⟨a, b⟩ := n
  obtain ⟨c, d⟩ := m
  simp only [noteA, AV.agg.injEq, List.cons.injEq, AV.sl.injEq, true_and, and_true] at h
  rw [props_inj h.1, bytes_inj h.2]

section
variable {w : World} {im : Nat → Prop} {ρ : Env}
theorem prop_cell (p : LProp) (r : Nat) (u : Value) (h : (propV p)[r]? = some u) : ∃ x, (propRow p)[r]? = some x ∧ ∀ v, Rel w im ρ x v → v = u := by
  match r with
  | 0 => simp [propV] at h; subst h; exact ⟨_, rfl, fun v hv => hv.str_⟩
  | 1 => simp [propV] at h; subst h; exact ⟨_, rfl, fun v hv => hv.int_⟩
  | 2 => simp [propV] at h; subst h; exact ⟨_, rfl, fun v hv => hv.int_⟩
  | 3 => simp [propV] at h; subst h; exact ⟨_, rfl, fun v hv => hv.str_⟩
  | r + 4 => simp [propV] at h
theorem rel_props {l : List LProp} {v : Value} (h : Rel w im ρ (.sl 4 (l.map propRow)) v) : ∃ A c, v = .slice A l.length c ∧ l.length ≤ c ∧ c ≤ maxLen ∧ RProps w im A l := by
  generalize hrs : l.map propRow = rs at h
  cases h with
  | sl sz rs A c b o val hc hm hA hrow hcell hval =>
  subst hrs
  rw [List.length_map] at hc hA ⊢
  refine ⟨A, c, rfl, hc, hm, by rw [flatMap_len propV 4 (fun _ => rfl)], fun hn => ?_⟩
  obtain ⟨h1, h2⟩ := hA hn
  refine ⟨b, o, h1, h2, fun j u hu => ?_⟩
  have hj := (List.getElem?_eq_some_iff.1 hu).1
  rw [flatMap_len propV 4 (fun _ => rfl)] at hj
  have hi : j / 4 < l.length := by omega
  have hg := flatMap_get propV 4 (fun _ => rfl) l (j / 4) hi (j % 4) (Nat.mod_lt _ (by omega))
  rw [show j / 4 * 4 + j % 4 = j by omega] at hg
  rw [hg] at hu
  obtain ⟨x, hx, hv⟩ := prop_cell (w := w) (im := im) (ρ := ρ) _ _ _ hu
  have hr : (l.map propRow)[j / 4]? = some (propRow l[j / 4]) := by rw [List.getElem?_map, List.getElem?_eq_getElem hi]; rfl
  have h3 := hcell (j / 4) (j % 4) _ x hr hx
  have h4 := hv _ (hval (j / 4) (j % 4) _ x hr hx)
  rw [h4, show o + (j / 4 * 4 + j % 4) = o + j by omega] at h3
  exact h3.1
theorem rel_note {n : LNote} {v : Value} (h : Rel w im ρ (noteA n) v) : ∃ A c A' c', v = .agg #[.slice A n.props.length c, .slice A' n.body.length c'] ∧ RProps w im A n.props ∧ RBytes w im A' n.body := by
  obtain ⟨a, b, rfl, ⟨_, h1⟩, _, h2⟩ := rel_agg2 h
  obtain ⟨A, c, rfl, _, _, p1⟩ := rel_props h1
  obtain ⟨A', c', rfl, _, _, p2⟩ := rel_bytes h2
  exact ⟨A, c, A', c', rfl, p1, p2⟩
end
/-! contracts of what was walked -/
theorem con_key (s : ByteArray) (hs : s.size ≤ 1048576) : Con Tryz.prog D 103 [.str s.data.toList] ⟨.bool (keyS s), []⟩ := by
  refine con_below Tryz.func103 (by decide) rfl (by simp [names]) fun w im ρ vs him hvs => ?_
  obtain ⟨v, rfl, hv⟩ := rels_one hvs
  rw [hv.str_]
  refine (key_any s w hs).mono fun e w' ⟨he, hw⟩ => ⟨_, he, ?_, .bool _⟩
  first | exact hw | (subst hw; exact Below.refl _ _)
theorem con_wrong (n : LNote) (hn : n.Fits) : Con Tryz.prog D 104 [noteA n] ⟨.int .i64 (wrongS n), []⟩ := by
  refine con_below Tryz.func104 (by decide) rfl (by simp [names]) fun w im ρ vs him hvs => ?_
  obtain ⟨v, rfl, hv⟩ := rels_one hvs
  obtain ⟨A, c, A', c', rfl, h1, h2⟩ := rel_note hv
  exact (wrong_any n A A' c c' w hn (h1.mono him)).mono fun e w' ⟨he, hw⟩ => ⟨_, he, hw, .int _ _⟩
theorem names_propRow (p : LProp) : namess (propRow p) = [] := by simp [propRow, names, namess]
theorem names_note (n : LNote) : names (noteA n) = [] := by simp [noteA, names, namess]
attribute [simp] names_propRow names_note
def note0 : LNote := ⟨[], []⟩
theorem fits_zero : note0.Fits := ⟨by simp [note0], by simp [note0], by simp [note0]⟩
end Go.Proofs.YtmlejhpeoiicpaaGreatDoor.Ab
namespace Go.Proofs.YtmlejhpeoiicpaaGreatDoor.Ab
open Go Go.RowKit
set_option linter.unusedVariables false
set_option linter.unusedSimpArgs false

def numS (n : Int) : List UInt8 := [byteI (n / 16777216), byteI (n / 65536), byteI (n / 256), byteI n]
def textS (l : List UInt8) : List UInt8 := byteI l.length :: l
def propB (p : LProp) : List UInt8 := textS p.key.data.toList ++ (byteI p.kind :: (if p.kind = 2 then textS p.text.data.toList else numS p.n))
def bytesN (n : LNote) : List UInt8 := byteI n.props.length :: (n.props.flatMap propB ++ textS n.body)

theorem asked_none {ys : List AV} : asked ys none = none := rfl

set_option maxRecDepth 100000 in
theorem inl_neq {X : Cx} (hP : X.P = Tryz.prog) {ops : Array Oper} {σ : AS} {R : AS → Prop} {d : Nat} {x y : Operand} {U : Nat} {ty : Nat} {pos : String} {af : Array Edge} {p q : LProp} (hx : ev σ x = .agg (propRow p)) (hy : ev σ y = .agg (propRow q)) (hd : d < σ.nt)
    (h : R { σ with tm := (d, .bool (!decide (p = q))) :: σ.tm }) : InlOp X ops ⟨some d, .binOp .neq 36 x y U, ty, pos, af, none⟩ σ R := by
  refine ⟨fun γ a w i Qx hi ⟨ρ, hs⟩ => ?_⟩
  have hvx := (hs.ev x).1
  have hvy := (hs.ev y).1
  rw [hx] at hvx
  rw [hy] at hvy
  have hag : ∀ (r : LProp) (v : Value) (im : Nat → Prop), Rel w im ρ (.agg (propRow r)) v → v = .agg #[.string r.key, .int .i64 r.kind, .int .i64 r.n, .string r.text] := fun r v im h => by
    cases h with
    | agg cs vs hl h1 hval =>
    obtain ⟨vs⟩ := vs
    match vs, hl with
    | [a, b, c, d], _ =>
      rw [(hval 0 _ a rfl rfl).str_, (hval 1 _ b rfl rfl).int_, (hval 2 _ c rfl rfl).int_, (hval 3 _ d rfl rfl).str_]
  unfold wpOp
  simp only [hi]
  rw [if_pos (by simp [Region.wanted])]
  left
  have hex : execOp a.eval ⟨some d, .binOp .neq 36 x y U, ty, pos, af, none⟩ = (do pure (.value (← (do eqGuard .neq 36 x y (a.eval x) (a.eval y); binOp .neq 36 (a.eval x) (a.eval y))))) := rfl
  refine wp_of_value hex (v := .bool (!decide (p = q))) (w' := w) ?_ ⟨_, h, ρ, hs.put hd (.bool _) (by simp [names])⟩
  rw [hag p _ _ hvx, hag q _ _ hvy, hP]
  rw [Sem.run_bind, run_eqGuard_agg w _ _ _ _ _ _ prop_guard, Result.andThen_ok]
  exact prop_neq p q w

def eKey : Ent Tryz.prog D := ⟨103, ByteArray, fun s => [.str s.data.toList], fun s => s.size ≤ 1048576, fun s => ⟨.bool (keyS s), []⟩, fun x y _ _ h => by
  simp only [List.cons.injEq, AV.str.injEq, and_true] at h
  rw [bytes_ext h], con_key⟩
def eWrong : Ent Tryz.prog D := ⟨104, LNote, fun n => [noteA n], fun n => n.Fits, fun n => ⟨.int .i64 (wrongS n), []⟩, fun x y _ _ h => by
  simp only [List.cons.injEq, and_true] at h
  rw [noteA_inj h], con_wrong⟩
set_option maxRecDepth 100000 in
theorem con_refsame (n m : LNote) (hn : n.Fits) (hm : m.Fits) : Con Tryz.prog D 65 [noteA n, noteA m] ⟨.bool (decide (n = m)), []⟩ := by
  have hok : GOk Tryz.prog D (tabG []) := tabG_ok _
  refine con_of (G := tabG []) (rs := [(4, none)]) mixed tok hok Tryz.func65 rfl (by decide) Tryz.results65 (by decide) rfl Tryz.ntmps65 (by simp) (by simp [noteA, namess, names]) fun X hP hD hG' hX => evC_sound hX (fun _ => {}) _ _ _ ?_
  simp only [argS, num, noteA]
  simp (disch := omega) only [go_sem, hD, hG', wrap64, wrap8, unbox]
  refine RegT.mk [] ?_
  simp (disch := omega) only [go_sem, hD, hG', wrap64, wrap8, unbox]
  ((try and_intros); all_goals (try first | omega | decide | (simp; done) | (simp only [List.length_append, List.length_cons, List.length_nil, List.length_map]; omega)))
  refine condK_split (fun h => ?_) (fun h => ?_)
  · simp (disch := omega) only [go_sem, hD, hG', wrap64, wrap8, unbox]
    refine ⟨[], [], rfl, rfl, ?_, ?_⟩ <;> simp only [go_sem]
    rw [eq_comm, decide_eq_false_iff_not]
    rintro rfl
    simp at h
  · have hl : n.props.length = m.props.length := by
      by_cases hc : n.props.length = m.props.length
      · exact hc
      · exfalso
        revert h
        have : ((n.props.length : Int) != (m.props.length : Int)) = true := by simp; omega
        simp [this]
    have hb : n.body = m.body := by simpa [hl] using h
    simp (disch := omega) only [go_sem, hD, hG', wrap64, wrap8, unbox]
    refine Tr.loop (ι := Nat) (fun i => i ≤ n.props.length ∧ n.props.take i = m.props.take i) (fun i => { nt := 40, tm := [(2, .ptr 2 0), (3, .ptr 3 0), (24, .int .i64 n.props.length), (25, .int .i64 i)], bl := [(2, some (.cells [.sl 4 (n.props.map propRow), .sl 1 (n.body.map byteRow)])), (3, some (.cells [.sl 4 (m.props.map propRow), .sl 1 (m.body.map byteRow)]))] }) (fun i => n.props.length - i) 0
      ⟨⟨Nat.zero_le _, rfl⟩, wk_of hD [(2, 2), (3, 3)] rfl rfl (by simp only [go_sem]; try simp) (by simp only [go_sem])⟩ ?_
    rintro i ⟨hi, ht⟩
    have hnl := hn.2.1
    refine evC_sound hX (fun id => match id with | 6 => {lo := [10]} | _ => {}) _ _ _ ?_
    simp (disch := omega) only [go_sem, hD, hG', wrap64]
    refine condK_split (fun h => ?_) (fun h => ?_)
    · rw [decide_eq_true_eq] at h
      have hi1 : i < n.props.length := by omega
      have hi2 : i < m.props.length := by omega
      simp (disch := omega) only [go_sem, hD, hG', wrap64, propGet, propRow, asked_none]
      refine ⟨by decide, ⟨by omega, by omega⟩, ⟨by omega, by omega⟩, inl_neq hP (p := n.props.getD i propD) (q := m.props.getD i propD) rfl rfl (by simp) ?_⟩
      simp (disch := omega) only [go_sem, hD, hG', wrap64, propGet, propRow, asked_none]
      have e1 : n.props.getD i propD = n.props[i] := by simp [hi1]
      have e2 : m.props.getD i propD = m.props[i] := by simp [hi2]
      refine condK_split (fun h => ?_) (fun h => ?_)
      · simp (disch := omega) only [go_sem, hD, hG', wrap64, wrap8, unbox]
        refine ⟨[], [], rfl, rfl, ?_, ?_⟩ <;> simp only [go_sem]
        rw [eq_comm, decide_eq_false_iff_not]
        rintro rfl
        simp at h
      · simp (disch := omega) only [go_sem, hD, hG', wrap64]
        have he : n.props[i] = m.props[i] := by
          rw [← e1, ← e2]
          simpa using h
        refine ⟨i + 1, ⟨⟨by omega, by rw [List.take_succ_eq_append_getElem hi1, List.take_succ_eq_append_getElem hi2, ht, he]⟩, by omega⟩, wk_of hD [(2, 2), (3, 3)] rfl rfl ?_ ?_⟩ <;> simp only [go_sem]
        simp
    · rw [decide_eq_false_iff_not] at h
      simp (disch := omega) only [go_sem, hD, hG', wrap64, wrap8, unbox]
      refine ⟨[], [], rfl, rfl, ?_, ?_⟩ <;> simp only [go_sem]
      have : i = n.props.length := by omega
      subst this
      rw [List.take_length, hl, List.take_length] at ht
      rw [eq_comm, decide_eq_true_eq]
      obtain ⟨a, b⟩ := n
      obtain ⟨c, d⟩ := m
      simp only at ht hb
      rw [ht, hb]
theorem propS_ok {p : LProp} (h : propS p = 0) : p.key.size ≤ 8 ∧ ((p.kind = 2 ∧ p.text.size ≤ 12 ∧ p.n = 0) ∨ ((p.kind = 1 ∨ p.kind = 3) ∧ p.text.size = 0 ∧ -1073741824 ≤ p.n ∧ p.n ≤ 1073741824)) := by
  unfold propS at h
  split at h
  · cases h
  rename_i hk
  have hk8 : p.key.size ≤ 8 := by
    have : keyS p.key = true := by simpa using hk
    unfold keyS at this
    simp at this
    omega
  refine ⟨hk8, ?_⟩
  split at h
  · cases h
  split at h
  · cases h
  split at h
  · cases h
  split at h
  · cases h
  omega
theorem size_len (b : ByteArray) : b.data.toList.length = b.size := rfl
theorem text_nil {b : ByteArray} (h : b.size = 0) : b = ⟨#[]⟩ := bytes_ext (List.eq_nil_of_length_eq_zero h)
theorem propsS_all {l : List LProp} (h : propsS l = 0) : ∀ p ∈ l, propS p = 0 := by
  induction l with
  | nil => simp
  | cons q r ih =>
    rw [propsS] at h
    split at h
    · rename_i hq
      intro p hp
      rcases List.mem_cons.1 hp with rfl | hp
      · exact hq
      · exact ih h p hp
    · rename_i hq
      exact absurd h hq
theorem wrongS_ok {n : LNote} (h : wrongS n = 0) : n.props.length ≤ 4 ∧ (∀ p ∈ n.props, propS p = 0) ∧ n.body.length ≤ 40 := by
  unfold wrongS at h
  split at h
  · cases h
  · split at h
    · rename_i h1
      exact absurd h h1
    · rename_i h0 h1
      split at h
      · cases h
      · refine ⟨by omega, propsS_all (by simpa using h1), by omega⟩
theorem fits_right {n : LNote} (h : wrongS n = 0) : n.Fits := by
  obtain ⟨h1, h2, h3⟩ := wrongS_ok h
  refine ⟨fun p hp => ?_, by omega, by omega⟩
  obtain ⟨q1, q2⟩ := propS_ok (h2 p hp)
  exact ⟨by omega, by omega⟩
end Go.Proofs.YtmlejhpeoiicpaaGreatDoor.Ab
namespace Go.Proofs.YtmlejhpeoiicpaaGreatDoor.Ab
open Go Go.RowKit
set_option linter.unusedVariables false
set_option linter.unusedSimpArgs false

theorem con_copy (l : List UInt8) (hl : l.length ≤ 8388608) : Con Tryz.prog D 101 [.sl 1 (l.map byteRow)] ⟨.sl 1 (l.map byteRow), []⟩ := by
  refine con_below Tryz.func101 (by decide) rfl (by simp [names]) fun w im ρ vs him hvs => ?_
  obtain ⟨v, rfl, hv⟩ := rels_one hvs
  obtain ⟨A, c, rfl, h1, h2, h3⟩ := rel_bytes hv
  refine (clone_bytes l _ rfl A c w hl (h3.mono him)).mono fun e w' ⟨A1, c1, he, hown, hb⟩ => ⟨_, he, hb, ?_⟩
  obtain ⟨A2, c2, e2, q1, q2, q3⟩ := own_reads hown
  cases e2
  exact bytes_rel q1 q2 (q3.mono fun b hb => ⟨hb.2.1, .inr hb.1⟩)
def eCopy : Ent Tryz.prog D := ⟨101, List UInt8, fun l => [.sl 1 (l.map byteRow)], fun l => l.length ≤ 8388608, fun l => ⟨.sl 1 (l.map byteRow), []⟩, fun x y _ _ h => by
  simp only [List.cons.injEq, AV.sl.injEq, true_and, and_true] at h
  rw [bytes_inj h], con_copy⟩
end Go.Proofs.YtmlejhpeoiicpaaGreatDoor.Ab
namespace Go.Proofs.YtmlejhpeoiicpaaGreatDoor.Ab
open Go Go.RowKit
set_option linter.unusedVariables false
set_option linter.unusedSimpArgs false

theorem bytes_take {n : LNote} {i : Nat} (hi : i < n.props.length) : (n.props.take (i + 1)).flatMap propB = (n.props.take i).flatMap propB ++ propB (n.props.getD i propD) := by
  rw [List.take_succ_eq_append_getElem hi, List.flatMap_append]
  congr 1
  simp [hi]
theorem flat_take_le (l : List LProp) (i : Nat) : ((l.take i).flatMap propB).length ≤ (l.flatMap propB).length := by
  conv => rhs; rw [← List.take_append_drop i l]
  rw [List.flatMap_append, List.length_append]
  omega
theorem shr24 (n : Int) : shrI .i64 n 24 = n / 16777216 := Int.fdiv_eq_ediv_of_nonneg _ (by decide)
theorem shr16 (n : Int) : shrI .i64 n 16 = n / 65536 := Int.fdiv_eq_ediv_of_nonneg _ (by decide)
theorem shr8 (n : Int) : shrI .i64 n 8 = n / 256 := Int.fdiv_eq_ediv_of_nonneg _ (by decide)
def bytesLo : Nat → Lo := fun id => match id with | 5 => {uo := [6, 9], ex := [0, 1, 2, 3, 4, 5, 10], kn := [5000, 24]} | 8 => {uo := [6, 9], ex := [0, 1, 2, 3, 4, 5, 10], kn := [33, 43]} | 11 => {uo := [6, 9], ex := [0, 1, 2, 3, 4, 5, 10], kn := [5000, 58]} | _ => {}
set_option maxRecDepth 100000 in
theorem con_bytes (n : LNote) (hn : n.Fits) (hl : (bytesN n).length ≤ 4194304) : Con Tryz.prog D 136 [noteA n] ⟨.os 0, [(5, 1, (bytesN n).map byteRow)]⟩ := by
  have hok : GOk Tryz.prog D (tabG []) := tabG_ok _
  have hnl := hn.2.1
  have hbl := hn.2.2
  have hlen : (bytesN n).length = 1 + (n.props.flatMap propB).length + (1 + n.body.length) := by simp [bytesN, textS]; omega
  refine con_of (G := tabG []) (rs := [(2, none)]) mixed tok hok Tryz.func136 rfl (by decide) Tryz.results136 (by decide) rfl Tryz.ntmps136 (by simp) (by simp [noteA, namess, names]) fun X hP hD hG' hX => evC_sound hX bytesLo _ _ _ ?_
  have gn : ∀ a, tabG ([] : List (Ent Tryz.prog D)) 153 a = none := fun a => rfl
  generalize tabG [] = G at *
  simp only [argS, num, noteA]
  simp (disch := omega) only [go_sem, hD, hG', wrap64, bytesLo, wrap8, unbox]
  refine Tr.loop (ι := Nat) (fun i => i ≤ n.props.length) (fun i => { nt := 62, tm := [(1, .ptr 1 0), (3, .os 5000), (12, .sl 4 (n.props.map propRow)), (13, .int .i64 n.props.length), (14, .int .i64 i)], bl := [(1, some (.cells [.sl 4 (n.props.map propRow), .sl 1 (n.body.map byteRow)])), (5000, some (.rows 5 1 ((byteI n.props.length :: (n.props.take i).flatMap propB).map byteRow)))] }) (fun i => n.props.length - i) 0
    ⟨Nat.zero_le _, wk_of hD [(1, 1), (5000, 10)] rfl rfl (by simp only [go_sem]; try simp) (by simp only [go_sem, D_3, D_5, D_9, D_22, D_23, D_25, D_36]; simp [byteRow])⟩ ?_
  intro i hi
  have hti := flat_take_le n.props i
  refine evC_sound hX bytesLo _ _ _ ?_
  simp (disch := omega) only [go_sem, hD, hG', wrap64, bytesLo]
  refine condK_split (fun h => ?_) (fun h => ?_)
  · rw [decide_eq_true_eq] at h
    have hi1 : i < n.props.length := by omega
    have hbt := bytes_take hi1
    have hti1 := flat_take_le n.props (i + 1)
    rw [hbt, List.length_append] at hti1
    generalize hp : n.props.getD i propD = p at *
    have hpl : p.key.data.toList.length + 2 ≤ (propB p).length := by
      simp only [propB, textS, List.length_append, List.length_cons]
      omega
    simp (disch := omega) only [go_sem, hD, hG', wrap64, bytesLo, wrap8, propGet, hp, propRow]
    ((try and_intros); all_goals (try first | omega | decide | (simp; done) | (simp only [List.length_append, List.length_cons, List.length_nil, List.length_map]; omega)))
    refine condK_split (fun h => ?_) (fun h => ?_)
    · have hk : p.kind = 2 := by simpa using h
      have hpb : propB p = textS p.key.data.toList ++ (byteI p.kind :: textS p.text.data.toList) := by simp [propB, hk]
      rw [hpb] at hbt hti1
      simp only [textS, List.length_append, List.length_cons] at hti1
      simp (disch := omega) only [go_sem, hD, hG', wrap64, bytesLo, wrap8]
      ((try and_intros); all_goals (try first | omega | decide | (simp; done) | (simp only [List.length_append, List.length_cons, List.length_nil, List.length_map]; omega)))
      refine ⟨i + 1, ⟨by omega, by omega⟩, wk_of hD [(1, 1), (5000, 46)] rfl rfl ?_ ?_⟩
      · simp only [go_sem]
        simp
      · simp only [go_sem, D_3, D_5, D_9, D_22, D_23, D_25, D_36]
        simp [hbt, textS, byteRow]
    · have hk : ¬ p.kind = 2 := by simpa using h
      have hpb : propB p = textS p.key.data.toList ++ (byteI p.kind :: numS p.n) := by simp [propB, hk]
      rw [hpb] at hbt hti1
      simp only [textS, numS, List.length_append, List.length_cons] at hti1
      simp (disch := omega) only [go_sem, hD, hG', wrap64, bytesLo, wrap8, gn, asked_none]
      refine inl_call (rs := [(4, none)]) hX.types rfl (by rw [hP]; exact Tryz.func153) rfl (by decide) Tryz.results153 (by decide) Tryz.ntmps153 (by simp) (by simp) 70000 noM ?_
      refine evC_sound (inl_ok hX 70000 MOk.none) bytesLo _ _ _ ?_
      simp (disch := omega) only [go_sem, hD, hG', wrap64, bytesLo, wrap8, enterS, leaveS, shT, unT, resA, num, unbox, Option.some.injEq, exists_eq_left', tmv, shr24, shr16, shr8]
      ((try and_intros); all_goals (try first | omega | decide | (simp; done) | (simp only [List.length_append, List.length_cons, List.length_nil, List.length_map]; omega)))
      refine ⟨i + 1, ⟨by omega, by omega⟩, wk_of hD [(1, 1), (5000, 70018)] rfl rfl ?_ ?_⟩
      · simp only [go_sem]
        simp
      · simp only [go_sem, D_3, D_5, D_9, D_22, D_23, D_25, D_36]
        simp [hbt, textS, numS, byteRow]
  · rw [decide_eq_false_iff_not] at h
    have hie : i = n.props.length := by omega
    subst hie
    rw [List.take_length] at *
    simp (disch := omega) only [go_sem, hD, hG', wrap64, bytesLo, wrap8, unbox]
    ((try and_intros); all_goals (try first | omega | decide | (simp; done) | (simp only [List.length_append, List.length_cons, List.length_nil, List.length_map]; omega)))
    refine ⟨[], [(0, 61)], rfl, rfl, ?_, ?_⟩ <;> simp only [go_sem, D_3, D_5, D_9, D_22, D_23, D_25, D_36]
    all_goals simp [bytesN, textS, byteRow]
theorem num4 (n : Int) : (numS n).length = 4 := rfl
end Go.Proofs.YtmlejhpeoiicpaaGreatDoor.Ab
namespace Go.Proofs.YtmlejhpeoiicpaaGreatDoor.Ab
open Go Go.RowKit
set_option linter.unusedVariables false
set_option linter.unusedSimpArgs false

/-- n bytes off a reader: these, what is left, is it bad -/
def takeR (n : Nat) (l : List UInt8) (bad : Bool) : List UInt8 × List UInt8 × Bool :=
  if bad = true ∨ l.length < n then (List.replicate n 0, l, true) else (l.take n, l.drop n, false)
theorem takeR_len (n : Nat) (l : List UInt8) (bad : Bool) : (takeR n l bad).1.length = n := by
  unfold takeR
  split
  · simp
  · simp; omega
theorem takeR_le (n : Nat) (l : List UInt8) (bad : Bool) : (takeR n l bad).2.1.length ≤ l.length := by
  unfold takeR
  split <;> simp
def textR (l : List UInt8) (bad : Bool) : List UInt8 × List UInt8 × Bool :=
  takeR ((takeR 1 l bad).1.getD 0 0).toNat (takeR 1 l bad).2.1 (takeR 1 l bad).2.2
theorem textR_len (l : List UInt8) (bad : Bool) : (textR l bad).1.length ≤ 255 := by
  unfold textR
  rw [takeR_len]
  have := ((takeR 1 l bad).1.getD 0 0).toNat_lt
  omega
theorem textR_le (l : List UInt8) (bad : Bool) : (textR l bad).2.1.length ≤ l.length :=
  Nat.le_trans (takeR_le _ _ _) (takeR_le _ _ _)

/-- what take does -/
def takeM : MCtr := fun dn f args bl =>
  match args with
  | [.ptr v 0, .int .i64 n] => if f = 167 then
    match bl v with
    | some (.cells [.sl 1 rs, .bool bad]) => some { v := .sl 1 ((takeR n.toNat (bytesOf rs) bad).1.map byteRow), up := [(v, .cells [.sl 1 ((takeR n.toNat (bytesOf rs) bad).2.1.map byteRow), .bool (takeR n.toNat (bytesOf rs) bad).2.2])], pre := (0 ≤ n ∧ n ≤ 65536) ∧ isB rs ∧ rs.length ≤ 8388608 }
    | _ => none
    else none
  | _ => none
/-- what text does -/
def textM : MCtr := fun dn f args bl =>
  match args with
  | [.ptr v 0] => match bl v with
    | some (.cells [.sl 1 rs, .bool bad]) => some { v := .sl 1 ((textR (bytesOf rs) bad).1.map byteRow), up := [(v, .cells [.sl 1 ((textR (bytesOf rs) bad).2.1.map byteRow), .bool (textR (bytesOf rs) bad).2.2])], pre := isB rs ∧ rs.length ≤ 8388608 }
    | _ => none
  | _ => none
/-- what take and text do -/
def readerM : MCtr := fun dn f args bl => if f = 168 then textM dn f args bl else takeM dn f args bl

set_option maxRecDepth 100000 in
theorem mok_take {G : Ctr} (hg : ∀ l : List UInt8, l.length ≤ 8388608 → G 101 [.sl 1 (l.map byteRow)] = some ⟨.sl 1 (l.map byteRow), []⟩) : MOk Tryz.prog D G takeM := by
  intro X hP hD hG hM hmx hT hok ops o σ e hgd he hpre hfr
  obtain ⟨dst, f, args, types, ty, pos, af, g, caps, rfl, hf, he⟩ := mEff_call he hgd
  unfold takeM at he
  split at he
  case h_2 => cases he
  rename_i v n hargs
  split at he
  case isFalse => cases he
  rename_i hg80
  subst hg80
  split at he
  case h_2 => cases he
  rename_i rs bad hbl
  have hbl := snap_some hbl
  injection he with he
  subst he
  obtain ⟨⟨hn0, hn1⟩, hB, hrl⟩ := hpre
  obtain ⟨n, rfl⟩ := Int.eq_ofNat_of_zero_le hn0
  unfold isB at hB
  rw [hB] at hbl
  generalize hl : bytesOf rs = l at *
  have hll : l.length ≤ 8388608 := by rw [← hl]; simpa [bytesOf] using hrl
  simp only [bytesOf_map, Int.toNat_natCast] at hfr ⊢
  have hX : ({ X with nb := 70000, M := noM } : Cx).Ok := MOk.ok MOk.none hP hD hG rfl hmx hT hok
  have hdst : ∀ k, dst = some k → k < σ.nt := fun k hk => by
    subst hk
    simpa [fresh, keys, unbound] using hfr
  refine inl_call (rs := [(4, none)]) (by rw [hP, hD]; exact hT) hf (by rw [hP]; exact Tryz.func167) rfl (by decide) Tryz.results167 (by decide) Tryz.ntmps167 (by rw [hargs]; simp) hdst 70000 noM ?_
  rw [hargs]
  refine evC_sound hX (fun _ => {}) _ _ _ ?_
  have hb0 : get v σ.bl = some (some (.cells [.sl 1 (l.map byteRow), .bool bad])) := blk_iff.1 hbl
  simp (disch := ((try simp only [List.length_drop, List.length_take, List.length_append, List.length_cons, List.length_nil, List.length_map]); omega)) only [go_sem, Nat.reduceLeDiff, reduceCtorEq, Nat.reduceAdd, Nat.reduceSub, Nat.reduceMul, Nat.reduceLT, Nat.reduceEqDiff, Int.reduceEq, Int.reduceLE, Int.reduceLT, Int.reducePow, Int.reduceMul, Int.reduceToNat, Int.reduceNeg, ↓reduceIte, ← List.map_take, ← List.map_drop, hD, hG, wrap64, wrap8, hg, hb0, enterS, leaveS, shT, unT, resA, num, unbox, Option.some.injEq, exists_eq_left', tmv]
  refine RegT.mk [] ?_
  simp (disch := ((try simp only [List.length_drop, List.length_take, List.length_append, List.length_cons, List.length_nil, List.length_map]); omega)) only [go_sem, Nat.reduceLeDiff, reduceCtorEq, Nat.reduceAdd, Nat.reduceSub, Nat.reduceMul, Nat.reduceLT, Nat.reduceEqDiff, Int.reduceEq, Int.reduceLE, Int.reduceLT, Int.reducePow, Int.reduceMul, Int.reduceToNat, Int.reduceNeg, ↓reduceIte, ← List.map_take, ← List.map_drop, hD, hG, wrap64, wrap8, hg, hb0, enterS, leaveS, shT, unT, resA, num, unbox, Option.some.injEq, exists_eq_left', tmv]
  ((try and_intros); all_goals (try first | omega | decide | (simp; done) | (simp only [List.length_append, List.length_cons, List.length_nil, List.length_map]; omega)))
  refine condK_split (fun h => ?_) (fun h => ?_)
  · simp (disch := ((try simp only [List.length_drop, List.length_take, List.length_append, List.length_cons, List.length_nil, List.length_map]); omega)) only [go_sem, Nat.reduceLeDiff, reduceCtorEq, Nat.reduceAdd, Nat.reduceSub, Nat.reduceMul, Nat.reduceLT, Nat.reduceEqDiff, Int.reduceEq, Int.reduceLE, Int.reduceLT, Int.reducePow, Int.reduceMul, Int.reduceToNat, Int.reduceNeg, ↓reduceIte, ← List.map_take, ← List.map_drop, hD, hG, wrap64, wrap8, hg, hb0, enterS, leaveS, shT, unT, resA, num, unbox, Option.some.injEq, exists_eq_left', tmv]
    have ht : takeR n l bad = (List.replicate n 0, l, true) := by
      unfold takeR
      cases bad <;> simp at h ⊢
      omega
    rw [ht, unT_shT]
    exact ⟨⟨by omega, by omega⟩, Eqv.refl _⟩
  · have hb : bad = false := by
      cases bad
      · rfl
      · simp at h
    subst hb
    have hn : n ≤ l.length := by simp at h; omega
    simp (disch := ((try simp only [List.length_drop, List.length_take, List.length_append, List.length_cons, List.length_nil, List.length_map]); omega)) only [go_sem, Nat.reduceLeDiff, reduceCtorEq, Nat.reduceAdd, Nat.reduceSub, Nat.reduceMul, Nat.reduceLT, Nat.reduceEqDiff, Int.reduceEq, Int.reduceLE, Int.reduceLT, Int.reducePow, Int.reduceMul, Int.reduceToNat, Int.reduceNeg, ↓reduceIte, ← List.map_take, ← List.map_drop, hD, hG, wrap64, wrap8, hg, hb0, enterS, leaveS, shT, unT, resA, num, unbox, Option.some.injEq, exists_eq_left', tmv]
    have ht : takeR n l false = (l.take n, l.drop n, false) := by
      unfold takeR
      rw [if_neg (by simp; omega)]
    refine ⟨⟨by omega, by omega⟩, ⟨by omega, by omega, by omega⟩, ?_⟩
    rw [ht, unT_shT, List.take_length]
    exact Eqv.refl _
set_option maxRecDepth 100000 in
theorem mok_reader {G : Ctr} (hg : ∀ l : List UInt8, l.length ≤ 8388608 → G 101 [.sl 1 (l.map byteRow)] = some ⟨.sl 1 (l.map byteRow), []⟩) (hg2 : ∀ a, G 167 a = none) : MOk Tryz.prog D G readerM := by
  intro X hP hD hG hM hmx hT hok ops o σ e hgd he hpre hfr
  obtain ⟨dst, f, args, types, ty, pos, af, g, caps, rfl, hf, he'⟩ := mEff_call he hgd
  unfold readerM at he'
  split at he'
  case isFalse =>
    have hin := mok_take hg { X with M := takeM } hP hD hG rfl hmx hT hok ops ⟨dst, .call ⟨.value f, args, types⟩, ty, pos, af, none⟩ σ e rfl ?_ hpre hfr
    exact ⟨fun γ a w i Qx hi hs => hin.1 γ a w i Qx hi hs⟩
    simp only [mEff, callM, hf]
    exact he'
  rename_i hg81
  subst hg81
  unfold textM at he'
  split at he'
  case h_2 => cases he'
  rename_i v hargs
  split at he'
  case h_2 => cases he'
  rename_i rs bad hbl
  have hbl := snap_some hbl
  injection he' with he'
  subst he'
  obtain ⟨hB, hrl⟩ := hpre
  unfold isB at hB
  rw [hB] at hbl
  generalize hl : bytesOf rs = l at *
  have hll : l.length ≤ 8388608 := by rw [← hl]; simpa [bytesOf] using hrl
  simp only [bytesOf_map] at hfr ⊢
  have hX : ({ X with nb := 70000, M := takeM } : Cx).Ok := MOk.ok (mok_take hg) hP hD hG rfl hmx hT hok
  have hdst : ∀ k, dst = some k → k < σ.nt := fun k hk => by
    subst hk
    simpa [fresh, keys, unbound] using hfr
  refine inl_call (rs := [(2, none)]) (by rw [hP, hD]; exact hT) hf (by rw [hP]; exact Tryz.func168) rfl (by decide) Tryz.results168 (by decide) Tryz.ntmps168 (by rw [hargs]; simp) hdst 70000 takeM ?_
  rw [hargs]
  refine evC_sound hX (fun _ => {}) _ _ _ ?_
  have hb0 : get v σ.bl = some (some (.cells [.sl 1 (l.map byteRow), .bool bad])) := blk_iff.1 hbl
  have t1 := takeR_len 1 l bad
  have t2 := takeR_le 1 l bad
  simp (disch := ((try simp only [List.length_drop, List.length_take, List.length_append, List.length_cons, List.length_nil, List.length_map]); omega)) only [go_sem, Nat.reduceLeDiff, reduceCtorEq, Nat.reduceAdd, Nat.reduceSub, Nat.reduceMul, Nat.reduceLT, Nat.reduceEqDiff, Int.reduceEq, Int.reduceLE, Int.reduceLT, Int.reducePow, Int.reduceMul, Int.reduceToNat, Int.reduceNeg, ↓reduceIte, ← List.map_take, ← List.map_drop, hD, hG, wrap64, wrap8, hg2, takeM, asked_none, hb0, byteGet, wrap_byte, enterS, leaveS, shT, unT, resA, num, unbox, Option.some.injEq, exists_eq_left', tmv]
  rw [unT_shT]
  refine ⟨by omega, by omega, ⟨⟨by omega, ?_⟩, by omega⟩, rfl, fun t => rfl, fun m => ?_⟩
  · have := ((takeR 1 l bad).1.getD 0 0).toNat_lt
    omega
  · simp only [blk, get]
    split <;> rfl
end Go.Proofs.YtmlejhpeoiicpaaGreatDoor.Ab
namespace Go.Proofs.YtmlejhpeoiicpaaGreatDoor.Ab
open Go Go.RowKit
set_option linter.unusedVariables false
set_option linter.unusedSimpArgs false

def numN (l : List UInt8) : Nat := 16777216 * (l.getD 0 0).toNat + 65536 * (l.getD 1 0).toNat + 256 * (l.getD 2 0).toNat + (l.getD 3 0).toNat
def getS (l : List UInt8) : Int := IntKind.wrap .i32 (numN l : Int)
theorem getS_in (l : List UInt8) : -2147483648 ≤ getS l ∧ getS l ≤ 2147483647 := by
  unfold getS
  rw [IntKind.wrap_i32]
  omega
theorem orN (i a b : Nat) (hb : b < 2 ^ i) (ha : 2 ^ i * a + b < 4294967296) : orI .u32 ((2 ^ i * a : Nat) : Int) (b : Int) = ((2 ^ i * a + b : Nat) : Int) := by
  unfold orI
  have e : ∀ n : Nat, BitVec.ofInt 32 (n : Int) = BitVec.ofNat 32 n := fun n => by
    apply BitVec.eq_of_toNat_eq
    simp [BitVec.toNat_ofInt]
  show IntKind.wrap .u32 ((BitVec.ofInt 32 _ ||| BitVec.ofInt 32 _).toNat : Int) = _
  rw [e, e, BitVec.toNat_or, BitVec.toNat_ofNat, BitVec.toNat_ofNat, Nat.mod_eq_of_lt (by omega), Nat.mod_eq_of_lt (by omega), ← Nat.two_pow_add_eq_or_of_lt hb, IntKind.wrap_u32]
  omega
theorem shlN (a k : Nat) (h : a < 256) (hk : k ≤ 24) : shlI .u32 (a : Int) (k : Int) = ((2 ^ k * a : Nat) : Int) := by
  unfold shlI
  have h1 : min ((k : Int)).toNat IntKind.u32.bits = k := by
    show min k 32 = k
    omega
  rw [h1, IntKind.wrap_u32]
  have h2 : 2 ^ k ≤ 2 ^ 24 := Nat.pow_le_pow_right (by decide) hk
  have h3 : 2 ^ k * a ≤ 2 ^ 24 * 255 := Nat.mul_le_mul h2 (by omega)
  have h4 : (a : Int) * 2 ^ k = ((2 ^ k * a : Nat) : Int) := by push_cast; rw [Int.mul_comm]
  rw [h4]
  omega
theorem orGet (l : List UInt8) : orI .u32 (orI .u32 (orI .u32 (shlI .u32 ((l.getD 0 0).toNat : Int) 24) (shlI .u32 ((l.getD 1 0).toNat : Int) 16)) (shlI .u32 ((l.getD 2 0).toNat : Int) 8)) ((l.getD 3 0).toNat : Int) = (numN l : Int) := by
  have h0 := (l.getD 0 0).toNat_lt
  have h1 := (l.getD 1 0).toNat_lt
  have h2 := (l.getD 2 0).toNat_lt
  have h3 := (l.getD 3 0).toNat_lt
  unfold numN
  generalize (l.getD 0 0).toNat = a at *
  generalize (l.getD 1 0).toNat = b at *
  generalize (l.getD 2 0).toNat = c at *
  generalize (l.getD 3 0).toNat = d at *
  have s1 := shlN a 24 h0 (by omega)
  have s2 := shlN b 16 h1 (by omega)
  have s3 := shlN c 8 h2 (by omega)
  have o1 := orN 24 a (2 ^ 16 * b) (by omega) (by omega)
  have e1 : 2 ^ 24 * a + 2 ^ 16 * b = 2 ^ 16 * (256 * a + b) := by omega
  have o2 := orN 16 (256 * a + b) (2 ^ 8 * c) (by omega) (by omega)
  have e2 : 2 ^ 16 * (256 * a + b) + 2 ^ 8 * c = 2 ^ 8 * (65536 * a + 256 * b + c) := by omega
  have o3 := orN 8 (65536 * a + 256 * b + c) d (by omega) (by omega)
  have s1' : shlI .u32 (a : Int) 24 = ((2 ^ 24 * a : Nat) : Int) := s1
  have s2' : shlI .u32 (b : Int) 16 = ((2 ^ 16 * b : Nat) : Int) := s2
  have s3' : shlI .u32 (c : Int) 8 = ((2 ^ 8 * c : Nat) : Int) := s3
  rw [s1', s2', s3', o1, e1, o2, e2, o3]

/-- a text behind its length, and what is behind it -/
def textP : List UInt8 → Option (List UInt8 × List UInt8)
  | [] => none
  | c :: r => if r.length < c.toNat then none else some (r.take c.toNat, r.drop c.toNat)
def propP (l : List UInt8) : Option (LProp × List UInt8) :=
  match textP l with
  | none => none
  | some (k, r) => match r with
    | [] => none
    | kd :: r => if kd.toNat = 2 then (match textP r with
        | none => none
        | some (t, r) => some (⟨⟨⟨k⟩⟩, 2, 0, ⟨⟨t⟩⟩⟩, r))
      else if r.length < 4 then none else some (⟨⟨⟨k⟩⟩, kd.toNat, getS (r.take 4), ⟨#[]⟩⟩, r.drop 4)
def propsP : Nat → List UInt8 → Option (List LProp × List UInt8)
  | 0, l => some ([], l)
  | k + 1, l => match propP l with
    | none => none
    | some (p, r) => (propsP k r).map fun x => (p :: x.1, x.2)
/-- the note that bytes begin with, how many they are, an errno's number -/
def parseS (l : List UInt8) : LNote × Nat × Int :=
  match l with
  | [] => (note0, 0, 9)
  | c :: r => if 4 < c.toNat then (note0, 0, 5) else match propsP c.toNat r with
    | none => (note0, 0, 9)
    | some (ps, r) => match textP r with
      | none => (note0, 0, 9)
      | some (b, r) => if wrongS ⟨ps, b⟩ = 0 then (⟨ps, b⟩, l.length - r.length, 0) else (note0, 0, wrongS ⟨ps, b⟩)

theorem takeR_bad (n : Nat) (l : List UInt8) : (takeR n l true).2.2 = true := by simp [takeR]
theorem textR_bad (l : List UInt8) : (textR l true).2.2 = true := by
  unfold textR
  rw [takeR_bad]
  exact takeR_bad _ _
theorem takeR_short {n : Nat} {l : List UInt8} (h : l.length < n) : (takeR n l false).2.2 = true := by simp [takeR, h]
theorem takeR_ok {n : Nat} {l : List UInt8} (h : ¬ l.length < n) : takeR n l false = (l.take n, l.drop n, false) := by simp [takeR, h]
theorem textR_none {l : List UInt8} (h : textP l = none) : (textR l false).2.2 = true := by
  unfold textR
  cases l with
  | nil =>
    rw [takeR_short (n := 1) (l := []) (by simp)]
    exact takeR_bad _ _
  | cons c r =>
    rw [textP] at h
    split at h
    · rename_i hc
      rw [takeR_ok (n := 1) (by simp)]
      exact takeR_short (by simpa using hc)
    · cases h
theorem textR_some {l t r : List UInt8} (h : textP l = some (t, r)) : textR l false = (t, r, false) := by
  unfold textR
  cases l with
  | nil => cases h
  | cons c q =>
    rw [textP] at h
    split at h
    · cases h
    · rename_i hc
      cases h
      rw [takeR_ok (n := 1) (by simp)]
      simp only [List.take_succ_cons, List.take_zero, List.drop_succ_cons, List.drop_zero, List.getD_cons_zero]
      exact takeR_ok hc
def propO (l : List UInt8) (bad : Bool) : Option (LProp × List UInt8) := if bad = true then none else propP l
def propsO (k : Nat) (l : List UInt8) (bad : Bool) : Option (List LProp × List UInt8) := if bad = true then none else propsP k l
theorem propO_text (l : List UInt8) (bad : Bool) (hk : (((takeR 1 (textR l bad).2.1 (textR l bad).2.2).1.getD 0 0).toNat = 2)) :
    propO l bad = if (textR (takeR 1 (textR l bad).2.1 (textR l bad).2.2).2.1 (takeR 1 (textR l bad).2.1 (textR l bad).2.2).2.2).2.2 = true then none else
      some (⟨⟨⟨(textR l bad).1⟩⟩, 2, 0, ⟨⟨(textR (takeR 1 (textR l bad).2.1 (textR l bad).2.2).2.1 (takeR 1 (textR l bad).2.1 (textR l bad).2.2).2.2).1⟩⟩⟩, (textR (takeR 1 (textR l bad).2.1 (textR l bad).2.2).2.1 (takeR 1 (textR l bad).2.1 (textR l bad).2.2).2.2).2.1) := by
  cases bad with
  | true => simp [propO, textR_bad, takeR_bad]
  | false =>
    simp only [propO, Bool.false_eq_true, if_false, propP]
    cases ht : textP l with
    | none =>
      have hb := textR_none ht
      rw [hb, takeR_bad, textR_bad]
      simp
    | some x =>
      obtain ⟨t, r⟩ := x
      rw [textR_some ht] at hk ⊢
      simp only at hk ⊢
      cases r with
      | nil =>
        rw [takeR_short (n := 1) (l := []) (by simp), textR_bad]
        simp
      | cons kd r =>
        rw [takeR_ok (n := 1) (by simp)] at hk ⊢
        simp only [List.take_succ_cons, List.take_zero, List.drop_succ_cons, List.drop_zero, List.getD_cons_zero] at hk ⊢
        rw [if_pos hk]
        cases ht2 : textP r with
        | none => rw [if_pos (textR_none ht2)]
        | some y =>
          obtain ⟨u, q⟩ := y
          rw [textR_some ht2]
          simp
theorem propO_num (l : List UInt8) (bad : Bool) (hk : ¬ (((takeR 1 (textR l bad).2.1 (textR l bad).2.2).1.getD 0 0).toNat = 2)) :
    propO l bad = if (takeR 4 (takeR 1 (textR l bad).2.1 (textR l bad).2.2).2.1 (takeR 1 (textR l bad).2.1 (textR l bad).2.2).2.2).2.2 = true then none else
      some (⟨⟨⟨(textR l bad).1⟩⟩, ((takeR 1 (textR l bad).2.1 (textR l bad).2.2).1.getD 0 0).toNat, getS (takeR 4 (takeR 1 (textR l bad).2.1 (textR l bad).2.2).2.1 (takeR 1 (textR l bad).2.1 (textR l bad).2.2).2.2).1, ⟨#[]⟩⟩, (takeR 4 (takeR 1 (textR l bad).2.1 (textR l bad).2.2).2.1 (takeR 1 (textR l bad).2.1 (textR l bad).2.2).2.2).2.1) := by
  cases bad with
  | true => simp [propO, textR_bad, takeR_bad]
  | false =>
    simp only [propO, Bool.false_eq_true, if_false, propP]
    cases ht : textP l with
    | none =>
      have hb := textR_none ht
      rw [hb, takeR_bad, takeR_bad]
      simp
    | some x =>
      obtain ⟨t, r⟩ := x
      rw [textR_some ht] at hk ⊢
      simp only at hk ⊢
      cases r with
      | nil =>
        rw [takeR_short (n := 1) (l := []) (by simp), takeR_bad]
        simp
      | cons kd r =>
        rw [takeR_ok (n := 1) (by simp)] at hk ⊢
        simp only [List.take_succ_cons, List.take_zero, List.drop_succ_cons, List.drop_zero, List.getD_cons_zero] at hk ⊢
        rw [if_neg hk]
        by_cases h4 : r.length < 4
        · rw [if_pos h4, if_pos (takeR_short h4)]
        · rw [if_neg h4, takeR_ok h4]
          simp
theorem propsO_succ (k : Nat) (l : List UInt8) (bad : Bool) : propsO (k + 1) l bad = match propO l bad with
    | none => none
    | some (p, r) => (propsP k r).map fun x => (p :: x.1, x.2) := by
  unfold propsO propO
  cases bad
  · rfl
  · rfl
theorem propsO_step {k : Nat} {l l' : List UInt8} {bad bad' : Bool} {p : LProp} (h : propO l bad = if bad' = true then none else some (p, l')) : propsO (k + 1) l bad = (propsO k l' bad').map fun x => (p :: x.1, x.2) := by
  rw [propsO_succ, h]
  unfold propsO
  cases bad' <;> rfl
theorem textP_len {l t r : List UInt8} (h : textP l = some (t, r)) : t.length ≤ 255 ∧ r.length < l.length ∧ l = byteI t.length :: (t ++ r) := by
  cases l with
  | nil => cases h
  | cons c q =>
    rw [textP] at h
    split at h
    · cases h
    · rename_i hc
      cases h
      have := c.toNat_lt
      have hl : (q.take c.toNat).length = c.toNat := by rw [List.length_take]; omega
      refine ⟨by rw [hl]; omega, by simp; omega, ?_⟩
      rw [hl, byteI_of, List.take_append_drop]
theorem propP_fits {l r : List UInt8} {p : LProp} (h : propP l = some (p, r)) : p.key.size ≤ 255 ∧ p.text.size ≤ 255 ∧ r.length < l.length := by
  unfold propP at h
  split at h
  · cases h
  · rename_i k q hk
    have h1 := textP_len hk
    split at h
    · cases h
    · rename_i kd q
      split at h
      · split at h
        · cases h
        · rename_i t q2 ht
          have h2 := textP_len ht
          cases h
          refine ⟨h1.1, h2.1, ?_⟩
          have := h1.2.1
          simp only [List.length_cons] at this
          omega
      · split at h
        · cases h
        · cases h
          refine ⟨h1.1, Nat.zero_le _, ?_⟩
          have := h1.2.1
          simp only [List.length_cons, List.length_drop] at this ⊢
          omega
theorem propsP_fits : ∀ {k : Nat} {l r : List UInt8} {ps : List LProp}, propsP k l = some (ps, r) → (∀ p ∈ ps, p.key.size ≤ 255 ∧ p.text.size ≤ 255) ∧ ps.length = k ∧ r.length ≤ l.length
  | 0, l, r, ps, h => by
    cases h
    simp
  | k + 1, l, r, ps, h => by
    rw [propsP] at h
    split at h
    · cases h
    · rename_i p q hp
      have h1 := propP_fits hp
      obtain ⟨⟨ps', r'⟩, hx, he⟩ := Option.map_eq_some_iff.1 h
      cases he
      have h2 := propsP_fits hx
      refine ⟨fun x hx => ?_, by simp [h2.2.1], by simp only; omega⟩
      rcases List.mem_cons.1 hx with rfl | hx
      · exact ⟨h1.1, h1.2.1⟩
      · exact h2.1 x hx
/-- the same, off a reader -/
def parseO (len : Nat) (o : Option (List LProp × List UInt8)) : LNote × Nat × Int :=
  match o with
  | none => (note0, 0, 9)
  | some (ps, r) => match textP r with
    | none => (note0, 0, 9)
    | some (b, r) => if wrongS ⟨ps, b⟩ = 0 then (⟨ps, b⟩, len - r.length, 0) else (note0, 0, wrongS ⟨ps, b⟩)
theorem parseS_eq (l : List UInt8) : parseS l = if 4 < ((takeR 1 l false).1.getD 0 0).toNat then (note0, 0, 5) else parseO l.length (propsO ((takeR 1 l false).1.getD 0 0).toNat (takeR 1 l false).2.1 (takeR 1 l false).2.2) := by
  cases l with
  | nil => rfl
  | cons c r =>
    rw [takeR_ok (n := 1) (by simp)]
    simp only [List.take_succ_cons, List.take_zero, List.drop_succ_cons, List.drop_zero, List.getD_cons_zero, propsO, Bool.false_eq_true, if_false, parseS, parseO]
theorem parseO_end (len : Nat) (ps : List LProp) (l : List UInt8) (bad : Bool) : parseO len ((propsO 0 l bad).map fun x => (ps ++ x.1, x.2)) =
    if (textR l bad).2.2 = true then (note0, 0, 9) else if wrongS ⟨ps, (textR l bad).1⟩ = 0 then (⟨ps, (textR l bad).1⟩, len - (textR l bad).2.1.length, 0) else (note0, 0, wrongS ⟨ps, (textR l bad).1⟩) := by
  cases bad with
  | true => rw [textR_bad, if_pos rfl]; rfl
  | false =>
    simp only [propsO, Bool.false_eq_true, if_false, propsP, Option.map_some, parseO, List.append_nil]
    cases ht : textP l with
    | none => rw [textR_none ht]; rfl
    | some x =>
      obtain ⟨t, r⟩ := x
      rw [textR_some ht]
      simp
end Go.Proofs.YtmlejhpeoiicpaaGreatDoor.Ab
namespace Go.Proofs.YtmlejhpeoiicpaaGreatDoor.Ab
open Go Go.RowKit
set_option linter.unusedVariables false
set_option linter.unusedSimpArgs false

theorem wrap32_byte (b : UInt8) : IntKind.wrap .u32 (b.toNat : Int) = b.toNat := IntWalk.u32_in _ (by have := b.toNat_lt; omega)
def parseLo : Nat → Lo := fun id => match id with
  | 8 => {uo := [1, 4, 10], un := [13, 8]}
  | 12 => {uo := [25], un := [8]}
  | 21 => {uo := [9], un := [2]}
  | _ => {}
def parseT : List (Ent Tryz.prog D) := [eCopy, eWrong]
set_option maxRecDepth 100000 in
theorem con_parse (l : List UInt8) (hl : l.length ≤ 4194304) : Con Tryz.prog D 152 [.sl 1 (l.map byteRow)] ⟨.tup [noteA (parseS l).1, .int .i64 (parseS l).2.1, .int .i64 (parseS l).2.2], []⟩ := by
  have g1 : ∀ m : List UInt8, m.length ≤ 8388608 → tabG parseT 101 [.sl 1 (m.map byteRow)] = some ⟨.sl 1 (m.map byteRow), []⟩ := fun m hm => tabG_at (E := eCopy) (T := parseT) (i := 0) rfl (by decide) m hm rfl rfl
  have g2 : ∀ n : LNote, n.Fits → tabG parseT 104 [noteA n] = some ⟨.int .i64 (wrongS n), []⟩ := fun n hn => tabG_at (E := eWrong) (T := parseT) (i := 1) rfl (by decide) n hn rfl rfl
  have g3 : ∀ a, tabG parseT 167 a = none := fun a => rfl
  have g4 : ∀ a, tabG parseT 168 a = none := fun a => rfl
  have hok : GOk Tryz.prog D (tabG parseT) := tabG_ok _
  generalize tabG parseT = G at *
  refine con_ofM (mok_reader g1 g3) (G := G) (rs := [(2, some 25), (3, none), (4, none)]) mixed tok hok Tryz.func152 rfl (by decide) Tryz.results152 (by decide) rfl Tryz.ntmps152 (by simp) (by simp [namess, names]) fun X hP hD hG' hX => evC_sound hX parseLo _ _ _ ?_
  simp only [argS, num]
  have t1 := takeR_len 1 l false
  have t2 := takeR_le 1 l false
  have hc := ((takeR 1 l false).1.getD 0 0).toNat_lt
  simp (disch := omega) only [go_sem, hD, hG', wrap64, wrap8, g3, g4, readerM, textM, takeM, asked_none, byteGet, wrap_byte, parseLo]
  ((try and_intros); all_goals (try first | omega | decide | (simp; done) | (simp only [List.length_append, List.length_cons, List.length_nil, List.length_map]; omega)))
  have hps := parseS_eq l
  have hlen : (takeR 1 l false).2.1.length ≤ l.length := t2
  generalize hq : takeR 1 l false = q at *
  obtain ⟨q1, l1, b1⟩ := q
  simp only at *
  generalize hcc : (q1.getD 0 0).toNat = c at *
  refine condK_split (fun h => ?_) (fun h => ?_)
  · have h4 : 4 < c := by simp at h; omega
    rw [if_pos h4] at hps
    rw [hps]
    simp (disch := omega) only [go_sem, hD, hG', wrap64, wrap8, g3, g4, readerM, textM, takeM, asked_none, byteGet, wrap_byte, parseLo, unbox]
    refine ⟨[], [], rfl, rfl, ?_, ?_⟩ <;> simp only [go_sem, noteA, note0]
    simp
  · have h4 : ¬ 4 < c := by simp at h; omega
    rw [if_neg h4] at hps
    rw [hps]
    simp (disch := omega) only [go_sem, hD, hG', wrap64, wrap8, g3, g4, readerM, textM, takeM, asked_none, byteGet, wrap_byte, parseLo]
    refine Tr.loop (ι := Nat × List LProp × List UInt8 × Bool) (fun i => (i.1 ≤ c ∧ i.2.1.length = i.1) ∧ i.2.2.1.length ≤ l.length ∧ (∀ p ∈ i.2.1, p.key.size ≤ 255 ∧ p.text.size ≤ 255) ∧ propsO c l1 b1 = (propsO (c - i.1) i.2.2.1 i.2.2.2).map fun x => (i.2.1 ++ x.1, x.2))
      (fun i => { nt := 98, tm := [(0, .sl 1 (l.map byteRow)), (2, .ptr 2 0), (5, .ptr 13 0), (6, .ptr 6 0), (22, .int .i64 c), (23, .int .i64 i.1)], bl := [(2, some (.cells [.nils, .nils])), (13, some (.cells [.sl 1 (i.2.2.1.map byteRow), .bool i.2.2.2])), (6, some (.cells [.os 5000, .nils])), (5000, some (.rows 36 4 (i.2.1.map propRow)))] }) (fun i => c - i.1) (0, [], l1, b1)
      ⟨⟨⟨Nat.zero_le _, rfl⟩, hlen, by simp, by cases (propsO c l1 b1) <;> rfl⟩, wk_of hD [(2, 2), (13, 13), (6, 6)] rfl rfl (by simp only [go_sem]; try simp) (by simp only [go_sem, D_3, D_4, D_5, D_9, D_21, D_22, D_23, D_25, D_28, D_36, D_156, D_187, D_189]; try simp)⟩ ?_
    rintro ⟨i, done, l2, b2⟩ ⟨⟨hi, hdl⟩, hl2, hfit, hrec⟩
    simp only at hi hdl hl2 hfit hrec
    refine evC_sound hX parseLo _ _ _ ?_
    have u1 := textR_len l2 b2
    have u2 := textR_le l2 b2
    have hpt := propO_text l2 b2
    have hpn := propO_num l2 b2
    rcases ht : textR l2 b2 with ⟨tx, l3, b3⟩
    rw [ht] at u1 u2 hpt hpn
    simp only at u1 u2 hpt hpn
    have u3 := takeR_len 1 l3 b3
    have u4 := takeR_le 1 l3 b3
    rcases hk : takeR 1 l3 b3 with ⟨kx, l4, b4⟩
    rw [hk] at u3 u4 hpt hpn
    simp only at u3 u4 hpt hpn
    have hkl : (kx.getD 0 0).toNat < 256 := (kx.getD 0 0).toNat_lt
    generalize hkd : (kx.getD 0 0).toNat = kd at hpt hpn hkl
    simp (disch := omega) only [go_sem, hD, hG', wrap64, wrap8, g3, g4, readerM, textM, takeM, asked_none, byteGet, wrap_byte, parseLo, ht, hk, hkd]
    refine condK_split (fun h => ?_) (fun h => ?_)
    · rw [decide_eq_true_eq] at h
      have hsucc : c - i = c - (i + 1) + 1 := by omega
      simp (disch := omega) only [go_sem, hD, hG', wrap64, wrap8, g3, g4, readerM, textM, takeM, asked_none, byteGet, wrap_byte, parseLo, ht, hk, hkd]
      ((try and_intros); all_goals (try first | omega | decide | (simp; done) | (simp only [List.length_append, List.length_cons, List.length_nil, List.length_map]; omega)))
      refine condK_split (fun h2 => ?_) (fun h2 => ?_)
      · have h2' : kd = 2 := by
          rw [beq_iff_eq] at h2
          omega
        have hp := hpt h2'
        have v1 := textR_len l4 b4
        have v2 := textR_le l4 b4
        rcases htt : textR l4 b4 with ⟨tt, l5, b5⟩
        rw [htt] at v1 v2 hp
        simp only at v1 v2 hp
        simp (disch := omega) only [go_sem, hD, hG', wrap64, wrap8, g3, g4, readerM, textM, takeM, asked_none, byteGet, wrap_byte, parseLo, htt, hkd]
        ((try and_intros); all_goals (try first | omega | decide | (simp; done) | (simp only [List.length_append, List.length_cons, List.length_nil, List.length_map]; omega)))
        refine ⟨(i + 1, done ++ [⟨⟨⟨tx⟩⟩, 2, 0, ⟨⟨tt⟩⟩⟩], l5, b5), ⟨⟨⟨by simp only; omega, by simp; omega⟩, by simp only; omega, ?_, ?_⟩, by simp only; omega⟩, wk_of hD [(2, 2), (13, 13), (6, 6), (5000, 72)] rfl rfl ?_ ?_⟩
        · intro p hp
          rcases List.mem_append.1 hp with hp | hp
          · exact hfit p hp
          · rw [List.mem_singleton] at hp
            subst hp
            exact ⟨u1, v1⟩
        · rw [hrec, hsucc, propsO_step hp, Option.map_map]
          congr 1
          funext x
          simp
        · simp only [go_sem]
          simp
        · simp only [go_sem, D_3, D_4, D_5, D_9, D_21, D_22, D_23, D_25, D_28, D_36, D_156, D_187, D_189]
          simp [propRow, h2']
      · have h2' : ¬ kd = 2 := by
          rw [beq_eq_false_iff_ne] at h2
          omega
        have hp := hpn h2'
        have v1 := takeR_len 4 l4 b4
        have v2 := takeR_le 4 l4 b4
        rcases htt : takeR 4 l4 b4 with ⟨tt, l5, b5⟩
        rw [htt] at v1 v2 hp
        simp only at v1 v2 hp
        have hgs : IntKind.wrap .i64 (IntKind.wrap .i32 (numN tt : Int)) = getS tt := wrap64 (by have := getS_in tt; unfold getS at this; omega) (by have := getS_in tt; unfold getS at this; omega)
        have hog := orGet tt
        simp (disch := omega) only [go_sem, hD, hG', wrap64, wrap8, g3, g4, readerM, textM, takeM, asked_none, byteGet, wrap_byte, parseLo, htt, hkd, wrap32_byte, hog, hgs]
        ((try and_intros); all_goals (try first | omega | decide | (simp; done) | (simp only [List.length_append, List.length_cons, List.length_nil, List.length_map]; omega)))
        refine ⟨(i + 1, done ++ [⟨⟨⟨tx⟩⟩, kd, getS tt, ⟨#[]⟩⟩], l5, b5), ⟨⟨⟨by simp only; omega, by simp; omega⟩, by simp only; omega, ?_, ?_⟩, by simp only; omega⟩, wk_of hD [(2, 2), (13, 13), (6, 6), (5000, 72)] rfl rfl ?_ ?_⟩
        · intro p hp
          rcases List.mem_append.1 hp with hp | hp
          · exact hfit p hp
          · rw [List.mem_singleton] at hp
            subst hp
            exact ⟨u1, Nat.zero_le _⟩
        · rw [hrec, hsucc, propsO_step hp, Option.map_map]
          congr 1
          funext x
          simp
        · simp only [go_sem]
          simp
        · simp only [go_sem, D_3, D_4, D_5, D_9, D_21, D_22, D_23, D_25, D_28, D_36, D_156, D_187, D_189]
          simp [propRow]
    · rw [decide_eq_false_iff_not] at h
      have hic : i = c := by omega
      subst hic
      rw [Nat.sub_self] at hrec
      have hend := parseO_end l.length done l2 b2
      rw [← hrec, ht] at hend
      simp only at hend
      rw [hend]
      simp (disch := omega) only [go_sem, hD, hG', wrap64, wrap8, g3, g4, readerM, textM, takeM, asked_none, byteGet, wrap_byte, parseLo, ht]
      ((try and_intros); all_goals (try first | omega | decide | (simp; done) | (simp only [List.length_append, List.length_cons, List.length_nil, List.length_map]; omega)))
      refine condK_split (fun h2 => ?_) (fun h2 => ?_)
      · subst h2
        simp (disch := omega) only [go_sem, hD, hG', wrap64, wrap8, g3, g4, readerM, textM, takeM, asked_none, byteGet, wrap_byte, parseLo, ht, unbox]
        refine ⟨[5000], [], rfl, rfl, ?_, ?_⟩ <;> simp only [go_sem, noteA, note0]
        simp
      · subst h2
        have hnf : LNote.Fits ⟨done, tx⟩ := ⟨fun p hp => ⟨by have := (hfit p hp).1; omega, by have := (hfit p hp).2; omega⟩, by simp only; omega, by simp only; omega⟩
        have hw := g2 _ hnf
        simp only [noteA] at hw
        generalize hwr : wrongS ⟨done, tx⟩ = wr at *
        simp (disch := omega) only [go_sem, hD, hG', wrap64, wrap8, g3, g4, readerM, textM, takeM, asked_none, byteGet, wrap_byte, parseLo, ht, hw]
        refine condK_split (fun h3 => ?_) (fun h3 => ?_)
        · have h3' : ¬ wr = 0 := by simpa using h3
          rw [if_neg h3']
          simp (disch := omega) only [go_sem, hD, hG', wrap64, wrap8, g3, g4, readerM, textM, takeM, asked_none, byteGet, wrap_byte, parseLo, ht, hw, unbox]
          refine ⟨[5000], [], rfl, rfl, ?_, ?_⟩ <;> simp only [go_sem, noteA, note0]
          simp
        · have h3' : wr = 0 := by simpa using h3
          rw [if_pos h3']
          simp (disch := omega) only [go_sem, hD, hG', wrap64, wrap8, g3, g4, readerM, textM, takeM, asked_none, byteGet, wrap_byte, parseLo, ht, hw, unbox]
          refine ⟨by decide, [5000], [], rfl, rfl, ?_, ?_⟩ <;> simp only [go_sem, noteA]
          omega
end Go.Proofs.YtmlejhpeoiicpaaGreatDoor.Ab
namespace Go.Proofs.YtmlejhpeoiicpaaGreatDoor.Ab
open Go Go.RowKit
set_option linter.unusedVariables false
set_option linter.unusedSimpArgs false

end Go.Proofs.YtmlejhpeoiicpaaGreatDoor.Ab
namespace Go.Proofs.YtmlejhpeoiicpaaGreatDoor.Ab
open Go Go.RowKit
set_option linter.unusedVariables false
set_option linter.unusedSimpArgs false

end Go.Proofs.YtmlejhpeoiicpaaGreatDoor.Ab
namespace Go.Proofs.YtmlejhpeoiicpaaGreatDoor.Ab
open Go Go.RowKit
set_option linter.unusedVariables false
set_option linter.unusedSimpArgs false

theorem textP_text {t r : List UInt8} (h : t.length ≤ 255) : textP (textS t ++ r) = some (t, r) := by
  have h1 := byteI_nat (t.length : Int)
  have h2 : (byteI (t.length : Int)).toNat = t.length := by omega
  rw [textS, List.cons_append, textP, h2, if_neg (by simp)]
  simp
theorem getS_num {n : Int} (h1 : -1073741824 ≤ n) (h2 : n ≤ 1073741824) : getS (numS n) = n := by
  have a0 := byteI_nat (n / 16777216)
  have a1 := byteI_nat (n / 65536)
  have a2 := byteI_nat (n / 256)
  have a3 := byteI_nat n
  have e : (numN (numS n) : Int) = 16777216 * (n / 16777216 % 256) + 65536 * (n / 65536 % 256) + 256 * (n / 256 % 256) + n % 256 := by
    rw [← a0, ← a1, ← a2, ← a3]
    generalize hx0 : byteI (n / 16777216) = x0
    generalize hx1 : byteI (n / 65536) = x1
    generalize hx2 : byteI (n / 256) = x2
    generalize hx3 : byteI n = x3
    have e : numS n = [x0, x1, x2, x3] := by rw [numS, hx0, hx1, hx2, hx3]
    rw [e]
    show ((16777216 * x0.toNat + 65536 * x1.toNat + 256 * x2.toNat + x3.toNat : Nat) : Int) = _
    omega
  unfold getS
  rw [e, IntKind.wrap_i32]
  omega
theorem num_getS {l : List UInt8} (h : l.length = 4) : numS (getS l) = l := by
  match l, h with
  | [a, b, c, d], _ =>
    have ha := a.toNat_lt
    have hb := b.toNat_lt
    have hc := c.toNat_lt
    have hd := d.toNat_lt
    have e : getS [a, b, c, d] = (((16777216 * a.toNat + 65536 * b.toNat + 256 * c.toNat + d.toNat : Nat) : Int) + 2147483648) % 4294967296 - 2147483648 := by
      unfold getS
      rw [IntKind.wrap_i32]
      rfl
    have f : ∀ (x : Int) (y : UInt8), x % 256 = y.toNat → byteI x = y := fun x y hxy => by
      have := byteI_nat x
      exact UInt8.toNat_inj.1 (by omega)
    unfold numS
    rw [e]
    have e' : ((16777216 * a.toNat + 65536 * b.toNat + 256 * c.toNat + d.toNat : Nat) : Int) = 16777216 * (a.toNat : Int) + 65536 * (b.toNat : Int) + 256 * (c.toNat : Int) + (d.toNat : Int) := by omega
    rw [e']
    rw [f _ a (by omega), f _ b (by omega), f _ c (by omega), f _ d (by omega)]
theorem propP_prop {p : LProp} {r : List UInt8} (h : propS p = 0) : propP (propB p ++ r) = some (p, r) := by
  obtain ⟨k, kind, n, t⟩ := p
  obtain ⟨h8, hc⟩ := propS_ok h
  simp only at h8 hc
  have hkl : k.data.toList.length ≤ 255 := by rw [size_len]; omega
  rcases hc with ⟨rfl, ht, rfl⟩ | ⟨hk, ht, hn1, hn2⟩
  · have htl : t.data.toList.length ≤ 255 := by rw [size_len]; omega
    have e : propB ⟨k, 2, 0, t⟩ ++ r = textS k.data.toList ++ (byteI 2 :: (textS t.data.toList ++ r)) := by simp [propB]
    rw [e, propP, textP_text hkl]
    simp only
    rw [if_pos (by decide), textP_text htl]
  · have ht0 := text_nil ht
    subst ht0
    have hb := byteI_nat kind
    have hkd : (byteI kind).toNat = kind.toNat := by omega
    have h2 : ¬ kind = 2 := by omega
    have e : propB ⟨k, kind, n, ⟨#[]⟩⟩ ++ r = textS k.data.toList ++ (byteI kind :: (numS n ++ r)) := by simp [propB, h2]
    rw [e, propP, textP_text hkl]
    simp only
    rw [if_neg (by omega), if_neg (by simp [numS])]
    have e1 : (numS n ++ r).take 4 = numS n := rfl
    have e2 : (numS n ++ r).drop 4 = r := rfl
    have e3 : ((byteI kind).toNat : Int) = kind := by omega
    rw [e1, e2, getS_num hn1 hn2, e3]
theorem propsP_props {r : List UInt8} : ∀ {l : List LProp}, (∀ p ∈ l, propS p = 0) → propsP l.length (l.flatMap propB ++ r) = some (l, r)
  | [], _ => rfl
  | p :: l, h => by
    rw [List.length_cons, List.flatMap_cons, List.append_assoc, propsP, propP_prop (h p (by simp))]
    simp only
    rw [propsP_props fun q hq => h q (by simp [hq])]
    rfl
/-- there, and back -/
theorem parse_bytes {n : LNote} (b : List UInt8) (h : wrongS n = 0) : parseS (bytesN n ++ b) = (n, (bytesN n).length, 0) := by
  obtain ⟨h1, h2, h3⟩ := wrongS_ok h
  have hc := byteI_nat (n.props.length : Int)
  have hc' : (byteI (n.props.length : Int)).toNat = n.props.length := by omega
  have e : bytesN n ++ b = byteI n.props.length :: (n.props.flatMap propB ++ (textS n.body ++ b)) := by simp [bytesN]
  have hlen : (bytesN n ++ b).length = (bytesN n).length + b.length := List.length_append
  rw [e] at hlen ⊢
  rw [parseS, hc', if_neg (by omega), propsP_props h2]
  simp only
  rw [textP_text (by omega)]
  simp only
  rw [if_pos h, hlen, Nat.add_sub_cancel]
theorem propP_back {l r : List UInt8} {p : LProp} (h : propP l = some (p, r)) : l = propB p ++ r := by
  unfold propP at h
  split at h
  · cases h
  · rename_i k q hk
    have h1 := (textP_len hk).2.2
    split at h
    · cases h
    · rename_i kd q
      split at h
      · rename_i h2
        split at h
        · cases h
        · rename_i t q2 ht
          have h3 := (textP_len ht).2.2
          cases h
          have hb : byteI 2 = kd := by
            have := byteI_of kd
            rw [h2] at this
            exact this
          rw [h1, h3]
          simp [propB, textS, hb]
      · rename_i h2
        split at h
        · cases h
        · rename_i h4
          cases h
          have hb := byteI_of kd
          have h2' : ¬ (kd.toNat : Int) = 2 := by omega
          rw [h1]
          simp only [propB, h2', if_false, textS, hb, num_getS (show (q.take 4).length = 4 by rw [List.length_take]; omega)]
          simp
theorem propsP_back : ∀ {k : Nat} {l r : List UInt8} {ps : List LProp}, propsP k l = some (ps, r) → l = ps.flatMap propB ++ r
  | 0, l, r, ps, h => by
    cases h
    simp
  | k + 1, l, r, ps, h => by
    rw [propsP] at h
    split at h
    · cases h
    · rename_i p q hp
      have h1 := propP_back hp
      obtain ⟨⟨ps', r'⟩, hx, he⟩ := Option.map_eq_some_iff.1 h
      cases he
      rw [h1, propsP_back hx]
      simp
/-- what bytes are read as -/
theorem parse_cases (l : List UInt8) : ((parseS l).2.2 ≠ 0 ∧ (parseS l).1 = note0 ∧ (parseS l).2.1 = 0) ∨
    ((parseS l).2.2 = 0 ∧ wrongS (parseS l).1 = 0 ∧ 2 ≤ (parseS l).2.1 ∧ (parseS l).2.1 ≤ l.length ∧ bytesN (parseS l).1 = l.take (parseS l).2.1) := by
  cases l with
  | nil => exact .inl ⟨by decide, rfl, rfl⟩
  | cons c r =>
    rw [parseS]
    split
    · exact .inl ⟨by simp, rfl, rfl⟩
    · split
      · exact .inl ⟨by simp, rfl, rfl⟩
      · rename_i ps q hps
        split
        · exact .inl ⟨by simp, rfl, rfl⟩
        · rename_i b q2 hb
          split
          · rename_i hw
            have h1 := propsP_back hps
            have h2 := textP_len hb
            have h3 := propsP_fits hps
            have hl : c :: r = bytesN ⟨ps, b⟩ ++ q2 := by
              rw [h1, h2.2.2]
              simp only [bytesN, textS, h3.2.1, byteI_of, List.cons_append, List.append_assoc]
            have hn : (c :: r).length - q2.length = (bytesN ⟨ps, b⟩).length := by
              rw [hl, List.length_append, Nat.add_sub_cancel]
            refine .inr ⟨rfl, hw, ?_, ?_, ?_⟩
            · simp only [hn]
              simp [bytesN, textS]
              omega
            · simp only
              omega
            · simp only [hn]
              rw [hl]
              simp
          · rename_i hw
            exact .inl ⟨hw, rfl, rfl⟩
theorem fits_parse (l : List UInt8) : (parseS l).1.Fits := by
  rcases parse_cases l with ⟨_, h, _⟩ | ⟨_, h, _⟩
  · rw [h]; exact fits_zero
  · exact fits_right h
theorem propB_len {p : LProp} (h : propS p = 0) : (propB p).length ≤ 23 := by
  obtain ⟨h1, h2⟩ := propS_ok h
  have := size_len p.key
  have := size_len p.text
  simp only [propB, textS, List.length_append, List.length_cons]
  split
  · simp only [List.length_cons]; omega
  · simp only [numS, List.length_cons, List.length_nil]; omega
theorem flat_len : ∀ {l : List LProp}, (∀ p ∈ l, propS p = 0) → (l.flatMap propB).length ≤ 23 * l.length
  | [], _ => by simp
  | p :: l, h => by
    have h1 := propB_len (h p (by simp))
    have h2 := flat_len (l := l) fun q hq => h q (by simp [hq])
    simp only [List.flatMap_cons, List.length_append, List.length_cons]
    omega
theorem bytes_right {n : LNote} (h : wrongS n = 0) : (bytesN n).length ≤ 134 := by
  obtain ⟨h1, h2, h3⟩ := wrongS_ok h
  have h4 := flat_len h2
  simp only [bytesN, textS, List.length_append, List.length_cons]
  omega
end Go.Proofs.YtmlejhpeoiicpaaGreatDoor.Ab
namespace Go.Proofs.YtmlejhpeoiicpaaGreatDoor.Ab
open Go Go.RowKit
set_option linter.unusedVariables false
set_option linter.unusedSimpArgs false

def eBytes : Ent Tryz.prog D := ⟨136, LNote, fun n => [noteA n], fun n => n.Fits ∧ (bytesN n).length ≤ 4194304, fun n => ⟨.os 0, [(5, 1, (bytesN n).map byteRow)]⟩, fun x y _ _ h => by
  simp only [List.cons.injEq, and_true] at h
  rw [noteA_inj h], fun n h => con_bytes n h.1 h.2⟩
def eParse : Ent Tryz.prog D := ⟨152, List UInt8, fun l => [.sl 1 (l.map byteRow)], fun l => l.length ≤ 4194304, fun l => ⟨.tup [noteA (parseS l).1, .int .i64 (parseS l).2.1, .int .i64 (parseS l).2.2], []⟩, fun x y _ _ h => by
  simp only [List.cons.injEq, AV.sl.injEq, true_and, and_true] at h
  rw [bytes_inj h], con_parse⟩

end Go.Proofs.YtmlejhpeoiicpaaGreatDoor.Ab
namespace Go.Proofs.YtmlejhpeoiicpaaGreatDoor.Ab
open Go
set_option linter.unusedVariables false
set_option linter.unusedSimpArgs false

section
variable {D : Nat → TI} {S N0 : Nat → Prop} {B : Nat} {w0 : W0} {ρ : Env} {σ : AS} {a : Act} {w : World}
end
end Go.Proofs.YtmlejhpeoiicpaaGreatDoor.Ab
namespace Go.Proofs.YtmlejhpeoiicpaaGreatDoor.Ab
open Go
set_option linter.unusedVariables false
set_option linter.unusedSimpArgs false

/-! a pointer compared with nil -/
end Go.Proofs.YtmlejhpeoiicpaaGreatDoor.Ab
namespace Go.Proofs.YtmlejhpeoiicpaaGreatDoor.Ab
open Go
set_option linter.unusedVariables false
set_option linter.unusedSimpArgs false

mutual
/-- pointers into the block n, whose cells are cs, become pointers into memory that is only read -/
def ice (n : Nat) (cs : List AV) : AV → AV
  | .os t => if t = n then .junk else .os t
  | .ptr v o => if v = n then .iptr (cs.drop o) else .ptr v o
  | .tsl v o => if v = n then .junk else .tsl v o
  | .psl v o => if v = n then .junk else .psl v o
  | .eptr v i o => if v = n then .junk else .eptr v i o
  | .agg xs => .agg (ices n cs xs)
  | .tup xs => .tup (ices n cs xs)
  | .func f xs => .func f (ices n cs xs)
  | .opt g v => .opt g (ice n cs v)
  | v => v
def ices (n : Nat) (cs : List AV) : List AV → List AV
  | [] => []
  | v :: r => ice n cs v :: ices n cs r
end
theorem ices_eq (n : Nat) (ds : List AV) : ∀ cs : List AV, ices n ds cs = cs.map (ice n ds)
  | [] => by simp [ices]
  | c :: r => by simp [ices, ices_eq n ds r]
mutual
theorem names_ice (n : Nat) (cs : List AV) : ∀ x : AV, (∀ m ∈ names (ice n cs x), m ∈ names x ∧ m ≠ n)
  | .os t => by simp only [ice]; split <;> simp_all [names]
  | .ptr v o => by simp only [ice]; split <;> simp_all [names]
  | .tsl v o => by simp only [ice]; split <;> simp_all [names]
  | .psl v o => by simp only [ice]; split <;> simp_all [names]
  | .eptr v i o => by simp only [ice]; split <;> simp_all [names]
  | .agg xs => by simpa only [ice, names] using namess_ices n cs xs
  | .tup xs => by simpa only [ice, names] using namess_ices n cs xs
  | .func f xs => by simpa only [ice, names] using namess_ices n cs xs
  | .opt g v => by simpa only [ice, names] using names_ice n cs v
  | .junk => by simp [ice, names]
  | .int _ _ => by simp [ice, names]
  | .bool _ => by simp [ice, names]
  | .str _ => by simp [ice, names]
  | .nils => by simp [ice, names]
  | .sl _ _ => by simp [ice, names]
  | .iptr _ => by simp [ice, names]
  | .lsl _ => by simp [ice, names]
  | .imap _ => by simp [ice, names]
  | .nilp => by simp [ice, names]
  | .ifc _ => by simp [ice, names]
theorem namess_ices (n : Nat) (cs : List AV) : ∀ xs : List AV, (∀ m ∈ namess (ices n cs xs), m ∈ namess xs ∧ m ≠ n)
  | [] => by simp [ices, namess]
  | c :: r => by
    simp only [ices, namess, List.mem_append]
    rintro m (hn | hn)
    · exact ⟨.inl (names_ice n cs c m hn).1, (names_ice n cs c m hn).2⟩
    · exact ⟨.inr (namess_ices n cs r m hn).1, (namess_ices n cs r m hn).2⟩
end
theorem Rel.ice {D : Nat → TI} {w : World} {im im' : Nat → Prop} {ρ : Env} {n : Nat} {cs : List AV} (hbl : BRel D w im ρ n (.cells cs)) (hcs : namess cs = []) (him : ∀ b, im b → im' b)
    (hb : ∀ b, (ρ n).b = some b → im' b) {x : AV} {v : Value} (h : Rel w im ρ x v) : Rel w im' ρ (Ab.ice n cs x) v := by
  have self : ∀ {y : AV} {u : Value}, Rel w im ρ y u → Rel w im' ρ y u := fun h => h.mono him (fun _ _ => rfl) fun n hn' => rfl
  induction h with
  | junk v => simp only [Ab.ice]; exact .junk v
  | int k n => simp only [Ab.ice]; exact .int k n
  | bool b => simp only [Ab.ice]; exact .bool b
  | str l => simp only [Ab.ice]; exact .str l
  | nils => simp only [Ab.ice]; exact .nils
  | sl sz rs A c b o val hc hm hA hrow hcell hval ih => simp only [Ab.ice]; exact self (.sl sz rs A c b o val hc hm hA hrow hcell hval)
  | os t => simp only [Ab.ice]; split <;> first | exact .junk _ | exact .os t
  | ptr v off b h =>
    simp only [Ab.ice]
    split
    · rename_i e
      subst e
      obtain ⟨b', arr, T, h1, h2, h3, h5⟩ := hbl
      rw [h] at h1
      cases h1
      have hget : ∀ i, i < arr.size → arr[i]? = some (arr.getD i undef) := fun i hi => by simp [Array.getD_eq_getD_getElem?, hi]
      have hat : ∀ (j : Nat) x, (cs.drop off)[j]? = some x → cs[off + j]? = some x ∧ off + j < arr.size := fun j x hj => by
        rw [List.getElem?_drop] at hj
        exact ⟨hj, by rw [h3]; exact (List.getElem?_eq_some_iff.1 hj).1⟩
      refine .iptr _ b off (fun j => arr.getD (off + j) undef) (hb b h) (fun j x hj => ?_) (fun j x hj => ?_)
      · obtain ⟨q1, q2⟩ := hat j x hj
        refine ⟨?_, (h5 _ x _ q1 (hget _ q2)).1, ?_⟩
        · unfold World.cell?
          rw [h2]
          exact hget _ q2
        · refine List.eq_nil_iff_forall_not_mem.2 fun m hm => ?_
          have := mem_namess q1 hm
          rw [hcs] at this
          cases this
      · obtain ⟨q1, q2⟩ := hat j x hj
        exact self (h5 _ x _ q1 (hget _ q2)).2
    · exact .ptr v off b h
  | iptr cs b o val hb hcell hval ih => simp only [Ab.ice]; exact self (.iptr cs b o val hb hcell hval)
  | eptr t i off b h => simp only [Ab.ice]; split <;> first | exact .junk _ | exact .eptr t i off b h
  | lsl n A c hc hm => simp only [Ab.ice]; exact .lsl n A c hc hm
  | imap es b c arr hb ho he => simp only [Ab.ice]; exact .imap es b c arr (him _ hb) ho he
  | nilp => simp only [Ab.ice]; exact .nilp
  | ifc b v h => simp only [Ab.ice]; exact .ifc b v h
  | tsl t i b A' h hA => simp only [Ab.ice]; split <;> first | exact .junk _ | exact .tsl t i b A' h hA
  | psl t n c b h hc hm => simp only [Ab.ice]; split <;> first | exact .junk _ | exact .psl t n c b h hc hm
  | func f cs vs hl hval ih =>
    simp only [Ab.ice, ices_eq]
    refine .func f _ vs (by simpa using hl) fun i x v h1 h2 => ?_
    rw [List.getElem?_map] at h1
    obtain ⟨y, hy, rfl⟩ := Option.map_eq_some_iff.1 h1
    exact ih i y v hy h2
  | agg cs vs hl h1 hval ih =>
    simp only [Ab.ice, ices_eq]
    refine .agg _ vs (by simpa using hl) h1 fun i x v h1 h2 => ?_
    rw [List.getElem?_map] at h1
    obtain ⟨y, hy, rfl⟩ := Option.map_eq_some_iff.1 h1
    exact ih i y v hy h2
  | tup cs vs hl hval ih =>
    simp only [Ab.ice, ices_eq]
    refine .tup _ vs (by simpa using hl) fun i x v h1 h2 => ?_
    rw [List.getElem?_map] at h1
    obtain ⟨y, hy, rfl⟩ := Option.map_eq_some_iff.1 h1
    exact ih i y v hy h2
  | opt g x v h1 h2 ih => simp only [Ab.ice]; exact .opt g _ v ih h2
/-- the state then -/
def iceS (σ : AS) (n : Nat) (cs : List AV) : AS := { nt := σ.nt, tm := mapT (ice n cs) σ.tm, bl := (n, none) :: mapB (ice n cs) σ.bl }
theorem blk_iceS (σ : AS) (n : Nat) (cs : List AV) (m : Nat) : blk (iceS σ n cs) m = if m = n then none else (blk σ m).map (mapBlk (ice n cs)) := by
  unfold blk iceS
  simp only [get]
  by_cases h : n = m
  · rw [if_pos h, if_pos h.symm]; rfl
  · rw [if_neg h, if_neg (fun e => h e.symm), get_mapB]
    cases get m σ.bl with
    | none => rfl
    | some x => cases x <;> rfl
theorem bnames_ice {n : Nat} {cs : List AV} {x : Blk} {m : Nat} (h : m ∈ bnames (mapBlk (ice n cs) x)) : m ∈ bnames x ∧ m ≠ n := by
  cases x with
  | cells ds =>
    have h : m ∈ namess (ds.map (ice n cs)) := h
    rw [← ices_eq] at h
    exact namess_ices n cs ds m h
  | rows e sz rs => cases h
  | deep e sz rs cols foc =>
    obtain ⟨i, j, hm⟩ := focN_mem.1 (show m ∈ focN (keepF (ice n cs) foc) from h)
    obtain ⟨h1, k, h2⟩ := keepF_mem hm
    refine ⟨focN_mem.2 ⟨i, j, h1⟩, ?_⟩
    simp only [ice] at h2
    split at h2
    · cases h2
    · assumption
section
variable {D : Nat → TI} {S N0 : Nat → Prop} {B : Nat} {w0 : W0} {ρ : Env} {σ : AS} {a : Act} {w : World}
theorem St0.ice (h : St0 D S N0 B w0 ρ σ a w) {n : Nat} {cs : List AV} (hn : blk σ n = some (.cells cs)) (hcs : namess cs = []) : St0 D S N0 B w0 ρ (iceS σ n cs) a w := by
  have him : ∀ b, imOf S N0 B w ρ (blk σ) b → imOf S N0 B w ρ (blk (iceS σ n cs)) b := by
    rintro b ⟨h1, h2, h3⟩
    refine ⟨h1, h2, fun m x hx => ?_⟩
    rw [blk_iceS] at hx
    split at hx
    · cases hx
    · obtain ⟨y, hy, rfl⟩ := mapBlk_some hx
      rw [owns_map]
      exact h3 m y hy
  have hbim : ∀ b, (ρ n).b = some b → imOf S N0 B w ρ (blk (iceS σ n cs)) b := by
    intro b hb
    refine ⟨h.named_lt hn hb, .inr (h.own n _ b hn (owns_b hb)), fun m y hy hm => ?_⟩
    rw [blk_iceS] at hy
    split at hy
    · cases hy
    · rename_i hmn
      obtain ⟨y', hy', rfl⟩ := mapBlk_some hy
      exact hmn (h.hp.inj m n b y' _ hy' hn (owns_map.1 hm) (owns_b hb))
  have frel : ∀ x v, Rel w (imOf S N0 B w ρ (blk σ)) ρ x v → Rel w (imOf S N0 B w ρ (blk (iceS σ n cs))) ρ (Ab.ice n cs x) v := fun x v hx =>
    Rel.ice (h.hp.blk n _ hn) hcs him hbim hx
  have bnd : ∀ m, (blk σ m).isSome = true → m ≠ n → (blk (iceS σ n cs) m).isSome = true := by
    intro m hm hne
    rw [blk_iceS, if_neg hne]
    simpa using hm
  refine ⟨fun t x hx => ?_, ⟨fun m x hx => ?_, fun m k b x y hx hy => ?_, fun m x b hx hb hm => ?_, fun b hb => hb.1, fun m ds hx k hk => ?_⟩, h.nt, h.base, h.frm, fun m x b hx hb => ?_, h.defers⟩
  · have hx' : get t (mapT (Ab.ice n cs) σ.tm) = some x := hx
    rw [get_mapT] at hx'
    obtain ⟨y, hy, rfl⟩ := Option.map_eq_some_iff.1 hx'
    obtain ⟨h1, h2⟩ := h.tm t y hy
    exact ⟨frel y _ h1, fun m hm => bnd m (h2 m (names_ice n cs y m hm).1) (names_ice n cs y m hm).2⟩
  · rw [blk_iceS] at hx
    split at hx
    · cases hx
    · obtain ⟨y, hy, rfl⟩ := mapBlk_some hx
      have hy' := h.hp.blk m y hy
      cases y with
      | rows e sz rs => exact hy'.mono rfl (fun _ _ => rfl) him (fun _ _ => rfl) (fun _ _ => rfl)
      | deep e sz rs cols foc => exact (hy'.keepF (h := Ab.ice n cs)).mono rfl (fun _ _ => rfl) him (fun _ _ => rfl) (fun _ _ => rfl)
      | cells ds =>
        obtain ⟨b, arr, T, h1, h2, h3, h5⟩ := hy'
        refine ⟨b, arr, T, h1, h2, by simpa using h3, fun i x v hx hv => ?_⟩
        rw [List.getElem?_map] at hx
        obtain ⟨z, hz, rfl⟩ := Option.map_eq_some_iff.1 hx
        exact ⟨(h5 i z v hz hv).1, frel z v (h5 i z v hz hv).2⟩
  · rw [blk_iceS] at hx hy
    split at hx
    · cases hx
    split at hy
    · cases hy
    obtain ⟨x', hx', rfl⟩ := mapBlk_some hx
    obtain ⟨y', hy', rfl⟩ := mapBlk_some hy
    rw [owns_map, owns_map]
    exact h.hp.inj m k b x' y' hx' hy'
  · exact hm.2.2 m x hx hb
  · rw [blk_iceS] at hx
    split at hx
    · cases hx
    · obtain ⟨y, hy, rfl⟩ := mapBlk_some hx
      obtain ⟨h1, h2⟩ := bnames_ice hk
      exact bnd k (h.hp.clos m y hy k h1) h2
  · rw [blk_iceS] at hx
    split at hx
    · cases hx
    · obtain ⟨y, hy, rfl⟩ := mapBlk_some hx
      exact h.own m y b hy (owns_map.1 hb)
end
theorem Wk.ice {X : Cx} {σ : AS} (n : Nat) {cs : List AV} (hn : blk σ n = some (.cells cs)) (hcs : namess cs = []) : Wk X σ (iceS σ n cs) := fun γ a w ⟨ρ, h⟩ => ⟨ρ, h.ice hn hcs⟩
attribute [go_sem] iceS ice ices
end Go.Proofs.YtmlejhpeoiicpaaGreatDoor.Ab
namespace Go.Proofs.YtmlejhpeoiicpaaGreatDoor.Ab
open Go Go.RowKit Go.ChangeShapes Go.WideShapes
set_option linter.unusedVariables false
set_option linter.unusedSimpArgs false

def contB (D : Nat → TI) : List (Nat × Nat) → Nat → Nat → Bool
  | [], o, n => decide (o = n)
  | (o', t) :: r, o, n => decide (o' = o) && contB D r (o + (D t).n) n
def plainB (D : Nat → TI) : Nat → Nat → Bool
  | 0, _ => false
  | f + 1, t => match (D t).k with
    | .int _ => decide ((D t).n = 1)
    | .bool => decide ((D t).n = 1)
    | .str => decide ((D t).n = 1)
    | .slice e => decide ((D t).n = 1) && plainB D f e
    | .struct fs => contB D fs 0 (D t).n && fs.all (fun x => plainB D f x.2)
    | _ => false
def ShpF (S : Nat → List AV → Prop) : List (Nat × Nat) → List AV → Prop
  | [], cs => cs = []
  | (_, t) :: r, cs => ∃ a b, cs = a ++ b ∧ S t a ∧ ShpF S r b
/-- cells of a plain type; lists and texts no longer than B -/
def Shp (D : Nat → TI) (B : Nat) : Nat → Nat → List AV → Prop
  | 0, _, _ => False
  | f + 1, t, cs => match (D t).k with
    | .int k => ∃ n, cs = [.int k n] ∧ (Lit.int k n).wf = true
    | .bool => ∃ b, cs = [.bool b]
    | .str => ∃ l, cs = [.str l] ∧ l.length ≤ B
    | .slice e => ∃ rs, cs = [.sl (D e).n rs] ∧ rs.length ≤ B ∧ ∀ row ∈ rs, Shp D B f e row
    | .struct fs => ShpF (Shp D B f) fs cs
    | _ => False

theorem cellsOf_n {P : Program} {D : Nat → TI} (hT : TOk P D) {t : Nat} (h : isOther (D t).k = false) : P.cellsOf t = (D t).n := by
  obtain ⟨i, z, h1, h2, _⟩ := ty_info hT h
  simp [Program.cellsOf, h1, h2]
theorem plain_other {D : Nat → TI} {f t : Nat} (h : plainB D f t = true) : isOther (D t).k = false := by
  cases f with
  | zero => cases h
  | succ f =>
    unfold plainB at h
    cases hk : (D t).k <;> rw [hk] at h <;> first | rfl | cases h

section
variable {H : Type} {enc : TypeId × Value → H} {P : Program} {W : World} {D : Nat → TI} {B : Nat}
def GoodA (W : World) (us : List AV) (cs : List Value) : Prop := us.length = cs.length ∧ ∀ (i : Nat) a v, us[i]? = some a → cs[i]? = some v → Rel W (· < W.heap.size) ρ0 a v ∧ v.oneCell' = true ∧ names a = []
theorem GoodA.one {a : AV} {v : Value} (h : Rel W (· < W.heap.size) ρ0 a v) (h1 : v.oneCell' = true) (h2 : names a = []) : GoodA W [a] [v] := by
  refine ⟨rfl, fun i x u hx hu => ?_⟩
  cases i with
  | zero => simp at hx hu; subst hx hu; exact ⟨h, h1, h2⟩
  | succ i => simp at hx
theorem GoodA.append {us bs : List AV} {cs ds : List Value} (h : GoodA W us cs) (k : GoodA W bs ds) : GoodA W (us ++ bs) (cs ++ ds) := by
  refine ⟨by simp [h.1, k.1], fun i x u hx hu => ?_⟩
  by_cases hi : i < us.length
  · rw [List.getElem?_append_left hi] at hx
    rw [List.getElem?_append_left (by rw [← h.1]; exact hi)] at hu
    exact h.2 i x u hx hu
  · rw [List.getElem?_append_right (by omega)] at hx
    rw [List.getElem?_append_right (by rw [← h.1]; omega), ← h.1] at hu
    exact k.2 _ x u hx hu

theorem open_fields (hT : TOk P D) {S : Nat → List AV → Prop} {m N : Nat} {cs : List Value} (hN : cs.length = N)
    (hS : ∀ (t : Nat) (ds : List Value) (y : DataW H × List MemPlace), isOther (D t).k = false → plainB D m t = true → ∀ n, DataW.trod enc P W 0 (fun _ => true) true n t ds = some y → Rows.uptoBulk y.1 ≤ B → ∃ us, S t us ∧ us.length = (D t).n ∧ GoodA W us ds)
    {n : Nat} : ∀ (fs : List (Nat × Nat)) (flds : List Field) (xs : List (DataW H × List MemPlace)) (o : Nat), fieldsB P D fs flds = true → contB D fs o N = true → fs.all (fun x => plainB D m x.2) = true → o ≤ N → xs.length = flds.length →
      (∀ (i : Nat) (f : Field), flds[i]? = some f → DataW.trod enc P W 0 (fun _ => true) true n f.type ((cs.drop f.offset).take (P.cellsOf f.type)) = xs[i]?) → (∀ x ∈ xs, Rows.uptoBulk x.1 ≤ B) →
      ∃ us, ShpF S fs us ∧ o + us.length = N ∧ GoodA W us (cs.drop o)
  | [], [], xs, o, _, hc, _, ho, _, _, _ => by
    simp only [contB, decide_eq_true_eq] at hc
    refine ⟨[], rfl, by simpa using hc, by simp; omega, fun i a v ha => by simp at ha⟩
  | [], _ :: _, _, _, h, _, _, _, _, _, _ => by simp [fieldsB] at h
  | _ :: _, [], _, _, h, _, _, _, _, _, _ => by simp [fieldsB] at h
  | (o', t) :: r, f :: flds, xs, o, h, hc, hp, ho, hl, hf, hb => by
    simp only [fieldsB, Bool.and_eq_true, decide_eq_true_eq] at h
    obtain ⟨⟨⟨h1, h2⟩, h3⟩, h4⟩ := h
    simp only [contB, Bool.and_eq_true, decide_eq_true_eq] at hc
    obtain ⟨rfl, hc⟩ := hc
    rw [List.all_cons, Bool.and_eq_true] at hp
    match xs, hl with
    | x :: xs, hl =>
      have hot := plain_other hp.1
      have hx := hf 0 f rfl
      rw [h1, h2, cellsOf_n hT hot] at hx
      simp only [List.getElem?_cons_zero] at hx
      obtain ⟨us, a1, a2, a3⟩ := hS t _ x hot hp.1 n hx (hb x (by simp))
      have hlen : ((cs.drop o').take (D t).n).length = (D t).n := by rw [← a3.1, a2]
      rw [List.length_take, List.length_drop] at hlen
      obtain ⟨bs, b1, b2, b3⟩ := open_fields hT hN hS r flds xs (o' + (D t).n) h4 hc hp.2 (by omega) (by simpa using hl) (fun i f hi => by simpa using hf (i + 1) f (by simpa using hi)) (fun y hy => hb y (by simp [hy]))
      refine ⟨us ++ bs, ⟨us, bs, rfl, a1, b1⟩, by rw [List.length_append]; omega, ?_⟩
      have := a3.append b3
      rwa [← List.drop_drop, List.take_append_drop] at this

theorem open_any (hT : TOk P D) : ∀ (m t : Nat), plainB D m t = true → ∀ (n : Nat) (cs : List Value) (x : DataW H × List MemPlace), DataW.trod enc P W 0 (fun _ => true) true n t cs = some x → Rows.uptoBulk x.1 ≤ B →
    ∃ us, Shp D B m t us ∧ us.length = (D t).n ∧ GoodA W us cs
  | 0, t, hp, _, _, _, _, _ => by cases hp
  | m + 1, t, hp, n, cs, x, h, hb => by
    have hot := plain_other hp
    unfold plainB at hp
    unfold Shp
    cases hk : (D t).k with
    | int k =>
      rw [hk] at hp
      obtain ⟨z, rfl, rfl, hw⟩ := DataW.trod_int (ty_int hT hk) h
      exact ⟨[.int k z], ⟨z, rfl, hw⟩, by simpa using (of_decide_eq_true hp).symm, GoodA.one (.int _ _) rfl rfl⟩
    | bool =>
      rw [hk] at hp
      have hu : P.underlying t = some .bool := by
        have h1 := (ty_kind hT (T := t) hot).1
        rw [hk] at h1
        cases hu : P.underlying t with
        | none => rw [hu] at h1; cases h1
        | some u => rw [hu] at h1; cases u <;> simp [kindB] at h1; rfl
      obtain ⟨z, rfl, rfl⟩ := DataW.trod_bool hu h
      exact ⟨[.bool z], ⟨z, rfl⟩, by simpa using (of_decide_eq_true hp).symm, GoodA.one (.bool _) rfl rfl⟩
    | str =>
      rw [hk] at hp
      obtain ⟨s, rfl, rfl, hs⟩ := DataW.trod_string (ty_str hT hk) h
      refine ⟨[.str s.data.toList], ⟨_, rfl, ?_⟩, by simpa using (of_decide_eq_true hp).symm, GoodA.one (.str _) rfl rfl⟩
      simp only [Rows.uptoBulk] at hb
      omega
    | slice e =>
      rw [hk] at hp
      simp only [Bool.and_eq_true, decide_eq_true_eq] at hp
      obtain ⟨hu, he, hpos⟩ := ty_slice hT hk
      have hce := cellsOf_n hT he
      rcases Deep.open_slice hu h with ⟨rfl, rfl⟩ | ⟨a, len, cap, mm, n', Dd, Pl, rfl, _, h1, h2, h3, rfl, hc⟩
      · refine ⟨[.sl (D e).n []], ⟨[], rfl, Nat.zero_le _, by simp⟩, by simp [hp.1], GoodA.one (.sl _ [] none 0 0 0 (fun _ _ => .nilIface) (Nat.le_refl _) (Nat.zero_le _) (fun h => absurd h (by simp)) (by simp) (by simp) (by simp)) rfl rfl⟩
      · simp only [if_true] at h3
        subst h3
        simp only [Rows.uptoBulk] at hb
        have hbl := bulk_len ((List.range len).map Dd)
        rw [List.length_map, List.length_range] at hbl
        have each : ∀ i, i < len → ∃ y : List AV × List Value, Shp D B m e y.1 ∧ y.1.length = (D e).n ∧ GoodA W y.1 y.2 ∧ ∀ j v, y.2[j]? = some v → W.cell? ((a.add (i * (D e).n)).add j) = some v := fun i hi => by
          obtain ⟨cs', q1, q2⟩ := hc i (by omega)
          rw [hce] at q1
          obtain ⟨_, ql, qc⟩ := World.cells?_some q1
          have hm := bulk_mem (l := (List.range len).map Dd) (d := Dd i) (List.mem_map.2 ⟨i, List.mem_range.2 hi, rfl⟩)
          obtain ⟨us, p1, p2, p3⟩ := open_any hT m e hp.2 n' cs' (Dd i, Pl i) q2 (by simp only; omega)
          refine ⟨(us, cs'), p1, p2, p3, fun j v hj => ?_⟩
          have hj' := (List.getElem?_eq_some_iff.1 hj).1
          simp only at hj hj'
          rw [qc j (by omega), hj]
        obtain ⟨Y, hY⟩ := Deep.choose_lt each
        have hrow : ∀ {i : Nat} {row : List AV}, ((List.range len).map fun i => (Y i).1)[i]? = some row → i < len ∧ row = (Y i).1 := fun {i row} hi => by
          rw [List.getElem?_map] at hi
          obtain ⟨k, hk1, rfl⟩ := Option.map_eq_some_iff.1 hi
          obtain ⟨hlt, e1⟩ := List.getElem?_eq_some_iff.1 hk1
          simp at hlt e1
          subst e1
          exact ⟨hlt, rfl⟩
        have hadr : 0 < len → ∃ b o, a = ⟨b, o, none⟩ ∧ b < W.heap.size := fun hl => by
          obtain ⟨q1, q2, q3, q4⟩ := hY 0 hl
          have hpos' : 0 < (Y 0).2.length := by rw [← q3.1, q2]; exact hpos
          have hc0 := q4 0 _ (List.getElem?_eq_getElem hpos')
          obtain ⟨⟨b', o', e'⟩, hb'⟩ := cell_addr hc0
          obtain ⟨b, o, s⟩ := a
          rw [block_of_add, block_of_add] at hb'
          have hs : s = none := by
            cases s with
            | none => rfl
            | some k => simp [Addr.add] at e'
          subst hs
          exact ⟨b, o, rfl, hb'⟩
        refine ⟨[.sl (D e).n ((List.range len).map fun i => (Y i).1)], ⟨_, rfl, by rw [List.length_map, List.length_range]; omega, fun row hr => ?_⟩, by simp [hp.1], GoodA.one ?_ rfl rfl⟩
        · obtain ⟨i, hi, rfl⟩ := List.mem_map.1 hr
          exact (hY i (List.mem_range.1 hi)).1
        · have hll : ((List.range len).map fun i => (Y i).1).length = len := by simp
          by_cases hl : 0 < len
          · obtain ⟨b, o, rfl, hblt⟩ := hadr hl
            have := Rel.sl (w := W) (im := (· < W.heap.size)) (ρ := ρ0) (D e).n ((List.range len).map fun i => (Y i).1) (some ⟨b, o, none⟩) mm b o (fun i j => (Y i).2.getD j .nilIface) (by omega) h2 (fun _ => ⟨rfl, hblt⟩) (fun i row hi => ?_) (fun i j row x hi hj => ?_) (fun i j row x hi hj => ?_)
            · rw [hll] at this; exact this
            · obtain ⟨hlt, rfl⟩ := hrow hi
              exact (hY i hlt).2.1
            · obtain ⟨hlt, rfl⟩ := hrow hi
              obtain ⟨p1, p2, p3, p4⟩ := hY i hlt
              have hjl := (List.getElem?_eq_some_iff.1 hj).1
              have hj2 : j < (Y i).2.length := by rw [← p3.1]; exact hjl
              have hv : (Y i).2[j]? = some (Y i).2[j] := List.getElem?_eq_getElem hj2
              have hg : (Y i).2.getD j .nilIface = (Y i).2[j] := by simp [hj2]
              have hc1 := p4 j _ hv
              rw [add_flat, add_flat] at hc1
              simp only [hg]
              exact ⟨by rw [← Nat.add_assoc]; exact hc1, (p3.2 j x _ hj hv).2⟩
            · obtain ⟨hlt, rfl⟩ := hrow hi
              obtain ⟨p1, p2, p3, p4⟩ := hY i hlt
              have hjl := (List.getElem?_eq_some_iff.1 hj).1
              have hj2 : j < (Y i).2.length := by rw [← p3.1]; exact hjl
              have hv : (Y i).2[j]? = some (Y i).2[j] := List.getElem?_eq_getElem hj2
              have hg : (Y i).2.getD j .nilIface = (Y i).2[j] := by simp [hj2]
              simp only [hg]
              exact (p3.2 j x _ hj hv).1
          · have hl0 : len = 0 := by omega
            subst hl0
            exact .sl (D e).n [] (some a) mm 0 0 (fun _ _ => .nilIface) (Nat.zero_le _) h2 (fun h => absurd h (by simp)) (by simp) (by simp) (by simp)
    | struct fs =>
      rw [hk] at hp
      simp only [Bool.and_eq_true] at hp
      obtain ⟨flds, hu, hfb⟩ := ty_struct hT hk
      obtain ⟨xs, n', rfl, rfl, hl, hxl, hf⟩ := DataW.trod_struct hu h
      rw [cellsOf_n hT hot] at hl
      simp only [Rows.uptoBulk] at hb
      obtain ⟨us, a1, a2, a3⟩ := open_fields hT (S := Shp D B m) (m := m) (B := B) hl (fun t' ds y _ hpt n hy hyb => open_any hT m t' hpt n ds y hy hyb) fs flds.toList xs 0 hfb hp.1 hp.2 (Nat.zero_le _) (by simpa using hxl) (fun i f hi => hf i f (by simpa using hi))
        (fun y hy => by have := bulk_mem (l := xs.map (·.1)) (d := y.1) (List.mem_map.2 ⟨y, hy, rfl⟩); omega)
      rw [Nat.zero_add] at a2
      exact ⟨us, a1, a2, by simpa using a3⟩
    | ref => rw [hk] at hp; cases hp
    | iface => rw [hk] at hp; cases hp
    | other => rw [hk] at hp; cases hp
/-- an argument of a plain type -/
theorem open_arg (hT : TOk P D) {m t : Nat} (hp : plainB D m t = true) {r : Reach} {b0 : Nat} {v : Value} {d : DataW H} {ps : List MemPlace} (hval : Value.okWide P W r b0 t v) (h : DataW.Trod enc P W 0 (fun _ => true) true t v d ps) (hb : Rows.uptoBulk d ≤ B) :
    ∃ us, Shp D B m t us ∧ us.length = (D t).n ∧ Rel W (· < W.heap.size) ρ0 (match (D t).k with | .struct _ => .agg us | _ => us.headD .junk) v := by
  obtain ⟨n, hn⟩ := h
  obtain ⟨us, h1, h2, h3⟩ := open_any hT m t hp n _ _ hn hb
  refine ⟨us, h1, h2, ?_⟩
  have hot := plain_other hp
  have one : v.cells = #[v] → Rel W (· < W.heap.size) ρ0 (us.headD .junk) v := fun hc => by
    rw [hc] at h3
    match us, h3 with
    | [a], h3 => exact (h3.2 0 a v rfl rfl).1
    | [], h3 => have := h3.1; simp at this
    | _ :: _ :: _, h3 => have := h3.1; simp at this
  cases hk : (D t).k with
  | int k =>
    obtain ⟨z, rfl⟩ := okWide_int (ty_int hT hk) hval
    exact one rfl
  | bool =>
    have hu : P.underlying t = some .bool := by
      have h1 := (ty_kind hT (T := t) hot).1
      rw [hk] at h1
      cases hu : P.underlying t with
      | none => rw [hu] at h1; cases h1
      | some u => rw [hu] at h1; cases u <;> simp [kindB] at h1; rfl
    obtain ⟨z, rfl⟩ := okWide_bool hu hval
    exact one rfl
  | str =>
    obtain ⟨z, rfl⟩ := okWide_string (ty_str hT hk) hval
    exact one rfl
  | slice e =>
    obtain ⟨a, l, c, rfl⟩ := okWide_slice (ty_slice hT hk).1 hval
    exact one rfl
  | struct fs =>
    obtain ⟨flds, hu, _⟩ := ty_struct hT hk
    obtain ⟨vs, rfl, hsz⟩ := okWide_struct hu hval
    simp only [Value.cells] at h3
    exact .agg us vs (by have := h3.1; simp at this; omega) (fun i u hu => by
      have hi := (Array.getElem?_eq_some_iff.1 hu).1
      have hi2 : i < us.length := by have := h3.1; simp at this; omega
      exact (h3.2 i us[i] u (List.getElem?_eq_getElem hi2) (by simpa using hu)).2.1) (fun i a u ha hu => (h3.2 i a u ha (by simpa using hu)).1)
  | ref => unfold plainB at hp; cases m <;> simp [hk] at hp
  | iface => unfold plainB at hp; cases m <;> simp [hk] at hp
  | other => rw [hk] at hot; cases hot
end
/-! texts, numbers, properties, notes -/
theorem shp_i64 {t : Nat} (hk : (D t).k = .int .i64) {m : Nat} {B : Nat} {us : List AV} (h : Shp D B (m + 1) t us) : ∃ n : Int, us = [.int .i64 n] ∧ -9223372036854775808 ≤ n ∧ n ≤ 9223372036854775807 := by
  simp only [Shp, hk] at h
  obtain ⟨n, rfl, hw⟩ := h
  exact ⟨n, rfl, by simpa [Lit.wf, IntKind.min, IntKind.max, IntKind.signed, IntKind.bits] using hw⟩
/-! bytes -/
theorem shp_bytes {m : Nat} {B : Nat} {us : List AV} (h : Shp D B (m + 2) 23 us) : ∃ l : List UInt8, us = [.sl 1 (l.map byteRow)] ∧ l.length ≤ B := by
  simp only [Shp, D_1, D_2, D_3, D_4, D_5, D_6, D_7, D_8, D_9, D_10, D_11, D_12, D_13, D_14, D_15, D_16, D_17, D_18, D_19, D_20, D_21, D_22, D_23, D_24, D_25, D_26, D_27, D_28, D_29, D_30, D_32, D_34, D_35, D_36, D_38, D_39, D_40, D_41, D_42, D_43, D_44, D_46, D_47, D_49, D_50, D_51, D_52, D_54, D_55, D_56, D_58, D_59, D_61, D_62, D_63, D_64, D_65, D_66, D_67, D_68, D_69, D_70, D_71, D_73, D_74, D_75, D_76, D_78, D_81, D_82, D_83, D_84, D_85, D_86, D_87, D_89, D_91, D_92, D_94, D_95, D_97, D_98, D_100, D_101, D_103, D_105, D_106, D_108, D_109, D_110, D_111, D_112, D_114, D_115, D_116, D_118, D_119, D_121, D_122, D_123, D_124, D_125, D_126, D_127, D_129, D_130, D_131, D_132, D_134, D_135, D_136, D_138, D_139, D_140, D_141, D_143, D_144, D_145, D_146, D_147, D_148, D_149, D_150, D_151, D_152, D_154, D_155, D_156, D_158, D_159, D_161, D_162, D_163, D_164, D_165, D_167, D_168, D_170, D_172, D_173, D_175, D_176, D_177, D_178, D_179, D_180, D_181, D_182, D_185, D_186, D_187, D_188, D_189, D_190, D_191, D_193, D_195, D_196, D_200, D_201, D_205, D_206, D_207, D_208, D_209, D_210, D_211, D_212] at h
  obtain ⟨rs, rfl, hl, hr⟩ := h
  have hB : ∀ row ∈ rs, ∃ b : UInt8, row = byteRow b := fun row hrow => by
    obtain ⟨n, rfl, hw⟩ := hr row hrow
    have hx : 0 ≤ n ∧ n ≤ 255 := by simpa [Lit.wf, IntKind.min, IntKind.max, IntKind.signed, IntKind.bits] using hw
    refine ⟨UInt8.ofNat n.toNat, ?_⟩
    have e : ((UInt8.ofNat n.toNat).toNat : Int) = n := by
      rw [UInt8.toNat_ofNat']
      omega
    rw [byteRow, e]
  clear hr
  have : ∃ l : List UInt8, rs = l.map byteRow := by
    clear hl
    induction rs with
    | nil => exact ⟨[], rfl⟩
    | cons x r ih =>
      obtain ⟨b, rfl⟩ := hB x (by simp)
      obtain ⟨l, rfl⟩ := ih fun row hrow => hB row (by simp [hrow])
      exact ⟨b :: l, rfl⟩
  obtain ⟨l, rfl⟩ := this
  exact ⟨l, rfl, by simpa using hl⟩
end Go.Proofs.YtmlejhpeoiicpaaGreatDoor.Ab
