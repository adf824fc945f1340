/-
  Texts of the proof, one behind the other: NtA NtB KlA PcC PcD OpenG FrS FrA FrB FrC SmA OpenF Sh Cw ShA Plg LaL.
  No condition but those that each theorem names.
-/
import Derived.Test.YtmlejhpeoiicpaaDoorGC
import Derived.Test.YtmlejhpeoiicpaaDoorGA
import Derived.Shelf.Small.Strs
import Derived.Shelf.Small.Wraps
import Derived.Shelf.Strconv.AtoiAll
import Derived.Shelf.Strconv.ErrVarAll
import Derived.Shelf.Strconv.Itoa3
import Derived.Shelf.Strings.Cut
import Derived.Shelf.Strings.OnBuilder
import Derived.Shelf.Strings.Split
import Derived.KernelRfl
import Derived.Test.YtmlejhpeoiicpaaDoorProg
import Derived.Test.YtmlejhpeoiicpaaDoorRows
import Derived.Test.YtmlejhpeoiicpaaDoorGB
import Derived.Lib.LaidU8
import Derived.LaidLaws
import Derived.MakeChecks
import Derived.WalkKit
namespace Go.Proofs.YtmlejhpeoiicpaaDoor.Ab
open Go Go.RowKit
set_option linter.unusedVariables false
set_option linter.unusedSimpArgs false

def byteI (n : Int) : UInt8 := UInt8.ofNat (n % 256).toNat
theorem byteI_nat (n : Int) : ((byteI n).toNat : Int) = n % 256 := by
  simp [byteI]
  omega
theorem wrap8 (n : Int) : IntKind.wrap .u8 n = ((byteI n).toNat : Int) := by rw [byteI_nat, IntKind.wrap_u8]
def propRow (p : LProp) : List AV := [.str p.key.data.toList, .int .i64 p.kind, .int .i64 p.n, .str p.text.data.toList]
def propD : LProp := ⟨⟨#[]⟩, 0, 0, ⟨#[]⟩⟩
theorem propGet {l : List LProp} {i : Nat} (h : i < l.length) : (l.map propRow).getD i [] = propRow (l.getD i propD) := by
  rw [List.getD_eq_getElem?_getD, List.getElem?_map, List.getD_eq_getElem?_getD]
  simp [h]
theorem bytes_ext {a b : ByteArray} (h : a.data.toList = b.data.toList) : a = b := by
  obtain ⟨⟨x⟩⟩ := a
  obtain ⟨⟨y⟩⟩ := b
  simp at h
  rw [h]
theorem propRow_inj {p q : LProp} (h : propRow p = propRow q) : p = q := by
  obtain ⟨a, b, c, d⟩ := p
  obtain ⟨a', b', c', d'⟩ := q
  simp only [propRow, List.cons.injEq, AV.str.injEq, AV.int.injEq, true_and, and_true] at h
  rw [bytes_ext h.1, h.2.1, h.2.2.1, bytes_ext h.2.2.2]
theorem props_inj : ∀ {l m : List LProp}, l.map propRow = m.map propRow → l = m
  | [], [], _ => rfl
  | [], _ :: _, h => by simp at h
  | _ :: _, [], h => by simp at h
  | a :: l, b :: m, h => by
    simp only [List.map_cons, List.cons.injEq] at h
    rw [propRow_inj h.1, props_inj h.2]
def noteA (n : LNote) : AV := .agg [.sl 4 (n.props.map propRow), .sl 1 (n.body.map byteRow)]
theorem noteA_inj {n m : LNote} (h : noteA n = noteA m) : n = m := by
  obtain ⟨a, b⟩ := n
  obtain ⟨c, d⟩ := m
  simp only [noteA, AV.agg.injEq, List.cons.injEq, AV.sl.injEq, true_and, and_true] at h
  rw [props_inj h.1, bytes_inj h.2]

section
variable {w : World} {im : Nat → Prop} {ρ : Env}
theorem prop_cell (p : LProp) (r : Nat) (u : Value) (h : (propV p)[r]? = some u) : ∃ x, (propRow p)[r]? = some x ∧ ∀ v, Rel w im ρ x v → v = u := by
  match r with
  | 0 => simp [propV] at h; subst h; exact ⟨_, rfl, fun v hv => hv.str_⟩
  | 1 => simp [propV] at h; subst h; exact ⟨_, rfl, fun v hv => hv.int_⟩
  | 2 => simp [propV] at h; subst h; exact ⟨_, rfl, fun v hv => hv.int_⟩
  | 3 => simp [propV] at h; subst h; exact ⟨_, rfl, fun v hv => hv.str_⟩
  | r + 4 => simp [propV] at h
theorem rel_props {l : List LProp} {v : Value} (h : Rel w im ρ (.sl 4 (l.map propRow)) v) : ∃ A c, v = .slice A l.length c ∧ l.length ≤ c ∧ c ≤ maxLen ∧ RProps w im A l := by
  generalize hrs : l.map propRow = rs at h
  cases h with
  | sl sz rs A c b o val hc hm hA hrow hcell hval =>
  subst hrs
  rw [List.length_map] at hc hA ⊢
  refine ⟨A, c, rfl, hc, hm, by rw [flatMap_len propV 4 (fun _ => rfl)], fun hn => ?_⟩
  obtain ⟨h1, h2⟩ := hA hn
  refine ⟨b, o, h1, h2, fun j u hu => ?_⟩
  have hj := (List.getElem?_eq_some_iff.1 hu).1
  rw [flatMap_len propV 4 (fun _ => rfl)] at hj
  have hi : j / 4 < l.length := by omega
  have hg := flatMap_get propV 4 (fun _ => rfl) l (j / 4) hi (j % 4) (Nat.mod_lt _ (by omega))
  rw [show j / 4 * 4 + j % 4 = j by omega] at hg
  rw [hg] at hu
  obtain ⟨x, hx, hv⟩ := prop_cell (w := w) (im := im) (ρ := ρ) _ _ _ hu
  have hr : (l.map propRow)[j / 4]? = some (propRow l[j / 4]) := by rw [List.getElem?_map, List.getElem?_eq_getElem hi]; rfl
  have h3 := hcell (j / 4) (j % 4) _ x hr hx
  have h4 := hv _ (hval (j / 4) (j % 4) _ x hr hx)
  rw [h4, show o + (j / 4 * 4 + j % 4) = o + j by omega] at h3
  exact h3.1
theorem rel_note {n : LNote} {v : Value} (h : Rel w im ρ (noteA n) v) : ∃ A c A' c', v = .agg #[.slice A n.props.length c, .slice A' n.body.length c'] ∧ RProps w im A n.props ∧ RBytes w im A' n.body := by
  obtain ⟨a, b, rfl, ⟨_, h1⟩, _, h2⟩ := rel_agg2 h
  obtain ⟨A, c, rfl, _, _, p1⟩ := rel_props h1
  obtain ⟨A', c', rfl, _, _, p2⟩ := rel_bytes h2
  exact ⟨A, c, A', c', rfl, p1, p2⟩
end
/-! contracts of what was walked -/
theorem con_key (s : ByteArray) (hs : s.size ≤ 1048576) : Con Tryd.prog D 54 [.str s.data.toList] ⟨.bool (keyS s), []⟩ := by
  refine con_below Tryd.func54 (by decide) rfl (by simp [names]) fun w im ρ vs him hvs => ?_
  obtain ⟨v, rfl, hv⟩ := rels_one hvs
  rw [hv.str_]
  refine (key_any s w hs).mono fun e w' ⟨he, hw⟩ => ⟨_, he, ?_, .bool _⟩
  first | exact hw | (subst hw; exact Below.refl _ _)
theorem con_refkey (s : ByteArray) (hs : s.size ≤ 1048576) : Con Tryd.prog D 21 [.str s.data.toList] ⟨.bool (keyS s), []⟩ := by
  refine con_below Tryd.func21 (by decide) rfl (by simp [names]) fun w im ρ vs him hvs => ?_
  obtain ⟨v, rfl, hv⟩ := rels_one hvs
  rw [hv.str_]
  exact (refkey_any s w hs).mono fun e w' ⟨he, hw⟩ => ⟨_, he, hw, .bool _⟩
theorem con_wrong (n : LNote) (hn : n.Fits) : Con Tryd.prog D 55 [noteA n] ⟨.int .i64 (wrongS n), []⟩ := by
  refine con_below Tryd.func55 (by decide) rfl (by simp [names]) fun w im ρ vs him hvs => ?_
  obtain ⟨v, rfl, hv⟩ := rels_one hvs
  obtain ⟨A, c, A', c', rfl, h1, h2⟩ := rel_note hv
  exact (wrong_any n A A' c c' w hn (h1.mono him)).mono fun e w' ⟨he, hw⟩ => ⟨_, he, hw, .int _ _⟩
theorem con_refwrong (n : LNote) (hn : n.Fits) : Con Tryd.prog D 22 [noteA n] ⟨.int .i64 (wrongS n), []⟩ := by
  refine con_below Tryd.func22 (by decide) rfl (by simp [names]) fun w im ρ vs him hvs => ?_
  obtain ⟨v, rfl, hv⟩ := rels_one hvs
  obtain ⟨A, c, A', c', rfl, h1, h2⟩ := rel_note hv
  exact (refwrong_any n A A' c c' w hn (h1.mono him)).mono fun e w' ⟨he, hw⟩ => ⟨_, he, hw, .int _ _⟩
theorem names_propRow (p : LProp) : namess (propRow p) = [] := by simp [propRow, names, namess]
theorem names_note (n : LNote) : names (noteA n) = [] := by simp [noteA, names, namess]
attribute [simp] names_propRow names_note
def note0 : LNote := ⟨[], []⟩
theorem fits_zero : note0.Fits := ⟨by simp [note0], by simp [note0], by simp [note0]⟩
end Go.Proofs.YtmlejhpeoiicpaaDoor.Ab
namespace Go.Proofs.YtmlejhpeoiicpaaDoor.Ab
open Go Go.RowKit
set_option linter.unusedVariables false
set_option linter.unusedSimpArgs false

theorem asked_none {ys : List AV} : asked ys none = none := rfl

set_option maxRecDepth 100000 in
theorem inl_neq {X : Cx} (hP : X.P = Tryd.prog) {ops : Array Oper} {σ : AS} {R : AS → Prop} {d : Nat} {x y : Operand} {U : Nat} {ty : Nat} {pos : String} {af : Array Edge} {p q : LProp} (hx : ev σ x = .agg (propRow p)) (hy : ev σ y = .agg (propRow q)) (hd : d < σ.nt)
    (h : R { σ with tm := (d, .bool (!decide (p = q))) :: σ.tm }) : InlOp X ops ⟨some d, .binOp .neq 45 x y U, ty, pos, af, none⟩ σ R := by
  refine ⟨fun γ a w i Qx hi ⟨ρ, hs⟩ => ?_⟩
  have hvx := (hs.ev x).1
  have hvy := (hs.ev y).1
  rw [hx] at hvx
  rw [hy] at hvy
  have hag : ∀ (r : LProp) (v : Value) (im : Nat → Prop), Rel w im ρ (.agg (propRow r)) v → v = .agg #[.string r.key, .int .i64 r.kind, .int .i64 r.n, .string r.text] := fun r v im h => by
    cases h with
    | agg cs vs hl h1 hval =>
    obtain ⟨vs⟩ := vs
    match vs, hl with
    | [a, b, c, d], _ =>
      rw [(hval 0 _ a rfl rfl).str_, (hval 1 _ b rfl rfl).int_, (hval 2 _ c rfl rfl).int_, (hval 3 _ d rfl rfl).str_]
  unfold wpOp
  simp only [hi]
  rw [if_pos (by simp [Region.wanted])]
  left
  have hex : execOp a.eval ⟨some d, .binOp .neq 45 x y U, ty, pos, af, none⟩ = (do pure (.value (← (do eqGuard .neq 45 x y (a.eval x) (a.eval y); binOp .neq 45 (a.eval x) (a.eval y))))) := rfl
  refine wp_of_value hex (v := .bool (!decide (p = q))) (w' := w) ?_ ⟨_, h, ρ, hs.put hd (.bool _) (by simp [names])⟩
  rw [hag p _ _ hvx, hag q _ _ hvy, hP]
  rw [Sem.run_bind, run_eqGuard_agg w _ _ _ _ _ _ prop_guard, Result.andThen_ok]
  exact prop_neq p q w

def eKey : Ent Tryd.prog D := ⟨54, ByteArray, fun s => [.str s.data.toList], fun s => s.size ≤ 1048576, fun s => ⟨.bool (keyS s), []⟩, fun x y _ _ h => by
  simp only [List.cons.injEq, AV.str.injEq, and_true] at h
  rw [bytes_ext h], con_key⟩
def eRefkey : Ent Tryd.prog D := ⟨21, ByteArray, fun s => [.str s.data.toList], fun s => s.size ≤ 1048576, fun s => ⟨.bool (keyS s), []⟩, fun x y _ _ h => by
  simp only [List.cons.injEq, AV.str.injEq, and_true] at h
  rw [bytes_ext h], con_refkey⟩
def eWrong : Ent Tryd.prog D := ⟨55, LNote, fun n => [noteA n], fun n => n.Fits, fun n => ⟨.int .i64 (wrongS n), []⟩, fun x y _ _ h => by
  simp only [List.cons.injEq, and_true] at h
  rw [noteA_inj h], con_wrong⟩
def eRefwrong : Ent Tryd.prog D := ⟨22, LNote, fun n => [noteA n], fun n => n.Fits, fun n => ⟨.int .i64 (wrongS n), []⟩, fun x y _ _ h => by
  simp only [List.cons.injEq, and_true] at h
  rw [noteA_inj h], con_refwrong⟩
set_option maxRecDepth 100000 in
theorem con_refsame (n m : LNote) (hn : n.Fits) (hm : m.Fits) : Con Tryd.prog D 29 [noteA n, noteA m] ⟨.bool (decide (n = m)), []⟩ := by
  have hok : GOk Tryd.prog D (tabG []) := tabG_ok _
  refine con_of (G := tabG []) (rs := [(4, none)]) mixed tok hok Tryd.func29 rfl (by decide) Tryd.results29 (by decide) rfl Tryd.ntmps29 (by simp) (by simp [noteA, namess, names]) fun X hP hD hG' hX => evC_sound hX (fun _ => {}) _ _ _ ?_
  simp only [argS, num, noteA]
  simp (disch := omega) only [go_sem, hD, hG', wrap64, wrap8, unbox]
  refine RegT.mk [] ?_
  simp (disch := omega) only [go_sem, hD, hG', wrap64, wrap8, unbox]
  ((try and_intros); all_goals (try first | omega | decide | (simp; done) | (simp only [List.length_append, List.length_cons, List.length_nil, List.length_map]; omega)))
  refine condK_split (fun h => ?_) (fun h => ?_)
  · simp (disch := omega) only [go_sem, hD, hG', wrap64, wrap8, unbox]
    refine ⟨[], [], rfl, rfl, ?_, ?_⟩ <;> simp only [go_sem]
    rw [eq_comm, decide_eq_false_iff_not]
    rintro rfl
    simp at h
  · have hl : n.props.length = m.props.length := by
      by_cases hc : n.props.length = m.props.length
      · exact hc
      · exfalso
        revert h
        have : ((n.props.length : Int) != (m.props.length : Int)) = true := by simp; omega
        simp [this]
    have hb : n.body = m.body := by simpa [hl] using h
    simp (disch := omega) only [go_sem, hD, hG', wrap64, wrap8, unbox]
    refine Tr.loop (ι := Nat) (fun i => i ≤ n.props.length ∧ n.props.take i = m.props.take i) (fun i => { nt := 40, tm := [(2, .ptr 2 0), (3, .ptr 3 0), (24, .int .i64 n.props.length), (25, .int .i64 i)], bl := [(2, some (.cells [.sl 4 (n.props.map propRow), .sl 1 (n.body.map byteRow)])), (3, some (.cells [.sl 4 (m.props.map propRow), .sl 1 (m.body.map byteRow)]))] }) (fun i => n.props.length - i) 0
      ⟨⟨Nat.zero_le _, rfl⟩, wk_of hD [(2, 2), (3, 3)] rfl rfl (by simp only [go_sem]; simp) (by simp only [go_sem])⟩ ?_
    rintro i ⟨hi, ht⟩
    have hnl := hn.2.1
    refine evC_sound hX (fun id => match id with | 6 => {lo := [10]} | _ => {}) _ _ _ ?_
    simp (disch := omega) only [go_sem, hD, hG', wrap64]
    refine condK_split (fun h => ?_) (fun h => ?_)
    · rw [decide_eq_true_eq] at h
      have hi1 : i < n.props.length := by omega
      have hi2 : i < m.props.length := by omega
      simp (disch := omega) only [go_sem, hD, hG', wrap64, propGet, propRow, asked_none]
      refine ⟨by decide, ⟨by omega, by omega⟩, ⟨by omega, by omega⟩, inl_neq hP (p := n.props.getD i propD) (q := m.props.getD i propD) rfl rfl (by simp) ?_⟩
      simp (disch := omega) only [go_sem, hD, hG', wrap64, propGet, propRow, asked_none]
      have e1 : n.props.getD i propD = n.props[i] := by simp [hi1]
      have e2 : m.props.getD i propD = m.props[i] := by simp [hi2]
      refine condK_split (fun h => ?_) (fun h => ?_)
      · simp (disch := omega) only [go_sem, hD, hG', wrap64, wrap8, unbox]
        refine ⟨[], [], rfl, rfl, ?_, ?_⟩ <;> simp only [go_sem]
        rw [eq_comm, decide_eq_false_iff_not]
        rintro rfl
        simp at h
      · simp (disch := omega) only [go_sem, hD, hG', wrap64]
        have he : n.props[i] = m.props[i] := by
          rw [← e1, ← e2]
          simpa using h
        refine ⟨i + 1, ⟨⟨by omega, by rw [List.take_succ_eq_append_getElem hi1, List.take_succ_eq_append_getElem hi2, ht, he]⟩, by omega⟩, wk_of hD [(2, 2), (3, 3)] rfl rfl ?_ ?_⟩ <;> simp only [go_sem]
        simp
    · rw [decide_eq_false_iff_not] at h
      simp (disch := omega) only [go_sem, hD, hG', wrap64, wrap8, unbox]
      refine ⟨[], [], rfl, rfl, ?_, ?_⟩ <;> simp only [go_sem]
      have : i = n.props.length := by omega
      subst this
      rw [List.take_length, hl, List.take_length] at ht
      rw [eq_comm, decide_eq_true_eq]
      obtain ⟨a, b⟩ := n
      obtain ⟨c, d⟩ := m
      simp only at ht hb
      rw [ht, hb]
theorem propS_ok {p : LProp} (h : propS p = 0) : p.key.size ≤ 8 ∧ ((p.kind = 2 ∧ p.text.size ≤ 12 ∧ p.n = 0) ∨ ((p.kind = 1 ∨ p.kind = 3) ∧ p.text.size = 0 ∧ -1073741824 ≤ p.n ∧ p.n ≤ 1073741824)) := by
  unfold propS at h
  split at h
  · cases h
  rename_i hk
  have hk8 : p.key.size ≤ 8 := by
    have : keyS p.key = true := by simpa using hk
    unfold keyS at this
    simp at this
    omega
  refine ⟨hk8, ?_⟩
  split at h
  · cases h
  split at h
  · cases h
  split at h
  · cases h
  split at h
  · cases h
  omega
theorem text_nil {b : ByteArray} (h : b.size = 0) : b = ⟨#[]⟩ := bytes_ext (List.eq_nil_of_length_eq_zero h)
theorem propsS_all {l : List LProp} (h : propsS l = 0) : ∀ p ∈ l, propS p = 0 := by
  induction l with
  | nil => simp
  | cons q r ih =>
    rw [propsS] at h
    split at h
    · rename_i hq
      intro p hp
      rcases List.mem_cons.1 hp with rfl | hp
      · exact hq
      · exact ih h p hp
    · rename_i hq
      exact absurd h hq
theorem wrongS_ok {n : LNote} (h : wrongS n = 0) : n.props.length ≤ 4 ∧ (∀ p ∈ n.props, propS p = 0) ∧ n.body.length ≤ 40 := by
  unfold wrongS at h
  split at h
  · cases h
  · split at h
    · rename_i h1
      exact absurd h h1
    · rename_i h0 h1
      split at h
      · cases h
      · refine ⟨by omega, propsS_all (by simpa using h1), by omega⟩
theorem fits_right {n : LNote} (h : wrongS n = 0) : n.Fits := by
  obtain ⟨h1, h2, h3⟩ := wrongS_ok h
  refine ⟨fun p hp => ?_, by omega, by omega⟩
  obtain ⟨q1, q2⟩ := propS_ok (h2 p hp)
  exact ⟨by omega, by omega⟩
end Go.Proofs.YtmlejhpeoiicpaaDoor.Ab
namespace Go.Proofs.YtmlejhpeoiicpaaDoor.Ab
open Go
set_option linter.unusedVariables false
set_option linter.unusedSimpArgs false

section
variable {D : Nat → TI} {S N0 : Nat → Prop} {B : Nat} {w0 : W0} {ρ : Env} {σ : AS} {a : Act} {w : World}
end
end Go.Proofs.YtmlejhpeoiicpaaDoor.Ab
namespace Go.Proofs.YtmlejhpeoiicpaaDoor.Ab
open Go
set_option linter.unusedVariables false
set_option linter.unusedSimpArgs false

/-! a pointer compared with nil -/
end Go.Proofs.YtmlejhpeoiicpaaDoor.Ab
namespace Go.Proofs.YtmlejhpeoiicpaaDoor.Ab
open Go
set_option linter.unusedVariables false
set_option linter.unusedSimpArgs false

mutual
/-- pointers into the block n, whose cells are cs, become pointers into memory that is only read -/
def ice (n : Nat) (cs : List AV) : AV → AV
  | .os t => if t = n then .junk else .os t
  | .ptr v o => if v = n then .iptr (cs.drop o) else .ptr v o
  | .tsl v o => if v = n then .junk else .tsl v o
  | .eptr v i o => if v = n then .junk else .eptr v i o
  | .agg xs => .agg (ices n cs xs)
  | .tup xs => .tup (ices n cs xs)
  | .func f xs => .func f (ices n cs xs)
  | .opt g v => .opt g (ice n cs v)
  | v => v
def ices (n : Nat) (cs : List AV) : List AV → List AV
  | [] => []
  | v :: r => ice n cs v :: ices n cs r
end
theorem ices_eq (n : Nat) (ds : List AV) : ∀ cs : List AV, ices n ds cs = cs.map (ice n ds)
  | [] => by simp [ices]
  | c :: r => by simp [ices, ices_eq n ds r]
mutual
theorem names_ice (n : Nat) (cs : List AV) : ∀ x : AV, (∀ m ∈ names (ice n cs x), m ∈ names x ∧ m ≠ n)
  | .os t => by simp only [ice]; split <;> simp_all [names]
  | .ptr v o => by simp only [ice]; split <;> simp_all [names]
  | .tsl v o => by simp only [ice]; split <;> simp_all [names]
  | .eptr v i o => by simp only [ice]; split <;> simp_all [names]
  | .agg xs => by simpa only [ice, names] using namess_ices n cs xs
  | .tup xs => by simpa only [ice, names] using namess_ices n cs xs
  | .func f xs => by simpa only [ice, names] using namess_ices n cs xs
  | .opt g v => by simpa only [ice, names] using names_ice n cs v
  | .junk => by simp [ice, names]
  | .int _ _ => by simp [ice, names]
  | .bool _ => by simp [ice, names]
  | .str _ => by simp [ice, names]
  | .nils => by simp [ice, names]
  | .sl _ _ => by simp [ice, names]
  | .iptr _ => by simp [ice, names]
  | .lsl _ => by simp [ice, names]
  | .imap _ => by simp [ice, names]
  | .nilp => by simp [ice, names]
  | .ifc _ => by simp [ice, names]
theorem namess_ices (n : Nat) (cs : List AV) : ∀ xs : List AV, (∀ m ∈ namess (ices n cs xs), m ∈ namess xs ∧ m ≠ n)
  | [] => by simp [ices, namess]
  | c :: r => by
    simp only [ices, namess, List.mem_append]
    rintro m (hn | hn)
    · exact ⟨.inl (names_ice n cs c m hn).1, (names_ice n cs c m hn).2⟩
    · exact ⟨.inr (namess_ices n cs r m hn).1, (namess_ices n cs r m hn).2⟩
end
theorem Rel.ice {D : Nat → TI} {w : World} {im im' : Nat → Prop} {ρ : Env} {n : Nat} {cs : List AV} (hbl : BRel D w im ρ n (.cells cs)) (hcs : namess cs = []) (him : ∀ b, im b → im' b)
    (hb : ∀ b, (ρ n).b = some b → im' b) {x : AV} {v : Value} (h : Rel w im ρ x v) : Rel w im' ρ (Ab.ice n cs x) v := by
  have self : ∀ {y : AV} {u : Value}, Rel w im ρ y u → Rel w im' ρ y u := fun h => h.mono him (fun _ _ => rfl) fun n hn' => rfl
  induction h with
  | junk v => simp only [Ab.ice]; exact .junk v
  | int k n => simp only [Ab.ice]; exact .int k n
  | bool b => simp only [Ab.ice]; exact .bool b
  | str l => simp only [Ab.ice]; exact .str l
  | nils => simp only [Ab.ice]; exact .nils
  | sl sz rs A c b o val hc hm hA hrow hcell hval ih => simp only [Ab.ice]; exact self (.sl sz rs A c b o val hc hm hA hrow hcell hval)
  | os t => simp only [Ab.ice]; split <;> first | exact .junk _ | exact .os t
  | ptr v off b h =>
    simp only [Ab.ice]
    split
    · rename_i e
      subst e
      obtain ⟨b', arr, T, h1, h2, h3, h5⟩ := hbl
      rw [h] at h1
      cases h1
      have hget : ∀ i, i < arr.size → arr[i]? = some (arr.getD i undef) := fun i hi => by simp [Array.getD_eq_getD_getElem?, hi]
      have hat : ∀ (j : Nat) x, (cs.drop off)[j]? = some x → cs[off + j]? = some x ∧ off + j < arr.size := fun j x hj => by
        rw [List.getElem?_drop] at hj
        exact ⟨hj, by rw [h3]; exact (List.getElem?_eq_some_iff.1 hj).1⟩
      refine .iptr _ b off (fun j => arr.getD (off + j) undef) (hb b h) (fun j x hj => ?_) (fun j x hj => ?_)
      · obtain ⟨q1, q2⟩ := hat j x hj
        refine ⟨?_, (h5 _ x _ q1 (hget _ q2)).1, ?_⟩
        · unfold World.cell?
          rw [h2]
          exact hget _ q2
        · refine List.eq_nil_iff_forall_not_mem.2 fun m hm => ?_
          have := mem_namess q1 hm
          rw [hcs] at this
          cases this
      · obtain ⟨q1, q2⟩ := hat j x hj
        exact self (h5 _ x _ q1 (hget _ q2)).2
    · exact .ptr v off b h
  | iptr cs b o val hb hcell hval ih => simp only [Ab.ice]; exact self (.iptr cs b o val hb hcell hval)
  | eptr t i off b h => simp only [Ab.ice]; split <;> first | exact .junk _ | exact .eptr t i off b h
  | lsl n A c hc hm => simp only [Ab.ice]; exact .lsl n A c hc hm
  | imap es b c arr hb ho he => simp only [Ab.ice]; exact .imap es b c arr (him _ hb) ho he
  | nilp => simp only [Ab.ice]; exact .nilp
  | ifc b v h => simp only [Ab.ice]; exact .ifc b v h
  | tsl t i b A' h hA => simp only [Ab.ice]; split <;> first | exact .junk _ | exact .tsl t i b A' h hA
  | func f cs vs hl hval ih =>
    simp only [Ab.ice, ices_eq]
    refine .func f _ vs (by simpa using hl) fun i x v h1 h2 => ?_
    rw [List.getElem?_map] at h1
    obtain ⟨y, hy, rfl⟩ := Option.map_eq_some_iff.1 h1
    exact ih i y v hy h2
  | agg cs vs hl h1 hval ih =>
    simp only [Ab.ice, ices_eq]
    refine .agg _ vs (by simpa using hl) h1 fun i x v h1 h2 => ?_
    rw [List.getElem?_map] at h1
    obtain ⟨y, hy, rfl⟩ := Option.map_eq_some_iff.1 h1
    exact ih i y v hy h2
  | tup cs vs hl hval ih =>
    simp only [Ab.ice, ices_eq]
    refine .tup _ vs (by simpa using hl) fun i x v h1 h2 => ?_
    rw [List.getElem?_map] at h1
    obtain ⟨y, hy, rfl⟩ := Option.map_eq_some_iff.1 h1
    exact ih i y v hy h2
  | opt g x v h1 h2 ih => simp only [Ab.ice]; exact .opt g _ v ih h2
/-- the state then -/
def iceS (σ : AS) (n : Nat) (cs : List AV) : AS := { nt := σ.nt, tm := mapT (ice n cs) σ.tm, bl := (n, none) :: mapB (ice n cs) σ.bl }
theorem blk_iceS (σ : AS) (n : Nat) (cs : List AV) (m : Nat) : blk (iceS σ n cs) m = if m = n then none else (blk σ m).map (mapBlk (ice n cs)) := by
  unfold blk iceS
  simp only [get]
  by_cases h : n = m
  · rw [if_pos h, if_pos h.symm]; rfl
  · rw [if_neg h, if_neg (fun e => h e.symm), get_mapB]
    cases get m σ.bl with
    | none => rfl
    | some x => cases x <;> rfl
theorem bnames_ice {n : Nat} {cs : List AV} {x : Blk} {m : Nat} (h : m ∈ bnames (mapBlk (ice n cs) x)) : m ∈ bnames x ∧ m ≠ n := by
  cases x with
  | cells ds =>
    have h : m ∈ namess (ds.map (ice n cs)) := h
    rw [← ices_eq] at h
    exact namess_ices n cs ds m h
  | rows e sz rs => cases h
  | deep e sz rs cols foc =>
    obtain ⟨i, j, hm⟩ := focN_mem.1 (show m ∈ focN (keepF (ice n cs) foc) from h)
    obtain ⟨h1, k, h2⟩ := keepF_mem hm
    refine ⟨focN_mem.2 ⟨i, j, h1⟩, ?_⟩
    simp only [ice] at h2
    split at h2
    · cases h2
    · assumption
section
variable {D : Nat → TI} {S N0 : Nat → Prop} {B : Nat} {w0 : W0} {ρ : Env} {σ : AS} {a : Act} {w : World}
theorem St0.ice (h : St0 D S N0 B w0 ρ σ a w) {n : Nat} {cs : List AV} (hn : blk σ n = some (.cells cs)) (hcs : namess cs = []) : St0 D S N0 B w0 ρ (iceS σ n cs) a w := by
  have him : ∀ b, imOf S N0 B w ρ (blk σ) b → imOf S N0 B w ρ (blk (iceS σ n cs)) b := by
    rintro b ⟨h1, h2, h3⟩
    refine ⟨h1, h2, fun m x hx => ?_⟩
    rw [blk_iceS] at hx
    split at hx
    · cases hx
    · obtain ⟨y, hy, rfl⟩ := mapBlk_some hx
      rw [owns_map]
      exact h3 m y hy
  have hbim : ∀ b, (ρ n).b = some b → imOf S N0 B w ρ (blk (iceS σ n cs)) b := by
    intro b hb
    refine ⟨h.named_lt hn hb, .inr (h.own n _ b hn (owns_b hb)), fun m y hy hm => ?_⟩
    rw [blk_iceS] at hy
    split at hy
    · cases hy
    · rename_i hmn
      obtain ⟨y', hy', rfl⟩ := mapBlk_some hy
      exact hmn (h.hp.inj m n b y' _ hy' hn (owns_map.1 hm) (owns_b hb))
  have frel : ∀ x v, Rel w (imOf S N0 B w ρ (blk σ)) ρ x v → Rel w (imOf S N0 B w ρ (blk (iceS σ n cs))) ρ (Ab.ice n cs x) v := fun x v hx =>
    Rel.ice (h.hp.blk n _ hn) hcs him hbim hx
  have bnd : ∀ m, (blk σ m).isSome = true → m ≠ n → (blk (iceS σ n cs) m).isSome = true := by
    intro m hm hne
    rw [blk_iceS, if_neg hne]
    simpa using hm
  refine ⟨fun t x hx => ?_, ⟨fun m x hx => ?_, fun m k b x y hx hy => ?_, fun m x b hx hb hm => ?_, fun b hb => hb.1, fun m ds hx k hk => ?_⟩, h.nt, h.base, h.frm, fun m x b hx hb => ?_, h.defers⟩
  · have hx' : get t (mapT (Ab.ice n cs) σ.tm) = some x := hx
    rw [get_mapT] at hx'
    obtain ⟨y, hy, rfl⟩ := Option.map_eq_some_iff.1 hx'
    obtain ⟨h1, h2⟩ := h.tm t y hy
    exact ⟨frel y _ h1, fun m hm => bnd m (h2 m (names_ice n cs y m hm).1) (names_ice n cs y m hm).2⟩
  · rw [blk_iceS] at hx
    split at hx
    · cases hx
    · obtain ⟨y, hy, rfl⟩ := mapBlk_some hx
      have hy' := h.hp.blk m y hy
      cases y with
      | rows e sz rs => exact hy'.mono rfl (fun _ _ => rfl) him (fun _ _ => rfl) (fun _ _ => rfl)
      | deep e sz rs cols foc => exact (hy'.keepF (h := Ab.ice n cs)).mono rfl (fun _ _ => rfl) him (fun _ _ => rfl) (fun _ _ => rfl)
      | cells ds =>
        obtain ⟨b, arr, T, h1, h2, h3, h5⟩ := hy'
        refine ⟨b, arr, T, h1, h2, by simpa using h3, fun i x v hx hv => ?_⟩
        rw [List.getElem?_map] at hx
        obtain ⟨z, hz, rfl⟩ := Option.map_eq_some_iff.1 hx
        exact ⟨(h5 i z v hz hv).1, frel z v (h5 i z v hz hv).2⟩
  · rw [blk_iceS] at hx hy
    split at hx
    · cases hx
    split at hy
    · cases hy
    obtain ⟨x', hx', rfl⟩ := mapBlk_some hx
    obtain ⟨y', hy', rfl⟩ := mapBlk_some hy
    rw [owns_map, owns_map]
    exact h.hp.inj m k b x' y' hx' hy'
  · exact hm.2.2 m x hx hb
  · rw [blk_iceS] at hx
    split at hx
    · cases hx
    · obtain ⟨y, hy, rfl⟩ := mapBlk_some hx
      obtain ⟨h1, h2⟩ := bnames_ice hk
      exact bnd k (h.hp.clos m y hy k h1) h2
  · rw [blk_iceS] at hx
    split at hx
    · cases hx
    · obtain ⟨y, hy, rfl⟩ := mapBlk_some hx
      exact h.own m y b hy (owns_map.1 hb)
end
theorem Wk.ice {X : Cx} {σ : AS} (n : Nat) {cs : List AV} (hn : blk σ n = some (.cells cs)) (hcs : namess cs = []) : Wk X σ (iceS σ n cs) := fun γ a w ⟨ρ, h⟩ => ⟨ρ, h.ice hn hcs⟩
attribute [go_sem] iceS ice ices
end Go.Proofs.YtmlejhpeoiicpaaDoor.Ab
namespace Go.Proofs.YtmlejhpeoiicpaaDoor.Ab
open Go Go.RowKit Go.ChangeShapes Go.WideShapes
set_option linter.unusedVariables false
set_option linter.unusedSimpArgs false

def contB (D : Nat → TI) : List (Nat × Nat) → Nat → Nat → Bool
  | [], o, n => decide (o = n)
  | (o', t) :: r, o, n => decide (o' = o) && contB D r (o + (D t).n) n
def plainB (D : Nat → TI) : Nat → Nat → Bool
  | 0, _ => false
  | f + 1, t => match (D t).k with
    | .int _ => decide ((D t).n = 1)
    | .bool => decide ((D t).n = 1)
    | .str => decide ((D t).n = 1)
    | .slice e => decide ((D t).n = 1) && plainB D f e
    | .struct fs => contB D fs 0 (D t).n && fs.all (fun x => plainB D f x.2)
    | _ => false
def ShpF (S : Nat → List AV → Prop) : List (Nat × Nat) → List AV → Prop
  | [], cs => cs = []
  | (_, t) :: r, cs => ∃ a b, cs = a ++ b ∧ S t a ∧ ShpF S r b
/-- cells of a plain type; lists and texts no longer than B -/
def Shp (D : Nat → TI) (B : Nat) : Nat → Nat → List AV → Prop
  | 0, _, _ => False
  | f + 1, t, cs => match (D t).k with
    | .int k => ∃ n, cs = [.int k n] ∧ (Lit.int k n).wf = true
    | .bool => ∃ b, cs = [.bool b]
    | .str => ∃ l, cs = [.str l] ∧ l.length ≤ B
    | .slice e => ∃ rs, cs = [.sl (D e).n rs] ∧ rs.length ≤ B ∧ ∀ row ∈ rs, Shp D B f e row
    | .struct fs => ShpF (Shp D B f) fs cs
    | _ => False

theorem cellsOf_n {P : Program} {D : Nat → TI} (hT : TOk P D) {t : Nat} (h : isOther (D t).k = false) : P.cellsOf t = (D t).n := by
  obtain ⟨i, z, h1, h2, _⟩ := ty_info hT h
  simp [Program.cellsOf, h1, h2]
theorem plain_other {D : Nat → TI} {f t : Nat} (h : plainB D f t = true) : isOther (D t).k = false := by
  cases f with
  | zero => cases h
  | succ f =>
    unfold plainB at h
    cases hk : (D t).k <;> rw [hk] at h <;> first | rfl | cases h

section
variable {H : Type} {enc : TypeId × Value → H} {P : Program} {W : World} {D : Nat → TI} {B : Nat}
def GoodA (W : World) (us : List AV) (cs : List Value) : Prop := us.length = cs.length ∧ ∀ (i : Nat) a v, us[i]? = some a → cs[i]? = some v → Rel W (· < W.heap.size) ρ0 a v ∧ v.oneCell' = true ∧ names a = []
theorem GoodA.one {a : AV} {v : Value} (h : Rel W (· < W.heap.size) ρ0 a v) (h1 : v.oneCell' = true) (h2 : names a = []) : GoodA W [a] [v] := by
  refine ⟨rfl, fun i x u hx hu => ?_⟩
  cases i with
  | zero => simp at hx hu; subst hx hu; exact ⟨h, h1, h2⟩
  | succ i => simp at hx
theorem GoodA.append {us bs : List AV} {cs ds : List Value} (h : GoodA W us cs) (k : GoodA W bs ds) : GoodA W (us ++ bs) (cs ++ ds) := by
  refine ⟨by simp [h.1, k.1], fun i x u hx hu => ?_⟩
  by_cases hi : i < us.length
  · rw [List.getElem?_append_left hi] at hx
    rw [List.getElem?_append_left (by rw [← h.1]; exact hi)] at hu
    exact h.2 i x u hx hu
  · rw [List.getElem?_append_right (by omega)] at hx
    rw [List.getElem?_append_right (by rw [← h.1]; omega), ← h.1] at hu
    exact k.2 _ x u hx hu

theorem open_fields (hT : TOk P D) {S : Nat → List AV → Prop} {m N : Nat} {cs : List Value} (hN : cs.length = N)
    (hS : ∀ (t : Nat) (ds : List Value) (y : DataW H × List MemPlace), isOther (D t).k = false → plainB D m t = true → ∀ n, DataW.trod enc P W 0 (fun _ => true) true n t ds = some y → Rows.uptoBulk y.1 ≤ B → ∃ us, S t us ∧ us.length = (D t).n ∧ GoodA W us ds)
    {n : Nat} : ∀ (fs : List (Nat × Nat)) (flds : List Field) (xs : List (DataW H × List MemPlace)) (o : Nat), fieldsB P D fs flds = true → contB D fs o N = true → fs.all (fun x => plainB D m x.2) = true → o ≤ N → xs.length = flds.length →
      (∀ (i : Nat) (f : Field), flds[i]? = some f → DataW.trod enc P W 0 (fun _ => true) true n f.type ((cs.drop f.offset).take (P.cellsOf f.type)) = xs[i]?) → (∀ x ∈ xs, Rows.uptoBulk x.1 ≤ B) →
      ∃ us, ShpF S fs us ∧ o + us.length = N ∧ GoodA W us (cs.drop o)
  | [], [], xs, o, _, hc, _, ho, _, _, _ => by
    simp only [contB, decide_eq_true_eq] at hc
    refine ⟨[], rfl, by simpa using hc, by simp; omega, fun i a v ha => by simp at ha⟩
  | [], _ :: _, _, _, h, _, _, _, _, _, _ => by simp [fieldsB] at h
  | _ :: _, [], _, _, h, _, _, _, _, _, _ => by simp [fieldsB] at h
  | (o', t) :: r, f :: flds, xs, o, h, hc, hp, ho, hl, hf, hb => by
    simp only [fieldsB, Bool.and_eq_true, decide_eq_true_eq] at h
    obtain ⟨⟨⟨h1, h2⟩, h3⟩, h4⟩ := h
    simp only [contB, Bool.and_eq_true, decide_eq_true_eq] at hc
    obtain ⟨rfl, hc⟩ := hc
    rw [List.all_cons, Bool.and_eq_true] at hp
    match xs, hl with
    | x :: xs, hl =>
      have hot := plain_other hp.1
      have hx := hf 0 f rfl
      rw [h1, h2, cellsOf_n hT hot] at hx
      simp only [List.getElem?_cons_zero] at hx
      obtain ⟨us, a1, a2, a3⟩ := hS t _ x hot hp.1 n hx (hb x (by simp))
      have hlen : ((cs.drop o').take (D t).n).length = (D t).n := by rw [← a3.1, a2]
      rw [List.length_take, List.length_drop] at hlen
      obtain ⟨bs, b1, b2, b3⟩ := open_fields hT hN hS r flds xs (o' + (D t).n) h4 hc hp.2 (by omega) (by simpa using hl) (fun i f hi => by simpa using hf (i + 1) f (by simpa using hi)) (fun y hy => hb y (by simp [hy]))
      refine ⟨us ++ bs, ⟨us, bs, rfl, a1, b1⟩, by rw [List.length_append]; omega, ?_⟩
      have := a3.append b3
      rwa [← List.drop_drop, List.take_append_drop] at this

theorem open_any (hT : TOk P D) : ∀ (m t : Nat), plainB D m t = true → ∀ (n : Nat) (cs : List Value) (x : DataW H × List MemPlace), DataW.trod enc P W 0 (fun _ => true) true n t cs = some x → Rows.uptoBulk x.1 ≤ B →
    ∃ us, Shp D B m t us ∧ us.length = (D t).n ∧ GoodA W us cs
  | 0, t, hp, _, _, _, _, _ => by cases hp
  | m + 1, t, hp, n, cs, x, h, hb => by
    have hot := plain_other hp
    unfold plainB at hp
    unfold Shp
    cases hk : (D t).k with
    | int k =>
      rw [hk] at hp
      obtain ⟨z, rfl, rfl, hw⟩ := DataW.trod_int (ty_int hT hk) h
      exact ⟨[.int k z], ⟨z, rfl, hw⟩, by simpa using (of_decide_eq_true hp).symm, GoodA.one (.int _ _) rfl rfl⟩
    | bool =>
      rw [hk] at hp
      have hu : P.underlying t = some .bool := by
        have h1 := (ty_kind hT (T := t) hot).1
        rw [hk] at h1
        cases hu : P.underlying t with
        | none => rw [hu] at h1; cases h1
        | some u => rw [hu] at h1; cases u <;> simp [kindB] at h1; rfl
      obtain ⟨z, rfl, rfl⟩ := DataW.trod_bool hu h
      exact ⟨[.bool z], ⟨z, rfl⟩, by simpa using (of_decide_eq_true hp).symm, GoodA.one (.bool _) rfl rfl⟩
    | str =>
      rw [hk] at hp
      obtain ⟨s, rfl, rfl, hs⟩ := DataW.trod_string (ty_str hT hk) h
      refine ⟨[.str s.data.toList], ⟨_, rfl, ?_⟩, by simpa using (of_decide_eq_true hp).symm, GoodA.one (.str _) rfl rfl⟩
      simp only [Rows.uptoBulk] at hb
      omega
    | slice e =>
      rw [hk] at hp
      simp only [Bool.and_eq_true, decide_eq_true_eq] at hp
      obtain ⟨hu, he, hpos⟩ := ty_slice hT hk
      have hce := cellsOf_n hT he
      rcases Deep.open_slice hu h with ⟨rfl, rfl⟩ | ⟨a, len, cap, mm, n', Dd, Pl, rfl, _, h1, h2, h3, rfl, hc⟩
      · refine ⟨[.sl (D e).n []], ⟨[], rfl, Nat.zero_le _, by simp⟩, by simp [hp.1], GoodA.one (.sl _ [] none 0 0 0 (fun _ _ => .nilIface) (Nat.le_refl _) (Nat.zero_le _) (fun h => absurd h (by simp)) (by simp) (by simp) (by simp)) rfl rfl⟩
      · simp only [if_true] at h3
        subst h3
        simp only [Rows.uptoBulk] at hb
        have hbl := bulk_len ((List.range len).map Dd)
        rw [List.length_map, List.length_range] at hbl
        have each : ∀ i, i < len → ∃ y : List AV × List Value, Shp D B m e y.1 ∧ y.1.length = (D e).n ∧ GoodA W y.1 y.2 ∧ ∀ j v, y.2[j]? = some v → W.cell? ((a.add (i * (D e).n)).add j) = some v := fun i hi => by
          obtain ⟨cs', q1, q2⟩ := hc i (by omega)
          rw [hce] at q1
          obtain ⟨_, ql, qc⟩ := World.cells?_some q1
          have hm := bulk_mem (l := (List.range len).map Dd) (d := Dd i) (List.mem_map.2 ⟨i, List.mem_range.2 hi, rfl⟩)
          obtain ⟨us, p1, p2, p3⟩ := open_any hT m e hp.2 n' cs' (Dd i, Pl i) q2 (by simp only; omega)
          refine ⟨(us, cs'), p1, p2, p3, fun j v hj => ?_⟩
          have hj' := (List.getElem?_eq_some_iff.1 hj).1
          simp only at hj hj'
          rw [qc j (by omega), hj]
        obtain ⟨Y, hY⟩ := Deep.choose_lt each
        have hrow : ∀ {i : Nat} {row : List AV}, ((List.range len).map fun i => (Y i).1)[i]? = some row → i < len ∧ row = (Y i).1 := fun {i row} hi => by
          rw [List.getElem?_map] at hi
          obtain ⟨k, hk1, rfl⟩ := Option.map_eq_some_iff.1 hi
          obtain ⟨hlt, e1⟩ := List.getElem?_eq_some_iff.1 hk1
          simp at hlt e1
          subst e1
          exact ⟨hlt, rfl⟩
        have hadr : 0 < len → ∃ b o, a = ⟨b, o, none⟩ ∧ b < W.heap.size := fun hl => by
          obtain ⟨q1, q2, q3, q4⟩ := hY 0 hl
          have hpos' : 0 < (Y 0).2.length := by rw [← q3.1, q2]; exact hpos
          have hc0 := q4 0 _ (List.getElem?_eq_getElem hpos')
          obtain ⟨⟨b', o', e'⟩, hb'⟩ := cell_addr hc0
          obtain ⟨b, o, s⟩ := a
          rw [block_of_add, block_of_add] at hb'
          have hs : s = none := by
            cases s with
            | none => rfl
            | some k => simp [Addr.add] at e'
          subst hs
          exact ⟨b, o, rfl, hb'⟩
        refine ⟨[.sl (D e).n ((List.range len).map fun i => (Y i).1)], ⟨_, rfl, by rw [List.length_map, List.length_range]; omega, fun row hr => ?_⟩, by simp [hp.1], GoodA.one ?_ rfl rfl⟩
        · obtain ⟨i, hi, rfl⟩ := List.mem_map.1 hr
          exact (hY i (List.mem_range.1 hi)).1
        · have hll : ((List.range len).map fun i => (Y i).1).length = len := by simp
          by_cases hl : 0 < len
          · obtain ⟨b, o, rfl, hblt⟩ := hadr hl
            have := Rel.sl (w := W) (im := (· < W.heap.size)) (ρ := ρ0) (D e).n ((List.range len).map fun i => (Y i).1) (some ⟨b, o, none⟩) mm b o (fun i j => (Y i).2.getD j .nilIface) (by omega) h2 (fun _ => ⟨rfl, hblt⟩) (fun i row hi => ?_) (fun i j row x hi hj => ?_) (fun i j row x hi hj => ?_)
            · rw [hll] at this; exact this
            · obtain ⟨hlt, rfl⟩ := hrow hi
              exact (hY i hlt).2.1
            · obtain ⟨hlt, rfl⟩ := hrow hi
              obtain ⟨p1, p2, p3, p4⟩ := hY i hlt
              have hjl := (List.getElem?_eq_some_iff.1 hj).1
              have hj2 : j < (Y i).2.length := by rw [← p3.1]; exact hjl
              have hv : (Y i).2[j]? = some (Y i).2[j] := List.getElem?_eq_getElem hj2
              have hg : (Y i).2.getD j .nilIface = (Y i).2[j] := by simp [hj2]
              have hc1 := p4 j _ hv
              rw [add_flat, add_flat] at hc1
              simp only [hg]
              exact ⟨by rw [← Nat.add_assoc]; exact hc1, (p3.2 j x _ hj hv).2⟩
            · obtain ⟨hlt, rfl⟩ := hrow hi
              obtain ⟨p1, p2, p3, p4⟩ := hY i hlt
              have hjl := (List.getElem?_eq_some_iff.1 hj).1
              have hj2 : j < (Y i).2.length := by rw [← p3.1]; exact hjl
              have hv : (Y i).2[j]? = some (Y i).2[j] := List.getElem?_eq_getElem hj2
              have hg : (Y i).2.getD j .nilIface = (Y i).2[j] := by simp [hj2]
              simp only [hg]
              exact (p3.2 j x _ hj hv).1
          · have hl0 : len = 0 := by omega
            subst hl0
            exact .sl (D e).n [] (some a) mm 0 0 (fun _ _ => .nilIface) (Nat.zero_le _) h2 (fun h => absurd h (by simp)) (by simp) (by simp) (by simp)
    | struct fs =>
      rw [hk] at hp
      simp only [Bool.and_eq_true] at hp
      obtain ⟨flds, hu, hfb⟩ := ty_struct hT hk
      obtain ⟨xs, n', rfl, rfl, hl, hxl, hf⟩ := DataW.trod_struct hu h
      rw [cellsOf_n hT hot] at hl
      simp only [Rows.uptoBulk] at hb
      obtain ⟨us, a1, a2, a3⟩ := open_fields hT (S := Shp D B m) (m := m) (B := B) hl (fun t' ds y _ hpt n hy hyb => open_any hT m t' hpt n ds y hy hyb) fs flds.toList xs 0 hfb hp.1 hp.2 (Nat.zero_le _) (by simpa using hxl) (fun i f hi => hf i f (by simpa using hi))
        (fun y hy => by have := bulk_mem (l := xs.map (·.1)) (d := y.1) (List.mem_map.2 ⟨y, hy, rfl⟩); omega)
      rw [Nat.zero_add] at a2
      exact ⟨us, a1, a2, by simpa using a3⟩
    | ref => rw [hk] at hp; cases hp
    | iface => rw [hk] at hp; cases hp
    | other => rw [hk] at hp; cases hp
/-- an argument of a plain type -/
theorem open_arg (hT : TOk P D) {m t : Nat} (hp : plainB D m t = true) {r : Reach} {b0 : Nat} {v : Value} {d : DataW H} {ps : List MemPlace} (hval : Value.okWide P W r b0 t v) (h : DataW.Trod enc P W 0 (fun _ => true) true t v d ps) (hb : Rows.uptoBulk d ≤ B) :
    ∃ us, Shp D B m t us ∧ us.length = (D t).n ∧ Rel W (· < W.heap.size) ρ0 (match (D t).k with | .struct _ => .agg us | _ => us.headD .junk) v := by
  obtain ⟨n, hn⟩ := h
  obtain ⟨us, h1, h2, h3⟩ := open_any hT m t hp n _ _ hn hb
  refine ⟨us, h1, h2, ?_⟩
  have hot := plain_other hp
  have one : v.cells = #[v] → Rel W (· < W.heap.size) ρ0 (us.headD .junk) v := fun hc => by
    rw [hc] at h3
    match us, h3 with
    | [a], h3 => exact (h3.2 0 a v rfl rfl).1
    | [], h3 => have := h3.1; simp at this
    | _ :: _ :: _, h3 => have := h3.1; simp at this
  cases hk : (D t).k with
  | int k =>
    obtain ⟨z, rfl⟩ := okWide_int (ty_int hT hk) hval
    exact one rfl
  | bool =>
    have hu : P.underlying t = some .bool := by
      have h1 := (ty_kind hT (T := t) hot).1
      rw [hk] at h1
      cases hu : P.underlying t with
      | none => rw [hu] at h1; cases h1
      | some u => rw [hu] at h1; cases u <;> simp [kindB] at h1; rfl
    obtain ⟨z, rfl⟩ := okWide_bool hu hval
    exact one rfl
  | str =>
    obtain ⟨z, rfl⟩ := okWide_string (ty_str hT hk) hval
    exact one rfl
  | slice e =>
    obtain ⟨a, l, c, rfl⟩ := okWide_slice (ty_slice hT hk).1 hval
    exact one rfl
  | struct fs =>
    obtain ⟨flds, hu, _⟩ := ty_struct hT hk
    obtain ⟨vs, rfl, hsz⟩ := okWide_struct hu hval
    simp only [Value.cells] at h3
    exact .agg us vs (by have := h3.1; simp at this; omega) (fun i u hu => by
      have hi := (Array.getElem?_eq_some_iff.1 hu).1
      have hi2 : i < us.length := by have := h3.1; simp at this; omega
      exact (h3.2 i us[i] u (List.getElem?_eq_getElem hi2) (by simpa using hu)).2.1) (fun i a u ha hu => (h3.2 i a u ha (by simpa using hu)).1)
  | ref => unfold plainB at hp; cases m <;> simp [hk] at hp
  | iface => unfold plainB at hp; cases m <;> simp [hk] at hp
  | other => rw [hk] at hot; cases hot
end
/-! texts, numbers, properties, notes -/
theorem shp_str {t : Nat} (hk : (D t).k = .str) {m : Nat} {B : Nat} {us : List AV} (h : Shp D B (m + 1) t us) : ∃ s : ByteArray, us = [.str s.data.toList] ∧ s.size ≤ B := by
  simp only [Shp, hk] at h
  obtain ⟨l, rfl, hl⟩ := h
  exact ⟨⟨⟨l⟩⟩, rfl, hl⟩
theorem shp_i64 {t : Nat} (hk : (D t).k = .int .i64) {m : Nat} {B : Nat} {us : List AV} (h : Shp D B (m + 1) t us) : ∃ n : Int, us = [.int .i64 n] ∧ -9223372036854775808 ≤ n ∧ n ≤ 9223372036854775807 := by
  simp only [Shp, hk] at h
  obtain ⟨n, rfl, hw⟩ := h
  exact ⟨n, rfl, by simpa [Lit.wf, IntKind.min, IntKind.max, IntKind.signed, IntKind.bits] using hw⟩
theorem shp_slice {t e : Nat} (hk : (D t).k = .slice e) {m : Nat} {B : Nat} {us : List AV} (h : Shp D B (m + 1) t us) : ∃ rs, us = [.sl (D e).n rs] ∧ rs.length ≤ B ∧ ∀ row ∈ rs, Shp D B m e row := by
  unfold Shp at h
  rw [hk] at h
  exact h
theorem shp_struct {t : Nat} {fs : List (Nat × Nat)} (hk : (D t).k = .struct fs) {m : Nat} {B : Nat} {us : List AV} (h : Shp D B (m + 1) t us) : ShpF (Shp D B m) fs us := by
  unfold Shp at h
  rw [hk] at h
  exact h
theorem shp_rows {α : Type} {f : α → List AV} {Q : α → Prop} : ∀ {rs : List (List AV)}, (∀ row ∈ rs, ∃ x, row = f x ∧ Q x) → ∃ l : List α, rs = l.map f ∧ ∀ x ∈ l, Q x
  | [], _ => ⟨[], rfl, by simp⟩
  | r :: rs, h => by
    obtain ⟨x, rfl, hx⟩ := h r (by simp)
    obtain ⟨l, rfl, hl⟩ := shp_rows (rs := rs) (f := f) (Q := Q) fun row hrow => h row (by simp [hrow])
    refine ⟨x :: l, rfl, fun y hy => ?_⟩
    rcases List.mem_cons.1 hy with rfl | hy
    · exact hx
    · exact hl y hy
theorem shp_prop {m : Nat} {B : Nat} {us : List AV} (h : Shp D B (m + 2) 45 us) : ∃ p : LProp, us = propRow p ∧ p.key.size ≤ B ∧ p.text.size ≤ B := by
  simp only [Shp, ShpF, D_1, D_2, D_3, D_4, D_5, D_6, D_7, D_8, D_9, D_10, D_11, D_12, D_13, D_14, D_15, D_16, D_17, D_18, D_19, D_20, D_21, D_22, D_23, D_24, D_25, D_26, D_27, D_28, D_29, D_30, D_31, D_32, D_33, D_35, D_36, D_37, D_38, D_40, D_41, D_42, D_43, D_44, D_45, D_47, D_48, D_49, D_50, D_51, D_52, D_53, D_55, D_57, D_58, D_60, D_62, D_63, D_65, D_66, D_68, D_69, D_70, D_72, D_74, D_76, D_77, D_78, D_79, D_80, D_81, D_82, D_83, D_85, D_86, D_87, D_88, D_90, D_91, D_93, D_95, D_96, D_97, D_99, D_100, D_101, D_103, D_104, D_105, D_106, D_107, D_108, D_110, D_111, D_112, D_114, D_116, D_117, D_118, D_119, D_121, D_122, D_124, D_125, D_126, D_127, D_128, D_129, D_131, D_133, D_134, D_136, D_137, D_138, D_139, D_140, D_141, D_143, D_145, D_146, D_148, D_149, D_150, D_151, D_154, D_155, D_159, D_160, D_161, D_162, D_163, D_164, D_165, D_166] at h
  obtain ⟨_, _, rfl, ⟨k, rfl, hk⟩, _, _, rfl, ⟨a, rfl, ha⟩, _, _, rfl, ⟨b, rfl, hb⟩, _, _, rfl, ⟨t, rfl, ht⟩, rfl⟩ := h
  exact ⟨⟨⟨⟨k⟩⟩, a, b, ⟨⟨t⟩⟩⟩, rfl, hk, ht⟩
theorem shp_props {m : Nat} {B : Nat} {us : List AV} (h : Shp D B (m + 3) 22 us) : ∃ l : List LProp, us = [.sl 4 (l.map propRow)] ∧ l.length ≤ B ∧ ∀ p ∈ l, p.key.size ≤ B ∧ p.text.size ≤ B := by
  obtain ⟨rs, rfl, hl, hr⟩ := shp_slice (e := 45) (by simp only [D_1, D_2, D_3, D_4, D_5, D_6, D_7, D_8, D_9, D_10, D_11, D_12, D_13, D_14, D_15, D_16, D_17, D_18, D_19, D_20, D_21, D_22, D_23, D_24, D_25, D_26, D_27, D_28, D_29, D_30, D_31, D_32, D_33, D_35, D_36, D_37, D_38, D_40, D_41, D_42, D_43, D_44, D_45, D_47, D_48, D_49, D_50, D_51, D_52, D_53, D_55, D_57, D_58, D_60, D_62, D_63, D_65, D_66, D_68, D_69, D_70, D_72, D_74, D_76, D_77, D_78, D_79, D_80, D_81, D_82, D_83, D_85, D_86, D_87, D_88, D_90, D_91, D_93, D_95, D_96, D_97, D_99, D_100, D_101, D_103, D_104, D_105, D_106, D_107, D_108, D_110, D_111, D_112, D_114, D_116, D_117, D_118, D_119, D_121, D_122, D_124, D_125, D_126, D_127, D_128, D_129, D_131, D_133, D_134, D_136, D_137, D_138, D_139, D_140, D_141, D_143, D_145, D_146, D_148, D_149, D_150, D_151, D_154, D_155, D_159, D_160, D_161, D_162, D_163, D_164, D_165, D_166]) h
  obtain ⟨l, rfl, h2⟩ := shp_rows (f := propRow) (Q := fun p => p.key.size ≤ B ∧ p.text.size ≤ B) fun row hrow => shp_prop (hr row hrow)
  refine ⟨l, by simp only [D_1, D_2, D_3, D_4, D_5, D_6, D_7, D_8, D_9, D_10, D_11, D_12, D_13, D_14, D_15, D_16, D_17, D_18, D_19, D_20, D_21, D_22, D_23, D_24, D_25, D_26, D_27, D_28, D_29, D_30, D_31, D_32, D_33, D_35, D_36, D_37, D_38, D_40, D_41, D_42, D_43, D_44, D_45, D_47, D_48, D_49, D_50, D_51, D_52, D_53, D_55, D_57, D_58, D_60, D_62, D_63, D_65, D_66, D_68, D_69, D_70, D_72, D_74, D_76, D_77, D_78, D_79, D_80, D_81, D_82, D_83, D_85, D_86, D_87, D_88, D_90, D_91, D_93, D_95, D_96, D_97, D_99, D_100, D_101, D_103, D_104, D_105, D_106, D_107, D_108, D_110, D_111, D_112, D_114, D_116, D_117, D_118, D_119, D_121, D_122, D_124, D_125, D_126, D_127, D_128, D_129, D_131, D_133, D_134, D_136, D_137, D_138, D_139, D_140, D_141, D_143, D_145, D_146, D_148, D_149, D_150, D_151, D_154, D_155, D_159, D_160, D_161, D_162, D_163, D_164, D_165, D_166], by simpa using hl, h2⟩
/-! bytes -/
theorem shp_bytes {m : Nat} {B : Nat} {us : List AV} (h : Shp D B (m + 2) 23 us) : ∃ l : List UInt8, us = [.sl 1 (l.map byteRow)] ∧ l.length ≤ B := by
  simp only [Shp, D_1, D_2, D_3, D_4, D_5, D_6, D_7, D_8, D_9, D_10, D_11, D_12, D_13, D_14, D_15, D_16, D_17, D_18, D_19, D_20, D_21, D_22, D_23, D_24, D_25, D_26, D_27, D_28, D_29, D_30, D_31, D_32, D_33, D_35, D_36, D_37, D_38, D_40, D_41, D_42, D_43, D_44, D_45, D_47, D_48, D_49, D_50, D_51, D_52, D_53, D_55, D_57, D_58, D_60, D_62, D_63, D_65, D_66, D_68, D_69, D_70, D_72, D_74, D_76, D_77, D_78, D_79, D_80, D_81, D_82, D_83, D_85, D_86, D_87, D_88, D_90, D_91, D_93, D_95, D_96, D_97, D_99, D_100, D_101, D_103, D_104, D_105, D_106, D_107, D_108, D_110, D_111, D_112, D_114, D_116, D_117, D_118, D_119, D_121, D_122, D_124, D_125, D_126, D_127, D_128, D_129, D_131, D_133, D_134, D_136, D_137, D_138, D_139, D_140, D_141, D_143, D_145, D_146, D_148, D_149, D_150, D_151, D_154, D_155, D_159, D_160, D_161, D_162, D_163, D_164, D_165, D_166] at h
  obtain ⟨rs, rfl, hl, hr⟩ := h
  have hB : ∀ row ∈ rs, ∃ b : UInt8, row = byteRow b := fun row hrow => by
    obtain ⟨n, rfl, hw⟩ := hr row hrow
    have hx : 0 ≤ n ∧ n ≤ 255 := by simpa [Lit.wf, IntKind.min, IntKind.max, IntKind.signed, IntKind.bits] using hw
    refine ⟨UInt8.ofNat n.toNat, ?_⟩
    have e : ((UInt8.ofNat n.toNat).toNat : Int) = n := by
      rw [UInt8.toNat_ofNat']
      omega
    rw [byteRow, e]
  clear hr
  have : ∃ l : List UInt8, rs = l.map byteRow := by
    clear hl
    induction rs with
    | nil => exact ⟨[], rfl⟩
    | cons x r ih =>
      obtain ⟨b, rfl⟩ := hB x (by simp)
      obtain ⟨l, rfl⟩ := ih fun row hrow => hB row (by simp [hrow])
      exact ⟨b :: l, rfl⟩
  obtain ⟨l, rfl⟩ := this
  exact ⟨l, rfl, by simpa using hl⟩
theorem shp_note {m : Nat} {B : Nat} {us : List AV} (h : Shp D B (m + 4) 25 us) : ∃ n : LNote, AV.agg us = noteA n ∧ us = [.sl 4 (n.props.map propRow), .sl 1 (n.body.map byteRow)] ∧ n.props.length ≤ B ∧ n.body.length ≤ B ∧ ∀ p ∈ n.props, p.key.size ≤ B ∧ p.text.size ≤ B := by
  have h := shp_struct (fs := [(0, 22), (1, 23)]) (by simp only [D_1, D_2, D_3, D_4, D_5, D_6, D_7, D_8, D_9, D_10, D_11, D_12, D_13, D_14, D_15, D_16, D_17, D_18, D_19, D_20, D_21, D_22, D_23, D_24, D_25, D_26, D_27, D_28, D_29, D_30, D_31, D_32, D_33, D_35, D_36, D_37, D_38, D_40, D_41, D_42, D_43, D_44, D_45, D_47, D_48, D_49, D_50, D_51, D_52, D_53, D_55, D_57, D_58, D_60, D_62, D_63, D_65, D_66, D_68, D_69, D_70, D_72, D_74, D_76, D_77, D_78, D_79, D_80, D_81, D_82, D_83, D_85, D_86, D_87, D_88, D_90, D_91, D_93, D_95, D_96, D_97, D_99, D_100, D_101, D_103, D_104, D_105, D_106, D_107, D_108, D_110, D_111, D_112, D_114, D_116, D_117, D_118, D_119, D_121, D_122, D_124, D_125, D_126, D_127, D_128, D_129, D_131, D_133, D_134, D_136, D_137, D_138, D_139, D_140, D_141, D_143, D_145, D_146, D_148, D_149, D_150, D_151, D_154, D_155, D_159, D_160, D_161, D_162, D_163, D_164, D_165, D_166]) h
  simp only [ShpF] at h
  obtain ⟨_, _, rfl, h1, _, _, rfl, h2, rfl⟩ := h
  obtain ⟨l, rfl, q1, q2⟩ := shp_props h1
  obtain ⟨b, rfl, q3⟩ := shp_bytes h2
  exact ⟨⟨l, b⟩, rfl, rfl, q1, q3, q2⟩
end Go.Proofs.YtmlejhpeoiicpaaDoor.Ab
namespace Go.Proofs.YtmlejhpeoiicpaaDoor.Ab
open Go Go.RowKit
set_option linter.unusedVariables false
set_option linter.unusedSimpArgs false

structure LAsk where
  kind : Int
  queue : ByteArray
  n : Int
  note : LNote
structure LSay where
  kind : Int
  n : Int
  m : Int
  err : Int
  note : LNote
def LAsk.Fits (a : LAsk) : Prop := a.queue.size ≤ 1048576 ∧ a.note.Fits
def namedS (k : Int) : Bool := decide (k = 2 ∨ k = 3 ∨ k = 4 ∨ k = 5 ∨ k = 6 ∨ k = 9)
def lowS (k : Int) : Int := if k = 6 ∨ k = 7 ∨ k = 8 then 1 else 0
def highS (k : Int) : Int := if k = 2 ∨ k = 7 ∨ k = 8 then 1073741824 else if k = 6 then 9 else 0
def wrongAskS (a : LAsk) : Int :=
  if a.kind < 1 ∨ 9 < a.kind then 1
  else if (if namedS a.kind = true then keyS a.queue = false else a.queue.size ≠ 0) then 7
  else if a.n < lowS a.kind ∨ highS a.kind < a.n then 3
  else if a.kind ≠ 4 ∧ 0 < a.note.props.length + a.note.body.length then 2
  else wrongS a.note
def wrongSayS (s : LSay) : Int :=
  if s.kind < 1 ∨ 4 < s.kind then 1
  else if s.kind = 2 then (if s.n < 1 ∨ 1073741824 < s.n ∨ s.m < 0 ∨ 3 < s.m ∨ s.err ≠ 0 then 3 else wrongS s.note)
  else if s.n ≠ 0 ∨ s.m ≠ 0 ∨ (s.kind = 4 ∧ (s.err ≤ 0 ∨ 10 < s.err)) ∨ (s.kind ≠ 4 ∧ s.err ≠ 0) then 3
  else if 0 < s.note.props.length + s.note.body.length then 2
  else 0
def askA (a : LAsk) : AV := .agg [.int .i64 a.kind, .str a.queue.data.toList, .int .i64 a.n, .sl 4 (a.note.props.map propRow), .sl 1 (a.note.body.map byteRow)]
def sayA (s : LSay) : AV := .agg [.int .i64 s.kind, .int .i64 s.n, .int .i64 s.m, .int .i64 s.err, .sl 4 (s.note.props.map propRow), .sl 1 (s.note.body.map byteRow)]
theorem askA_inj {a b : LAsk} (h : askA a = askA b) : a = b := by
  obtain ⟨k, q, n, ⟨p, y⟩⟩ := a
  obtain ⟨k', q', n', ⟨p', y'⟩⟩ := b
  simp only [askA, AV.agg.injEq, List.cons.injEq, AV.int.injEq, AV.str.injEq, AV.sl.injEq, true_and, and_true] at h
  obtain ⟨rfl, h2, rfl, h4, h5⟩ := h
  rw [bytes_ext h2, props_inj h4, bytes_inj h5]
theorem sayA_inj {a b : LSay} (h : sayA a = sayA b) : a = b := by
  obtain ⟨k, n, m, e, ⟨p, y⟩⟩ := a
  obtain ⟨k', n', m', e', ⟨p', y'⟩⟩ := b
  simp only [sayA, AV.agg.injEq, List.cons.injEq, AV.int.injEq, AV.str.injEq, AV.sl.injEq, true_and, and_true] at h
  obtain ⟨rfl, rfl, rfl, rfl, h4, h5⟩ := h
  rw [props_inj h4, bytes_inj h5]
theorem names_ask (s : LAsk) : names (askA s) = [] := by simp [askA, names, namess]
theorem names_say (s : LSay) : names (sayA s) = [] := by simp [sayA, names, namess]
attribute [simp] names_ask names_say
theorem note_empty {n : LNote} (h : n.props.length + n.body.length = 0) : n = note0 := by
  obtain ⟨p, b⟩ := n
  simp only at h
  have h1 : p = [] := List.eq_nil_of_length_eq_zero (by omega)
  have h2 : b = [] := List.eq_nil_of_length_eq_zero (by omega)
  rw [h1, h2]
  rfl
def nakedA (a : LAsk) : AV := .agg [.int .i64 a.kind, .str a.queue.data.toList, .int .i64 a.n, .nils, .nils]
theorem naked_inj {a b : LAsk} (ha : a.note = note0) (hb : b.note = note0) (h : nakedA a = nakedA b) : a = b := by
  obtain ⟨k, q, n, m⟩ := a
  obtain ⟨k', q', n', m'⟩ := b
  simp only at ha hb
  subst ha hb
  simp only [nakedA, AV.agg.injEq, List.cons.injEq, AV.int.injEq, AV.str.injEq, true_and, and_true] at h
  rw [h.1, bytes_ext h.2.1, h.2.2]
end Go.Proofs.YtmlejhpeoiicpaaDoor.Ab
namespace Go.Proofs.YtmlejhpeoiicpaaDoor.Ab
open Go Go.RowKit
set_option linter.unusedVariables false
set_option linter.unusedSimpArgs false

set_option maxRecDepth 100000 in
set_option maxHeartbeats 2000000 in
theorem con_frwrong (s : LSay) (hs : s.note.Fits) : Con Tryd.prog D 39 [sayA s] ⟨.int .i64 (wrongSayS s), []⟩ := by
  obtain ⟨kind, n, m, err, ⟨ps, bs⟩⟩ := s
  have h1 := hs.2.1
  have h2 := hs.2.2
  simp only at h1 h2
  have g1 : tabG [eWrong] 55 [noteA ⟨ps, bs⟩] = some ⟨.int .i64 (wrongS ⟨ps, bs⟩), []⟩ := tabG_at (E := eWrong) (T := [eWrong]) (i := 0) rfl (by decide) _ hs rfl rfl
  have hok : GOk Tryd.prog D (tabG [eWrong]) := tabG_ok _
  generalize tabG [eWrong] = G at *
  simp only [noteA] at g1
  have hcon : ∀ r, r = wrongSayS ⟨kind, n, m, err, ⟨ps, bs⟩⟩ → Con Tryd.prog D 39 [sayA ⟨kind, n, m, err, ⟨ps, bs⟩⟩] ⟨.int .i64 r, []⟩ := by
    intro r hr
    refine con_of (G := G) (rs := [(2, none)]) mixed tok hok Tryd.func39 rfl (by decide) Tryd.results39 (by decide) rfl Tryd.ntmps39 (by simp) (by simp [sayA, namess, names]) fun X hP hD hG' hX => evC_sound hX (fun _ => {}) _ _ _ ?_
    simp only [argS, num, sayA]
    simp (disch := omega) only [go_sem, hD, hG', g1, unbox]
    have hz : ps.length + bs.length = 0 → wrongS ⟨ps, bs⟩ = 0 := fun h => by rw [note_empty (n := ⟨ps, bs⟩) h]; rfl
    iterate 24 (all_goals (try (first | (refine RegT.mk [] ?_; simp (disch := omega) only [go_sem, hD, hG', g1, unbox]) | (refine condK_split (fun h => ?_) (fun h => ?_) <;> simp (disch := omega) only [go_sem, hD, hG', g1, unbox]) | and_intros)))
    all_goals (try (refine ⟨[], [], rfl, rfl, ?_, ?_⟩ <;> simp only [go_sem]))
    all_goals clear g1 hok hP hD hG' hX
    all_goals try (first | (intro hk; refine ⟨hk, fun h2 => ?_⟩; first | (rw [hk, h2]; rfl) | (rw [hk, decide_eq_false h2]; rfl)) | (intro hk; rw [decide_eq_false hk]; rfl) | (intro hk; rw [hk]; rfl))
    all_goals (subst hr; unfold wrongSayS; simp only)
    all_goals grind
  exact hcon _ rfl
set_option maxRecDepth 100000 in
set_option maxHeartbeats 2000000 in
theorem con_refwrongsay (s : LSay) (hs : s.note.Fits) : Con Tryd.prog D 12 [sayA s] ⟨.int .i64 (wrongSayS s), []⟩ := by
  obtain ⟨kind, n, m, err, ⟨ps, bs⟩⟩ := s
  have h1 := hs.2.1
  have h2 := hs.2.2
  simp only at h1 h2
  have g1 : tabG [eRefwrong] 22 [noteA ⟨ps, bs⟩] = some ⟨.int .i64 (wrongS ⟨ps, bs⟩), []⟩ := tabG_at (E := eRefwrong) (T := [eRefwrong]) (i := 0) rfl (by decide) _ hs rfl rfl
  have hok : GOk Tryd.prog D (tabG [eRefwrong]) := tabG_ok _
  generalize tabG [eRefwrong] = G at *
  simp only [noteA] at g1
  have hcon : ∀ r, r = wrongSayS ⟨kind, n, m, err, ⟨ps, bs⟩⟩ → Con Tryd.prog D 12 [sayA ⟨kind, n, m, err, ⟨ps, bs⟩⟩] ⟨.int .i64 r, []⟩ := by
    intro r hr
    refine con_of (G := G) (rs := [(2, none)]) mixed tok hok Tryd.func12 rfl (by decide) Tryd.results12 (by decide) rfl Tryd.ntmps12 (by simp) (by simp [sayA, namess, names]) fun X hP hD hG' hX => evC_sound hX (fun _ => {}) _ _ _ ?_
    simp only [argS, num, sayA]
    simp (disch := omega) only [go_sem, hD, hG', g1, unbox]
    iterate 24 (all_goals (try (first | (refine RegT.mk [] ?_; simp (disch := omega) only [go_sem, hD, hG', g1, unbox]) | (refine condK_split (fun h => ?_) (fun h => ?_) <;> simp (disch := omega) only [go_sem, hD, hG', g1, unbox]) | and_intros)))
    all_goals (try (refine ⟨[], [], rfl, rfl, ?_, ?_⟩ <;> simp only [go_sem]))
    all_goals clear g1 hok hP hD hG' hX
    all_goals try (first | (intro hk; refine ⟨hk, fun h2 => ?_⟩; first | (rw [hk, h2]; rfl) | (rw [hk, decide_eq_false h2]; rfl)) | (intro hk; rw [decide_eq_false hk]; rfl) | (intro hk; rw [hk]; rfl))
    all_goals try ((try and_intros); all_goals (try first | omega | decide | (simp; done) | (simp only [List.length_append, List.length_cons, List.length_nil, List.length_map]; omega)))
    all_goals (subst hr; unfold wrongSayS; simp only)
    all_goals grind
  exact hcon _ rfl
end Go.Proofs.YtmlejhpeoiicpaaDoor.Ab
namespace Go.Proofs.YtmlejhpeoiicpaaDoor.Ab
open Go Go.RowKit
set_option linter.unusedVariables false
set_option linter.unusedSimpArgs false

set_option maxRecDepth 100000 in
set_option maxHeartbeats 4000000 in
theorem con_wrongask (s : LAsk) (hs : s.Fits) : Con Tryd.prog D 36 [askA s] ⟨.int .i64 (wrongAskS s), []⟩ := by
  obtain ⟨kind, q, n, ⟨ps, bs⟩⟩ := s
  obtain ⟨hq, hs⟩ := hs
  have h1 := hs.2.1
  have h2 := hs.2.2
  simp only at h1 h2 hq
  have g1 : tabG [eWrong, eKey] 55 [noteA ⟨ps, bs⟩] = some ⟨.int .i64 (wrongS ⟨ps, bs⟩), []⟩ := tabG_at (E := eWrong) (T := [eWrong, eKey]) (i := 0) rfl (by decide) _ hs rfl rfl
  have g2 : tabG [eWrong, eKey] 54 [.str q.data.toList] = some ⟨.bool (keyS q), []⟩ := tabG_at (E := eKey) (T := [eWrong, eKey]) (i := 1) rfl (by decide) q hq rfl rfl
  have hok : GOk Tryd.prog D (tabG [eWrong, eKey]) := tabG_ok _
  generalize tabG [eWrong, eKey] = G at *
  simp only [noteA] at g1
  have hl : q.data.toList.length = q.size := rfl
  have hcon : ∀ r, r = wrongAskS ⟨kind, q, n, ⟨ps, bs⟩⟩ → Con Tryd.prog D 36 [askA ⟨kind, q, n, ⟨ps, bs⟩⟩] ⟨.int .i64 r, []⟩ := by
    intro r hr
    refine con_of (G := G) (rs := [(2, none)]) mixed tok hok Tryd.func36 rfl (by decide) Tryd.results36 (by decide) rfl Tryd.ntmps36 (by simp) (by simp [askA, namess, names]) fun X hP hD hG' hX => evC_sound hX (fun _ => {}) _ _ _ ?_
    simp only [argS, num, askA]
    generalize q.data.toList = ql at *
    simp (disch := omega) only [go_sem, hD, hG', g1, g2, unbox]
    iterate 24 (all_goals (try (first | (refine RegT.mk [] ?_; simp (disch := omega) only [go_sem, hD, hG', g1, g2, unbox]) | (refine condK_split (fun h => ?_) (fun h => ?_) <;> simp (disch := omega) only [go_sem, hD, hG', g1, g2, unbox]) | and_intros)))
    all_goals (try (refine ⟨[], [], rfl, rfl, ?_, ?_⟩ <;> simp only [go_sem]))
    all_goals clear g1 g2 hok hP hD hG' hX
    all_goals try (first | (intro hk; refine ⟨hk, fun h2 => ?_⟩; first | (rw [hk, h2]; rfl) | (rw [hk, decide_eq_false h2]; rfl)) | (intro hk; rw [decide_eq_false hk]; rfl) | (intro hk; rw [hk]; rfl))
    all_goals (subst hr; unfold wrongAskS namedS lowS highS; simp only)
    all_goals grind
  exact hcon _ rfl
end Go.Proofs.YtmlejhpeoiicpaaDoor.Ab
namespace Go.Proofs.YtmlejhpeoiicpaaDoor.Ab
open Go Go.RowKit
set_option linter.unusedVariables false
set_option linter.unusedSimpArgs false

def namedM : List (Value × Value) := [(.int .i64 2, .bool true), (.int .i64 3, .bool true), (.int .i64 4, .bool true), (.int .i64 5, .bool true), (.int .i64 6, .bool true), (.int .i64 9, .bool true)]
theorem namedM_look (k : Int) : lookV (.int .i64) (.int .i64 k) (.bool false) namedM = some (.bool (namedS k)) := by
  unfold namedM namedS
  simp only [lookV, Instr.sameNow]
  grind
theorem zero_bool (W : World) : (zeroValue 4).run Tryd.prog W = .ok (.bool false) W := by kernel_rfl
set_option maxRecDepth 100000 in
set_option maxHeartbeats 4000000 in
theorem con_refwrongask (s : LAsk) (hs : s.Fits) : Con Tryd.prog D 8 [askA s] ⟨.int .i64 (wrongAskS s), []⟩ := by
  obtain ⟨kind, q, n, ⟨ps, bs⟩⟩ := s
  obtain ⟨hq, hs⟩ := hs
  have h1 := hs.2.1
  have h2 := hs.2.2
  simp only at h1 h2 hq
  have g1 : tabG [eRefwrong, eRefkey] 22 [noteA ⟨ps, bs⟩] = some ⟨.int .i64 (wrongS ⟨ps, bs⟩), []⟩ := tabG_at (E := eRefwrong) (T := [eRefwrong, eRefkey]) (i := 0) rfl (by decide) _ hs rfl rfl
  have g2 : tabG [eRefwrong, eRefkey] 21 [.str q.data.toList] = some ⟨.bool (keyS q), []⟩ := tabG_at (E := eRefkey) (T := [eRefwrong, eRefkey]) (i := 1) rfl (by decide) q hq rfl rfl
  have hok : GOk Tryd.prog D (tabG [eRefwrong, eRefkey]) := tabG_ok _
  generalize tabG [eRefwrong, eRefkey] = G at *
  simp only [noteA] at g1
  have hl : q.data.toList.length = q.size := rfl
  have hcon : ∀ r, r = wrongAskS ⟨kind, q, n, ⟨ps, bs⟩⟩ → Con Tryd.prog D 8 [askA ⟨kind, q, n, ⟨ps, bs⟩⟩] ⟨.int .i64 r, []⟩ := by
    intro r hr
    refine con_of (G := G) (rs := [(2, none)]) mixed tok hok Tryd.func8 rfl (by decide) Tryd.results8 (by decide) rfl Tryd.ntmps8 (by simp) (by simp [askA, namess, names]) fun X hP hD hG' hX => evC_sound hX (fun id => match id with | 3 => {hand := true} | _ => {}) _ _ _ ?_
    simp only [argS, num, askA]
    generalize q.data.toList = ql at *
    simp (disch := omega) only [go_sem, hD, hG', g1, g2, unbox]
    refine RegT.mk [] ?_
    simp (disch := omega) only [go_sem, hD, hG', g1, g2, unbox]
    and_intros
    · (first | (intro hk; refine ⟨hk, fun h2 => ?_⟩; first | (rw [hk, h2]; rfl) | (rw [hk, decide_eq_false h2]; rfl)) | (intro hk; rw [decide_eq_false hk]; rfl) | (intro hk; rw [hk]; rfl))
    refine condK_split (fun h => ?_) (fun h => ?_)
    · simp (disch := omega) only [go_sem, hD, hG', g1, g2, unbox]
      refine ⟨[], [], rfl, rfl, ?_, ?_⟩ <;> simp only [go_sem]
      subst hr
      unfold wrongAskS
      grind
    have hu : X.P.underlying 46 = some (.map 3 4) := by rw [hP]; exact Tryd.underlying46
    have hk : X.P.underlying 3 = some (.int .i64) := by rw [hP]; exact Tryd.underlying3
    simp (disch := omega) only [go_sem, hD, hG', g1, g2, unbox]
    refine Tr.lit hX 0 (d := 14) namedM hu hk (by decide) ⟨_, rfl, rfl, rfl, rfl⟩ (by decide) ?_ ?_ ?_
    · unfold namedM litOps
      repeat (first | exact trivial | refine ⟨⟨_, rfl, _, _, rfl, rfl, rfl, fun _ => rfl, fun _ => rfl⟩, ?_⟩ | unfold litOps)
    · unfold namedM litNew
      repeat (first | exact trivial | refine ⟨rfl, rfl, ?_⟩ | unfold litNew)
    have hlen : namedM.length = 6 := rfl
    generalize hnm : namedM = nm at hlen ⊢
    have hlook := namedM_look kind
    rw [hnm] at hlook
    generalize hnk : namedS kind = nk at hlook
    simp (disch := omega) only [go_sem, hD, hG', g1, g2, hlen, unbox]
    refine inl_look (dk := .int .i64) (key := .int .i64 kind) (z := .bool false) (v := .bool nk) (av := .bool nk) hu hk rfl rfl rfl (by rw [hP]; exact zero_bool) (by simp [cst]) hlook (fun _ _ _ => .bool _) rfl (by simp) ?_
    simp (disch := omega) only [go_sem, hD, hG', g1, g2, unbox]
    iterate 24 (all_goals (try (first | (refine RegT.mk [] ?_; simp (disch := omega) only [go_sem, hD, hG', g1, g2, unbox]) | (refine condK_split (fun h => ?_) (fun h => ?_) <;> simp (disch := omega) only [go_sem, hD, hG', g1, g2, unbox]) | and_intros)))
    all_goals (try (refine ⟨[], [], rfl, rfl, ?_, ?_⟩ <;> simp only [go_sem]))
    all_goals clear g1 g2 hok hP hD hG' hX hu hk hlook
    all_goals try (first | (intro hk; refine ⟨hk, fun h2 => ?_⟩; first | (rw [hk, h2]; rfl) | (rw [hk, decide_eq_false h2]; rfl)) | (intro hk; rw [decide_eq_false hk]; rfl) | (intro hk; rw [hk]; rfl))
    all_goals (subst hr; unfold wrongAskS lowS highS; simp only)
    all_goals grind
  exact hcon _ rfl
def eRefwrongask : Ent Tryd.prog D := ⟨8, LAsk, fun x => [askA x], LAsk.Fits, fun x => ⟨.int .i64 (wrongAskS x), []⟩, fun x y _ _ h => by
  simp only [List.cons.injEq, and_true] at h
  rw [askA_inj h], con_refwrongask⟩
end Go.Proofs.YtmlejhpeoiicpaaDoor.Ab
namespace Go.Proofs.YtmlejhpeoiicpaaDoor.Ab
open Go Go.RowKit
set_option linter.unusedVariables false
set_option linter.unusedSimpArgs false

def eNsame : Ent Tryd.prog D := ⟨29, LNote × LNote, fun n => [noteA n.1, noteA n.2], fun n => n.1.Fits ∧ n.2.Fits, fun n => ⟨.bool (decide (n.1 = n.2)), []⟩, fun x y _ _ h => by
  simp only [List.cons.injEq, and_true] at h
  rw [noteA_inj h.1, noteA_inj h.2], fun n h => con_refsame n.1 n.2 h.1 h.2⟩
instance : DecidableEq LAsk := fun a b => decidable_of_iff (a.kind = b.kind ∧ a.queue = b.queue ∧ a.n = b.n ∧ a.note = b.note) (by cases a; cases b; simp)
instance : DecidableEq LSay := fun a b => decidable_of_iff (a.kind = b.kind ∧ a.n = b.n ∧ a.m = b.m ∧ a.err = b.err ∧ a.note = b.note) (by cases a; cases b; simp)
theorem ask_dec (a b : LAsk) : decide (a = b) = (if a.kind = b.kind then (if a.queue.data.toList = b.queue.data.toList then (if a.n = b.n then decide (a.note = b.note) else false) else false) else false) := by
  obtain ⟨k, q, n, x⟩ := a
  obtain ⟨k', q', n', x'⟩ := b
  simp only [LAsk.mk.injEq]
  by_cases h1 : k = k'
  · by_cases h2 : q = q'
    · subst h2
      by_cases h3 : n = n'
      · simp [h1, h3]
      · simp [h1, h3]
    · have : ¬ q.data.toList = q'.data.toList := fun h => h2 (bytes_ext h)
      simp [h1, h2, this]
  · simp [h1]
theorem say_dec (a b : LSay) : decide (a = b) = (if a.kind = b.kind then (if a.n = b.n then (if a.m = b.m then (if a.err = b.err then decide (a.note = b.note) else false) else false) else false) else false) := by
  obtain ⟨k, n, m, e, x⟩ := a
  obtain ⟨k', n', m', e', x'⟩ := b
  simp only [LSay.mk.injEq]
  by_cases h1 : k = k'
  · by_cases h2 : n = n'
    · by_cases h3 : m = m'
      · by_cases h4 : e = e'
        · simp [h1, h2, h3, h4]
        · simp [h1, h2, h3, h4]
      · simp [h1, h2, h3]
    · simp [h1, h2]
  · simp [h1]
set_option maxRecDepth 100000 in
theorem con_sameask (a b : LAsk) (ha : a.Fits) (hb : b.Fits) : Con Tryd.prog D 11 [askA a, askA b] ⟨.bool (decide (a = b)), []⟩ := by
  have hok : GOk Tryd.prog D (tabG [eNsame]) := tabG_ok _
  have g1 : tabG [eNsame] 29 [noteA a.note, noteA b.note] = some ⟨.bool (decide (a.note = b.note)), []⟩ := tabG_at (E := eNsame) (T := [eNsame]) (i := 0) rfl (by decide) (a.note, b.note) ⟨ha.2, hb.2⟩ rfl rfl
  generalize tabG [eNsame] = G at *
  simp only [noteA] at g1
  refine con_of (G := G) (rs := [(4, none)]) mixed tok hok Tryd.func11 rfl (by decide) Tryd.results11 (by decide) rfl Tryd.ntmps11 (by simp) (by simp [askA, namess, names]) fun X hP hD hG' hX => evC_sound hX (fun _ => {}) _ _ _ ?_
  simp only [argS, num, askA]
  simp (disch := omega) only [go_sem, hD, hG', g1, unbox]
  refine RegT.mk [] ?_
  simp (disch := omega) only [go_sem, hD, hG', g1, unbox]
  ((try and_intros); all_goals (try first | omega | decide | (simp; done) | (simp only [List.length_append, List.length_cons, List.length_nil, List.length_map]; omega)))
  all_goals (try (first | (intro hk; refine ⟨hk, fun h2 => ?_⟩; first | (rw [hk, h2]; rfl) | (rw [hk, decide_eq_false h2]; rfl)) | (intro hk; rw [decide_eq_false hk]; rfl) | (intro hk; rw [hk]; rfl)))
  refine ⟨[], [], rfl, rfl, ?_, ?_⟩ <;> simp only [go_sem]
  rw [ask_dec]
  simp [Bool.and_assoc]
set_option maxRecDepth 100000 in
theorem con_samesay (a b : LSay) (ha : a.note.Fits) (hb : b.note.Fits) : Con Tryd.prog D 15 [sayA a, sayA b] ⟨.bool (decide (a = b)), []⟩ := by
  have hok : GOk Tryd.prog D (tabG [eNsame]) := tabG_ok _
  have g1 : tabG [eNsame] 29 [noteA a.note, noteA b.note] = some ⟨.bool (decide (a.note = b.note)), []⟩ := tabG_at (E := eNsame) (T := [eNsame]) (i := 0) rfl (by decide) (a.note, b.note) ⟨ha, hb⟩ rfl rfl
  generalize tabG [eNsame] = G at *
  simp only [noteA] at g1
  refine con_of (G := G) (rs := [(4, none)]) mixed tok hok Tryd.func15 rfl (by decide) Tryd.results15 (by decide) rfl Tryd.ntmps15 (by simp) (by simp [sayA, namess, names]) fun X hP hD hG' hX => evC_sound hX (fun _ => {}) _ _ _ ?_
  simp only [argS, num, sayA]
  simp (disch := omega) only [go_sem, hD, hG', g1, unbox]
  refine RegT.mk [] ?_
  simp (disch := omega) only [go_sem, hD, hG', g1, unbox]
  ((try and_intros); all_goals (try first | omega | decide | (simp; done) | (simp only [List.length_append, List.length_cons, List.length_nil, List.length_map]; omega)))
  all_goals (try (first | (intro hk; refine ⟨hk, fun h2 => ?_⟩; first | (rw [hk, h2]; rfl) | (rw [hk, decide_eq_false h2]; rfl)) | (intro hk; rw [decide_eq_false hk]; rfl) | (intro hk; rw [hk]; rfl)))
  refine ⟨[], [], rfl, rfl, ?_, ?_⟩ <;> simp only [go_sem]
  rw [say_dec]
  simp [Bool.and_assoc]
def eRefwrongsay : Ent Tryd.prog D := ⟨12, LSay, fun x => [sayA x], fun s => s.note.Fits, fun x => ⟨.int .i64 (wrongSayS x), []⟩, fun x y _ _ h => by
  simp only [List.cons.injEq, and_true] at h
  rw [sayA_inj h], con_refwrongsay⟩

def eSameask : Ent Tryd.prog D := ⟨11, LAsk × LAsk, fun x => [askA x.1, askA x.2], fun x => x.1.Fits ∧ x.2.Fits, fun x => ⟨.bool (decide (x.1 = x.2)), []⟩, fun x y _ _ h => by
  simp only [List.cons.injEq, and_true] at h
  rw [askA_inj h.1, askA_inj h.2], fun x h => con_sameask x.1 x.2 h.1 h.2⟩
def eSamesay : Ent Tryd.prog D := ⟨15, LSay × LSay, fun x => [sayA x.1, sayA x.2], fun x => x.1.note.Fits ∧ x.2.note.Fits, fun x => ⟨.bool (decide (x.1 = x.2)), []⟩, fun x y _ _ h => by
  simp only [List.cons.injEq, and_true] at h
  rw [sayA_inj h.1, sayA_inj h.2], fun x h => con_samesay x.1 x.2 h.1 h.2⟩
theorem wrongAsk_ok {a : LAsk} (h : wrongAskS a = 0) : 1 ≤ a.kind ∧ a.kind ≤ 9 ∧ a.queue.size ≤ 8 ∧ 0 ≤ a.n ∧ a.n ≤ 1073741824 ∧ wrongS a.note = 0 ∧ (a.kind ≠ 4 → a.note = note0) := by
  unfold wrongAskS at h
  have hk : keyS a.queue = true → a.queue.size ≤ 8 := fun hk => by
    unfold keyS at hk
    simp at hk
    omega
  have h0 := @note_empty a.note
  have h1 : wrongS note0 = 0 := rfl
  by_cases h9 : a.kind < 1 ∨ 9 < a.kind
  · rw [if_pos h9] at h; cases h
  rw [if_neg h9] at h
  have hlo : 0 ≤ lowS a.kind := by unfold lowS; split <;> omega
  have hhi : highS a.kind ≤ 1073741824 := by unfold highS; split <;> (try split) <;> omega
  by_cases hq : (if namedS a.kind = true then keyS a.queue = false else a.queue.size ≠ 0)
  · rw [if_pos hq] at h; cases h
  rw [if_neg hq] at h
  by_cases hn : a.n < lowS a.kind ∨ highS a.kind < a.n
  · rw [if_pos hn] at h; cases h
  rw [if_neg hn] at h
  by_cases hb : a.kind ≠ 4 ∧ 0 < a.note.props.length + a.note.body.length
  · rw [if_pos hb] at h; cases h
  rw [if_neg hb] at h
  refine ⟨by omega, by omega, ?_, by omega, by omega, h, fun h4 => h0 (by omega)⟩
  cases hnm : namedS a.kind
  · rw [hnm, if_neg (by simp)] at hq; omega
  · rw [hnm, if_pos rfl] at hq; exact hk (by simpa using hq)
theorem wrongSay_ok {s : LSay} (h : wrongSayS s = 0) : 1 ≤ s.kind ∧ s.kind ≤ 4 ∧ 0 ≤ s.n ∧ s.n ≤ 1073741824 ∧ 0 ≤ s.m ∧ s.m ≤ 3 ∧ 0 ≤ s.err ∧ s.err ≤ 10 ∧ wrongS s.note = 0 ∧ (s.kind ≠ 2 → s.note = note0) := by
  unfold wrongSayS at h
  have h0 := @note_empty s.note
  have h1 : wrongS note0 = 0 := rfl
  by_cases hk : s.kind < 1 ∨ 4 < s.kind
  · rw [if_pos hk] at h; cases h
  rw [if_neg hk] at h
  by_cases h2 : s.kind = 2
  · rw [if_pos h2] at h
    split at h
    · cases h
    · exact ⟨by omega, by omega, by omega, by omega, by omega, by omega, by omega, by omega, h, fun h => absurd h2 h⟩
  rw [if_neg h2] at h
  split at h
  · cases h
  split at h
  · cases h
  have h3 := h0 (by omega)
  exact ⟨by omega, by omega, by omega, by omega, by omega, by omega, by omega, by omega, by rw [h3]; rfl, fun _ => h3⟩
theorem ask_fits {a : LAsk} (h : wrongAskS a = 0) : a.Fits := by
  obtain ⟨_, _, h3, _, _, h6, _⟩ := wrongAsk_ok h
  exact ⟨by omega, fits_right h6⟩
theorem say_fits {s : LSay} (h : wrongSayS s = 0) : s.note.Fits := by
  obtain ⟨_, _, _, _, _, _, _, _, h6, _⟩ := wrongSay_ok h
  exact fits_right h6
def aL : LAsk := ⟨4, ⟨#[113]⟩, 0, ⟨[⟨⟨#[107]⟩, 2, 0, ⟨#[97, 32, 98]⟩⟩], [120]⟩⟩
def sL : LSay := ⟨2, 3, 1, 0, ⟨[⟨⟨#[107]⟩, 2, 0, ⟨#[97, 32, 98]⟩⟩], [120]⟩⟩
theorem aL_right : wrongAskS aL = 0 := by decide
theorem sL_right : wrongSayS sL = 0 := by decide
end Go.Proofs.YtmlejhpeoiicpaaDoor.Ab
namespace Go.Proofs.YtmlejhpeoiicpaaDoor.Ab
open Go Go.RowKit
set_option linter.unusedVariables false
set_option linter.unusedSimpArgs false

theorem shp_ask {m : Nat} {B : Nat} {us : List AV} (h : Shp D B (m + 5) 27 us) : ∃ a : LAsk, AV.agg us = askA a ∧ a.queue.size ≤ B ∧ a.note.props.length ≤ B ∧ a.note.body.length ≤ B ∧ ∀ p ∈ a.note.props, p.key.size ≤ B ∧ p.text.size ≤ B := by
  have h := shp_struct (fs := [(0, 3), (1, 9), (2, 3), (3, 25)]) (by simp only [D_1, D_2, D_3, D_4, D_5, D_6, D_7, D_8, D_9, D_10, D_11, D_12, D_13, D_14, D_15, D_16, D_17, D_18, D_19, D_20, D_21, D_22, D_23, D_24, D_25, D_26, D_27, D_28, D_29, D_30, D_31, D_32, D_33, D_35, D_36, D_37, D_38, D_40, D_41, D_42, D_43, D_44, D_45, D_47, D_48, D_49, D_50, D_51, D_52, D_53, D_55, D_57, D_58, D_60, D_62, D_63, D_65, D_66, D_68, D_69, D_70, D_72, D_74, D_76, D_77, D_78, D_79, D_80, D_81, D_82, D_83, D_85, D_86, D_87, D_88, D_90, D_91, D_93, D_95, D_96, D_97, D_99, D_100, D_101, D_103, D_104, D_105, D_106, D_107, D_108, D_110, D_111, D_112, D_114, D_116, D_117, D_118, D_119, D_121, D_122, D_124, D_125, D_126, D_127, D_128, D_129, D_131, D_133, D_134, D_136, D_137, D_138, D_139, D_140, D_141, D_143, D_145, D_146, D_148, D_149, D_150, D_151, D_154, D_155, D_159, D_160, D_161, D_162, D_163, D_164, D_165, D_166]) h
  simp only [ShpF] at h
  obtain ⟨_, _, rfl, h1, _, _, rfl, h2, _, _, rfl, h3, _, _, rfl, h4, rfl⟩ := h
  obtain ⟨k, rfl, _⟩ := shp_i64 (t := 3) rfl h1
  obtain ⟨q, rfl, hq⟩ := shp_str (t := 9) rfl h2
  obtain ⟨n, rfl, _⟩ := shp_i64 (t := 3) rfl h3
  obtain ⟨x, _, rfl, q1, q2, q3⟩ := shp_note h4
  exact ⟨⟨k, q, n, x⟩, rfl, hq, q1, q2, q3⟩
theorem shp_say {m : Nat} {B : Nat} {us : List AV} (h : Shp D B (m + 5) 30 us) : ∃ a : LSay, AV.agg us = sayA a ∧ a.note.props.length ≤ B ∧ a.note.body.length ≤ B ∧ ∀ p ∈ a.note.props, p.key.size ≤ B ∧ p.text.size ≤ B := by
  have h := shp_struct (fs := [(0, 3), (1, 3), (2, 3), (3, 28), (4, 25)]) (by simp only [D_1, D_2, D_3, D_4, D_5, D_6, D_7, D_8, D_9, D_10, D_11, D_12, D_13, D_14, D_15, D_16, D_17, D_18, D_19, D_20, D_21, D_22, D_23, D_24, D_25, D_26, D_27, D_28, D_29, D_30, D_31, D_32, D_33, D_35, D_36, D_37, D_38, D_40, D_41, D_42, D_43, D_44, D_45, D_47, D_48, D_49, D_50, D_51, D_52, D_53, D_55, D_57, D_58, D_60, D_62, D_63, D_65, D_66, D_68, D_69, D_70, D_72, D_74, D_76, D_77, D_78, D_79, D_80, D_81, D_82, D_83, D_85, D_86, D_87, D_88, D_90, D_91, D_93, D_95, D_96, D_97, D_99, D_100, D_101, D_103, D_104, D_105, D_106, D_107, D_108, D_110, D_111, D_112, D_114, D_116, D_117, D_118, D_119, D_121, D_122, D_124, D_125, D_126, D_127, D_128, D_129, D_131, D_133, D_134, D_136, D_137, D_138, D_139, D_140, D_141, D_143, D_145, D_146, D_148, D_149, D_150, D_151, D_154, D_155, D_159, D_160, D_161, D_162, D_163, D_164, D_165, D_166]) h
  simp only [ShpF] at h
  obtain ⟨_, _, rfl, h1, _, _, rfl, h2, _, _, rfl, h3, _, _, rfl, h4, _, _, rfl, h5, rfl⟩ := h
  obtain ⟨k, rfl, _⟩ := shp_i64 (t := 3) rfl h1
  obtain ⟨n, rfl, _⟩ := shp_i64 (t := 3) rfl h2
  obtain ⟨m, rfl, _⟩ := shp_i64 (t := 3) rfl h3
  obtain ⟨e, rfl, _⟩ := shp_i64 (t := 28) rfl h4
  obtain ⟨x, _, rfl, q1, q2, q3⟩ := shp_note h5
  exact ⟨⟨k, n, m, e, x⟩, rfl, q1, q2, q3⟩
end Go.Proofs.YtmlejhpeoiicpaaDoor.Ab
namespace Go.Proofs
open Go.Shelf Go.RowKit Go.Lib Go.Sort
def Tryd.lays156_ren : Go.Shelf.Ren := ⟨fun | 156 => 26 | 165 => 43 | 166 => 44 | 169 => 45 | 240 => 59 | 241 => 60 | 276 => 74 | 277 => 75 | n => n, fun | 31 => 49 | 9 => 9 | 3 => 3 | 4 => 4 | 0 => 0 | 20 => 20 | 72 => 80 | 76 => 84 | 70 => 78 | 37 => 23 | 75 => 83 | 127 => 101 | 164 => 115 | 5 => 5 | 80 => 86 | n => n, fun | n => n⟩
theorem Tryd.lays156 : Go.Proofs.Lays.n156 Tryd.prog Tryd.lays156_ren := {
  mixed := by kernel_rfl
  f156 := Tryd.func26.trans (congrArg some (by kernel_rfl))
  f165 := Tryd.func43.trans (congrArg some (by kernel_rfl))
  f166 := Tryd.func44.trans (congrArg some (by kernel_rfl))
  f169 := Tryd.func45.trans (congrArg some (by kernel_rfl))
  f240 := Tryd.func59.trans (congrArg some (by kernel_rfl))
  f241 := Tryd.func60.trans (congrArg some (by kernel_rfl))
  f276 := Tryd.func74.trans (congrArg some (by kernel_rfl))
  f277 := Tryd.func75.trans (congrArg some (by kernel_rfl))
  t0 := Tryd.underlying0
  a0 := Tryd.isAgg0
  z0 := Tryd.sizeOf0
  v0 := Tryd.zeroValue0
  t3 := Tryd.underlying3
  a3 := Tryd.isAgg3
  z3 := Tryd.sizeOf3
  v3 := Tryd.zeroValue3
  t4 := Tryd.underlying4
  a4 := Tryd.isAgg4
  z4 := Tryd.sizeOf4
  v4 := Tryd.zeroValue4
  t9 := Tryd.underlying9
  a9 := Tryd.isAgg9
  z9 := Tryd.sizeOf9
  v9 := Tryd.zeroValue9
  t20 := Tryd.underlying20
  a20 := Tryd.isAgg20
  z20 := Tryd.sizeOf20
  v20 := Tryd.zeroValue20
  t31 := Tryd.underlying49
  a31 := Tryd.isAgg49
  z31 := Tryd.sizeOf49
  v31 := Tryd.zeroValue49
  t37 := Tryd.underlying23
  a37 := Tryd.isAgg23
  z37 := Tryd.sizeOf23
  v37 := Tryd.zeroValue23
  t70 := Tryd.underlying78
  a70 := Tryd.isAgg78
  z70 := Tryd.sizeOf78
  v70 := Tryd.zeroValue78
  t72 := Tryd.underlying80
  a72 := Tryd.isAgg80
  z72 := Tryd.sizeOf80
  v72 := Tryd.zeroValue80
  t75 := Tryd.underlying83
  a75 := Tryd.isAgg83
  z75 := Tryd.sizeOf83
  v75 := Tryd.zeroValue83
  t76 := Tryd.underlying84
  a76 := Tryd.isAgg84
  z76 := Tryd.sizeOf84
  v76 := Tryd.zeroValue84
  t127 := Tryd.underlying101
  a127 := Tryd.isAgg101
  z127 := Tryd.sizeOf101
  v127 := Tryd.zeroValue101
  t164 := Tryd.underlying115
  a164 := Tryd.isAgg115
  z164 := Tryd.sizeOf115
  v164 := Tryd.zeroValue115 }
theorem Tryd.Builder_Extra_156 : Builder.Extra Tryd.prog Tryd.lays156_ren := {
  sizeBuilder := by kernel_rfl
  liesBuilder := by kernel_rfl
  t5 := Tryd.underlying5
  a5 := Tryd.isAgg5
  z5 := Tryd.sizeOf5
  v5 := Tryd.zeroValue5
  infoByte := by kernel_rfl
  cellsByte := by kernel_rfl
  sizeByte := by kernel_rfl
  neB5 := by decide }
theorem Tryd.strings_Join_none (a : Option Addr) (c : Nat) (sep : ByteArray) (w : World) :
    Calls Tryd.prog 26 #[.slice a 0 c, .string sep] w fun e w' => e = .returned (.string ⟨#[]⟩) ∧ w' = w := Any.strings_Join_none Tryd.lays156 Tryd.Builder_Extra_156 a c sep w
theorem Tryd.strings_Join (bk o c : Nat) (xs : List ByteArray) (sep : ByteArray) (w : World) (hcells : ∀ (j : Nat) x, xs[j]? = some x → w.cell? ⟨bk, o + j, none⟩ = some (.string x)) (hbk : bk < w.heap.size) (hN : xs.length ≤ 140737488355328) (hcap : xs.length ≤ c) (hlen : (Lib.join (xs.map (·.data.toList)) sep.data.toList).length ≤ 140737488355328) :
    Calls Tryd.prog 26 #[.slice (some ⟨bk, o, none⟩) xs.length c, .string sep] w fun e w' => e = .returned (.string ⟨(Lib.join (xs.map (·.data.toList)) sep.data.toList).toArray⟩) ∧ Below w.heap.size w w' := Any.strings_Join Tryd.lays156 Tryd.Builder_Extra_156 bk o c xs sep w hcells hbk hN hcap hlen
def Tryd.lays137_ren : Go.Shelf.Ren := ⟨fun | 137 => 76 | 217 => 91 | 266 => 101 | n => n, fun | 9 => 9 | 5 => 5 | 3 => 3 | n => n, fun | n => n⟩
theorem Tryd.lays137 : Go.Proofs.Lays.n137 Tryd.prog Tryd.lays137_ren := {
  mixed := by kernel_rfl
  f137 := Tryd.func76.trans (congrArg some (by kernel_rfl))
  f217 := Tryd.func91.trans (congrArg some (by kernel_rfl))
  f266 := Tryd.func101.trans (congrArg some (by kernel_rfl))
  t3 := Tryd.underlying3
  a3 := Tryd.isAgg3
  z3 := Tryd.sizeOf3
  v3 := Tryd.zeroValue3
  t5 := Tryd.underlying5
  a5 := Tryd.isAgg5
  z5 := Tryd.sizeOf5
  v5 := Tryd.zeroValue5
  t9 := Tryd.underlying9
  a9 := Tryd.isAgg9
  z9 := Tryd.sizeOf9
  v9 := Tryd.zeroValue9 }
theorem Tryd.strings_IndexByte (s : ByteArray) (c : Int) (w : World) :
    Calls Tryd.prog 76 #[.string s, .int .u8 c] w fun e w' => e = .returned (.int .i64 (Lib.indexByte s.data.toList c.toNat.toUInt8)) ∧ w' = w := Any.strings_IndexByte Tryd.lays137 s c w
def Tryd.lays103_ren : Go.Shelf.Ren := ⟨fun | 103 => 37 | 210 => 56 | 206 => 67 | n => n, fun | 9 => 9 | 4 => 4 | 24 => 71 | 3 => 3 | n => n, fun | n => n⟩
theorem Tryd.lays103 : Go.Proofs.Lays.n103 Tryd.prog Tryd.lays103_ren := {
  mixed := by kernel_rfl
  f103 := Tryd.func37.trans (congrArg some (by kernel_rfl))
  f206 := Tryd.func67.trans (congrArg some (by kernel_rfl))
  f210 := Tryd.func56.trans (congrArg some (by kernel_rfl))
  t3 := Tryd.underlying3
  a3 := Tryd.isAgg3
  z3 := Tryd.sizeOf3
  v3 := Tryd.zeroValue3
  t4 := Tryd.underlying4
  a4 := Tryd.isAgg4
  z4 := Tryd.sizeOf4
  v4 := Tryd.zeroValue4
  t9 := Tryd.underlying9
  a9 := Tryd.isAgg9
  z9 := Tryd.sizeOf9
  v9 := Tryd.zeroValue9
  t24 := Tryd.underlying71
  a24 := Tryd.isAgg71
  z24 := Tryd.sizeOf71
  v24 := Tryd.zeroValue71 }
theorem Tryd.strings_CutPrefix (s p : ByteArray) (w : World) :
    Calls Tryd.prog 37 #[.string s, .string p] w fun e w' => e = .returned (.tuple #[.string ⟨(Lib.trimPrefix s.data.toList p.data.toList).toArray⟩, .bool (Lib.hasPrefix s.data.toList p.data.toList)]) ∧ w' = w := Any.strings_CutPrefix Tryd.lays103 s p w
def Tryd.laysM171_ren : Go.Shelf.Ren := ⟨fun | 171 => 24 | 243 => 40 | 246 => 58 | 283 => 70 | 284 => 71 | 285 => 72 | 286 => 73 | 129 => 87 | 317 => 86 | 318 => 88 | 319 => 89 | 320 => 90 | 337 => 99 | 338 => 100 | n => n, fun | 3 => 3 | 9 => 9 | 2 => 2 | 4 => 4 | 171 => 109 | 0 => 0 | 53 => 110 | 37 => 23 | 5 => 5 | 173 => 113 | 212 => 130 | 51 => 131 | 20 => 20 | 213 => 132 | 46 => 100 | 232 => 152 | 233 => 153 | n => n, fun | 17 => 0 | 18 => 6 | 19 => 7 | n => n⟩
theorem Tryd.laysM171 : Go.Proofs.LaysM.n171 Tryd.prog Tryd.laysM171_ren := {
  mixed := by kernel_rfl
  f129 := Tryd.func87.trans (congrArg some (by kernel_rfl))
  f171 := Tryd.func24.trans (congrArg some (by kernel_rfl))
  f243 := Tryd.func40.trans (congrArg some (by kernel_rfl))
  f246 := Tryd.func58.trans (congrArg some (by kernel_rfl))
  f283 := Tryd.func70.trans (congrArg some (by kernel_rfl))
  f284 := Tryd.func71.trans (congrArg some (by kernel_rfl))
  f285 := Tryd.func72.trans (congrArg some (by kernel_rfl))
  f286 := Tryd.func73.trans (congrArg some (by kernel_rfl))
  f317 := Tryd.func86.trans (congrArg some (by kernel_rfl))
  f318 := Tryd.func88.trans (congrArg some (by kernel_rfl))
  f319 := Tryd.func89.trans (congrArg some (by kernel_rfl))
  f320 := Tryd.func90.trans (congrArg some (by kernel_rfl))
  f337 := Tryd.func99.trans (congrArg some (by kernel_rfl))
  f338 := Tryd.func100.trans (congrArg some (by kernel_rfl))
  t0 := Tryd.underlying0
  a0 := Tryd.isAgg0
  z0 := Tryd.sizeOf0
  v0 := Tryd.zeroValue0
  t2 := Tryd.underlying2
  a2 := Tryd.isAgg2
  z2 := Tryd.sizeOf2
  v2 := Tryd.zeroValue2
  t3 := Tryd.underlying3
  a3 := Tryd.isAgg3
  z3 := Tryd.sizeOf3
  v3 := Tryd.zeroValue3
  t4 := Tryd.underlying4
  a4 := Tryd.isAgg4
  z4 := Tryd.sizeOf4
  v4 := Tryd.zeroValue4
  t5 := Tryd.underlying5
  a5 := Tryd.isAgg5
  z5 := Tryd.sizeOf5
  v5 := Tryd.zeroValue5
  t9 := Tryd.underlying9
  a9 := Tryd.isAgg9
  z9 := Tryd.sizeOf9
  v9 := Tryd.zeroValue9
  t20 := Tryd.underlying20
  a20 := Tryd.isAgg20
  z20 := Tryd.sizeOf20
  v20 := Tryd.zeroValue20
  t37 := Tryd.underlying23
  a37 := Tryd.isAgg23
  z37 := Tryd.sizeOf23
  v37 := Tryd.zeroValue23
  t46 := Tryd.underlying100
  a46 := Tryd.isAgg100
  z46 := Tryd.sizeOf100
  v46 := Tryd.zeroValue100
  t51 := Tryd.underlying131
  a51 := Tryd.isAgg131
  z51 := Tryd.sizeOf131
  v51 := Tryd.zeroValue131
  t53 := Tryd.underlying110
  a53 := Tryd.isAgg110
  z53 := Tryd.sizeOf110
  v53 := Tryd.zeroValue110
  t171 := Tryd.underlying109
  a171 := Tryd.isAgg109
  z171 := Tryd.sizeOf109
  v171 := Tryd.zeroValue109
  t173 := Tryd.underlying113
  a173 := Tryd.isAgg113
  z173 := Tryd.sizeOf113
  v173 := Tryd.zeroValue113
  t212 := Tryd.underlying130
  a212 := Tryd.isAgg130
  z212 := Tryd.sizeOf130
  v212 := Tryd.zeroValue130
  t213 := Tryd.underlying132
  a213 := Tryd.isAgg132
  z213 := Tryd.sizeOf132
  t232 := Tryd.underlying152
  a232 := Tryd.isAgg152
  z232 := Tryd.sizeOf152
  v232 := Tryd.zeroValue152
  t233 := Tryd.underlying153
  a233 := Tryd.isAgg153
  z233 := Tryd.sizeOf153
  v233 := Tryd.zeroValue153
  g17 := by kernel_rfl
  g18 := by kernel_rfl
  g19 := by kernel_rfl
  i0 := by kernel_rfl
  i2 := by kernel_rfl
  i3 := by kernel_rfl
  i4 := by kernel_rfl
  i5 := by kernel_rfl
  i9 := by kernel_rfl
  i20 := by kernel_rfl
  i37 := by kernel_rfl
  i46 := by kernel_rfl
  i51 := by kernel_rfl
  i53 := by kernel_rfl
  i171 := by kernel_rfl
  i173 := by kernel_rfl
  i212 := by kernel_rfl
  i232 := by kernel_rfl
  i233 := by kernel_rfl
  m17 := by kernel_rfl
  m18 := by kernel_rfl
  m19 := by kernel_rfl }
theorem Tryd.strconv_Itoa (n : Int) (h0 : -9223372036854775808 ≤ n) (h1 : n ≤ 9223372036854775807) (w : World) (htab : Lib.TabIs Tryd.prog w "internal/strconv.uint64pow10" .u64 Lib.pow10Tab) :
    Calls Tryd.prog 24 #[.int .i64 n] w fun e w' => e = .returned (.string ⟨(Lib.itoa n).toArray⟩) ∧ ∃ k os, w' = grow (w.drewN k) os := Any.strconv_Itoa Tryd.laysM171 n h0 h1 w htab
def Tryd.laysC172_ren : Go.Shelf.Ren := ⟨fun | 172 => 57 | 244 => 68 | 245 => 69 | 247 => 81 | 279 => 82 | 280 => 83 | 281 => 84 | 282 => 85 | 287 => 96 | 316 => 97 | 171 => 24 | 205 => 98 | 321 => 103 | 322 => 104 | 243 => 40 | 246 => 58 | 283 => 70 | 284 => 71 | 285 => 72 | 286 => 73 | 129 => 87 | 317 => 86 | 318 => 88 | 319 => 89 | 320 => 90 | 337 => 99 | 338 => 100 | n => n, fun | 9 => 9 | 3 => 3 | 75 => 83 | 76 => 84 | 4 => 4 | 5 => 5 | 167 => 122 | 37 => 23 | 0 => 0 | 85 => 123 | 2 => 2 | 168 => 125 | 53 => 110 | 175 => 135 | 46 => 100 | 210 => 139 | 127 => 101 | 145 => 151 | 143 => 149 | 21 => 21 | 171 => 109 | 173 => 113 | 212 => 130 | 51 => 131 | 20 => 20 | 213 => 132 | 232 => 152 | 233 => 153 | 80 => 86 | n => n, fun | 15 => 2 | 16 => 3 | 17 => 0 | 18 => 6 | 19 => 7 | n => n⟩
theorem Tryd.laysC172 : Go.Proofs.LaysC.n172 Tryd.prog Tryd.laysC172_ren := {
  mixed := by kernel_rfl
  f129 := Tryd.func87.trans (congrArg some (by kernel_rfl))
  f171 := Tryd.func24.trans (congrArg some (by kernel_rfl))
  f172 := Tryd.func57.trans (congrArg some (by kernel_rfl))
  f205 := Tryd.func98.trans (congrArg some (by kernel_rfl))
  f243 := Tryd.func40.trans (congrArg some (by kernel_rfl))
  f244 := Tryd.func68.trans (congrArg some (by kernel_rfl))
  f245 := Tryd.func69.trans (congrArg some (by kernel_rfl))
  f246 := Tryd.func58.trans (congrArg some (by kernel_rfl))
  f247 := Tryd.func81.trans (congrArg some (by kernel_rfl))
  f279 := Tryd.func82.trans (congrArg some (by kernel_rfl))
  f280 := Tryd.func83.trans (congrArg some (by kernel_rfl))
  f281 := Tryd.func84.trans (congrArg some (by kernel_rfl))
  f282 := Tryd.func85.trans (congrArg some (by kernel_rfl))
  f283 := Tryd.func70.trans (congrArg some (by kernel_rfl))
  f284 := Tryd.func71.trans (congrArg some (by kernel_rfl))
  f285 := Tryd.func72.trans (congrArg some (by kernel_rfl))
  f286 := Tryd.func73.trans (congrArg some (by kernel_rfl))
  f287 := Tryd.func96.trans (congrArg some (by kernel_rfl))
  f316 := Tryd.func97.trans (congrArg some (by kernel_rfl))
  f317 := Tryd.func86.trans (congrArg some (by kernel_rfl))
  f318 := Tryd.func88.trans (congrArg some (by kernel_rfl))
  f319 := Tryd.func89.trans (congrArg some (by kernel_rfl))
  f320 := Tryd.func90.trans (congrArg some (by kernel_rfl))
  f321 := Tryd.func103.trans (congrArg some (by kernel_rfl))
  f322 := Tryd.func104.trans (congrArg some (by kernel_rfl))
  f337 := Tryd.func99.trans (congrArg some (by kernel_rfl))
  f338 := Tryd.func100.trans (congrArg some (by kernel_rfl))
  t0 := Tryd.underlying0
  a0 := Tryd.isAgg0
  z0 := Tryd.sizeOf0
  v0 := Tryd.zeroValue0
  t2 := Tryd.underlying2
  a2 := Tryd.isAgg2
  z2 := Tryd.sizeOf2
  v2 := Tryd.zeroValue2
  t3 := Tryd.underlying3
  a3 := Tryd.isAgg3
  z3 := Tryd.sizeOf3
  v3 := Tryd.zeroValue3
  t4 := Tryd.underlying4
  a4 := Tryd.isAgg4
  z4 := Tryd.sizeOf4
  v4 := Tryd.zeroValue4
  t5 := Tryd.underlying5
  a5 := Tryd.isAgg5
  z5 := Tryd.sizeOf5
  v5 := Tryd.zeroValue5
  t9 := Tryd.underlying9
  a9 := Tryd.isAgg9
  z9 := Tryd.sizeOf9
  v9 := Tryd.zeroValue9
  t20 := Tryd.underlying20
  a20 := Tryd.isAgg20
  z20 := Tryd.sizeOf20
  v20 := Tryd.zeroValue20
  t21 := Tryd.underlying21
  a21 := Tryd.isAgg21
  z21 := Tryd.sizeOf21
  v21 := Tryd.zeroValue21
  t37 := Tryd.underlying23
  a37 := Tryd.isAgg23
  z37 := Tryd.sizeOf23
  v37 := Tryd.zeroValue23
  t46 := Tryd.underlying100
  a46 := Tryd.isAgg100
  z46 := Tryd.sizeOf100
  v46 := Tryd.zeroValue100
  t51 := Tryd.underlying131
  a51 := Tryd.isAgg131
  z51 := Tryd.sizeOf131
  v51 := Tryd.zeroValue131
  t53 := Tryd.underlying110
  a53 := Tryd.isAgg110
  z53 := Tryd.sizeOf110
  v53 := Tryd.zeroValue110
  t75 := Tryd.underlying83
  a75 := Tryd.isAgg83
  z75 := Tryd.sizeOf83
  v75 := Tryd.zeroValue83
  t76 := Tryd.underlying84
  a76 := Tryd.isAgg84
  z76 := Tryd.sizeOf84
  v76 := Tryd.zeroValue84
  t85 := Tryd.underlying123
  a85 := Tryd.isAgg123
  z85 := Tryd.sizeOf123
  v85 := Tryd.zeroValue123
  t127 := Tryd.underlying101
  a127 := Tryd.isAgg101
  z127 := Tryd.sizeOf101
  v127 := Tryd.zeroValue101
  t143 := Tryd.underlying149
  a143 := Tryd.isAgg149
  z143 := Tryd.sizeOf149
  v143 := Tryd.zeroValue149
  t145 := Tryd.underlying151
  a145 := Tryd.isAgg151
  z145 := Tryd.sizeOf151
  v145 := Tryd.zeroValue151
  t167 := Tryd.underlying122
  a167 := Tryd.isAgg122
  z167 := Tryd.sizeOf122
  v167 := Tryd.zeroValue122
  t168 := Tryd.underlying125
  a168 := Tryd.isAgg125
  z168 := Tryd.sizeOf125
  v168 := Tryd.zeroValue125
  t171 := Tryd.underlying109
  a171 := Tryd.isAgg109
  z171 := Tryd.sizeOf109
  v171 := Tryd.zeroValue109
  t173 := Tryd.underlying113
  a173 := Tryd.isAgg113
  z173 := Tryd.sizeOf113
  v173 := Tryd.zeroValue113
  t175 := Tryd.underlying135
  a175 := Tryd.isAgg135
  z175 := Tryd.sizeOf135
  v175 := Tryd.zeroValue135
  t210 := Tryd.underlying139
  a210 := Tryd.isAgg139
  z210 := Tryd.sizeOf139
  v210 := Tryd.zeroValue139
  t212 := Tryd.underlying130
  a212 := Tryd.isAgg130
  z212 := Tryd.sizeOf130
  v212 := Tryd.zeroValue130
  t213 := Tryd.underlying132
  a213 := Tryd.isAgg132
  z213 := Tryd.sizeOf132
  t232 := Tryd.underlying152
  a232 := Tryd.isAgg152
  z232 := Tryd.sizeOf152
  v232 := Tryd.zeroValue152
  t233 := Tryd.underlying153
  a233 := Tryd.isAgg153
  z233 := Tryd.sizeOf153
  v233 := Tryd.zeroValue153
  g15 := by kernel_rfl
  g16 := by kernel_rfl
  g17 := by kernel_rfl
  g18 := by kernel_rfl
  g19 := by kernel_rfl
  t80 := Tryd.underlying86
  a80 := Tryd.isAgg86
  z80 := Tryd.sizeOf86
  v80 := Tryd.zeroValue86
  i0 := by kernel_rfl
  i2 := by kernel_rfl
  i3 := by kernel_rfl
  i4 := by kernel_rfl
  i5 := by kernel_rfl
  i9 := by kernel_rfl
  i20 := by kernel_rfl
  i21 := by kernel_rfl
  i37 := by kernel_rfl
  i46 := by kernel_rfl
  i51 := by kernel_rfl
  i53 := by kernel_rfl
  i75 := by kernel_rfl
  i76 := by kernel_rfl
  i80 := by kernel_rfl
  i85 := by kernel_rfl
  i127 := by kernel_rfl
  i143 := by kernel_rfl
  i145 := by kernel_rfl
  i167 := by kernel_rfl
  i168 := by kernel_rfl
  i171 := by kernel_rfl
  i173 := by kernel_rfl
  i175 := by kernel_rfl
  i210 := by kernel_rfl
  i212 := by kernel_rfl
  i232 := by kernel_rfl
  i233 := by kernel_rfl
  m15 := by kernel_rfl
  m16 := by kernel_rfl
  m17 := by kernel_rfl
  m18 := by kernel_rfl
  m19 := by kernel_rfl
  c0 := by kernel_rfl
  c2 := by kernel_rfl
  c3 := by kernel_rfl
  c4 := by kernel_rfl
  c5 := by kernel_rfl
  c9 := by kernel_rfl
  c20 := by kernel_rfl
  c21 := by kernel_rfl
  c37 := by kernel_rfl
  c46 := by kernel_rfl
  c51 := by kernel_rfl
  c53 := by kernel_rfl
  c75 := by kernel_rfl
  c76 := by kernel_rfl
  c80 := by kernel_rfl
  c85 := by kernel_rfl
  c127 := by kernel_rfl
  c143 := by kernel_rfl
  c145 := by kernel_rfl
  c167 := by kernel_rfl
  c168 := by kernel_rfl
  c171 := by kernel_rfl
  c173 := by kernel_rfl
  c175 := by kernel_rfl
  c210 := by kernel_rfl
  c212 := by kernel_rfl
  c213 := by kernel_rfl
  c232 := by kernel_rfl
  c233 := by kernel_rfl }
theorem Tryd.strconv_Atoi_ok (s : ByteArray) (hmax : s.size ≤ 9223372036854775806) (v : Int) (h : Lib.atoiAll s.data.toList = .ok v) (w : World) :
    Calls Tryd.prog 57 #[.string s] w fun e w' => e = .returned (.tuple #[.int .i64 v, .nilIface]) ∧ (w' = w ∨ ∃ t, w' = Lib.bytesWorld w 5 t) := Any.strconv_Atoi_ok Tryd.laysC172 s hmax v h w
theorem Tryd.strconv_Atoi_syntax_var (s : ByteArray) (hlim : s.size ≤ 281474976710656) (h : Lib.atoiAll s.data.toList = .«syntax») (tp : TypeId) (p : Value) (w : World) (hvar : w.var? Tryd.prog "strconv.ErrSyntax" = some #[.iface tp p]) :
    Calls Tryd.prog 57 #[.string s] w fun e w' => ∃ N, e = .returned (.tuple #[.int .i64 0, .iface 125 (.pointer (some ⟨N, 0, none⟩))]) ∧ w.heap.size ≤ N ∧ w'.heap[N]? = some (.cells #[.string ⟨#[65, 116, 111, 105]⟩, .string s, .iface tp p] 139 (0, 0)) ∧ Below w.heap.size w w' := Any.strconv_Atoi_syntax_var Tryd.laysC172 s hlim h tp p w hvar
theorem Tryd.strconv_Atoi_range_var (s : ByteArray) (hlim : s.size ≤ 281474976710656) (h : Lib.atoiAll s.data.toList = .range) (tp : TypeId) (p : Value) (w : World) (hvar : w.var? Tryd.prog "strconv.ErrRange" = some #[.iface tp p]) :
    Calls Tryd.prog 57 #[.string s] w fun e w' => ∃ N, e = .returned (.tuple #[.int .i64 (Lib.atoiSat s.data.toList), .iface 125 (.pointer (some ⟨N, 0, none⟩))]) ∧ w.heap.size ≤ N ∧ w'.heap[N]? = some (.cells #[.string ⟨#[65, 116, 111, 105]⟩, .string s, .iface tp p] 139 (0, 0)) ∧ Below w.heap.size w w' := Any.strconv_Atoi_range_var Tryd.laysC172 s hlim h tp p w hvar
def Tryd.lays145_ren : Go.Shelf.Ren := ⟨fun | 145 => 50 | 220 => 62 | 219 => 77 | 217 => 91 | 225 => 92 | 224 => 93 | 267 => 94 | 266 => 101 | 314 => 102 | n => n, fun | 9 => 9 | 4 => 4 | 59 => 92 | 3 => 3 | 5 => 5 | 46 => 100 | 146 => 142 | 51 => 131 | n => n, fun | 1 => 1 | n => n⟩
theorem Tryd.lays145 : Go.Proofs.Lays.n145 Tryd.prog Tryd.lays145_ren := {
  mixed := by kernel_rfl
  f145 := Tryd.func50.trans (congrArg some (by kernel_rfl))
  f217 := Tryd.func91.trans (congrArg some (by kernel_rfl))
  f219 := Tryd.func77.trans (congrArg some (by kernel_rfl))
  f220 := Tryd.func62.trans (congrArg some (by kernel_rfl))
  f224 := Tryd.func93.trans (congrArg some (by kernel_rfl))
  f225 := Tryd.func92.trans (congrArg some (by kernel_rfl))
  f266 := Tryd.func101.trans (congrArg some (by kernel_rfl))
  f267 := Tryd.func94.trans (congrArg some (by kernel_rfl))
  f314 := Tryd.func102.trans (congrArg some (by kernel_rfl))
  t3 := Tryd.underlying3
  a3 := Tryd.isAgg3
  z3 := Tryd.sizeOf3
  v3 := Tryd.zeroValue3
  t4 := Tryd.underlying4
  a4 := Tryd.isAgg4
  z4 := Tryd.sizeOf4
  v4 := Tryd.zeroValue4
  t5 := Tryd.underlying5
  a5 := Tryd.isAgg5
  z5 := Tryd.sizeOf5
  v5 := Tryd.zeroValue5
  t9 := Tryd.underlying9
  a9 := Tryd.isAgg9
  z9 := Tryd.sizeOf9
  v9 := Tryd.zeroValue9
  t46 := Tryd.underlying100
  a46 := Tryd.isAgg100
  z46 := Tryd.sizeOf100
  v46 := Tryd.zeroValue100
  t51 := Tryd.underlying131
  a51 := Tryd.isAgg131
  z51 := Tryd.sizeOf131
  v51 := Tryd.zeroValue131
  t59 := Tryd.underlying92
  a59 := Tryd.isAgg92
  z59 := Tryd.sizeOf92
  v59 := Tryd.zeroValue92
  t146 := Tryd.underlying142
  a146 := Tryd.isAgg142
  z146 := Tryd.sizeOf142
  v146 := Tryd.zeroValue142
  g1 := by kernel_rfl }
theorem Tryd.strings_Cut (s sep : ByteArray) (m : Int) (w : World) (hs : s.size < 4294967281) (hm : w.cell? ⟨1, 0, none⟩ = some (.int .i64 m)) :
    Calls Tryd.prog 50 #[.string s, .string sep] w fun e w' => e = .returned (.tuple #[.string ⟨(Lib.cut s.data.toList sep.data.toList).1.toArray⟩, .string ⟨(Lib.cut s.data.toList sep.data.toList).2.1.toArray⟩, .bool (Lib.cut s.data.toList sep.data.toList).2.2]) ∧ ∃ n, w' = w.drewN n := Any.strings_Cut Tryd.lays145 s sep m w hs hm
def Tryd.lays146_ren : Go.Shelf.Ren := ⟨fun | 146 => 34 | 221 => 53 | 268 => 63 | 138 => 64 | 143 => 65 | 195 => 78 | 197 => 79 | 218 => 80 | 219 => 77 | 260 => 95 | 217 => 91 | 225 => 92 | 224 => 93 | 267 => 94 | 266 => 101 | 314 => 102 | n => n, fun | 9 => 9 | 31 => 49 | 3 => 3 | 4 => 4 | 0 => 0 | 105 => 120 | 21 => 21 | 5 => 5 | 46 => 100 | 119 => 144 | 139 => 147 | 138 => 146 | 146 => 142 | 51 => 131 | n => n, fun | 1 => 1 | 3 => 4 | 4 => 5 | n => n⟩
theorem Tryd.lays146 : Go.Proofs.Lays.n146 Tryd.prog Tryd.lays146_ren := {
  mixed := by kernel_rfl
  f138 := Tryd.func64.trans (congrArg some (by kernel_rfl))
  f143 := Tryd.func65.trans (congrArg some (by kernel_rfl))
  f146 := Tryd.func34.trans (congrArg some (by kernel_rfl))
  f195 := Tryd.func78.trans (congrArg some (by kernel_rfl))
  f197 := Tryd.func79.trans (congrArg some (by kernel_rfl))
  f217 := Tryd.func91.trans (congrArg some (by kernel_rfl))
  f218 := Tryd.func80.trans (congrArg some (by kernel_rfl))
  f219 := Tryd.func77.trans (congrArg some (by kernel_rfl))
  f221 := Tryd.func53.trans (congrArg some (by kernel_rfl))
  f224 := Tryd.func93.trans (congrArg some (by kernel_rfl))
  f225 := Tryd.func92.trans (congrArg some (by kernel_rfl))
  f260 := Tryd.func95.trans (congrArg some (by kernel_rfl))
  f266 := Tryd.func101.trans (congrArg some (by kernel_rfl))
  f267 := Tryd.func94.trans (congrArg some (by kernel_rfl))
  f268 := Tryd.func63.trans (congrArg some (by kernel_rfl))
  f314 := Tryd.func102.trans (congrArg some (by kernel_rfl))
  t0 := Tryd.underlying0
  a0 := Tryd.isAgg0
  z0 := Tryd.sizeOf0
  v0 := Tryd.zeroValue0
  t3 := Tryd.underlying3
  a3 := Tryd.isAgg3
  z3 := Tryd.sizeOf3
  v3 := Tryd.zeroValue3
  t4 := Tryd.underlying4
  a4 := Tryd.isAgg4
  z4 := Tryd.sizeOf4
  v4 := Tryd.zeroValue4
  t5 := Tryd.underlying5
  a5 := Tryd.isAgg5
  z5 := Tryd.sizeOf5
  v5 := Tryd.zeroValue5
  t9 := Tryd.underlying9
  a9 := Tryd.isAgg9
  z9 := Tryd.sizeOf9
  v9 := Tryd.zeroValue9
  t21 := Tryd.underlying21
  a21 := Tryd.isAgg21
  z21 := Tryd.sizeOf21
  v21 := Tryd.zeroValue21
  t31 := Tryd.underlying49
  a31 := Tryd.isAgg49
  z31 := Tryd.sizeOf49
  v31 := Tryd.zeroValue49
  t46 := Tryd.underlying100
  a46 := Tryd.isAgg100
  z46 := Tryd.sizeOf100
  v46 := Tryd.zeroValue100
  t51 := Tryd.underlying131
  a51 := Tryd.isAgg131
  z51 := Tryd.sizeOf131
  v51 := Tryd.zeroValue131
  t105 := Tryd.underlying120
  a105 := Tryd.isAgg120
  z105 := Tryd.sizeOf120
  v105 := Tryd.zeroValue120
  t119 := Tryd.underlying144
  a119 := Tryd.isAgg144
  z119 := Tryd.sizeOf144
  t138 := Tryd.underlying146
  a138 := Tryd.isAgg146
  z138 := Tryd.sizeOf146
  v138 := Tryd.zeroValue146
  t139 := Tryd.underlying147
  a139 := Tryd.isAgg147
  z139 := Tryd.sizeOf147
  v139 := Tryd.zeroValue147
  t146 := Tryd.underlying142
  a146 := Tryd.isAgg142
  z146 := Tryd.sizeOf142
  v146 := Tryd.zeroValue142
  g1 := by kernel_rfl
  g3 := by kernel_rfl
  g4 := by kernel_rfl }
theorem Tryd.strings_Split (s sep : ByteArray) (m : Int) (w : World) (hs : s.size < 4294967281) (hm : w.cell? ⟨1, 0, none⟩ = some (.int .i64 m)) (h1 : 1 ≤ sep.size) :
    Calls Tryd.prog 34 #[.string s, .string sep] w fun e w' =>
      e = .returned (.slice (some ⟨w.heap.size, 0, none⟩) (Lib.countB s sep + 1) (Lib.countB s sep + 1)) ∧ w' = w.alloc (.cells ((Lib.splitB sep 0 (Lib.countB s sep) s).map Value.string).toArray 9) := Any.strings_Split Tryd.lays146 (by kernel_rfl) s sep m w hs hm h1
end Go.Proofs
namespace Go.Proofs.YtmlejhpeoiicpaaDoor.Ab
open Go Go.RowKit
set_option linter.unusedVariables false
set_option linter.unusedSimpArgs false

/-! an empty slice inside an element may be nil -/
/-! own slices of an answer, told as plain ones -/
/-- the end of a body's walk -/
def EndW (X : Cx) (n : Nat) (rs : List (Nat × Option Nat)) (r : Res) (e : Exit) (σ' : AS) : Prop := (e = .normal ∨ e = .ret) ∧ ∃ σ2, Wk X σ' σ2 ∧ ∃ σ1, unbox D rs σ2 = some σ1 ∧ ∃ ns rl, Cover D (Ab.freeze σ1 ns) (resS n (rs.map (·.1)) r) rl
theorem conM {G : Ctr} {M : MCtr} (hM : MOk Tryd.prog D G M) (hok : GOk Tryd.prog D G) {f : Nat} {fn : Func} {c : Code} {rs : List (Nat × Option Nat)} {args : List AV} {r : Res} {n : Nat} (hf : Tryd.prog.funcs[f]? = some fn) (hres : fn.results = (rs.map toRV).toArray) (hn : fn.ntmps = n) (lo : Nat → Lo)
    (h : ∀ X : Cx, X.P = Tryd.prog → X.D = D ∧ X.nb = 0 ∧ X.M = M → X.G = G → X.Ok → evC X lo c (EndW X n rs r) (argS n args))
    (hb : fn.body = some c := by rfl) (hname : (fn.name == "runtime.NumGoroutine") = false := by decide) (hd : (rs.map (·.1)).Nodup := by decide) (hfit : resFit (rs.map (·.1)) r.v = true := by rfl) (hlen : args.length ≤ n ∧ n ≤ 65536 := by simp) (hnm : namess args = [] := by simp [namess, names]) : Con Tryd.prog D f args r :=
  con_ofM hM mixed tok hok hf hb hname hres hd hfit hn hlen hnm fun X hP hD hG hX => fun γ a w hs => wp_mono (evC_sound hX lo _ _ _ (h X hP hD hG hX) γ a w hs) fun e a' w' ⟨σ', ⟨h1, σ2, h2, h3⟩, h4⟩ => ⟨σ2, ⟨h1, h3⟩, h2 γ a' w' h4⟩
theorem conW {G : Ctr} (hok : GOk Tryd.prog D G) {f : Nat} {fn : Func} {c : Code} {rs : List (Nat × Option Nat)} {args : List AV} {r : Res} {n : Nat} (hf : Tryd.prog.funcs[f]? = some fn) (hres : fn.results = (rs.map toRV).toArray) (hn : fn.ntmps = n) (lo : Nat → Lo)
    (h : ∀ X : Cx, X.P = Tryd.prog → X.D = D ∧ X.nb = 0 ∧ X.M = noM → X.G = G → X.Ok → evC X lo c (EndW X n rs r) (argS n args))
    (hb : fn.body = some c := by rfl) (hname : (fn.name == "runtime.NumGoroutine") = false := by decide) (hd : (rs.map (·.1)).Nodup := by decide) (hfit : resFit (rs.map (·.1)) r.v = true := by rfl) (hlen : args.length ≤ n ∧ n ≤ 65536 := by simp) (hnm : namess args = [] := by simp [namess, names]) : Con Tryd.prog D f args r :=
  conM MOk.none hok hf hres hn lo h hb hname hd hfit hlen hnm
/-- the end, plainly -/
theorem endW {X : Cx} {n : Nat} {rs : List (Nat × Option Nat)} {r : Res} {e : Exit} {σ' σ1 : AS} (ns : List Nat) (rl : List (Nat × Nat)) (he : e = .normal ∨ e = .ret) (hu : unbox D rs σ' = some σ1) (nt : (resS n (rs.map (·.1)) r).nt = (Ab.freeze σ1 ns).nt) (nd : nodupV rl = true)
    (tm : covT (Ab.freeze σ1 ns) (keys (resS n (rs.map (·.1)) r).bl) rl (resS n (rs.map (·.1)) r).tm) (bl : covB D (Ab.freeze σ1 ns) (keys (resS n (rs.map (·.1)) r).bl) rl (resS n (rs.map (·.1)) r).bl) : EndW X n rs r e σ' :=
  ⟨he, σ', Wk.refl, σ1, hu, ns, rl, nt, nd, tm, bl⟩
attribute [go_sem] asked_none
end Go.Proofs.YtmlejhpeoiicpaaDoor.Ab
namespace Go.Proofs.YtmlejhpeoiicpaaDoor.Ab
open Go Go.RowKit
set_option linter.unusedVariables false
set_option linter.unusedSimpArgs false

/-- from a contract of the kit's, that may ask what package variables hold -/
theorem con_lib {P : Program} {D : Nat → TI} {f : Nat} {fn : Func} {args : List AV} {v0 : AV} (hf : P.funcs[f]? = some fn) (hname : (fn.name == "runtime.NumGoroutine") = false) (hbody : fn.body.isNone = false) (hn : names v0 = [])
    (h : ∀ (w : World) (im : Nat → Prop) (ρ : Env) (vs : Array Value), ImOk w im → Rels w im ρ args vs.toList →
      Calls P f vs w fun e w' => ∃ v, e = .returned v ∧ Below w.heap.size w w' ∧ Rel w' (fun b => b < w'.heap.size ∧ (im b ∨ w.heap.size ≤ b)) ρ v0 v) : Con P D f args ⟨v0, []⟩ := by
  refine ⟨⟨fn, hf, hname, hbody⟩, fun w im ρ vs him hvs => (h w im ρ vs him hvs).mono fun e w' ⟨v, he, hb, hr⟩ => ⟨v, he, ⟨hb.os, hb.tape, hb.output, hb.size, fun b hlt _ => hb.block b hlt⟩, ρ, ?_, ?_, ?_, ?_⟩⟩
  · intro k e sz rs hk; simp at hk
  · intro k l b hk; simp at hk
  · exact hr.mono (fun b hb => ⟨hb.1, hb.2, fun m hm => by simp at hm⟩) (fun _ _ => rfl) (fun _ _ => rfl)
  · intro n hn'; rw [hn] at hn'; cases hn'
/-- strings in a slice -/
def strRow (l : List UInt8) : List AV := [.str l]
def bA (l : List UInt8) : ByteArray := ⟨⟨l⟩⟩
theorem strs_inj : ∀ {l m : List (List UInt8)}, l.map strRow = m.map strRow → l = m
  | [], [], _ => rfl
  | [], _ :: _, h => by simp at h
  | _ :: _, [], h => by simp at h
  | a :: l, b :: m, h => by
    simp only [List.map_cons, List.cons.injEq, strRow, AV.str.injEq, and_true] at h
    rw [h.1, strs_inj h.2]
theorem strGet {l : List (List UInt8)} {i : Nat} (h : i < l.length) : (l.map strRow).getD i [] = strRow (l.getD i []) := by
  simp [h]
section
variable {w : World} {im : Nat → Prop} {ρ : Env}
theorem rel_strs {l : List (List UInt8)} {v : Value} (h : Rel w im ρ (.sl 1 (l.map strRow)) v) : ∃ A c, v = .slice A l.length c ∧ l.length ≤ c ∧ c ≤ maxLen ∧ (0 < l.length → ∃ b o, A = some ⟨b, o, none⟩ ∧ im b ∧ ∀ (j : Nat) x, l[j]? = some x → w.cell? ⟨b, o + j, none⟩ = some (.string (bA x))) := by
  generalize hrs : l.map strRow = rs at h
  cases h with
  | sl sz rs A c b o val hc hm hA hrow hcell hval =>
  subst hrs
  rw [List.length_map] at hc hA ⊢
  refine ⟨A, c, rfl, hc, hm, fun hn => ?_⟩
  obtain ⟨h1, h2⟩ := hA hn
  refine ⟨b, o, h1, h2, fun j x hx => ?_⟩
  have hr : (l.map strRow)[j]? = some (strRow x) := by rw [List.getElem?_map, hx]; rfl
  have h3 := hcell j 0 _ (.str x) hr rfl
  have h4 := (hval j 0 _ (.str x) hr rfl).str_
  rw [h4] at h3
  simpa [bA] using h3.1
theorem strs_rel {b o c : Nat} {l : List (List UInt8)} (hc : l.length ≤ c) (hm : c ≤ maxLen) (hb : im b) (h : ∀ (j : Nat) x, l[j]? = some x → w.cell? ⟨b, o + j, none⟩ = some (.string (bA x))) : Rel w im ρ (.sl 1 (l.map strRow)) (.slice (some ⟨b, o, none⟩) l.length c) := by
  have hrow : ∀ {i j : Nat} {row : List AV} {x : AV}, (l.map strRow)[i]? = some row → row[j]? = some x → ∃ y, l[i]? = some y ∧ j = 0 ∧ x = .str y := fun {i j row x} hi hj => by
    rw [List.getElem?_map] at hi
    obtain ⟨y, hy, rfl⟩ := Option.map_eq_some_iff.1 hi
    have hj0 : j = 0 := by have := (List.getElem?_eq_some_iff.1 hj).1; simp [strRow] at this; exact this
    subst hj0
    simp [strRow] at hj
    exact ⟨y, hy, rfl, hj.symm⟩
  have := Rel.sl (w := w) (im := im) (ρ := ρ) 1 (l.map strRow) (some ⟨b, o, none⟩) c b o (fun i _ => .string (bA (l.getD i []))) (by simpa using hc) hm (fun _ => ⟨rfl, hb⟩) (fun i row hi => ?_) (fun i j row x hi hj => ?_) (fun i j row x hi hj => ?_)
  · rw [List.length_map] at this; exact this
  · rw [List.getElem?_map] at hi
    obtain ⟨y, _, rfl⟩ := Option.map_eq_some_iff.1 hi
    rfl
  · obtain ⟨y, hy, rfl, rfl⟩ := hrow hi hj
    have hg : l.getD i [] = y := by simp [hy]
    refine ⟨?_, rfl, by simp [names]⟩
    rw [hg, show o + (i * 1 + 0) = o + i by omega]
    exact h i y hy
  · obtain ⟨y, hy, rfl, rfl⟩ := hrow hi hj
    have hg : l.getD i [] = y := by simp [hy]
    rw [hg]
    exact .str y
end
theorem con_cutprefix (s p : List UInt8) : Con Tryd.prog D 37 [.str s, .str p] ⟨.tup [.str (Lib.trimPrefix s p), .bool (Lib.hasPrefix s p)], []⟩ := by
  refine con_lib Tryd.func37 (by decide) rfl (by simp [names, namess]) fun w im ρ vs him hvs => ?_
  obtain ⟨v, u, rfl, hv, hu⟩ := rels_two hvs
  rw [hv.str_, hu.str_]
  refine (Tryd.strings_CutPrefix (bA s) (bA p) w).mono fun e w' ⟨he, hw⟩ => ⟨_, he, ?_, tup2_rel (.str _) (.bool _)⟩
  subst hw
  exact Below.refl _ _
theorem con_sindexbyte (s : List UInt8) (c : UInt8) : Con Tryd.prog D 76 [.str s, .int .u8 c.toNat] ⟨.int .i64 (Lib.indexByte s c), []⟩ := by
  refine con_lib Tryd.func76 (by decide) rfl (by simp [names]) fun w im ρ vs him hvs => ?_
  obtain ⟨v, u, rfl, hv, hu⟩ := rels_two hvs
  rw [hv.str_, hu.int_]
  refine (Tryd.strings_IndexByte (bA s) c.toNat w).mono fun e w' ⟨he, hw⟩ => ⟨_, he, ?_, ?_⟩
  · subst hw
    exact Below.refl _ _
  · have : (c.toNat : Int).toNat.toUInt8 = c := by simp
    rw [this]
    exact .int _ _
theorem con_scut (s p : List UInt8) (hs : s.length < 4294967281) : Con Tryd.prog D 50 [.str s, .str p] ⟨.tup [.str (Lib.cut s p).1, .str (Lib.cut s p).2.1, .bool (Lib.cut s p).2.2], []⟩ := by
  refine con_lib Tryd.func50 (by decide) rfl (by simp [names, namess]) fun w im ρ vs him hvs => ?_
  obtain ⟨v, u, rfl, hv, hu⟩ := rels_two hvs
  rw [hv.str_, hu.str_]
  obtain ⟨m, _, _, _, _, hm⟩ := him.2.2.2.1
  refine (Tryd.strings_Cut (bA s) (bA p) m w hs hm).mono fun e w' ⟨he, n, hw⟩ => ⟨_, he, ?_, ?_⟩
  · subst hw
    exact below_drewN (Below.refl _ _) n
  · refine .tup _ _ rfl fun i x v hx hv => ?_
    match i with
    | 0 => simp at hx hv; subst hx hv; exact .str _
    | 1 => simp at hx hv; subst hx hv; exact .str _
    | 2 => simp at hx hv; subst hx hv; exact .bool _
    | i + 3 => simp at hx
theorem con_ssplit (s p : List UInt8) (hs : s.length < 4294967281) (h1 : 1 ≤ p.length) : Con Tryd.prog D 34 [.str s, .str p] ⟨.sl 1 ((Lib.split s p).map strRow), []⟩ := by
  refine con_lib Tryd.func34 (by decide) rfl (by simp [names]) fun w im ρ vs him hvs => ?_
  obtain ⟨v, u, rfl, hv, hu⟩ := rels_two hvs
  rw [hv.str_, hu.str_]
  obtain ⟨m, _, _, _, _, hm⟩ := him.2.2.2.1
  have hlen := Lib.splitB_all (bA p) h1 0 _ (bA s) rfl
  have hdat := Lib.splitB_data (bA p) 0 (Lib.countB (bA s) (bA p)) (bA s)
  have hdl : (Lib.split s p).length = Lib.countB (bA s) (bA p) + 1 := by
    show (Lib.splitK p 0 (Lib.count s p) s).length = _
    rw [← hlen, ← List.length_map (f := fun b : ByteArray => b.data.toList), hdat]
    rfl
  have hle : Lib.countB (bA s) (bA p) ≤ s.length := Lib.countB_le (bA p) h1 _ (bA s) (Nat.le_refl _)
  refine (Tryd.strings_Split (bA s) (bA p) m w hs hm h1).mono fun e w' ⟨he, hw⟩ => ⟨_, he, ?_, ?_⟩
  · subst hw
    exact (Below.refl _ _).alloc (Nat.le_refl _) _
  · subst hw
    rw [← hdl]
    refine strs_rel (o := 0) (Nat.le_refl _) (by rw [hdl]; unfold maxLen; omega) ⟨by simp, .inr (Nat.le_refl _)⟩ fun j x hx => ?_
    have hx' : ((Lib.splitB (bA p) 0 (Lib.countB (bA s) (bA p)) (bA s)).map (·.data.toList))[j]? = some x := by rw [hdat]; exact hx
    rw [List.getElem?_map] at hx'
    obtain ⟨y, hy, rfl⟩ := Option.map_eq_some_iff.1 hx'
    rw [Nat.zero_add, World.cell?_alloc_at _ _ _ _ rfl]
    simp only [List.getElem?_toArray, List.getElem?_map, hy, Option.map_some]
    rfl
theorem con_sjoin (l : List (List UInt8)) (p : List UInt8) (hN : (Lib.join l p).length ≤ 1099511627776) (hl : l.length ≤ 1099511627776) : Con Tryd.prog D 26 [.sl 1 (l.map strRow), .str p] ⟨.str (Lib.join l p), []⟩ := by
  refine con_lib Tryd.func26 (by decide) rfl (by simp [names]) fun w im ρ vs him hvs => ?_
  obtain ⟨v, u, rfl, hv, hu⟩ := rels_two hvs
  rw [hu.str_]
  obtain ⟨A, c, rfl, h1, h2, h3⟩ := rel_strs hv
  rcases Nat.eq_zero_or_pos l.length with h0 | h0
  · have h0 := List.eq_nil_of_length_eq_zero h0
    subst h0
    refine (Tryd.strings_Join_none A c (bA p) w).mono fun e w' ⟨he, hw⟩ => ⟨_, he, ?_, .str _⟩
    subst hw
    exact Below.refl _ _
  · obtain ⟨b, o, rfl, hb, hcell⟩ := h3 h0
    have hm : (l.map bA).map (·.data.toList) = l := by rw [List.map_map]; exact List.map_id' l
    have := Tryd.strings_Join b o c (l.map bA) (bA p) w (fun j x hx => by
      rw [List.getElem?_map] at hx
      obtain ⟨y, hy, rfl⟩ := Option.map_eq_some_iff.1 hx
      exact hcell j y hy) (him.1 b hb) (by simp; omega) (by simpa using h1) (by rw [hm]; show (Lib.join l p).length ≤ _; omega)
    rw [List.length_map, hm] at this
    exact this.mono fun e w' ⟨he, hw⟩ => ⟨_, he, hw, .str _⟩
theorem con_itoa (n : Int) (h0 : -9223372036854775808 ≤ n) (h1 : n ≤ 9223372036854775807) : Con Tryd.prog D 24 [.int .i64 n] ⟨.str (Lib.itoa n), []⟩ := by
  refine con_lib Tryd.func24 (by decide) rfl (by simp [names]) fun w im ρ vs him hvs => ?_
  obtain ⟨v, rfl, hv⟩ := rels_one hvs
  rw [hv.int_]
  obtain ⟨t, f, ht⟩ := him.2.2.1
  refine (Tryd.strconv_Itoa n h0 h1 w ?_).mono fun e w' ⟨he, k, os, hw⟩ => ⟨_, he, ?_, .str _⟩
  · unfold Lib.TabIs World.var?
    rw [show Tryd.prog.globalNamed _ = some 0 by kernel_rfl]
    simp only [Option.bind_some, ht]
  · subst hw
    refine ⟨rfl, rfl, rfl, by show w.heap.size ≤ (w.heap ++ os).size; rw [Array.size_append]; omega, fun j hj => ?_⟩
    show (w.heap ++ os)[j]? = w.heap[j]?
    exact Array.getElem?_append_left hj
/-- what strconv.Atoi tells: a number, whether there is an error -/
def atoiS (l : List UInt8) : Int × Bool := match Lib.atoiAll l with
  | .ok v => (v, false)
  | .«syntax» => (0, true)
  | .range => (Lib.atoiSat l, true)
theorem con_atoi (s : List UInt8) (hs : s.length ≤ 281474976710656) : Con Tryd.prog D 57 [.str s] ⟨.tup [.int .i64 (atoiS s).1, .ifc (atoiS s).2], []⟩ := by
  refine con_lib Tryd.func57 (by decide) rfl (by simp [names, namess]) fun w im ρ vs him hvs => ?_
  obtain ⟨v, rfl, hv⟩ := rels_one hvs
  rw [hv.str_]
  obtain ⟨tp, p, t, f, hv1⟩ := him.2.2.2.2.1
  obtain ⟨tp2, p2, t2, f2, hv2⟩ := him.2.2.2.2.2
  unfold atoiS
  cases ha : Lib.atoiAll s with
  | ok x =>
    refine (Tryd.strconv_Atoi_ok (bA s) (by show s.length ≤ _; omega) x ha w).mono fun e w' ⟨he, hw⟩ => ⟨_, he, ?_, tup2_rel (.int _ _) (.ifc _ _ rfl)⟩
    rcases hw with rfl | ⟨q, rfl⟩
    · exact Below.refl _ _
    · exact Lib.bytesWorld_below w _ q
  | «syntax» =>
    refine (Tryd.strconv_Atoi_syntax_var (bA s) hs ha tp p w ?_).mono fun e w' ⟨N, he, h1, h2, h3⟩ => ⟨_, he, h3, tup2_rel (.int _ _) (.ifc _ _ rfl)⟩
    unfold World.var?
    rw [show Tryd.prog.globalNamed _ = some 2 by kernel_rfl]
    simp only [Option.bind_some, hv1]
  | range =>
    refine (Tryd.strconv_Atoi_range_var (bA s) hs ha tp2 p2 w ?_).mono fun e w' ⟨N, he, h1, h2, h3⟩ => ⟨_, he, h3, tup2_rel (.int _ _) (.ifc _ _ rfl)⟩
    unfold World.var?
    rw [show Tryd.prog.globalNamed _ = some 3 by kernel_rfl]
    simp only [Option.bind_some, hv2]
end Go.Proofs.YtmlejhpeoiicpaaDoor.Ab
namespace Go.Proofs.YtmlejhpeoiicpaaDoor.Ab
open Go Go.RowKit
set_option linter.unusedVariables false
set_option linter.unusedSimpArgs false

/-- the first place from k on; below 0: none -/
def placeG {α : Type} (p : α → Bool) : List α → Int → Int
  | [], _ => -1
  | i :: r, k => if p i = true then k else placeG p r (k + 1)
theorem placeG_hit {α : Type} {p : α → Bool} {d : α} : ∀ {l : List α} {k : Nat} {s : Int}, k < l.length → (∀ j, j < k → p (l.getD j d) = false) → p (l.getD k d) = true → placeG p l s = s + k
  | [], k, s, h, _, _ => by simp at h
  | i :: r, 0, s, h, _, hk => by
    rw [placeG, if_pos (by simpa using hk)]
    simp
  | i :: r, k + 1, s, h, hj, hk => by
    have h0 := hj 0 (by omega)
    rw [placeG, if_neg (by simpa using h0), placeG_hit (d := d) (k := k) (by simpa using h) (fun j hlt => by simpa using hj (j + 1) (by omega)) (by simpa using hk)]
    omega
theorem placeG_miss {α : Type} {p : α → Bool} {d : α} : ∀ {l : List α} {s : Int}, (∀ j, j < l.length → p (l.getD j d) = false) → placeG p l s = -1
  | [], _, _ => rfl
  | i :: r, s, h => by
    have h0 := h 0 (by simp)
    rw [placeG, if_neg (by simpa using h0), placeG_miss (d := d) (fun j hlt => by simpa using h (j + 1) (by simpa using hlt))]
theorem placeG_range {α : Type} {p : α → Bool} {l : List α} : placeG p l 0 = -1 ∨ (0 ≤ placeG p l 0 ∧ placeG p l 0 < l.length) := by
  have key : ∀ (l : List α) (s : Int), 0 ≤ s → placeG p l s = -1 ∨ (s ≤ placeG p l s ∧ placeG p l s < s + l.length) := by
    intro l
    induction l with
    | nil => intro s hs; exact .inl rfl
    | cons i r ih =>
      intro s hs
      rw [placeG]
      split
      · exact .inr ⟨Int.le_refl _, by simp only [List.length_cons]; omega⟩
      · rcases ih (s + 1) (by omega) with h | h
        · exact .inl h
        · exact .inr ⟨by omega, by simp only [List.length_cons]; omega⟩
  have := key l 0 (Int.le_refl _)
  omega
theorem Con.weak {P : Program} {D : Nat → TI} {f : Nat} {args args' : List AV} {r : Res} (h : Con P D f args r) (hc : covs [] args' args) : Con P D f args' r := by
  obtain ⟨h0, h⟩ := h
  refine ⟨h0, fun w im ρ vs him hvs => h w im (fun _ => ⟨none, none, 0, 0, 0, fun _ => none⟩) vs him ?_⟩
  obtain ⟨h1, h2⟩ := hvs
  obtain ⟨q1, q2⟩ := covs_get hc
  refine ⟨by rw [h1, q1], fun i y v hy hv => ?_⟩
  obtain ⟨x, hx, hxy⟩ := q2 i y hy
  exact (h2 i x v hx hv).cov (fun _ h => h) (fun n t hn => by simp [get] at hn) (fun _ _ => rfl) hxy
end Go.Proofs.YtmlejhpeoiicpaaDoor.Ab
namespace Go.Proofs.YtmlejhpeoiicpaaDoor.Ab
open Go Go.RowKit
set_option linter.unusedVariables false

theorem var_block {W : World} {n : String} {g : Nat} {cs : Array Value} (hg : Tryd.prog.globalNamed n = some g) (h : W.var? Tryd.prog n = some cs) : ∃ t f, W.heap[g]? = some (.cells cs t f) := by
  unfold World.var? at h
  rw [hg] at h
  simp only [Option.bind_some] at h
  split at h
  · rename_i c t f e
    cases h
    exact ⟨t, f, e⟩
  · cases h
set_option maxRecDepth 100000 in
theorem max_some {W : World} (h : W.ShapedOpen Tryd.prog) : ∃ m cs t f, W.heap[1]? = some (.cells cs t f) ∧ W.cell? ⟨1, 0, none⟩ = some (.int .i64 m) := by
  unfold World.ShapedOpen at h
  obtain ⟨cs, hb, hs, hr⟩ := h.1 1 #[.int .i64 0] 3 (of_decide_eq_true (by kernel_rfl)) (by kernel_rfl)
  obtain ⟨ts, h1, h2, h3⟩ := hr (by kernel_rfl)
  have e : Tryd.prog.cellTypes Tryd.prog.depth 3 = some [3] := by kernel_rfl
  rw [e] at h1
  cases h1
  have h1 : 0 < cs.size := by rw [hs]; decide
  obtain ⟨u, hu, ok⟩ := h3 0 cs[0] (by simp [h1])
  simp at hu
  subst hu
  unfold Cell.ok at ok
  rw [Tryd.underlying3] at ok
  cases hc : cs[0] <;> rw [hc] at ok <;> simp at ok
  obtain ⟨rfl, _⟩ := ok
  rename_i z hz
  exact ⟨z, cs, _, _, hb, by simp [World.cell?, hb, h1, hc]⟩
theorem iface_block {W : World} {n nm : String} {d : DataW Unit} {g ti : Nat} {ms : Array (String × TypeId)} (hg : Tryd.prog.globalNamed n = some g) (ht : (Tryd.prog.globals[g]?).map (·.type) = some ti) (hi : Tryd.prog.underlying ti = some (.interface ms))
    (h : Lib.VarReads Tryd.prog W n (.iface nm d)) : ∃ tp p t f, W.heap[g]? = some (.cells #[.iface tp p] t f) := by
  obtain ⟨g', t, cs, fuel, p, h1, h2, h3, h4⟩ := h
  obtain rfl := Option.some.inj (hg.symm.trans h1)
  obtain rfl := Option.some.inj (ht.symm.trans h2)
  obtain ⟨_, u, v, e, _⟩ := iface_of_trod hi h4
  obtain ⟨t, f, hb⟩ := var_block hg h3
  obtain rfl : cs = #[.iface u v] := by cases cs; simp_all
  exact ⟨u, v, t, f, hb⟩
set_option maxRecDepth 100000 in
theorem gi_of_laid {W : World} (h : laidMetH Tryd.prog Rows.linesTurnsUptoRow.laid W) (hs : W.ShapedOpen Tryd.prog) : GI W ∧ ∀ b ∈ gL, b < W.heap.size := by
  rw [MakeChecks.laidMetH_plain _ _ _ (by kernel_rfl)] at h
  have hp : ∃ t f, W.heap[0]? = some (.cells (Lib.pow10Tab.map fun z => Value.int .u64 z).toArray t f) := by
    have hr : Lib.VarReads Tryd.prog W "internal/strconv.uint64pow10" (Lib.tabData .u64 Lib.pow10Tab) := Lib.laidMet.reads h (by simp only [Rows.linesTurnsUptoRow]; exact .tail _ (.tail _ (.head _)))
    obtain ⟨g', t, cs, fuel, p, h1, h2, h3, h4⟩ := hr
    have hg : Tryd.prog.globalNamed "internal/strconv.uint64pow10" = some 0 := by kernel_rfl
    obtain rfl := Option.some.inj (hg.symm.trans h1)
    obtain ⟨t', f, hb⟩ := var_block hg h3
    have ht : (Tryd.prog.globals[0]?).map (·.type) = some 130 := by kernel_rfl
    obtain rfl := Option.some.inj (ht.symm.trans h2)
    have := Lib.cells_of_tab (by kernel_rfl : Tryd.prog.underlying 130 = some (.array 20 110)) (by kernel_rfl) (by kernel_rfl) (by kernel_rfl) h4
    exact ⟨t', f, by rw [hb, ← this]⟩
  have h1 := iface_block (g := 2) (ti := 83) (ms := #[("Error", 86)]) (by kernel_rfl) (by kernel_rfl) (by kernel_rfl) (Lib.laidMet.reads h (n := "strconv.ErrSyntax") (by simp only [Rows.linesTurnsUptoRow]; exact .tail _ (.tail _ (.tail _ (.tail _ (.tail _ (.head _)))))))
  have h2 := iface_block (g := 3) (ti := 83) (ms := #[("Error", 86)]) (by kernel_rfl) (by kernel_rfl) (by kernel_rfl) (Lib.laidMet.reads h (n := "strconv.ErrRange") (by simp only [Rows.linesTurnsUptoRow]; exact .tail _ (.tail _ (.tail _ (.tail _ (.head _))))))
  have hm := max_some hs
  refine ⟨⟨hp, hm, h1, h2⟩, fun b hb => ?_⟩
  have hlt : ∀ {g : Nat} {o : Obj}, W.heap[g]? = some o → g < W.heap.size := fun h => (Array.getElem?_eq_some_iff.1 h).1
  obtain ⟨_, _, k1⟩ := hp
  obtain ⟨_, _, _, _, k2, _⟩ := hm
  obtain ⟨_, _, _, _, k3⟩ := h1
  obtain ⟨_, _, _, _, k4⟩ := h2
  simp only [gL, List.mem_cons, List.not_mem_nil, or_false] at hb
  rcases hb with rfl | rfl | rfl | rfl
  · exact hlt k1
  · exact hlt k2
  · exact hlt k3
  · exact hlt k4
end Go.Proofs.YtmlejhpeoiicpaaDoor.Ab
