/-
  Chapter 1 in the evaluator: notes as it has them; contracts of what was walked before.
  No condition but bounds on sizes.
-/
import Derived.Test.YtcgdjdlcecnanaaSt
import Derived.Test.YtcgdjdlcecnanaaNoteB
namespace Go.Proofs.Ytcgdjdlcecnanaa.Ab
open Go Go.RowKit
set_option linter.unusedVariables false
set_option linter.unusedSimpArgs false

def byteI (n : Int) : UInt8 := UInt8.ofNat (n % 256).toNat
theorem byteI_nat (n : Int) : ((byteI n).toNat : Int) = n % 256 := by
  simp [byteI]
  omega
theorem wrap8 (n : Int) : IntKind.wrap .u8 n = ((byteI n).toNat : Int) := by rw [byteI_nat, IntKind.wrap_u8]
theorem byteI_of (b : UInt8) : byteI (b.toNat : Int) = b := by
  have h1 := byteI_nat (b.toNat : Int)
  have h2 := b.toNat_lt
  exact UInt8.toNat_inj.1 (by omega)
theorem byteI_eq {m n : Int} (h : m % 256 = n % 256) : byteI m = byteI n := by rw [byteI, byteI, h]
def propRow (p : LProp) : List AV := [.str p.key.data.toList, .int .i64 p.kind, .int .i64 p.n, .str p.text.data.toList]
def propD : LProp := ⟨⟨#[]⟩, 0, 0, ⟨#[]⟩⟩
theorem propGet {l : List LProp} {i : Nat} (h : i < l.length) : (l.map propRow).getD i [] = propRow (l.getD i propD) := by
  rw [List.getD_eq_getElem?_getD, List.getElem?_map, List.getD_eq_getElem?_getD]
  simp [h]
theorem bytes_ext {a b : ByteArray} (h : a.data.toList = b.data.toList) : a = b := by
  obtain ⟨⟨x⟩⟩ := a
  obtain ⟨⟨y⟩⟩ := b
  simp at h
  rw [h]
theorem propRow_inj {p q : LProp} (h : propRow p = propRow q) : p = q := by
  obtain ⟨a, b, c, d⟩ := p
  obtain ⟨a', b', c', d'⟩ := q
  simp only [propRow, List.cons.injEq, AV.str.injEq, AV.int.injEq, true_and, and_true] at h
  rw [bytes_ext h.1, h.2.1, h.2.2.1, bytes_ext h.2.2.2]
theorem props_inj : ∀ {l m : List LProp}, l.map propRow = m.map propRow → l = m
  | [], [], _ => rfl
  | [], _ :: _, h => by simp at h
  | _ :: _, [], h => by simp at h
  | a :: l, b :: m, h => by
    simp only [List.map_cons, List.cons.injEq] at h
    rw [propRow_inj h.1, props_inj h.2]
def noteA (n : LNote) : AV := .agg [.sl 4 (n.props.map propRow), .sl 1 (n.body.map byteRow)]
theorem noteA_inj {n m : LNote} (h : noteA n = noteA m) : n = m := by
  obtain ⟨a, b⟩ := n
  obtain ⟨c, d⟩ := m
  simp only [noteA, AV.agg.injEq, List.cons.injEq, AV.sl.injEq, true_and, and_true] at h
  rw [props_inj h.1, bytes_inj h.2]

section
variable {w : World} {im : Nat → Prop} {ρ : Env}
theorem prop_cell (p : LProp) (r : Nat) (u : Value) (h : (propV p)[r]? = some u) : ∃ x, (propRow p)[r]? = some x ∧ ∀ v, Rel w im ρ x v → v = u := by
  match r with
  | 0 => simp [propV] at h; subst h; exact ⟨_, rfl, fun v hv => hv.str_⟩
  | 1 => simp [propV] at h; subst h; exact ⟨_, rfl, fun v hv => hv.int_⟩
  | 2 => simp [propV] at h; subst h; exact ⟨_, rfl, fun v hv => hv.int_⟩
  | 3 => simp [propV] at h; subst h; exact ⟨_, rfl, fun v hv => hv.str_⟩
  | r + 4 => simp [propV] at h
theorem cell_prop (p : LProp) (r : Nat) (x : AV) (h : (propRow p)[r]? = some x) : ∃ u, (propV p)[r]? = some u ∧ Rel w im ρ x u ∧ u.oneCell' = true ∧ names x = [] := by
  match r with
  | 0 => simp [propRow] at h; subst h; exact ⟨_, rfl, .str _, rfl, rfl⟩
  | 1 => simp [propRow] at h; subst h; exact ⟨_, rfl, .int _ _, rfl, rfl⟩
  | 2 => simp [propRow] at h; subst h; exact ⟨_, rfl, .int _ _, rfl, rfl⟩
  | 3 => simp [propRow] at h; subst h; exact ⟨_, rfl, .str _, rfl, rfl⟩
  | r + 4 => simp [propRow] at h
theorem rel_props {l : List LProp} {v : Value} (h : Rel w im ρ (.sl 4 (l.map propRow)) v) : ∃ A c, v = .slice A l.length c ∧ l.length ≤ c ∧ c ≤ maxLen ∧ RProps w im A l := by
  generalize hrs : l.map propRow = rs at h
  cases h with
  | sl sz rs A c b o val hc hm hA hrow hcell hval =>
  subst hrs
  rw [List.length_map] at hc hA ⊢
  refine ⟨A, c, rfl, hc, hm, by rw [flatMap_len propV 4 (fun _ => rfl)], fun hn => ?_⟩
  obtain ⟨h1, h2⟩ := hA hn
  refine ⟨b, o, h1, h2, fun j u hu => ?_⟩
  have hj := (List.getElem?_eq_some_iff.1 hu).1
  rw [flatMap_len propV 4 (fun _ => rfl)] at hj
  have hi : j / 4 < l.length := by omega
  have hg := flatMap_get propV 4 (fun _ => rfl) l (j / 4) hi (j % 4) (Nat.mod_lt _ (by omega))
  rw [show j / 4 * 4 + j % 4 = j by omega] at hg
  rw [hg] at hu
  obtain ⟨x, hx, hv⟩ := prop_cell (w := w) (im := im) (ρ := ρ) _ _ _ hu
  have hr : (l.map propRow)[j / 4]? = some (propRow l[j / 4]) := by rw [List.getElem?_map, List.getElem?_eq_getElem hi]; rfl
  have h3 := hcell (j / 4) (j % 4) _ x hr hx
  have h4 := hv _ (hval (j / 4) (j % 4) _ x hr hx)
  rw [h4, show o + (j / 4 * 4 + j % 4) = o + j by omega] at h3
  exact h3.1
theorem props_rel {A : Option Addr} {c : Nat} {l : List LProp} (hc : l.length ≤ c) (hm : c ≤ maxLen) (h : RProps w im A l) : Rel w im ρ (.sl 4 (l.map propRow)) (.slice A l.length c) := by
  by_cases hn : 0 < l.length
  · obtain ⟨b, o, hA, hb, hcell⟩ := h.2 hn
    have hrow : ∀ {i j : Nat} {row : List AV} {x : AV}, (l.map propRow)[i]? = some row → row[j]? = some x → ∃ hi : i < l.length, j < 4 ∧ (propRow l[i])[j]? = some x := fun {i j row x} hi hj => by
      rw [List.getElem?_map] at hi
      obtain ⟨y, hy, rfl⟩ := Option.map_eq_some_iff.1 hi
      obtain ⟨hlt, rfl⟩ := List.getElem?_eq_some_iff.1 hy
      have := (List.getElem?_eq_some_iff.1 hj).1
      exact ⟨hlt, by simpa [propRow] using this, hj⟩
    have := Rel.sl (w := w) (im := im) (ρ := ρ) 4 (l.map propRow) A c b o (fun i j => (propV (l.getD i propD)).getD j .nilIface) (by simpa using hc) hm (fun _ => ⟨hA, hb⟩) (fun i row hi => ?_) (fun i j row x hi hj => ?_) (fun i j row x hi hj => ?_)
    · rw [List.length_map] at this; exact this
    · rw [List.getElem?_map] at hi
      obtain ⟨y, _, rfl⟩ := Option.map_eq_some_iff.1 hi
      rfl
    · obtain ⟨hlt, hj4, hx⟩ := hrow hi hj
      obtain ⟨u, q1, q2, q3, q4⟩ := cell_prop (w := w) (im := im) (ρ := ρ) _ _ _ hx
      have hg : l.getD i propD = l[i] := by simp [hlt]
      simp only [hg, List.getD_eq_getElem?_getD, q1, Option.getD_some]
      exact ⟨hcell _ _ (by rw [flatMap_get propV 4 (fun _ => rfl) l i hlt j hj4]; exact q1), q3, q4⟩
    · obtain ⟨hlt, hj4, hx⟩ := hrow hi hj
      obtain ⟨u, q1, q2, q3, q4⟩ := cell_prop (w := w) (im := im) (ρ := ρ) _ _ _ hx
      have hg : l.getD i propD = l[i] := by simp [hlt]
      simp only [hg, List.getD_eq_getElem?_getD, q1, Option.getD_some]
      exact q2
  · have h0 : l = [] := List.eq_nil_of_length_eq_zero (by omega)
    subst h0
    exact .sl 4 [] A c 0 0 (fun _ _ => .nilIface) hc hm (fun h => absurd h (by simp)) (by simp) (by simp) (by simp)
theorem rel_note {n : LNote} {v : Value} (h : Rel w im ρ (noteA n) v) : ∃ A c A' c', v = .agg #[.slice A n.props.length c, .slice A' n.body.length c'] ∧ RProps w im A n.props ∧ RBytes w im A' n.body := by
  obtain ⟨a, b, rfl, ⟨_, h1⟩, _, h2⟩ := rel_agg2 h
  obtain ⟨A, c, rfl, _, _, p1⟩ := rel_props h1
  obtain ⟨A', c', rfl, _, _, p2⟩ := rel_bytes h2
  exact ⟨A, c, A', c', rfl, p1, p2⟩
theorem note_rel {A A' : Option Addr} {c c' : Nat} {n : LNote} (h1 : n.props.length ≤ c) (h2 : c ≤ maxLen) (h3 : n.body.length ≤ c') (h4 : c' ≤ maxLen) (h : RProps w im A n.props) (k : RBytes w im A' n.body) : Rel w im ρ (noteA n) (.agg #[.slice A n.props.length c, .slice A' n.body.length c']) :=
  agg2_rel rfl rfl (props_rel h1 h2 h) (bytes_rel h3 h4 k)
end
/-! contracts of what was walked -/
theorem con_key (s : ByteArray) (hs : s.size ≤ 1048576) : Con Try.prog D 31 [.str s.data.toList] ⟨.bool (keyS s), []⟩ := by
  refine con_below Try.func31 (by decide) rfl (by simp [names]) fun w im ρ vs him hvs => ?_
  obtain ⟨v, rfl, hv⟩ := rels_one hvs
  rw [hv.str_]
  refine (key_any s w hs).mono fun e w' ⟨he, hw⟩ => ⟨_, he, ?_, .bool _⟩
  first | exact hw | (subst hw; exact Below.refl _ _)
theorem con_refkey (s : ByteArray) (hs : s.size ≤ 1048576) : Con Try.prog D 32 [.str s.data.toList] ⟨.bool (keyS s), []⟩ := by
  refine con_below Try.func32 (by decide) rfl (by simp [names]) fun w im ρ vs him hvs => ?_
  obtain ⟨v, rfl, hv⟩ := rels_one hvs
  rw [hv.str_]
  exact (refkey_any s w hs).mono fun e w' ⟨he, hw⟩ => ⟨_, he, hw, .bool _⟩
theorem con_wrong (n : LNote) (hn : n.Fits) : Con Try.prog D 29 [noteA n] ⟨.int .i64 (wrongS n), []⟩ := by
  refine con_below Try.func29 (by decide) rfl (by simp [names]) fun w im ρ vs him hvs => ?_
  obtain ⟨v, rfl, hv⟩ := rels_one hvs
  obtain ⟨A, c, A', c', rfl, h1, h2⟩ := rel_note hv
  exact (wrong_any n A A' c c' w hn (h1.mono him)).mono fun e w' ⟨he, hw⟩ => ⟨_, he, hw, .int _ _⟩
theorem con_refwrong (n : LNote) (hn : n.Fits) : Con Try.prog D 30 [noteA n] ⟨.int .i64 (wrongS n), []⟩ := by
  refine con_below Try.func30 (by decide) rfl (by simp [names]) fun w im ρ vs him hvs => ?_
  obtain ⟨v, rfl, hv⟩ := rels_one hvs
  obtain ⟨A, c, A', c', rfl, h1, h2⟩ := rel_note hv
  exact (refwrong_any n A A' c c' w hn (h1.mono him)).mono fun e w' ⟨he, hw⟩ => ⟨_, he, hw, .int _ _⟩
theorem con_eqprops (l m : List LProp) (hl : l.length ≤ 1048576) (hm : m.length ≤ 1048576) : Con Try.prog D 74 [.sl 4 (l.map propRow), .sl 4 (m.map propRow)] ⟨.bool (decide (l = m)), []⟩ := by
  refine con_below Try.func74 (by decide) rfl (by simp [names]) fun w im ρ vs him hvs => ?_
  obtain ⟨v, u, rfl, hv, hu⟩ := rels_two hvs
  obtain ⟨A, c, rfl, _, _, h1⟩ := rel_props hv
  obtain ⟨A', c', rfl, _, _, h2⟩ := rel_props hu
  refine (eqprops_any l m A A' c c' w hl hm (h1.mono him) (h2.mono him)).mono fun e w' ⟨nq, he, hw⟩ => ⟨_, he, ?_, .bool _⟩
  subst hw
  exact below_drewN (Below.refl _ _) nq
theorem con_eqbytes (l m : List UInt8) (hl : l.length ≤ 1048576) (hm : m.length ≤ 1048576) : Con Try.prog D 75 [.sl 1 (l.map byteRow), .sl 1 (m.map byteRow)] ⟨.bool (decide (l = m)), []⟩ := by
  refine con_below Try.func75 (by decide) rfl (by simp [names]) fun w im ρ vs him hvs => ?_
  obtain ⟨v, u, rfl, hv, hu⟩ := rels_two hvs
  obtain ⟨A, c, rfl, _, _, h1⟩ := rel_bytes hv
  obtain ⟨A', c', rfl, _, _, h2⟩ := rel_bytes hu
  refine (eqbytes_any l m A A' c c' w hl hm (h1.mono him) (h2.mono him)).mono fun e w' ⟨nq, he, hw⟩ => ⟨_, he, ?_, .bool _⟩
  subst hw
  exact below_drewN (Below.refl _ _) nq
theorem con_own (n : LNote) (hn : n.Fits) : Con Try.prog D 35 [noteA n] ⟨noteA n, []⟩ := by
  refine con_below Try.func35 (by decide) rfl (by simp [noteA, names, namess]) fun w im ρ vs him hvs => ?_
  obtain ⟨v, rfl, hv⟩ := rels_one hvs
  obtain ⟨A, c, A', c', rfl, h1, h2⟩ := rel_note hv
  refine (noteown_any n A A' c c' w hn (h1.mono him) (h2.mono him)).mono fun e w' ⟨A1, c1, A2, c2, he, o1, o2, hb⟩ => ⟨_, he, hb, ?_⟩
  obtain ⟨A3, c3, e1, q1, q2, q3⟩ := own_reads o1
  obtain ⟨A4, c4, e2, q4, q5, q6⟩ := own_reads o2
  cases e1
  cases e2
  exact note_rel q1 q2 q4 q5 (q3.mono fun b hb => ⟨hb.2.1, .inr hb.1⟩) (q6.mono fun b hb => ⟨hb.2.1, .inr hb.1⟩)
end Go.Proofs.Ytcgdjdlcecnanaa.Ab
