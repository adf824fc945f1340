/-
  Tables of contracts; bytes and lists of them as the evaluator has them; lemmas for the evaluation.
  No condition.
-/
import Derived.Test.YtcgdjdlcecnanaaAbTy
import Derived.Test.YtcgdjdlcecnanaaAbB
import Derived.Test.YtcgdjdlcecnanaaLaws
namespace Go.Proofs.Ytcgdjdlcecnanaa.Ab
open Go Go.RowKit
set_option linter.unusedVariables false
set_option linter.unusedSimpArgs false

/-- a row of the table of contracts: called with what an x spells, it answers F x -/
structure Ent (P : Program) (D : Nat → TI) where
  f : Nat
  X : Type
  e : X → List AV
  ok : X → Prop
  F : X → Res
  inj : ∀ x y, ok x → ok y → e x = e y → F x = F y
  con : ∀ x, ok x → Con P D f (e x) (F x)
section
variable {P : Program} {D : Nat → TI}
open Classical in
noncomputable def Ent.ctr (E : Ent P D) (args : List AV) : Option Res := if h : ∃ x, E.ok x ∧ E.e x = args then some (E.F h.choose) else none
open Classical in
noncomputable def tabG : List (Ent P D) → Ctr
  | [], _, _ => none
  | E :: r, f, args => if f = E.f then (match E.ctr args with | some x => some x | none => tabG r f args) else tabG r f args
theorem Ent.hit (E : Ent P D) (x : E.X) (h : E.ok x) : E.ctr (E.e x) = some (E.F x) := by
  unfold Ent.ctr
  have hex : ∃ y, E.ok y ∧ E.e y = E.e x := ⟨x, h, rfl⟩
  rw [dif_pos hex]
  have := hex.choose_spec
  rw [E.inj _ _ this.1 h this.2]
theorem Ent.sound (E : Ent P D) {args : List AV} {r : Res} (h : E.ctr args = some r) : Con P D E.f args r := by
  unfold Ent.ctr at h
  split at h
  · rename_i hex
    have := hex.choose_spec
    cases h
    have hc := E.con _ this.1
    rw [this.2] at hc
    exact hc
  · cases h
theorem tabG_ok : ∀ (T : List (Ent P D)), GOk P D (tabG T)
  | [], f, args, r, h => by simp [tabG] at h
  | E :: T, f, args, r, h => by
    rw [tabG] at h
    split at h
    · rename_i e
      split at h
      · rename_i x hx
        cases h
        rw [e]
        exact E.sound hx
      · exact tabG_ok T f args r h
    · exact tabG_ok T f args r h
theorem tabG_hit {E : Ent P D} {T : List (Ent P D)} {f : Nat} {args : List AV} {r : Res} (hf : f = E.f) (x : E.X) (h : E.ok x) (ha : E.e x = args) (hr : E.F x = r) : tabG (E :: T) f args = some r := by
  rw [tabG, if_pos hf, ← ha, E.hit x h, ← hr]
theorem tabG_skip {E : Ent P D} {T : List (Ent P D)} {f : Nat} {args : List AV} {r : Res} (hf : f ≠ E.f) (h : tabG T f args = some r) : tabG (E :: T) f args = some r := by
  rw [tabG, if_neg hf]
  exact h
end

theorem tabG_at {P : Program} {D : Nat → TI} {E : Ent P D} : ∀ {T : List (Ent P D)} {i : Nat}, T[i]? = some E → ((T.take i).map (·.f)).all (fun g => !(E.f == g)) = true → ∀ (x : E.X), E.ok x → ∀ {args : List AV} {r : Res}, E.e x = args → E.F x = r → tabG T E.f args = some r
  | [], i, h, _, _, _, _, _, _, _ => by simp at h
  | E' :: T, 0, h, _, x, hx, args, r, ha, hr => by
    simp at h
    subst h
    exact tabG_hit rfl x hx ha hr
  | E' :: T, i + 1, h, hn, x, hx, args, r, ha, hr => by
    simp only [List.take_succ_cons, List.map_cons, List.all_cons, Bool.and_eq_true, Bool.not_eq_true', beq_eq_false_iff_ne] at hn
    exact tabG_skip hn.1 (tabG_at (by simpa using h) hn.2 x hx ha hr)
/-! bytes -/
def bytesA (l : List UInt8) : AV := .sl 1 (l.map byteRow)
def recRow (r : List UInt8) : List AV := [.sl 1 (r.map byteRow)]
theorem byteRow_eq (b : UInt8) : byteRow b = [.int .u8 b.toNat] := rfl
theorem bytesOf_map (l : List UInt8) : bytesOf (l.map byteRow) = l := by
  unfold bytesOf
  rw [List.map_map]
  conv => rhs; rw [← List.map_id l]
  exact List.map_congr_left fun b _ => by simp [byteRow]
theorem isB_map (l : List UInt8) : isB (l.map byteRow) := by unfold isB; rw [bytesOf_map]
theorem byteRow_inj {b c : UInt8} (h : byteRow b = byteRow c) : b = c := by
  simp only [byteRow, List.cons.injEq, AV.int.injEq, true_and, and_true] at h
  exact UInt8.toNat_inj.1 (by exact_mod_cast h)
theorem bytes_inj {l m : List UInt8} (h : l.map byteRow = m.map byteRow) : l = m := by
  have := congrArg bytesOf h
  rwa [bytesOf_map, bytesOf_map] at this
theorem recs_inj : ∀ {l m : List (List UInt8)}, l.map recRow = m.map recRow → l = m
  | [], [], _ => rfl
  | [], _ :: _, h => by simp at h
  | _ :: _, [], h => by simp at h
  | a :: l, b :: m, h => by
    simp only [List.map_cons, List.cons.injEq, recRow, AV.sl.injEq, true_and, and_true] at h
    rw [bytes_inj h.1, recs_inj h.2]

section
variable {w : World} {im : Nat → Prop} {ρ : Env}
theorem rel_bytes {l : List UInt8} {v : Value} (h : Rel w im ρ (.sl 1 (l.map byteRow)) v) : ∃ A c, v = .slice A l.length c ∧ l.length ≤ c ∧ c ≤ maxLen ∧ RBytes w im A l := by
  generalize hrs : l.map byteRow = rs at h
  cases h with
  | sl sz rs A c b o val hc hm hA hrow hcell hval =>
  subst hrs
  rw [List.length_map] at hc hA ⊢
  refine ⟨A, c, rfl, hc, hm, by simp, fun hn => ?_⟩
  obtain ⟨h1, h2⟩ := hA hn
  refine ⟨b, o, h1, h2, fun j u hu => ?_⟩
  rw [List.getElem?_map] at hu
  obtain ⟨x, hx, rfl⟩ := Option.map_eq_some_iff.1 hu
  have hr : (l.map byteRow)[j]? = some (byteRow x) := by rw [List.getElem?_map, hx]; rfl
  have h3 := hcell j 0 _ (.int .u8 x.toNat) hr rfl
  have h4 := (hval j 0 _ (.int .u8 x.toNat) hr rfl).int_
  rw [h4] at h3
  simpa [byteV] using h3.1
theorem bytes_rel {A : Option Addr} {c : Nat} {l : List UInt8} (hc : l.length ≤ c) (hm : c ≤ maxLen) (h : RBytes w im A l) : Rel w im ρ (.sl 1 (l.map byteRow)) (.slice A l.length c) := by
  by_cases hn : 0 < l.length
  · obtain ⟨b, o, hA, hb, hcell⟩ := h.2 hn
    have := Rel.sl (w := w) (im := im) (ρ := ρ) 1 (l.map byteRow) A c b o (fun i _ => byteV (l.getD i 0)) (by simpa using hc) hm (fun _ => ⟨hA, hb⟩) (fun i row hi => ?_) (fun i j row x hi hj => ?_) (fun i j row x hi hj => ?_)
    · rw [List.length_map] at this; exact this
    · rw [List.getElem?_map] at hi
      obtain ⟨y, _, rfl⟩ := Option.map_eq_some_iff.1 hi
      rfl
    · rw [List.getElem?_map] at hi
      obtain ⟨y, hy, rfl⟩ := Option.map_eq_some_iff.1 hi
      have hj0 : j = 0 := by have := (List.getElem?_eq_some_iff.1 hj).1; simp [byteRow] at this; exact this
      subst hj0
      simp [byteRow] at hj
      subst hj
      have hg : l.getD i 0 = y := by simp [hy]
      simp only [hg]
      refine ⟨?_, rfl, by simp [names]⟩
      have := hcell i (byteV y) (by rw [List.getElem?_map, hy]; rfl)
      simpa using this
    · rw [List.getElem?_map] at hi
      obtain ⟨y, hy, rfl⟩ := Option.map_eq_some_iff.1 hi
      have hj0 : j = 0 := by have := (List.getElem?_eq_some_iff.1 hj).1; simp [byteRow] at this; exact this
      subst hj0
      simp [byteRow] at hj
      subst hj
      have hg : l.getD i 0 = y := by simp [hy]
      simp only [hg]
      exact .int _ _
  · have h0 : l = [] := List.eq_nil_of_length_eq_zero (by omega)
    subst h0
    exact .sl 1 [] A c 0 0 (fun _ _ => .nilIface) hc hm (fun h => absurd h (by simp)) (by simp) (by simp) (by simp)
theorem rel_recs {rs : List (List UInt8)} {v : Value} (h : Rel w im ρ (.sl 1 (rs.map recRow)) v) : ∃ A c, v = .slice A rs.length c ∧ rs.length ≤ c ∧ c ≤ maxLen ∧ RRecs w im im A rs := by
  generalize hrr : rs.map recRow = rr at h
  cases h with
  | sl sz rr A c b o val hc hm hA hrow hcell hval =>
  subst hrr
  rw [List.length_map] at hc hA ⊢
  have hr : ∀ (i : Nat) (hi : i < rs.length), (rs.map recRow)[i]? = some (recRow rs[i]) := fun i hi => by simp [hi]
  have hx : ∀ (i : Nat) (hi : i < rs.length), ∃ A1 c1, val i 0 = .slice A1 rs[i].length c1 ∧ rs[i].length ≤ c1 ∧ c1 ≤ maxLen ∧ RBytes w im A1 rs[i] := fun i hi =>
    rel_bytes (hval i 0 _ _ (hr i hi) rfl)
  let hs : List (Option Addr × Nat) := (List.range rs.length).map fun i => match val i 0 with
    | .slice A1 _ c1 => (A1, c1)
    | _ => (none, 0)
  have hsl : hs.length = rs.length := by simp [hs]
  have hsi : ∀ (i : Nat) (h1 : i < hs.length) (h2 : i < rs.length) A1 c1, val i 0 = .slice A1 rs[i].length c1 → hs[i] = (A1, c1) := fun i h1 h2 A1 c1 e => by simp [hs, e]
  refine ⟨A, c, rfl, hc, hm, hs, hsl, ⟨by simp [hsl], fun hn => ?_⟩, fun i h1 h2 => ?_⟩
  · obtain ⟨q1, q2⟩ := hA hn
    refine ⟨b, o, q1, q2, fun j u hu => ?_⟩
    have hj : j < rs.length := by
      have := (List.getElem?_eq_some_iff.1 hu).1
      simp [hsl] at this
      exact this
    obtain ⟨A1, c1, e, _, _, _⟩ := hx j hj
    have h3 := (hcell j 0 _ _ (hr j hj) rfl).1
    have hz : (List.zipWith recV hs rs)[j]? = some (recV (hs[j]'(by omega)) rs[j]) := by rw [List.getElem?_zipWith, List.getElem?_eq_getElem (by omega : j < hs.length), List.getElem?_eq_getElem hj]
    rw [hz, hsi j (by omega) hj A1 c1 e] at hu
    cases hu
    rw [e] at h3
    simpa [recV] using h3
  · obtain ⟨A1, c1, e, q1, q2, q3⟩ := hx i h2
    rw [hsi i h1 h2 A1 c1 e]
    exact ⟨q3, q1, q2⟩
theorem recs_rel {A : Option Addr} {c : Nat} {rs : List (List UInt8)} (hc : rs.length ≤ c) (hm : c ≤ maxLen) (h : RRecs w im im A rs) : Rel w im ρ (.sl 1 (rs.map recRow)) (.slice A rs.length c) := by
  by_cases hn : 0 < rs.length
  · obtain ⟨b, o, hA, hb, hcell⟩ := h.at_ hn
    have hval : ∃ val : Nat → Value, ∀ i (hi : i < rs.length), ∃ A1 c1, val i = .slice A1 rs[i].length c1 ∧ w.cell? ⟨b, o + i, none⟩ = some (val i) ∧ RBytes w im A1 rs[i] ∧ rs[i].length ≤ c1 ∧ c1 ≤ maxLen := by
      refine ⟨fun i => (w.cell? ⟨b, o + i, none⟩).getD .nilIface, fun i hi => ?_⟩
      obtain ⟨A1, c1, q1, q2, q3, q4⟩ := hcell i hi
      exact ⟨A1, c1, by simp [q1], by simp [q1], q2, q3, q4⟩
    obtain ⟨val, hval⟩ := hval
    have hrow : ∀ {i j : Nat} {row : List AV} {x : AV}, (rs.map recRow)[i]? = some row → row[j]? = some x → ∃ hi : i < rs.length, j = 0 ∧ x = .sl 1 (rs[i].map byteRow) := fun {i j row x} hi hj => by
      rw [List.getElem?_map] at hi
      obtain ⟨y, hy, rfl⟩ := Option.map_eq_some_iff.1 hi
      obtain ⟨hlt, rfl⟩ := List.getElem?_eq_some_iff.1 hy
      have hj0 : j = 0 := by have := (List.getElem?_eq_some_iff.1 hj).1; simp [recRow] at this; exact this
      subst hj0
      simp [recRow] at hj
      exact ⟨hlt, rfl, hj.symm⟩
    have := Rel.sl (w := w) (im := im) (ρ := ρ) 1 (rs.map recRow) A c b o (fun i _ => val i) (by simpa using hc) hm (fun _ => ⟨hA, hb⟩) (fun i row hi => ?_) (fun i j row x hi hj => ?_) (fun i j row x hi hj => ?_)
    · rw [List.length_map] at this; exact this
    · rw [List.getElem?_map] at hi
      obtain ⟨y, _, rfl⟩ := Option.map_eq_some_iff.1 hi
      rfl
    · obtain ⟨hlt, rfl, rfl⟩ := hrow hi hj
      obtain ⟨A1, c1, e, q1, q2, q3, q4⟩ := hval i hlt
      exact ⟨by simpa using q1, by rw [e]; rfl, by simp [names]⟩
    · obtain ⟨hlt, rfl, rfl⟩ := hrow hi hj
      obtain ⟨A1, c1, e, q1, q2, q3, q4⟩ := hval i hlt
      rw [e]
      exact bytes_rel q3 q4 q2
  · have h0 : rs = [] := List.eq_nil_of_length_eq_zero (by omega)
    subst h0
    exact .sl 1 [] A c 0 0 (fun _ _ => .nilIface) hc hm (fun h => absurd h (by simp)) (by simp) (by simp) (by simp)
end

/-- from an elder contract: what it answers is new, or read -/
theorem con_below {P : Program} {D : Nat → TI} {f : Nat} {fn : Func} {args : List AV} {v0 : AV} (hf : P.funcs[f]? = some fn) (hname : (fn.name == "runtime.NumGoroutine") = false) (hbody : fn.body.isNone = false) (hn : names v0 = [])
    (h : ∀ (w : World) (im : Nat → Prop) (ρ : Env) (vs : Array Value), (∀ b, im b → b < w.heap.size) → Rels w im ρ args vs.toList →
      Calls P f vs w fun e w' => ∃ v, e = .returned v ∧ Below w.heap.size w w' ∧ Rel w' (fun b => b < w'.heap.size ∧ (im b ∨ w.heap.size ≤ b)) ρ v0 v) : Con P D f args ⟨v0, []⟩ := by
  refine ⟨⟨fn, hf, hname, hbody⟩, fun w im ρ vs him hvs => (h w im ρ vs him hvs).mono fun e w' ⟨v, he, hb, hr⟩ => ⟨v, he, ⟨hb.os, hb.tape, hb.output, hb.size, fun b hlt _ => hb.block b hlt⟩, ρ, ?_, ?_, ?_, ?_⟩⟩
  · intro k e sz rs hk; simp at hk
  · intro k l b hk; simp at hk
  · exact hr.mono (fun b hb => ⟨hb.1, hb.2, fun m hm => by simp at hm⟩) (fun _ _ => rfl) (fun _ _ => rfl)
  · intro n hn'; rw [hn] at hn'; cases hn'
theorem rels_one {w : World} {im : Nat → Prop} {ρ : Env} {x : AV} {vs : Array Value} (h : Rels w im ρ [x] vs.toList) : ∃ v, vs = #[v] ∧ Rel w im ρ x v := by
  obtain ⟨vs⟩ := vs
  obtain ⟨h1, h2⟩ := h
  match vs, h1 with
  | [v], _ => exact ⟨v, rfl, h2 0 x v rfl rfl⟩
theorem rels_two {w : World} {im : Nat → Prop} {ρ : Env} {x y : AV} {vs : Array Value} (h : Rels w im ρ [x, y] vs.toList) : ∃ v u, vs = #[v, u] ∧ Rel w im ρ x v ∧ Rel w im ρ y u := by
  obtain ⟨vs⟩ := vs
  obtain ⟨h1, h2⟩ := h
  match vs, h1 with
  | [v, u], _ => exact ⟨v, u, rfl, h2 0 x v rfl rfl, h2 1 y u rfl rfl⟩
theorem rel_agg2 {w : World} {im : Nat → Prop} {ρ : Env} {x y : AV} {v : Value} (h : Rel w im ρ (.agg [x, y]) v) : ∃ a b, v = .agg #[a, b] ∧ (a.oneCell' = true ∧ Rel w im ρ x a) ∧ b.oneCell' = true ∧ Rel w im ρ y b := by
  cases h with
  | agg cs vs hl h1 hval =>
  obtain ⟨vs⟩ := vs
  match vs, hl with
  | [a, b], _ => exact ⟨a, b, rfl, ⟨h1 0 a rfl, hval 0 x a rfl rfl⟩, h1 1 b rfl, hval 1 y b rfl rfl⟩
theorem agg2_rel {w : World} {im : Nat → Prop} {ρ : Env} {x y : AV} {a b : Value} (h1 : a.oneCell' = true) (h2 : b.oneCell' = true) (hx : Rel w im ρ x a) (hy : Rel w im ρ y b) : Rel w im ρ (.agg [x, y]) (.agg #[a, b]) := by
  refine .agg [x, y] #[a, b] rfl (fun i v hv => ?_) (fun i z v hz hv => ?_)
  · match i with
    | 0 => simp at hv; subst hv; exact h1
    | 1 => simp at hv; subst hv; exact h2
    | i + 2 => simp at hv
  · match i with
    | 0 => simp at hz hv; subst hz hv; exact hx
    | 1 => simp at hz hv; subst hz hv; exact hy
    | i + 2 => simp at hv
theorem tup2_rel {w : World} {im : Nat → Prop} {ρ : Env} {x y : AV} {a b : Value} (hx : Rel w im ρ x a) (hy : Rel w im ρ y b) : Rel w im ρ (.tup [x, y]) (.tuple #[a, b]) := by
  refine .tup [x, y] #[a, b] rfl (fun i z v hz hv => ?_)
  match i with
  | 0 => simp at hz hv; subst hz hv; exact hx
  | 1 => simp at hz hv; subst hz hv; exact hy
  | i + 2 => simp at hv

theorem wk_of {X : Cx} {D : Nat → TI} {R : Prop} (hD : X.D = D ∧ R) (rl : List (Nat × Nat)) {σ σ' : AS} (h1 : σ'.nt = σ.nt) (h2 : nodupV rl = true) (h3 : covT σ (keys σ'.bl) rl σ'.tm) (h4 : covB D σ (keys σ'.bl) rl σ'.bl) : Wk X σ σ' := by
  obtain ⟨rfl, _⟩ := hD
  exact Wk.cover rl ⟨h1, h2, h3, h4⟩
theorem wkf_of {X : Cx} {D : Nat → TI} {R : Prop} (hD : X.D = D ∧ R) (ns : List Nat) (rl : List (Nat × Nat)) {σ σ' : AS} (h1 : σ'.nt = (freeze σ ns).nt) (h2 : nodupV rl = true) (h3 : covT (freeze σ ns) (keys σ'.bl) rl σ'.tm) (h4 : covB D (freeze σ ns) (keys σ'.bl) rl σ'.bl) : Wk X σ σ' :=
  Wk.trans (Wk.freeze ns) (wk_of hD rl h1 h2 h3 h4)
/-! the evaluation -/
/-- a branch, not taken yet -/
structure condK (X : Cx) (lo : Nat → Lo) (v : AV) (x y : Code) (Q : Exit → AS → Prop) (σ : AS) : Prop where
  h : condW v (evC X lo x Q σ) (evC X lo y Q σ)
section
variable {X : Cx} {lo : Nat → Lo} {Q : Exit → AS → Prop} {σ : AS}
theorem evC_cond {c : Operand} {x y : Code} : evC X lo (.cond c x y) Q σ = condK X lo (ev σ c) x y Q σ := propext ⟨fun h => ⟨h⟩, fun h => h.h⟩
theorem evC_skip : evC X lo .skip Q σ = Q .normal σ := rfl
theorem evC_text {id : Nat} {ops : Array Oper} : evC X lo (.region id ops false) Q σ = if hasG ops.toList = true then RegT X ops (Q .normal) σ else regW X [] ops ops.toList (Q .normal) σ := rfl
theorem evC_any {id : Nat} {ops : Array Oper} : evC X lo (.region id ops true) Q σ = if hasG ops.toList = true then RegA X (lo id) ops (Q .normal) σ else indep ops (lo id) = true ∧ regP X [] ops (lo id) (pairs 0 ops.toList) (Q .normal) σ := rfl
theorem evC_seq {a b : Code} : evC X lo (.seq a b) Q σ = evC X lo a (thenA (evC X lo b Q) Q) σ := rfl
theorem evC_block {id : Nat} {c : Code} : evC X lo (.block id c) Q σ = evC X lo c (inB id Q) σ := rfl
theorem evC_loop {c : Code} : evC X lo (.loop c) Q σ = Tr X (.loop c) Q σ := rfl
theorem evC_exit {id : Nat} : evC X lo (.exit id) Q σ = Q (.exit id) σ := rfl
theorem evC_ret : evC X lo .ret Q σ = Q .ret σ := rfl
theorem evC_label {l : Nat} : evC X lo (.label l) Q σ = Q .normal σ := rfl
theorem condK_true {x y : Code} : condK X lo (.bool true) x y Q σ = evC X lo x Q σ := propext ⟨fun h => h.h.1 rfl, fun h => ⟨⟨fun _ => h, fun h => (by cases h)⟩⟩⟩
theorem condK_false {x y : Code} : condK X lo (.bool false) x y Q σ = evC X lo y Q σ := propext ⟨fun h => h.h.2 rfl, fun h => ⟨⟨fun h => (by cases h), fun _ => h⟩⟩⟩
theorem condK_split {t : Bool} {x y : Code} (h1 : t = true → evC X lo x Q σ) (h2 : t = false → evC X lo y Q σ) : condK X lo (.bool t) x y Q σ := ⟨⟨h1, h2⟩⟩
theorem thenA_normal {n : AS → Prop} : thenA n Q .normal σ = n σ := rfl
theorem thenA_ret {n : AS → Prop} : thenA n Q .ret σ = Q .ret σ := rfl
theorem thenA_exit {n : AS → Prop} {id : Nat} : thenA n Q (.exit id) σ = Q (.exit id) σ := rfl
theorem thenA_normal' {n : AS → Prop} : thenA n Q .normal = n := rfl
theorem inB_normal {id : Nat} : inB id Q .normal σ = Q .normal σ := rfl
theorem inB_normal' {id : Nat} : inB id Q .normal = Q .normal := rfl
theorem inB_ret {id : Nat} : inB id Q .ret σ = Q .ret σ := rfl
theorem inB_exit {id id' : Nat} : inB id Q (.exit id') σ = if id' = id then Q .normal σ else Q (.exit id') σ := rfl
end
section
variable {X : Cx} {off : List (Nat × Bool)} {ops : Array Oper} {lo : Lo} {σ : AS} {Q : AS → Prop}
def stepI (e : Option Eff) (σ : AS) (dst : Option Nat) (I : Prop) (K : AS → Prop) : Prop := match e with
  | none => I
  | some e => (fresh σ dst e = true ∧ e.pre) ∧ K (apply σ dst e)
theorem regW_nil : regW X off ops [] Q σ = Q σ := rfl
theorem regW_cons {o : Oper} {r : List Oper} : regW X off ops (o :: r) Q σ = stepI (opEff X.D X.G X.M X.nb off ops σ o) σ o.dst (InlOp X ops o σ (regW X off ops r Q)) (regW X off ops r Q) := by
  rw [regW]; cases opEff X.D X.G X.M X.nb off ops σ o <;> rfl
theorem stepI_some {e : Eff} {dst : Option Nat} {I : Prop} {K : AS → Prop} : stepI (some e) σ dst I K = ((fresh σ dst e = true ∧ e.pre) ∧ K (apply σ dst e)) := rfl
theorem stepI_none {dst : Option Nat} {I : Prop} {K : AS → Prop} : stepI none σ dst I K = I := rfl
def stepP (e : Option Eff) (lo : Lo) (σ : AS) (i : Nat) (o : Oper) (I : Prop) (K : AS → Prop) : Prop := match e with
  | none => mem i lo.lo = true ∧ I
  | some e => ((fresh σ o.dst e = true ∧ e.pre) ∧ still lo σ i o e = true) ∧ K (apply σ o.dst e)
theorem regP_nil : regP X off ops lo [] Q σ = Q σ := rfl
theorem regP_step {i : Nat} {o : Oper} {r : List (Nat × Oper)} : regP X off ops lo ((i, o) :: r) Q σ = stepP (opEff X.D X.G X.M X.nb off ops σ o) lo σ i o (InlOp X ops o σ (regP X off ops lo r Q)) (regP X off ops lo r Q) := by
  rw [regP]; cases opEff X.D X.G X.M X.nb off ops σ o <;> rfl
theorem stepP_some {e : Eff} {i : Nat} {o : Oper} {I : Prop} {K : AS → Prop} : stepP (some e) lo σ i o I K = (((fresh σ o.dst e = true ∧ e.pre) ∧ still lo σ i o e = true) ∧ K (apply σ o.dst e)) := rfl
theorem stepP_none {i : Nat} {o : Oper} {I : Prop} {K : AS → Prop} : stepP none lo σ i o I K = (mem i lo.lo = true ∧ I) := rfl
end
theorem wrap64 {x : Int} (h1 : -9223372036854775808 ≤ x) (h2 : x < 9223372036854775808) : IntKind.wrap .i64 x = x := IntWalk.i64_in x ⟨h1, by omega⟩
theorem byteGet {l : List UInt8} {i : Nat} (h : i < l.length) : (l.map byteRow).getD i [] = [.int .u8 (l.getD i 0).toNat] := by
  rw [List.getD_eq_getElem?_getD, List.getElem?_map, List.getD_eq_getElem?_getD]
  simp [h, byteRow]
theorem recGet {l : List (List UInt8)} {i : Nat} (h : i < l.length) : (l.map recRow).getD i [] = [.sl 1 ((l.getD i []).map byteRow)] := by
  rw [List.getD_eq_getElem?_getD, List.getElem?_map, List.getD_eq_getElem?_getD]
  simp [h, recRow]
theorem shl8 (a : Int) : shlI .i64 a 8 = IntKind.wrap .i64 (a * 256) := rfl
theorem freeze_nil {σ : AS} : freeze σ [] = σ := rfl
theorem freeze_cons {σ : AS} {n : Nat} {ns : List Nat} : freeze σ (n :: ns) = { nt := σ.nt, tm := mapT (fz (n :: ns) (blk σ)) σ.tm, bl := gone (n :: ns) ++ mapB (fz (n :: ns) (blk σ)) σ.bl } := rfl
theorem kill_nil {σ : AS} : kill σ [] = σ := rfl
theorem kill_cons {σ : AS} {n : Nat} {ns : List Nat} : kill σ (n :: ns) = { nt := σ.nt, tm := mapT (kl (n :: ns)) σ.tm, bl := gone (n :: ns) ++ mapB (kl (n :: ns)) σ.bl } := rfl
theorem osIn_nil : osIn [] = [] := by simp [osIn]
section
variable {r : List AV}
theorem osIn_junk : osIn (.junk :: r) = osIn r := by simp [osIn]
theorem osIn_int {k n} : osIn (.int k n :: r) = osIn r := by simp [osIn]
theorem osIn_bool {b} : osIn (.bool b :: r) = osIn r := by simp [osIn]
theorem osIn_str {l} : osIn (.str l :: r) = osIn r := by simp [osIn]
theorem osIn_nils : osIn (.nils :: r) = osIn r := by simp [osIn]
theorem osIn_sl {sz rs} : osIn (.sl sz rs :: r) = osIn r := by simp [osIn]
theorem osIn_os {t} : osIn (.os t :: r) = t :: osIn r := by simp [osIn]
theorem osIn_ptr {v o} : osIn (.ptr v o :: r) = osIn r := by simp [osIn]
theorem osIn_iptr {cs} : osIn (.iptr cs :: r) = osIn r := by simp [osIn]
theorem osIn_eptr {t i o} : osIn (.eptr t i o :: r) = osIn r := by simp [osIn]
theorem osIn_func {f cs} : osIn (.func f cs :: r) = osIn r := by simp [osIn]
theorem osIn_agg {cs} : osIn (.agg cs :: r) = osIn cs ++ osIn r := by simp [osIn]
theorem osIn_tup {cs} : osIn (.tup cs :: r) = osIn r := by simp [osIn]
theorem osIn_opt {g v} : osIn (.opt g v :: r) = osIn r := by simp [osIn]
end
theorem range1 : List.range 1 = [0] := rfl
theorem range2 : List.range 2 = [0, 1] := rfl
theorem range3 : List.range 3 = [0, 1, 2] := rfl
theorem range4 : List.range 4 = [0, 1, 2, 3] := rfl
theorem range5 : List.range 5 = [0, 1, 2, 3, 4] := rfl
theorem range6 : List.range 6 = [0, 1, 2, 3, 4, 5] := rfl
theorem range7 : List.range 7 = [0, 1, 2, 3, 4, 5, 6] := rfl
theorem range8 : List.range 8 = [0, 1, 2, 3, 4, 5, 6, 7] := rfl
theorem wrap_byte (b : UInt8) : IntKind.wrap .i64 (b.toNat : Int) = b.toNat := wrap64 (by omega) (by have := b.toNat_lt; omega)
end Go.Proofs.Ytcgdjdlcecnanaa.Ab
