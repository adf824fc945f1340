/-
  Type facts, and what loads, stores and addresses do.
  No condition.
-/
import Derived.Test.YtcgdjdlcecnanaaAbD
import Derived.Laws.Cells
import Derived.Laws.IdiomCopy
import Derived.Laws.Entries
namespace Go.Proofs.Ytcgdjdlcecnanaa.Ab
open Go
set_option linter.unusedVariables false
set_option linter.unusedSimpArgs false

def zeroB : List AV → List Value → Bool
  | [], [] => true
  | .int k n :: r, .int k' n' :: s => decide (k = k') && decide (n = n') && zeroB r s
  | .bool b :: r, .bool b' :: s => (b == b') && zeroB r s
  | .str [] :: r, .string x :: s => decide (x.data.toList = []) && zeroB r s
  | .nils :: r, .slice none 0 0 :: s => zeroB r s
  | .junk :: r, .pointer none :: s => zeroB r s
  | .junk :: r, .nilFunc :: s => zeroB r s
  | _, _ => false
def sizeB (P : Program) (T : Nat) : Option Nat := (P.info? T).map (·.size)
def fieldsB (P : Program) (D : Nat → TI) : List (Nat × Nat) → List Field → Bool
  | [], [] => true
  | (o, t) :: r, f :: s => decide (f.offset = o) && decide (f.type = t) && (match sizeB P t with | some n => decide (0 < n) && decide (n = (D t).n) | none => false) && fieldsB P D r s
  | _, _ => false
def kindB (P : Program) (D : Nat → TI) (k : K) (u : Option TypeDesc) : Bool :=
  match k, u with
  | .int k, some (.int k') => decide (k = k')
  | .bool, some .bool => true
  | .str, some .string => true
  | .slice e, some (.slice e') => decide (e = e') && !isOther (D e).k && decide (0 < (D e).n)
  | .struct fs, some (.struct flds) => fieldsB P D fs flds.toList
  | .ref, some (.pointer _) => true
  | .ref, some (.func _ _ _) => true
  | .other, _ => true
  | _, _ => false
def zintB (k : K) (z : Option Value) : Bool :=
  match k, z with
  | .int k, some (.int k' n) => decide (k = k') && decide (n = 0)
  | .int _, _ => false
  | _, _ => true
def infoB (P : Program) (T : Nat) (d : TI) : Bool :=
  match P.info? T with
  | some i => decide (i.size = d.n) && decide (i.bytes = d.bytes) && (match i.zero with | some z => zeroB d.zero z.cells.toList | none => false) && decide (d.zero.length = d.n) && zintB d.k i.zero
  | none => false
def tyB (P : Program) (D : Nat → TI) (T : Nat) (d : TI) : Bool := isOther d.k || (kindB P D d.k (P.underlying T) && infoB P T d)

/-- the table of types is right -/
def TOk (P : Program) (D : Nat → TI) : Prop := ∀ T, tyB P D T (D T) = true

theorem zeroB_ok : ∀ {xs : List AV} {vs : List Value}, zeroB xs vs = true → vs.length = xs.length ∧ namess xs = [] ∧ ∀ (i : Nat) x v, xs[i]? = some x → vs[i]? = some v → v.oneCell' = true ∧ ∀ w im ρ, Rel w im ρ x v
  | [], [], _ => by simp [namess]
  | .int k n :: r, .int k' n' :: s, h => by
    simp only [zeroB, Bool.and_eq_true, decide_eq_true_eq] at h
    obtain ⟨⟨rfl, rfl⟩, h⟩ := h
    obtain ⟨h1, h2, h3⟩ := zeroB_ok h
    refine ⟨by simp [h1], by simp [namess, names, h2], fun i x v hx hv => ?_⟩
    cases i with
    | zero => simp at hx hv; subst hx hv; exact ⟨rfl, fun _ _ _ => .int k n⟩
    | succ i => simp at hx hv; exact h3 i x v hx hv
  | .bool b :: r, .bool b' :: s, h => by
    simp only [zeroB, Bool.and_eq_true, beq_iff_eq] at h
    obtain ⟨rfl, h⟩ := h
    obtain ⟨h1, h2, h3⟩ := zeroB_ok h
    refine ⟨by simp [h1], by simp [namess, names, h2], fun i x v hx hv => ?_⟩
    cases i with
    | zero => simp at hx hv; subst hx hv; exact ⟨rfl, fun _ _ _ => .bool b⟩
    | succ i => simp at hx hv; exact h3 i x v hx hv
  | .str [] :: r, .string y :: s, h => by
    simp only [zeroB, Bool.and_eq_true, decide_eq_true_eq] at h
    obtain ⟨h0, h⟩ := h
    obtain ⟨h1, h2, h3⟩ := zeroB_ok h
    refine ⟨by simp [h1], by simp [namess, names, h2], fun i x v hx hv => ?_⟩
    cases i with
    | zero =>
      simp at hx hv; subst hx hv
      refine ⟨rfl, fun _ _ _ => ?_⟩
      have : y = ⟨⟨[]⟩⟩ := by
        obtain ⟨⟨l⟩⟩ := y
        simp at h0
        rw [h0]
      rw [this]
      exact .str []
    | succ i => simp at hx hv; exact h3 i x v hx hv
  | .nils :: r, .slice none 0 0 :: s, h => by
    simp only [zeroB] at h
    obtain ⟨h1, h2, h3⟩ := zeroB_ok h
    refine ⟨by simp [h1], by simp [namess, names, h2], fun i x v hx hv => ?_⟩
    cases i with
    | zero => simp at hx hv; subst hx hv; exact ⟨rfl, fun _ _ _ => .nils⟩
    | succ i => simp at hx hv; exact h3 i x v hx hv
  | .junk :: r, .pointer none :: s, h => by
    simp only [zeroB] at h
    obtain ⟨h1, h2, h3⟩ := zeroB_ok h
    refine ⟨by simp [h1], by simp [namess, names, h2], fun i x v hx hv => ?_⟩
    cases i with
    | zero => simp at hx hv; subst hx hv; exact ⟨rfl, fun _ _ _ => .junk _⟩
    | succ i => simp at hx hv; exact h3 i x v hx hv
  | .junk :: r, .nilFunc :: s, h => by
    simp only [zeroB] at h
    obtain ⟨h1, h2, h3⟩ := zeroB_ok h
    refine ⟨by simp [h1], by simp [namess, names, h2], fun i x v hx hv => ?_⟩
    cases i with
    | zero => simp at hx hv; subst hx hv; exact ⟨rfl, fun _ _ _ => .junk _⟩
    | succ i => simp at hx hv; exact h3 i x v hx hv

section
variable {P : Program} {D : Nat → TI} (hT : TOk P D) {T : Nat}
include hT
theorem ty_kind (h : isOther (D T).k = false) : kindB P D (D T).k (P.underlying T) = true ∧ infoB P T (D T) = true := by
  have := hT T
  simpa [tyB, h] using this
theorem ty_info (h : isOther (D T).k = false) : ∃ i z, P.info? T = some i ∧ i.size = (D T).n ∧ i.bytes = (D T).bytes ∧ i.zero = some z ∧ zeroB (D T).zero z.cells.toList = true ∧ (D T).zero.length = (D T).n := by
  have h2 := (ty_kind hT h).2
  unfold infoB at h2
  cases hi : P.info? T with
  | none => rw [hi] at h2; cases h2
  | some i =>
    rw [hi] at h2
    simp only [Bool.and_eq_true, decide_eq_true_eq] at h2
    obtain ⟨⟨⟨⟨h3, h4⟩, h5⟩, h6⟩, h7⟩ := h2
    cases hz : i.zero with
    | none => rw [hz] at h5; cases h5
    | some z => rw [hz] at h5; exact ⟨i, z, rfl, h3, h4, hz, h5, h6⟩
theorem ty_zint {k : IntKind} (h : (D T).k = .int k) {i : TypeInfo} (hi : P.info? T = some i) : i.zero = some (.int k 0) := by
  have h2 := (ty_kind hT (T := T) (by rw [h]; rfl)).2
  unfold infoB at h2
  rw [hi] at h2
  simp only [Bool.and_eq_true] at h2
  have h3 := h2.2
  rw [h] at h3
  cases hz : i.zero with
  | none => rw [hz] at h3; cases h3
  | some z =>
    rw [hz] at h3
    cases z <;> simp [zintB] at h3
    rw [h3.1, h3.2]
theorem ty_size (h : isOther (D T).k = false) (w : World) : (sizeOf T).run P w = .ok (D T).n w := by
  obtain ⟨i, z, h1, h2, _⟩ := ty_info hT h
  simp [sizeOf, typeInfo, h1, h2]
theorem ty_slice {e : Nat} (h : (D T).k = .slice e) : P.underlying T = some (.slice e) ∧ isOther (D e).k = false ∧ 0 < (D e).n := by
  have h1 := (ty_kind hT (T := T) (by rw [h]; rfl)).1
  rw [h] at h1
  cases hu : P.underlying T with
  | none => rw [hu] at h1; cases h1
  | some u => rw [hu] at h1; cases u <;> simp [kindB] at h1; rw [h1.1.1]; exact ⟨rfl, by rw [← h1.1.1] at *; exact h1.1.2, by rw [← h1.1.1] at *; exact h1.2⟩
theorem ty_int {k : IntKind} (h : (D T).k = .int k) : P.underlying T = some (.int k) := by
  have h1 := (ty_kind hT (T := T) (by rw [h]; rfl)).1
  rw [h] at h1
  cases hu : P.underlying T with
  | none => rw [hu] at h1; cases h1
  | some u => rw [hu] at h1; cases u <;> simp [kindB] at h1; rw [h1]
theorem ty_str (h : (D T).k = .str) : P.underlying T = some .string := by
  have h1 := (ty_kind hT (T := T) (by rw [h]; rfl)).1
  rw [h] at h1
  cases hu : P.underlying T with
  | none => rw [hu] at h1; cases h1
  | some u => rw [hu] at h1; cases u <;> simp [kindB] at h1; rfl
theorem ty_struct {fs : List (Nat × Nat)} (h : (D T).k = .struct fs) : ∃ flds, P.underlying T = some (.struct flds) ∧ fieldsB P D fs flds.toList = true := by
  have h1 := (ty_kind hT (T := T) (by rw [h]; rfl)).1
  rw [h] at h1
  cases hu : P.underlying T with
  | none => rw [hu] at h1; cases h1
  | some u => rw [hu] at h1; cases u <;> simp [kindB] at h1; exact ⟨_, rfl, h1⟩
theorem ty_isAgg (h : isOther (D T).k = false) (w : World) : (isAgg T).run P w = .ok (match (D T).k with | .struct _ => true | _ => false) w := by
  have h1 := (ty_kind hT h).1
  cases hu : P.underlying T with
  | none => rw [hu] at h1; cases hk : (D T).k <;> rw [hk] at h1 h <;> simp [kindB, isOther] at h1 h
  | some u =>
    rw [hu] at h1
    cases hk : (D T).k <;> rw [hk] at h1 h <;> cases u <;> simp [kindB, isOther] at h1 h <;> simp [isAgg, run_underlying hu]
omit hT in
theorem ty_field : ∀ {fs : List (Nat × Nat)} {flds : List Field}, fieldsB P D fs flds = true → ∀ (i o t : Nat), fs[i]? = some (o, t) → ∃ f, flds[i]? = some f ∧ f.offset = o ∧ f.type = t ∧ sizeB P t = some (D t).n ∧ 0 < (D t).n := by
  intro fs flds h
  induction fs generalizing flds with
  | nil => intro i o t hi; simp at hi
  | cons x r ih =>
    obtain ⟨o', t'⟩ := x
    cases flds with
    | nil => simp [fieldsB] at h
    | cons f s =>
      simp only [fieldsB, Bool.and_eq_true, decide_eq_true_eq] at h
      obtain ⟨⟨⟨h1, h2⟩, h3⟩, h4⟩ := h
      intro i o t hi
      cases i with
      | zero =>
        simp at hi
        obtain ⟨e1, e2⟩ := hi
        rw [← e1, ← e2]
        refine ⟨f, rfl, h1, h2, ?_⟩
        cases hs' : sizeB P t' with
        | none => rw [hs'] at h3; cases h3
        | some n =>
          rw [hs'] at h3
          simp only [Bool.and_eq_true, decide_eq_true_eq] at h3
          obtain ⟨h5, rfl⟩ := h3
          exact ⟨rfl, h5⟩
      | succ i => simp at hi ⊢; exact ih h4 i o t hi
end

theorem add_flat' (b o n : Nat) : (⟨b, o, none⟩ : Addr).add n = ⟨b, o + n, none⟩ := by unfold Addr.add; split <;> simp_all

section
variable {P : Program} {D : Nat → TI} {w : World} {im : Nat → Prop} {ρ : Env}
/-- a value out of cells -/
theorem loadVar_sound (hT : TOk P D) {T b o : Nat} {cs : List AV} {val : Nat → Value} {y : AV}
    (hc : ∀ (j : Nat) x, cs[j]? = some x → w.cell? ⟨b, o + j, none⟩ = some (val j) ∧ (val j).oneCell' = true) (hr : ∀ (j : Nat) x, cs[j]? = some x → Rel w im ρ x (val j)) (he : valOf (D T) cs = some y) :
    ∃ u, (loadVar T ⟨b, o, none⟩).run P w = .ok u w ∧ Rel w im ρ y u := by
  have hno : isOther (D T).k = false := by
    cases hk : (D T).k <;> simp [isOther]
    unfold valOf at he; rw [hk] at he; cases he
  have hag := ty_isAgg hT hno w
  unfold valOf at he
  have scal : cs.head? = some y → (isAgg T).run P w = .ok false w → ∃ u, (loadVar T ⟨b, o, none⟩).run P w = .ok u w ∧ Rel w im ρ y u := by
    intro he hag
    have h0 : cs[0]? = some y := by cases cs <;> simp_all
    have h1 := (hc 0 y h0).1
    rw [Nat.add_zero] at h1
    exact ⟨val 0, by simp [loadVar, hag, load, Sem.run, h1], hr 0 y h0⟩
  cases hk : (D T).k with
  | struct fs =>
    rw [hk] at he hag
    simp only at he hag
    split at he
    · rename_i hle
      cases he
      have hl := run_loadCells_list (P := P) w (⟨b, o, none⟩ : Addr) ((List.range (D T).n).map val) (fun j v hv => by
        rw [List.getElem?_map] at hv
        obtain ⟨j', hj', rfl⟩ := Option.map_eq_some_iff.1 hv
        have hj := (List.getElem?_eq_some_iff.1 hj').1
        simp at hj
        have : j' = j := by simpa [hj] using hj'.symm
        subst this
        rw [add_flat']
        exact (hc j' _ (List.getElem?_eq_getElem (by omega))).1)
      simp only [List.length_map, List.length_range] at hl
      refine ⟨.agg ((List.range (D T).n).map val).toArray, ?_, ?_⟩
      · simp [loadVar, hag, ty_size hT hno, hl]
      · refine .agg _ _ (by simp; omega) (fun i v hv => ?_) (fun i x v hx hv => ?_)
        · simp only [List.getElem?_toArray, List.getElem?_map] at hv
          obtain ⟨j', hj', rfl⟩ := Option.map_eq_some_iff.1 hv
          have hj := (List.getElem?_eq_some_iff.1 hj').1
          simp at hj
          have : j' = i := by simpa [hj] using hj'.symm
          subst this
          exact (hc j' _ (List.getElem?_eq_getElem (by omega))).2
        · simp only [List.getElem?_toArray, List.getElem?_map] at hv
          obtain ⟨j', hj', rfl⟩ := Option.map_eq_some_iff.1 hv
          have hj := (List.getElem?_eq_some_iff.1 hj').1
          simp at hj
          have : j' = i := by simpa [hj] using hj'.symm
          subst this
          rw [List.getElem?_take, if_pos hj] at hx
          exact hr _ _ hx
    · cases he
  | other => rw [hk] at hno; cases hno
  | int k => rw [hk] at he hag; exact scal he hag
  | bool => rw [hk] at he hag; exact scal he hag
  | str => rw [hk] at he hag; exact scal he hag
  | slice e => rw [hk] at he hag; exact scal he hag
  | ref => rw [hk] at he hag; exact scal he hag

/-- the same, out of a struct's cells in a temporary -/
theorem part_sound (hT : TOk P D) {T o : Nat} {cs : List AV} {vs : Array Value} {y : AV} (hl : vs.size = cs.length) (h1 : ∀ (i : Nat) v, vs[i]? = some v → v.oneCell' = true)
    (hr : ∀ (i : Nat) x v, cs[i]? = some x → vs[i]? = some v → Rel w im ρ x v) (he : valOf (D T) (cs.drop o) = some y) : ∃ u, (part T vs o).run P w = .ok u w ∧ Rel w im ρ y u := by
  have hno : isOther (D T).k = false := by
    cases hk : (D T).k <;> simp [isOther]
    unfold valOf at he; rw [hk] at he; cases he
  have hag := ty_isAgg hT hno w
  unfold valOf at he
  have scal : (cs.drop o).head? = some y → (isAgg T).run P w = .ok false w → ∃ u, (part T vs o).run P w = .ok u w ∧ Rel w im ρ y u := by
    intro he hag
    have h0 : cs[o]? = some y := by rw [List.head?_drop] at he; exact he
    have hlt : o < vs.size := by have := (List.getElem?_eq_some_iff.1 h0).1; omega
    exact ⟨vs[o], by simp [part, hag, hlt], hr o y _ h0 (by simp [hlt])⟩
  cases hk : (D T).k with
  | struct fs =>
    rw [hk] at he hag
    simp only at he hag
    split at he
    · rename_i hle
      cases he
      rw [List.length_drop] at hle
      refine ⟨.agg (vs.extract o (o + (D T).n)), by simp [part, hag, ty_size hT hno], .agg _ _ (by simp; omega) (fun i v hv => ?_) (fun i x v hx hv => ?_)⟩
      · rw [Array.getElem?_extract] at hv
        split at hv
        · exact h1 _ v hv
        · cases hv
      · rw [Array.getElem?_extract] at hv
        split at hv
        · rw [List.getElem?_take] at hx
          split at hx
          · rw [List.getElem?_drop] at hx
            exact hr _ x v hx hv
          · cases hx
        · cases hv
    · cases he
  | other => rw [hk] at hno; cases hno
  | int k => rw [hk] at he hag; exact scal he hag
  | bool => rw [hk] at he hag; exact scal he hag
  | str => rw [hk] at he hag; exact scal he hag
  | slice e => rw [hk] at he hag; exact scal he hag
  | ref => rw [hk] at he hag; exact scal he hag
end
end Go.Proofs.Ytcgdjdlcecnanaa.Ab
