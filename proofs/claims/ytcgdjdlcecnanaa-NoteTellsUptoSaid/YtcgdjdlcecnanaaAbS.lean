/-
  Code in the evaluator: regions, branches, blocks, loops; what one state covers another; a body's contract.
  No condition.
-/
import Derived.Test.YtcgdjdlcecnanaaAbR
import Derived.LoopN
namespace Go.Proofs.Ytcgdjdlcecnanaa.Ab
open Go
set_option linter.unusedVariables false
set_option linter.unusedSimpArgs false

/-- from a state on, the code comes to states that meet Q -/
def Tr (X : Cx) (c : Code) (Q : Exit → AS → Prop) (σ : AS) : Prop := ∀ γ a w, X.St γ σ a w → c.wp X.P (fun e a w => ∃ σ', Q e σ' ∧ X.St γ σ' a w) a w
/-- one state covers another -/
def Wk (X : Cx) (σ σ' : AS) : Prop := ∀ γ a w, X.St γ σ a w → X.St γ σ' a w

def thenA (next : AS → Prop) (Q : Exit → AS → Prop) : Exit → AS → Prop
  | .normal, σ => next σ
  | e, σ => Q e σ
def inB (id : Nat) (Q : Exit → AS → Prop) : Exit → AS → Prop
  | .exit id', σ => if id' = id then Q .normal σ else Q (.exit id') σ
  | e, σ => Q e σ

/-- a condition's value -/
def condV : AV → Option Bool
  | .bool b => some b
  | .opt g (.bool b) => some (g && b)
  | _ => none
section
variable {X : Cx} {Q Q' : Exit → AS → Prop} {σ σ' : AS}

theorem Tr.mono {c : Code} (hq : ∀ e σ, Q e σ → Q' e σ) (h : Tr X c Q σ) : Tr X c Q' σ := fun γ a w hs =>
  wp_mono (h γ a w hs) fun e a w ⟨σ', h1, h2⟩ => ⟨σ', hq e σ' h1, h2⟩
theorem Tr.wk {c : Code} (h1 : Wk X σ σ') (h : Tr X c Q σ') : Tr X c Q σ := fun γ a w hs => h γ a w (h1 γ a w hs)
theorem Tr.skip (h : Q .normal σ) : Tr X .skip Q σ := fun γ a w hs => wp_skip ⟨σ, h, hs⟩
theorem Tr.label {l : Nat} (h : Q .normal σ) : Tr X (.label l) Q σ := fun γ a w hs => wp_label ⟨σ, h, hs⟩
theorem Tr.ret (h : Q .ret σ) : Tr X .ret Q σ := fun γ a w hs => wp_ret ⟨σ, h, hs⟩
theorem Tr.exit {id : Nat} (h : Q (.exit id) σ) : Tr X (.exit id) Q σ := fun γ a w hs => wp_exit ⟨σ, h, hs⟩
theorem Tr.seq {x y : Code} (h : Tr X x (thenA (Tr X y Q) Q) σ) : Tr X (.seq x y) Q σ := fun γ a w hs => wp_seq (wp_mono (h γ a w hs) fun e a w ⟨σ', h1, h2⟩ => by
  cases e with
  | normal => exact h1 γ a w h2
  | _ => exact ⟨σ', h1, h2⟩)
theorem Tr.cond {c : Operand} {x y : Code} {t : Bool} (hc : ev σ c = .bool t) (h1 : t = true → Tr X x Q σ) (h2 : t = false → Tr X y Q σ) : Tr X (.cond c x y) Q σ := fun γ a w hs => by
  have : a.eval c = .bool t := by
    obtain ⟨ρ, hs⟩ := hs
    have := (hs.ev c).1
    rw [hc] at this
    exact this.bool_
  exact wp_cond_split this (fun ht => h1 ht γ a w hs) (fun ht => h2 ht γ a w hs)
theorem Tr.block {id : Nat} {c : Code} (h : Tr X c (inB id Q) σ) : Tr X (.block id c) Q σ := fun γ a w hs => wp_block (wp_mono (h γ a w hs) fun e a w ⟨σ', h1, h2⟩ => by
  cases e with
  | exit id' =>
    simp only [inB] at h1
    simp only [Exit.inBlock]
    split
    · rename_i he; rw [if_pos he] at h1; exact ⟨σ', h1, h2⟩
    · rename_i he; rw [if_neg he] at h1; exact ⟨σ', h1, h2⟩
  | _ => exact ⟨σ', h1, h2⟩)
theorem Tr.region (hX : X.Ok) {id : Nat} {ops : Array Oper} {off : List (Nat × Bool)} (h : regW X off ops ops.toList (Q .normal) σ) : Tr X (.region id ops false) Q σ := fun γ a w hs =>
  region_text (Q := Q .normal) hX hs (fun σ' a w h1 h2 => ⟨σ', h1, h2⟩) h
theorem Tr.any (hX : X.Ok) (lo : Lo) {id : Nat} {ops : Array Oper} (hi : indep ops lo = true) {off : List (Nat × Bool)} (h : regP X off ops lo (pairs 0 ops.toList) (Q .normal) σ) : Tr X (.region id ops true) Q σ := fun γ a w hs =>
  region_any (Q := Q .normal) hX hi hs (fun σ' a w h1 h2 => ⟨σ', h1, h2⟩) h
theorem Tr.loop {ι : Type} (J : ι → Prop) (I : ι → AS) (μ : ι → Nat) {c : Code} (i0 : ι) (h0 : J i0 ∧ Wk X σ (I i0))
    (round : ∀ i, J i → Tr X c (thenA (fun σ' => ∃ j, (J j ∧ μ j < μ i) ∧ Wk X σ' (I j)) Q) (I i)) : Tr X (.loop c) Q σ := fun γ a w hs => by
  have key : ∀ n i a w, μ i ≤ n → J i → X.St γ (I i) a w → Code.rounds X.P c (fun e a w => ∃ σ', Q e σ' ∧ X.St γ σ' a w) (n + 1) a w := by
    intro n
    induction n with
    | zero =>
      intro i a w hn hi hs
      rw [rounds_succ]
      refine wp_mono (round i hi γ a w hs) fun e a1 w1 ⟨σ', h1, h2⟩ => ?_
      cases e with
      | normal => obtain ⟨j, ⟨_, hlt⟩, _⟩ := h1; omega
      | _ => exact ⟨σ', h1, h2⟩
    | succ n ih =>
      intro i a w hn hi hs
      rw [rounds_succ]
      refine wp_mono (round i hi γ a w hs) fun e a1 w1 ⟨σ', h1, h2⟩ => ?_
      cases e with
      | normal => obtain ⟨j, ⟨hj, hlt⟩, hw⟩ := h1; exact ih j a1 w1 (by omega) hj (hw γ a1 w1 h2)
      | _ => exact ⟨σ', h1, h2⟩
  exact wp_loop_rounds _ (key (μ i0) i0 a w (Nat.le_refl _) h0.1 (h0.2 γ a w hs))

def condW (x : AV) (A B : Prop) : Prop := match x with
  | .bool t => (t = true → A) ∧ (t = false → B)
  | _ => False
def hasG : List Oper → Bool
  | [] => false
  | o :: r => o.guard.isSome || hasG r
/-- a region with guards: which do not hold is to be told -/
inductive RegT (X : Cx) (ops : Array Oper) (Q : AS → Prop) (σ : AS) : Prop
  | mk (off : List (Nat × Bool)) (h : regW X off ops ops.toList Q σ)
inductive RegA (X : Cx) (lo : Lo) (ops : Array Oper) (Q : AS → Prop) (σ : AS) : Prop
  | mk (off : List (Nat × Bool)) (hi : indep ops lo = true) (h : regP X off ops lo (pairs 0 ops.toList) Q σ)
/-- code, evaluated as far as its loops -/
def evC (X : Cx) (lo : Nat → Lo) : Code → (Exit → AS → Prop) → AS → Prop
  | .skip, Q, σ => Q .normal σ
  | .region _ ops false, Q, σ => if hasG ops.toList = true then RegT X ops (Q .normal) σ else regW X [] ops ops.toList (Q .normal) σ
  | .region id ops true, Q, σ => if hasG ops.toList = true then RegA X (lo id) ops (Q .normal) σ else indep ops (lo id) = true ∧ regP X [] ops (lo id) (pairs 0 ops.toList) (Q .normal) σ
  | .seq a b, Q, σ => evC X lo a (thenA (evC X lo b Q) Q) σ
  | .cond c x y, Q, σ => condW (ev σ c) (evC X lo x Q σ) (evC X lo y Q σ)
  | .block id c, Q, σ => evC X lo c (inB id Q) σ
  | .loop c, Q, σ => Tr X (.loop c) Q σ
  | .exit id, Q, σ => Q (.exit id) σ
  | .ret, Q, σ => Q .ret σ
  | .label _, Q, σ => Q .normal σ
  | c, Q, σ => Tr X c Q σ
theorem evC_sound (hX : X.Ok) (lo : Nat → Lo) : ∀ (c : Code) (Q : Exit → AS → Prop) (σ : AS), evC X lo c Q σ → Tr X c Q σ
  | .skip, Q, σ, h => Tr.skip h
  | .region _ ops false, Q, σ, h => by
    rw [evC] at h
    split at h
    · obtain ⟨off, h⟩ := h
      exact Tr.region hX h
    · exact Tr.region hX h
  | .region id ops true, Q, σ, h => by
    rw [evC] at h
    split at h
    · obtain ⟨off, hi, h⟩ := h
      exact Tr.any hX (lo id) hi h
    · exact Tr.any hX (lo id) h.1 h.2
  | .seq a b, Q, σ, h => Tr.seq (Tr.mono (fun e σ h => by
      cases e with
      | normal => exact evC_sound hX lo b Q σ h
      | _ => exact h) (evC_sound hX lo a _ σ h))
  | .cond c x y, Q, σ, h => by
    rw [evC] at h
    unfold condW at h
    split at h
    · rename_i t ht
      exact Tr.cond ht (fun e => evC_sound hX lo x Q σ (h.1 e)) (fun e => evC_sound hX lo y Q σ (h.2 e))
    · exact h.elim
  | .block id c, Q, σ, h => Tr.block (evC_sound hX lo c _ σ h)
  | .loop c, Q, σ, h => h
  | .exit id, Q, σ, h => Tr.exit h
  | .ret, Q, σ, h => Tr.ret h
  | .label _, Q, σ, h => Tr.label h
  | .rangeFunc _ _ _ _, Q, σ, h => h
  | .scope _, Q, σ, h => h
  | .goto _, Q, σ, h => h
  | .refuse _, Q, σ, h => h
end
end Go.Proofs.Ytcgdjdlcecnanaa.Ab
