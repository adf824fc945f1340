/-
  Texts of the proof, one behind the other: RgG GtE GtF GtG.
  No condition but those that each theorem names.
-/
import Derived.Test.YtmlejhpeoiicpaaGreatDoorGC
import Derived.Test.YtmlejhpeoiicpaaGreatDoorGI
import Derived.Test.YtmlejhpeoiicpaaGreatDoorGO
import Derived.Test.YtmlejhpeoiicpaaGreatDoorGQ
namespace Go.Proofs.YtmlejhpeoiicpaaGreatDoor.Ab
open Go
set_option linter.unusedVariables false
set_option linter.unusedSimpArgs false

def unG (o : Oper) : Oper := ⟨o.dst, o.op, o.type, o.pos, o.after, none⟩
def regG (X : Cx) (ops : Array Oper) : List Oper → (AS → Prop) → AS → Prop
  | [], Q, σ => Q σ
  | o :: r, Q, σ => match guardOf σ ops o.guard with
    | some (some true) => regW X [] #[unG o] [unG o] (regG X ops r Q) σ
    | some none => regW X [] #[unG o] [unG o] (regG X ops r Q) σ
    | _ => False
theorem wpOp_unG {P : Program} {ops : Array Oper} {Q : Exit → Act → World → Prop} {i : Nat} {o : Oper} {K : Act → World → Prop} {a : Act} {w : World} (hi : ops[i]? = some o) (hw : Region.wanted o (yielded ops a.tmps) = true) (h : wpOp P #[unG o] Q 0 K a w) : wpOp P ops Q i K a w := by
  unfold wpOp at h ⊢
  have h0 : (#[unG o] : Array Oper)[0]? = some (unG o) := rfl
  simp only [h0] at h
  rw [if_pos (by simp [Region.wanted, unG])] at h
  simp only [hi]
  rw [if_pos hw]
  obtain ⟨d, op, ty, pos, af, g⟩ := o
  exact h
theorem regG_sound {X : Cx} {ops : Array Oper} {γ : Nat → Value} {Qx : Exit → Act → World → Prop} {Q : AS → Prop} (hX : X.Ok) (hfin : ∀ σ a w, Q σ → X.St γ σ a w → Qx .normal a w) :
    ∀ (r : List Oper) (k : Nat) (σ : AS) (a : Act) (w : World), (∀ j, r[j]? = ops[k + j]?) → X.St γ σ a w → regG X ops r Q σ → wpOps X.P ops Qx (List.range' k r.length) a w
  | [], k, σ, a, w, hl, hst, hr => by simpa [wpOps] using hfin σ a w hr hst
  | o :: r, k, σ, a, w, hl, hst, hr => by
    rw [List.length_cons, List.range'_succ, wpOps_cons]
    have ho : ops[k]? = some o := by have := hl 0; simpa using this.symm
    have hl' : ∀ j, r[j]? = ops[k + 1 + j]? := fun j => by
      have := hl (j + 1)
      rw [show k + (j + 1) = k + 1 + j by omega] at this
      simpa using this
    rw [regG] at hr
    obtain ⟨ρ, hst0⟩ := hst
    have go : Region.wanted o (yielded ops a.tmps) = true → regW X [] #[unG o] [unG o] (regG X ops r Q) σ → wpOp X.P ops Qx k (wpOps X.P ops Qx (List.range' (k + 1) r.length)) a w := fun hw hr =>
      wpOp_unG ho hw (regW_op hX rfl ⟨ρ, hst0⟩ hr fun σ' a' w' hq hst' => regG_sound hX hfin r (k + 1) σ' a' w' hl' hst' hq)
    cases hg : guardOf σ ops o.guard with
    | none => rw [hg] at hr; exact hr.elim
    | some g =>
      rw [hg] at hr
      cases g with
      | none =>
        refine go ?_ hr
        have hgd : o.guard = none := by
          cases hgo : o.guard with
          | none => rfl
          | some jw =>
            exfalso
            obtain ⟨j, want⟩ := jw
            rw [hgo] at hg
            simp only [guardOf] at hg
            split at hg
            · cases hg
            · split at hg <;> first | (cases hg; done) | (simp at hg)
        simp [Region.wanted, hgd]
      | some g =>
        cases g with
        | false => exact hr.elim
        | true => exact go (wanted_of hst0 hg) hr
theorem Tr.regG {X : Cx} (hX : X.Ok) {id : Nat} {ops : Array Oper} {Q : Exit → AS → Prop} {σ : AS} (h : Ab.regG X ops ops.toList (Q .normal) σ) : Tr X (.region id ops false) Q σ := fun γ a w hs => by
  refine wp_region ?_
  rw [List.range_eq_range']
  have := regG_sound (ops := ops) (γ := γ) (Qx := fun e a w => ∃ σ', Q e σ' ∧ X.St γ σ' a w) hX (fun σ a w hq hst => ⟨σ, hq, hst⟩) ops.toList 0 σ a w (fun j => by simp) hs h
  simpa using this
theorem regG_cons {X : Cx} {ops : Array Oper} {o : Oper} {r : List Oper} {Q : AS → Prop} {σ : AS} (h : guardOf σ ops o.guard = some (some true) ∨ guardOf σ ops o.guard = some none) (hr : regW X [] #[unG o] [unG o] (regG X ops r Q) σ) : regG X ops (o :: r) Q σ := by
  rw [regG]
  rcases h with h | h <;> rw [h] <;> exact hr
end Go.Proofs.YtmlejhpeoiicpaaGreatDoor.Ab
namespace Go.Proofs.YtmlejhpeoiicpaaGreatDoor.Ab
open Go Go.RowKit
set_option linter.unusedVariables false

theorem frame_stable {b : Wd} (c : Wd) (h : (frameS b).2.2 ≠ 9) : frameS (b ++ c) = frameS b := by
  by_cases h2 : b.length < 2
  · unfold frameS at h
    rw [if_pos h2] at h
    exact absurd rfl h
  have g0 : (b ++ c).getD 0 0 = b.getD 0 0 := by
    simp only [List.getD_eq_getElem?_getD]
    rw [List.getElem?_append_left (by omega)]
  have g1 : (b ++ c).getD 1 0 = b.getD 1 0 := by
    simp only [List.getD_eq_getElem?_getD]
    rw [List.getElem?_append_left (by omega)]
  unfold frameS at h ⊢
  rw [g0, g1]
  rw [if_neg h2] at h ⊢
  rw [if_neg (by rw [List.length_append]; omega)]
  generalize 256 * (b.getD 0 0).toNat + (b.getD 1 0).toNat = n at *
  by_cases h3 : 398 < n
  · rw [if_pos h3, if_pos h3]
  · rw [if_neg h3] at h ⊢
    rw [if_neg h3]
    by_cases h4 : b.length < n + 2
    · rw [if_pos h4] at h
      exact absurd rfl h
    · rw [if_neg h4, if_neg (by rw [List.length_append]; omega), List.take_append_of_le_length (by omega)]
theorem askP_stable {b : Wd} (c : Wd) (h : (askP b).2.2 ≠ 9) : askP (b ++ c) = askP b := by
  have hf : (frameS b).2.2 ≠ 9 := fun e => h (by unfold askP; rw [if_pos (by rw [e]; decide), e])
  unfold askP
  rw [frame_stable c hf]
theorem placeG_app {α : Type} {p : α → Bool} : ∀ (l m : List α) (s : Int), 0 ≤ s → (0 ≤ placeG p l s → placeG p (l ++ m) s = placeG p l s) ∧ (placeG p l s < 0 → placeG p (l ++ m) s = -1 ∨ s + l.length ≤ placeG p (l ++ m) s)
  | [], m, s, hs => by
    refine ⟨fun h => by rw [placeG] at h; omega, fun _ => ?_⟩
    rw [List.nil_append]
    have hg : ∀ (l : List α) (t : Int), placeG p l t = -1 ∨ t ≤ placeG p l t := fun l => by
      induction l with
      | nil => intro t; exact .inl rfl
      | cons y r ih =>
        intro t
        rw [placeG]
        split
        · exact .inr (Int.le_refl _)
        · rcases ih (t + 1) with h | h
          · exact .inl h
          · exact .inr (by omega)
    rcases hg m s with h | h
    · exact .inl h
    · exact .inr (by simpa using h)
  | x :: l, m, s, hs => by
    obtain ⟨h1, h2⟩ := placeG_app l m (s + 1) (by omega)
    rw [List.cons_append, placeG, placeG]
    by_cases hx : p x = true
    · rw [if_pos hx, if_pos hx]
      exact ⟨fun _ => rfl, fun h => by omega⟩
    · rw [if_neg hx, if_neg hx]
      refine ⟨h1, fun h => ?_⟩
      rcases h2 h with h3 | h3
      · exact .inl h3
      · refine .inr ?_
        simp only [List.length_cons]
        omega
theorem lineP_stable {b : Wd} (c : Wd) (h : (lineP b).2.2 ≠ 9) : lineP (b ++ c) = lineP b := by
  obtain ⟨p1, p2⟩ := placeG_app (p := fun x => 10 == x) b c 0 (Int.le_refl _)
  have p1 : 0 ≤ ixB b → ixB (b ++ c) = ixB b := p1
  have p2 : ixB b < 0 → ixB (b ++ c) = -1 ∨ (b.length : Int) ≤ ixB (b ++ c) := fun h => by
    rcases p2 h with h3 | h3
    · exact .inl h3
    · exact .inr (by rw [Int.zero_add] at h3; exact h3)
  have hr := ixB_range b
  have e4 : ∀ x : Wd, (ixB x < 0 → 400 ≤ x.length) → (ixB x < 0 ∨ 400 ≤ ixB x) → lineP x = ([], 0, 4) := fun x h1 h2 => by
    unfold lineP
    rw [if_neg (by omega), if_pos h2]
  by_cases h1 : ixB b < 0
  · by_cases h2 : (b.length : Int) < 400
    · exact absurd (by unfold lineP; rw [if_pos ⟨h1, h2⟩]) h
    · have hl : (b ++ c).length = b.length + c.length := List.length_append
      have := p2 h1
      rw [e4 b (fun _ => by omega) (.inl h1), e4 (b ++ c) (fun _ => by omega) (by omega)]
  · have hx : ixB (b ++ c) = ixB b := p1 (by omega)
    by_cases h4 : 400 ≤ ixB b
    · rw [e4 b (fun h => absurd h h1) (.inr h4), e4 (b ++ c) (fun h => by omega) (by omega)]
    · have e0 : ∀ x : Wd, ixB x = ixB b → lineP x = (Lib.split (x.take (ixB b).toNat) [32], ixB b + 1, 0) := fun x hx => by
        unfold lineP
        rw [if_neg (by omega), if_neg (by omega), hx]
      rw [e0 b rfl, e0 (b ++ c) hx, List.take_append_of_le_length (by omega)]
theorem laskR_stable {b : Wd} (c : Wd) (h : (laskR b).2.2 ≠ 9) : laskR (b ++ c) = laskR b := by
  have hf : (lineP b).2.2 ≠ 9 := fun e => h (by unfold laskR; rw [if_pos (by rw [e]; decide), e])
  unfold laskR
  rw [lineP_stable c hf]
theorem cut_app {s sub : Wd} (c : Wd) (h : (Lib.cut s sub).2.2 = true) : Lib.cut (s ++ c) sub = ((Lib.cut s sub).1, (Lib.cut s sub).2.1 ++ c, true) := by
  have h0 : 0 ≤ Lib.index s sub := by
    unfold Lib.cut at h
    split at h
    · assumption
    · cases h
  rcases Lib.index_spec s sub with ⟨h1, _⟩ | ⟨i, h1, h2, h3, h4⟩
  · omega
  · have hr := Lib.index_room s sub h0
    obtain ⟨t, ht⟩ := occ_get h3
    have hi : Lib.index (s ++ c) sub = i := by
      refine Lib.index_first (by rw [List.length_append]; omega) (occ_put (t := t ++ c) ?_) fun j hj => ?_
      · rw [List.drop_append_of_le_length h2, ht, List.append_assoc]
      · cases ho : Lib.occAt (s ++ c) sub j
        · rfl
        · obtain ⟨u, hu⟩ := occ_get ho
          have hn : Lib.occAt s sub j = false := h4 j hj
          have hp : Lib.occAt s sub j = true := by
            unfold Lib.occAt
            rw [List.drop_append_of_le_length (by omega)] at hu
            have hpre : sub <+: s.drop j ++ c := ⟨u, hu.symm⟩
            exact List.isPrefixOf_iff_prefix.2 (List.prefix_of_prefix_length_le hpre (List.prefix_append _ _) (by rw [List.length_drop]; omega))
          rw [hn] at hp
          cases hp
    unfold Lib.cut
    rw [hi, h1, if_pos (by omega), if_pos (by omega)]
    simp only [Int.toNat_natCast]
    rw [List.take_append_of_le_length h2, List.drop_append_of_le_length (by omega)]
theorem partsR_stable {b : Wd} (c : Wd) (h : (partsR b).err ≠ 9) : partsR (b ++ c) = partsR b := by
  by_cases hl : 400 ≤ b.length
  · have ht : (b ++ c).take 400 = b.take 400 := List.take_append_of_le_length hl
    have hp : pcut (b ++ c) = pcut b := by unfold pcut; rw [ht]
    have hq : plines (b ++ c) = plines b := by unfold plines; rw [hp]
    unfold partsR
    rw [hp, hq]
    by_cases h2 : (pcut b).2.2 = false
    · rw [if_pos h2, if_pos h2, if_neg (by rw [List.length_append]; omega), if_neg (by omega)]
    · rw [if_neg h2, if_neg h2]
      generalize headsP [] [] (-1) (plines b).tail = x
      cases x with
      | none => rfl
      | some y =>
        obtain ⟨ps, hs, n⟩ := y
        simp only [partsE]
        by_cases h3 : n < 0
        · rw [if_pos h3, if_pos h3]
        · rw [if_neg h3, if_neg h3]
          by_cases h4 : 400 < ((pcut b).1.length : Int) + 4 + n
          · rw [if_pos h4, if_pos h4]
          · rw [if_neg h4, if_neg h4, if_neg (by rw [List.length_append]; omega), if_neg (by omega), List.take_append_of_le_length (by omega)]
  · have htk : b.take 400 = b := List.take_of_length_le (by omega)
    have hpb : pcut b = Lib.cut b end4 := by unfold pcut; rw [htk]; rfl
    have hok : (pcut b).2.2 = true := by
      cases h2 : (pcut b).2.2
      · exfalso
        refine h ?_
        unfold partsR
        rw [if_pos h2, if_pos (by omega)]
        rfl
      · rfl
    have hpc : pcut (b ++ c) = ((pcut b).1, (pcut b).2.1 ++ c.take (400 - b.length), true) := by
      unfold pcut at hok ⊢
      rw [List.take_append, htk]
      rw [htk] at hok
      exact cut_app _ hok
    have hq : plines (b ++ c) = plines b := by unfold plines; rw [hpc]
    have h2 : ¬ (pcut b).2.2 = false := by rw [hok]; decide
    unfold partsR at h ⊢
    rw [if_neg h2] at h ⊢
    rw [hpc, hq]
    simp only [Bool.true_eq_false, if_false]
    generalize headsP [] [] (-1) (plines b).tail = x at *
    cases x with
    | none => rfl
    | some y =>
      obtain ⟨ps, hs, n⟩ := y
      simp only [partsE] at h ⊢
      by_cases h3 : n < 0
      · rw [if_pos h3, if_pos h3]
      · rw [if_neg h3] at h ⊢
        rw [if_neg h3]
        by_cases h4 : 400 < ((pcut b).1.length : Int) + 4 + n
        · rw [if_pos h4, if_pos h4]
        · rw [if_neg h4] at h ⊢
          rw [if_neg h4]
          by_cases h5 : (b.length : Int) < ((pcut b).1.length : Int) + 4 + n
          · rw [if_pos h5] at h
            exact absurd rfl h
          · rw [if_neg h5, if_neg (by rw [List.length_append]; omega), List.take_append_of_le_length (by omega)]
theorem waskR_stable {b : Wd} (c : Wd) (h : (waskR b).2.2 ≠ 9) : waskR (b ++ c) = waskR b := by
  have hf : (partsR b).err ≠ 9 := fun e => h (by unfold waskR waskE; rw [if_pos (by rw [e]; decide), e])
  unfold waskR
  rw [partsR_stable c hf]
theorem tAsk_stable {n : Int} {b : Wd} (c : Wd) (h : (tAsk n b).2.2 ≠ 9) : tAsk n (b ++ c) = tAsk n b := by
  unfold tAsk at *
  split at h
  · rename_i h1; rw [if_pos h1, if_pos h1]; exact askP_stable c h
  · rename_i h1
    rw [if_neg h1, if_neg h1]
    split at h
    · rename_i h2; rw [if_pos h2, if_pos h2]; exact laskR_stable c h
    · rename_i h2; rw [if_neg h2, if_neg h2]; exact waskR_stable c h
/-! all of them, with no bound on how many -/
def allG {α : Type} (T : Wd → α × Int × Int) : Nat → Wd → List α × Wd × Int
  | 0, b => ([], b, 0)
  | f + 1, b =>
    if (T b).2.2 = 9 then ([], b, 0)
    else if (T b).2.2 ≠ 0 then ([], b, (T b).2.2)
    else ((T b).1 :: (allG T f (b.drop (T b).2.1.toNat)).1, (allG T f (b.drop (T b).2.1.toNat)).2)
/-- each that is read has two bytes, and no more than are there -/
def Goes {α : Type} (T : Wd → α × Int × Int) : Prop := ∀ b, (T b).2.2 = 0 → 2 ≤ (T b).2.1 ∧ (T b).2.1 ≤ b.length
theorem allG_fuel {α : Type} {T : Wd → α × Int × Int} (hT : Goes T) : ∀ (f g : Nat) (b : Wd), b.length < f → b.length < g → allG T f b = allG T g b
  | 0, _, b, h, _ => by omega
  | f + 1, 0, b, _, h => by omega
  | f + 1, g + 1, b, h1, h2 => by
    rw [allG, allG]
    by_cases h3 : (T b).2.2 = 9
    · rw [if_pos h3, if_pos h3]
    · rw [if_neg h3, if_neg h3]
      by_cases h4 : (T b).2.2 ≠ 0
      · rw [if_pos h4, if_pos h4]
      · rw [if_neg h4, if_neg h4]
        have := hT b (by simpa using h4)
        rw [allG_fuel hT f g _ (by rw [List.length_drop]; omega) (by rw [List.length_drop]; omega)]
theorem allF_allG {α : Type} {T : Wd → α × Int × Int} (hT : Goes T) : ∀ (f : Nat) (most : Int) (b : Wd), (b.length : Int) + 2 ≤ 2 * most → allF T f most b = allG T f b
  | 0, _, _, _ => rfl
  | f + 1, most, b, h => by
    rw [allF, allG, if_neg (by omega)]
    by_cases h3 : (T b).2.2 = 9
    · rw [if_pos h3, if_pos h3]
    · rw [if_neg h3, if_neg h3]
      by_cases h4 : (T b).2.2 ≠ 0
      · rw [if_pos h4, if_pos h4]
      · rw [if_neg h4, if_neg h4]
        have := hT b (by simpa using h4)
        rw [allF_allG hT f (most - 1) _ (by rw [List.length_drop]; omega)]
/-- HOWEVER IT IS CUT -/
theorem allG_cut {α : Type} {T : Wd → α × Int × Int} (hT : Goes T) (hS : ∀ b c, (T b).2.2 ≠ 9 → T (b ++ c) = T b) : ∀ (f : Nat) (x c : Wd), x.length < f →
    ((allG T f x).2.2 ≠ 0 → allG T ((x ++ c).length + 1) (x ++ c) = ((allG T f x).1, (allG T f x).2.1 ++ c, (allG T f x).2.2)) ∧
    ((allG T f x).2.2 = 0 → allG T ((x ++ c).length + 1) (x ++ c) = ((allG T f x).1 ++ (allG T (((allG T f x).2.1 ++ c).length + 1) ((allG T f x).2.1 ++ c)).1, (allG T (((allG T f x).2.1 ++ c).length + 1) ((allG T f x).2.1 ++ c)).2))
  | 0, x, c, h => by omega
  | f + 1, x, c, h => by
    by_cases h3 : (T x).2.2 = 9
    · have e : allG T (f + 1) x = ([], x, 0) := by rw [allG, if_pos h3]
      rw [e]
      exact ⟨fun h => absurd rfl h, fun _ => by simp⟩
    · have hs := hS x c h3
      by_cases h4 : (T x).2.2 ≠ 0
      · have e : allG T (f + 1) x = ([], x, (T x).2.2) := by rw [allG, if_neg h3, if_pos h4]
        rw [e]
        refine ⟨fun _ => ?_, fun h => absurd h h4⟩
        rw [allG, hs, if_neg h3, if_pos h4]
      · have h4' : (T x).2.2 = 0 := by simpa using h4
        obtain ⟨k1, k2⟩ := hT x h4'
        have e : allG T (f + 1) x = ((T x).1 :: (allG T f (x.drop (T x).2.1.toNat)).1, (allG T f (x.drop (T x).2.1.toNat)).2) := by rw [allG, if_neg h3, if_neg h4]
        have e2 : allG T ((x ++ c).length + 1) (x ++ c) = ((T x).1 :: (allG T ((x.drop (T x).2.1.toNat ++ c).length + 1) (x.drop (T x).2.1.toNat ++ c)).1, (allG T ((x.drop (T x).2.1.toNat ++ c).length + 1) (x.drop (T x).2.1.toNat ++ c)).2) := by
          rw [allG, hs, if_neg h3, if_neg h4, List.drop_append_of_le_length (by omega), allG_fuel hT ((x ++ c).length) ((x.drop (T x).2.1.toNat ++ c).length + 1) _ (by simp only [List.length_append, List.length_drop]; omega) (by omega)]
        obtain ⟨i1, i2⟩ := allG_cut hT hS f (x.drop (T x).2.1.toNat) c (by rw [List.length_drop]; omega)
        rw [e, e2]
        refine ⟨fun h => ?_, fun h => ?_⟩
        · rw [i1 h]
        · rw [i2 h]
          simp
theorem lask_two {b : Wd} (h : (laskR b).2.2 = 0) : 2 ≤ (laskR b).2.1 := by
  unfold laskR at *
  split at h
  · rename_i h1; exact absurd h h1
  · rename_i h1
    rw [if_neg h1]
    split at h
    · rename_i h2; exact absurd h h2
    · rename_i h2
      rw [if_neg h2]
      simp only
      have h1' : (lineP b).2.2 = 0 := by simpa using h1
      have h2' : (laskP (lineP b).1).2 = 0 := by simpa using h2
      unfold lineP at *
      split at h1'
      · cases h1'
      · split at h1'
        · cases h1'
        · rename_i a1 a2
          rw [if_neg a1, if_neg a2] at h2' ⊢
          simp only at h2' ⊢
          by_cases h0 : ixB b = 0
          · exfalso
            rw [h0] at h2'
            have e : List.take (Int.toNat 0) b = [] := rfl
            rw [e] at h2'
            exact absurd h2' (by decide +kernel)
          · have := ixB_range b
            omega
theorem tAsk_goes (n : Int) : Goes (tAsk n) := fun b h => by
  unfold tAsk at *
  split at h
  · rename_i h1
    rw [if_pos h1]
    rcases ask_right b with hr | hr
    · refine ⟨?_, hr.2.2.2.1⟩
      have hf : (frameS b).2.2 = 0 := by
        cases hq : decide ((frameS b).2.2 = 0)
        · have hq : (frameS b).2.2 ≠ 0 := by simpa using hq
          unfold askP at h
          rw [if_pos hq] at h
          exact absurd h hq
        · simpa using hq
      have h2 := (frame_ok hf).1
      have e : (askP b).2.1 = (frameS b).2.1 := by
        unfold askP at h ⊢
        rw [if_neg (by simpa using hf)] at h ⊢
        split at h
        · cases h
        · rename_i q1
          rw [if_neg q1]
          split at h
          · cases h
          · rename_i q2
            rw [if_neg q2]
            split at h
            · rename_i q3; exact absurd h q3
            · rename_i q3; rw [if_neg q3]
      omega
    · exact absurd h hr.1
  · rename_i h1
    rw [if_neg h1]
    split at h
    · rename_i h2
      rw [if_pos h2]
      rcases lask_right b with hr | hr
      · exact ⟨lask_two h, hr.2.2.2.1⟩
      · exact absurd h hr.1
    · rename_i h2
      rw [if_neg h2]
      rcases wask_right b with hr | hr
      · refine ⟨?_, hr.2.2.2.1⟩
        have hp : (partsR b).err = 0 := by
          cases hq : decide ((partsR b).err = 0)
          · have hq : (partsR b).err ≠ 0 := by simpa using hq
            unfold waskR waskE at h
            rw [if_pos hq] at h
            exact absurd h hq
          · simpa using hq
        have hl := (parts_len hp).1
        have e : (waskR b).2.1 = (partsR b).all := by
          unfold waskR waskE at h ⊢
          rw [if_neg (by simpa using hp)] at h ⊢
          split at h
          · rename_i q; exact absurd h q
          · rename_i q; rw [if_neg q]
        omega
      · exact absurd h hr.1
/-- the law, for asks -/
theorem gasks_cut {n : Int} (hn : isT n) (b : Wd) (k : Nat) (hk : k ≤ b.length) (hb : b.length ≤ 1999000) :
    ((gasks n (b.take k) 1000000).2.2 ≠ 0 → gasks n b 1000000 = ((gasks n (b.take k) 1000000).1, (gasks n (b.take k) 1000000).2.1 ++ b.drop k, (gasks n (b.take k) 1000000).2.2)) ∧
    ((gasks n (b.take k) 1000000).2.2 = 0 → gasks n b 1000000 = ((gasks n (b.take k) 1000000).1 ++ (gasks n ((gasks n (b.take k) 1000000).2.1 ++ b.drop k) 1000000).1, (gasks n ((gasks n (b.take k) 1000000).2.1 ++ b.drop k) 1000000).2)) := by
  have hG : ∀ x : Wd, x.length ≤ 1999000 → gasks n x 1000000 = allG (tAsk n) (x.length + 1) x := fun x hx => by
    unfold gasks
    rw [if_pos hn]
    exact allF_allG (tAsk_goes n) _ _ _ (by omega)
  have hrest : ∀ (f : Nat) (x : Wd), (allG (tAsk n) f x).2.1.length ≤ x.length := fun f => by
    induction f with
    | zero => intro x; exact Nat.le_refl _
    | succ f ih =>
      intro x
      rw [allG]
      split
      · exact Nat.le_refl _
      · split
        · exact Nat.le_refl _
        · have := ih (x.drop (tAsk n x).2.1.toNat)
          rw [List.length_drop] at this
          simp only
          omega
  have hx : (b.take k).length ≤ 1999000 := by rw [List.length_take]; omega
  have hc := allG_cut (tAsk_goes n) (fun b c h => tAsk_stable c h) ((b.take k).length + 1) (b.take k) (b.drop k) (by omega)
  rw [List.take_append_drop] at hc
  rw [hG _ hx, hG b hb]
  obtain ⟨c1, c2⟩ := hc
  refine ⟨c1, fun h => ?_⟩
  have hr := hrest ((b.take k).length + 1) (b.take k)
  rw [List.length_take] at hr
  rw [c2 h, hG _ (by rw [List.length_append, List.length_drop]; simp only [List.length_take] at hr ⊢; omega)]
end Go.Proofs.YtmlejhpeoiicpaaGreatDoor.Ab
namespace Go.Proofs.YtmlejhpeoiicpaaGreatDoor.Ab
open Go Go.RowKit
set_option linter.unusedVariables false
set_option linter.unusedSimpArgs false

theorem askGet {l : List LAsk} {i : Nat} (h : i < l.length) : (l.map askCs).getD i [] = askCs (l.getD i lask0) := by
  simp [List.getD_eq_getElem?_getD, h]
set_option maxRecDepth 100000 in
set_option maxHeartbeats 2000000 in
theorem con_sameasks (l m : List LAsk) (hl : l.length ≤ 16777216) (fl : ∀ a ∈ l, a.Fits) (fm : ∀ a ∈ m, a.Fits) : Con Tryz.prog D 45 [.sl 5 (l.map askCs), .sl 5 (m.map askCs)] ⟨.bool (decide (l = m)), []⟩ := by
  have hok : GOk Tryz.prog D (tabG [eSameask]) := tabG_ok _
  have g1 := fun (a b : LAsk) (h1 : a.Fits) (h2 : b.Fits) => tabG_use (T := [eSameask]) (E := eSameask) (i := 0) rfl (by decide) ((a, b)) (⟨h1, h2⟩)
  generalize tabG [eSameask] = G at *
  dsimp only [eSameask] at g1
  have hcon : ∀ r, r = decide (l = m) → Con Tryz.prog D 45 [.sl 5 (l.map askCs), .sl 5 (m.map askCs)] ⟨.bool r, []⟩ := by
    intro r hr
    refine conW (G := G) (rs := [(4, none)]) hok Tryz.func45 Tryz.results45 Tryz.ntmps45 (fun _ => {}) fun X hP hD hG' hX => ?_
    simp only [argS, num]
    by_cases hlm : l.length = m.length
    case neg =>
      have d : (((l.length : Nat) : Int) != ((m.length : Nat) : Int)) = true := by simp; omega
      have hr : r = false := by rw [hr]; exact decide_eq_false fun h => hlm (by rw [h])
      subst hr
      simp (disch := omega) only [go_sem, hD, hG', d, unbox]
      (repeat (with_reducible refine And.intro (by first | omega | decide | (simp; done) | (simp only [List.length_append, List.length_cons, List.length_nil, List.length_map]; omega)) ?_))
      refine endW [] [] (by simp) rfl rfl rfl ?_ ?_ <;> simp only [go_sem]
    have d : (((l.length : Nat) : Int) != ((m.length : Nat) : Int)) = false := by simp [hlm]
    simp (disch := omega) only [go_sem, hD, hG', d, unbox]
    refine Tr.loop (ι := Nat) (fun i => i ≤ l.length ∧ l.take i = m.take i) (fun i => { nt := 27, tm := [(0, .sl 5 (l.map askCs)), (1, .sl 5 (m.map askCs)), (12, .int .i64 l.length), (13, .int .i64 i)], bl := [] }) (fun i => l.length - i) 0
      ⟨⟨Nat.zero_le _, by simp⟩, wk_of hD [] rfl rfl (by simp only [go_sem]; try simp) (by simp only [go_sem])⟩ ?_
    rintro i ⟨hi, hit⟩
    refine evC_sound hX (fun _ => {}) _ _ _ ?_
    simp (disch := omega) only [go_sem, hD, hG', unbox]
    refine condK_split (fun h => ?_) (fun h => ?_)
    · rw [decide_eq_true_eq] at h
      have hi1 : i < l.length := by omega
      have hi2 : i < m.length := by omega
      have h1 := askGet hi1
      have h2 := askGet hi2
      have gg := g1 (l.getD i lask0) (m.getD i lask0) (fl _ (getD_in hi1)) (fm _ (getD_in hi2))
      have ht : l.take (i + 1) = l.take i ++ [l.getD i lask0] := by
        rw [List.take_succ_eq_append_getElem hi1]
        simp [hi1]
      have ht2 : m.take (i + 1) = m.take i ++ [m.getD i lask0] := by
        rw [List.take_succ_eq_append_getElem hi2]
        simp [hi2]
      have hne : ¬ l.getD i lask0 = m.getD i lask0 → r = false := fun hn => by
        rw [hr]
        exact decide_eq_false fun h => hn (by rw [h])
      generalize l.getD i lask0 = a at *
      generalize m.getD i lask0 = c at *
      by_cases hac : a = c
      · subst hac
        rw [decide_eq_true rfl] at gg
        obtain ⟨k, q, n, ⟨ps, bs⟩⟩ := a
        simp only [askCs, askA] at h1 h2 gg
        simp (disch := omega) only [go_sem, hD, hG', h1, h2, gg, unbox]
        (repeat (with_reducible refine And.intro (by first | omega | decide | (simp; done) | (simp only [List.length_append, List.length_cons, List.length_nil, List.length_map]; omega)) ?_))
        refine ⟨i + 1, ⟨⟨by omega, by rw [ht, ht2, hit]⟩, by omega⟩, wk_of hD [] rfl rfl ?_ ?_⟩ <;> simp only [go_sem]
        all_goals (try simp)
      · rw [decide_eq_false hac] at gg
        have hr := hne hac
        subst hr
        obtain ⟨k, q, n, ⟨ps, bs⟩⟩ := a
        obtain ⟨k', q', n', ⟨ps', bs'⟩⟩ := c
        simp only [askCs, askA] at h1 h2 gg
        simp (disch := omega) only [go_sem, hD, hG', h1, h2, gg, unbox]
        (repeat (with_reducible refine And.intro (by first | omega | decide | (simp; done) | (simp only [List.length_append, List.length_cons, List.length_nil, List.length_map]; omega)) ?_))
        refine endW [] [] (by simp) rfl rfl rfl ?_ ?_ <;> simp only [go_sem]
    · rw [decide_eq_false_iff_not] at h
      have hie : i = l.length := by omega
      subst hie
      rw [List.take_length, hlm, List.take_length] at hit
      have hr : r = true := by rw [hr]; exact decide_eq_true hit
      subst hr
      simp (disch := omega) only [go_sem, hD, hG', unbox]
      (repeat (with_reducible refine And.intro (by first | omega | decide | (simp; done) | (simp only [List.length_append, List.length_cons, List.length_nil, List.length_map]; omega)) ?_))
      refine endW [] [] (by simp) rfl rfl rfl ?_ ?_ <;> simp only [go_sem]
  exact hcon _ rfl
def eSameasks : Ent Tryz.prog D := ⟨45, List LAsk × List LAsk, fun x => [.sl 5 (x.1.map askCs), .sl 5 (x.2.map askCs)], fun x => x.1.length ≤ 16777216 ∧ (∀ a ∈ x.1, a.Fits) ∧ ∀ a ∈ x.2, a.Fits, fun x => ⟨.bool (decide (x.1 = x.2)), []⟩, fun x y _ _ h => by
  obtain ⟨a, b⟩ := x
  obtain ⟨a', b'⟩ := y
  have hinj : ∀ (u v : List LAsk), u.map askCs = v.map askCs → u = v := fun u v h => List.map_inj_right (fun p q h => askA_inj (by rw [askA_cs, askA_cs, h])) |>.1 h
  simp only [List.cons.injEq, AV.sl.injEq, true_and, and_true] at h
  rw [hinj _ _ h.1, hinj _ _ h.2], fun x h => con_sameasks x.1 x.2 h.1 h.2.1 h.2.2⟩
end Go.Proofs.YtmlejhpeoiicpaaGreatDoor.Ab
namespace Go.Proofs.YtmlejhpeoiicpaaGreatDoor.Ab
open Go Go.RowKit
set_option linter.unusedVariables false
set_option linter.unusedSimpArgs false

theorem allF_good {T : Wd → LAsk × Int × Int} (hT : ∀ b, (T b).2.2 = 0 → wrongAskS (T b).1 = 0) : ∀ (f : Nat) (most : Int) (b : Wd), (∀ a ∈ (allF T f most b).1, wrongAskS a = 0) ∧ (allF T f most b).1.length ≤ f ∧ (allF T f most b).2.1.length ≤ b.length
  | 0, _, b => ⟨fun a h => (by cases h), Nat.le_refl _, Nat.le_refl _⟩
  | f + 1, most, b => by
    rw [allF]
    split
    · exact ⟨fun a h => (by cases h), Nat.zero_le _, Nat.le_refl _⟩
    · split
      · exact ⟨fun a h => (by cases h), Nat.zero_le _, Nat.le_refl _⟩
      · split
        · exact ⟨fun a h => (by cases h), Nat.zero_le _, Nat.le_refl _⟩
        · rename_i h3
          obtain ⟨i1, i2, i3⟩ := allF_good hT f (most - 1) (b.drop (T b).2.1.toNat)
          rw [List.length_drop] at i3
          refine ⟨fun a ha => ?_, ?_, ?_⟩
          · rcases List.mem_cons.1 ha with rfl | ha
            · exact hT b (by simpa using h3)
            · exact i1 a ha
          · simp only [List.length_cons]; omega
          · simp only; omega
theorem gasks_good (n : Int) (b : Wd) (most : Int) : (∀ a ∈ (gasks n b most).1, a.Fits) ∧ (gasks n b most).1.length ≤ b.length + 1 ∧ (gasks n b most).2.1.length ≤ b.length := by
  unfold gasks
  split
  · obtain ⟨h1, h2, h3⟩ := allF_good (T := tAsk n) (fun b h => by
      rcases tAsk_right n b with hr | hr
      · exact hr.2.1
      · exact absurd h hr.1) (b.length + 1) most b
    exact ⟨fun a ha => ask_fits (h1 a ha), h2, h3⟩
  · exact ⟨fun a h => (by cases h), Nat.zero_le _, Nat.zero_le _⟩
def gpLo : Nat → Lo := fun id => match id with | 9 => {lo := [8], uo := [3, 7], kn := [73, 75], ex := [1]} | 10 => {hand := true} | _ => {}
theorem rowAppA (l m : List LAsk) : l.map askCs ++ m.map askCs = (l ++ m).map askCs := by simp
set_option maxRecDepth 100000 in
set_option maxHeartbeats 8000000 in
theorem con_gatesplit (n : Int) (b : Wd) (k : Int) (hb : b.length ≤ 1048576) : Con Tryz.prog D 7 [.int .i64 n, .sl 1 (b.map byteRow), .int .i64 k] ⟨.bool true, []⟩ := by
  have hc := fun hn hk => gasks_cut (n := n) hn b k.toNat hk (by omega)
  have q1 := gasks_good n b 1000000
  have q2 := gasks_good n (b.take k.toNat) 1000000
  have q3 := gasks_good n ((gasks n (b.take k.toNat) 1000000).2.1 ++ b.drop k.toNat) 1000000
  have hno : ¬ isT n → ∀ x, gasks n x 1000000 = ([], [], 1) := fun h x => by unfold gasks; rw [if_neg h]
  have hv := q2.2.2
  rw [List.length_take] at hv
  have hvl : ((gasks n (b.take k.toNat) 1000000).2.1 ++ b.drop k.toNat).length ≤ 2097152 := by rw [List.length_append, List.length_drop]; omega
  have hok : GOk Tryz.prog D (tabG [eGtalive, eGasks, eSameasks]) := tabG_ok _
  have g1 := tabG_use (T := [eGtalive, eGasks, eSameasks]) (E := eGtalive) (i := 0) rfl (by decide) (()) (trivial)
  have g2 := tabG_use (T := [eGtalive, eGasks, eSameasks]) (E := eGasks) (i := 1) rfl (by decide) ((n, b, 1000000)) (by show b.length ≤ 4194304; omega)
  have g3 := tabG_use (T := [eGtalive, eGasks, eSameasks]) (E := eGasks) (i := 1) rfl (by decide) ((n, b.take k.toNat, 1000000)) (by show (b.take k.toNat).length ≤ 4194304; rw [List.length_take]; omega)
  have g4 := tabG_use (T := [eGtalive, eGasks, eSameasks]) (E := eGasks) (i := 1) rfl (by decide) ((n, (gasks n (b.take k.toNat) 1000000).2.1 ++ b.drop k.toNat, 1000000)) (by show ((gasks n (b.take k.toNat) 1000000).2.1 ++ b.drop k.toNat).length ≤ 4194304; omega)
  have g5 := fun (l m : List LAsk) (h1 : l.length ≤ 16777216) (h2 : ∀ a ∈ l, a.Fits) (h3 : ∀ a ∈ m, a.Fits) => tabG_use (T := [eGtalive, eGasks, eSameasks]) (E := eSameasks) (i := 2) rfl (by decide) ((l, m)) (⟨h1, h2, h3⟩)
  generalize tabG [eGtalive, eGasks, eSameasks] = G at *
  dsimp only [eGtalive] at g1
  dsimp only [eGasks] at g2
  dsimp only [eGasks] at g3
  dsimp only [eGasks] at g4
  dsimp only [eSameasks] at g5
  rw [List.length_take] at q2
  rw [List.length_append, List.length_drop] at q3
  have g0 : decide ((0 : Int) < 1) = true := rfl
  have hcon : ∀ r, r = true → Con Tryz.prog D 7 [.int .i64 n, .sl 1 (b.map byteRow), .int .i64 k] ⟨.bool r, []⟩ := by
    intro r hr
    subst hr
    refine conW (G := G) (rs := [(6, none)]) hok Tryz.func7 Tryz.results7 Tryz.ntmps7 (gpLo) fun X hP hD hG' hX => ?_
    simp only [argS, num]
    by_cases hk0 : k < 0
    · have d1 : decide (k < 0) = true := by simp [hk0]
      simp (disch := omega) only [go_sem, hD, hG', g1, gpLo, unbox]
      (repeat (with_reducible refine And.intro (by first | omega | decide | (simp; done) | (simp only [List.length_append, List.length_cons, List.length_nil, List.length_map]; omega)) ?_))
      refine RegT.mk [(2, false)] ?_
      simp (disch := omega) only [go_sem, hD, hG', d1, gpLo, unbox]
      (repeat (with_reducible refine And.intro (by first | omega | decide | (simp; done) | (simp only [List.length_append, List.length_cons, List.length_nil, List.length_map]; omega)) ?_))
      refine endW [] [] (by simp) rfl rfl rfl ?_ ?_ <;> simp only [go_sem]
    have d1 : decide (k < 0) = false := by simp [hk0]
    by_cases hk1 : k > (b.length : Int)
    · have d2 : decide (k > (b.length : Int)) = true := by simp [hk1]
      simp (disch := omega) only [go_sem, hD, hG', g1, gpLo, unbox]
      (repeat (with_reducible refine And.intro (by first | omega | decide | (simp; done) | (simp only [List.length_append, List.length_cons, List.length_nil, List.length_map]; omega)) ?_))
      refine RegT.mk [] ?_
      simp (disch := omega) only [go_sem, hD, hG', d1, d2, gpLo, unbox]
      (repeat (with_reducible refine And.intro (by first | omega | decide | (simp; done) | (simp only [List.length_append, List.length_cons, List.length_nil, List.length_map]; omega)) ?_))
      refine endW [] [] (by simp) rfl rfl rfl ?_ ?_ <;> simp only [go_sem]
    have d2 : decide (k > (b.length : Int)) = false := by simp [hk1]
    generalize hK : k.toNat = kk at *
    have hkk : kk ≤ b.length := by omega
    by_cases hn : isT n
    case neg =>
      have e1 := hno hn b
      have e2 := hno hn (b.take kk)
      rw [e1] at g2
      rw [e2] at g3
      have g5 := g5 [] [] (by simp) (by simp) (by simp)
      simp only [List.map_nil, decide_true] at g2 g3 g5
      have n0 : ((0 : Nat) : Int) = 0 := rfl
      by_cases h1 : n < 1
      · have d3 : decide (n < 1) = true := by simp [h1]
        simp (disch := omega) only [go_sem, hD, hG', g1, gpLo, unbox]
        (repeat (with_reducible refine And.intro (by first | omega | decide | (simp; done) | (simp only [List.length_append, List.length_cons, List.length_nil, List.length_map]; omega)) ?_))
        refine RegT.mk [] ?_
        simp (disch := omega) only [go_sem, hD, hG', d1, d2, g2, g3, hK, gpLo, unbox]
        (repeat (with_reducible refine And.intro (by first | omega | decide | (simp; done) | (simp only [List.length_append, List.length_cons, List.length_nil, List.length_map]; omega)) ?_))
        refine RegT.mk [(14, false), (19, false)] ?_
        simp (disch := omega) only [go_sem, hD, hG', g5, d3, n0, gpLo, unbox]
        (repeat (with_reducible refine And.intro (by first | omega | decide | (simp; done) | (simp only [List.length_append, List.length_cons, List.length_nil, List.length_map]; omega)) ?_))
        refine endW [] [] (by simp) rfl rfl rfl ?_ ?_ <;> simp only [go_sem]
      · have d3 : decide (n < 1) = false := by simp [h1]
        have d4 : decide (n > 3) = true := by
          have : n > 3 := by unfold isT at hn; omega
          simp [this]
        simp (disch := omega) only [go_sem, hD, hG', g1, gpLo, unbox]
        (repeat (with_reducible refine And.intro (by first | omega | decide | (simp; done) | (simp only [List.length_append, List.length_cons, List.length_nil, List.length_map]; omega)) ?_))
        refine RegT.mk [] ?_
        simp (disch := omega) only [go_sem, hD, hG', d1, d2, g2, g3, hK, gpLo, unbox]
        (repeat (with_reducible refine And.intro (by first | omega | decide | (simp; done) | (simp only [List.length_append, List.length_cons, List.length_nil, List.length_map]; omega)) ?_))
        refine RegT.mk [(19, false)] ?_
        simp (disch := omega) only [go_sem, hD, hG', g5, d3, d4, n0, gpLo, unbox]
        (repeat (with_reducible refine And.intro (by first | omega | decide | (simp; done) | (simp only [List.length_append, List.length_cons, List.length_nil, List.length_map]; omega)) ?_))
        refine endW [] [] (by simp) rfl rfl rfl ?_ ?_ <;> simp only [go_sem]
    have d3 : decide (n < 1) = false := by unfold isT at hn; simp; omega
    have d4 : decide (n > 3) = false := by unfold isT at hn; simp; omega
    obtain ⟨c1, c2⟩ := hc hn hkk
    clear hc hno
    generalize gasks n (b.take kk) 1000000 = x at *
    obtain ⟨m, v, f⟩ := x
    simp only at c1 c2 g3 g4 q2 q3 hv hvl
    generalize gasks n (v ++ b.drop kk) 1000000 = y at *
    obtain ⟨p, w, g⟩ := y
    simp only at c2 g4 q3
    by_cases hf : f = 0
    · have e := c2 hf
      rw [e] at g2 q1
      simp only at g2 q1
      have d5 : (f != 0) = false := by simp [hf]
      have g5 := g5 (m ++ p) (m ++ p) (by have := q1.2.1; omega) q1.1 q1.1
      simp only [decide_true] at g5
      have hdl : (b.drop kk).length ≤ 1048576 := by rw [List.length_drop]; omega
      have hvb : v.length ≤ 1048576 := by omega
      have htk : List.take (List.length b) b = b := List.take_length
      have hml : m.length ≤ 1048577 := by have := q2.2.1; omega
      have hpl : p.length ≤ 2097154 := by have := q3.2.1; omega
      clear c1 c2 q1 q2 q3 e hv
      generalize hdk : b.drop kk = dk at *
      simp (disch := omega) only [go_sem, hD, hG', g1, gpLo, unbox]
      (repeat (with_reducible refine And.intro (by first | omega | decide | (simp; done) | (simp only [List.length_append, List.length_cons, List.length_nil, List.length_map]; omega)) ?_))
      refine RegT.mk [] ?_
      simp (disch := omega) only [go_sem, hD, hG', d1, d2, g2, g3, hK, d5, htk, hdk, rowAppG, g4, List.getD_nil, gpLo, unbox]
      (repeat (with_reducible refine And.intro (by first | omega | decide | (simp; done) | (simp only [List.length_append, List.length_cons, List.length_nil, List.length_map]; omega)) ?_))
      refine Tr.regG hX ?_
      simp only [List.toList_toArray]
      iterate 20 (
        refine regG_cons ?_ ?_
        · first | exact Or.inr rfl | (left; simp (disch := omega) only [go_sem, hD, hG', unbox])
        simp (disch := omega) only [go_sem, hD, hG', unG, g5, rowAppA, List.getD_nil, unbox]
        (repeat (with_reducible refine And.intro (by first | omega | decide | (simp; done) | (simp only [List.length_append, List.length_cons, List.length_nil, List.length_map]; omega)) ?_)))
      rw [regG]
      simp (disch := omega) only [go_sem, hD, hG', gpLo, unbox]
      refine endW [] [] (by simp) rfl rfl rfl ?_ ?_ <;> simp only [go_sem]
    · have e := c1 hf
      rw [e] at g2 q1
      simp only at g2 q1
      have d5 : (f != 0) = true := by simp [hf]
      have g5 := g5 m m (by have := q1.2.1; omega) q1.1 q1.1
      simp only [decide_true] at g5
      have d6 : decide ((((v ++ b.drop kk).length : Nat) : Int) ≥ (v.length : Int)) = true := by simp only [decide_eq_true_eq, List.length_append]; omega
      generalize v ++ b.drop kk = u at *
      by_cases hf1 : f = 1
      · have d7 : (f == 1) = true := by simp [hf1]
        simp (disch := omega) only [go_sem, hD, hG', g1, gpLo, unbox]
        (repeat (with_reducible refine And.intro (by first | omega | decide | (simp; done) | (simp only [List.length_append, List.length_cons, List.length_nil, List.length_map]; omega)) ?_))
        refine RegT.mk [] ?_
        simp (disch := omega) only [go_sem, hD, hG', d1, d2, g2, g3, hK, d5, gpLo, unbox]
        (repeat (with_reducible refine And.intro (by first | omega | decide | (simp; done) | (simp only [List.length_append, List.length_cons, List.length_nil, List.length_map]; omega)) ?_))
        refine RegT.mk [] ?_
        simp (disch := omega) only [go_sem, hD, hG', g5, d3, d4, d6, d7, gpLo, unbox]
        (repeat (with_reducible refine And.intro (by first | omega | decide | (simp; done) | (simp only [List.length_append, List.length_cons, List.length_nil, List.length_map]; omega)) ?_))
        refine endW [] [] (by simp) rfl rfl rfl ?_ ?_ <;> simp only [go_sem]
      · have d7 : (f == 1) = false := by simp [hf1]
        simp (disch := omega) only [go_sem, hD, hG', g1, gpLo, unbox]
        (repeat (with_reducible refine And.intro (by first | omega | decide | (simp; done) | (simp only [List.length_append, List.length_cons, List.length_nil, List.length_map]; omega)) ?_))
        refine RegT.mk [] ?_
        simp (disch := omega) only [go_sem, hD, hG', d1, d2, g2, g3, hK, d5, gpLo, unbox]
        (repeat (with_reducible refine And.intro (by first | omega | decide | (simp; done) | (simp only [List.length_append, List.length_cons, List.length_nil, List.length_map]; omega)) ?_))
        refine RegT.mk [(11, true), (14, false)] ?_
        simp (disch := omega) only [go_sem, hD, hG', g5, d6, d7, gpLo, unbox]
        (repeat (with_reducible refine And.intro (by first | omega | decide | (simp; done) | (simp only [List.length_append, List.length_cons, List.length_nil, List.length_map]; omega)) ?_))
        refine endW [] [] (by simp) rfl rfl rfl ?_ ?_ <;> simp only [go_sem]
  exact hcon _ rfl
end Go.Proofs.YtmlejhpeoiicpaaGreatDoor.Ab
