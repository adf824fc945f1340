/-
  Regions: the machine's, by the evaluator's.
  No condition.
-/
import Derived.Test.YtcgdjdlcecnanaaAbQ
namespace Go.Proofs.Ytcgdjdlcecnanaa.Ab
open Go
set_option linter.unusedVariables false
set_option linter.unusedSimpArgs false

/-- what comes ahead of what -/
inductive Pre (ops : Array Oper) : Nat → Nat → Prop
  | dir {i : Nat} {o : Oper} {e : Edge} (ho : ops[i]? = some o) (he : e ∈ o.after.toList) (hb : Region.binds .any e = true) : Pre ops e.on i
  | step {i j : Nat} {o : Oper} {e : Edge} (ho : ops[i]? = some o) (he : e ∈ o.after.toList) (hb : Region.binds .any e = true) (h : Pre ops j e.on) : Pre ops j i

theorem preOf_spec {acc : List Nat} {j : Nat} {es : List Edge} (h : (preOf acc es).testBit j = true) : ∃ e ∈ es, Region.binds .any e = true ∧ (j = e.on ∨ (acc.getD e.on 0).testBit j = true) := by
  have key : ∀ (es : List Edge) (s : Nat), (es.foldl (fun s e => if Region.binds .any e then s ||| 2 ^ e.on ||| acc.getD e.on 0 else s) s).testBit j = true → s.testBit j = true ∨ ∃ e ∈ es, Region.binds .any e = true ∧ (j = e.on ∨ (acc.getD e.on 0).testBit j = true) := by
    intro es
    induction es with
    | nil => intro s h; exact .inl h
    | cons e r ih =>
      intro s h
      rw [List.foldl_cons] at h
      rcases ih _ h with h1 | ⟨e', he', h1⟩
      · split at h1
        · rename_i hb
          simp only [Nat.testBit_or, Bool.or_eq_true, Nat.testBit_two_pow, decide_eq_true_eq] at h1
          rcases h1 with (h1 | h1) | h1
          · exact .inl h1
          · exact .inr ⟨e, List.mem_cons_self .., hb, .inl h1.symm⟩
          · exact .inr ⟨e, List.mem_cons_self .., hb, .inr h1⟩
        · exact .inl h1
      · exact .inr ⟨e', List.mem_cons_of_mem _ he', h1⟩
  rcases key es 0 h with h1 | h1
  · simp at h1
  · exact h1

theorem masks_spec {ops : Array Oper} : ∀ (r : List Oper) (acc : List Nat), (∀ k, r[k]? = ops[acc.length + k]?) → (∀ k j, (acc.getD k 0).testBit j = true → Pre ops j k) → ∀ k j, ((masks r acc).getD k 0).testBit j = true → Pre ops j k
  | [], acc, _, hacc, k, j, h => hacc k j h
  | o :: r, acc, hl, hacc, k, j, h => by
    rw [masks] at h
    refine masks_spec r _ (fun k => ?_) (fun k j h => ?_) k j h
    · have := hl (k + 1)
      simp only [List.getElem?_cons_succ, List.length_append, List.length_cons, List.length_nil] at this ⊢
      rw [this]
      congr 1
      omega
    · by_cases hk : k < acc.length
      · rw [List.getD_eq_getElem?_getD, List.getElem?_append_left hk, ← List.getD_eq_getElem?_getD] at h
        exact hacc k j h
      · by_cases hk' : k = acc.length
        · subst hk'
          rw [List.getD_eq_getElem?_getD, List.getElem?_append_right (Nat.le_refl _)] at h
          simp only [Nat.sub_self, List.getElem?_cons_zero, Option.getD_some] at h
          obtain ⟨e, he, hb, h1⟩ := preOf_spec h
          have ho : ops[acc.length]? = some o := by have := hl 0; simpa using this.symm
          rcases h1 with rfl | h1
          · exact .dir ho he hb
          · exact .step ho he hb (hacc _ _ h1)
        · rw [List.getD_eq_getElem?_getD, List.getElem?_eq_none (by simp; omega)] at h
          simp at h

theorem mem_pairs {i : Nat} {o : Oper} : ∀ {l : List Oper} {k : Nat}, (i, o) ∈ pairs k l ↔ k ≤ i ∧ l[i - k]? = some o
  | [], k => by simp [pairs]
  | x :: r, k => by
    rw [pairs, List.mem_cons, mem_pairs (l := r)]
    constructor
    · rintro (h | ⟨h1, h2⟩)
      · simp only [Prod.mk.injEq] at h
        obtain ⟨rfl, rfl⟩ := h
        simp
      · refine ⟨by omega, ?_⟩
        rw [show i - k = (i - (k + 1)) + 1 by omega]
        simpa using h2
    · rintro ⟨h1, h2⟩
      by_cases h : i = k
      · subst h
        simp at h2
        exact .inl (by rw [h2])
      · refine .inr ⟨by omega, ?_⟩
        rw [show i - k = (i - (k + 1)) + 1 by omega] at h2
        simpa using h2
theorem rowB_mem {ops : Array Oper} {lo : Lo} {m i : Nat} {oi : Oper} {j : Nat} {oj : Oper} : ∀ {l : List (Nat × Oper)}, rowB ops lo m i oi l = true → (j, oj) ∈ l → i ≤ j ∨ m.testBit j = true ∨ apartB ops lo j i oj oi = true
  | [], _, h => by cases h
  | (a, b) :: r, hb, h => by
    simp only [rowB, Bool.and_eq_true, Bool.or_eq_true, decide_eq_true_eq] at hb
    rcases List.mem_cons.1 h with h | h
    · cases h
      rcases hb.1 with (h1 | h1) | h1
      · exact .inl h1
      · exact .inr (.inl h1)
      · exact .inr (.inr h1)
    · exact rowB_mem hb.2 h
theorem indepGo_mem {ops : Array Oper} {lo : Lo} {ms : List Nat} {ps : List (Nat × Oper)} {i : Nat} {o : Oper} : ∀ {l : List (Nat × Oper)}, indepGo ops lo ms ps l = true → (i, o) ∈ l → backB i o.after.toList = true ∧ rowB ops lo (ms.getD i 0) i o ps = true
  | [], _, h => by cases h
  | (a, b) :: r, hb, h => by
    simp only [indepGo, Bool.and_eq_true] at hb
    rcases List.mem_cons.1 h with h | h
    · cases h; exact hb.1
    · exact indepGo_mem hb.2 h
theorem indep_spec {ops : Array Oper} {lo : Lo} (h : indep ops lo = true) {i : Nat} {oi : Oper} (hi : ops[i]? = some oi) :
    (∀ e ∈ oi.after.toList, Region.binds .any e = true → e.on < i) ∧ ∀ j oj, ops[j]? = some oj → j < i → Pre ops j i ∨ apartB ops lo j i oj oi = true := by
  have hmem : ∀ k o, ops[k]? = some o → (k, o) ∈ pairs 0 ops.toList := fun k o ho => mem_pairs.2 ⟨Nat.zero_le _, by simpa using ho⟩
  obtain ⟨h1, h2⟩ := indepGo_mem h (hmem i oi hi)
  refine ⟨fun e he hb => ?_, fun j oj hj hlt => ?_⟩
  · simp only [backB, List.all_eq_true, Bool.or_eq_true, Bool.not_eq_true', decide_eq_true_eq] at h1
    rcases h1 e he with h3 | h3
    · rw [hb] at h3; cases h3
    · exact h3
  · rcases rowB_mem h2 (hmem j oj hj) with h3 | h3 | h3
    · omega
    · exact .inl (masks_spec ops.toList [] (by simp) (by simp) i j h3)
    · exact .inr h3

section
variable {X : Cx} {γ : Nat → Value} {off : List (Nat × Bool)} {ops : Array Oper} {lo : Lo} {Qx : Exit → Act → World → Prop} {Q : AS → Prop}

theorem pre_listed {L : Array Bool} (hcl : ∀ (i : Nat) o, ops[i]? = some o → L.getD i false = true → ∀ e ∈ o.after.toList, Region.binds .any e = true → L.getD e.on false = true) {i j : Nat} (h : Pre ops j i) (hi : ∀ o, ops[i]? = some o → ∀ e ∈ o.after.toList, Region.binds .any e = true → L.getD e.on false = true) : L.getD j false = true := by
  induction h with
  | dir ho he hb => exact hi _ ho _ he hb
  | step ho he hb h ih => exact ih fun o' ho' e' he' hb' => hcl _ _ ho' (hi _ ho _ he hb) e' he' hb'

theorem any_sound (hX : X.Ok) (hs : indep ops lo = true) (hQ : Inv Q) (hfin : ∀ σ a w, Q σ → X.St γ σ a w → Qx .normal a w) :
    ∀ (fuel : Nat) (R : List (Nat × Oper)) (L : Array Bool) (σ : AS) (a : Act) (w : World), L.size = ops.size → (∀ p ∈ R, ops[p.1]? = some p.2) → R.Pairwise (fun p q => p.1 < q.1) →
      (∀ i, i < ops.size → (L.getD i false = false ↔ ∃ o, (i, o) ∈ R)) →
      (∀ (i : Nat) o, ops[i]? = some o → L.getD i false = true → ∀ e ∈ o.after.toList, Region.binds .any e = true → L.getD e.on false = true) →
      R.length ≤ fuel → X.St γ σ a w → regP X off ops lo R Q σ → wpAny X.P .any ops Qx fuel L a w := by
  intro fuel
  induction fuel with
  | zero =>
    intro R L σ a w hsz hR hp hL hcl hlen hst hr
    cases R with
    | cons p r => simp at hlen
    | nil =>
      refine ⟨?_, hfin σ a w hr hst⟩
      rw [List.eq_nil_iff_forall_not_mem]
      intro i hi
      obtain ⟨h0, o, ho, _⟩ := mem_ready.1 hi
      have hlt := (Array.getElem?_eq_some_iff.1 ho).1
      have : L.getD i false = false := by
        rw [Array.getD_eq_getD_getElem?, Array.getElem?_eq_getElem (by omega)] at h0 ⊢
        exact h0
      obtain ⟨_, h⟩ := (hL i hlt).1 this
      cases h
  | succ fuel ih =>
    intro R L σ a w hsz hR hp hL hcl hlen hst hr
    have hflip : ∀ i, i < ops.size → L.getD i true = L.getD i false := fun i hi => by
      rw [Array.getD_eq_getD_getElem?, Array.getD_eq_getD_getElem?, Array.getElem?_eq_getElem (by omega)]
      rfl
    refine ⟨fun hnil => ?_, fun i hi => ?_⟩
    · cases R with
      | nil => exact hfin σ a w hr hst
      | cons p r =>
        exfalso
        obtain ⟨i, o⟩ := p
        have ho := hR (i, o) (List.mem_cons_self ..)
        have hlt := (Array.getElem?_eq_some_iff.1 ho).1
        have : i ∈ Region.ready .any ops L := by
          refine mem_ready.2 ⟨?_, o, ho, fun e he hb => ?_⟩
          · rw [hflip i hlt]
            exact (hL i hlt).2 ⟨o, List.mem_cons_self ..⟩
          · have hback := (indep_spec hs ho).1 e (by simpa using he) hb
            cases hq : L.getD e.on false with
            | true => rfl
            | false =>
              exfalso
              obtain ⟨o', ho'⟩ := (hL e.on (by omega)).1 hq
              rcases List.mem_cons.1 ho' with h | h
              · cases h; omega
              · have := (List.pairwise_cons.1 hp).1 _ h
                simp at this
                omega
        rw [hnil] at this
        cases this
    · obtain ⟨h0, o, ho, hpre⟩ := mem_ready.1 hi
      have hlt := (Array.getElem?_eq_some_iff.1 ho).1
      rw [hflip i hlt] at h0
      obtain ⟨o', hmem⟩ := (hL i hlt).1 h0
      have : o' = o := by have := hR _ hmem; simp only at this; rw [ho] at this; cases this; rfl
      subst this
      obtain ⟨pre, post, rfl⟩ := List.append_of_mem hmem
      obtain ⟨ρ, hst0⟩ := hst
      have hpre' : ∀ e ∈ o'.after.toList, Region.binds .any e = true → L.getD e.on false = true := fun e he hb => hpre e (by simpa using he) hb
      have hfr : regP X off ops lo ((i, o') :: (pre ++ post)) Q σ := by
        refine front hQ hst0.wf (fun p hpm => ?_) hr
        obtain ⟨j, oj⟩ := p
        have hj := hR (j, oj) (List.mem_append_left _ hpm)
        have hji : j < i := (List.pairwise_append.1 hp).2.2 (j, oj) hpm (i, o') (List.mem_cons_self ..)
        rcases (indep_spec hs ho).2 j oj hj hji with h | h
        · exfalso
          have h1 := pre_listed hcl h fun o'' ho'' => by rw [ho] at ho''; cases ho''; exact hpre'
          have h2 := (hL j (by omega)).2 ⟨oj, List.mem_append_left _ hpm⟩
          rw [h1] at h2
          cases h2
        · exact h
      have hnext : wpOp X.P ops Qx i (fun a' w' => ∃ σ', regP X off ops lo (pre ++ post) Q σ' ∧ X.St γ σ' a' w') a w := by
        rcases regP_cons.1 hfr with ⟨e, h1, ⟨⟨h2, h3⟩, _⟩, h4⟩ | ⟨_, _, h1⟩
        · exact wpOp_mono (fun a' w' h5 => ⟨_, h4, h5⟩) (op_sound hX.types hX.calls hst0 (Q := Qx) ho h1 h2 h3 fun hg hm => wpOp_mono (fun a' w' ⟨σ', e1, e2⟩ => e2.congr e1.symm) ((hX.mok ops _ σ e hg hm h3 h2).1 γ a w i Qx ho ⟨ρ, hst0⟩))
        · exact h1.1 γ a w i Qx ho ⟨ρ, hst0⟩
      refine wpOp_mono (fun a' w' ⟨σ', h4, h5⟩ => ?_) hnext
      refine ih (pre ++ post) _ _ a' w' (by simpa using hsz) (fun p hpm => hR p ?_) ?_ (fun k hk => ?_) (fun k o hk hl e he hb => ?_) ?_ h5 h4
      · rcases List.mem_append.1 hpm with h | h
        · exact List.mem_append_left _ h
        · exact List.mem_append_right _ (List.mem_cons_of_mem _ h)
      · exact List.Pairwise.sublist (List.Sublist.append (List.Sublist.refl _) (List.sublist_cons_self ..)) hp
      · by_cases hki : i = k
        · subst hki
          have hti : (L.setIfInBounds i true).getD i false = true := by
            simp [show i < L.size by omega]
          rw [hti]
          refine ⟨fun h => (by cases h), fun ⟨o, h⟩ => ?_⟩
          exfalso
          rw [List.pairwise_append, List.pairwise_cons] at hp
          rcases List.mem_append.1 h with h | h
          · have := hp.2.2 (i, o) h (i, o') (List.mem_cons_self ..)
            simp at this
          · have := hp.2.1.1 (i, o) h
            simp at this
        · rw [getD_set_ne false hki, hL k hk]
          refine exists_congr fun o => ?_
          simp only [List.mem_append, List.mem_cons, Prod.mk.injEq]
          constructor
          · rintro (h | ⟨h, _⟩ | h)
            · exact .inl h
            · exact absurd h.symm hki
            · exact .inr h
          · rintro (h | h)
            · exact .inl h
            · exact .inr (.inr h)
      · by_cases hki : i = k
        · subst hki
          rw [ho] at hk
          cases hk
          exact getD_set_true (hpre' e he hb)
        · rw [getD_set_ne false hki] at hl
          exact getD_set_true (hcl k o hk hl e he hb)
      · simp only [List.length_append, List.length_cons] at hlen ⊢
        omega

theorem pairs_length : ∀ (l : List Oper) (k : Nat), (pairs k l).length = l.length
  | [], _ => rfl
  | _ :: r, k => by simp [pairs, pairs_length r]
theorem pairs_sorted : ∀ (l : List Oper) (k : Nat), (pairs k l).Pairwise (fun p q => p.1 < q.1)
  | [], _ => .nil
  | o :: r, k => by
    rw [pairs, List.pairwise_cons]
    refine ⟨fun p hp => ?_, pairs_sorted r _⟩
    obtain ⟨i, o'⟩ := p
    have := (mem_pairs.1 hp).1
    simp only
    omega

theorem St0.same {D : Nat → TI} {S N0 : Nat → Prop} {B : Nat} {w0 : W0} {ρ : Env} {σ : AS} {a : Act} {w w' : World} (h : St0 D S N0 B w0 ρ σ a w) (h1 : w'.heap = w.heap) (h2 : w'.os = w.os) (h3 : w'.tape = w.tape) (h4 : w'.output = w.output) : St0 D S N0 B w0 ρ σ a w' := by
  have him : imOf S N0 B w' ρ (blk σ) = imOf S N0 B w ρ (blk σ) := by unfold imOf; rw [h1]
  refine ⟨fun t x hx => ?_, ?_, h.nt, h.base, ⟨h2.trans h.frm.os, h3.trans h.frm.tape, h4.trans h.frm.output, by rw [h1]; exact h.frm.size, fun b hb hn => by rw [h1]; exact h.frm.block b hb hn⟩, h.own, h.defers⟩
  · rw [him]
    exact ⟨(h.tm t x hx).1.mono (fun _ h => h) (fun b _ => by rw [h1]) (fun _ _ => rfl), (h.tm t x hx).2⟩
  · rw [him]
    refine ⟨fun n x hx => ?_, h.hp.inj, h.hp.off, fun b hb => by rw [h1]; exact h.hp.lt b hb, h.hp.closed⟩
    have := h.hp.blk n x hx
    cases x with
    | cells cs =>
      obtain ⟨b, arr, T, q1, q2, q3, q4⟩ := this
      exact ⟨b, arr, T, q1, by rw [h1]; exact q2, q3, fun i x v hx hv => ⟨(q4 i x v hx hv).1, (q4 i x v hx hv).2.mono (fun _ h => h) (fun b _ => by rw [h1]) (fun _ _ => rfl)⟩⟩
    | rows e sz rs =>
      obtain ⟨q1, q2, q3, A, c, q4, q5, q6, q7⟩ := this
      refine ⟨q1, q2, q3, A, c, q4, q5, q6, q7.imp id ?_⟩
      rintro ⟨b, arr, r1, r2, r3, r4, r5⟩
      refine ⟨b, arr, r1, r2, by rw [h1]; exact r3, r4, fun i row hi => ⟨(r5 i row hi).1, fun j x hj => ?_⟩⟩
      obtain ⟨s1, v, s2, s3, s4⟩ := (r5 i row hi).2 j x hj
      exact ⟨s1, v, s2, s3, s4.mono (fun _ h => h) (fun b _ => by rw [h1]) (fun _ _ => rfl)⟩

/-- a region whose order is drawn -/
theorem region_any (hX : X.Ok) (hs : indep ops lo = true) {id : Nat} {σ : AS} {a : Act} {w : World} (h : X.St γ σ a w)
    (hfin : ∀ σ a w, Q σ → X.St γ σ a w → Qx .normal a w) (hr : regP X off ops lo (pairs 0 ops.toList) Q σ) : (Code.region id ops true).wp X.P Qx a w := by
  obtain ⟨ρ, h⟩ := h
  refine wp_region_any hX.mixed (any_sound hX hs (clo_inv Q) (fun σ a w hq hst => ?_) ops.size (pairs 0 ops.toList) _ σ a _ (by simp) (fun p hp => ?_) (pairs_sorted _ _) (fun i hi => ?_) (fun i o _ hl => ?_) (by rw [pairs_length]; simp) ⟨ρ, h.same (w' := { w with drawn := w.drawn + 1 }) rfl rfl rfl rfl⟩ (regP_mono (fun σ hq => ⟨σ, Eqv.refl σ, hq⟩) hr))
  · obtain ⟨σ1, h1, h2⟩ := hq
    exact hfin σ1 a w h2 (hst.congr h1.symm)
  · obtain ⟨i, o⟩ := p
    have := (mem_pairs.1 hp).2
    simpa using this
  · have : (Array.replicate ops.size false).getD i false = false := by simp [hi]
    simp only [this, true_iff]
    exact ⟨ops[i], mem_pairs.2 ⟨Nat.zero_le _, by simp [hi]⟩⟩
  · exfalso
    rw [Array.getD_eq_getD_getElem?] at hl
    by_cases h : i < ops.size
    · simp [h] at hl
    · simp [h] at hl

/-- a region in the text's order -/
theorem regW_sound (hX : X.Ok) (hfin : ∀ σ a w, Q σ → X.St γ σ a w → Qx .normal a w) :
    ∀ (r : List Oper) (k : Nat) (σ : AS) (a : Act) (w : World), (∀ j, r[j]? = ops[k + j]?) → X.St γ σ a w → regW X off ops r Q σ → wpOps X.P ops Qx (List.range' k r.length) a w
  | [], k, σ, a, w, _, hst, hr => by simpa [wpOps] using hfin σ a w hr hst
  | o :: r, k, σ, a, w, hl, hst, hr => by
    rw [List.length_cons, List.range'_succ, wpOps_cons]
    have ho : ops[k]? = some o := by have := hl 0; simpa using this.symm
    rw [regW] at hr
    obtain ⟨ρ, hst0⟩ := hst
    cases he : opEff X.D X.G X.M X.nb off ops σ o with
    | none =>
      rw [he] at hr
      refine wpOp_mono (fun a' w' ⟨σ', h4, h5⟩ => regW_sound hX hfin r (k + 1) σ' a' w' (fun j => ?_) h5 h4) (hr.1 γ a w k Qx ho ⟨ρ, hst0⟩)
      have := hl (j + 1)
      simpa [Nat.add_assoc, Nat.add_comm 1 j] using this
    | some e =>
      rw [he] at hr
      refine wpOp_mono (fun a' w' h5 => regW_sound hX hfin r (k + 1) _ a' w' (fun j => ?_) h5 hr.2) (op_sound hX.types hX.calls hst0 ho he hr.1.1 hr.1.2 fun hg hm => wpOp_mono (fun a' w' ⟨σ', e1, e2⟩ => e2.congr e1.symm) ((hX.mok ops _ σ e hg hm hr.1.2 hr.1.1).1 γ a w k Qx ho ⟨ρ, hst0⟩))
      have := hl (j + 1)
      simpa [Nat.add_assoc, Nat.add_comm 1 j] using this
theorem region_text (hX : X.Ok) {id : Nat} {σ : AS} {a : Act} {w : World} (h : X.St γ σ a w)
    (hfin : ∀ σ a w, Q σ → X.St γ σ a w → Qx .normal a w) (hr : regW X off ops ops.toList Q σ) : (Code.region id ops false).wp X.P Qx a w := by
  refine wp_region ?_
  rw [List.range_eq_range', ← Array.length_toList]
  exact regW_sound hX hfin ops.toList 0 σ a w (by simp) h hr
end
end Go.Proofs.Ytcgdjdlcecnanaa.Ab
