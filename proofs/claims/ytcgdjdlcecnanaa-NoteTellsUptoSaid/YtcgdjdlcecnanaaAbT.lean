/-
  One state covers another: names may be other ones, what is not told is not known, an empty slice may be one of our own.
  No condition.
-/
import Derived.Test.YtcgdjdlcecnanaaAbS
namespace Go.Proofs.Ytcgdjdlcecnanaa.Ab
open Go
set_option linter.unusedVariables false
set_option linter.unusedSimpArgs false

mutual
/-- the second value tells no more than the first; rl: the names of the second, and what they are in the first -/
def cov (rl : List (Nat × Nat)) : AV → AV → Prop
  | _, .junk => True
  | .int k n, .int k' n' => k = k' ∧ n = n'
  | .bool b, .bool b' => b = b'
  | .str l, .str l' => l = l'
  | .nils, .nils => True
  | .nils, .os n => get n rl = none
  | .nils, .sl _ rs => rs = []
  | .sl sz rs, .sl sz' rs' => sz = sz' ∧ rs = rs'
  | .os t, .os n => get n rl = some t
  | .ptr v o, .ptr v' o' => get v' rl = some v ∧ o = o'
  | .iptr cs, .iptr ds => cs = ds
  | .eptr t i o, .eptr t' i' o' => get t' rl = some t ∧ i = i' ∧ o = o'
  | .func f cs, .func g ds => f = g ∧ covs rl cs ds
  | .agg cs, .agg ds => covs rl cs ds
  | .tup cs, .tup ds => covs rl cs ds
  | .opt g v, .opt g' v' => g = g' ∧ cov rl v v'
  | _, _ => False
def covs (rl : List (Nat × Nat)) : List AV → List AV → Prop
  | [], [] => True
  | x :: xs, y :: ys => cov rl x y ∧ covs rl xs ys
  | _, _ => False
end
def covT (σ : AS) (ks : List Nat) (rl : List (Nat × Nat)) : List (Nat × AV) → Prop
  | [] => True
  | (t, x) :: r => (cov rl ((get t σ.tm).getD .junk) x ∧ subs (names x) ks = true) ∧ covT σ ks rl r
def covBlk (D : Nat → TI) (rl : List (Nat × Nat)) (ks : List Nat) : Option (Option Blk) → Option Blk → Prop
  | some (some (.rows e sz rs)), some (.rows e' sz' rs') => e = e' ∧ sz = sz' ∧ rs = rs'
  | some (some (.cells ds)), some (.cells cs) => covs rl ds cs ∧ subs (namess cs) ks = true
  | none, some (.rows e sz rs) => rs = [] ∧ sz = (D e).n ∧ 0 < sz
  | _, _ => False
def covB (D : Nat → TI) (σ : AS) (ks : List Nat) (rl : List (Nat × Nat)) : List (Nat × Option Blk) → Prop
  | [] => True
  | (n, b) :: r => covBlk D rl ks ((get n rl).map (blk σ)) b ∧ covB D σ ks rl r
def nodupV : List (Nat × Nat) → Bool
  | [] => true
  | (_, t) :: r => !mem t (r.map (·.2)) && nodupV r
structure Cover (D : Nat → TI) (σ σ' : AS) (rl : List (Nat × Nat)) : Prop where
  nt : σ'.nt = σ.nt
  nd : nodupV rl = true
  tm : covT σ (keys σ'.bl) rl σ'.tm
  bl : covB D σ (keys σ'.bl) rl σ'.bl

section
variable {D : Nat → TI} {S N0 : Nat → Prop} {B : Nat} {w0 : W0} {ρ : Env} {σ σ' : AS} {a : Act} {w : World} {rl : List (Nat × Nat)}

theorem covs_get : ∀ {xs ys : List AV}, covs rl xs ys → xs.length = ys.length ∧ ∀ (i : Nat) y, ys[i]? = some y → ∃ x, xs[i]? = some x ∧ cov rl x y
  | [], [], _ => ⟨rfl, fun i y h => by simp at h⟩
  | x :: xs, y :: ys, h => by
    rw [covs] at h
    obtain ⟨h1, h2⟩ := covs_get h.2
    refine ⟨by simp [h1], fun i z hz => ?_⟩
    cases i with
    | zero => simp at hz; subst hz; exact ⟨x, rfl, h.1⟩
    | succ i => simp at hz; simpa using h2 i z hz
  | [], _ :: _, h => by simp [covs] at h
  | _ :: _, [], h => by simp [covs] at h

theorem Rel.cov {im im' : Nat → Prop} {ρ ρ' : Env} (him : ∀ b, im b → im' b) (hρ : ∀ n t, get n rl = some t → ρ' n = ρ t) (hρ0 : ∀ n, get n rl = none → (ρ' n).sv = .slice none 0 0) {x y : AV} {v : Value}
    (h : Rel w im ρ x v) (hc : Ab.cov rl x y) : Rel w im' ρ' y v := by
  induction h generalizing y with
  | junk v => cases y <;> simp only [Ab.cov] at hc <;> exact .junk v
  | int k n =>
    cases y <;> simp only [Ab.cov] at hc
    · exact .junk _
    · obtain ⟨rfl, rfl⟩ := hc; exact .int k n
  | bool b =>
    cases y <;> simp only [Ab.cov] at hc
    · exact .junk _
    · subst hc; exact .bool b
  | str l =>
    cases y <;> simp only [Ab.cov] at hc
    · exact .junk _
    · subst hc; exact .str l
  | nils =>
    cases y <;> simp only [Ab.cov] at hc
    · exact .junk _
    · exact .nils
    · rename_i sz rs
      subst hc
      exact .sl sz [] none 0 0 0 (fun _ _ => .nilIface) (Nat.le_refl _) (by simp [maxLen]) (fun h => absurd h (by simp)) (by simp) (by simp) (by simp)
    · rename_i t
      rw [← hρ0 t hc]; exact .os t
  | sl sz rs A c b o val hc' hm hA hrow hcell hval ih =>
    cases y <;> simp only [Ab.cov] at hc
    · exact .junk _
    · obtain ⟨rfl, rfl⟩ := hc
      exact (Rel.sl sz rs A c b o val hc' hm hA hrow hcell hval).mono him (fun _ _ => rfl) (fun n hn => by simp [names] at hn)
  | os t =>
    cases y <;> simp only [Ab.cov] at hc
    · exact .junk _
    · rw [← hρ _ t hc]; exact .os _
  | ptr v off b h =>
    cases y <;> simp only [Ab.cov] at hc
    · exact .junk _
    · obtain ⟨h1, rfl⟩ := hc
      exact .ptr _ off b (by rw [hρ _ v h1]; exact h)
  | iptr cs b o val hb hcell hval ih =>
    cases y <;> simp only [Ab.cov] at hc
    · exact .junk _
    · subst hc
      exact (Rel.iptr cs b o val hb hcell hval).mono him (fun _ _ => rfl) (fun n hn => by simp [names] at hn)
  | eptr t i off b h =>
    cases y <;> simp only [Ab.cov] at hc
    · exact .junk _
    · obtain ⟨h1, rfl, rfl⟩ := hc
      rw [← hρ _ t h1]
      exact .eptr _ i off b (by rw [hρ _ t h1]; exact h)
  | func f cs vs hl hval ih =>
    cases y <;> simp only [Ab.cov] at hc
    · exact .junk _
    · obtain ⟨rfl, hc⟩ := hc
      obtain ⟨h1, h2⟩ := covs_get hc
      refine .func f _ vs (by rw [hl, h1]) fun i y v hy hv => ?_
      obtain ⟨x, hx, hxy⟩ := h2 i y hy
      exact ih i x v hx hv hxy
  | agg cs vs hl h1 hval ih =>
    cases y <;> simp only [Ab.cov] at hc
    · exact .junk _
    · obtain ⟨q1, q2⟩ := covs_get hc
      refine .agg _ vs (by rw [hl, q1]) h1 fun i y v hy hv => ?_
      obtain ⟨x, hx, hxy⟩ := q2 i y hy
      exact ih i x v hx hv hxy
  | tup cs vs hl hval ih =>
    cases y <;> simp only [Ab.cov] at hc
    · exact .junk _
    · obtain ⟨q1, q2⟩ := covs_get hc
      refine .tup _ vs (by rw [hl, q1]) fun i y v hy hv => ?_
      obtain ⟨x, hx, hxy⟩ := q2 i y hy
      exact ih i x v hx hv hxy
  | opt g x v h1 h2 ih =>
    cases y <;> simp only [Ab.cov] at hc
    · exact .junk _
    · obtain ⟨rfl, hc⟩ := hc
      exact .opt g _ v (fun hg => ih hg hc) h2

theorem covT_get {σ : AS} {ks : List Nat} {t : Nat} {x : AV} : ∀ {l : List (Nat × AV)}, covT σ ks rl l → get t l = some x → Ab.cov rl ((get t σ.tm).getD .junk) x ∧ subs (names x) ks = true
  | [], _, h => by simp [get] at h
  | (k, y) :: r, hc, h => by
    rw [covT] at hc
    simp only [get] at h
    split at h
    · rename_i e; subst e; cases h; exact hc.1
    · exact covT_get hc.2 h
theorem covB_get {σ : AS} {ks : List Nat} {n : Nat} {b : Option Blk} : ∀ {l : List (Nat × Option Blk)}, covB D σ ks rl l → get n l = some b → covBlk D rl ks ((get n rl).map (blk σ)) b
  | [], _, h => by simp [get] at h
  | (k, y) :: r, hc, h => by
    rw [covB] at hc
    simp only [get] at h
    split at h
    · rename_i e; subst e; cases h; exact hc.1
    · exact covB_get hc.2 h
theorem get_snd {n t : Nat} : ∀ {l : List (Nat × Nat)}, get n l = some t → t ∈ l.map (·.2)
  | [], h => by simp [get] at h
  | (k, y) :: r, h => by
    simp only [get] at h
    split at h
    · cases h; simp
    · rw [List.map_cons]; exact List.mem_cons_of_mem _ (get_snd h)
theorem nodup_inj {n m t : Nat} : ∀ {l : List (Nat × Nat)}, nodupV l = true → get n l = some t → get m l = some t → n = m
  | [], _, h, _ => by simp [get] at h
  | (k, y) :: r, hd, h1, h2 => by
    simp only [nodupV, Bool.and_eq_true, Bool.not_eq_true'] at hd
    have hy := mem_false.1 hd.1
    simp only [get] at h1 h2
    split at h1
    · rename_i e1
      split at h2
      · rename_i e2; exact e1.symm.trans e2
      · cases h1; exact absurd (get_snd h2) hy
    · split at h2
      · cases h2; exact absurd (get_snd h1) hy
      · exact nodup_inj hd.2 h1 h2

theorem blk_iff {n : Nat} {x : Blk} : blk σ n = some x ↔ get n σ.bl = some (some x) := by
  unfold blk jn
  cases get n σ.bl with
  | none => simp
  | some b => simp

theorem Cover.bound (h : Cover D σ σ' rl) {n : Nat} (hn : n ∈ keys σ'.bl) : (blk σ' n).isSome = true := by
  obtain ⟨b, hb⟩ := mem_keys.1 hn
  have := covB_get h.bl hb
  cases b with
  | some y => rw [blk_iff.2 hb]; rfl
  | none =>
    exfalso
    unfold covBlk at this
    split at this <;> simp_all

theorem St0.cover (h : St0 D S N0 B w0 ρ σ a w) (hc : Cover D σ σ' rl) : ∃ ρ', St0 D S N0 B w0 ρ' σ' a w := by
  let ρ' : Env := fun n => match get n rl with
    | some t => ρ t
    | none => ⟨none, none, 0, 0, match blk σ' n with | some (.rows _ sz _) => sz | _ => 0⟩
  have hρ : ∀ n t, get n rl = some t → ρ' n = ρ t := fun n t hn => by simp only [ρ', hn]
  have hρn : ∀ n, get n rl = none → ρ' n = ⟨none, none, 0, 0, match blk σ' n with | some (.rows _ sz _) => sz | _ => 0⟩ := fun n hn => by simp only [ρ', hn]
  have hρ0 : ∀ n, get n rl = none → (ρ' n).sv = .slice none 0 0 := fun n hn => by rw [hρn n hn]; rfl
  have hsrc : ∀ n x b, blk σ' n = some x → (ρ' n).b = some b → ∃ t y, get n rl = some t ∧ blk σ t = some y ∧ (ρ t).b = some b := by
    intro n x b hx hb
    have hcb := covB_get hc.bl (blk_iff.1 hx)
    cases hg : get n rl with
    | none => rw [hρn n hg] at hb; cases hb
    | some t =>
      rw [hg] at hcb
      rw [hρ n t hg] at hb
      cases hbt : blk σ t with
      | some y => exact ⟨t, y, rfl, hbt, hb⟩
      | none =>
        exfalso
        simp only [Option.map_some, hbt] at hcb
        unfold covBlk at hcb
        split at hcb <;> simp_all
  have him : ∀ b, imOf S N0 B w ρ (blk σ) b → imOf S N0 B w ρ' (blk σ') b := by
    rintro b ⟨h1, h2, h3⟩
    refine ⟨h1, h2, fun n x hx hb => ?_⟩
    obtain ⟨t, y, _, hy, hb'⟩ := hsrc n x b hx hb
    exact h3 t y hy hb'
  have conv : ∀ {x y : AV} {v : Value}, Rel w (imOf S N0 B w ρ (blk σ)) ρ x v → Ab.cov rl x y → Rel w (imOf S N0 B w ρ' (blk σ')) ρ' y v := fun hr hxy => hr.cov him hρ hρ0 hxy
  have hbd : ∀ {l : List Nat} {n : Nat}, subs l (keys σ'.bl) = true → n ∈ l → (blk σ' n).isSome = true := fun hs hn => hc.bound (subs_mem hs hn)
  refine ⟨ρ', fun t x hx => ?_, ⟨fun n x hx => ?_, fun n m b x y hx hy hb hb' => ?_, fun n x b hx hb hi => hi.2.2 n x hx hb, fun b hb => hb.1, fun n cs hx m hm => ?_⟩, by rw [hc.nt]; exact h.nt, h.base, h.frm, fun n x b hx hb => ?_, h.defers⟩
  · obtain ⟨h1, h2⟩ := covT_get hc.tm hx
    refine ⟨?_, fun n hn => hbd h2 hn⟩
    cases hg : get t σ.tm with
    | none => rw [hg] at h1; exact conv (.junk _) h1
    | some y => rw [hg] at h1; exact conv (h.tm t y hg).1 h1
  · have hcb := covB_get hc.bl (blk_iff.1 hx)
    cases hg : get n rl with
    | none =>
      rw [hg] at hcb
      cases x with
      | cells cs => simp [covBlk] at hcb
      | rows e sz rs =>
        simp only [Option.map_none, covBlk] at hcb
        obtain ⟨rfl, h1, h2⟩ := hcb
        have hr := hρn n hg
        refine ⟨by rw [hr]; simp [hx], h2, h1, none, 0, by rw [hρ0 n hg]; rfl, Nat.le_refl _, by simp [maxLen], .inl ⟨rfl, rfl, rfl, by rw [hr]⟩⟩
    | some t =>
      rw [hg] at hcb
      simp only [Option.map_some] at hcb
      have hr := hρ n t hg
      cases hbt : blk σ t with
      | none => rw [hbt] at hcb; cases x <;> simp [covBlk] at hcb
      | some y =>
        rw [hbt] at hcb
        have hy := h.hp.blk t y hbt
        cases y with
        | cells ds =>
          cases x with
          | rows e sz rs => simp [covBlk] at hcb
          | cells cs =>
            simp only [covBlk] at hcb
            obtain ⟨h1, h2⟩ := covs_get hcb.1
            obtain ⟨b, arr, T, q1, q2, q3, q4⟩ := hy
            refine ⟨b, arr, T, by rw [hr]; exact q1, q2, by rw [q3, h1], fun i x v hx hv => ?_⟩
            obtain ⟨z, hz, hzx⟩ := h2 i x hx
            exact ⟨(q4 i z v hz hv).1, conv (q4 i z v hz hv).2 hzx⟩
        | rows e sz rs =>
          cases x with
          | cells cs => simp [covBlk] at hcb
          | rows e' sz' rs' =>
            simp only [covBlk] at hcb
            obtain ⟨rfl, rfl, rfl⟩ := hcb
            obtain ⟨q1, q2, q3, A, c, q4, q5, q6, q7⟩ := hy
            refine ⟨by rw [hr]; exact q1, q2, q3, A, c, by rw [hr]; exact q4, q5, q6, ?_⟩
            rw [hr]
            refine q7.imp id ?_
            rintro ⟨b, arr, r1, r2, r3, r4, r5⟩
            refine ⟨b, arr, r1, r2, r3, r4, fun i row hi => ⟨(r5 i row hi).1, fun j x hj => ?_⟩⟩
            obtain ⟨s1, v, s2, s3, s4⟩ := (r5 i row hi).2 j x hj
            exact ⟨s1, v, s2, s3, s4.mono him (fun _ _ => rfl) (fun n hn => by rw [s1] at hn; cases hn)⟩
  · obtain ⟨t, y', g1, g2, g3⟩ := hsrc n x b hx hb
    obtain ⟨t', y'', g1', g2', g3'⟩ := hsrc m y b hy hb'
    have := h.hp.inj t t' b y' y'' g2 g2' g3 g3'
    subst this
    exact nodup_inj hc.nd g1 g1'
  · have hcb := covB_get hc.bl (blk_iff.1 hx)
    cases hg : (get n rl).map (blk σ) with
    | none => rw [hg] at hcb; simp [covBlk] at hcb
    | some z =>
      rw [hg] at hcb
      cases z with
      | none => simp [covBlk] at hcb
      | some z =>
        cases z with
        | rows _ _ _ => simp [covBlk] at hcb
        | cells ds =>
          simp only [covBlk] at hcb
          exact hbd hcb.2 hm
  · obtain ⟨t, y, _, hy, hb'⟩ := hsrc n x b hx hb
    exact h.own t y b hy hb'
end
theorem Wk.cover {X : Cx} {σ σ' : AS} (rl : List (Nat × Nat)) (hc : Cover X.D σ σ' rl) : Wk X σ σ' := fun γ a w ⟨ρ, h⟩ => h.cover hc
theorem Wk.refl {X : Cx} {σ : AS} : Wk X σ σ := fun γ a w h => h
theorem Wk.trans {X : Cx} {σ σ' σ'' : AS} (h : Wk X σ σ') (k : Wk X σ' σ'') : Wk X σ σ'' := fun γ a w hs => k γ a w (h γ a w hs)
theorem Wk.freeze {X : Cx} {σ : AS} (ns : List Nat) : Wk X σ (freeze σ ns) := fun γ a w ⟨ρ, h⟩ => ⟨ρ, h.freeze ns⟩
end Go.Proofs.Ytcgdjdlcecnanaa.Ab
