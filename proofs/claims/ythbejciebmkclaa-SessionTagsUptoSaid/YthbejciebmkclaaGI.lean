/-
  Texts of the proof, one behind the other: HaR HaT HaU HaV HaW HaX Dp Dq HaY HaZ.
  No condition but those that each theorem names.
-/
import Derived.Test.YthbejciebmkclaaGH
import Derived.Test.YthbejciebmkclaaGC
import Derived.Test.YthbejciebmkclaaGR
namespace Go.Proofs.Ythbejciebmkclaa.Ab
open Go Go.RowKit
set_option linter.unusedVariables false
set_option linter.unusedSimpArgs false

end Go.Proofs.Ythbejciebmkclaa.Ab
namespace Go.Proofs.Ythbejciebmkclaa.Ab
open Go Go.RowKit
set_option linter.unusedVariables false
set_option linter.unusedSimpArgs false

end Go.Proofs.Ythbejciebmkclaa.Ab
namespace Go.Proofs.Ythbejciebmkclaa.Ab
open Go Go.RowKit
set_option linter.unusedVariables false
set_option linter.unusedSimpArgs false

end Go.Proofs.Ythbejciebmkclaa.Ab
namespace Go.Proofs.Ythbejciebmkclaa.Ab
open Go Go.RowKit
set_option linter.unusedVariables false
set_option linter.unusedSimpArgs false

theorem set_fits {h : LHall} {k : Nat} {q : LQueue} (hh : h.Fits) (hq : q.Fits) (hn : q.name.size ≤ 1048576) : (setQ h k q).Fits := by
  refine ⟨by simpa [setQ] using hh.1, fun p hp => ?_⟩
  rcases List.mem_or_eq_of_mem_set hp with hp | hp
  · exact hh.2 p hp
  · rw [hp]; exact ⟨hq, hn⟩
def HallNice (x : LHall) : Prop := x.Fits ∧ (∀ q ∈ x.queues, q.Ok ∧ ∀ i ∈ q.items, wrongS i.note = 0) ∧ -1000000000 ≤ x.next ∧ x.next ≤ 1000000000
end Go.Proofs.Ythbejciebmkclaa.Ab
namespace Go.Proofs.Ythbejciebmkclaa.Ab
open Go Go.RowKit
set_option linter.unusedVariables false
set_option linter.unusedSimpArgs false

theorem hallP_nice {T M : Int} {n : Nat} {g : LHall} (h : hallP T M n g) (hT : T ≤ 1000000) (hM : M ≤ 1000000000) (hn : n ≤ 1048576) : HallNice g := by
  have hi := hallP_in h hT hM hn
  exact ⟨hi.1, fun q hq => ⟨hi.2.1 q hq, fun i hi => ((h.1.2 q hq).2.2.2 i hi).1⟩, hi.2.2⟩
end Go.Proofs.Ythbejciebmkclaa.Ab
namespace Go.Proofs.Ythbejciebmkclaa.Ab
open Go Go.RowKit
set_option linter.unusedVariables false
set_option linter.unusedSimpArgs false

theorem entryGet {l : List LEntry} {i : Nat} (h : i < l.length) : (l.map entryRow).getD i [] = entryRow (l.getD i entry0) := by
  simp [h]
end Go.Proofs.Ythbejciebmkclaa.Ab
namespace Go.Proofs.Ythbejciebmkclaa.Ab
open Go
set_option linter.unusedVariables false
set_option linter.unusedSimpArgs false

/-- the same but for the blocks of cells -/
def Core (i j : NI) : Prop := i.b = j.b ∧ i.A = j.A ∧ i.n = j.n ∧ i.c = j.c ∧ i.sz = j.sz
theorem Core.refl {i : NI} : Core i i := ⟨rfl, rfl, rfl, rfl, rfl⟩
theorem Core.of_eq {i j : NI} (h : i = j) : Core i j := h ▸ Core.refl
theorem Core.sv {i j : NI} (h : Core i j) : i.sv = j.sv := by
  obtain ⟨_, h2, h3, h4, _⟩ := h
  simp only [NI.sv, h2, h3, h4]
theorem Rel.core {w : World} {im im' : Nat → Prop} {ρ ρ' : Env} {x : AV} {v : Value} (h : Rel w im ρ x v) (him : ∀ b, im b → im' b) (hρ : ∀ n, n ∈ names x → Core (ρ' n) (ρ n)) : Rel w im' ρ' x v := by
  induction h with
  | junk v => exact .junk v
  | int k n => exact .int k n
  | bool b => exact .bool b
  | str l => exact .str l
  | nils => exact .nils
  | sl sz rs A c b o val hc hm hA hrow hcell hval ih =>
    exact .sl sz rs A c b o val hc hm (fun h => ⟨(hA h).1, him _ (hA h).2⟩) hrow hcell (fun i j row x h1 h2 => ih i j row x h1 h2 (fun n hn => by rw [(hcell i j row x h1 h2).2.2] at hn; cases hn))
  | os t => rw [← (hρ t (by simp [names])).sv]; exact .os t
  | ptr v off b h => exact .ptr v off b (by rw [(hρ v (by simp [names])).1]; exact h)
  | iptr cs b o val hb hcell hval ih => exact .iptr cs b o val (him _ hb) hcell (fun j x h1 => ih j x h1 (fun n hn => by rw [(hcell j x h1).2.2] at hn; cases hn))
  | eptr t i off b h =>
    have := hρ t (by simp [names])
    rw [← this.2.2.2.2]
    exact .eptr t i off b (by rw [this.1]; exact h)
  | lsl n A c hc hm => exact .lsl n A c hc hm
  | imap es b c arr hb ho he => exact .imap es b c arr (him _ hb) ho he
  | nilp => exact .nilp
  | tsl t i b A' h hA =>
    have := hρ t (by simp [names])
    rw [← this.2.2.1, ← this.2.2.2.1]
    exact .tsl t i b A' (by rw [this.1]; exact h) (by rw [this.2.2.1, this.2.2.2.2]; exact hA)
  | func f cs vs hl hval ih => exact .func f cs vs hl fun i x v h1 h2 => ih i x v h1 h2 fun n hn => hρ n (by rw [names]; exact mem_namess h1 hn)
  | agg cs vs hl h1 hval ih => exact .agg cs vs hl h1 fun i x v h1 h2 => ih i x v h1 h2 fun n hn => hρ n (by rw [names]; exact mem_namess h1 hn)
  | tup cs vs hl hval ih => exact .tup cs vs hl fun i x v h1 h2 => ih i x v h1 h2 fun n hn => hρ n (by rw [names]; exact mem_namess h1 hn)
  | opt g x v h1 h2 ih => exact .opt g x v (fun hg => ih hg fun n hn => hρ n (by rw [names]; exact hn)) h2
theorem RowsNI.to {D : Nat → TI} {w : World} {im im' : Nat → Prop} {ρ ρ' : Env} {i i' : NI} {e sz : Nat} {rs : List (List AV)} (h : RowsNI D w im ρ i e sz rs) (hi : i'.sz = i.sz ∧ i'.sv = i.sv ∧ i'.b = i.b) (him : ∀ b, im b → im' b) : RowsNI D w im' ρ' i' e sz rs := by
  obtain ⟨h1, h2, h2', A, c, h3, h4, h5, h6⟩ := h
  refine ⟨hi.1.trans h1, h2, h2', A, c, hi.2.1.trans h3, h4, h5, ?_⟩
  rw [hi.2.2]
  rcases h6 with ⟨e1, e0, e2, e3⟩ | ⟨b, arr, hb1, hA, hh, hsz, hr⟩
  · exact .inl ⟨e1, e0, e2, e3⟩
  · refine .inr ⟨b, arr, hb1, hA, hh, hsz, fun i row hi => ⟨(hr i row hi).1, fun j x hj => ?_⟩⟩
    obtain ⟨hn', v, hv, h1v, hrel⟩ := (hr i row hi).2 j x hj
    exact ⟨hn', v, hv, h1v, hrel.mono him (fun _ _ => rfl) (fun m hm => by rw [hn'] at hm; cases hm)⟩
/-- such a cell, read alone -/
theorem RowsNI.rel {D : Nat → TI} {w : World} {im : Nat → Prop} {ρ : Env} {i : NI} {e sz : Nat} {rs : List (List AV)} (h : RowsNI D w im ρ i e sz rs) (hb : ∀ b, i.b = some b → im b) : Rel w im ρ (.sl sz rs) i.sv := by
  have h' : BRel D w im (fun _ => i) 0 (.rows e sz rs) := h.to ⟨rfl, rfl, rfl⟩ fun _ h => h
  exact (Rel.plain h' (fun _ h => h) hb).mono (fun _ h => h) (fun _ _ => rfl) (fun n hn => by simp [names] at hn)
theorem CellD.to {D : Nat → TI} {w : World} {im im' : Nat → Prop} {ρ ρ' : Env} {hb : Option Nat} {col : Option (Nat × Nat)} {x : AV} {v : Value} (h : CellD D w im ρ hb col x v) (hn : names x = []) (him : ∀ b, im b → im' b) : CellD D w im' ρ' hb col x v :=
  h.mono hn (fun _ _ => rfl) him (fun _ _ => rfl)
theorem BRel.core {D : Nat → TI} {w : World} {im im' : Nat → Prop} {ρ ρ' : Env} {n : Nat} {x : Blk} (h : BRel D w im ρ n x) (hn : ρ' n = ρ n) (him : ∀ b, im b → im' b) (hρ : ∀ m ∈ bnames x, Core (ρ' m) (ρ m)) : BRel D w im' ρ' n x := by
  cases x with
  | cells cs =>
    obtain ⟨b, arr, T, h1, h2, h3, h5⟩ := h
    exact ⟨b, arr, T, by rw [hn]; exact h1, h2, h3, fun i x v hx hv => ⟨(h5 i x v hx hv).1, (h5 i x v hx hv).2.core him fun m hm => hρ m (mem_namess hx hm)⟩⟩
  | rows e sz rs =>
    have h' : RowsNI D w im ρ (ρ n) e sz rs := h
    exact h'.to (by rw [hn]; exact ⟨rfl, rfl, rfl⟩) him
  | deep e sz rs cols foc =>
    obtain ⟨h1, h2, h2', h0, hI, A, c, h3, h4, h5, h6⟩ := h
    refine ⟨by rw [hn]; exact h1, h2, h2', by rw [hn]; exact h0, hI, A, c, by rw [hn]; exact h3, h4, h5, ?_⟩
    rw [hn]
    refine h6.imp id ?_
    rintro ⟨b, arr, r1, r2, r3, r4, r5, r6⟩
    refine ⟨b, arr, r1, r2, r3, r4, fun i row hi => ⟨(r5 i row hi).1, fun j x hj => ?_⟩, fun i j m hm row x hi hj => ?_⟩
    · obtain ⟨s1, v, s2, s3, s4⟩ := (r5 i row hi).2 j x hj
      exact ⟨s1, v, s2, s3, s4.to s1 him⟩
    · rw [(hρ m (focN_mem.2 ⟨i, j, hm⟩)).sv]
      exact r6 i j m hm row x hi hj
theorem BRel.klB {D : Nat → TI} {w : World} {im : Nat → Prop} {ρ : Env} {n : Nat} {x : Blk} (h : BRel D w im ρ n x) (ks : List Nat) : BRel D w im ρ n (mapBlk (kl ks) x) := by
  cases x with
  | rows e sz rs => exact h
  | deep e sz rs cols foc => exact h.keepF
  | cells cs =>
    obtain ⟨b, arr, T, h1, h2, h3, h5⟩ := h
    refine ⟨b, arr, T, h1, h2, by simpa using h3, fun i x v hx hv => ?_⟩
    rw [List.getElem?_map] at hx
    obtain ⟨z, hz, rfl⟩ := Option.map_eq_some_iff.1 hx
    exact ⟨(h5 i z v hz hv).1, (h5 i z v hz hv).2.kill ks⟩

section
variable {D : Nat → TI} {S N0 : Nat → Prop} {B : Nat} {w0 : W0} {ρ : Env} {σ : AS} {a : Act} {w : World}
/-- names change hands; memory stays -/
theorem St0.rearr (h : St0 D S N0 B w0 ρ σ a w) {ρ' : Env} {ks : List Nat} {nw up : List (Nat × Blk)}
    (hcore : ∀ n, (blk σ n).isSome = true → n ∉ ks → Core (ρ' n) (ρ n)) (hsame : ∀ n, (blk σ n).isSome = true → n ∉ ks → n ∉ keys nw → n ∉ keys up → ρ' n = ρ n) (hnw : ∀ n ∈ keys nw, blk σ n = none)
    (hown : ∀ n y b, get n (nw ++ up) = some y → owns ρ' n y b → ∃ k x, blk σ k = some x ∧ owns ρ k x b ∧ (k ∈ ks ∨ k ∈ keys up))
    (hinj : ∀ n m y z b, get n (nw ++ up) = some y → get m (nw ++ up) = some z → owns ρ' n y b → owns ρ' m z b → n = m)
    (hblk : ∀ im' : Nat → Prop, (∀ b, imOf S N0 B w ρ (blk σ) b → im' b) → (∀ b k x, blk σ k = some x → owns ρ k x b → (k ∈ ks ∨ k ∈ keys up) → (∀ n y, get n (nw ++ up) = some y → ¬ owns ρ' n y b) → im' b) → ∀ n y, get n (nw ++ up) = some y → BRel D w im' ρ' n y)
    (hcl : ∀ n y, get n (nw ++ up) = some y → ∀ m ∈ bnames y, (m ∈ keys nw ∨ (blk σ m).isSome = true) ∧ m ∉ ks)
    (hup : ∀ n ∈ keys up, (blk σ n).isSome = true ∧ n ∉ ks) : St0 D S N0 B w0 ρ' (stepS σ ks nw up) a w := by
  have hb : ∀ n, blk (stepS σ ks nw up) n = match get n (nw ++ up) with | some y => some y | none => if n ∈ ks then none else (blk σ n).map (mapBlk (kl ks)) := fun n => by
    rw [blk_step, get_append]
    cases get n nw with
    | some y => rfl
    | none => rfl
  have hspec : ∀ n, get n (nw ++ up) = none → n ∉ keys nw ∧ n ∉ keys up := fun n hn => by
    rw [get_append] at hn
    cases h1 : get n nw with
    | some y => rw [h1] at hn; cases hn
    | none => rw [h1] at hn; exact ⟨get_none.1 h1, get_none.1 hn⟩
  have hspec' : ∀ n y, get n (nw ++ up) = some y → n ∈ keys nw ∨ n ∈ keys up := fun n y hn => by
    rw [get_append] at hn
    cases h1 : get n nw with
    | some z => exact .inl (mem_keys.2 ⟨z, h1⟩)
    | none => rw [h1] at hn; exact .inr (mem_keys.2 ⟨y, hn⟩)
  -- an ordinary name
  have ord : ∀ n x, get n (nw ++ up) = none → blk (stepS σ ks nw up) n = some x → ∃ y, blk σ n = some y ∧ n ∉ ks ∧ x = mapBlk (kl ks) y ∧ ρ' n = ρ n ∧ ∀ b, owns ρ' n x b → owns ρ n y b := fun n x hn hx => by
    rw [hb, hn] at hx
    simp only at hx
    split at hx
    · cases hx
    · rename_i hk
      obtain ⟨y, hy, rfl⟩ := mapBlk_some hx
      have he := hsame n (by rw [hy]; rfl) hk (hspec n hn).1 (hspec n hn).2
      exact ⟨y, hy, hk, rfl, he, fun b hb => (owns_congr he).1 (owns_map.1 hb)⟩
  have spec : ∀ n x y, get n (nw ++ up) = some y → blk (stepS σ ks nw up) n = some x → x = y := fun n x y hn hx => by
    rw [hb, hn] at hx
    exact (Option.some.inj hx).symm
  have him : ∀ b, imOf S N0 B w ρ (blk σ) b → imOf S N0 B w ρ' (blk (stepS σ ks nw up)) b := by
    rintro b ⟨h1, h2, h3⟩
    refine ⟨h1, h2, fun n x hx hbn => ?_⟩
    cases hg : get n (nw ++ up) with
    | some y =>
      have := spec n x y hg hx
      subst this
      obtain ⟨k, z, q1, q2, _⟩ := hown n x b hg hbn
      exact h3 k z q1 q2
    | none =>
      obtain ⟨y, hy, _, _, _, ho⟩ := ord n x hg hx
      exact h3 n y hy (ho b hbn)
  have himn : ∀ b k x, blk σ k = some x → owns ρ k x b → (k ∈ ks ∨ k ∈ keys up) → (∀ n y, get n (nw ++ up) = some y → ¬ owns ρ' n y b) → imOf S N0 B w ρ' (blk (stepS σ ks nw up)) b := fun b k x hk hkb hsp hno => by
    refine ⟨h.owns_lt hk hkb, .inr (h.own k x b hk hkb), fun n y hy hbn => ?_⟩
    cases hg : get n (nw ++ up) with
    | some z =>
      have := spec n y z hg hy
      subst this
      exact hno n y hg hbn
    | none =>
      obtain ⟨z, hz, hnk, _, _, ho⟩ := ord n y hg hy
      have := h.hp.inj n k b z x hz hk (ho b hbn) hkb
      subst this
      rcases hsp with hsp | hsp
      · exact hnk hsp
      · exact (hspec n hg).2 hsp
  have bnd : ∀ n, (blk σ n).isSome = true → n ∉ ks → (blk (stepS σ ks nw up) n).isSome = true := fun n hn hk => by
    rw [hb]
    split
    · rfl
    · rw [if_neg hk]; simpa using hn
  refine ⟨fun t x hx => ?_, ⟨fun n x hx => ?_, fun n m b x y hx hy hbx hby => ?_, fun n x b hx hbx hi => hi.2.2 n x hx hbx, fun b hb => hb.1, fun n x hx m hm => ?_⟩, h.nt, h.base, h.frm, fun n x b hx hbx => ?_, h.defers⟩
  · obtain ⟨y, hy, hxy⟩ := get_tm_kill σ ks t x hx
    obtain ⟨h1, h2⟩ := h.tm t y hy
    rcases hxy with rfl | ⟨rfl, rfl⟩
    · have hnm : ∀ n ∈ names (kl ks y), (blk σ n).isSome = true ∧ n ∉ ks := fun n hn => ⟨h2 n (names_kl ks y n hn).1, (names_kl ks y n hn).2⟩
      exact ⟨(h1.kill ks).core him fun n hn => hcore n (hnm n hn).1 (hnm n hn).2, fun n hn => bnd n (hnm n hn).1 (hnm n hn).2⟩
    · exact ⟨h1.core him fun n hn => hcore n (h2 n hn) (by simp), fun n hn => bnd n (h2 n hn) (by simp)⟩
  · cases hg : get n (nw ++ up) with
    | some y =>
      have := spec n x y hg hx
      subst this
      exact hblk _ him himn n x hg
    | none =>
      obtain ⟨y, hy, hnk, rfl, he, _⟩ := ord n x hg hx
      refine ((h.hp.blk n y hy).klB ks).core he him fun m hm => ?_
      obtain ⟨q1, q2⟩ := bnames_kl hm
      exact hcore m (h.hp.clos n y hy m q1) q2
  · cases hg : get n (nw ++ up) with
    | some x' =>
      have := spec n x x' hg hx
      subst this
      cases hg' : get m (nw ++ up) with
      | some y' =>
        have := spec m y y' hg' hy
        subst this
        exact hinj n m x y b hg hg' hbx hby
      | none =>
        exfalso
        obtain ⟨y', hy', hmk, _, _, ho⟩ := ord m y hg' hy
        obtain ⟨k, z, q1, q2, q3⟩ := hown n x b hg hbx
        have := h.hp.inj m k b y' z hy' q1 (ho b hby) q2
        subst this
        rcases q3 with q3 | q3
        · exact hmk q3
        · exact (hspec m hg').2 q3
    | none =>
      obtain ⟨x', hx', hnk, _, _, ho⟩ := ord n x hg hx
      cases hg' : get m (nw ++ up) with
      | some y' =>
        exfalso
        have := spec m y y' hg' hy
        subst this
        obtain ⟨k, z, q1, q2, q3⟩ := hown m y b hg' hby
        have := h.hp.inj n k b x' z hx' q1 (ho b hbx) q2
        subst this
        rcases q3 with q3 | q3
        · exact hnk q3
        · exact (hspec n hg).2 q3
      | none =>
        obtain ⟨y', hy', _, _, _, ho'⟩ := ord m y hg' hy
        exact h.hp.inj n m b x' y' hx' hy' (ho b hbx) (ho' b hby)
  · cases hg : get n (nw ++ up) with
    | some y =>
      have := spec n x y hg hx
      subst this
      obtain ⟨q1, q2⟩ := hcl n x hg m hm
      rcases q1 with q1 | q1
      · obtain ⟨z, hz⟩ := mem_keys.1 q1
        rw [hb, get_append, hz]
        rfl
      · exact bnd m q1 q2
    | none =>
      obtain ⟨y, hy, _, rfl, _, _⟩ := ord n x hg hx
      obtain ⟨q1, q2⟩ := bnames_kl hm
      exact bnd m (h.hp.clos n y hy m q1) q2
  · cases hg : get n (nw ++ up) with
    | some y =>
      have := spec n x y hg hx
      subst this
      obtain ⟨k, z, q1, q2, _⟩ := hown n x b hg hbx
      exact h.own k z b q1 q2
    | none =>
      obtain ⟨y, hy, _, _, _, ho⟩ := ord n x hg hx
      exact h.own n y b hy (ho b hbx)
end
end Go.Proofs.Ythbejciebmkclaa.Ab
namespace Go.Proofs.Ythbejciebmkclaa.Ab
open Go
set_option linter.unusedVariables false
set_option linter.unusedSimpArgs false

/-- rows that are only read in their cells from then on -/
theorem Wk.flat {X : Cx} {σ : AS} (t : Nat) {e sz : Nat} {rs : List (List AV)} {cols foc : List (Nat × Nat × Nat)} (hb : blk σ t = some (.deep e sz rs cols foc)) : Wk X σ (stepS σ [] [] [(t, .rows e sz rs)]) := by
  intro γ a w ⟨ρ, hs⟩
  have hB := hs.hp.blk t _ hb
  obtain ⟨h1, h2, h2', h0, hI, A, c, h3, h4, h5, h6⟩ := hB
  have hget : ∀ n y, get n ([] ++ [(t, Blk.rows e sz rs)]) = some y → n = t ∧ y = .rows e sz rs := fun n y h => by
    simp only [List.nil_append, get] at h
    split at h
    · rename_i q; cases h; exact ⟨q.symm, rfl⟩
    · cases h
  refine ⟨ρ, hs.rearr (fun n _ _ => Core.refl) (fun n _ _ _ _ => rfl) (fun n hn => by simp [keys] at hn) (fun n y b' hy hbn => ?_) (fun n k y z b' hy hz _ _ => ?_) (fun im' him himn n y hy => ?_) (fun n y hy k hk => ?_) (fun n hn => by simp [keys] at hn; subst hn; exact ⟨by rw [hb]; rfl, by simp⟩)⟩
  · obtain ⟨rfl, rfl⟩ := hget n y hy
    exact ⟨n, _, hb, .inl hbn, .inr (by simp [keys])⟩
  · rw [(hget n y hy).1, (hget k z hz).1]
  · obtain ⟨rfl, rfl⟩ := hget n y hy
    refine ⟨h1, h2, h2', A, c, h3, h4, h5, ?_⟩
    refine h6.imp id ?_
    rintro ⟨b, arr, hb1, hA, hh, hsz, hr, hf⟩
    refine ⟨b, arr, hb1, hA, hh, hsz, fun i row hi => ⟨(hr i row hi).1, fun j x hj => ?_⟩⟩
    obtain ⟨s1, u, s2, s3, s4⟩ := (hr i row hi).2 j x hj
    refine ⟨s1, u, s2, s3, ?_⟩
    have key : ∀ {col : Option (Nat × Nat)}, CellD X.D w (imOf X.S X.N0 X.B w ρ (blk σ)) ρ ((ρ n).h (i * sz + j)) col x u → Rel w im' ρ x u := fun {col} s4 => by
      unfold CellD at s4
      split at s4
      · obtain ⟨rfl, i0, q1, q2, q3⟩ := s4
        have q4 : RowsNI X.D w im' ρ i0 _ _ _ := q3.to ⟨rfl, rfl, rfl⟩ him
        rw [← q2]
        refine q4.rel fun b' hb' => himn b' n _ hb (.inr ⟨i * sz + j, by rw [← q1]; exact hb'⟩) (.inr (by simp [keys])) fun n' y' hy' ho => ?_
        obtain ⟨rfl, rfl⟩ := hget n' y' hy'
        exact (h0.1 (i * sz + j) b' (by rw [← q1]; exact hb')).1 ho
      · exact s4.mono him (fun _ _ => rfl) (fun m hm => absurd hm (by rw [s1]; simp))
    exact key s4
  · obtain ⟨rfl, rfl⟩ := hget n y hy
    cases hk
attribute [go_sem] stepS
end Go.Proofs.Ythbejciebmkclaa.Ab
namespace Go.Proofs.Ythbejciebmkclaa.Ab
open Go Go.RowKit
set_option linter.unusedVariables false
set_option linter.unusedSimpArgs false

end Go.Proofs.Ythbejciebmkclaa.Ab
namespace Go.Proofs.Ythbejciebmkclaa.Ab
open Go Go.RowKit
set_option linter.unusedVariables false
set_option linter.unusedSimpArgs false

end Go.Proofs.Ythbejciebmkclaa.Ab
