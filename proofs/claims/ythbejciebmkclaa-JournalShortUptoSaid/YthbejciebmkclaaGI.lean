/-
  Texts of the proof, one behind the other: HaR HaT HaU HaV HaW HaX Dp Dq HaY HaZ.
  No condition but those that each theorem names.
-/
import Derived.Test.YthbejciebmkclaaGH
import Derived.Test.YthbejciebmkclaaGC
import Derived.Test.YthbejciebmkclaaGR
namespace Go.Proofs.Ythbejciebmkclaa.Ab
open Go Go.RowKit
set_option linter.unusedVariables false
set_option linter.unusedSimpArgs false

end Go.Proofs.Ythbejciebmkclaa.Ab
namespace Go.Proofs.Ythbejciebmkclaa.Ab
open Go Go.RowKit
set_option linter.unusedVariables false
set_option linter.unusedSimpArgs false

end Go.Proofs.Ythbejciebmkclaa.Ab
namespace Go.Proofs.Ythbejciebmkclaa.Ab
open Go Go.RowKit
set_option linter.unusedVariables false
set_option linter.unusedSimpArgs false

end Go.Proofs.Ythbejciebmkclaa.Ab
namespace Go.Proofs.Ythbejciebmkclaa.Ab
open Go Go.RowKit
set_option linter.unusedVariables false
set_option linter.unusedSimpArgs false

end Go.Proofs.Ythbejciebmkclaa.Ab
namespace Go.Proofs.Ythbejciebmkclaa.Ab
open Go Go.RowKit
set_option linter.unusedVariables false
set_option linter.unusedSimpArgs false

end Go.Proofs.Ythbejciebmkclaa.Ab
namespace Go.Proofs.Ythbejciebmkclaa.Ab
open Go Go.RowKit
set_option linter.unusedVariables false
set_option linter.unusedSimpArgs false

set_option maxRecDepth 100000 in
theorem con_samehall (h : LHall) (hh : h.Fits) : Con Try.prog D 15 [hallA h, hallA h] ⟨.bool true, []⟩ := by
  have hok : GOk Try.prog D (tabG [eSameq]) := tabG_ok _
  have g1 := fun (i : LQueue) (h : i.Fits) => tabG_use (T := [eSameq]) (E := eSameq) (i := 0) rfl (by decide) (i) (h)
  generalize tabG [eSameq] = G at *
  dsimp only [eSameq] at g1
  have hl := hh.1
  have hfq := fun i hi => queue_fits (i := i) hh hi
  obtain ⟨l, next⟩ := h
  simp only at hl hfq
  refine conW (G := G) (rs := [(4, none)]) hok Try.func15 Try.results15 Try.ntmps15 (fun _ => {}) fun X hP hD hG' hX => ?_
  simp only [argS, num, hallA]
  simp (disch := omega) only [go_sem, Nat.reduceLeDiff, reduceCtorEq, Nat.reduceAdd, Nat.reduceSub, Nat.reduceMul, Nat.reduceLT, Nat.reduceEqDiff, Int.reduceEq, Int.reduceLE, Int.reduceLT, Int.reducePow, Int.reduceMul, Int.reduceToNat, Int.reduceNeg, ↓reduceIte, hD, hG', wrap64, unbox, tmv, Option.some.injEq, exists_eq_left']
  refine RegT.mk [] ?_
  simp (disch := omega) only [go_sem, Nat.reduceLeDiff, reduceCtorEq, Nat.reduceAdd, Nat.reduceSub, Nat.reduceMul, Nat.reduceLT, Nat.reduceEqDiff, Int.reduceEq, Int.reduceLE, Int.reduceLT, Int.reducePow, Int.reduceMul, Int.reduceToNat, Int.reduceNeg, ↓reduceIte, hD, hG', wrap64, unbox, tmv, Option.some.injEq, exists_eq_left']
  and_intros
  all_goals (try (first | (intro hk; refine ⟨hk, fun h2 => ?_⟩; first | (rw [hk, h2]; rfl) | (rw [hk, decide_eq_false h2]; rfl)) | (intro hk; rw [decide_eq_false hk]; rfl) | (intro hk; rw [hk]; rfl)))
  refine Tr.loop (ι := Nat) (fun i => i ≤ l.length) (fun i => { nt := 39, tm := [(2, .ptr 2 0), (3, .ptr 3 0), (22, .int .i64 l.length), (23, .int .i64 i)], bl := [(2, some (.cells [.sl 3 (l.map queueRow), .int .i64 next])), (3, some (.cells [.sl 3 (l.map queueRow), .int .i64 next]))] }) (fun i => l.length - i) 0
    ⟨Nat.zero_le _, wk_of hD [(2, 2), (3, 3)] rfl rfl (by simp only [go_sem, Nat.reduceEqDiff]; simp) (by simp only [go_sem, Nat.reduceEqDiff])⟩ ?_
  intro i hi
  refine evC_sound hX (fun _ => {}) _ _ _ ?_
  simp (disch := omega) only [go_sem, Nat.reduceLeDiff, reduceCtorEq, Nat.reduceAdd, Nat.reduceSub, Nat.reduceMul, Nat.reduceLT, Nat.reduceEqDiff, Int.reduceEq, Int.reduceLE, Int.reduceLT, Int.reducePow, Int.reduceMul, Int.reduceToNat, Int.reduceNeg, ↓reduceIte, hD, hG', wrap64, unbox, tmv, Option.some.injEq, exists_eq_left']
  refine condK_split (fun h => ?_) (fun h => ?_)
  · rw [decide_eq_true_eq] at h
    have hi1 : i < l.length := by omega
    have hgx := queueGet hi1
    have g1 := g1 _ (hfq i hi1).1
    generalize l.getD i queue0 = x at *
    obtain ⟨a1, a2, a3⟩ := x
    simp only [queueRow] at hgx
    simp only [queueA] at g1
    simp (disch := omega) only [go_sem, Nat.reduceLeDiff, reduceCtorEq, Nat.reduceAdd, Nat.reduceSub, Nat.reduceMul, Nat.reduceLT, Nat.reduceEqDiff, Int.reduceEq, Int.reduceLE, Int.reduceLT, Int.reducePow, Int.reduceMul, Int.reduceToNat, Int.reduceNeg, ↓reduceIte, hD, hG', wrap64, hgx, g1, unbox, tmv, Option.some.injEq, exists_eq_left']
    refine ⟨by decide, by omega, by omega, i + 1, ⟨by omega, by omega⟩, wk_of hD [(2, 2), (3, 3)] rfl rfl ?_ ?_⟩ <;> simp only [go_sem, Nat.reduceEqDiff]
    simp
  · simp (disch := omega) only [go_sem, Nat.reduceLeDiff, reduceCtorEq, Nat.reduceAdd, Nat.reduceSub, Nat.reduceMul, Nat.reduceLT, Nat.reduceEqDiff, Int.reduceEq, Int.reduceLE, Int.reduceLT, Int.reducePow, Int.reduceMul, Int.reduceToNat, Int.reduceNeg, ↓reduceIte, hD, hG', wrap64, unbox, tmv, Option.some.injEq, exists_eq_left']
    refine endW [] [] (by simp) rfl rfl rfl ?_ ?_ <;> simp only [go_sem, Nat.reduceEqDiff]
def eSamehall : Ent Try.prog D := ⟨15, LHall, fun i => [hallA i, hallA i], LHall.Fits, fun i => ⟨.bool true, []⟩, fun x y _ _ h => rfl, fun x h => con_samehall x h⟩
theorem entryGet {l : List LEntry} {i : Nat} (h : i < l.length) : (l.map entryRow).getD i [] = entryRow (l.getD i entry0) := by
  simp [h]
end Go.Proofs.Ythbejciebmkclaa.Ab
namespace Go.Proofs.Ythbejciebmkclaa.Ab
open Go
set_option linter.unusedVariables false
set_option linter.unusedSimpArgs false

/-- the same but for the blocks of cells -/
def Core (i j : NI) : Prop := i.b = j.b ∧ i.A = j.A ∧ i.n = j.n ∧ i.c = j.c ∧ i.sz = j.sz
theorem Core.refl {i : NI} : Core i i := ⟨rfl, rfl, rfl, rfl, rfl⟩
theorem Core.of_eq {i j : NI} (h : i = j) : Core i j := h ▸ Core.refl
theorem Core.sv {i j : NI} (h : Core i j) : i.sv = j.sv := by
  obtain ⟨_, h2, h3, h4, _⟩ := h
  simp only [NI.sv, h2, h3, h4]
theorem Rel.core {w : World} {im im' : Nat → Prop} {ρ ρ' : Env} {x : AV} {v : Value} (h : Rel w im ρ x v) (him : ∀ b, im b → im' b) (hρ : ∀ n, n ∈ names x → Core (ρ' n) (ρ n)) : Rel w im' ρ' x v := by
  induction h with
  | junk v => exact .junk v
  | int k n => exact .int k n
  | bool b => exact .bool b
  | str l => exact .str l
  | nils => exact .nils
  | sl sz rs A c b o val hc hm hA hrow hcell hval ih =>
    exact .sl sz rs A c b o val hc hm (fun h => ⟨(hA h).1, him _ (hA h).2⟩) hrow hcell (fun i j row x h1 h2 => ih i j row x h1 h2 (fun n hn => by rw [(hcell i j row x h1 h2).2.2] at hn; cases hn))
  | os t => rw [← (hρ t (by simp [names])).sv]; exact .os t
  | ptr v off b h => exact .ptr v off b (by rw [(hρ v (by simp [names])).1]; exact h)
  | iptr cs b o val hb hcell hval ih => exact .iptr cs b o val (him _ hb) hcell (fun j x h1 => ih j x h1 (fun n hn => by rw [(hcell j x h1).2.2] at hn; cases hn))
  | eptr t i off b h =>
    have := hρ t (by simp [names])
    rw [← this.2.2.2.2]
    exact .eptr t i off b (by rw [this.1]; exact h)
  | lsl n A c hc hm => exact .lsl n A c hc hm
  | imap es b c arr hb ho he => exact .imap es b c arr (him _ hb) ho he
  | nilp => exact .nilp
  | tsl t i b A' h hA =>
    have := hρ t (by simp [names])
    rw [← this.2.2.1, ← this.2.2.2.1]
    exact .tsl t i b A' (by rw [this.1]; exact h) (by rw [this.2.2.1, this.2.2.2.2]; exact hA)
  | func f cs vs hl hval ih => exact .func f cs vs hl fun i x v h1 h2 => ih i x v h1 h2 fun n hn => hρ n (by rw [names]; exact mem_namess h1 hn)
  | agg cs vs hl h1 hval ih => exact .agg cs vs hl h1 fun i x v h1 h2 => ih i x v h1 h2 fun n hn => hρ n (by rw [names]; exact mem_namess h1 hn)
  | tup cs vs hl hval ih => exact .tup cs vs hl fun i x v h1 h2 => ih i x v h1 h2 fun n hn => hρ n (by rw [names]; exact mem_namess h1 hn)
  | opt g x v h1 h2 ih => exact .opt g x v (fun hg => ih hg fun n hn => hρ n (by rw [names]; exact hn)) h2
theorem RowsNI.to {D : Nat → TI} {w : World} {im im' : Nat → Prop} {ρ ρ' : Env} {i i' : NI} {e sz : Nat} {rs : List (List AV)} (h : RowsNI D w im ρ i e sz rs) (hi : i'.sz = i.sz ∧ i'.sv = i.sv ∧ i'.b = i.b) (him : ∀ b, im b → im' b) : RowsNI D w im' ρ' i' e sz rs := by
  obtain ⟨h1, h2, h2', A, c, h3, h4, h5, h6⟩ := h
  refine ⟨hi.1.trans h1, h2, h2', A, c, hi.2.1.trans h3, h4, h5, ?_⟩
  rw [hi.2.2]
  rcases h6 with ⟨e1, e0, e2, e3⟩ | ⟨b, arr, hb1, hA, hh, hsz, hr⟩
  · exact .inl ⟨e1, e0, e2, e3⟩
  · refine .inr ⟨b, arr, hb1, hA, hh, hsz, fun i row hi => ⟨(hr i row hi).1, fun j x hj => ?_⟩⟩
    obtain ⟨hn', v, hv, h1v, hrel⟩ := (hr i row hi).2 j x hj
    exact ⟨hn', v, hv, h1v, hrel.mono him (fun _ _ => rfl) (fun m hm => by rw [hn'] at hm; cases hm)⟩
/-- such a cell, read alone -/
theorem RowsNI.rel {D : Nat → TI} {w : World} {im : Nat → Prop} {ρ : Env} {i : NI} {e sz : Nat} {rs : List (List AV)} (h : RowsNI D w im ρ i e sz rs) (hb : ∀ b, i.b = some b → im b) : Rel w im ρ (.sl sz rs) i.sv := by
  have h' : BRel D w im (fun _ => i) 0 (.rows e sz rs) := h.to ⟨rfl, rfl, rfl⟩ fun _ h => h
  exact (Rel.plain h' (fun _ h => h) hb).mono (fun _ h => h) (fun _ _ => rfl) (fun n hn => by simp [names] at hn)
theorem CellD.to {D : Nat → TI} {w : World} {im im' : Nat → Prop} {ρ ρ' : Env} {hb : Option Nat} {col : Option (Nat × Nat)} {x : AV} {v : Value} (h : CellD D w im ρ hb col x v) (hn : names x = []) (him : ∀ b, im b → im' b) : CellD D w im' ρ' hb col x v :=
  h.mono hn (fun _ _ => rfl) him (fun _ _ => rfl)
theorem BRel.core {D : Nat → TI} {w : World} {im im' : Nat → Prop} {ρ ρ' : Env} {n : Nat} {x : Blk} (h : BRel D w im ρ n x) (hn : ρ' n = ρ n) (him : ∀ b, im b → im' b) (hρ : ∀ m ∈ bnames x, Core (ρ' m) (ρ m)) : BRel D w im' ρ' n x := by
  cases x with
  | cells cs =>
    obtain ⟨b, arr, T, h1, h2, h3, h5⟩ := h
    exact ⟨b, arr, T, by rw [hn]; exact h1, h2, h3, fun i x v hx hv => ⟨(h5 i x v hx hv).1, (h5 i x v hx hv).2.core him fun m hm => hρ m (mem_namess hx hm)⟩⟩
  | rows e sz rs =>
    have h' : RowsNI D w im ρ (ρ n) e sz rs := h
    exact h'.to (by rw [hn]; exact ⟨rfl, rfl, rfl⟩) him
  | deep e sz rs cols foc =>
    obtain ⟨h1, h2, h2', h0, hI, A, c, h3, h4, h5, h6⟩ := h
    refine ⟨by rw [hn]; exact h1, h2, h2', by rw [hn]; exact h0, hI, A, c, by rw [hn]; exact h3, h4, h5, ?_⟩
    rw [hn]
    refine h6.imp id ?_
    rintro ⟨b, arr, r1, r2, r3, r4, r5, r6⟩
    refine ⟨b, arr, r1, r2, r3, r4, fun i row hi => ⟨(r5 i row hi).1, fun j x hj => ?_⟩, fun i j m hm row x hi hj => ?_⟩
    · obtain ⟨s1, v, s2, s3, s4⟩ := (r5 i row hi).2 j x hj
      exact ⟨s1, v, s2, s3, s4.to s1 him⟩
    · rw [(hρ m (focN_mem.2 ⟨i, j, hm⟩)).sv]
      exact r6 i j m hm row x hi hj
theorem BRel.klB {D : Nat → TI} {w : World} {im : Nat → Prop} {ρ : Env} {n : Nat} {x : Blk} (h : BRel D w im ρ n x) (ks : List Nat) : BRel D w im ρ n (mapBlk (kl ks) x) := by
  cases x with
  | rows e sz rs => exact h
  | deep e sz rs cols foc => exact h.keepF
  | cells cs =>
    obtain ⟨b, arr, T, h1, h2, h3, h5⟩ := h
    refine ⟨b, arr, T, h1, h2, by simpa using h3, fun i x v hx hv => ?_⟩
    rw [List.getElem?_map] at hx
    obtain ⟨z, hz, rfl⟩ := Option.map_eq_some_iff.1 hx
    exact ⟨(h5 i z v hz hv).1, (h5 i z v hz hv).2.kill ks⟩

section
variable {D : Nat → TI} {S N0 : Nat → Prop} {B : Nat} {w0 : W0} {ρ : Env} {σ : AS} {a : Act} {w : World}
/-- names change hands; memory stays -/
theorem St0.rearr (h : St0 D S N0 B w0 ρ σ a w) {ρ' : Env} {ks : List Nat} {nw up : List (Nat × Blk)}
    (hcore : ∀ n, (blk σ n).isSome = true → n ∉ ks → Core (ρ' n) (ρ n)) (hsame : ∀ n, (blk σ n).isSome = true → n ∉ ks → n ∉ keys nw → n ∉ keys up → ρ' n = ρ n) (hnw : ∀ n ∈ keys nw, blk σ n = none)
    (hown : ∀ n y b, get n (nw ++ up) = some y → owns ρ' n y b → ∃ k x, blk σ k = some x ∧ owns ρ k x b ∧ (k ∈ ks ∨ k ∈ keys up))
    (hinj : ∀ n m y z b, get n (nw ++ up) = some y → get m (nw ++ up) = some z → owns ρ' n y b → owns ρ' m z b → n = m)
    (hblk : ∀ im' : Nat → Prop, (∀ b, imOf S N0 B w ρ (blk σ) b → im' b) → (∀ b k x, blk σ k = some x → owns ρ k x b → (k ∈ ks ∨ k ∈ keys up) → (∀ n y, get n (nw ++ up) = some y → ¬ owns ρ' n y b) → im' b) → ∀ n y, get n (nw ++ up) = some y → BRel D w im' ρ' n y)
    (hcl : ∀ n y, get n (nw ++ up) = some y → ∀ m ∈ bnames y, (m ∈ keys nw ∨ (blk σ m).isSome = true) ∧ m ∉ ks)
    (hup : ∀ n ∈ keys up, (blk σ n).isSome = true ∧ n ∉ ks) : St0 D S N0 B w0 ρ' (stepS σ ks nw up) a w := by
  have hb : ∀ n, blk (stepS σ ks nw up) n = match get n (nw ++ up) with | some y => some y | none => if n ∈ ks then none else (blk σ n).map (mapBlk (kl ks)) := fun n => by
    rw [blk_step, get_append]
    cases get n nw with
    | some y => rfl
    | none => rfl
  have hspec : ∀ n, get n (nw ++ up) = none → n ∉ keys nw ∧ n ∉ keys up := fun n hn => by
    rw [get_append] at hn
    cases h1 : get n nw with
    | some y => rw [h1] at hn; cases hn
    | none => rw [h1] at hn; exact ⟨get_none.1 h1, get_none.1 hn⟩
  have hspec' : ∀ n y, get n (nw ++ up) = some y → n ∈ keys nw ∨ n ∈ keys up := fun n y hn => by
    rw [get_append] at hn
    cases h1 : get n nw with
    | some z => exact .inl (mem_keys.2 ⟨z, h1⟩)
    | none => rw [h1] at hn; exact .inr (mem_keys.2 ⟨y, hn⟩)
  -- an ordinary name
  have ord : ∀ n x, get n (nw ++ up) = none → blk (stepS σ ks nw up) n = some x → ∃ y, blk σ n = some y ∧ n ∉ ks ∧ x = mapBlk (kl ks) y ∧ ρ' n = ρ n ∧ ∀ b, owns ρ' n x b → owns ρ n y b := fun n x hn hx => by
    rw [hb, hn] at hx
    simp only at hx
    split at hx
    · cases hx
    · rename_i hk
      obtain ⟨y, hy, rfl⟩ := mapBlk_some hx
      have he := hsame n (by rw [hy]; rfl) hk (hspec n hn).1 (hspec n hn).2
      exact ⟨y, hy, hk, rfl, he, fun b hb => (owns_congr he).1 (owns_map.1 hb)⟩
  have spec : ∀ n x y, get n (nw ++ up) = some y → blk (stepS σ ks nw up) n = some x → x = y := fun n x y hn hx => by
    rw [hb, hn] at hx
    exact (Option.some.inj hx).symm
  have him : ∀ b, imOf S N0 B w ρ (blk σ) b → imOf S N0 B w ρ' (blk (stepS σ ks nw up)) b := by
    rintro b ⟨h1, h2, h3⟩
    refine ⟨h1, h2, fun n x hx hbn => ?_⟩
    cases hg : get n (nw ++ up) with
    | some y =>
      have := spec n x y hg hx
      subst this
      obtain ⟨k, z, q1, q2, _⟩ := hown n x b hg hbn
      exact h3 k z q1 q2
    | none =>
      obtain ⟨y, hy, _, _, _, ho⟩ := ord n x hg hx
      exact h3 n y hy (ho b hbn)
  have himn : ∀ b k x, blk σ k = some x → owns ρ k x b → (k ∈ ks ∨ k ∈ keys up) → (∀ n y, get n (nw ++ up) = some y → ¬ owns ρ' n y b) → imOf S N0 B w ρ' (blk (stepS σ ks nw up)) b := fun b k x hk hkb hsp hno => by
    refine ⟨h.owns_lt hk hkb, .inr (h.own k x b hk hkb), fun n y hy hbn => ?_⟩
    cases hg : get n (nw ++ up) with
    | some z =>
      have := spec n y z hg hy
      subst this
      exact hno n y hg hbn
    | none =>
      obtain ⟨z, hz, hnk, _, _, ho⟩ := ord n y hg hy
      have := h.hp.inj n k b z x hz hk (ho b hbn) hkb
      subst this
      rcases hsp with hsp | hsp
      · exact hnk hsp
      · exact (hspec n hg).2 hsp
  have bnd : ∀ n, (blk σ n).isSome = true → n ∉ ks → (blk (stepS σ ks nw up) n).isSome = true := fun n hn hk => by
    rw [hb]
    split
    · rfl
    · rw [if_neg hk]; simpa using hn
  refine ⟨fun t x hx => ?_, ⟨fun n x hx => ?_, fun n m b x y hx hy hbx hby => ?_, fun n x b hx hbx hi => hi.2.2 n x hx hbx, fun b hb => hb.1, fun n x hx m hm => ?_⟩, h.nt, h.base, h.frm, fun n x b hx hbx => ?_, h.defers⟩
  · obtain ⟨y, hy, hxy⟩ := get_tm_kill σ ks t x hx
    obtain ⟨h1, h2⟩ := h.tm t y hy
    rcases hxy with rfl | ⟨rfl, rfl⟩
    · have hnm : ∀ n ∈ names (kl ks y), (blk σ n).isSome = true ∧ n ∉ ks := fun n hn => ⟨h2 n (names_kl ks y n hn).1, (names_kl ks y n hn).2⟩
      exact ⟨(h1.kill ks).core him fun n hn => hcore n (hnm n hn).1 (hnm n hn).2, fun n hn => bnd n (hnm n hn).1 (hnm n hn).2⟩
    · exact ⟨h1.core him fun n hn => hcore n (h2 n hn) (by simp), fun n hn => bnd n (h2 n hn) (by simp)⟩
  · cases hg : get n (nw ++ up) with
    | some y =>
      have := spec n x y hg hx
      subst this
      exact hblk _ him himn n x hg
    | none =>
      obtain ⟨y, hy, hnk, rfl, he, _⟩ := ord n x hg hx
      refine ((h.hp.blk n y hy).klB ks).core he him fun m hm => ?_
      obtain ⟨q1, q2⟩ := bnames_kl hm
      exact hcore m (h.hp.clos n y hy m q1) q2
  · cases hg : get n (nw ++ up) with
    | some x' =>
      have := spec n x x' hg hx
      subst this
      cases hg' : get m (nw ++ up) with
      | some y' =>
        have := spec m y y' hg' hy
        subst this
        exact hinj n m x y b hg hg' hbx hby
      | none =>
        exfalso
        obtain ⟨y', hy', hmk, _, _, ho⟩ := ord m y hg' hy
        obtain ⟨k, z, q1, q2, q3⟩ := hown n x b hg hbx
        have := h.hp.inj m k b y' z hy' q1 (ho b hby) q2
        subst this
        rcases q3 with q3 | q3
        · exact hmk q3
        · exact (hspec m hg').2 q3
    | none =>
      obtain ⟨x', hx', hnk, _, _, ho⟩ := ord n x hg hx
      cases hg' : get m (nw ++ up) with
      | some y' =>
        exfalso
        have := spec m y y' hg' hy
        subst this
        obtain ⟨k, z, q1, q2, q3⟩ := hown m y b hg' hby
        have := h.hp.inj n k b x' z hx' q1 (ho b hbx) q2
        subst this
        rcases q3 with q3 | q3
        · exact hnk q3
        · exact (hspec n hg).2 q3
      | none =>
        obtain ⟨y', hy', _, _, _, ho'⟩ := ord m y hg' hy
        exact h.hp.inj n m b x' y' hx' hy' (ho b hbx) (ho' b hby)
  · cases hg : get n (nw ++ up) with
    | some y =>
      have := spec n x y hg hx
      subst this
      obtain ⟨q1, q2⟩ := hcl n x hg m hm
      rcases q1 with q1 | q1
      · obtain ⟨z, hz⟩ := mem_keys.1 q1
        rw [hb, get_append, hz]
        rfl
      · exact bnd m q1 q2
    | none =>
      obtain ⟨y, hy, _, rfl, _, _⟩ := ord n x hg hx
      obtain ⟨q1, q2⟩ := bnames_kl hm
      exact bnd m (h.hp.clos n y hy m q1) q2
  · cases hg : get n (nw ++ up) with
    | some y =>
      have := spec n x y hg hx
      subst this
      obtain ⟨k, z, q1, q2, _⟩ := hown n x b hg hbx
      exact h.own k z b q1 q2
    | none =>
      obtain ⟨y, hy, _, _, _, ho⟩ := ord n x hg hx
      exact h.own n y b hy (ho b hbx)
end
end Go.Proofs.Ythbejciebmkclaa.Ab
namespace Go.Proofs.Ythbejciebmkclaa.Ab
open Go
set_option linter.unusedVariables false
set_option linter.unusedSimpArgs false

/-- a cell among rows -/
theorem cell_at {pre post : List (List AV)} {rp rq : List AV} {x y : AV} {i : Nat} {row' : List AV} (h : (pre ++ (rp ++ y :: rq) :: post)[i]? = some row') :
    ∃ row, (pre ++ (rp ++ x :: rq) :: post)[i]? = some row ∧ row.length = row'.length ∧ ∀ (j : Nat) z', row'[j]? = some z' → ∃ z, row[j]? = some z ∧ ((i = pre.length ∧ j = rp.length ∧ z' = y ∧ z = x) ∨ (¬ (i = pre.length ∧ j = rp.length) ∧ z' = z)) := by
  rcases Nat.lt_trichotomy i pre.length with hlt | rfl | hgt
  · rw [List.getElem?_append_left hlt] at h
    refine ⟨row', by rw [List.getElem?_append_left hlt]; exact h, rfl, fun j z' hj => ⟨z', hj, .inr ⟨by omega, rfl⟩⟩⟩
  · rw [List.getElem?_append_right (Nat.le_refl _), Nat.sub_self] at h
    simp only [List.getElem?_cons_zero, Option.some.injEq] at h
    subst h
    refine ⟨rp ++ x :: rq, by rw [List.getElem?_append_right (Nat.le_refl _), Nat.sub_self]; rfl, by simp, fun j z' hj => ?_⟩
    rcases Nat.lt_trichotomy j rp.length with hl | rfl | hg
    · rw [List.getElem?_append_left hl] at hj
      exact ⟨z', by rw [List.getElem?_append_left hl]; exact hj, .inr ⟨by omega, rfl⟩⟩
    · rw [List.getElem?_append_right (Nat.le_refl _), Nat.sub_self] at hj
      simp only [List.getElem?_cons_zero, Option.some.injEq] at hj
      exact ⟨x, by rw [List.getElem?_append_right (Nat.le_refl _), Nat.sub_self]; rfl, .inl ⟨rfl, rfl, hj.symm, rfl⟩⟩
    · obtain ⟨k, hk⟩ : ∃ k, j - rp.length = k + 1 := ⟨j - rp.length - 1, by omega⟩
      rw [List.getElem?_append_right (by omega), hk, List.getElem?_cons_succ] at hj
      exact ⟨z', by rw [List.getElem?_append_right (by omega), hk, List.getElem?_cons_succ]; exact hj, .inr ⟨by omega, rfl⟩⟩
  · obtain ⟨k, hk⟩ : ∃ k, i - pre.length = k + 1 := ⟨i - pre.length - 1, by omega⟩
    rw [List.getElem?_append_right (by omega), hk, List.getElem?_cons_succ] at h
    exact ⟨row', by rw [List.getElem?_append_right (by omega), hk, List.getElem?_cons_succ]; exact h, rfl, fun j z' hj => ⟨z', hj, .inr ⟨by omega, rfl⟩⟩⟩
theorem here_at {pre post : List (List AV)} {row : List AV} : (pre ++ row :: post)[pre.length]? = some row := by
  rw [List.getElem?_append_right (Nat.le_refl _), Nat.sub_self]; rfl
theorem here_at1 {rp rq : List AV} {x : AV} : (rp ++ x :: rq)[rp.length]? = some x := by
  rw [List.getElem?_append_right (Nat.le_refl _), Nat.sub_self]; rfl
theorem place_ne {P J i j sz : Nat} (hJ : J < sz) (hj : j < sz) (h : ¬ (i = P ∧ j = J)) : i * sz + j ≠ P * sz + J := by
  intro e
  by_cases hi : i = P
  · subst hi; exact h ⟨rfl, by omega⟩
  · exact idx_ne (off := J) (n := 1) hi hj hJ ⟨by omega, by omega⟩

/-- a cell gets a name -/
theorem Wk.focus {X : Cx} {σ : AS} (t m : Nat) {e sz e' s : Nat} {pre post : List (List AV)} {rp rq : List AV} {rs' rs : List (List AV)} {cols foc : List (Nat × Nat × Nat)} (hb : blk σ t = some (.deep e sz rs cols foc))
    (hrs : rs = pre ++ (rp ++ .sl s rs' :: rq) :: post) (hcol : colAt cols rp.length = some (e', s)) (hm : blk σ m = none) :
    Wk X σ (stepS σ [] [(m, .rows e' s rs')] [(t, .deep e sz (pre ++ (rp ++ .junk :: rq) :: post) cols ((pre.length, rp.length, m) :: foc))]) := by
  subst hrs
  intro γ a w ⟨ρ, hs⟩
  have htm : t ≠ m := by rintro rfl; rw [hm] at hb; cases hb
  have hB := hs.hp.blk t _ hb
  have hclos := hs.hp.clos t _ hb
  obtain ⟨h1, h2, h2', h0, hI, A, c, h3, h4, h5, h6⟩ := hB
  rcases h6 with ⟨h6, _⟩ | ⟨b, arr, hb1, hA, hh, hsz, hr, hf⟩
  · simp at h6
  obtain ⟨hl, hcells⟩ := hr pre.length _ here_at
  have hJ : rp.length < sz := by rw [← hl]; simp
  obtain ⟨_, v, hv, h1v, hcell⟩ := hcells rp.length _ here_at1
  rw [hcol] at hcell
  obtain ⟨_, i0, hi1, hi2, hi3⟩ := hcell
  let K := pre.length * sz + rp.length
  let ρ' : Env := fun n => if n = m then { i0 with h := fun _ => none } else if n = t then { ρ t with h := fun k => if k = K then none else (ρ t).h k } else ρ n
  have em : ρ' m = { i0 with h := fun _ => none } := if_pos rfl
  have et : ρ' t = { ρ t with h := fun k => if k = K then none else (ρ t).h k } := by
    show (if t = m then _ else if t = t then _ else _) = _
    rw [if_neg htm, if_pos rfl]
  have eo : ∀ n, n ≠ m → n ≠ t → ρ' n = ρ n := fun n q1 q2 => by
    show (if n = m then _ else if n = t then _ else _) = _
    rw [if_neg q1, if_neg q2]
  have hne : ∀ n, (blk σ n).isSome = true → n ≠ m := by rintro n hn rfl; rw [hm] at hn; cases hn
  have hcore : ∀ n, (blk σ n).isSome = true → Core (ρ' n) (ρ n) := fun n hn => by
    by_cases hnt : n = t
    · subst hnt; rw [et]; exact ⟨rfl, rfl, rfl, rfl, rfl⟩
    · exact Core.of_eq (eo n (hne n hn) hnt)
  have hget : ∀ n y, get n ([(m, Blk.rows e' s rs')] ++ [(t, Blk.deep e sz (pre ++ (rp ++ .junk :: rq) :: post) cols ((pre.length, rp.length, m) :: foc))]) = some y → (n = m ∧ y = .rows e' s rs') ∨ (n = t ∧ y = .deep e sz (pre ++ (rp ++ .junk :: rq) :: post) cols ((pre.length, rp.length, m) :: foc)) := fun n y h => by
    simp only [List.cons_append, List.nil_append, get] at h
    split at h
    · rename_i q; cases h; exact .inl ⟨q.symm, rfl⟩
    · split at h
      · rename_i q; cases h; exact .inr ⟨q.symm, rfl⟩
      · cases h
  have om : ∀ b', owns ρ' m (.rows e' s rs') b' → (ρ t).h K = some b' := fun b' h => by
    have h : (ρ' m).b = some b' := h
    rw [em] at h
    rw [← hi1]; exact h
  have ot : ∀ b' {q q' : List (Nat × Nat × Nat)} {rr : List (List AV)}, owns ρ' t (.deep e sz rr q q') b' → (ρ t).b = some b' ∨ ∃ k, k ≠ K ∧ (ρ t).h k = some b' := fun b' q q' rr h => by
    have h : (ρ' t).b = some b' ∨ ∃ k, (ρ' t).h k = some b' := h
    rw [et] at h
    rcases h with h | ⟨k, h⟩
    · exact .inl h
    · simp only at h
      split at h
      · cases h
      · rename_i q; exact .inr ⟨k, q, h⟩
  refine ⟨ρ', hs.rearr (fun n hn _ => hcore n hn) (fun n hn _ q1 q2 => eo n (by simpa [keys] using q1) (by simpa [keys] using q2)) (fun n hn => by simp [keys] at hn; subst hn; exact hm) (fun n y b' hy hbn => ?_) (fun n k y z b' hy hz h1 h2 => ?_) (fun im' him himn n y hy => ?_) (fun n y hy k hk => ?_) (fun n hn => by simp [keys] at hn; subst hn; exact ⟨by rw [hb]; rfl, by simp⟩)⟩
  · rcases hget n y hy with ⟨rfl, rfl⟩ | ⟨rfl, rfl⟩
    · exact ⟨t, _, hb, .inr ⟨K, om b' hbn⟩, .inr (by simp [keys])⟩
    · refine ⟨n, _, hb, ?_, .inr (by simp [keys])⟩
      rcases ot b' hbn with h | ⟨k, _, h⟩
      · exact .inl h
      · exact .inr ⟨k, h⟩
  · have cross : ∀ b', (ρ t).h K = some b' → ((ρ t).b = some b' ∨ ∃ k, k ≠ K ∧ (ρ t).h k = some b') → False := fun b' q1 q2 => by
      rcases q2 with q2 | ⟨k, q2, q3⟩
      · exact (h0.1 K b' q1).1 q2
      · exact q2 (h0.2 k K b' q3 q1)
    rcases hget n y hy with ⟨rfl, rfl⟩ | ⟨rfl, rfl⟩ <;> rcases hget k z hz with ⟨rfl, rfl⟩ | ⟨rfl, rfl⟩
    · rfl
    · exact (cross b' (om b' h1) (ot b' h2)).elim
    · exact (cross b' (om b' h2) (ot b' h1)).elim
    · rfl
  · rcases hget n y hy with ⟨rfl, rfl⟩ | ⟨rfl, rfl⟩
    · exact hi3.to (by rw [em]; exact ⟨rfl, rfl, rfl⟩) him
    · refine ⟨by rw [et]; exact h1, h2, h2', ?_, fun i j k hk => ?_, A, c, by have e3 : (ρ n).sv = .slice A (pre ++ (rp ++ .junk :: rq) :: post).length c := (by simpa using h3); rw [et]; exact e3, by simpa using h4, h5, .inr ⟨b, arr, by rw [et]; exact hb1, hA, hh, hsz, fun i row hi => ?_, fun i j k hk row z hi hj => ?_⟩⟩
      · rw [et]
        refine ⟨fun k b' hk => ?_, fun k l b' hk hl => ?_⟩
        · simp only at hk
          split at hk
          · cases hk
          · exact h0.1 k b' hk
        · simp only at hk hl
          split at hk
          · cases hk
          · split at hl
            · cases hl
            · exact h0.2 k l b' hk hl
      · rcases List.mem_cons.1 hk with q | q
        · cases q; simp
        · have := hI i j k q
          simp only [List.length_append, List.length_cons] at this ⊢
          exact this
      · obtain ⟨row0, q1, q2, q3⟩ := cell_at (x := .sl s rs') hi
        obtain ⟨r1, r2⟩ := hr i row0 q1
        refine ⟨by rw [← q2]; exact r1, fun j x hj => ?_⟩
        obtain ⟨z, z1, z2⟩ := q3 j x hj
        obtain ⟨s1, u, s2, s3, s4⟩ := r2 j z z1
        have hjs : j < sz := by rw [← r1]; exact (List.getElem?_eq_some_iff.1 z1).1
        rcases z2 with ⟨rfl, rfl, rfl, rfl⟩ | ⟨z2, rfl⟩
        · exact ⟨rfl, u, s2, s3, .of_rel (.junk _) (.inr (.inr rfl))⟩
        · refine ⟨s1, u, s2, s3, ?_⟩
          have : (ρ' n).h (i * sz + j) = (ρ n).h (i * sz + j) := by
            rw [et]
            simp only
            rw [if_neg (place_ne hJ hjs z2)]
          rw [this]
          exact s4.to s1 him
      · obtain ⟨row0, q1, q2, q3⟩ := cell_at (x := .sl s rs') hi
        obtain ⟨z0, z1, _⟩ := q3 j z hj
        rcases List.mem_cons.1 hk with q | q
        · cases q
          rw [em]
          show _ = some i0.sv
          rw [hi2]
          exact hv
        · rw [(hcore k (hclos k (focN_mem.2 ⟨i, j, q⟩))).sv]
          exact hf i j k q row0 z0 q1 z1
  · rcases hget n y hy with ⟨rfl, rfl⟩ | ⟨rfl, rfl⟩
    · cases hk
    · refine ⟨?_, by simp⟩
      have hk : k ∈ focN ((pre.length, rp.length, m) :: foc) := hk
      simp only [focN, List.mem_cons] at hk
      rcases hk with rfl | hk
      · exact .inl (by simp [keys])
      · exact .inr (hclos k hk)

/-- a name goes back into its cell -/
theorem Wk.unfocus {X : Cx} {σ : AS} (t m : Nat) {e sz e' s : Nat} {pre post : List (List AV)} {rp rq : List AV} {y0 : AV} {rs' rs : List (List AV)} {cols foc : List (Nat × Nat × Nat)} (hb : blk σ t = some (.deep e sz rs cols foc))
    (hrs : rs = pre ++ (rp ++ y0 :: rq) :: post) (hcol : colAt cols rp.length = some (e', s)) (hm : blk σ m = some (.rows e' s rs')) (hfoc : focHas foc pre.length rp.length m = true) :
    Wk X σ (stepS σ [m] [] [(t, .deep e sz (pre ++ (rp ++ .sl s rs' :: rq) :: post) cols (keepF (kl [m]) foc))]) := by
  subst hrs
  intro γ a w ⟨ρ, hs⟩
  have hfoc := focHas_mem hfoc
  have htm : t ≠ m := by rintro rfl; rw [hm] at hb; cases hb
  have hB := hs.hp.blk t _ hb
  have hM : RowsNI X.D w (imOf X.S X.N0 X.B w ρ (blk σ)) ρ (ρ m) e' s rs' := hs.hp.blk m _ hm
  have hclos := hs.hp.clos t _ hb
  obtain ⟨h1, h2, h2', h0, hI, A, c, h3, h4, h5, h6⟩ := hB
  rcases h6 with ⟨h6, _⟩ | ⟨b, arr, hb1, hA, hh, hsz, hr, hf⟩
  · simp at h6
  obtain ⟨hl, hcells⟩ := hr pre.length _ here_at
  have hJ : rp.length < sz := by rw [← hl]; simp
  obtain ⟨_, v, hv, h1v, _⟩ := hcells rp.length _ here_at1
  have hvm := hf _ _ _ hfoc _ _ here_at here_at1
  rw [hv] at hvm
  cases hvm
  let K := pre.length * sz + rp.length
  let ρ' : Env := fun n => if n = t then { ρ t with h := fun k => if k = K then (ρ m).b else (ρ t).h k } else ρ n
  have et : ρ' t = { ρ t with h := fun k => if k = K then (ρ m).b else (ρ t).h k } := if_pos rfl
  have eo : ∀ n, n ≠ t → ρ' n = ρ n := fun n q2 => if_neg q2
  have hcore : ∀ n, Core (ρ' n) (ρ n) := fun n => by
    by_cases hnt : n = t
    · subst hnt; rw [et]; exact ⟨rfl, rfl, rfl, rfl, rfl⟩
    · exact Core.of_eq (eo n hnt)
  have hget : ∀ n y, get n ([] ++ [(t, Blk.deep e sz (pre ++ (rp ++ .sl s rs' :: rq) :: post) cols (keepF (kl [m]) foc))]) = some y → n = t ∧ y = .deep e sz (pre ++ (rp ++ .sl s rs' :: rq) :: post) cols (keepF (kl [m]) foc) := fun n y h => by
    simp only [List.nil_append, get] at h
    split at h
    · rename_i q; cases h; exact ⟨q.symm, rfl⟩
    · cases h
  have hmt : ∀ b', (ρ m).b = some b' → owns ρ t (.deep e sz (pre ++ (rp ++ y0 :: rq) :: post) cols foc) b' → False := fun b' q1 q2 => htm (hs.hp.inj t m b' _ _ hb hm q2 (owns_b q1))
  refine ⟨ρ', hs.rearr (fun n hn _ => hcore n) (fun n hn _ q1 q2 => eo n (by simpa [keys] using q2)) (fun n hn => by simp [keys] at hn) (fun n y b' hy hbn => ?_) (fun n k y z b' hy hz _ _ => ?_) (fun im' him himn n y hy => ?_) (fun n y hy k hk => ?_) (fun n hn => by simp [keys] at hn; subst hn; exact ⟨by rw [hb]; rfl, by simpa using htm⟩)⟩
  · obtain ⟨rfl, rfl⟩ := hget n y hy
    have hbn : (ρ' n).b = some b' ∨ ∃ k, (ρ' n).h k = some b' := hbn
    rw [et] at hbn
    rcases hbn with q | ⟨k, q⟩
    · exact ⟨n, _, hb, .inl q, .inr (by simp [keys])⟩
    · simp only at q
      split at q
      · exact ⟨m, _, hm, owns_b q, .inl (by simp)⟩
      · exact ⟨n, _, hb, .inr ⟨k, q⟩, .inr (by simp [keys])⟩
  · rw [(hget n y hy).1, (hget k z hz).1]
  · obtain ⟨rfl, rfl⟩ := hget n y hy
    refine ⟨by rw [et]; exact h1, h2, h2', ?_, fun i j k hk => ?_, A, c, by have e3 : (ρ n).sv = .slice A (pre ++ (rp ++ .sl s rs' :: rq) :: post).length c := (by simpa using h3); rw [et]; exact e3, by simpa using h4, h5, .inr ⟨b, arr, by rw [et]; exact hb1, hA, hh, hsz, fun i row hi => ?_, fun i j k hk row z hi hj => ?_⟩⟩
    · rw [et]
      refine ⟨fun k b' hk => ?_, fun k l b' hk hl => ?_⟩
      · simp only at hk
        split at hk
        · exact ⟨fun q => hmt b' hk (.inl q), hs.named_lt hm hk⟩
        · exact h0.1 k b' hk
      · simp only at hk hl
        split at hk
        · split at hl
          · rename_i q1 q2; rw [q1, q2]
          · exact (hmt b' hk (.inr ⟨l, hl⟩)).elim
        · split at hl
          · exact (hmt b' hl (.inr ⟨k, hk⟩)).elim
          · exact h0.2 k l b' hk hl
    · have := hI i j k (keepF_mem hk).1
      simp only [List.length_append, List.length_cons] at this ⊢
      exact this
    · obtain ⟨row0, q1, q2, q3⟩ := cell_at (x := y0) hi
      obtain ⟨r1, r2⟩ := hr i row0 q1
      refine ⟨by rw [← q2]; exact r1, fun j x hj => ?_⟩
      obtain ⟨z, z1, z2⟩ := q3 j x hj
      obtain ⟨s1, u, s2, s3, s4⟩ := r2 j z z1
      have hjs : j < sz := by rw [← r1]; exact (List.getElem?_eq_some_iff.1 z1).1
      rcases z2 with ⟨rfl, rfl, rfl, rfl⟩ | ⟨z2, rfl⟩
      · rw [hv] at s2
        cases s2
        refine ⟨rfl, _, hv, h1v, ?_⟩
        rw [hcol]
        refine ⟨rfl, ρ m, ?_, rfl, hM.to ⟨rfl, rfl, rfl⟩ him⟩
        rw [et]
        simp only
        rw [if_pos rfl]
      · refine ⟨s1, u, s2, s3, ?_⟩
        have : (ρ' n).h (i * sz + j) = (ρ n).h (i * sz + j) := by
          rw [et]
          simp only
          rw [if_neg (place_ne hJ hjs z2)]
        rw [this]
        exact s4.to s1 him
    · obtain ⟨row0, q1, q2, q3⟩ := cell_at (x := y0) hi
      obtain ⟨z0, z1, _⟩ := q3 j z hj
      rw [(hcore k).sv]
      exact hf i j k (keepF_mem hk).1 row0 z0 q1 z1
  · obtain ⟨rfl, rfl⟩ := hget n y hy
    obtain ⟨i, j, hk⟩ := focN_mem.1 (show k ∈ focN (keepF (kl [m]) foc) from hk)
    obtain ⟨q1, q, q2⟩ := keepF_mem hk
    exact ⟨.inr (hclos k (focN_mem.2 ⟨i, j, q1⟩)), kl_os q2⟩

/-- rows that are only read in their cells from then on -/
theorem Wk.flat {X : Cx} {σ : AS} (t : Nat) {e sz : Nat} {rs : List (List AV)} {cols foc : List (Nat × Nat × Nat)} (hb : blk σ t = some (.deep e sz rs cols foc)) : Wk X σ (stepS σ [] [] [(t, .rows e sz rs)]) := by
  intro γ a w ⟨ρ, hs⟩
  have hB := hs.hp.blk t _ hb
  obtain ⟨h1, h2, h2', h0, hI, A, c, h3, h4, h5, h6⟩ := hB
  have hget : ∀ n y, get n ([] ++ [(t, Blk.rows e sz rs)]) = some y → n = t ∧ y = .rows e sz rs := fun n y h => by
    simp only [List.nil_append, get] at h
    split at h
    · rename_i q; cases h; exact ⟨q.symm, rfl⟩
    · cases h
  refine ⟨ρ, hs.rearr (fun n _ _ => Core.refl) (fun n _ _ _ _ => rfl) (fun n hn => by simp [keys] at hn) (fun n y b' hy hbn => ?_) (fun n k y z b' hy hz _ _ => ?_) (fun im' him himn n y hy => ?_) (fun n y hy k hk => ?_) (fun n hn => by simp [keys] at hn; subst hn; exact ⟨by rw [hb]; rfl, by simp⟩)⟩
  · obtain ⟨rfl, rfl⟩ := hget n y hy
    exact ⟨n, _, hb, .inl hbn, .inr (by simp [keys])⟩
  · rw [(hget n y hy).1, (hget k z hz).1]
  · obtain ⟨rfl, rfl⟩ := hget n y hy
    refine ⟨h1, h2, h2', A, c, h3, h4, h5, ?_⟩
    refine h6.imp id ?_
    rintro ⟨b, arr, hb1, hA, hh, hsz, hr, hf⟩
    refine ⟨b, arr, hb1, hA, hh, hsz, fun i row hi => ⟨(hr i row hi).1, fun j x hj => ?_⟩⟩
    obtain ⟨s1, u, s2, s3, s4⟩ := (hr i row hi).2 j x hj
    refine ⟨s1, u, s2, s3, ?_⟩
    have key : ∀ {col : Option (Nat × Nat)}, CellD X.D w (imOf X.S X.N0 X.B w ρ (blk σ)) ρ ((ρ n).h (i * sz + j)) col x u → Rel w im' ρ x u := fun {col} s4 => by
      unfold CellD at s4
      split at s4
      · obtain ⟨rfl, i0, q1, q2, q3⟩ := s4
        have q4 : RowsNI X.D w im' ρ i0 _ _ _ := q3.to ⟨rfl, rfl, rfl⟩ him
        rw [← q2]
        refine q4.rel fun b' hb' => himn b' n _ hb (.inr ⟨i * sz + j, by rw [← q1]; exact hb'⟩) (.inr (by simp [keys])) fun n' y' hy' ho => ?_
        obtain ⟨rfl, rfl⟩ := hget n' y' hy'
        exact (h0.1 (i * sz + j) b' (by rw [← q1]; exact hb')).1 ho
      · exact s4.mono him (fun _ _ => rfl) (fun m hm => absurd hm (by rw [s1]; simp))
    exact key s4
  · obtain ⟨rfl, rfl⟩ := hget n y hy
    cases hk
attribute [go_sem] stepS
end Go.Proofs.Ythbejciebmkclaa.Ab
namespace Go.Proofs.Ythbejciebmkclaa.Ab
open Go Go.RowKit
set_option linter.unusedVariables false
set_option linter.unusedSimpArgs false

def hownDLo : Nat → Lo := fun id => match id with | 5 => {uo := [5, 7], un := [70003], kn := [5000], ex := [1]} | _ => {}
end Go.Proofs.Ythbejciebmkclaa.Ab
namespace Go.Proofs.Ythbejciebmkclaa.Ab
open Go Go.RowKit
set_option linter.unusedVariables false
set_option linter.unusedSimpArgs false

set_option maxRecDepth 100000 in
set_option maxHeartbeats 1000000 in
theorem con_rplain (h : LHall) (hh : h.Fits) : Con Try.prog D 31 [hallA h] ⟨hallA (plainS h), []⟩ := by
  have hok : GOk Try.prog D (tabG []) := tabG_ok _
  generalize tabG [] = G at *
  have hl := hh.1
  have hfq := fun i hi => queue_fits (i := i) hh hi
  obtain ⟨l, next⟩ := h
  simp only at hl hfq
  refine conW (G := G) (rs := [(2, some 24)]) hok Try.func31 Try.results31 Try.ntmps31 (fun _ => {}) fun X hP hD hG' hX => ?_
  simp only [argS, num, hallA]
  simp (disch := omega) only [go_sem, Nat.reduceLeDiff, reduceCtorEq, Nat.reduceAdd, Nat.reduceSub, Nat.reduceMul, Nat.reduceLT, Nat.reduceEqDiff, Int.reduceEq, Int.reduceLE, Int.reduceLT, Int.reducePow, Int.reduceMul, Int.reduceToNat, Int.reduceNeg, ↓reduceIte, hD, hG', wrap64, unbox, tmv, Option.some.injEq, exists_eq_left']
  refine Tr.loop (ι := Nat) (fun i => i ≤ l.length) (fun i => { nt := 50, tm := [(2, .ptr 2 0), (3, .ptr 3 0), (13, .sl 3 (l.map queueRow)), (14, .int .i64 l.length), (15, .int .i64 i)], bl := [(2, some (.cells [.nils, .int .i64 0])), (3, some (.cells [.os 5000, .int .i64 next])), (5000, some (.deep 71 3 ((l.take i).map (fun q => queueRow (plainQ q))) [(2, 65, 7)] []))] }) (fun i => l.length - i) 0
    ⟨Nat.zero_le _, wk_of hD [(2, 2), (3, 3)] rfl rfl (by simp only [go_sem, Nat.reduceEqDiff]; simp) (by simp only [go_sem, Nat.reduceEqDiff, D_1, D_2, D_3, D_4, D_5, D_6, D_7, D_8, D_9, D_10, D_11, D_12, D_13, D_14, D_15, D_16, D_17, D_18, D_19, D_21, D_22, D_23, D_24, D_25, D_26, D_27, D_28, D_29, D_30, D_31, D_32, D_33, D_35, D_36, D_37, D_38, D_39, D_40, D_41, D_42, D_43, D_45, D_46, D_47, D_48, D_49, D_50, D_51, D_52, D_53, D_55, D_56, D_57, D_58, D_60, D_61, D_62, D_63, D_64, D_65, D_67, D_68, D_69, D_70, D_71, D_72, D_73, D_74, D_75, D_76, D_77, D_78, D_79, D_80, D_81, D_82, D_83, D_84, D_85, D_86, D_87, D_88, D_89, D_91, D_93, D_94, D_95, D_97, D_98, D_99, D_101, D_103, D_104, D_105, D_106, D_108, D_109, D_110, D_111, D_113, D_114, D_115, D_116, D_117, D_118, D_119, D_120, D_121, D_122, D_124, D_125, D_127, D_128, D_130, D_132, D_133, D_134, D_135, D_136, D_138, D_139, D_141, D_143, D_144, D_145, D_147, D_148, D_149, D_150, D_151, D_153, D_154, D_155, D_156, D_157, D_158, D_159, D_160, D_161, D_162, D_163, D_164, D_165, D_166, D_167, D_168, D_169, D_170, D_171, D_172, D_173, D_174, D_178, D_179, D_180, D_181, D_182, D_183, D_184, D_185, D_186]; simp)⟩ ?_
  intro i hi
  refine evC_sound hX (fun _ => {}) _ _ _ ?_
  simp (disch := omega) only [go_sem, Nat.reduceLeDiff, reduceCtorEq, Nat.reduceAdd, Nat.reduceSub, Nat.reduceMul, Nat.reduceLT, Nat.reduceEqDiff, Int.reduceEq, Int.reduceLE, Int.reduceLT, Int.reducePow, Int.reduceMul, Int.reduceToNat, Int.reduceNeg, ↓reduceIte, hD, hG', wrap64, unbox, tmv, Option.some.injEq, exists_eq_left']
  refine condK_split (fun h => ?_) (fun h => ?_)
  · rw [decide_eq_true_eq] at h
    have hi1 : i < l.length := by omega
    have hgx := queueGet hi1
    have hti := take_queue hi1
    have hqf := (hfq i hi1).1.1
    have htl : (l.take i).length = i := by rw [List.length_take]; omega
    generalize l.getD i queue0 = x at *
    obtain ⟨qn, ql, qi⟩ := x
    simp only at hqf
    simp only [queueRow] at hgx
    simp (disch := omega) only [go_sem, Nat.reduceLeDiff, reduceCtorEq, Nat.reduceAdd, Nat.reduceSub, Nat.reduceMul, Nat.reduceLT, Nat.reduceEqDiff, Int.reduceEq, Int.reduceLE, Int.reduceLT, Int.reducePow, Int.reduceMul, Int.reduceToNat, Int.reduceNeg, ↓reduceIte, hD, hG', wrap64, hgx, unbox, tmv, Option.some.injEq, exists_eq_left']
    refine ⟨by omega, Tr.loop (ι := Nat) (fun j => j ≤ qi.length) (fun j => { nt := 50, tm := [(2, .ptr 2 0), (3, .ptr 3 0), (6, .ptr 6 0), (13, .sl 3 (l.map queueRow)), (14, .int .i64 l.length), (15, .int .i64 i), (25, .sl 7 (qi.map itemRow)), (26, .int .i64 qi.length), (27, .int .i64 j)], bl := [(2, some (.cells [.nils, .int .i64 0])), (3, some (.cells [.os 5000, .int .i64 next])), (5000, some (.deep 71 3 ((l.take i).map (fun q => queueRow (plainQ q))) [(2, 65, 7)] [])), (6, some (.cells [.str qn.data.toList, .int .i64 ql, .os 5001])), (5001, some (.rows 65 7 (((qi.take j).map plainI).map itemRow)))] }) (fun j => qi.length - j) 0
      ⟨Nat.zero_le _, wk_of hD [(2, 2), (3, 3), (6, 6), (5000, 5000)] rfl rfl (by simp only [go_sem, Nat.reduceEqDiff]; simp) (by simp only [go_sem, Nat.reduceEqDiff, D_1, D_2, D_3, D_4, D_5, D_6, D_7, D_8, D_9, D_10, D_11, D_12, D_13, D_14, D_15, D_16, D_17, D_18, D_19, D_21, D_22, D_23, D_24, D_25, D_26, D_27, D_28, D_29, D_30, D_31, D_32, D_33, D_35, D_36, D_37, D_38, D_39, D_40, D_41, D_42, D_43, D_45, D_46, D_47, D_48, D_49, D_50, D_51, D_52, D_53, D_55, D_56, D_57, D_58, D_60, D_61, D_62, D_63, D_64, D_65, D_67, D_68, D_69, D_70, D_71, D_72, D_73, D_74, D_75, D_76, D_77, D_78, D_79, D_80, D_81, D_82, D_83, D_84, D_85, D_86, D_87, D_88, D_89, D_91, D_93, D_94, D_95, D_97, D_98, D_99, D_101, D_103, D_104, D_105, D_106, D_108, D_109, D_110, D_111, D_113, D_114, D_115, D_116, D_117, D_118, D_119, D_120, D_121, D_122, D_124, D_125, D_127, D_128, D_130, D_132, D_133, D_134, D_135, D_136, D_138, D_139, D_141, D_143, D_144, D_145, D_147, D_148, D_149, D_150, D_151, D_153, D_154, D_155, D_156, D_157, D_158, D_159, D_160, D_161, D_162, D_163, D_164, D_165, D_166, D_167, D_168, D_169, D_170, D_171, D_172, D_173, D_174, D_178, D_179, D_180, D_181, D_182, D_183, D_184, D_185, D_186]; simp)⟩ ?_⟩
    intro j hj
    refine evC_sound hX (fun _ => {}) _ _ _ ?_
    simp (disch := omega) only [go_sem, Nat.reduceLeDiff, reduceCtorEq, Nat.reduceAdd, Nat.reduceSub, Nat.reduceMul, Nat.reduceLT, Nat.reduceEqDiff, Int.reduceEq, Int.reduceLE, Int.reduceLT, Int.reducePow, Int.reduceMul, Int.reduceToNat, Int.reduceNeg, ↓reduceIte, hD, hG', wrap64, unbox, tmv, Option.some.injEq, exists_eq_left']
    refine condK_split (fun h2 => ?_) (fun h2 => ?_)
    · rw [decide_eq_true_eq] at h2
      have hj1 : j < qi.length := by omega
      have hgy := itemGet hj1
      have htj : (qi.take (j + 1)) = qi.take j ++ [qi.getD j item0] := by
        rw [List.take_succ_eq_append_getElem hj1]
        simp [hj1]
      have htl2 : (qi.take j).length = j := by rw [List.length_take]; omega
      generalize qi.getD j item0 = y at *
      obtain ⟨i1, i2, i3, i4, i5, ⟨i6, i7⟩⟩ := y
      simp only [itemRow] at hgy
      simp (disch := omega) only [go_sem, Nat.reduceLeDiff, reduceCtorEq, Nat.reduceAdd, Nat.reduceSub, Nat.reduceMul, Nat.reduceLT, Nat.reduceEqDiff, Int.reduceEq, Int.reduceLE, Int.reduceLT, Int.reducePow, Int.reduceMul, Int.reduceToNat, Int.reduceNeg, ↓reduceIte, hD, hG', wrap64, hgy, unbox, tmv, Option.some.injEq, exists_eq_left']
      ((try and_intros); all_goals (try first | omega | decide | (simp; done) | (simp only [List.length_append, List.length_cons, List.length_nil, List.length_map]; omega)))
      refine ⟨j + 1, ⟨by omega, by omega⟩, wk_of hD [(2, 2), (3, 3), (6, 6), (5000, 5000), (5001, 39)] rfl rfl ?_ ?_⟩ <;> simp only [go_sem, Nat.reduceEqDiff]
      · simp
      · simp [htj, itemRow, plainI]
    · rw [decide_eq_false_iff_not] at h2
      have hje : j = qi.length := by omega
      subst hje
      rw [List.take_length] at *
      simp (disch := omega) only [go_sem, Nat.reduceLeDiff, reduceCtorEq, Nat.reduceAdd, Nat.reduceSub, Nat.reduceMul, Nat.reduceLT, Nat.reduceEqDiff, Int.reduceEq, Int.reduceLE, Int.reduceLT, Int.reducePow, Int.reduceMul, Int.reduceToNat, Int.reduceNeg, ↓reduceIte, hD, hG', wrap64, unbox, tmv, Option.some.injEq, exists_eq_left']
      ((try and_intros); all_goals (try first | omega | decide | (simp; done) | (simp only [List.length_append, List.length_cons, List.length_nil, List.length_map]; omega)))
      refine ⟨i + 1, ⟨by omega, by omega⟩, (Wk.unfocus 46 5001 (pre := (l.take i).map (fun q => queueRow (plainQ q))) (rp := [.str qn.data.toList, .int .i64 ql]) (rq := []) (post := []) (y0 := .junk) (rs' := (qi.map plainI).map itemRow) rfl rfl rfl rfl (by simp [focHas])).trans (wk_of hD [(2, 2), (3, 3), (5000, 46)] rfl rfl ?_ ?_)⟩ <;> simp only [go_sem, Nat.reduceEqDiff]
      · simp
      · simp [hti, queueRow, plainQ]
  · rw [decide_eq_false_iff_not] at h
    have hie : i = l.length := by omega
    subst hie
    rw [List.take_length] at *
    simp (disch := omega) only [go_sem, Nat.reduceLeDiff, reduceCtorEq, Nat.reduceAdd, Nat.reduceSub, Nat.reduceMul, Nat.reduceLT, Nat.reduceEqDiff, Int.reduceEq, Int.reduceLE, Int.reduceLT, Int.reducePow, Int.reduceMul, Int.reduceToNat, Int.reduceNeg, ↓reduceIte, hD, hG', wrap64, unbox, tmv, Option.some.injEq, exists_eq_left']
    refine endK (Wk.flat 5000 rfl) [5000] [] (by simp) rfl rfl rfl ?_ ?_ <;> simp only [go_sem, Nat.reduceEqDiff]
    simp [plainS, cov, covs, subs, names, namess, Function.comp_def]
end Go.Proofs.Ythbejciebmkclaa.Ab
