/-
  Texts of the proof, one behind the other: PcA PcB PcE HbA HbB HbC HbD OpenH.
  No condition but those that each theorem names.
-/
import Derived.Test.YthbejciebmkclaaGI
import Derived.Test.YthbejciebmkclaaGC
import Derived.Test.YthbejciebmkclaaGR
import Derived.Test.YthbejciebmkclaaGH
namespace Go.Proofs.Ythbejciebmkclaa.Ab
open Go
set_option linter.unusedVariables false
set_option linter.unusedSimpArgs false

mutual
/-- other names -/
def renF (f : Nat → Nat) : AV → AV
  | .os t => .os (f t)
  | .ptr v o => .ptr (f v) o
  | .eptr t i o => .eptr (f t) i o
  | .tsl t i => .tsl (f t) i
  | .func g cs => .func g (renFs f cs)
  | .agg cs => .agg (renFs f cs)
  | .tup cs => .tup (renFs f cs)
  | .opt g v => .opt g (renF f v)
  | v => v
def renFs (f : Nat → Nat) : List AV → List AV
  | [] => []
  | v :: r => renF f v :: renFs f r
end
def renBl (f : Nat → Nat) : Blk → Blk
  | .cells cs => .cells (renFs f cs)
  | .rows e sz rs => .rows e sz rs
  | .deep e sz rs cols foc => .deep e sz rs cols foc
/-- but for slices with slices of our own in them -/
def nd : Blk → Bool
  | .deep _ _ _ _ _ => false
  | _ => true
def ndB (bl : List (Nat × Blk)) : Prop := ∀ n x, get n bl = some x → nd x = true
def noh (i : NI) : NI := { i with h := fun _ => none }
theorem noh_core {i : NI} : Core (noh i) i := ⟨rfl, rfl, rfl, rfl, rfl⟩
theorem noh_eq {i j : NI} (h : Core i j) (hi : i.h = fun _ => none) (hj : j.h = fun _ => none) : i = j := by
  obtain ⟨h1, h2, h3, h4, h5⟩ := h
  cases i; cases j
  simp only at *
  subst h1 h2 h3 h4 h5 hi hj
  rfl
theorem owns_nd {ρ : Env} {n b : Nat} {x : Blk} (h : nd x = true) : owns ρ n x b ↔ (ρ n).b = some b := by
  cases x with
  | deep _ _ _ _ _ => cases h
  | _ => exact Iff.rfl
theorem nd_ren {f : Nat → Nat} {x : Blk} : nd (renBl f x) = nd x := by cases x <;> rfl
theorem owns_core {ρ ρ' : Env} {n b : Nat} {x : Blk} (hc : Core (ρ' n) (ρ n)) (hs : nd x = true ∨ ρ' n = ρ n) : owns ρ' n x b ↔ owns ρ n x b := by
  rcases hs with hs | hs
  · rw [owns_nd hs, owns_nd hs, hc.1]
  · exact owns_congr hs
theorem BRel.coreN {D : Nat → TI} {w : World} {im im' : Nat → Prop} {ρ ρ' : Env} {n : Nat} {x : Blk} (h : BRel D w im ρ n x) (hc : ∀ n, Core (ρ' n) (ρ n)) (hs : nd x = true ∨ ρ' n = ρ n) (him : ∀ b, im b → im' b) : BRel D w im' ρ' n x := by
  rcases hs with hs | hs
  · cases x with
    | deep _ _ _ _ _ => cases hs
    | rows e sz rs =>
      have h' : RowsNI D w im ρ (ρ n) e sz rs := h
      exact h'.to ⟨(hc n).2.2.2.2, (hc n).sv, (hc n).1⟩ him
    | cells cs =>
      obtain ⟨b, arr, T, h1, h2, h3, h5⟩ := h
      exact ⟨b, arr, T, by rw [(hc n).1]; exact h1, h2, h3, fun i x v hx hv => ⟨(h5 i x v hx hv).1, (h5 i x v hx hv).2.core him fun m _ => hc m⟩⟩
  · exact h.core hs him fun m _ => hc m
theorem St0.coreq {D : Nat → TI} {S N0 : Nat → Prop} {B : Nat} {w0 : W0} {ρ ρ' : Env} {σ : AS} {a : Act} {w : World} (h : St0 D S N0 B w0 ρ σ a w) (hc : ∀ n, Core (ρ' n) (ρ n)) (hs : ∀ n x, blk σ n = some x → nd x = true ∨ ρ' n = ρ n) : St0 D S N0 B w0 ρ' σ a w := by
  have ho : ∀ n x b, blk σ n = some x → (owns ρ' n x b ↔ owns ρ n x b) := fun n x b hx => owns_core (hc n) (hs n x hx)
  have him : ∀ b, imOf S N0 B w ρ (blk σ) b → imOf S N0 B w ρ' (blk σ) b := fun b ⟨h1, h2, h3⟩ => ⟨h1, h2, fun n x hx hb => h3 n x hx ((ho n x b hx).1 hb)⟩
  exact ⟨fun t x hx => ⟨(h.tm t x hx).1.core him fun n _ => hc n, (h.tm t x hx).2⟩,
    ⟨fun n x hx => (h.hp.blk n x hx).coreN hc (hs n x hx) him, fun n m b x y hx hy h1 h2 => h.hp.inj n m b x y hx hy ((ho n x b hx).1 h1) ((ho m y b hy).1 h2), fun n x b hx hb hi => hi.2.2 n x hx hb, fun b hb => hb.1, h.hp.clos⟩,
    h.nt, h.base, h.frm, fun n x b hx hb => h.own n x b hx ((ho n x b hx).1 hb), h.defers⟩
theorem renFs_eq (f : Nat → Nat) : ∀ cs : List AV, renFs f cs = cs.map (renF f)
  | [] => by simp [renFs]
  | c :: r => by simp [renFs, renFs_eq f r]
theorem Rel.renF {w : World} {im im' : Nat → Prop} {ρ ρ' : Env} {f : Nat → Nat} {x : AV} {v : Value} (h : Rel w im ρ x v) (him : ∀ b, im b → im' b) (hρ : ∀ n ∈ names x, ρ' (f n) = ρ n) : Rel w im' ρ' (Ab.renF f x) v := by
  have self : ∀ {y : AV} {u : Value}, Rel w im ρ y u → names y = [] → Rel w im' ρ' y u := fun h hn => h.mono him (fun _ _ => rfl) fun n hn' => by rw [hn] at hn'; cases hn'
  induction h with
  | junk v => exact .junk v
  | int k n => exact .int k n
  | bool b => exact .bool b
  | str l => exact .str l
  | nils => exact .nils
  | sl sz rs A c b o val hc hm hA hrow hcell hval ih => exact self (.sl sz rs A c b o val hc hm hA hrow hcell hval) rfl
  | os t => simp only [Ab.renF]; rw [← hρ t (by simp [names])]; exact .os (f t)
  | ptr v off b h => exact .ptr (f v) off b (by rw [hρ v (by simp [names])]; exact h)
  | iptr cs b o val hb hcell hval ih => exact self (.iptr cs b o val hb hcell hval) rfl
  | eptr t i off b h =>
    have := hρ t (by simp [names])
    simp only [Ab.renF]
    rw [← this]
    exact .eptr (f t) i off b (by rw [this]; exact h)
  | lsl n A c hc hm => exact .lsl n A c hc hm
  | imap es b c arr hb ho he => exact .imap es b c arr (him _ hb) ho he
  | nilp => exact .nilp
  | tsl t i b A' h hA =>
    have := hρ t (by simp [names])
    simp only [Ab.renF]
    rw [← this]
    exact .tsl (f t) i b A' (by rw [this]; exact h) (by rw [this]; exact hA)
  | func g cs vs hl hval ih =>
    simp only [Ab.renF, renFs_eq]
    refine .func g _ vs (by simpa using hl) fun i x v hx hv => ?_
    rw [List.getElem?_map] at hx
    obtain ⟨y, hy, rfl⟩ := Option.map_eq_some_iff.1 hx
    exact ih i y v hy hv fun n hn => hρ n (by rw [names]; exact mem_namess hy hn)
  | agg cs vs hl h1 hval ih =>
    simp only [Ab.renF, renFs_eq]
    refine .agg _ vs (by simpa using hl) h1 fun i x v hx hv => ?_
    rw [List.getElem?_map] at hx
    obtain ⟨y, hy, rfl⟩ := Option.map_eq_some_iff.1 hx
    exact ih i y v hy hv fun n hn => hρ n (by rw [names]; exact mem_namess hy hn)
  | tup cs vs hl hval ih =>
    simp only [Ab.renF, renFs_eq]
    refine .tup _ vs (by simpa using hl) fun i x v hx hv => ?_
    rw [List.getElem?_map] at hx
    obtain ⟨y, hy, rfl⟩ := Option.map_eq_some_iff.1 hx
    exact ih i y v hy hv fun n hn => hρ n (by rw [names]; exact mem_namess hy hn)
  | opt g x v h1 h2 ih => exact .opt g _ v (fun hg => ih hg fun n hn => hρ n (by rw [names]; exact hn)) h2
mutual
theorem Rel.unF {w : World} {im : Nat → Prop} {ρ : Env} {f : Nat → Nat} : ∀ {x : AV} {v : Value}, Rel w im ρ (Ab.renF f x) v → Rel w im (fun n => ρ (f n)) x v
  | .os t, v, h => by
    simp only [Ab.renF] at h
    cases h
    exact .os (ρ := fun n => ρ (f n)) t
  | .ptr a o, v, h => by
    simp only [Ab.renF] at h
    cases h with
    | ptr _ _ b hb => exact .ptr a o b hb
  | .eptr t i o, v, h => by
    simp only [Ab.renF] at h
    cases h with
    | eptr _ _ _ b hb => exact .eptr (ρ := fun n => ρ (f n)) t i o b hb
  | .tsl t i, v, h => by
    simp only [Ab.renF] at h
    cases h with
    | tsl _ _ b A' hb hA => exact .tsl (ρ := fun n => ρ (f n)) t i b A' hb hA
  | .agg cs, v, h => by
    simp only [Ab.renF, renFs_eq] at h
    cases h with
    | agg _ vs hl h1 hval => exact .agg _ vs (by simpa using hl) h1 fun i x v hx hv => unFs hx (hval i _ v (by rw [List.getElem?_map, hx]; rfl) hv)
  | .tup cs, v, h => by
    simp only [Ab.renF, renFs_eq] at h
    cases h with
    | tup _ vs hl hval => exact .tup _ vs (by simpa using hl) fun i x v hx hv => unFs hx (hval i _ v (by rw [List.getElem?_map, hx]; rfl) hv)
  | .func g cs, v, h => by
    simp only [Ab.renF, renFs_eq] at h
    cases h with
    | func _ _ vs hl hval => exact .func g _ vs (by simpa using hl) fun i x v hx hv => unFs hx (hval i _ v (by rw [List.getElem?_map, hx]; rfl) hv)
  | .opt g x, v, h => by
    simp only [Ab.renF] at h
    cases h with
    | opt _ _ _ h1 h2 => exact .opt g _ v (fun hg => Rel.unF (h1 hg)) h2
  | .junk, v, h => .junk v
  | .int _ _, v, h => by simp only [Ab.renF] at h; cases h; exact .int _ _
  | .bool _, v, h => by simp only [Ab.renF] at h; cases h; exact .bool _
  | .str _, v, h => by simp only [Ab.renF] at h; cases h; exact .str _
  | .nils, v, h => by simp only [Ab.renF] at h; cases h; exact .nils
  | .sl sz rs, v, h => by
    simp only [Ab.renF] at h
    exact h.mono (fun _ h => h) (fun _ _ => rfl) (fun n hn => by simp [names] at hn)
  | .iptr _, v, h => by
    simp only [Ab.renF] at h
    exact h.mono (fun _ h => h) (fun _ _ => rfl) (fun n hn => by simp [names] at hn)
  | .lsl _, v, h => by
    simp only [Ab.renF] at h
    exact h.mono (fun _ h => h) (fun _ _ => rfl) (fun n hn => by simp [names] at hn)
  | .imap _, v, h => by
    simp only [Ab.renF] at h
    exact h.mono (fun _ h => h) (fun _ _ => rfl) (fun n hn => by simp [names] at hn)
  | .nilp, v, h => by simp only [Ab.renF] at h; cases h; exact .nilp
theorem unFs {w : World} {im : Nat → Prop} {ρ : Env} {f : Nat → Nat} : ∀ {cs : List AV} {i : Nat} {x : AV} {v : Value}, cs[i]? = some x → Rel w im ρ (Ab.renF f x) v → Rel w im (fun n => ρ (f n)) x v
  | [], _, _, _, hx, _ => by simp at hx
  | c :: r, 0, x, v, hx, h => by
    simp at hx
    subst hx
    exact Rel.unF h
  | c :: r, i + 1, x, v, hx, h => unFs (cs := r) (i := i) (by simpa using hx) h
end
mutual
theorem names_renF (f : Nat → Nat) : ∀ (x : AV) (n : Nat), n ∈ names (renF f x) ↔ ∃ k ∈ names x, n = f k
  | .os t, n => by simp [renF, names]
  | .ptr v o, n => by simp [renF, names]
  | .tsl v o, n => by simp [renF, names]
  | .eptr v i o, n => by simp [renF, names]
  | .agg cs, n => by simpa only [renF, names] using namess_renFs f cs n
  | .tup cs, n => by simpa only [renF, names] using namess_renFs f cs n
  | .func _ cs, n => by simpa only [renF, names] using namess_renFs f cs n
  | .opt g v, n => by simpa only [renF, names] using names_renF f v n
  | .junk, n => by simp [renF, names]
  | .int _ _, n => by simp [renF, names]
  | .bool _, n => by simp [renF, names]
  | .str _, n => by simp [renF, names]
  | .nils, n => by simp [renF, names]
  | .sl _ _, n => by simp [renF, names]
  | .iptr _, n => by simp [renF, names]
  | .lsl _, n => by simp [renF, names]
  | .imap _, n => by simp [renF, names]
  | .nilp, n => by simp [renF, names]
theorem namess_renFs (f : Nat → Nat) : ∀ (cs : List AV) (n : Nat), n ∈ namess (renFs f cs) ↔ ∃ k ∈ namess cs, n = f k
  | [], n => by simp [renFs, namess]
  | c :: r, n => by
    simp only [renFs, namess, List.mem_append, names_renF f c n, namess_renFs f r n]
    constructor
    · rintro (⟨k, h1, h2⟩ | ⟨k, h1, h2⟩)
      · exact ⟨k, .inl h1, h2⟩
      · exact ⟨k, .inr h1, h2⟩
    · rintro ⟨k, h1 | h1, h2⟩
      · exact .inl ⟨k, h1, h2⟩
      · exact .inr ⟨k, h1, h2⟩
end
/-- a block, by another name -/
theorem BRel.renF {D : Nat → TI} {w : World} {im im' : Nat → Prop} {ρ ρ' : Env} {f : Nat → Nat} {n : Nat} {x : Blk} (h : BRel D w im ρ n x) (him : ∀ b, im b → im' b) (hn : ρ' (f n) = ρ n) (hρ : ∀ cs, x = .cells cs → ∀ m ∈ namess cs, ρ' (f m) = ρ m) (hnd : nd x = true) : BRel D w im' ρ' (f n) (renBl f x) := by
  cases x with
  | deep _ _ _ _ _ => cases hnd
  | cells cs =>
    obtain ⟨b, arr, T, h1, h2, h3, h5⟩ := h
    refine ⟨b, arr, T, by rw [hn]; exact h1, h2, by rw [renFs_eq]; simpa using h3, fun i x v hx hv => ?_⟩
    rw [renFs_eq, List.getElem?_map] at hx
    obtain ⟨y, hy, rfl⟩ := Option.map_eq_some_iff.1 hx
    exact ⟨(h5 i y v hy hv).1, (h5 i y v hy hv).2.renF him fun m hm => hρ cs rfl m (mem_namess hy hm)⟩
  | rows e sz rs =>
    obtain ⟨h1, h2, h2', A, c, h3, h4, h5, h6⟩ := h
    refine ⟨by rw [hn]; exact h1, h2, h2', A, c, by rw [hn]; exact h3, h4, h5, ?_⟩
    rcases h6 with ⟨e1, e0, e2, e3⟩ | ⟨b, arr, hb1, hA, hh, hsz, hr⟩
    · exact .inl ⟨e1, e0, e2, by rw [hn]; exact e3⟩
    · refine .inr ⟨b, arr, by rw [hn]; exact hb1, hA, hh, hsz, fun i row hi => ⟨(hr i row hi).1, fun j x hj => ?_⟩⟩
      obtain ⟨hn', v, hv, h1v, hrel⟩ := (hr i row hi).2 j x hj
      exact ⟨hn', v, hv, h1v, hrel.mono him (fun _ _ => rfl) (fun m hm => by rw [hn'] at hm; cases hm)⟩
theorem BRel.unF {D : Nat → TI} {w : World} {im : Nat → Prop} {ρ : Env} {f : Nat → Nat} {n : Nat} {x : Blk} (h : BRel D w im ρ (f n) (renBl f x)) (hnd : nd x = true) : BRel D w im (fun m => ρ (f m)) n x := by
  cases x with
  | deep _ _ _ _ _ => cases hnd
  | cells cs =>
    obtain ⟨b, arr, T, h1, h2, h3, h5⟩ := h
    refine ⟨b, arr, T, h1, h2, by rw [renFs_eq] at h3; simpa using h3, fun i x v hx hv => ?_⟩
    obtain ⟨q1, q2⟩ := h5 i (Ab.renF f x) v (by rw [renFs_eq, List.getElem?_map, hx]; rfl) hv
    exact ⟨q1, q2.unF⟩
  | rows e sz rs =>
    obtain ⟨h1, h2, h2', A, c, h3, h4, h5, h6⟩ := h
    refine ⟨h1, h2, h2', A, c, h3, h4, h5, ?_⟩
    rcases h6 with ⟨e1, e0, e2, e3⟩ | ⟨b, arr, hb1, hA, hh, hsz, hr⟩
    · exact .inl ⟨e1, e0, e2, e3⟩
    · refine .inr ⟨b, arr, hb1, hA, hh, hsz, fun i row hi => ⟨(hr i row hi).1, fun j x hj => ?_⟩⟩
      obtain ⟨hn', v, hv, h1v, hrel⟩ := (hr i row hi).2 j x hj
      exact ⟨hn', v, hv, h1v, hrel.mono (fun _ h => h) (fun _ _ => rfl) (fun m hm => by rw [hn'] at hm; cases hm)⟩
/-- the blocks of names -/
def NsB (ρ : Env) (bl0 : List (Nat × Blk)) (b : Nat) : Prop := ∃ n, n ∈ keys bl0 ∧ (ρ n).b = some b
/-- behind such a call -/
def PPost (D : Nat → TI) (w : World) (im : Nat → Prop) (ρ : Env) (bl0 : List (Nat × Blk)) (v0 : AV) (bl1 : List (Nat × Blk)) (v : Value) (w' : World) : Prop :=
  Frm (NsB ρ bl0) w.heap.size w w' ∧ ∃ ρ' : Env, (∀ n, (ρ' n).h = fun _ => none) ∧ (∀ n, n ∈ keys bl0 → n ∈ keys bl1 → ρ' n = ρ n) ∧
    Hp D w' (imOf im (NsB ρ bl0) w.heap.size w' ρ' (fun n => get n bl1)) ρ' (fun n => get n bl1) ∧
    (∀ n x b, get n bl1 = some x → (ρ' n).b = some b → w.heap.size ≤ b ∨ NsB ρ bl0 b) ∧
    Rel w' (imOf im (NsB ρ bl0) w.heap.size w' ρ' (fun n => get n bl1)) ρ' v0 v ∧ ∀ n ∈ names v0, n ∈ keys bl1
def closB (bl0 : List (Nat × Blk)) : Prop := ∀ n cs, get n bl0 = some (.cells cs) → ∀ m ∈ namess cs, m ∈ keys bl0
/-- a contract with blocks: args may name those of bl0; then they are as bl1 tells, which may have new ones -/
def PC (P : Program) (D : Nat → TI) (f : Nat) (args : List AV) (bl0 : List (Nat × Blk)) (v0 : AV) (bl1 : List (Nat × Blk)) : Prop :=
  (∃ fn, P.funcs[f]? = some fn ∧ (fn.name == "runtime.NumGoroutine") = false ∧ fn.body.isNone = false) ∧ closB bl0 ∧ ndB bl0 ∧ ndB bl1 ∧
  ∀ (w : World) (im : Nat → Prop) (ρ : Env) (vs : Array Value), (∀ n, (ρ n).h = fun _ => none) → (∀ b, im b → b < w.heap.size) → Rels w im ρ args vs.toList → Hp D w im ρ (fun n => get n bl0) →
    Calls P f vs w fun e w' => ∃ v, e = .returned v ∧ PPost D w im ρ bl0 v0 bl1 v w'
def pcK (act : Nat → Nat) (k1 : List Nat) : List (Nat × Blk) → List Nat
  | [] => []
  | (n, _) :: r => if mem n k1 then pcK act k1 r else act n :: pcK act k1 r
def pcU (act : Nat → Nat) (k0 : List Nat) : List (Nat × Blk) → List (Nat × Blk)
  | [] => []
  | (n, x) :: r => if mem n k0 then (act n, renBl act x) :: pcU act k0 r else pcU act k0 r
def pcN (act : Nat → Nat) (k0 : List Nat) : List (Nat × Blk) → List (Nat × Blk)
  | [] => []
  | (n, x) :: r => if mem n k0 then pcN act k0 r else (act n, renBl act x) :: pcN act k0 r
theorem mem_pcK {act : Nat → Nat} {k1 : List Nat} {m : Nat} : ∀ {bl0 : List (Nat × Blk)}, m ∈ pcK act k1 bl0 ↔ ∃ n, n ∈ keys bl0 ∧ n ∉ k1 ∧ m = act n
  | [] => by simp [pcK, keys]
  | (n, x) :: r => by
    simp only [pcK, keys]
    by_cases h : n ∈ k1
    · rw [if_pos (mem_iff.2 h), mem_pcK]
      constructor
      · rintro ⟨k, h1, h2⟩; exact ⟨k, List.mem_cons_of_mem _ h1, h2⟩
      · rintro ⟨k, h1, h2, h3⟩
        rcases List.mem_cons.1 h1 with rfl | h1
        · exact absurd h h2
        · exact ⟨k, h1, h2, h3⟩
    · rw [if_neg (by rw [mem_iff]; exact h), List.mem_cons, mem_pcK]
      constructor
      · rintro (rfl | ⟨k, h1, h2⟩)
        · exact ⟨n, List.mem_cons_self .., h, rfl⟩
        · exact ⟨k, List.mem_cons_of_mem _ h1, h2⟩
      · rintro ⟨k, h1, h2, h3⟩
        rcases List.mem_cons.1 h1 with rfl | h1
        · exact .inl h3
        · exact .inr ⟨k, h1, h2, h3⟩
theorem get_isSome {α : Type} {n : Nat} {l : List (Nat × α)} : n ∈ keys l ↔ (get n l).isSome = true := by
  rw [mem_keys, Option.isSome_iff_exists]
theorem get_pcU {act : Nat → Nat} {k0 : List Nat} {m : Nat} {y : Blk} : ∀ {bl1 : List (Nat × Blk)}, (keys bl1).Nodup → get m (pcU act k0 bl1) = some y → ∃ n x, get n bl1 = some x ∧ n ∈ k0 ∧ m = act n ∧ y = renBl act x
  | [], _, h => by simp [pcU, get] at h
  | (n, x) :: r, hd, h => by
    simp only [pcU] at h
    simp only [keys, List.nodup_cons] at hd
    have ih : get m (pcU act k0 r) = some y → ∃ n' x', get n' ((n, x) :: r) = some x' ∧ n' ∈ k0 ∧ m = act n' ∧ y = renBl act x' := fun h => by
      obtain ⟨n', x', h1, h2, h3, h4⟩ := get_pcU hd.2 h
      by_cases e : n = n'
      · subst e
        exact absurd (mem_keys.2 ⟨_, h1⟩) hd.1
      · exact ⟨n', x', by rw [get, if_neg e]; exact h1, h2, h3, h4⟩
    split at h
    · rename_i hm
      simp only [get] at h
      split at h
      · rename_i e
        cases h
        exact ⟨n, x, by simp [get], mem_iff.1 hm, e.symm, rfl⟩
      · exact ih h
    · exact ih h
theorem get_pcN {act : Nat → Nat} {k0 : List Nat} {m : Nat} {y : Blk} : ∀ {bl1 : List (Nat × Blk)}, (keys bl1).Nodup → get m (pcN act k0 bl1) = some y → ∃ n x, get n bl1 = some x ∧ n ∉ k0 ∧ m = act n ∧ y = renBl act x
  | [], _, h => by simp [pcN, get] at h
  | (n, x) :: r, hd, h => by
    simp only [pcN] at h
    simp only [keys, List.nodup_cons] at hd
    have ih : get m (pcN act k0 r) = some y → ∃ n' x', get n' ((n, x) :: r) = some x' ∧ n' ∉ k0 ∧ m = act n' ∧ y = renBl act x' := fun h => by
      obtain ⟨n', x', h1, h2, h3, h4⟩ := get_pcN hd.2 h
      by_cases e : n = n'
      · subst e
        exact absurd (mem_keys.2 ⟨_, h1⟩) hd.1
      · exact ⟨n', x', by rw [get, if_neg e]; exact h1, h2, h3, h4⟩
    split at h
    · exact ih h
    · rename_i hm
      simp only [get] at h
      split at h
      · rename_i e
        cases h
        exact ⟨n, x, by simp [get], by rw [← mem_iff]; simpa using hm, e.symm, rfl⟩
      · exact ih h
theorem pcU_mem {act : Nat → Nat} {k0 : List Nat} {n : Nat} : ∀ {bl1 : List (Nat × Blk)}, n ∈ keys bl1 → n ∈ k0 → act n ∈ keys (pcU act k0 bl1)
  | [], h, _ => by simp [keys] at h
  | (k, x) :: r, h, h0 => by
    simp only [keys, List.mem_cons] at h
    simp only [pcU]
    rcases h with rfl | h
    · rw [if_pos (mem_iff.2 h0)]; simp [keys]
    · split
      · simp only [keys]; exact List.mem_cons_of_mem _ (pcU_mem h h0)
      · exact pcU_mem h h0
theorem pcN_mem {act : Nat → Nat} {k0 : List Nat} {n : Nat} : ∀ {bl1 : List (Nat × Blk)}, n ∈ keys bl1 → n ∉ k0 → act n ∈ keys (pcN act k0 bl1)
  | [], h, _ => by simp [keys] at h
  | (k, x) :: r, h, h0 => by
    simp only [keys, List.mem_cons] at h
    simp only [pcN]
    rcases h with rfl | h
    · rw [if_neg (by rw [mem_iff]; exact h0)]; simp [keys]
    · split
      · exact pcN_mem h h0
      · simp only [keys]; exact List.mem_cons_of_mem _ (pcN_mem h h0)
/-- what such a call does -/
def pcE (act : Nat → Nat) (bl0 : List (Nat × Blk)) (v0 : AV) (bl1 : List (Nat × Blk)) : Eff :=
  { v := renF act v0, kl := pcK act (keys bl1) bl0, up := pcU act (keys bl0) bl1, nw := pcN act (keys bl0) bl1 }
section
variable {X : Cx} {ops : Array Oper} {σ : AS}
theorem inl_pc {dst : Option Nat} {f : Operand} {args : Array Operand} {types : Array TypeId} {ty : Nat} {pos : String} {af : Array Edge} {g : Nat} {caps fa : List AV} {bl0 bl1 : List (Nat × Blk)} {v0 : AV} {e : Eff} (act : Nat → Nat) (hf : ev σ f = .func g caps)
    (hargs : args.toList.map (ev σ) ++ caps = renFs act fa) (hbl : ∀ n x, get n bl0 = some x → blk σ (act n) = some (renBl act x)) (hd : (keys bl1).Nodup)
    (hinj : ∀ n m, n ∈ keys bl0 ++ keys bl1 → m ∈ keys bl0 ++ keys bl1 → act n = act m → n = m) (hnew : ∀ n, n ∈ keys bl1 → n ∉ keys bl0 → blk σ (act n) = none)
    (hpc : PC X.P X.D g fa bl0 v0 bl1) (hdst : ∀ k, dst = some k → k < σ.nt) (he : e = pcE act bl0 v0 bl1) :
    InlOp X ops ⟨dst, .call ⟨.value f, args, types⟩, ty, pos, af, none⟩ σ (fun σ' => Eqv (apply σ dst e) σ') := by
  subst he
  refine ⟨fun γ a w i Qx hi ⟨ρ00, hst00⟩ => ?_⟩
  obtain ⟨⟨fn, hfn, hname, hbody⟩, hclos, hnd0, hnd1, hcall⟩ := hpc
  -- names of the call's blocks, with nothing behind their cells
  obtain ⟨ρ, hst, hnoh⟩ : ∃ ρ, St0 X.D X.S X.N0 X.B ⟨X.w0, γ⟩ ρ σ a w ∧ ∀ n, n ∈ keys bl0 → (ρ (act n)).h = fun _ => none := by
    classical
    refine ⟨fun n => if ∃ k, k ∈ keys bl0 ∧ act k = n then noh (ρ00 n) else ρ00 n, hst00.coreq (fun n => ?_) (fun n x hx => ?_), fun n hn => ?_⟩
    · split
      · exact noh_core
      · exact Core.refl
    · by_cases h : ∃ k, k ∈ keys bl0 ∧ act k = n
      · obtain ⟨k, hk, rfl⟩ := h
        obtain ⟨y, hy⟩ := mem_keys.1 hk
        have := hbl k y hy
        rw [hx] at this
        cases this
        exact .inl (by rw [nd_ren]; exact hnd0 k y hy)
      · exact .inr (if_neg h)
    · show (if ∃ k, k ∈ keys bl0 ∧ act k = act n then noh (ρ00 (act n)) else ρ00 (act n)).h = _
      rw [if_pos ⟨n, hn, rfl⟩]
      rfl
  have hvf := (hst.ev f).1
  rw [hf] at hvf
  generalize hV : a.eval f = V at hvf
  cases hvf with
  | func g cs fvs hl hval =>
  have hra : Rels w (Im X.S X.N0 X.B w ρ σ) ρ (args.toList.map (ev σ)) (args.toList.map a.eval) := by
    refine ⟨by simp, fun k x v hx hv => ?_⟩
    rw [List.getElem?_map] at hx hv
    obtain ⟨y, hy, rfl⟩ := Option.map_eq_some_iff.1 hx
    rw [hy] at hv
    cases hv
    exact (hst.ev y).1
  have hra := hra.append (ys := caps) (vs := fvs.toList) ⟨by simpa using hl, fun i x v hx hv => hval i x v hx (by simpa using hv)⟩
  rw [hargs, renFs_eq] at hra
  have size0 : X.B ≤ w.heap.size := Nat.le_trans hst.base hst.frm.size
  have hcall := hcall w (Im X.S X.N0 X.B w ρ σ) (fun n => noh (ρ (act n))) (args.map a.eval ++ fvs) (fun n => rfl) (fun b hb => hb.1) (by
      refine ⟨by have := hra.1; simpa using this, fun k x v hx hv => ?_⟩
      exact ((hra.2 k (renF act x) v (by rw [List.getElem?_map, hx]; rfl) (by simpa using hv)).unF).core (fun _ h => h) fun n _ => noh_core)
    ⟨fun n x hx => ((hst.hp.blk _ _ (hbl n x hx)).unF (hnd0 n x hx)).coreN (fun n => noh_core) (.inl (hnd0 n x hx)) fun _ h => h,
      fun n m b x y hx hy h1 h2 => hinj n m (List.mem_append_left _ (mem_keys.2 ⟨_, hx⟩)) (List.mem_append_left _ (mem_keys.2 ⟨_, hy⟩)) (hst.hp.inj _ _ b _ _ (hbl n x hx) (hbl m y hy) (owns_b (show (ρ (act n)).b = some b from (owns_nd (ρ := fun n => noh (ρ (act n))) (hnd0 n x hx)).1 h1)) (owns_b (show (ρ (act m)).b = some b from (owns_nd (ρ := fun n => noh (ρ (act n))) (hnd0 m y hy)).1 h2))),
      fun n x b hx hb => hst.hp.off _ _ b (hbl n x hx) (owns_b (show (ρ (act n)).b = some b from (owns_nd (ρ := fun n => noh (ρ (act n))) (hnd0 n x hx)).1 hb)), fun b hb => hb.1, fun n x hx m hm => by
        cases x with
        | cells cs => exact get_isSome.1 (hclos n cs hx m hm)
        | rows _ _ _ => cases hm
        | deep _ _ _ _ _ => exact absurd (hnd0 n _ hx) (by simp [nd])⟩
  refine wpOp_plain hi rfl ?_
  unfold Oper.wp
  have hex : (execOp a.eval ⟨dst, .call ⟨.value f, args, types⟩, ty, pos, af, none⟩).run X.P w = .ok (.enter g (args.map a.eval ++ fvs)) w := by
    have hn' : ¬ fn.name = "runtime.NumGoroutine" := by simpa using hname
    have hb' : ¬ fn.body = none := by rintro e; rw [e] at hbody; cases hbody
    simp [execOp, resolve, hV, Deferred.ofValue, invoke, callFunc, program, Sem.run, hfn, hn', hb']
  rw [hex, Oper.upon_enter]
  refine hcall.mono fun en w' ⟨v, he, hfrm, ρ', hnoh1, hkeep0, hhp, hown, hrel, hnm⟩ => ?_
  subst he
  have hkeep : ∀ n, n ∈ keys bl0 → n ∈ keys bl1 → ρ' n = ρ (act n) := fun n q1 q2 => by
    rw [hkeep0 n q1 q2]
    exact noh_eq noh_core rfl (hnoh n q1)
  have hNs : ∀ b, NsB (fun n => noh (ρ (act n))) bl0 b → NsB (fun n => ρ (act n)) bl0 b := fun b ⟨n, q1, q2⟩ => ⟨n, q1, q2⟩
  have hNs' : ∀ b, NsB (fun n => ρ (act n)) bl0 b → NsB (fun n => noh (ρ (act n))) bl0 b := fun b ⟨n, q1, q2⟩ => ⟨n, q1, q2⟩
  have o1 : ∀ n z b, get n bl1 = some z → (owns ρ' n z b ↔ (ρ' n).b = some b) := fun n z b hz => owns_nd (hnd1 n z hz)
  have hi0 : ∀ n m, n ∈ keys bl0 → m ∈ keys bl0 → act n = act m → n = m := fun n m h1 h2 => hinj n m (List.mem_append_left _ h1) (List.mem_append_left _ h2)
  have hi1 : ∀ n m, n ∈ keys bl1 → m ∈ keys bl1 → act n = act m → n = m := fun n m h1 h2 => hinj n m (List.mem_append_right _ h1) (List.mem_append_right _ h2)
  have hi01 : ∀ n m, n ∈ keys bl0 → m ∈ keys bl1 → act n = act m → n = m := fun n m h1 h2 => hinj n m (List.mem_append_left _ h1) (List.mem_append_right _ h2)
  -- the caller's names
  let ρ2 : Env := fun n => match (keys bl1).find? (fun k => act k == n) with | some k => ρ' k | none => ρ n
  have hρk : ∀ k, k ∈ keys bl1 → ρ2 (act k) = ρ' k := fun k hk => by
    show (match (keys bl1).find? (fun j => act j == act k) with | some k => ρ' k | none => ρ (act k)) = _
    cases hfd : (keys bl1).find? (fun j => act j == act k) with
    | none => exact absurd (by simp) (List.find?_eq_none.1 hfd k hk)
    | some j =>
      have h1 := List.find?_some hfd
      rw [hi1 j k (List.mem_of_find?_eq_some hfd) hk (by simpa using h1)]
  have hρn : ∀ n, (∀ k, k ∈ keys bl1 → act k ≠ n) → ρ2 n = ρ n := fun n hn => by
    show (match (keys bl1).find? (fun j => act j == n) with | some k => ρ' k | none => ρ n) = _
    have : (keys bl1).find? (fun j => act j == n) = none := List.find?_eq_none.2 fun k hk => by simpa using hn k hk
    rw [this]
  have hb0 : ∀ n, n ∈ keys bl0 → ∃ x, blk σ (act n) = some x := fun n hn => by
    obtain ⟨x, hx⟩ := mem_keys.1 hn
    exact ⟨_, hbl n x hx⟩
  -- a bound name of old is kept, or killed
  have hold : ∀ n, (blk σ n).isSome = true → n ∉ pcK act (keys bl1) bl0 → ρ2 n = ρ n := fun n hn hk => by
    by_cases h : ∃ k, k ∈ keys bl1 ∧ act k = n
    · obtain ⟨k, hk1, rfl⟩ := h
      rw [hρk k hk1]
      by_cases hk0 : k ∈ keys bl0
      · exact hkeep k hk0 hk1
      · rw [hnew k hk1 hk0] at hn; cases hn
    · exact hρn n fun k hk1 e => h ⟨k, hk1, e⟩
  have himF : ∀ b, imOf (Im X.S X.N0 X.B w ρ σ) (NsB (fun n => noh (ρ (act n))) bl0) w.heap.size w' ρ' (fun n => get n bl1) b → imOf X.S X.N0 X.B w' ρ2 (blk (stepS σ (pcK act (keys bl1) bl0) (pcN act (keys bl0) bl1) (pcU act (keys bl0) bl1))) b := by
    rintro b ⟨h1, h2, h3⟩
    refine ⟨h1, ?_, fun n x hx hb => ?_⟩
    · rcases h2 with h2 | h2 | ⟨n, hn, hb⟩
      · exact h2.2.1
      · exact .inr (.inl (by omega))
      · obtain ⟨x, hx⟩ := hb0 n hn
        exact .inr (hst.own _ _ b hx (owns_b hb))
    · by_cases h : ∃ k, k ∈ keys bl1 ∧ act k = n
      · obtain ⟨k, hk1, rfl⟩ := h
        obtain ⟨y, hy⟩ := mem_keys.1 hk1
        have hxn : nd x = true := by
          have hsome : ∃ z, get k bl1 = some z ∧ x = renBl act z := by
            have hx2 := hx
            rw [blk_step] at hx2
            by_cases hk0 : k ∈ keys bl0
            · obtain ⟨u, hu⟩ := mem_keys.1 (pcU_mem (act := act) hk1 hk0)
              have hn1 : act k ∉ keys (pcN act (keys bl0) bl1) := fun hm => by
                obtain ⟨y', hy'⟩ := mem_keys.1 hm
                obtain ⟨j, z, q1, q2, q3, q4⟩ := get_pcN hd hy'
                have := hi1 k j hk1 (mem_keys.2 ⟨_, q1⟩) q3
                subst this
                exact q2 hk0
              rw [get_none.2 hn1, hu] at hx2
              cases hx2
              obtain ⟨j, z, q1, q2, q3, q4⟩ := get_pcU hd hu
              have := hi1 k j hk1 (mem_keys.2 ⟨_, q1⟩) q3
              subst this
              exact ⟨z, q1, q4⟩
            · obtain ⟨u, hu⟩ := mem_keys.1 (pcN_mem (act := act) hk1 hk0)
              rw [hu] at hx2
              cases hx2
              obtain ⟨j, z, q1, q2, q3, q4⟩ := get_pcN hd hu
              have := hi1 k j hk1 (mem_keys.2 ⟨_, q1⟩) q3
              subst this
              exact ⟨z, q1, q4⟩
          obtain ⟨z, hz, rfl⟩ := hsome
          rw [nd_ren]
          exact hnd1 k z hz
        have hb := (owns_nd hxn).1 hb
        rw [hρk k hk1] at hb
        exact h3 k y hy ((o1 k y b hy).2 hb)
      · have h' : ∀ k, k ∈ keys bl1 → act k ≠ n := fun k hk1 e => h ⟨k, hk1, e⟩
        have hb := (owns_congr (hρn n h')).1 hb
        rw [blk_step] at hx
        have hn1 : n ∉ keys (pcN act (keys bl0) bl1) := fun hm => by
          obtain ⟨y, hy⟩ := mem_keys.1 hm
          obtain ⟨k, z, q1, q2, q3, q4⟩ := get_pcN hd hy
          exact h' k (mem_keys.2 ⟨_, q1⟩) q3.symm
        have hn2 : n ∉ keys (pcU act (keys bl0) bl1) := fun hm => by
          obtain ⟨y, hy⟩ := mem_keys.1 hm
          obtain ⟨k, z, q1, q2, q3, q4⟩ := get_pcU hd hy
          exact h' k (mem_keys.2 ⟨_, q1⟩) q3.symm
        rw [get_none.2 hn1, get_none.2 hn2] at hx
        simp only at hx
        split at hx
        · cases hx
        rename_i hnk
        obtain ⟨y, hy, rfl⟩ := mapBlk_some hx
        have hb := owns_map.1 hb
        rcases h2 with h2 | h2 | ⟨m, hm, hb'⟩
        · exact h2.2.2 n y hy hb
        · have := hst.owns_lt hy hb
          omega
        · obtain ⟨z, hz⟩ := hb0 m hm
          have := hst.hp.inj _ _ b _ _ hy hz hb (owns_b hb')
          subst this
          by_cases hm1 : m ∈ keys bl1
          · exact h' m hm1 rfl
          · exact hnk (mem_pcK.2 ⟨m, hm, hm1, rfl⟩)
  have hbound : ∀ k, k ∈ keys bl1 → (blk (stepS σ (pcK act (keys bl1) bl0) (pcN act (keys bl0) bl1) (pcU act (keys bl0) bl1)) (act k)).isSome = true := fun k hk => by
    rw [blk_step]
    by_cases hk0 : k ∈ keys bl0
    · have := pcU_mem (act := act) hk hk0
      obtain ⟨y, hy⟩ := mem_keys.1 this
      split
      · rfl
      · rw [hy]; rfl
    · have := pcN_mem (act := act) hk hk0
      obtain ⟨y, hy⟩ := mem_keys.1 this
      rw [hy]; rfl
  have hst' := (hst.step (w' := w') (ρ' := ρ2) (ks := pcK act (keys bl1) bl0) (nw := pcN act (keys bl0) bl1) (up := pcU act (keys bl0) bl1) hfrm.os hfrm.tape hfrm.output hfrm.size
    (fun b hb hn => hfrm.block b hb fun ⟨n, hn0, hbn⟩ => by
      obtain ⟨x, hx⟩ := hb0 n hn0
      refine hn (act n) x ?_ hx (owns_b hbn)
      by_cases hn1 : n ∈ keys bl1
      · exact .inr (pcU_mem hn1 hn0)
      · exact .inl (mem_pcK.2 ⟨n, hn0, hn1, rfl⟩))
    hold
    (fun n hn => by
      obtain ⟨y, hy⟩ := mem_keys.1 hn
      obtain ⟨k, z, q1, q2, rfl, q4⟩ := get_pcN hd hy
      exact hnew k (mem_keys.2 ⟨_, q1⟩) q2)
    (fun n hn => by
      obtain ⟨y, hy⟩ := mem_keys.1 hn
      obtain ⟨k, z, q1, q2, rfl, q4⟩ := get_pcU hd hy
      obtain ⟨x, hx⟩ := hb0 k q2
      refine ⟨by rw [hx]; rfl, fun hk => ?_⟩
      obtain ⟨j, j1, j2, j3⟩ := mem_pcK.1 hk
      have := hi01 j k j1 (mem_keys.2 ⟨_, q1⟩) j3.symm
      subst this
      exact j2 (mem_keys.2 ⟨_, q1⟩))
    (fun _ n y hy => by
      obtain ⟨k, z, q1, rfl, rfl⟩ : ∃ k z, get k bl1 = some z ∧ n = act k ∧ y = renBl act z := by
        rcases hy with hy | ⟨_, hy⟩
        · obtain ⟨k, z, q1, q2, q3, q4⟩ := get_pcN hd hy
          exact ⟨k, z, q1, q3, q4⟩
        · obtain ⟨k, z, q1, q2, q3, q4⟩ := get_pcU hd hy
          exact ⟨k, z, q1, q3, q4⟩
      refine ⟨(hhp.blk k z q1).renF himF (hρk k (mem_keys.2 ⟨_, q1⟩)) (fun cs e m hm => ?_) (hnd1 k z q1), fun m hm => ?_⟩
      · subst e
        exact hρk m (get_isSome.2 (hhp.closed k cs q1 m hm))
      · cases z with
        | rows _ _ _ => cases hm
        | deep _ _ _ _ _ => exact absurd (hnd1 k _ q1) (by simp [nd])
        | cells cs' =>
          obtain ⟨j, hj, rfl⟩ := (namess_renFs act cs' m).1 hm
          exact hbound j (get_isSome.2 (hhp.closed k cs' q1 j hj)))
    (fun n y b hn hb => by
      obtain ⟨k, z, q1, q2, rfl, rfl⟩ := get_pcN hd hn
      have hk1 : k ∈ keys bl1 := mem_keys.2 ⟨_, q1⟩
      have hb := (owns_nd (by rw [nd_ren]; exact hnd1 k z q1)).1 hb
      rw [hρk k hk1] at hb
      refine ⟨?_, (hhp.blk k z q1).lt (owns_b hb)⟩
      rcases hown k z b q1 hb with h | ⟨j, hj, hbj⟩
      · exact .inl h
      · obtain ⟨x, hx⟩ := hb0 j hj
        refine .inr ⟨act j, x, mem_pcK.2 ⟨j, hj, fun hj1 => ?_, rfl⟩, hx, owns_b hbj⟩
        obtain ⟨u, hu⟩ := mem_keys.1 hj1
        have hbj : (ρ (act j)).b = some b := hbj
        rw [← hkeep j hj hj1] at hbj
        have := hhp.inj k j b z u q1 hu (owns_b hb) (owns_b hbj)
        subst this
        exact q2 hj)
    (fun n m y y' b hn hm hb hb' => by
      obtain ⟨k, z, q1, q2, rfl, rfl⟩ := get_pcN hd hn
      obtain ⟨j, z', p1, p2, rfl, rfl⟩ := get_pcN hd hm
      have hb := (owns_nd (by rw [nd_ren]; exact hnd1 k z q1)).1 hb
      have hb' := (owns_nd (by rw [nd_ren]; exact hnd1 j z' p1)).1 hb'
      rw [hρk k (mem_keys.2 ⟨_, q1⟩)] at hb
      rw [hρk j (mem_keys.2 ⟨_, p1⟩)] at hb'
      rw [hhp.inj k j b z z' q1 p1 (owns_b hb) (owns_b hb')])
    (fun n y z b hn hz hb => by
      obtain ⟨k, u, q1, q2, rfl, rfl⟩ := get_pcU hd hn
      exact owns_b ((owns_nd (by rw [nd_ren]; exact hnd1 k u q1)).1 hb))).1
  have hm : Mak X.D X.S X.N0 X.B ⟨X.w0, γ⟩ σ a (pcE act bl0 v0 bl1) v w' := by
    refine ⟨ρ2, hst', hrel.renF himF fun n hn => hρk n (hnm n hn), fun n hn => ?_⟩
    obtain ⟨k, hk, rfl⟩ := (names_renF act v0 n).1 hn
    exact hbound k (hnm k hk)
  exact ⟨_, Eqv.refl _, hm.fin hdst⟩
end
end Go.Proofs.Ythbejciebmkclaa.Ab
namespace Go.Proofs.Ythbejciebmkclaa.Ab
open Go
set_option linter.unusedVariables false
set_option linter.unusedSimpArgs false

/-- what a name stands for, in a temporary of a frame that waits -/
def pin (n : Nat) : AV := .tup [.ptr n 0, .os n, .eptr n 1 0]
def pinT : Nat → List Nat → List (Nat × AV)
  | _, [] => []
  | k, n :: r => (65536 + k, pin n) :: pinT (k + 1) r
def argP (n : Nat) (args : List AV) (bl0 : List (Nat × Blk)) (ps : List Nat) : AS := { nt := n, tm := num 0 args ++ pinT 0 ps, bl := here bl0 }
def resP (n : Nat) (ts : List Nat) (v0 : AV) (bl1 : List (Nat × Blk)) (ps : List Nat) : AS := { nt := n, tm := resT ts v0 ++ pinT 0 ps, bl := here bl1 }
theorem get_pinT {t : Nat} {x : AV} : ∀ {ps : List Nat} {k : Nat}, get t (pinT k ps) = some x → ∃ i n, ps[i]? = some n ∧ t = 65536 + k + i ∧ x = pin n
  | [], k, h => by simp [pinT, get] at h
  | n :: r, k, h => by
    simp only [pinT, get] at h
    split at h
    · rename_i e
      cases h
      exact ⟨0, n, rfl, by omega, rfl⟩
    · obtain ⟨i, m, h1, h2, h3⟩ := get_pinT h
      exact ⟨i + 1, m, by simpa using h1, by omega, h3⟩
theorem pinT_get : ∀ {ps : List Nat} {k i n : Nat}, ps[i]? = some n → get (65536 + k + i) (pinT k ps) = some (pin n)
  | [], _, _, _, h => by simp at h
  | m :: r, k, 0, n, h => by simp at h; subst h; simp [pinT, get]
  | m :: r, k, i + 1, n, h => by
    simp only [pinT, get]
    rw [if_neg (by omega), show 65536 + k + (i + 1) = 65536 + (k + 1) + i by omega]
    exact pinT_get (by simpa using h)
theorem blk_here (n : Nat) (tm : List (Nat × AV)) (bl : List (Nat × Blk)) (m : Nat) : blk { nt := n, tm := tm, bl := here bl } m = get m bl := by
  simp only [blk, get_here]
  cases get m bl <;> rfl
theorem resT_lt {t : Nat} {x : AV} {v0 : AV} : ∀ {ts : List Nat}, ts.all (fun t => decide (t < 65536)) = true → get t (resT ts v0) = some x → t < 65536 := by
  have key : ∀ (ts : List Nat) (vs : List AV), ts.all (fun t => decide (t < 65536)) = true → get t (resT.resT' ts vs) = some x → t < 65536 := by
    intro ts
    induction ts with
    | nil => intro vs _ h; cases vs <;> simp [resT.resT', get] at h
    | cons u ts ih =>
      intro vs hall h
      simp only [List.all_cons, Bool.and_eq_true, decide_eq_true_eq] at hall
      cases vs with
      | nil => simp [resT.resT', get] at h
      | cons v vs =>
        simp only [resT.resT', get] at h
        split at h
        · omega
        · exact ih vs hall.2 h
  intro ts hall h
  unfold resT at h
  split at h
  · simp only [get] at h
    split at h
    · rename_i e; subst e; simpa using hall
    · cases h
  · rename_i u us v vs _
    exact key (_ :: _) (_ :: _) (by assumption) h
  · simp [get] at h
theorem ndB_of {bl0 : List (Nat × Blk)} (h : ∀ p ∈ bl0, nd p.2 = true) : ndB bl0 := by
  intro n x hn
  induction bl0 with
  | nil => simp [get] at hn
  | cons p r ih =>
    obtain ⟨k, y⟩ := p
    simp only [get] at hn
    split at hn
    · cases hn; exact h _ (List.mem_cons_self ..)
    · exact ih (fun p hp => h p (List.mem_cons_of_mem _ hp)) hn
theorem closB_of {bl0 : List (Nat × Blk)} (h : ∀ p ∈ bl0, (match p.2 with | .cells cs => subs (namess cs) (keys bl0) | _ => true) = true) : closB bl0 := by
  intro n cs hn m hm
  have key : ∀ (l : List (Nat × Blk)), get n l = some (.cells cs) → ∃ p ∈ l, p.2 = .cells cs := by
    intro l
    induction l with
    | nil => intro h; simp [get] at h
    | cons p r ih =>
      intro h
      obtain ⟨k, x⟩ := p
      simp only [get] at h
      split at h
      · cases h; exact ⟨_, List.mem_cons_self .., rfl⟩
      · obtain ⟨p, h1, h2⟩ := ih h
        exact ⟨p, List.mem_cons_of_mem _ h1, h2⟩
  obtain ⟨p, h1, h2⟩ := key bl0 hn
  have := h p h1
  rw [h2] at this
  exact subs_mem this hm
theorem pc_of {P : Program} {D : Nat → TI} {G : Ctr} {M : MCtr} (hM : MOk P D G M) (hm : P.follows .mixedOrders = true) (hT : TOk P D) (hG : GOk P D G) {f : Nat} {fn : Func} {c : Code} {rs : List (Nat × Option Nat)} {args : List AV} {v0 : AV} {bl0 bl1 : List (Nat × Blk)} (ps : List Nat)
    (hf : P.funcs[f]? = some fn) (hb : fn.body = some c) (hname : (fn.name == "runtime.NumGoroutine") = false) (hres : fn.results = (rs.map toRV).toArray) (hd : (rs.map (·.1)).Nodup) (hfit : resFit (rs.map (·.1)) v0 = true) (hts : (rs.map (·.1)).all (fun t => decide (t < 65536)) = true)
    {n : Nat} (hn : fn.ntmps = n) (hlen : args.length ≤ n ∧ n ≤ 65536) (hnm : ∀ k ∈ namess args, k ∈ keys bl0) (hclos : closB bl0) (hn0 : ndB bl0) (hn1 : ndB bl1) (hps : ∀ k, k ∈ ps → ∃ cs, get k bl0 = some (.cells cs)) (hkeep : ∀ k, k ∈ keys bl0 → k ∈ keys bl1 → k ∈ ps)
    (h : ∀ X : Cx, X.P = P → X.D = D ∧ X.nb = 0 ∧ X.M = M → X.G = G → X.Ok → Tr X c (fun e σ' => (e = .normal ∨ e = .ret) ∧ ∃ σ1, unbox D rs σ' = some σ1 ∧ ∃ ns rl, Cover D (Ab.freeze σ1 ns) (resP n (rs.map (·.1)) v0 bl1 ps) rl) (argP n args bl0 ps)) : PC P D f args bl0 v0 bl1 := by
  refine ⟨⟨fn, hf, hname, by rw [hb]; rfl⟩, hclos, hn0, hn1, fun w im ρ vs hnoh him hvs hhp => ?_⟩
  subst hn
  have hsz : vs.size = args.length := by have := hvs.1; simp at this; omega
  let X : Cx := ⟨P, D, G, im, NsB ρ bl0, w.heap.size, w, 0, M⟩
  let γ : Nat → Value := fun k => match ps[k]? with
    | some m => .tuple #[.pointer (some ⟨(ρ m).b.getD 0, 0, none⟩), (ρ m).sv, .pointer (some ⟨(ρ m).b.getD 0, 1 * (ρ m).sz + 0, none⟩)]
    | none => undef
  have hbk : ∀ m, blk (argP fn.ntmps args bl0 ps) m = get m bl0 := fun m => blk_here _ _ _ m
  have hbf : blk (argP fn.ntmps args bl0 ps) = fun m => get m bl0 := funext hbk
  have hi : ∀ b, im b → imOf im (NsB ρ bl0) w.heap.size w ρ (blk (argP fn.ntmps args bl0 ps)) b := fun b hb => ⟨him b hb, .inl hb, fun m x hx hbm => hhp.off m x b (by rw [← hbk]; exact hx) hbm hb⟩
  have o0 : ∀ m x b, get m bl0 = some x → (owns ρ m x b ↔ (ρ m).b = some b) := fun m x b hx => owns_nd (hn0 m x hx)
  have hpb : ∀ m, m ∈ ps → ∃ b, (ρ m).b = some b := fun m hm' => by
    obtain ⟨cs, hcs⟩ := hps m hm'
    obtain ⟨b, _, _, h1, _⟩ := hhp.blk m _ hcs
    exact ⟨b, h1⟩
  have hst : X.St γ (argP fn.ntmps args bl0 ps) { tmps := vs ++ Array.replicate (fn.ntmps - vs.size) undef, defers := [] } w := by
    refine ⟨ρ, fun t x hx => ?_, ⟨fun m x hx => ?_, fun m k b x y hx hy => ?_, fun m x b hx hbm hib => hib.2.2 m x hx hbm, fun b hb => hb.1, fun m cs hx k hk => ?_⟩, ⟨by simp [argP]; omega, hlen.2⟩, Nat.le_refl _, ⟨rfl, rfl, rfl, Nat.le_refl _, fun _ _ _ => rfl⟩, fun m x b hx hbm => ?_, rfl⟩
    · simp only [argP, get_append] at hx
      cases hg : get t (num 0 args) with
      | some y =>
        rw [hg] at hx
        cases hx
        obtain ⟨_, hx'⟩ := get_num hg
        simp only [Nat.sub_zero] at hx'
        have hlt : t < args.length := (List.getElem?_eq_some_iff.1 hx').1
        refine ⟨?_, fun k hk => by rw [hbk]; exact get_isSome.1 (hnm k (mem_namess hx' hk))⟩
        have hv : (vs ++ Array.replicate (fn.ntmps - vs.size) undef).getD t undef = vs[t]'(by omega) := by
          rw [Array.getD_eq_getD_getElem?, Array.getElem?_append_left (by omega)]
          simp [show t < vs.size by omega]
        rw [vl, if_pos (by omega)]
        simp only
        rw [hv]
        have := hvs.2 t x (vs[t]'(by omega)) hx' (by simp [show t < vs.size by omega])
        exact this.mono hi (fun _ _ => rfl) (fun _ _ => rfl)
      | none =>
        rw [hg] at hx
        obtain ⟨i, m, h1, h2, h3⟩ := get_pinT hx
        subst h3
        have hmp := List.mem_of_getElem? h1
        obtain ⟨b, hb'⟩ := hpb m hmp
        obtain ⟨cs, hcs⟩ := hps m hmp
        have hv : vl γ { tmps := vs ++ Array.replicate (fn.ntmps - vs.size) undef, defers := [] } t = .tuple #[.pointer (some ⟨b, 0, none⟩), (ρ m).sv, .pointer (some ⟨b, 1 * (ρ m).sz + 0, none⟩)] := by
          rw [vl, if_neg (by omega)]
          show (match ps[t - 65536]? with | some m => _ | none => undef) = _
          rw [show t - 65536 = i by omega, h1]
          simp [hb']
        refine ⟨?_, fun k hk => ?_⟩
        · show Rel _ _ _ _ (vl γ _ t)
          rw [hv]
          refine .tup _ _ rfl fun j x v hx hv => ?_
          match j with
          | 0 => simp at hx hv; subst hx hv; exact .ptr m 0 b hb'
          | 1 => simp at hx hv; subst hx hv; exact .os m
          | 2 => simp only [List.getElem?_cons_succ, List.getElem?_cons_zero, Option.some.injEq, List.getElem?_toArray] at hx hv; subst hx hv; exact .eptr m 1 0 b hb'
          | j + 3 => simp at hx
        · have : k = m := by simpa [pin, names, namess] using hk
          rw [this, hbk, hcs]; rfl
    · rw [hbk] at hx
      exact (hhp.blk m x hx).mono rfl (fun _ _ => rfl) hi (fun _ _ => rfl) (fun _ _ => rfl)
    · rw [hbk] at hx hy
      exact hhp.inj m k b x y hx hy
    · rw [hbk] at hx ⊢
      exact hhp.clos m cs hx k hk
    · rw [hbk] at hx
      exact .inr ⟨m, mem_keys.2 ⟨_, hx⟩, (o0 m x b hx).1 hbm⟩
  refine calls_of_wp hf hb (wp_mono (h X rfl ⟨rfl, rfl, rfl⟩ rfl (hM.ok rfl rfl rfl rfl hm hT hG) γ _ w hst) fun e a0 w' ⟨σ', ⟨he, σ1, hub, ns, rl, hcov⟩, hs⟩ => ?_)
  obtain ⟨ρ1, hs⟩ := hs
  have hdf := hs.defers
  obtain ⟨a, hs, _, hrun⟩ := unbox_ok hT rs σ' σ1 a0 hd hs hub
  have hrun := results_rs hres hrun
  generalize hts' : rs.map (·.1) = ts at *
  obtain ⟨ρ2, hs⟩ := (hs.freeze ns).cover hcov
  have hbk1 : blk (resP fn.ntmps ts v0 bl1 ps) = fun m => get m bl1 := funext fun m => blk_here _ _ _ m
  have hs := hs.coreq (ρ' := fun n => noh (ρ2 n)) (fun n => noh_core) (fun n x hx => .inl (hn1 n x (by rw [hbk1] at hx; exact hx)))
  have hnoh2 : ∀ n, ((fun n => noh (ρ2 n)) n).h = fun _ => none := fun n => rfl
  generalize (fun n => noh (ρ2 n)) = ρ2 at hs hnoh2
  have hval : Rel w' (imOf im (NsB ρ bl0) w.heap.size w' ρ2 (fun m => get m bl1)) ρ2 v0 (resV ts a.tmps) ∧ ∀ k ∈ names v0, k ∈ keys bl1 := by
    have one : ∀ t x, t < 65536 → get t (resT ts v0) = some x → Rel w' (imOf im (NsB ρ bl0) w.heap.size w' ρ2 (fun m => get m bl1)) ρ2 x (a.tmps.getD t undef) ∧ ∀ k ∈ names x, k ∈ keys bl1 := fun t x h6 hx => by
      have h7 := hs.tm t x (by simp only [resP, get_append, hx])
      have h8 := h7.1
      have h9 := h7.2
      rw [vl, if_pos h6] at h8
      rw [hbk1] at h8 h9
      exact ⟨h8, fun k hk => get_isSome.2 (h9 k hk)⟩
    match ts, hd, hfit, one with
    | [t], _, hfit, one => exact one t v0 (by simpa [resFit] using hfit) (by simp [resT, get])
    | [], _, hfit, _ =>
      cases v0 with
      | tup l =>
        cases l with
        | nil => exact ⟨.tup [] #[] rfl (by simp), by simp [names, namess]⟩
        | cons x l => simp [resFit] at hfit
      | _ => simp [resFit] at hfit
    | t :: u :: ts, hd, hfit, one =>
      cases hrv : v0 <;> rw [hrv] at hfit <;> simp only [resFit] at hfit <;> try (cases hfit; done)
      rename_i vs'
      rw [Bool.and_eq_true] at hfit
      have hl : vs'.length = (t :: u :: ts).length := by simpa using hfit.1
      have h6 : ∀ (i : Nat) s, (t :: u :: ts)[i]? = some s → s < 65536 := fun i s hi => by simpa using List.all_eq_true.1 hfit.2 s (List.mem_of_getElem? hi)
      rw [hrv] at one
      have hget : ∀ (i : Nat) s, (t :: u :: ts)[i]? = some s → get s (resT (t :: u :: ts) (.tup vs')) = vs'[i]? := fun i s hi => by
        have := resT'_get hd hi hl
        cases vs' with
        | nil => simp at hl
        | cons v vs' => exact this
      refine ⟨.tup vs' _ (by simp [hl]) fun i x v hx hv => ?_, fun k hk => ?_⟩
      · have hi : i < (t :: u :: ts).length := by rw [← hl]; exact (List.getElem?_eq_some_iff.1 hx).1
        have hs1 : (t :: u :: ts)[i]? = some ((t :: u :: ts)[i]) := by simp [hi]
        have := (one _ x (h6 i _ hs1) (by rw [hget i _ hs1]; exact hx)).1
        have hv' : v = a.tmps.getD ((t :: u :: ts)[i]) undef := by
          rw [List.getElem?_toArray, List.getElem?_map, hs1] at hv
          simpa using hv.symm
        rw [hv']
        exact this
      · rw [names] at hk
        obtain ⟨i, x, hx, hk⟩ := namess_mem hk
        have hi : i < (t :: u :: ts).length := by rw [← hl]; exact (List.getElem?_eq_some_iff.1 hx).1
        have hs1 : (t :: u :: ts)[i]? = some ((t :: u :: ts)[i]) := by simp [hi]
        exact (one _ x (h6 i _ hs1) (by rw [hget i _ hs1]; exact hx)).2 k hk
  have hkp : ∀ m, m ∈ ps → ρ2 m = ρ m := fun m hmp => by
    obtain ⟨i, hi'⟩ := List.getElem?_of_mem hmp
    obtain ⟨b, hb'⟩ := hpb m hmp
    have hgt : get (65536 + 0 + i) (resP fn.ntmps ts v0 bl1 ps).tm = some (pin m) := by
      simp only [resP, get_append]
      cases hg : get (65536 + 0 + i) (resT ts v0) with
      | some y => have := resT_lt hts hg; omega
      | none => exact pinT_get hi'
    have h7 := (hs.tm _ _ hgt).1
    have hv : vl γ a (65536 + 0 + i) = .tuple #[.pointer (some ⟨b, 0, none⟩), (ρ m).sv, .pointer (some ⟨b, 1 * (ρ m).sz + 0, none⟩)] := by
      rw [vl, if_neg (by omega)]
      show (match ps[65536 + 0 + i - 65536]? with | some m => _ | none => undef) = _
      rw [show 65536 + 0 + i - 65536 = i by omega, hi']
      simp [hb']
    change Rel _ _ _ _ (vl γ a _) at h7
    rw [hv] at h7
    cases h7 with
    | tup _ _ _ hval =>
    have h0 := hval 0 _ _ rfl rfl
    have h1 := hval 1 _ _ rfl rfl
    have h2 := hval 2 _ _ rfl rfl
    cases h0 with
    | ptr _ _ b0 q0 =>
    generalize hsv : (ρ m).sv = sv at h1
    generalize hpp : (⟨b, 1 * (ρ m).sz + 0, none⟩ : Addr) = pp at h2
    cases h1
    generalize hq : (Value.pointer (some pp)) = qq at h2
    cases h2 with
    | eptr _ _ _ b2 q2 =>
    simp only [Value.pointer.injEq, Option.some.injEq] at hq
    rw [← hpp] at hq
    simp only [Addr.mk.injEq] at hq
    have hsz2 : (ρ2 m).sz = (ρ m).sz := by have := hq.2.1; omega
    simp only [NI.sv, Value.slice.injEq] at hsv
    have k1 := hnoh m
    have k2 := hnoh2 m
    cases hr : ρ m with
    | mk rb rA rn rc rsz rh =>
    cases hr2 : ρ2 m with
    | mk sb sA sn sc ssz sh =>
    rw [hr] at hsv hsz2 hb' k1
    rw [hr2] at hsv hsz2 q0 k2
    simp only at hsv hsz2 q0 hb' k1 k2
    obtain ⟨e1, e2, e3⟩ := hsv
    rw [q0, hb', e1, e2, e3, hsz2, k1, k2]
  have hhp2 := hs.hp
  have hown2 := hs.own
  rw [hbk1] at hhp2
  have hpost : PPost D w im ρ bl0 v0 bl1 (resV ts a.tmps) w' := by
    refine ⟨hs.frm, ρ2, hnoh2, fun m h1 h2 => hkp m (hkeep m h1 h2), hhp2, fun m x b hx hb' => ?_, hval.1, hval.2⟩
    exact hown2 m x b (by rw [hbk1]; exact hx) (owns_b hb')
  rcases he with rfl | rfl
  · exact ⟨hdf, _, hrun, _, rfl, hpost⟩
  · exact ⟨hdf, _, hrun, _, rfl, hpost⟩
end Go.Proofs.Ythbejciebmkclaa.Ab
namespace Go.Proofs.Ythbejciebmkclaa.Ab
open Go
set_option linter.unusedVariables false
set_option linter.unusedSimpArgs false

/-- the caller's names: formal ones from 60000 on are pointers' blocks; others are new -/
def mkAct (dn : Nat) (aa : List Nat) (n : Nat) : Nat := if n < 60000 then dn + 4096 * (n + 1) else aa.getD (n - 60000) 0
theorem mkAct_lo {dn n : Nat} {aa : List Nat} (h : n < 60000) : mkAct dn aa n = dn + 4096 * (n + 1) := if_pos h
theorem mkAct_hi {dn k : Nat} {aa : List Nat} : mkAct dn aa (60000 + k) = aa.getD k 0 := by
  unfold mkAct
  rw [if_neg (Nat.not_lt.2 (Nat.le_add_right _ _)), Nat.add_sub_cancel_left]
theorem mkAct_inj {dn n m np : Nat} {aa : List Nat} (h : aa.Nodup) (hl : aa.length = np) (a1 : 60000 ≤ n) (a2 : n < 60000 + np) (b1 : 60000 ≤ m) (b2 : m < 60000 + np) (e : mkAct dn aa n = mkAct dn aa m) : n = m := by
  obtain ⟨i, rfl⟩ := Nat.exists_eq_add_of_le a1
  obtain ⟨j, rfl⟩ := Nat.exists_eq_add_of_le b1
  have i1 : i < aa.length := by rw [hl]; exact Nat.lt_of_add_lt_add_left a2
  have i2 : j < aa.length := by rw [hl]; exact Nat.lt_of_add_lt_add_left b2
  rw [mkAct_hi, mkAct_hi, List.getD_eq_getElem?_getD, List.getD_eq_getElem?_getD, List.getElem?_eq_getElem i1, List.getElem?_eq_getElem i2] at e
  have := (List.getElem_inj h).1 e
  rw [this]
structure PEnt (P : Program) (D : Nat → TI) where
  f : Nat
  X : Type
  np : Nat
  args : X → List AV
  bl0 : X → List (Nat × Blk)
  v0 : X → AV
  bl1 : X → List (Nat × Blk)
  ok : X → Prop
  k0 : ∀ x n, n ∈ keys (bl0 x) → 60000 ≤ n ∧ n < 60000 + np
  k1 : ∀ x n, n ∈ keys (bl1 x) → n < 60000 ∨ n ∈ keys (bl0 x)
  nd : ∀ x, (keys (bl1 x)).Nodup
  inj : ∀ x y dn aa bs (bl : Nat → Option Blk), ok x → ok y → aa.length = np → bs.length = np → renFs (mkAct dn aa) (args x) = renFs (mkAct dn bs) (args y) →
    (∀ n z, get n (bl0 x) = some z → bl (mkAct dn aa n) = some (renBl (mkAct dn aa) z)) → (∀ n z, get n (bl0 y) = some z → bl (mkAct dn bs n) = some (renBl (mkAct dn bs) z)) →
    pcE (mkAct dn aa) (bl0 x) (v0 x) (bl1 x) = pcE (mkAct dn bs) (bl0 y) (v0 y) (bl1 y)
  con : ∀ x, ok x → PC P D f (args x) (bl0 x) (v0 x) (bl1 x)
section
variable {P : Program} {D : Nat → TI}
def PEnt.Match (E : PEnt P D) (dn : Nat) (args : List AV) (bl : Nat → Option Blk) (x : E.X) (aa : List Nat) : Prop :=
  E.ok x ∧ aa.length = E.np ∧ aa.Nodup ∧ renFs (mkAct dn aa) (E.args x) = args ∧ ∀ n z, get n (E.bl0 x) = some z → bl (mkAct dn aa n) = some (renBl (mkAct dn aa) z)
open Classical in
noncomputable def PEnt.eff (E : PEnt P D) (dn : Nat) (args : List AV) (bl : Nat → Option Blk) : Option Eff :=
  if h : ∃ p : E.X × List Nat, E.Match dn args bl p.1 p.2 then some (pcE (mkAct dn h.choose.2) (E.bl0 h.choose.1) (E.v0 h.choose.1) (E.bl1 h.choose.1)) else none
noncomputable def pcM : List (PEnt P D) → MCtr
  | [], _, _, _, _ => none
  | E :: r, dn, f, args, bl => if f = E.f then (match E.eff dn args bl with | some e => some e | none => pcM r dn f args bl) else pcM r dn f args bl
theorem PEnt.hit (E : PEnt P D) {dn : Nat} {args : List AV} {bl : Nat → Option Blk} {x : E.X} {aa : List Nat} (h : E.Match dn args bl x aa) : E.eff dn args bl = some (pcE (mkAct dn aa) (E.bl0 x) (E.v0 x) (E.bl1 x)) := by
  unfold PEnt.eff
  have hex : ∃ p : E.X × List Nat, E.Match dn args bl p.1 p.2 := ⟨(x, aa), h⟩
  rw [dif_pos hex]
  obtain ⟨q1, q2, q3, q4, q5⟩ := hex.choose_spec
  obtain ⟨p1, p2, p3, p4, p5⟩ := h
  rw [E.inj _ _ dn _ _ bl q1 p1 q2 p2 (q4.trans p4.symm) q5 p5]
theorem PEnt.sound (E : PEnt P D) {dn : Nat} {args : List AV} {bl : Nat → Option Blk} {e : Eff} (h : E.eff dn args bl = some e) : ∃ x aa, E.Match dn args bl x aa ∧ e = pcE (mkAct dn aa) (E.bl0 x) (E.v0 x) (E.bl1 x) := by
  unfold PEnt.eff at h
  split at h
  · rename_i hex
    cases h
    exact ⟨_, _, hex.choose_spec, rfl⟩
  · cases h
theorem pcM_sound : ∀ {T : List (PEnt P D)} {dn f : Nat} {args : List AV} {bl : Nat → Option Blk} {e : Eff}, pcM T dn f args bl = some e → ∃ E ∈ T, f = E.f ∧ ∃ x aa, E.Match dn args bl x aa ∧ e = pcE (mkAct dn aa) (E.bl0 x) (E.v0 x) (E.bl1 x)
  | [], _, _, _, _, _, h => by simp [pcM] at h
  | E :: T, dn, f, args, bl, e, h => by
    have rest : pcM T dn f args bl = some e → ∃ E' ∈ E :: T, f = E'.f ∧ ∃ x aa, E'.Match dn args bl x aa ∧ e = pcE (mkAct dn aa) (E'.bl0 x) (E'.v0 x) (E'.bl1 x) := fun h => by
      obtain ⟨E', h1, h2⟩ := pcM_sound h
      exact ⟨E', List.mem_cons_of_mem _ h1, h2⟩
    rw [pcM] at h
    split at h
    · rename_i hf
      split at h
      · rename_i e' he
        cases h
        exact ⟨E, List.mem_cons_self .., hf, E.sound he⟩
      · exact rest h
    · exact rest h
theorem mok_pc {G : Ctr} {T : List (PEnt P D)} : MOk P D G (pcM T) := by
  intro X hP hD hG hM hmx hT hok ops o σ e hgd he hpre hfr
  obtain ⟨dst, f, args, types, ty, pos, af, g, caps, rfl, hf, he⟩ := mEff_call he hgd
  obtain ⟨E, _, rfl, x, aa, ⟨m1, m2, m3, m4, m5⟩, rfl⟩ := pcM_sound he
  simp only [fresh, Bool.and_eq_true] at hfr
  have hnew : ∀ n, n ∈ keys (E.bl1 x) → n ∉ keys (E.bl0 x) → blk σ (mkAct (X.nb + dst.getD 0) aa n) = none := fun n h1 h2 =>
    unbound_mem hfr.1 _ (pcN_mem h1 h2)
  have hb0 : ∀ n z, get n (E.bl0 x) = some z → blk σ (mkAct (X.nb + dst.getD 0) aa n) = some (renBl (mkAct (X.nb + dst.getD 0) aa) z) := fun n z hz => names_bl_snap (m5 n z hz)
  refine inl_pc (mkAct (X.nb + dst.getD 0) aa) hf m4.symm hb0 (E.nd x) (fun n m hn hm hnm => ?_) hnew (by rw [hP, hD]; exact E.con x m1) (fun k hk => ?_) rfl
  · have hn' : n < 60000 ∨ n ∈ keys (E.bl0 x) := (List.mem_append.1 hn).elim .inr (E.k1 x n)
    have hm' : m < 60000 ∨ m ∈ keys (E.bl0 x) := (List.mem_append.1 hm).elim .inr (E.k1 x m)
    have mix : ∀ a b, a < 60000 → b ∈ keys (E.bl0 x) → a ∈ keys (E.bl0 x) ++ keys (E.bl1 x) → mkAct (X.nb + dst.getD 0) aa a = mkAct (X.nb + dst.getD 0) aa b → False := fun a b ha hb hab e => by
      have ha0 : a ∉ keys (E.bl0 x) := fun h => absurd ha (Nat.not_lt.2 (E.k0 x a h).1)
      have h1 := hnew a ((List.mem_append.1 hab).resolve_left ha0) ha0
      obtain ⟨z, hz⟩ := mem_keys.1 hb
      rw [e, hb0 b z hz] at h1
      cases h1
    rcases hn' with hn' | hn' <;> rcases hm' with hm' | hm'
    · rw [mkAct_lo hn', mkAct_lo hm'] at hnm
      have := Nat.add_left_cancel hnm
      have := Nat.eq_of_mul_eq_mul_left (show 0 < 4096 by decide) this
      exact Nat.succ.inj this
    · exact (mix n m hn' hm' hn hnm).elim
    · exact (mix m n hm' hn' hm hnm.symm).elim
    · obtain ⟨a1, a2⟩ := E.k0 x n hn'
      obtain ⟨b1, b2⟩ := E.k0 x m hm'
      exact mkAct_inj m3 m2 a1 a2 b1 b2 hnm
  · have := hfr.2
    subst hk
    simpa using this
/-- where the table is looked at -/
theorem pcM_use {T : List (PEnt P D)} {E : PEnt P D} {i : Nat} (hT : T[i]? = some E) (hn : ((T.take i).map (·.f)).all (fun g => !(E.f == g)) = true) (x : E.X) (hx : E.ok x) (aa : List Nat) (h1 : aa.length = E.np) (h2 : aa.Nodup) {dn : Nat} {args : List AV} {bl : Nat → Option Blk}
    (h3 : renFs (mkAct dn aa) (E.args x) = args) (h4 : ∀ n z, get n (E.bl0 x) = some z → bl (mkAct dn aa n) = some (renBl (mkAct dn aa) z)) : pcM T dn E.f args bl = some (pcE (mkAct dn aa) (E.bl0 x) (E.v0 x) (E.bl1 x)) := by
  induction T generalizing i with
  | nil => simp at hT
  | cons E' T ih =>
    cases i with
    | zero =>
      simp at hT
      subst hT
      rw [pcM, if_pos rfl, E'.hit ⟨hx, h1, h2, h3, h4⟩]
    | succ i =>
      simp only [List.take_succ_cons, List.map_cons, List.all_cons, Bool.and_eq_true, Bool.not_eq_true', beq_eq_false_iff_ne] at hn
      rw [pcM, if_neg hn.1]
      exact ih (by simpa using hT) hn.2
end
attribute [go_sem] pcE pcK pcU pcN mkAct renF renFs renBl pin pinT
end Go.Proofs.Ythbejciebmkclaa.Ab
namespace Go.Proofs.Ythbejciebmkclaa.Ab
open Go Go.RowKit
set_option linter.unusedVariables false
set_option linter.unusedSimpArgs false

def ResFits (r : LHall × List LEntry × Int) : Prop := r.1.Fits ∧ r.2.1.length ≤ 1048576 ∧ ∀ e ∈ r.2.1, e.note.Fits
theorem fits_hall0 : hall0.Fits := ⟨by simp [hall0], by simp [hall0]⟩
theorem rf_err (e : Int) : ResFits (hall0, [], e) := ⟨fits_hall0, by simp, by simp⟩
theorem qAt_fits {h : LHall} (hh : h.Fits) {k : Nat} (hk : k < h.queues.length) : (qAt h k).Fits ∧ (qAt h k).name.size ≤ 1048576 := queue_fits hh hk
theorem rf_make {h : LHall} {nm : ByteArray} {n : Int} (hh : h.Fits) (hn : nm.size ≤ 1048576) : ResFits (makeS h nm n) := by
  unfold makeS
  split
  · exact rf_err _
  split
  · exact rf_err _
  split
  · exact rf_err _
  refine ⟨⟨by simp only [List.length_append, List.length_singleton]; omega, fun q hq => ?_⟩, by simp, fun e he => ?_⟩
  · rcases List.mem_append.1 hq with hq | hq
    · exact hh.2 q hq
    · have : q = ⟨nm, n, []⟩ := by simpa using hq
      subst this
      exact ⟨⟨by simp, by simp⟩, hn⟩
  · have : e = ⟨1, nm, n, 0, note0⟩ := by simpa using he
    subst this
    exact fits_zero
theorem rf_drop {h : LHall} {nm : ByteArray} (hh : h.Fits) : ResFits (dropS h nm) := by
  unfold dropS
  split
  · exact rf_err _
  refine ⟨⟨Nat.le_trans (List.length_eraseIdx_le _ _) hh.1, fun q hq => hh.2 q (List.mem_of_mem_eraseIdx hq)⟩, by simp, fun e he => ?_⟩
  have : e = ⟨2, nm, 0, 0, note0⟩ := by simpa using he
  subst this
  exact fits_zero
theorem rf_putAt {h : LHall} {k : Nat} {n : LNote} (hh : h.Fits) (h8 : ∀ q ∈ h.queues, q.items.length ≤ 1000) (hn : n.Fits) (hk : k < h.queues.length) : ResFits (putAt h k n) := by
  unfold putAt
  split
  · exact ⟨hh, by simp, by simp⟩
  rename_i hp
  have hp' : (putS (qAt h k) h.next n).2 = 0 := by simpa using hp
  obtain ⟨q1, q2⟩ := qAt_fits hh hk
  refine ⟨⟨by simpa using hh.1, fun q hq => ?_⟩, by simp, fun e he => ?_⟩
  · rcases List.mem_or_eq_of_mem_set hq with hq | rfl
    · exact hh.2 q hq
    · exact ⟨fits_put q1 (h8 _ (getD_mem (d := queue0) hk)) hn, by rw [putS_name hp']; exact q2⟩
  · have : e = ⟨3, (qAt h k).name, 0, h.next, n⟩ := by simpa using he
    subst this
    exact hn
theorem rf_put {h : LHall} {nm : ByteArray} {n : LNote} (hh : h.Fits) (h8 : ∀ q ∈ h.queues, q.items.length ≤ 1000) (hn : n.Fits) : ResFits (hputS h nm n) := by
  unfold hputS
  split
  · exact rf_err _
  split
  · exact rf_err _
  rename_i hf
  split
  · exact rf_err _
  exact rf_putAt hh h8 hn (find_lt hf)
theorem rf_done {h : LHall} {t : LTag} (hh : h.Fits) : ResFits (hdoneS h t) := by
  unfold hdoneS
  split
  · exact rf_err _
  rename_i hf
  split
  · exact rf_err _
  rename_i hd
  obtain ⟨q1, q2⟩ := qAt_fits hh (find_lt hf)
  refine ⟨set_fits hh (fits_done q1) ?_, by simp, fun e he => ?_⟩
  · generalize qAt h (findS h.queues (nmL t.queue)).toNat = q at *
    unfold doneS at *
    split
    · exact Nat.zero_le _
    · exact q2
  · have : e = ⟨4, t.queue, 0, t.id, note0⟩ := by simpa using he
    subst this
    exact fits_zero
theorem len_set {l : List LQueue} {k : Nat} {q : LQueue} (h : ∀ p ∈ l, p.items.length ≤ 1000) (hq : q.items.length ≤ 1000) : ∀ p ∈ l.set k q, p.items.length ≤ 1000 := fun p hp => by
  rcases List.mem_or_eq_of_mem_set hp with hp | rfl
  · exact h p hp
  · exact hq
theorem back_items {q : LQueue} {id turn : Int} (h : q.items.length ≤ 1000) : (backS q id turn).1.items.length ≤ 1000 := by
  unfold backS
  split
  · simp [queue0]
  · split
    · simpa using h
    · exact Nat.le_trans (List.length_eraseIdx_le _ _) h
theorem rf_back {h : LHall} {t : LTag} (hh : h.Fits) (h8 : ∀ q ∈ h.queues, q.items.length ≤ 1000) : ResFits (hbackS h t) := by
  unfold hbackS
  split
  · exact rf_err _
  rename_i hf
  obtain ⟨q1, q2⟩ := qAt_fits hh (find_lt hf)
  have h3 := fits_back (id := t.id) (turn := t.turn) q1
  have h4 := back_items (id := t.id) (turn := t.turn) (h8 _ (getD_mem (d := queue0) (find_lt hf)))
  have h5 := @backS_name (qAt h (findS h.queues (nmL t.queue)).toNat) t.id t.turn
  have e : (h.queues.getD (findS h.queues (nmL t.queue)).toNat queue0) = qAt h (findS h.queues (nmL t.queue)).toNat := rfl
  rw [e] at h4
  generalize backS (qAt h (findS h.queues (nmL t.queue)).toNat) t.id t.turn = r at *
  obtain ⟨q, i, d, er⟩ := r
  simp only at h3 h4 h5 ⊢
  split
  · exact rf_err _
  rename_i he
  have hs := set_fits (k := (findS h.queues (nmL t.queue)).toNat) hh h3.1 (by rw [h5 (by simpa using he)]; exact q2)
  split
  · exact ⟨hs, by simp, by simp⟩
  have key : ∀ (x : LHall) (es : List LEntry), x.Fits → es.length ≤ 1 → (∀ e ∈ es, e.note.Fits) → ResFits (x, ⟨4, t.queue, 0, t.id, note0⟩ :: es, 0) := fun x es p1 p2 p3 => by
    refine ⟨p1, by simp only [List.length_cons]; omega, fun e he => ?_⟩
    rcases List.mem_cons.1 he with rfl | he
    · exact fits_zero
    · exact p3 e he
  unfold deadS
  split
  · rename_i hd
    have hfd : ¬ findS (setQ h (findS h.queues (nmL t.queue)).toNat q).queues (nmL deadB) < 0 := by omega
    have := rf_putAt (n := i.note) hs (len_set h8 h4) h3.2 (find_lt hfd)
    exact key _ _ this.1 (put_len _ _ _) this.2.2
  · exact key _ _ hs (by simp) (by simp)
theorem rf_purge {h : LHall} {nm : ByteArray} (hh : h.Fits) : ResFits (hpurgeS h nm) := by
  unfold hpurgeS
  split
  · exact rf_err _
  rename_i hf
  obtain ⟨q1, q2⟩ := qAt_fits hh (find_lt hf)
  refine ⟨set_fits hh (fits_purge q1) q2, ?_, fun e he => ?_⟩
  · simp only [List.length_map]
    refine Nat.le_trans ?_ q1.1
    simp only [purgeS, goneS]
    simp only [List.length_map]
    exact List.length_filter_le _ _
  · obtain ⟨i, _, rfl⟩ := List.mem_map.1 he
    exact fits_zero
theorem fine_len {T : Int} {h : LHall} (hf : hallFine T h) : ∀ q ∈ h.queues, q.items.length ≤ 1000 := fun q hq => by
  have := (hf.2 q hq).2.2.1
  omega
theorem outQ_le (q : LQueue) : outQ q ≤ q.items.length := by
  unfold outQ
  induction q.items with
  | nil => simp
  | cons i r ih =>
    simp only [List.map_cons, List.sum_cons, List.length_cons]
    have : outI i ≤ 1 := by unfold outI; split <;> omega
    omega
theorem outs_le {h : LHall} (h8 : ∀ q ∈ h.queues, q.items.length ≤ 8) : outs h ≤ 8 * h.queues.length := by
  unfold outs
  obtain ⟨l, next⟩ := h
  simp only at *
  induction l with
  | nil => simp
  | cons q r ih =>
    simp only [List.map_cons, List.sum_cons, List.length_cons]
    have h1 := outQ_le q
    have h2 := h8 q (List.mem_cons_self ..)
    have h3 := ih fun p hp => h8 p (List.mem_cons_of_mem _ hp)
    omega
/-- a right hall, as ticks want it -/
theorem hallOk_P {h : LHall} (ho : hallOk h) : hallP 1000 1000100 h.queues.length h := by
  obtain ⟨h1, h2, h3, h4⟩ := hallOk_fine ho
  have := outs_le fun q hq => (by have := (h1.2 q hq).2.2.1; omega : q.items.length ≤ 8)
  exact ⟨h1, rfl, h3, by omega⟩
theorem rf_take {h : LHall} {nm : ByteArray} {now : Int} (hh : h.Fits) : (htakeS h nm now).1.Fits ∧ (htakeS h nm now).2.1.note.Fits := by
  unfold htakeS
  split
  · exact ⟨fits_hall0, fits_item0⟩
  rename_i hf
  split
  · exact ⟨fits_hall0, fits_item0⟩
  rename_i hd
  obtain ⟨q1, q2⟩ := qAt_fits hh (find_lt hf)
  have := fits_take (now := now) q1
  refine ⟨set_fits hh this.1 ?_, this.2⟩
  generalize qAt h (findS h.queues (nmL nm)).toNat = q at *
  unfold takeS at *
  split
  · exact Nat.zero_le _
  · exact q2
end Go.Proofs.Ythbejciebmkclaa.Ab
namespace Go.Proofs.Ythbejciebmkclaa.Ab
open Go Go.RowKit
set_option linter.unusedVariables false
set_option linter.unusedSimpArgs false

abbrev Res4 := LHall × List LEntry × Int
def hallCs (h : LHall) : List AV := [.sl 3 (h.queues.map queueRow), .int .i64 h.next]
def nodupN : List Nat → Bool
  | [] => true
  | n :: r => !mem n r && nodupN r
attribute [go_sem] nodupN
end Go.Proofs.Ythbejciebmkclaa.Ab
namespace Go.Proofs.Ythbejciebmkclaa.Ab
open Go Go.RowKit
set_option linter.unusedVariables false
set_option linter.unusedSimpArgs false

def eHmake : Ent Try.prog D := ⟨45, LHall × ByteArray × Int, fun x => [hallA x.1, .str x.2.1.data.toList, .int .i64 x.2.2], fun x => x.1.Fits ∧ x.2.1.size ≤ 1048576, fun x => ⟨hres (makeS x.1 x.2.1 x.2.2), []⟩, fun x y _ _ h => by
  obtain ⟨a, b, c⟩ := x; obtain ⟨a', b', c'⟩ := y
  simp only [List.cons.injEq, AV.str.injEq, AV.int.injEq, true_and, and_true] at h
  obtain ⟨h1, h2, rfl⟩ := h
  rw [hallA_inj h1, bytes_ext h2], fun x h => con_hmake _ _ _ h.1 h.2⟩
def eHdrop : Ent Try.prog D := ⟨46, LHall × ByteArray, fun x => [hallA x.1, .str x.2.data.toList], fun x => x.1.Fits, fun x => ⟨hres (dropS x.1 x.2), []⟩, fun x y _ _ h => by
  obtain ⟨a, b⟩ := x; obtain ⟨a', b'⟩ := y
  simp only [List.cons.injEq, AV.str.injEq, and_true] at h
  rw [hallA_inj h.1, bytes_ext h.2], fun x h => con_hdrop _ _ h⟩
def eHput : Ent Try.prog D := ⟨47, LHall × ByteArray × LNote, fun x => [hallA x.1, .str x.2.1.data.toList, noteA x.2.2], fun x => x.1.Fits ∧ x.2.2.Fits ∧ -1000000000 ≤ x.1.next ∧ x.1.next ≤ 1000000000, fun x => ⟨hres (hputS x.1 x.2.1 x.2.2), []⟩, fun x y _ _ h => by
  obtain ⟨a, b, c⟩ := x; obtain ⟨a', b', c'⟩ := y
  simp only [List.cons.injEq, AV.str.injEq, and_true] at h
  rw [hallA_inj h.1, bytes_ext h.2.1, noteA_inj h.2.2], fun x h => con_hput _ _ _ h.1 h.2.1 h.2.2⟩
def eHdone : Ent Try.prog D := ⟨48, LHall × LTag, fun x => [hallA x.1, tagA x.2], fun x => x.1.Fits, fun x => ⟨hres (hdoneS x.1 x.2), []⟩, fun x y _ _ h => by
  obtain ⟨a, b⟩ := x; obtain ⟨a', b'⟩ := y
  simp only [List.cons.injEq, and_true] at h
  rw [hallA_inj h.1, tagA_inj h.2], fun x h => con_hdone _ _ h⟩
def eHpurge : Ent Try.prog D := ⟨50, LHall × ByteArray, fun x => [hallA x.1, .str x.2.data.toList], fun x => x.1.Fits, fun x => ⟨hres (hpurgeS x.1 x.2), []⟩, fun x y _ _ h => by
  obtain ⟨a, b⟩ := x; obtain ⟨a', b'⟩ := y
  simp only [List.cons.injEq, AV.str.injEq, and_true] at h
  rw [hallA_inj h.1, bytes_ext h.2], fun x h => con_hpurge _ _ h⟩
def eHtake : Ent Try.prog D := ⟨52, LHall × ByteArray × Int, fun x => [hallA x.1, .str x.2.1.data.toList, .int .i64 x.2.2], fun x => x.1.Fits ∧ (∀ q ∈ x.1.queues, q.Ok) ∧ -1000000 ≤ x.2.2 ∧ x.2.2 ≤ 1000000, fun x => ⟨.tup [hallA (htakeS x.1 x.2.1 x.2.2).1, itemA (htakeS x.1 x.2.1 x.2.2).2.1, .int .i64 (htakeS x.1 x.2.1 x.2.2).2.2], []⟩, fun x y _ _ h => by
  obtain ⟨a, b, c⟩ := x; obtain ⟨a', b', c'⟩ := y
  simp only [List.cons.injEq, AV.str.injEq, AV.int.injEq, true_and, and_true] at h
  obtain ⟨h1, h2, rfl⟩ := h
  rw [hallA_inj h1, bytes_ext h2], fun x h => con_htake _ _ _ h.1 h.2.1 h.2.2⟩
end Go.Proofs.Ythbejciebmkclaa.Ab
namespace Go.Proofs.Ythbejciebmkclaa.Ab
open Go Go.RowKit
set_option linter.unusedVariables false
set_option linter.unusedSimpArgs false

def aB : ByteArray := ⟨#[97]⟩
end Go.Proofs.Ythbejciebmkclaa.Ab
namespace Go.Proofs.Ythbejciebmkclaa.Ab
open Go Go.RowKit
set_option linter.unusedVariables false
set_option linter.unusedSimpArgs false

theorem shp_hall {m : Nat} {us : List AV} (h : Shp D 1048576 (m + 9) 24 us) : ∃ x : LHall, AV.agg us = hallA x ∧ x.Fits := by
  have h := shp_struct (fs := [(0, 22), (1, 3)]) (by simp only [D_1, D_2, D_3, D_4, D_5, D_6, D_7, D_8, D_9, D_10, D_11, D_12, D_13, D_14, D_15, D_16, D_17, D_18, D_19, D_21, D_22, D_23, D_24, D_25, D_26, D_27, D_28, D_29, D_30, D_31, D_32, D_33, D_35, D_36, D_37, D_38, D_39, D_40, D_41, D_42, D_43, D_45, D_46, D_47, D_48, D_49, D_50, D_51, D_52, D_53, D_55, D_56, D_57, D_58, D_60, D_61, D_62, D_63, D_64, D_65, D_67, D_68, D_69, D_70, D_71, D_72, D_73, D_74, D_75, D_76, D_77, D_78, D_79, D_80, D_81, D_82, D_83, D_84, D_85, D_86, D_87, D_88, D_89, D_91, D_93, D_94, D_95, D_97, D_98, D_99, D_101, D_103, D_104, D_105, D_106, D_108, D_109, D_110, D_111, D_113, D_114, D_115, D_116, D_117, D_118, D_119, D_120, D_121, D_122, D_124, D_125, D_127, D_128, D_130, D_132, D_133, D_134, D_135, D_136, D_138, D_139, D_141, D_143, D_144, D_145, D_147, D_148, D_149, D_150, D_151, D_153, D_154, D_155, D_156, D_157, D_158, D_159, D_160, D_161, D_162, D_163, D_164, D_165, D_166, D_167, D_168, D_169, D_170, D_171, D_172, D_173, D_174, D_178, D_179, D_180, D_181, D_182, D_183, D_184, D_185, D_186]) h
  simp only [ShpF] at h
  obtain ⟨_, _, rfl, h1, _, _, rfl, h2, rfl⟩ := h
  obtain ⟨rs, rfl, hl, hr⟩ := shp_slice (e := 71) (by simp only [D_1, D_2, D_3, D_4, D_5, D_6, D_7, D_8, D_9, D_10, D_11, D_12, D_13, D_14, D_15, D_16, D_17, D_18, D_19, D_21, D_22, D_23, D_24, D_25, D_26, D_27, D_28, D_29, D_30, D_31, D_32, D_33, D_35, D_36, D_37, D_38, D_39, D_40, D_41, D_42, D_43, D_45, D_46, D_47, D_48, D_49, D_50, D_51, D_52, D_53, D_55, D_56, D_57, D_58, D_60, D_61, D_62, D_63, D_64, D_65, D_67, D_68, D_69, D_70, D_71, D_72, D_73, D_74, D_75, D_76, D_77, D_78, D_79, D_80, D_81, D_82, D_83, D_84, D_85, D_86, D_87, D_88, D_89, D_91, D_93, D_94, D_95, D_97, D_98, D_99, D_101, D_103, D_104, D_105, D_106, D_108, D_109, D_110, D_111, D_113, D_114, D_115, D_116, D_117, D_118, D_119, D_120, D_121, D_122, D_124, D_125, D_127, D_128, D_130, D_132, D_133, D_134, D_135, D_136, D_138, D_139, D_141, D_143, D_144, D_145, D_147, D_148, D_149, D_150, D_151, D_153, D_154, D_155, D_156, D_157, D_158, D_159, D_160, D_161, D_162, D_163, D_164, D_165, D_166, D_167, D_168, D_169, D_170, D_171, D_172, D_173, D_174, D_178, D_179, D_180, D_181, D_182, D_183, D_184, D_185, D_186]) h1
  obtain ⟨l, rfl, h4⟩ := shp_rows (f := queueRow) (Q := fun q => q.Fits ∧ q.name.size ≤ 1048576) fun row hrow => by
    obtain ⟨q, h1, _, h3, h4⟩ := shp_queue (hr row hrow)
    exact ⟨q, h1, h3, h4⟩
  obtain ⟨n, rfl, _⟩ := shp_i64 (t := 3) rfl h2
  refine ⟨⟨l, n⟩, ?_, ⟨by simpa using hl, h4⟩⟩
  simp only [hallA, D_1, D_2, D_3, D_4, D_5, D_6, D_7, D_8, D_9, D_10, D_11, D_12, D_13, D_14, D_15, D_16, D_17, D_18, D_19, D_21, D_22, D_23, D_24, D_25, D_26, D_27, D_28, D_29, D_30, D_31, D_32, D_33, D_35, D_36, D_37, D_38, D_39, D_40, D_41, D_42, D_43, D_45, D_46, D_47, D_48, D_49, D_50, D_51, D_52, D_53, D_55, D_56, D_57, D_58, D_60, D_61, D_62, D_63, D_64, D_65, D_67, D_68, D_69, D_70, D_71, D_72, D_73, D_74, D_75, D_76, D_77, D_78, D_79, D_80, D_81, D_82, D_83, D_84, D_85, D_86, D_87, D_88, D_89, D_91, D_93, D_94, D_95, D_97, D_98, D_99, D_101, D_103, D_104, D_105, D_106, D_108, D_109, D_110, D_111, D_113, D_114, D_115, D_116, D_117, D_118, D_119, D_120, D_121, D_122, D_124, D_125, D_127, D_128, D_130, D_132, D_133, D_134, D_135, D_136, D_138, D_139, D_141, D_143, D_144, D_145, D_147, D_148, D_149, D_150, D_151, D_153, D_154, D_155, D_156, D_157, D_158, D_159, D_160, D_161, D_162, D_163, D_164, D_165, D_166, D_167, D_168, D_169, D_170, D_171, D_172, D_173, D_174, D_178, D_179, D_180, D_181, D_182, D_183, D_184, D_185, D_186]; rfl
theorem shp_tag {m : Nat} {B : Nat} {us : List AV} (h : Shp D B (m + 5) 50 us) : ∃ t : LTag, us = tagRow t ∧ AV.agg us = tagA t ∧ t.queue.size ≤ B := by
  have h := shp_struct (fs := [(0, 3), (1, 9), (2, 3), (3, 3)]) (by simp only [D_1, D_2, D_3, D_4, D_5, D_6, D_7, D_8, D_9, D_10, D_11, D_12, D_13, D_14, D_15, D_16, D_17, D_18, D_19, D_21, D_22, D_23, D_24, D_25, D_26, D_27, D_28, D_29, D_30, D_31, D_32, D_33, D_35, D_36, D_37, D_38, D_39, D_40, D_41, D_42, D_43, D_45, D_46, D_47, D_48, D_49, D_50, D_51, D_52, D_53, D_55, D_56, D_57, D_58, D_60, D_61, D_62, D_63, D_64, D_65, D_67, D_68, D_69, D_70, D_71, D_72, D_73, D_74, D_75, D_76, D_77, D_78, D_79, D_80, D_81, D_82, D_83, D_84, D_85, D_86, D_87, D_88, D_89, D_91, D_93, D_94, D_95, D_97, D_98, D_99, D_101, D_103, D_104, D_105, D_106, D_108, D_109, D_110, D_111, D_113, D_114, D_115, D_116, D_117, D_118, D_119, D_120, D_121, D_122, D_124, D_125, D_127, D_128, D_130, D_132, D_133, D_134, D_135, D_136, D_138, D_139, D_141, D_143, D_144, D_145, D_147, D_148, D_149, D_150, D_151, D_153, D_154, D_155, D_156, D_157, D_158, D_159, D_160, D_161, D_162, D_163, D_164, D_165, D_166, D_167, D_168, D_169, D_170, D_171, D_172, D_173, D_174, D_178, D_179, D_180, D_181, D_182, D_183, D_184, D_185, D_186]) h
  simp only [ShpF] at h
  obtain ⟨_, _, rfl, h1, _, _, rfl, h2, _, _, rfl, h3, _, _, rfl, h4, rfl⟩ := h
  obtain ⟨a, rfl, _⟩ := shp_i64 (t := 3) rfl h1
  obtain ⟨b, rfl, hb⟩ := shp_str (t := 9) rfl h2
  obtain ⟨c, rfl, _⟩ := shp_i64 (t := 3) rfl h3
  obtain ⟨d, rfl, _⟩ := shp_i64 (t := 3) rfl h4
  exact ⟨⟨a, b, c, d⟩, rfl, rfl, hb⟩
end Go.Proofs.Ythbejciebmkclaa.Ab
