/-
  Texts of the proof, one behind the other: PcA PcB PcC PcD QuT QuU WkA QuV QuW QuX OpenQ.
  No condition but those that each theorem names.
-/
import Derived.Test.YtcgdjdlcecnanaaGQ
import Derived.Test.YtcgdjdlcecnanaaGC
import Derived.Test.YtcgdjdlcecnanaaGD
namespace Go.Proofs.Ytcgdjdlcecnanaa.Ab
open Go
set_option linter.unusedVariables false
set_option linter.unusedSimpArgs false

mutual
/-- other names -/
def renF (f : Nat → Nat) : AV → AV
  | .os t => .os (f t)
  | .ptr v o => .ptr (f v) o
  | .eptr t i o => .eptr (f t) i o
  | .tsl t i => .tsl (f t) i
  | .func g cs => .func g (renFs f cs)
  | .agg cs => .agg (renFs f cs)
  | .tup cs => .tup (renFs f cs)
  | .opt g v => .opt g (renF f v)
  | v => v
def renFs (f : Nat → Nat) : List AV → List AV
  | [] => []
  | v :: r => renF f v :: renFs f r
end
def renBl (f : Nat → Nat) : Blk → Blk
  | .cells cs => .cells (renFs f cs)
  | .rows e sz rs => .rows e sz rs
theorem renFs_eq (f : Nat → Nat) : ∀ cs : List AV, renFs f cs = cs.map (renF f)
  | [] => by simp [renFs]
  | c :: r => by simp [renFs, renFs_eq f r]
theorem Rel.renF {w : World} {im im' : Nat → Prop} {ρ ρ' : Env} {f : Nat → Nat} {x : AV} {v : Value} (h : Rel w im ρ x v) (him : ∀ b, im b → im' b) (hρ : ∀ n ∈ names x, ρ' (f n) = ρ n) : Rel w im' ρ' (Ab.renF f x) v := by
  have self : ∀ {y : AV} {u : Value}, Rel w im ρ y u → names y = [] → Rel w im' ρ' y u := fun h hn => h.mono him (fun _ _ => rfl) fun n hn' => by rw [hn] at hn'; cases hn'
  induction h with
  | junk v => exact .junk v
  | int k n => exact .int k n
  | bool b => exact .bool b
  | str l => exact .str l
  | nils => exact .nils
  | sl sz rs A c b o val hc hm hA hrow hcell hval ih => exact self (.sl sz rs A c b o val hc hm hA hrow hcell hval) rfl
  | os t => simp only [Ab.renF]; rw [← hρ t (by simp [names])]; exact .os (f t)
  | ptr v off b h => exact .ptr (f v) off b (by rw [hρ v (by simp [names])]; exact h)
  | iptr cs b o val hb hcell hval ih => exact self (.iptr cs b o val hb hcell hval) rfl
  | eptr t i off b h =>
    have := hρ t (by simp [names])
    simp only [Ab.renF]
    rw [← this]
    exact .eptr (f t) i off b (by rw [this]; exact h)
  | lsl n A c hc hm => exact .lsl n A c hc hm
  | imap es b c arr hb ho he => exact .imap es b c arr (him _ hb) ho he
  | nilp => exact .nilp
  | tsl t i b A' h hA =>
    have := hρ t (by simp [names])
    simp only [Ab.renF]
    rw [← this]
    exact .tsl (f t) i b A' (by rw [this]; exact h) (by rw [this]; exact hA)
  | func g cs vs hl hval ih =>
    simp only [Ab.renF, renFs_eq]
    refine .func g _ vs (by simpa using hl) fun i x v hx hv => ?_
    rw [List.getElem?_map] at hx
    obtain ⟨y, hy, rfl⟩ := Option.map_eq_some_iff.1 hx
    exact ih i y v hy hv fun n hn => hρ n (by rw [names]; exact mem_namess hy hn)
  | agg cs vs hl h1 hval ih =>
    simp only [Ab.renF, renFs_eq]
    refine .agg _ vs (by simpa using hl) h1 fun i x v hx hv => ?_
    rw [List.getElem?_map] at hx
    obtain ⟨y, hy, rfl⟩ := Option.map_eq_some_iff.1 hx
    exact ih i y v hy hv fun n hn => hρ n (by rw [names]; exact mem_namess hy hn)
  | tup cs vs hl hval ih =>
    simp only [Ab.renF, renFs_eq]
    refine .tup _ vs (by simpa using hl) fun i x v hx hv => ?_
    rw [List.getElem?_map] at hx
    obtain ⟨y, hy, rfl⟩ := Option.map_eq_some_iff.1 hx
    exact ih i y v hy hv fun n hn => hρ n (by rw [names]; exact mem_namess hy hn)
  | opt g x v h1 h2 ih => exact .opt g _ v (fun hg => ih hg fun n hn => hρ n (by rw [names]; exact hn)) h2
mutual
theorem Rel.unF {w : World} {im : Nat → Prop} {ρ : Env} {f : Nat → Nat} : ∀ {x : AV} {v : Value}, Rel w im ρ (Ab.renF f x) v → Rel w im (fun n => ρ (f n)) x v
  | .os t, v, h => by
    simp only [Ab.renF] at h
    cases h
    exact .os (ρ := fun n => ρ (f n)) t
  | .ptr a o, v, h => by
    simp only [Ab.renF] at h
    cases h with
    | ptr _ _ b hb => exact .ptr a o b hb
  | .eptr t i o, v, h => by
    simp only [Ab.renF] at h
    cases h with
    | eptr _ _ _ b hb => exact .eptr (ρ := fun n => ρ (f n)) t i o b hb
  | .tsl t i, v, h => by
    simp only [Ab.renF] at h
    cases h with
    | tsl _ _ b A' hb hA => exact .tsl (ρ := fun n => ρ (f n)) t i b A' hb hA
  | .agg cs, v, h => by
    simp only [Ab.renF, renFs_eq] at h
    cases h with
    | agg _ vs hl h1 hval => exact .agg _ vs (by simpa using hl) h1 fun i x v hx hv => unFs hx (hval i _ v (by rw [List.getElem?_map, hx]; rfl) hv)
  | .tup cs, v, h => by
    simp only [Ab.renF, renFs_eq] at h
    cases h with
    | tup _ vs hl hval => exact .tup _ vs (by simpa using hl) fun i x v hx hv => unFs hx (hval i _ v (by rw [List.getElem?_map, hx]; rfl) hv)
  | .func g cs, v, h => by
    simp only [Ab.renF, renFs_eq] at h
    cases h with
    | func _ _ vs hl hval => exact .func g _ vs (by simpa using hl) fun i x v hx hv => unFs hx (hval i _ v (by rw [List.getElem?_map, hx]; rfl) hv)
  | .opt g x, v, h => by
    simp only [Ab.renF] at h
    cases h with
    | opt _ _ _ h1 h2 => exact .opt g _ v (fun hg => Rel.unF (h1 hg)) h2
  | .junk, v, h => .junk v
  | .int _ _, v, h => by simp only [Ab.renF] at h; cases h; exact .int _ _
  | .bool _, v, h => by simp only [Ab.renF] at h; cases h; exact .bool _
  | .str _, v, h => by simp only [Ab.renF] at h; cases h; exact .str _
  | .nils, v, h => by simp only [Ab.renF] at h; cases h; exact .nils
  | .sl sz rs, v, h => by
    simp only [Ab.renF] at h
    exact h.mono (fun _ h => h) (fun _ _ => rfl) (fun n hn => by simp [names] at hn)
  | .iptr _, v, h => by
    simp only [Ab.renF] at h
    exact h.mono (fun _ h => h) (fun _ _ => rfl) (fun n hn => by simp [names] at hn)
  | .lsl _, v, h => by
    simp only [Ab.renF] at h
    exact h.mono (fun _ h => h) (fun _ _ => rfl) (fun n hn => by simp [names] at hn)
  | .imap _, v, h => by
    simp only [Ab.renF] at h
    exact h.mono (fun _ h => h) (fun _ _ => rfl) (fun n hn => by simp [names] at hn)
  | .nilp, v, h => by simp only [Ab.renF] at h; cases h; exact .nilp
theorem unFs {w : World} {im : Nat → Prop} {ρ : Env} {f : Nat → Nat} : ∀ {cs : List AV} {i : Nat} {x : AV} {v : Value}, cs[i]? = some x → Rel w im ρ (Ab.renF f x) v → Rel w im (fun n => ρ (f n)) x v
  | [], _, _, _, hx, _ => by simp at hx
  | c :: r, 0, x, v, hx, h => by
    simp at hx
    subst hx
    exact Rel.unF h
  | c :: r, i + 1, x, v, hx, h => unFs (cs := r) (i := i) (by simpa using hx) h
end
mutual
theorem names_renF (f : Nat → Nat) : ∀ (x : AV) (n : Nat), n ∈ names (renF f x) ↔ ∃ k ∈ names x, n = f k
  | .os t, n => by simp [renF, names]
  | .ptr v o, n => by simp [renF, names]
  | .tsl v o, n => by simp [renF, names]
  | .eptr v i o, n => by simp [renF, names]
  | .agg cs, n => by simpa only [renF, names] using namess_renFs f cs n
  | .tup cs, n => by simpa only [renF, names] using namess_renFs f cs n
  | .func _ cs, n => by simpa only [renF, names] using namess_renFs f cs n
  | .opt g v, n => by simpa only [renF, names] using names_renF f v n
  | .junk, n => by simp [renF, names]
  | .int _ _, n => by simp [renF, names]
  | .bool _, n => by simp [renF, names]
  | .str _, n => by simp [renF, names]
  | .nils, n => by simp [renF, names]
  | .sl _ _, n => by simp [renF, names]
  | .iptr _, n => by simp [renF, names]
  | .lsl _, n => by simp [renF, names]
  | .imap _, n => by simp [renF, names]
  | .nilp, n => by simp [renF, names]
theorem namess_renFs (f : Nat → Nat) : ∀ (cs : List AV) (n : Nat), n ∈ namess (renFs f cs) ↔ ∃ k ∈ namess cs, n = f k
  | [], n => by simp [renFs, namess]
  | c :: r, n => by
    simp only [renFs, namess, List.mem_append, names_renF f c n, namess_renFs f r n]
    constructor
    · rintro (⟨k, h1, h2⟩ | ⟨k, h1, h2⟩)
      · exact ⟨k, .inl h1, h2⟩
      · exact ⟨k, .inr h1, h2⟩
    · rintro ⟨k, h1 | h1, h2⟩
      · exact .inl ⟨k, h1, h2⟩
      · exact .inr ⟨k, h1, h2⟩
end
/-- a block, by another name -/
theorem BRel.renF {D : Nat → TI} {w : World} {im im' : Nat → Prop} {ρ ρ' : Env} {f : Nat → Nat} {n : Nat} {x : Blk} (h : BRel D w im ρ n x) (him : ∀ b, im b → im' b) (hn : ρ' (f n) = ρ n) (hρ : ∀ cs, x = .cells cs → ∀ m ∈ namess cs, ρ' (f m) = ρ m) : BRel D w im' ρ' (f n) (renBl f x) := by
  cases x with
  | cells cs =>
    obtain ⟨b, arr, T, h1, h2, h3, h5⟩ := h
    refine ⟨b, arr, T, by rw [hn]; exact h1, h2, by rw [renFs_eq]; simpa using h3, fun i x v hx hv => ?_⟩
    rw [renFs_eq, List.getElem?_map] at hx
    obtain ⟨y, hy, rfl⟩ := Option.map_eq_some_iff.1 hx
    exact ⟨(h5 i y v hy hv).1, (h5 i y v hy hv).2.renF him fun m hm => hρ cs rfl m (mem_namess hy hm)⟩
  | rows e sz rs =>
    obtain ⟨h1, h2, h2', A, c, h3, h4, h5, h6⟩ := h
    refine ⟨by rw [hn]; exact h1, h2, h2', A, c, by rw [hn]; exact h3, h4, h5, ?_⟩
    rcases h6 with ⟨e1, e0, e2, e3⟩ | ⟨b, arr, hb1, hA, hh, hsz, hr⟩
    · exact .inl ⟨e1, e0, e2, by rw [hn]; exact e3⟩
    · refine .inr ⟨b, arr, by rw [hn]; exact hb1, hA, hh, hsz, fun i row hi => ⟨(hr i row hi).1, fun j x hj => ?_⟩⟩
      obtain ⟨hn', v, hv, h1v, hrel⟩ := (hr i row hi).2 j x hj
      exact ⟨hn', v, hv, h1v, hrel.mono him (fun _ _ => rfl) (fun m hm => by rw [hn'] at hm; cases hm)⟩
theorem BRel.unF {D : Nat → TI} {w : World} {im : Nat → Prop} {ρ : Env} {f : Nat → Nat} {n : Nat} {x : Blk} (h : BRel D w im ρ (f n) (renBl f x)) : BRel D w im (fun m => ρ (f m)) n x := by
  cases x with
  | cells cs =>
    obtain ⟨b, arr, T, h1, h2, h3, h5⟩ := h
    refine ⟨b, arr, T, h1, h2, by rw [renFs_eq] at h3; simpa using h3, fun i x v hx hv => ?_⟩
    obtain ⟨q1, q2⟩ := h5 i (Ab.renF f x) v (by rw [renFs_eq, List.getElem?_map, hx]; rfl) hv
    exact ⟨q1, q2.unF⟩
  | rows e sz rs =>
    obtain ⟨h1, h2, h2', A, c, h3, h4, h5, h6⟩ := h
    refine ⟨h1, h2, h2', A, c, h3, h4, h5, ?_⟩
    rcases h6 with ⟨e1, e0, e2, e3⟩ | ⟨b, arr, hb1, hA, hh, hsz, hr⟩
    · exact .inl ⟨e1, e0, e2, e3⟩
    · refine .inr ⟨b, arr, hb1, hA, hh, hsz, fun i row hi => ⟨(hr i row hi).1, fun j x hj => ?_⟩⟩
      obtain ⟨hn', v, hv, h1v, hrel⟩ := (hr i row hi).2 j x hj
      exact ⟨hn', v, hv, h1v, hrel.mono (fun _ h => h) (fun _ _ => rfl) (fun m hm => by rw [hn'] at hm; cases hm)⟩
theorem BRel.lt {D : Nat → TI} {w : World} {im : Nat → Prop} {ρ : Env} {n b : Nat} {x : Blk} (hx : BRel D w im ρ n x) (hb : (ρ n).b = some b) : b < w.heap.size := by
  cases x with
  | cells cs =>
    obtain ⟨b', arr, T, h1, h2, _⟩ := hx
    rw [hb] at h1
    cases h1
    exact (Array.getElem?_eq_some_iff.1 h2).1
  | rows e sz rs =>
    obtain ⟨_, _, _, A, c, _, _, _, h6⟩ := hx
    rcases h6 with ⟨_, _, _, h0⟩ | ⟨b', arr, h1, _, h2, _⟩
    · rw [hb] at h0; cases h0
    · rw [hb] at h1
      cases h1
      exact (Array.getElem?_eq_some_iff.1 h2).1

/-- the blocks of names -/
def NsB (ρ : Env) (bl0 : List (Nat × Blk)) (b : Nat) : Prop := ∃ n, n ∈ keys bl0 ∧ (ρ n).b = some b
/-- behind such a call -/
def PPost (D : Nat → TI) (w : World) (im : Nat → Prop) (ρ : Env) (bl0 : List (Nat × Blk)) (v0 : AV) (bl1 : List (Nat × Blk)) (v : Value) (w' : World) : Prop :=
  Frm (NsB ρ bl0) w.heap.size w w' ∧ ∃ ρ' : Env, (∀ n, n ∈ keys bl0 → n ∈ keys bl1 → ρ' n = ρ n) ∧
    Hp D w' (imOf im (NsB ρ bl0) w.heap.size w' ρ' (fun n => get n bl1)) ρ' (fun n => get n bl1) ∧
    (∀ n x b, get n bl1 = some x → (ρ' n).b = some b → w.heap.size ≤ b ∨ NsB ρ bl0 b) ∧
    Rel w' (imOf im (NsB ρ bl0) w.heap.size w' ρ' (fun n => get n bl1)) ρ' v0 v ∧ ∀ n ∈ names v0, n ∈ keys bl1
def closB (bl0 : List (Nat × Blk)) : Prop := ∀ n cs, get n bl0 = some (.cells cs) → ∀ m ∈ namess cs, m ∈ keys bl0
/-- a contract with blocks: args may name those of bl0; then they are as bl1 tells, which may have new ones -/
def PC (P : Program) (D : Nat → TI) (f : Nat) (args : List AV) (bl0 : List (Nat × Blk)) (v0 : AV) (bl1 : List (Nat × Blk)) : Prop :=
  (∃ fn, P.funcs[f]? = some fn ∧ (fn.name == "runtime.NumGoroutine") = false ∧ fn.body.isNone = false) ∧ closB bl0 ∧
  ∀ (w : World) (im : Nat → Prop) (ρ : Env) (vs : Array Value), (∀ b, im b → b < w.heap.size) → Rels w im ρ args vs.toList → Hp D w im ρ (fun n => get n bl0) →
    Calls P f vs w fun e w' => ∃ v, e = .returned v ∧ PPost D w im ρ bl0 v0 bl1 v w'
def pcK (act : Nat → Nat) (k1 : List Nat) : List (Nat × Blk) → List Nat
  | [] => []
  | (n, _) :: r => if mem n k1 then pcK act k1 r else act n :: pcK act k1 r
def pcU (act : Nat → Nat) (k0 : List Nat) : List (Nat × Blk) → List (Nat × Blk)
  | [] => []
  | (n, x) :: r => if mem n k0 then (act n, renBl act x) :: pcU act k0 r else pcU act k0 r
def pcN (act : Nat → Nat) (k0 : List Nat) : List (Nat × Blk) → List (Nat × Blk)
  | [] => []
  | (n, x) :: r => if mem n k0 then pcN act k0 r else (act n, renBl act x) :: pcN act k0 r
theorem mem_pcK {act : Nat → Nat} {k1 : List Nat} {m : Nat} : ∀ {bl0 : List (Nat × Blk)}, m ∈ pcK act k1 bl0 ↔ ∃ n, n ∈ keys bl0 ∧ n ∉ k1 ∧ m = act n
  | [] => by simp [pcK, keys]
  | (n, x) :: r => by
    simp only [pcK, keys]
    by_cases h : n ∈ k1
    · rw [if_pos (mem_iff.2 h), mem_pcK]
      constructor
      · rintro ⟨k, h1, h2⟩; exact ⟨k, List.mem_cons_of_mem _ h1, h2⟩
      · rintro ⟨k, h1, h2, h3⟩
        rcases List.mem_cons.1 h1 with rfl | h1
        · exact absurd h h2
        · exact ⟨k, h1, h2, h3⟩
    · rw [if_neg (by rw [mem_iff]; exact h), List.mem_cons, mem_pcK]
      constructor
      · rintro (rfl | ⟨k, h1, h2⟩)
        · exact ⟨n, List.mem_cons_self .., h, rfl⟩
        · exact ⟨k, List.mem_cons_of_mem _ h1, h2⟩
      · rintro ⟨k, h1, h2, h3⟩
        rcases List.mem_cons.1 h1 with rfl | h1
        · exact .inl h3
        · exact .inr ⟨k, h1, h2, h3⟩
theorem keys_mem {α : Type} {n : Nat} : ∀ {l : List (Nat × α)}, n ∈ keys l ↔ n ∈ l.map (·.1)
  | [] => by simp [keys]
  | (k, x) :: r => by simp [keys, keys_mem (l := r)]
theorem get_isSome {α : Type} {n : Nat} {l : List (Nat × α)} : n ∈ keys l ↔ (get n l).isSome = true := by
  rw [mem_keys, Option.isSome_iff_exists]
theorem get_pcU {act : Nat → Nat} {k0 : List Nat} {m : Nat} {y : Blk} : ∀ {bl1 : List (Nat × Blk)}, (keys bl1).Nodup → get m (pcU act k0 bl1) = some y → ∃ n x, get n bl1 = some x ∧ n ∈ k0 ∧ m = act n ∧ y = renBl act x
  | [], _, h => by simp [pcU, get] at h
  | (n, x) :: r, hd, h => by
    simp only [pcU] at h
    simp only [keys, List.nodup_cons] at hd
    have ih : get m (pcU act k0 r) = some y → ∃ n' x', get n' ((n, x) :: r) = some x' ∧ n' ∈ k0 ∧ m = act n' ∧ y = renBl act x' := fun h => by
      obtain ⟨n', x', h1, h2, h3, h4⟩ := get_pcU hd.2 h
      by_cases e : n = n'
      · subst e
        exact absurd (mem_keys.2 ⟨_, h1⟩) hd.1
      · exact ⟨n', x', by rw [get, if_neg e]; exact h1, h2, h3, h4⟩
    split at h
    · rename_i hm
      simp only [get] at h
      split at h
      · rename_i e
        cases h
        exact ⟨n, x, by simp [get], mem_iff.1 hm, e.symm, rfl⟩
      · exact ih h
    · exact ih h
theorem get_pcN {act : Nat → Nat} {k0 : List Nat} {m : Nat} {y : Blk} : ∀ {bl1 : List (Nat × Blk)}, (keys bl1).Nodup → get m (pcN act k0 bl1) = some y → ∃ n x, get n bl1 = some x ∧ n ∉ k0 ∧ m = act n ∧ y = renBl act x
  | [], _, h => by simp [pcN, get] at h
  | (n, x) :: r, hd, h => by
    simp only [pcN] at h
    simp only [keys, List.nodup_cons] at hd
    have ih : get m (pcN act k0 r) = some y → ∃ n' x', get n' ((n, x) :: r) = some x' ∧ n' ∉ k0 ∧ m = act n' ∧ y = renBl act x' := fun h => by
      obtain ⟨n', x', h1, h2, h3, h4⟩ := get_pcN hd.2 h
      by_cases e : n = n'
      · subst e
        exact absurd (mem_keys.2 ⟨_, h1⟩) hd.1
      · exact ⟨n', x', by rw [get, if_neg e]; exact h1, h2, h3, h4⟩
    split at h
    · exact ih h
    · rename_i hm
      simp only [get] at h
      split at h
      · rename_i e
        cases h
        exact ⟨n, x, by simp [get], by rw [← mem_iff]; simpa using hm, e.symm, rfl⟩
      · exact ih h
theorem pcU_mem {act : Nat → Nat} {k0 : List Nat} {n : Nat} : ∀ {bl1 : List (Nat × Blk)}, n ∈ keys bl1 → n ∈ k0 → act n ∈ keys (pcU act k0 bl1)
  | [], h, _ => by simp [keys] at h
  | (k, x) :: r, h, h0 => by
    simp only [keys, List.mem_cons] at h
    simp only [pcU]
    rcases h with rfl | h
    · rw [if_pos (mem_iff.2 h0)]; simp [keys]
    · split
      · simp only [keys]; exact List.mem_cons_of_mem _ (pcU_mem h h0)
      · exact pcU_mem h h0
theorem pcN_mem {act : Nat → Nat} {k0 : List Nat} {n : Nat} : ∀ {bl1 : List (Nat × Blk)}, n ∈ keys bl1 → n ∉ k0 → act n ∈ keys (pcN act k0 bl1)
  | [], h, _ => by simp [keys] at h
  | (k, x) :: r, h, h0 => by
    simp only [keys, List.mem_cons] at h
    simp only [pcN]
    rcases h with rfl | h
    · rw [if_neg (by rw [mem_iff]; exact h0)]; simp [keys]
    · split
      · exact pcN_mem h h0
      · simp only [keys]; exact List.mem_cons_of_mem _ (pcN_mem h h0)
/-- what such a call does -/
def pcE (act : Nat → Nat) (bl0 : List (Nat × Blk)) (v0 : AV) (bl1 : List (Nat × Blk)) : Eff :=
  { v := renF act v0, kl := pcK act (keys bl1) bl0, up := pcU act (keys bl0) bl1, nw := pcN act (keys bl0) bl1 }
section
variable {X : Cx} {ops : Array Oper} {σ : AS}
theorem inl_pc {dst : Option Nat} {f : Operand} {args : Array Operand} {types : Array TypeId} {ty : Nat} {pos : String} {af : Array Edge} {g : Nat} {caps fa : List AV} {bl0 bl1 : List (Nat × Blk)} {v0 : AV} {e : Eff} (act : Nat → Nat) (hf : ev σ f = .func g caps)
    (hargs : args.toList.map (ev σ) ++ caps = renFs act fa) (hbl : ∀ n x, get n bl0 = some x → blk σ (act n) = some (renBl act x)) (hd : (keys bl1).Nodup)
    (hinj : ∀ n m, n ∈ keys bl0 ++ keys bl1 → m ∈ keys bl0 ++ keys bl1 → act n = act m → n = m) (hnew : ∀ n, n ∈ keys bl1 → n ∉ keys bl0 → blk σ (act n) = none)
    (hpc : PC X.P X.D g fa bl0 v0 bl1) (hdst : ∀ k, dst = some k → k < σ.nt) (he : e = pcE act bl0 v0 bl1) :
    InlOp X ops ⟨dst, .call ⟨.value f, args, types⟩, ty, pos, af, none⟩ σ (fun σ' => Eqv (apply σ dst e) σ') := by
  subst he
  refine ⟨fun γ a w i Qx hi ⟨ρ, hst⟩ => ?_⟩
  have hvf := (hst.ev f).1
  rw [hf] at hvf
  generalize hV : a.eval f = V at hvf
  cases hvf with
  | func g cs fvs hl hval =>
  have hra : Rels w (Im X.S X.N0 X.B w ρ σ) ρ (args.toList.map (ev σ)) (args.toList.map a.eval) := by
    refine ⟨by simp, fun k x v hx hv => ?_⟩
    rw [List.getElem?_map] at hx hv
    obtain ⟨y, hy, rfl⟩ := Option.map_eq_some_iff.1 hx
    rw [hy] at hv
    cases hv
    exact (hst.ev y).1
  have hra := hra.append (ys := caps) (vs := fvs.toList) ⟨by simpa using hl, fun i x v hx hv => hval i x v hx (by simpa using hv)⟩
  rw [hargs, renFs_eq] at hra
  have size0 : X.B ≤ w.heap.size := Nat.le_trans hst.base hst.frm.size
  obtain ⟨⟨fn, hfn, hname, hbody⟩, hclos, hcall⟩ := hpc
  have hcall := hcall w (Im X.S X.N0 X.B w ρ σ) (fun n => ρ (act n)) (args.map a.eval ++ fvs) (fun b hb => hb.1) (by
      refine ⟨by have := hra.1; simpa using this, fun k x v hx hv => ?_⟩
      exact (hra.2 k (renF act x) v (by rw [List.getElem?_map, hx]; rfl) (by simpa using hv)).unF)
    ⟨fun n x hx => (hst.hp.blk _ _ (hbl n x hx)).unF, fun n m b x y hx hy h1 h2 => hinj n m (List.mem_append_left _ (mem_keys.2 ⟨_, hx⟩)) (List.mem_append_left _ (mem_keys.2 ⟨_, hy⟩)) (hst.hp.inj _ _ b _ _ (hbl n x hx) (hbl m y hy) h1 h2),
      fun n x b hx hb => hst.hp.off _ _ b (hbl n x hx) hb, fun b hb => hb.1, fun n cs hx m hm => get_isSome.1 (hclos n cs hx m hm)⟩
  refine wpOp_plain hi rfl ?_
  unfold Oper.wp
  have hex : (execOp a.eval ⟨dst, .call ⟨.value f, args, types⟩, ty, pos, af, none⟩).run X.P w = .ok (.enter g (args.map a.eval ++ fvs)) w := by
    have hn' : ¬ fn.name = "runtime.NumGoroutine" := by simpa using hname
    have hb' : ¬ fn.body = none := by rintro e; rw [e] at hbody; cases hbody
    simp [execOp, resolve, hV, Deferred.ofValue, invoke, callFunc, program, Sem.run, hfn, hn', hb']
  rw [hex, Oper.upon_enter]
  refine hcall.mono fun en w' ⟨v, he, hfrm, ρ', hkeep, hhp, hown, hrel, hnm⟩ => ?_
  subst he
  have hi0 : ∀ n m, n ∈ keys bl0 → m ∈ keys bl0 → act n = act m → n = m := fun n m h1 h2 => hinj n m (List.mem_append_left _ h1) (List.mem_append_left _ h2)
  have hi1 : ∀ n m, n ∈ keys bl1 → m ∈ keys bl1 → act n = act m → n = m := fun n m h1 h2 => hinj n m (List.mem_append_right _ h1) (List.mem_append_right _ h2)
  have hi01 : ∀ n m, n ∈ keys bl0 → m ∈ keys bl1 → act n = act m → n = m := fun n m h1 h2 => hinj n m (List.mem_append_left _ h1) (List.mem_append_right _ h2)
  -- the caller's names
  let ρ2 : Env := fun n => match (keys bl1).find? (fun k => act k == n) with | some k => ρ' k | none => ρ n
  have hρk : ∀ k, k ∈ keys bl1 → ρ2 (act k) = ρ' k := fun k hk => by
    show (match (keys bl1).find? (fun j => act j == act k) with | some k => ρ' k | none => ρ (act k)) = _
    cases hfd : (keys bl1).find? (fun j => act j == act k) with
    | none => exact absurd (by simp) (List.find?_eq_none.1 hfd k hk)
    | some j =>
      have h1 := List.find?_some hfd
      rw [hi1 j k (List.mem_of_find?_eq_some hfd) hk (by simpa using h1)]
  have hρn : ∀ n, (∀ k, k ∈ keys bl1 → act k ≠ n) → ρ2 n = ρ n := fun n hn => by
    show (match (keys bl1).find? (fun j => act j == n) with | some k => ρ' k | none => ρ n) = _
    have : (keys bl1).find? (fun j => act j == n) = none := List.find?_eq_none.2 fun k hk => by simpa using hn k hk
    rw [this]
  have hb0 : ∀ n, n ∈ keys bl0 → ∃ x, blk σ (act n) = some x := fun n hn => by
    obtain ⟨x, hx⟩ := mem_keys.1 hn
    exact ⟨_, hbl n x hx⟩
  -- a bound name of old is kept, or killed
  have hold : ∀ n, (blk σ n).isSome = true → n ∉ pcK act (keys bl1) bl0 → ρ2 n = ρ n := fun n hn hk => by
    by_cases h : ∃ k, k ∈ keys bl1 ∧ act k = n
    · obtain ⟨k, hk1, rfl⟩ := h
      rw [hρk k hk1]
      by_cases hk0 : k ∈ keys bl0
      · exact hkeep k hk0 hk1
      · rw [hnew k hk1 hk0] at hn; cases hn
    · exact hρn n fun k hk1 e => h ⟨k, hk1, e⟩
  have himF : ∀ b, imOf (Im X.S X.N0 X.B w ρ σ) (NsB (fun n => ρ (act n)) bl0) w.heap.size w' ρ' (fun n => get n bl1) b → imOf X.S X.N0 X.B w' ρ2 (blk (stepS σ (pcK act (keys bl1) bl0) (pcN act (keys bl0) bl1) (pcU act (keys bl0) bl1))) b := by
    rintro b ⟨h1, h2, h3⟩
    refine ⟨h1, ?_, fun n x hx hb => ?_⟩
    · rcases h2 with h2 | h2 | ⟨n, hn, hb⟩
      · exact h2.2.1
      · exact .inr (.inl (by omega))
      · obtain ⟨x, hx⟩ := hb0 n hn
        exact .inr (hst.own _ _ b hx hb)
    · by_cases h : ∃ k, k ∈ keys bl1 ∧ act k = n
      · obtain ⟨k, hk1, rfl⟩ := h
        rw [hρk k hk1] at hb
        obtain ⟨y, hy⟩ := mem_keys.1 hk1
        exact h3 k y hy hb
      · have h' : ∀ k, k ∈ keys bl1 → act k ≠ n := fun k hk1 e => h ⟨k, hk1, e⟩
        rw [hρn n h'] at hb
        rw [blk_step] at hx
        have hn1 : n ∉ keys (pcN act (keys bl0) bl1) := fun hm => by
          obtain ⟨y, hy⟩ := mem_keys.1 hm
          obtain ⟨k, z, q1, q2, q3, q4⟩ := get_pcN hd hy
          exact h' k (mem_keys.2 ⟨_, q1⟩) q3.symm
        have hn2 : n ∉ keys (pcU act (keys bl0) bl1) := fun hm => by
          obtain ⟨y, hy⟩ := mem_keys.1 hm
          obtain ⟨k, z, q1, q2, q3, q4⟩ := get_pcU hd hy
          exact h' k (mem_keys.2 ⟨_, q1⟩) q3.symm
        rw [get_none.2 hn1, get_none.2 hn2] at hx
        simp only at hx
        split at hx
        · cases hx
        rename_i hnk
        obtain ⟨y, hy, _⟩ := mapBlk_some hx
        rcases h2 with h2 | h2 | ⟨m, hm, hb'⟩
        · exact h2.2.2 n y hy hb
        · have := hst.named_lt hy hb
          omega
        · obtain ⟨z, hz⟩ := hb0 m hm
          have := hst.hp.inj _ _ b _ _ hy hz hb hb'
          subst this
          by_cases hm1 : m ∈ keys bl1
          · exact h' m hm1 rfl
          · exact hnk (mem_pcK.2 ⟨m, hm, hm1, rfl⟩)
  have hbound : ∀ k, k ∈ keys bl1 → (blk (stepS σ (pcK act (keys bl1) bl0) (pcN act (keys bl0) bl1) (pcU act (keys bl0) bl1)) (act k)).isSome = true := fun k hk => by
    rw [blk_step]
    by_cases hk0 : k ∈ keys bl0
    · have := pcU_mem (act := act) hk hk0
      obtain ⟨y, hy⟩ := mem_keys.1 this
      split
      · rfl
      · rw [hy]; rfl
    · have := pcN_mem (act := act) hk hk0
      obtain ⟨y, hy⟩ := mem_keys.1 this
      rw [hy]; rfl
  have hst' := (hst.step (w' := w') (ρ' := ρ2) (ks := pcK act (keys bl1) bl0) (nw := pcN act (keys bl0) bl1) (up := pcU act (keys bl0) bl1) hfrm.os hfrm.tape hfrm.output hfrm.size
    (fun b hb hn => hfrm.block b hb fun ⟨n, hn0, hbn⟩ => by
      obtain ⟨x, hx⟩ := hb0 n hn0
      refine hn (act n) x ?_ hx hbn
      by_cases hn1 : n ∈ keys bl1
      · exact .inr (pcU_mem hn1 hn0)
      · exact .inl (mem_pcK.2 ⟨n, hn0, hn1, rfl⟩))
    hold
    (fun n hn => by
      obtain ⟨y, hy⟩ := mem_keys.1 hn
      obtain ⟨k, z, q1, q2, rfl, q4⟩ := get_pcN hd hy
      exact hnew k (mem_keys.2 ⟨_, q1⟩) q2)
    (fun n hn => by
      obtain ⟨y, hy⟩ := mem_keys.1 hn
      obtain ⟨k, z, q1, q2, rfl, q4⟩ := get_pcU hd hy
      obtain ⟨x, hx⟩ := hb0 k q2
      refine ⟨by rw [hx]; rfl, fun hk => ?_⟩
      obtain ⟨j, j1, j2, j3⟩ := mem_pcK.1 hk
      have := hi01 j k j1 (mem_keys.2 ⟨_, q1⟩) j3.symm
      subst this
      exact j2 (mem_keys.2 ⟨_, q1⟩))
    (fun _ n y hy => by
      obtain ⟨k, z, q1, rfl, rfl⟩ : ∃ k z, get k bl1 = some z ∧ n = act k ∧ y = renBl act z := by
        rcases hy with hy | ⟨_, hy⟩
        · obtain ⟨k, z, q1, q2, q3, q4⟩ := get_pcN hd hy
          exact ⟨k, z, q1, q3, q4⟩
        · obtain ⟨k, z, q1, q2, q3, q4⟩ := get_pcU hd hy
          exact ⟨k, z, q1, q3, q4⟩
      refine ⟨(hhp.blk k z q1).renF himF (hρk k (mem_keys.2 ⟨_, q1⟩)) fun cs e m hm => ?_, fun cs e m hm => ?_⟩
      · subst e
        exact hρk m (get_isSome.2 (hhp.closed k cs q1 m hm))
      · cases z with
        | rows _ _ _ => cases e
        | cells cs' =>
          cases e
          obtain ⟨j, hj, rfl⟩ := (namess_renFs act cs' m).1 hm
          exact hbound j (get_isSome.2 (hhp.closed k cs' q1 j hj)))
    (fun n b hn hb => by
      obtain ⟨y, hy⟩ := mem_keys.1 hn
      obtain ⟨k, z, q1, q2, rfl, q4⟩ := get_pcN hd hy
      have hk1 : k ∈ keys bl1 := mem_keys.2 ⟨_, q1⟩
      rw [hρk k hk1] at hb
      refine ⟨?_, (hhp.blk k z q1).lt hb⟩
      rcases hown k z b q1 hb with h | ⟨j, hj, hbj⟩
      · exact .inl h
      · obtain ⟨x, hx⟩ := hb0 j hj
        refine .inr ⟨act j, x, mem_pcK.2 ⟨j, hj, fun hj1 => ?_, rfl⟩, hx, hbj⟩
        obtain ⟨u, hu⟩ := mem_keys.1 hj1
        rw [← hkeep j hj hj1] at hbj
        have := hhp.inj k j b z u q1 hu hb hbj
        subst this
        exact q2 hj)
    (fun n m b hn hm hb hb' => by
      obtain ⟨y, hy⟩ := mem_keys.1 hn
      obtain ⟨k, z, q1, q2, rfl, q4⟩ := get_pcN hd hy
      obtain ⟨y', hy'⟩ := mem_keys.1 hm
      obtain ⟨j, z', p1, p2, rfl, p4⟩ := get_pcN hd hy'
      rw [hρk k (mem_keys.2 ⟨_, q1⟩)] at hb
      rw [hρk j (mem_keys.2 ⟨_, p1⟩)] at hb'
      rw [hhp.inj k j b z z' q1 p1 hb hb'])).1
  have hm : Mak X.D X.S X.N0 X.B ⟨X.w0, γ⟩ σ a (pcE act bl0 v0 bl1) v w' := by
    refine ⟨ρ2, hst', hrel.renF himF fun n hn => hρk n (hnm n hn), fun n hn => ?_⟩
    obtain ⟨k, hk, rfl⟩ := (names_renF act v0 n).1 hn
    exact hbound k (hnm k hk)
  exact ⟨_, Eqv.refl _, hm.fin hdst⟩
end
end Go.Proofs.Ytcgdjdlcecnanaa.Ab
namespace Go.Proofs.Ytcgdjdlcecnanaa.Ab
open Go
set_option linter.unusedVariables false
set_option linter.unusedSimpArgs false

/-- what a name stands for, in a temporary of a frame that waits -/
def pin (n : Nat) : AV := .tup [.ptr n 0, .os n, .eptr n 1 0]
def pinT : Nat → List Nat → List (Nat × AV)
  | _, [] => []
  | k, n :: r => (65536 + k, pin n) :: pinT (k + 1) r
def argP (n : Nat) (args : List AV) (bl0 : List (Nat × Blk)) (ps : List Nat) : AS := { nt := n, tm := num 0 args ++ pinT 0 ps, bl := here bl0 }
def resP (n : Nat) (ts : List Nat) (v0 : AV) (bl1 : List (Nat × Blk)) (ps : List Nat) : AS := { nt := n, tm := resT ts v0 ++ pinT 0 ps, bl := here bl1 }
theorem get_pinT {t : Nat} {x : AV} : ∀ {ps : List Nat} {k : Nat}, get t (pinT k ps) = some x → ∃ i n, ps[i]? = some n ∧ t = 65536 + k + i ∧ x = pin n
  | [], k, h => by simp [pinT, get] at h
  | n :: r, k, h => by
    simp only [pinT, get] at h
    split at h
    · rename_i e
      cases h
      exact ⟨0, n, rfl, by omega, rfl⟩
    · obtain ⟨i, m, h1, h2, h3⟩ := get_pinT h
      exact ⟨i + 1, m, by simpa using h1, by omega, h3⟩
theorem pinT_get : ∀ {ps : List Nat} {k i n : Nat}, ps[i]? = some n → get (65536 + k + i) (pinT k ps) = some (pin n)
  | [], _, _, _, h => by simp at h
  | m :: r, k, 0, n, h => by simp at h; subst h; simp [pinT, get]
  | m :: r, k, i + 1, n, h => by
    simp only [pinT, get]
    rw [if_neg (by omega), show 65536 + k + (i + 1) = 65536 + (k + 1) + i by omega]
    exact pinT_get (by simpa using h)
theorem blk_here (n : Nat) (tm : List (Nat × AV)) (bl : List (Nat × Blk)) (m : Nat) : blk { nt := n, tm := tm, bl := here bl } m = get m bl := by
  simp only [blk, get_here]
  cases get m bl <;> rfl
theorem resT_lt {t : Nat} {x : AV} {v0 : AV} : ∀ {ts : List Nat}, ts.all (fun t => decide (t < 65536)) = true → get t (resT ts v0) = some x → t < 65536 := by
  have key : ∀ (ts : List Nat) (vs : List AV), ts.all (fun t => decide (t < 65536)) = true → get t (resT.resT' ts vs) = some x → t < 65536 := by
    intro ts
    induction ts with
    | nil => intro vs _ h; cases vs <;> simp [resT.resT', get] at h
    | cons u ts ih =>
      intro vs hall h
      simp only [List.all_cons, Bool.and_eq_true, decide_eq_true_eq] at hall
      cases vs with
      | nil => simp [resT.resT', get] at h
      | cons v vs =>
        simp only [resT.resT', get] at h
        split at h
        · omega
        · exact ih vs hall.2 h
  intro ts hall h
  unfold resT at h
  split at h
  · simp only [get] at h
    split at h
    · rename_i e; subst e; simpa using hall
    · cases h
  · rename_i u us v vs _
    exact key (_ :: _) (_ :: _) (by assumption) h
  · simp [get] at h
theorem closB_of {bl0 : List (Nat × Blk)} (h : ∀ p ∈ bl0, (match p.2 with | .cells cs => subs (namess cs) (keys bl0) | _ => true) = true) : closB bl0 := by
  intro n cs hn m hm
  have key : ∀ (l : List (Nat × Blk)), get n l = some (.cells cs) → ∃ p ∈ l, p.2 = .cells cs := by
    intro l
    induction l with
    | nil => intro h; simp [get] at h
    | cons p r ih =>
      intro h
      obtain ⟨k, x⟩ := p
      simp only [get] at h
      split at h
      · cases h; exact ⟨_, List.mem_cons_self .., rfl⟩
      · obtain ⟨p, h1, h2⟩ := ih h
        exact ⟨p, List.mem_cons_of_mem _ h1, h2⟩
  obtain ⟨p, h1, h2⟩ := key bl0 hn
  have := h p h1
  rw [h2] at this
  exact subs_mem this hm
theorem pc_of {P : Program} {D : Nat → TI} {G : Ctr} {M : MCtr} (hM : MOk P D G M) (hm : P.follows .mixedOrders = true) (hT : TOk P D) (hG : GOk P D G) {f : Nat} {fn : Func} {c : Code} {rs : List (Nat × Option Nat)} {args : List AV} {v0 : AV} {bl0 bl1 : List (Nat × Blk)} (ps : List Nat)
    (hf : P.funcs[f]? = some fn) (hb : fn.body = some c) (hname : (fn.name == "runtime.NumGoroutine") = false) (hres : fn.results = (rs.map toRV).toArray) (hd : (rs.map (·.1)).Nodup) (hfit : resFit (rs.map (·.1)) v0 = true) (hts : (rs.map (·.1)).all (fun t => decide (t < 65536)) = true)
    {n : Nat} (hn : fn.ntmps = n) (hlen : args.length ≤ n ∧ n ≤ 65536) (hnm : ∀ k ∈ namess args, k ∈ keys bl0) (hclos : closB bl0) (hps : ∀ k, k ∈ ps → ∃ cs, get k bl0 = some (.cells cs)) (hkeep : ∀ k, k ∈ keys bl0 → k ∈ keys bl1 → k ∈ ps)
    (h : ∀ X : Cx, X.P = P → X.D = D ∧ X.nb = 0 ∧ X.M = M → X.G = G → X.Ok → Tr X c (fun e σ' => (e = .normal ∨ e = .ret) ∧ ∃ σ1, unbox D rs σ' = some σ1 ∧ ∃ ns rl, Cover D (Ab.freeze σ1 ns) (resP n (rs.map (·.1)) v0 bl1 ps) rl) (argP n args bl0 ps)) : PC P D f args bl0 v0 bl1 := by
  refine ⟨⟨fn, hf, hname, by rw [hb]; rfl⟩, hclos, fun w im ρ vs him hvs hhp => ?_⟩
  subst hn
  have hsz : vs.size = args.length := by have := hvs.1; simp at this; omega
  let X : Cx := ⟨P, D, G, im, NsB ρ bl0, w.heap.size, w, 0, M⟩
  let γ : Nat → Value := fun k => match ps[k]? with
    | some m => .tuple #[.pointer (some ⟨(ρ m).b.getD 0, 0, none⟩), (ρ m).sv, .pointer (some ⟨(ρ m).b.getD 0, 1 * (ρ m).sz + 0, none⟩)]
    | none => undef
  have hbk : ∀ m, blk (argP fn.ntmps args bl0 ps) m = get m bl0 := fun m => blk_here _ _ _ m
  have hbf : blk (argP fn.ntmps args bl0 ps) = fun m => get m bl0 := funext hbk
  have hi : ∀ b, im b → imOf im (NsB ρ bl0) w.heap.size w ρ (blk (argP fn.ntmps args bl0 ps)) b := fun b hb => ⟨him b hb, .inl hb, fun m x hx hbm => hhp.off m x b (by rw [← hbk]; exact hx) hbm hb⟩
  have hpb : ∀ m, m ∈ ps → ∃ b, (ρ m).b = some b := fun m hm' => by
    obtain ⟨cs, hcs⟩ := hps m hm'
    obtain ⟨b, _, _, h1, _⟩ := hhp.blk m _ hcs
    exact ⟨b, h1⟩
  have hst : X.St γ (argP fn.ntmps args bl0 ps) { tmps := vs ++ Array.replicate (fn.ntmps - vs.size) undef, defers := [] } w := by
    refine ⟨ρ, fun t x hx => ?_, ⟨fun m x hx => ?_, fun m k b x y hx hy => ?_, fun m x b hx hbm hib => hib.2.2 m x hx hbm, fun b hb => hb.1, fun m cs hx k hk => ?_⟩, ⟨by simp [argP]; omega, hlen.2⟩, Nat.le_refl _, ⟨rfl, rfl, rfl, Nat.le_refl _, fun _ _ _ => rfl⟩, fun m x b hx hbm => ?_, rfl⟩
    · simp only [argP, get_append] at hx
      cases hg : get t (num 0 args) with
      | some y =>
        rw [hg] at hx
        cases hx
        obtain ⟨_, hx'⟩ := get_num hg
        simp only [Nat.sub_zero] at hx'
        have hlt : t < args.length := (List.getElem?_eq_some_iff.1 hx').1
        refine ⟨?_, fun k hk => by rw [hbk]; exact get_isSome.1 (hnm k (mem_namess hx' hk))⟩
        have hv : (vs ++ Array.replicate (fn.ntmps - vs.size) undef).getD t undef = vs[t]'(by omega) := by
          rw [Array.getD_eq_getD_getElem?, Array.getElem?_append_left (by omega)]
          simp [show t < vs.size by omega]
        rw [vl, if_pos (by omega)]
        simp only
        rw [hv]
        have := hvs.2 t x (vs[t]'(by omega)) hx' (by simp [show t < vs.size by omega])
        exact this.mono hi (fun _ _ => rfl) (fun _ _ => rfl)
      | none =>
        rw [hg] at hx
        obtain ⟨i, m, h1, h2, h3⟩ := get_pinT hx
        subst h3
        have hmp := List.mem_of_getElem? h1
        obtain ⟨b, hb'⟩ := hpb m hmp
        obtain ⟨cs, hcs⟩ := hps m hmp
        have hv : vl γ { tmps := vs ++ Array.replicate (fn.ntmps - vs.size) undef, defers := [] } t = .tuple #[.pointer (some ⟨b, 0, none⟩), (ρ m).sv, .pointer (some ⟨b, 1 * (ρ m).sz + 0, none⟩)] := by
          rw [vl, if_neg (by omega)]
          show (match ps[t - 65536]? with | some m => _ | none => undef) = _
          rw [show t - 65536 = i by omega, h1]
          simp [hb']
        refine ⟨?_, fun k hk => ?_⟩
        · show Rel _ _ _ _ (vl γ _ t)
          rw [hv]
          refine .tup _ _ rfl fun j x v hx hv => ?_
          match j with
          | 0 => simp at hx hv; subst hx hv; exact .ptr m 0 b hb'
          | 1 => simp at hx hv; subst hx hv; exact .os m
          | 2 => simp only [List.getElem?_cons_succ, List.getElem?_cons_zero, Option.some.injEq, List.getElem?_toArray] at hx hv; subst hx hv; exact .eptr m 1 0 b hb'
          | j + 3 => simp at hx
        · have : k = m := by simpa [pin, names, namess] using hk
          rw [this, hbk, hcs]; rfl
    · rw [hbk] at hx
      exact (hhp.blk m x hx).mono rfl (fun _ _ => rfl) hi (fun _ _ => rfl) (fun _ _ _ _ => rfl)
    · rw [hbk] at hx hy
      exact hhp.inj m k b x y hx hy
    · rw [hbk] at hx ⊢
      exact hhp.closed m cs hx k hk
    · rw [hbk] at hx
      exact .inr ⟨m, mem_keys.2 ⟨_, hx⟩, hbm⟩
  refine calls_of_wp hf hb (wp_mono (h X rfl ⟨rfl, rfl, rfl⟩ rfl (hM.ok rfl rfl rfl rfl hm hT hG) γ _ w hst) fun e a0 w' ⟨σ', ⟨he, σ1, hub, ns, rl, hcov⟩, hs⟩ => ?_)
  obtain ⟨ρ1, hs⟩ := hs
  have hdf := hs.defers
  obtain ⟨a, hs, _, hrun⟩ := unbox_ok hT rs σ' σ1 a0 hd hs hub
  have hrun := results_rs hres hrun
  generalize hts' : rs.map (·.1) = ts at *
  obtain ⟨ρ2, hs⟩ := (hs.freeze ns).cover hcov
  have hbk1 : blk (resP fn.ntmps ts v0 bl1 ps) = fun m => get m bl1 := funext fun m => blk_here _ _ _ m
  have hval : Rel w' (imOf im (NsB ρ bl0) w.heap.size w' ρ2 (fun m => get m bl1)) ρ2 v0 (resV ts a.tmps) ∧ ∀ k ∈ names v0, k ∈ keys bl1 := by
    have one : ∀ t x, t < 65536 → get t (resT ts v0) = some x → Rel w' (imOf im (NsB ρ bl0) w.heap.size w' ρ2 (fun m => get m bl1)) ρ2 x (a.tmps.getD t undef) ∧ ∀ k ∈ names x, k ∈ keys bl1 := fun t x h6 hx => by
      have h7 := hs.tm t x (by simp only [resP, get_append, hx])
      have h8 := h7.1
      have h9 := h7.2
      rw [vl, if_pos h6] at h8
      rw [hbk1] at h8 h9
      exact ⟨h8, fun k hk => get_isSome.2 (h9 k hk)⟩
    match ts, hd, hfit, one with
    | [t], _, hfit, one => exact one t v0 (by simpa [resFit] using hfit) (by simp [resT, get])
    | [], _, hfit, _ =>
      cases v0 with
      | tup l =>
        cases l with
        | nil => exact ⟨.tup [] #[] rfl (by simp), by simp [names, namess]⟩
        | cons x l => simp [resFit] at hfit
      | _ => simp [resFit] at hfit
    | t :: u :: ts, hd, hfit, one =>
      cases hrv : v0 <;> rw [hrv] at hfit <;> simp only [resFit] at hfit <;> try (cases hfit; done)
      rename_i vs'
      rw [Bool.and_eq_true] at hfit
      have hl : vs'.length = (t :: u :: ts).length := by simpa using hfit.1
      have h6 : ∀ (i : Nat) s, (t :: u :: ts)[i]? = some s → s < 65536 := fun i s hi => by simpa using List.all_eq_true.1 hfit.2 s (List.mem_of_getElem? hi)
      rw [hrv] at one
      have hget : ∀ (i : Nat) s, (t :: u :: ts)[i]? = some s → get s (resT (t :: u :: ts) (.tup vs')) = vs'[i]? := fun i s hi => by
        have := resT'_get hd hi hl
        cases vs' with
        | nil => simp at hl
        | cons v vs' => exact this
      refine ⟨.tup vs' _ (by simp [hl]) fun i x v hx hv => ?_, fun k hk => ?_⟩
      · have hi : i < (t :: u :: ts).length := by rw [← hl]; exact (List.getElem?_eq_some_iff.1 hx).1
        have hs1 : (t :: u :: ts)[i]? = some ((t :: u :: ts)[i]) := by simp [hi]
        have := (one _ x (h6 i _ hs1) (by rw [hget i _ hs1]; exact hx)).1
        have hv' : v = a.tmps.getD ((t :: u :: ts)[i]) undef := by
          rw [List.getElem?_toArray, List.getElem?_map, hs1] at hv
          simpa using hv.symm
        rw [hv']
        exact this
      · rw [names] at hk
        obtain ⟨i, x, hx, hk⟩ := namess_mem hk
        have hi : i < (t :: u :: ts).length := by rw [← hl]; exact (List.getElem?_eq_some_iff.1 hx).1
        have hs1 : (t :: u :: ts)[i]? = some ((t :: u :: ts)[i]) := by simp [hi]
        exact (one _ x (h6 i _ hs1) (by rw [hget i _ hs1]; exact hx)).2 k hk
  have hkp : ∀ m, m ∈ ps → ρ2 m = ρ m := fun m hmp => by
    obtain ⟨i, hi'⟩ := List.getElem?_of_mem hmp
    obtain ⟨b, hb'⟩ := hpb m hmp
    have hgt : get (65536 + 0 + i) (resP fn.ntmps ts v0 bl1 ps).tm = some (pin m) := by
      simp only [resP, get_append]
      cases hg : get (65536 + 0 + i) (resT ts v0) with
      | some y => have := resT_lt hts hg; omega
      | none => exact pinT_get hi'
    have h7 := (hs.tm _ _ hgt).1
    have hv : vl γ a (65536 + 0 + i) = .tuple #[.pointer (some ⟨b, 0, none⟩), (ρ m).sv, .pointer (some ⟨b, 1 * (ρ m).sz + 0, none⟩)] := by
      rw [vl, if_neg (by omega)]
      show (match ps[65536 + 0 + i - 65536]? with | some m => _ | none => undef) = _
      rw [show 65536 + 0 + i - 65536 = i by omega, hi']
      simp [hb']
    change Rel _ _ _ _ (vl γ a _) at h7
    rw [hv] at h7
    cases h7 with
    | tup _ _ _ hval =>
    have h0 := hval 0 _ _ rfl rfl
    have h1 := hval 1 _ _ rfl rfl
    have h2 := hval 2 _ _ rfl rfl
    cases h0 with
    | ptr _ _ b0 q0 =>
    generalize hsv : (ρ m).sv = sv at h1
    generalize hpp : (⟨b, 1 * (ρ m).sz + 0, none⟩ : Addr) = pp at h2
    cases h1
    generalize hq : (Value.pointer (some pp)) = qq at h2
    cases h2 with
    | eptr _ _ _ b2 q2 =>
    simp only [Value.pointer.injEq, Option.some.injEq] at hq
    rw [← hpp] at hq
    simp only [Addr.mk.injEq] at hq
    have hsz2 : (ρ2 m).sz = (ρ m).sz := by have := hq.2.1; omega
    simp only [NI.sv, Value.slice.injEq] at hsv
    cases hr : ρ m with
    | mk rb rA rn rc rsz =>
    cases hr2 : ρ2 m with
    | mk sb sA sn sc ssz =>
    rw [hr] at hsv hsz2 hb'
    rw [hr2] at hsv hsz2 q0
    simp only at hsv hsz2 q0 hb'
    obtain ⟨e1, e2, e3⟩ := hsv
    rw [q0, hb', e1, e2, e3, hsz2]
  have hhp2 := hs.hp
  have hown2 := hs.own
  rw [hbk1] at hhp2
  have hpost : PPost D w im ρ bl0 v0 bl1 (resV ts a.tmps) w' := by
    refine ⟨hs.frm, ρ2, fun m h1 h2 => hkp m (hkeep m h1 h2), hhp2, fun m x b hx hb' => ?_, hval.1, hval.2⟩
    exact hown2 m x b (by rw [hbk1]; exact hx) hb'
  rcases he with rfl | rfl
  · exact ⟨hdf, _, hrun, _, rfl, hpost⟩
  · exact ⟨hdf, _, hrun, _, rfl, hpost⟩
end Go.Proofs.Ytcgdjdlcecnanaa.Ab
namespace Go.Proofs.Ytcgdjdlcecnanaa.Ab
open Go
set_option linter.unusedVariables false
set_option linter.unusedSimpArgs false

/-- the caller's names: formal ones from 60000 on are pointers' blocks; others are new -/
def mkAct (dn : Nat) (aa : List Nat) (n : Nat) : Nat := if n < 60000 then dn + 4096 * (n + 1) else aa.getD (n - 60000) 0
theorem mkAct_lo {dn n : Nat} {aa : List Nat} (h : n < 60000) : mkAct dn aa n = dn + 4096 * (n + 1) := if_pos h
theorem mkAct_hi {dn k : Nat} {aa : List Nat} : mkAct dn aa (60000 + k) = aa.getD k 0 := by
  unfold mkAct
  rw [if_neg (Nat.not_lt.2 (Nat.le_add_right _ _)), Nat.add_sub_cancel_left]
theorem mkAct_inj {dn n m np : Nat} {aa : List Nat} (h : aa.Nodup) (hl : aa.length = np) (a1 : 60000 ≤ n) (a2 : n < 60000 + np) (b1 : 60000 ≤ m) (b2 : m < 60000 + np) (e : mkAct dn aa n = mkAct dn aa m) : n = m := by
  obtain ⟨i, rfl⟩ := Nat.exists_eq_add_of_le a1
  obtain ⟨j, rfl⟩ := Nat.exists_eq_add_of_le b1
  have i1 : i < aa.length := by rw [hl]; exact Nat.lt_of_add_lt_add_left a2
  have i2 : j < aa.length := by rw [hl]; exact Nat.lt_of_add_lt_add_left b2
  rw [mkAct_hi, mkAct_hi, List.getD_eq_getElem?_getD, List.getD_eq_getElem?_getD, List.getElem?_eq_getElem i1, List.getElem?_eq_getElem i2] at e
  have := (List.getElem_inj h).1 e
  rw [this]
structure PEnt (P : Program) (D : Nat → TI) where
  f : Nat
  X : Type
  np : Nat
  args : X → List AV
  bl0 : X → List (Nat × Blk)
  v0 : X → AV
  bl1 : X → List (Nat × Blk)
  ok : X → Prop
  k0 : ∀ x n, n ∈ keys (bl0 x) → 60000 ≤ n ∧ n < 60000 + np
  k1 : ∀ x n, n ∈ keys (bl1 x) → n < 60000 ∨ n ∈ keys (bl0 x)
  nd : ∀ x, (keys (bl1 x)).Nodup
  inj : ∀ x y dn aa bs (bl : Nat → Option Blk), ok x → ok y → aa.length = np → bs.length = np → renFs (mkAct dn aa) (args x) = renFs (mkAct dn bs) (args y) →
    (∀ n z, get n (bl0 x) = some z → bl (mkAct dn aa n) = some (renBl (mkAct dn aa) z)) → (∀ n z, get n (bl0 y) = some z → bl (mkAct dn bs n) = some (renBl (mkAct dn bs) z)) →
    pcE (mkAct dn aa) (bl0 x) (v0 x) (bl1 x) = pcE (mkAct dn bs) (bl0 y) (v0 y) (bl1 y)
  con : ∀ x, ok x → PC P D f (args x) (bl0 x) (v0 x) (bl1 x)
section
variable {P : Program} {D : Nat → TI}
def PEnt.Match (E : PEnt P D) (dn : Nat) (args : List AV) (bl : Nat → Option Blk) (x : E.X) (aa : List Nat) : Prop :=
  E.ok x ∧ aa.length = E.np ∧ aa.Nodup ∧ renFs (mkAct dn aa) (E.args x) = args ∧ ∀ n z, get n (E.bl0 x) = some z → bl (mkAct dn aa n) = some (renBl (mkAct dn aa) z)
open Classical in
noncomputable def PEnt.eff (E : PEnt P D) (dn : Nat) (args : List AV) (bl : Nat → Option Blk) : Option Eff :=
  if h : ∃ p : E.X × List Nat, E.Match dn args bl p.1 p.2 then some (pcE (mkAct dn h.choose.2) (E.bl0 h.choose.1) (E.v0 h.choose.1) (E.bl1 h.choose.1)) else none
noncomputable def pcM : List (PEnt P D) → MCtr
  | [], _, _, _, _ => none
  | E :: r, dn, f, args, bl => if f = E.f then (match E.eff dn args bl with | some e => some e | none => pcM r dn f args bl) else pcM r dn f args bl
theorem PEnt.hit (E : PEnt P D) {dn : Nat} {args : List AV} {bl : Nat → Option Blk} {x : E.X} {aa : List Nat} (h : E.Match dn args bl x aa) : E.eff dn args bl = some (pcE (mkAct dn aa) (E.bl0 x) (E.v0 x) (E.bl1 x)) := by
  unfold PEnt.eff
  have hex : ∃ p : E.X × List Nat, E.Match dn args bl p.1 p.2 := ⟨(x, aa), h⟩
  rw [dif_pos hex]
  obtain ⟨q1, q2, q3, q4, q5⟩ := hex.choose_spec
  obtain ⟨p1, p2, p3, p4, p5⟩ := h
  rw [E.inj _ _ dn _ _ bl q1 p1 q2 p2 (q4.trans p4.symm) q5 p5]
theorem PEnt.sound (E : PEnt P D) {dn : Nat} {args : List AV} {bl : Nat → Option Blk} {e : Eff} (h : E.eff dn args bl = some e) : ∃ x aa, E.Match dn args bl x aa ∧ e = pcE (mkAct dn aa) (E.bl0 x) (E.v0 x) (E.bl1 x) := by
  unfold PEnt.eff at h
  split at h
  · rename_i hex
    cases h
    exact ⟨_, _, hex.choose_spec, rfl⟩
  · cases h
theorem pcM_sound : ∀ {T : List (PEnt P D)} {dn f : Nat} {args : List AV} {bl : Nat → Option Blk} {e : Eff}, pcM T dn f args bl = some e → ∃ E ∈ T, f = E.f ∧ ∃ x aa, E.Match dn args bl x aa ∧ e = pcE (mkAct dn aa) (E.bl0 x) (E.v0 x) (E.bl1 x)
  | [], _, _, _, _, _, h => by simp [pcM] at h
  | E :: T, dn, f, args, bl, e, h => by
    have rest : pcM T dn f args bl = some e → ∃ E' ∈ E :: T, f = E'.f ∧ ∃ x aa, E'.Match dn args bl x aa ∧ e = pcE (mkAct dn aa) (E'.bl0 x) (E'.v0 x) (E'.bl1 x) := fun h => by
      obtain ⟨E', h1, h2⟩ := pcM_sound h
      exact ⟨E', List.mem_cons_of_mem _ h1, h2⟩
    rw [pcM] at h
    split at h
    · rename_i hf
      split at h
      · rename_i e' he
        cases h
        exact ⟨E, List.mem_cons_self .., hf, E.sound he⟩
      · exact rest h
    · exact rest h
theorem mok_pc {G : Ctr} {T : List (PEnt P D)} : MOk P D G (pcM T) := by
  intro X hP hD hG hM hmx hT hok ops o σ e hgd he hpre hfr
  obtain ⟨dst, f, args, types, ty, pos, af, g, caps, rfl, hf, he⟩ := mEff_call he hgd
  obtain ⟨E, _, rfl, x, aa, ⟨m1, m2, m3, m4, m5⟩, rfl⟩ := pcM_sound he
  simp only [fresh, Bool.and_eq_true] at hfr
  have hnew : ∀ n, n ∈ keys (E.bl1 x) → n ∉ keys (E.bl0 x) → blk σ (mkAct (X.nb + dst.getD 0) aa n) = none := fun n h1 h2 =>
    unbound_mem hfr.1 _ (pcN_mem h1 h2)
  have hb0 : ∀ n z, get n (E.bl0 x) = some z → blk σ (mkAct (X.nb + dst.getD 0) aa n) = some (renBl (mkAct (X.nb + dst.getD 0) aa) z) := fun n z hz => names_bl_snap (m5 n z hz)
  refine inl_pc (mkAct (X.nb + dst.getD 0) aa) hf m4.symm hb0 (E.nd x) (fun n m hn hm hnm => ?_) hnew (by rw [hP, hD]; exact E.con x m1) (fun k hk => ?_) rfl
  · have hn' : n < 60000 ∨ n ∈ keys (E.bl0 x) := (List.mem_append.1 hn).elim .inr (E.k1 x n)
    have hm' : m < 60000 ∨ m ∈ keys (E.bl0 x) := (List.mem_append.1 hm).elim .inr (E.k1 x m)
    have mix : ∀ a b, a < 60000 → b ∈ keys (E.bl0 x) → a ∈ keys (E.bl0 x) ++ keys (E.bl1 x) → mkAct (X.nb + dst.getD 0) aa a = mkAct (X.nb + dst.getD 0) aa b → False := fun a b ha hb hab e => by
      have ha0 : a ∉ keys (E.bl0 x) := fun h => absurd ha (Nat.not_lt.2 (E.k0 x a h).1)
      have h1 := hnew a ((List.mem_append.1 hab).resolve_left ha0) ha0
      obtain ⟨z, hz⟩ := mem_keys.1 hb
      rw [e, hb0 b z hz] at h1
      cases h1
    rcases hn' with hn' | hn' <;> rcases hm' with hm' | hm'
    · rw [mkAct_lo hn', mkAct_lo hm'] at hnm
      have := Nat.add_left_cancel hnm
      have := Nat.eq_of_mul_eq_mul_left (show 0 < 4096 by decide) this
      exact Nat.succ.inj this
    · exact (mix n m hn' hm' hn hnm).elim
    · exact (mix m n hm' hn' hm hnm.symm).elim
    · obtain ⟨a1, a2⟩ := E.k0 x n hn'
      obtain ⟨b1, b2⟩ := E.k0 x m hm'
      exact mkAct_inj m3 m2 a1 a2 b1 b2 hnm
  · have := hfr.2
    subst hk
    simpa using this
/-- where the table is looked at -/
theorem pcM_use {T : List (PEnt P D)} {E : PEnt P D} {i : Nat} (hT : T[i]? = some E) (hn : ((T.take i).map (·.f)).all (fun g => !(E.f == g)) = true) (x : E.X) (hx : E.ok x) (aa : List Nat) (h1 : aa.length = E.np) (h2 : aa.Nodup) {dn : Nat} {args : List AV} {bl : Nat → Option Blk}
    (h3 : renFs (mkAct dn aa) (E.args x) = args) (h4 : ∀ n z, get n (E.bl0 x) = some z → bl (mkAct dn aa n) = some (renBl (mkAct dn aa) z)) : pcM T dn E.f args bl = some (pcE (mkAct dn aa) (E.bl0 x) (E.v0 x) (E.bl1 x)) := by
  induction T generalizing i with
  | nil => simp at hT
  | cons E' T ih =>
    cases i with
    | zero =>
      simp at hT
      subst hT
      rw [pcM, if_pos rfl, E'.hit ⟨hx, h1, h2, h3, h4⟩]
    | succ i =>
      simp only [List.take_succ_cons, List.map_cons, List.all_cons, Bool.and_eq_true, Bool.not_eq_true', beq_eq_false_iff_ne] at hn
      rw [pcM, if_neg hn.1]
      exact ih (by simpa using hT) hn.2
end
attribute [go_sem] pcE pcK pcU pcN mkAct renF renFs renBl pin pinT
/-! a pointer compared with nil -/
def isP : AV → Option Bool
  | .ptr _ _ => some true
  | .iptr _ => some true
  | .eptr _ _ _ => some true
  | .nilp => some false
  | _ => none
theorem inl_nil {X : Cx} {ops : Array Oper} {σ : AS} {R : AS → Prop} {d T U el : Nat} {x : Operand} {ty : Nat} {pos : String} {af : Array Edge} {b : Bool} (hu : X.P.underlying T = some (.pointer el)) (hx : isP (ev σ x) = some b) (hd : d < σ.nt)
    (h : R { σ with tm := (d, .bool b) :: σ.tm }) : InlOp X ops ⟨some d, .binOp .neq T x (.const (.pointer none)) U, ty, pos, af, none⟩ σ R := by
  refine ⟨fun γ a w i Qx hi ⟨ρ, hs⟩ => ?_⟩
  have hvx := (hs.ev x).1
  refine wpOp_plain hi rfl ?_
  have hex : execOp a.eval ⟨some d, .binOp .neq T x (.const (.pointer none)) U, ty, pos, af, none⟩ = (do pure (.value (← (do eqGuard .neq T x (.const (.pointer none)) (a.eval x) (.pointer none); binOp .neq T (a.eval x) (.pointer none))))) := rfl
  have hnone : ∀ (p : Option Addr), (do eqGuard .neq T x (.const (.pointer none)) (.pointer p) (.pointer none); binOp .neq T (.pointer p) (.pointer none) : Sem Value).run X.P w = .ok (.bool p.isSome) w := fun p => by
    have he : (Op.equal T (.pointer p) (.pointer none)).run X.P w = .ok (!p.isSome) w := by
      unfold Op.equal
      rw [show Op.maxDepth = 9999 + 1 from rfl]
      unfold Op.equalIn
      cases p <;> simp [run_underlying hu]
    simp [eqGuard, binOp, he]
  have hv : ∃ p : Option Addr, a.eval x = .pointer p ∧ p.isSome = b := by
    generalize ev σ x = xa at hx hvx
    generalize a.eval x = xv at hvx
    cases hvx <;> simp [isP] at hx <;> subst hx <;> exact ⟨_, rfl, rfl⟩
  obtain ⟨p, hp, rfl⟩ := hv
  refine wp_of_value hex (v := .bool p.isSome) (w' := w) ?_ ⟨_, h, ρ, hs.put hd (.bool _) (by simp [names])⟩
  rw [hp]
  exact hnone p
end Go.Proofs.Ytcgdjdlcecnanaa.Ab
namespace Go.Proofs.Ytcgdjdlcecnanaa.Ab
open Go
set_option linter.unusedVariables false
set_option linter.unusedSimpArgs false

mutual
/-- pointers into the block n, whose cells are cs, become pointers into memory that is only read -/
def ice (n : Nat) (cs : List AV) : AV → AV
  | .os t => if t = n then .junk else .os t
  | .ptr v o => if v = n then .iptr (cs.drop o) else .ptr v o
  | .tsl v o => if v = n then .junk else .tsl v o
  | .eptr v i o => if v = n then .junk else .eptr v i o
  | .agg xs => .agg (ices n cs xs)
  | .tup xs => .tup (ices n cs xs)
  | .func f xs => .func f (ices n cs xs)
  | .opt g v => .opt g (ice n cs v)
  | v => v
def ices (n : Nat) (cs : List AV) : List AV → List AV
  | [] => []
  | v :: r => ice n cs v :: ices n cs r
end
theorem ices_eq (n : Nat) (ds : List AV) : ∀ cs : List AV, ices n ds cs = cs.map (ice n ds)
  | [] => by simp [ices]
  | c :: r => by simp [ices, ices_eq n ds r]
mutual
theorem names_ice (n : Nat) (cs : List AV) : ∀ x : AV, (∀ m ∈ names (ice n cs x), m ∈ names x ∧ m ≠ n)
  | .os t => by simp only [ice]; split <;> simp_all [names]
  | .ptr v o => by simp only [ice]; split <;> simp_all [names]
  | .tsl v o => by simp only [ice]; split <;> simp_all [names]
  | .eptr v i o => by simp only [ice]; split <;> simp_all [names]
  | .agg xs => by simpa only [ice, names] using namess_ices n cs xs
  | .tup xs => by simpa only [ice, names] using namess_ices n cs xs
  | .func f xs => by simpa only [ice, names] using namess_ices n cs xs
  | .opt g v => by simpa only [ice, names] using names_ice n cs v
  | .junk => by simp [ice, names]
  | .int _ _ => by simp [ice, names]
  | .bool _ => by simp [ice, names]
  | .str _ => by simp [ice, names]
  | .nils => by simp [ice, names]
  | .sl _ _ => by simp [ice, names]
  | .iptr _ => by simp [ice, names]
  | .lsl _ => by simp [ice, names]
  | .imap _ => by simp [ice, names]
  | .nilp => by simp [ice, names]
theorem namess_ices (n : Nat) (cs : List AV) : ∀ xs : List AV, (∀ m ∈ namess (ices n cs xs), m ∈ namess xs ∧ m ≠ n)
  | [] => by simp [ices, namess]
  | c :: r => by
    simp only [ices, namess, List.mem_append]
    rintro m (hn | hn)
    · exact ⟨.inl (names_ice n cs c m hn).1, (names_ice n cs c m hn).2⟩
    · exact ⟨.inr (namess_ices n cs r m hn).1, (namess_ices n cs r m hn).2⟩
end
theorem Rel.ice {D : Nat → TI} {w : World} {im im' : Nat → Prop} {ρ : Env} {n : Nat} {cs : List AV} (hbl : BRel D w im ρ n (.cells cs)) (hcs : namess cs = []) (him : ∀ b, im b → im' b)
    (hb : ∀ b, (ρ n).b = some b → im' b) {x : AV} {v : Value} (h : Rel w im ρ x v) : Rel w im' ρ (Ab.ice n cs x) v := by
  have self : ∀ {y : AV} {u : Value}, Rel w im ρ y u → Rel w im' ρ y u := fun h => h.mono him (fun _ _ => rfl) fun n hn' => rfl
  induction h with
  | junk v => simp only [Ab.ice]; exact .junk v
  | int k n => simp only [Ab.ice]; exact .int k n
  | bool b => simp only [Ab.ice]; exact .bool b
  | str l => simp only [Ab.ice]; exact .str l
  | nils => simp only [Ab.ice]; exact .nils
  | sl sz rs A c b o val hc hm hA hrow hcell hval ih => simp only [Ab.ice]; exact self (.sl sz rs A c b o val hc hm hA hrow hcell hval)
  | os t => simp only [Ab.ice]; split <;> first | exact .junk _ | exact .os t
  | ptr v off b h =>
    simp only [Ab.ice]
    split
    · rename_i e
      subst e
      obtain ⟨b', arr, T, h1, h2, h3, h5⟩ := hbl
      rw [h] at h1
      cases h1
      have hget : ∀ i, i < arr.size → arr[i]? = some (arr.getD i undef) := fun i hi => by simp [Array.getD_eq_getD_getElem?, hi]
      have hat : ∀ (j : Nat) x, (cs.drop off)[j]? = some x → cs[off + j]? = some x ∧ off + j < arr.size := fun j x hj => by
        rw [List.getElem?_drop] at hj
        exact ⟨hj, by rw [h3]; exact (List.getElem?_eq_some_iff.1 hj).1⟩
      refine .iptr _ b off (fun j => arr.getD (off + j) undef) (hb b h) (fun j x hj => ?_) (fun j x hj => ?_)
      · obtain ⟨q1, q2⟩ := hat j x hj
        refine ⟨?_, (h5 _ x _ q1 (hget _ q2)).1, ?_⟩
        · unfold World.cell?
          rw [h2]
          exact hget _ q2
        · refine List.eq_nil_iff_forall_not_mem.2 fun m hm => ?_
          have := mem_namess q1 hm
          rw [hcs] at this
          cases this
      · obtain ⟨q1, q2⟩ := hat j x hj
        exact self (h5 _ x _ q1 (hget _ q2)).2
    · exact .ptr v off b h
  | iptr cs b o val hb hcell hval ih => simp only [Ab.ice]; exact self (.iptr cs b o val hb hcell hval)
  | eptr t i off b h => simp only [Ab.ice]; split <;> first | exact .junk _ | exact .eptr t i off b h
  | lsl n A c hc hm => simp only [Ab.ice]; exact .lsl n A c hc hm
  | imap es b c arr hb ho he => simp only [Ab.ice]; exact .imap es b c arr (him _ hb) ho he
  | nilp => simp only [Ab.ice]; exact .nilp
  | tsl t i b A' h hA => simp only [Ab.ice]; split <;> first | exact .junk _ | exact .tsl t i b A' h hA
  | func f cs vs hl hval ih =>
    simp only [Ab.ice, ices_eq]
    refine .func f _ vs (by simpa using hl) fun i x v h1 h2 => ?_
    rw [List.getElem?_map] at h1
    obtain ⟨y, hy, rfl⟩ := Option.map_eq_some_iff.1 h1
    exact ih i y v hy h2
  | agg cs vs hl h1 hval ih =>
    simp only [Ab.ice, ices_eq]
    refine .agg _ vs (by simpa using hl) h1 fun i x v h1 h2 => ?_
    rw [List.getElem?_map] at h1
    obtain ⟨y, hy, rfl⟩ := Option.map_eq_some_iff.1 h1
    exact ih i y v hy h2
  | tup cs vs hl hval ih =>
    simp only [Ab.ice, ices_eq]
    refine .tup _ vs (by simpa using hl) fun i x v h1 h2 => ?_
    rw [List.getElem?_map] at h1
    obtain ⟨y, hy, rfl⟩ := Option.map_eq_some_iff.1 h1
    exact ih i y v hy h2
  | opt g x v h1 h2 ih => simp only [Ab.ice]; exact .opt g _ v ih h2
/-- the state then -/
def iceS (σ : AS) (n : Nat) (cs : List AV) : AS := { nt := σ.nt, tm := mapT (ice n cs) σ.tm, bl := (n, none) :: mapB (ice n cs) σ.bl }
theorem blk_iceS (σ : AS) (n : Nat) (cs : List AV) (m : Nat) : blk (iceS σ n cs) m = if m = n then none else (blk σ m).map (mapBlk (ice n cs)) := by
  unfold blk iceS
  simp only [get]
  by_cases h : n = m
  · rw [if_pos h, if_pos h.symm]; rfl
  · rw [if_neg h, if_neg (fun e => h e.symm), get_mapB]
    cases get m σ.bl with
    | none => rfl
    | some x => cases x <;> rfl
section
variable {D : Nat → TI} {S N0 : Nat → Prop} {B : Nat} {w0 : W0} {ρ : Env} {σ : AS} {a : Act} {w : World}
theorem St0.ice (h : St0 D S N0 B w0 ρ σ a w) {n : Nat} {cs : List AV} (hn : blk σ n = some (.cells cs)) (hcs : namess cs = []) : St0 D S N0 B w0 ρ (iceS σ n cs) a w := by
  have him : ∀ b, imOf S N0 B w ρ (blk σ) b → imOf S N0 B w ρ (blk (iceS σ n cs)) b := by
    rintro b ⟨h1, h2, h3⟩
    refine ⟨h1, h2, fun m x hx => ?_⟩
    rw [blk_iceS] at hx
    split at hx
    · cases hx
    · obtain ⟨y, hy, _⟩ := mapBlk_some hx
      exact h3 m y hy
  have hbim : ∀ b, (ρ n).b = some b → imOf S N0 B w ρ (blk (iceS σ n cs)) b := by
    intro b hb
    refine ⟨h.named_lt hn hb, .inr (h.own n _ b hn hb), fun m y hy hm => ?_⟩
    rw [blk_iceS] at hy
    split at hy
    · cases hy
    · rename_i hmn
      obtain ⟨y', hy', _⟩ := mapBlk_some hy
      exact hmn (h.hp.inj m n b y' _ hy' hn hm hb)
  have frel : ∀ x v, Rel w (imOf S N0 B w ρ (blk σ)) ρ x v → Rel w (imOf S N0 B w ρ (blk (iceS σ n cs))) ρ (Ab.ice n cs x) v := fun x v hx =>
    Rel.ice (h.hp.blk n _ hn) hcs him hbim hx
  have bnd : ∀ m, (blk σ m).isSome = true → m ≠ n → (blk (iceS σ n cs) m).isSome = true := by
    intro m hm hne
    rw [blk_iceS, if_neg hne]
    simpa using hm
  refine ⟨fun t x hx => ?_, ⟨fun m x hx => ?_, fun m k b x y hx hy => ?_, fun m x b hx hb hm => ?_, fun b hb => hb.1, fun m ds hx k hk => ?_⟩, h.nt, h.base, h.frm, fun m x b hx hb => ?_, h.defers⟩
  · have hx' : get t (mapT (Ab.ice n cs) σ.tm) = some x := hx
    rw [get_mapT] at hx'
    obtain ⟨y, hy, rfl⟩ := Option.map_eq_some_iff.1 hx'
    obtain ⟨h1, h2⟩ := h.tm t y hy
    exact ⟨frel y _ h1, fun m hm => bnd m (h2 m (names_ice n cs y m hm).1) (names_ice n cs y m hm).2⟩
  · rw [blk_iceS] at hx
    split at hx
    · cases hx
    · obtain ⟨y, hy, rfl⟩ := mapBlk_some hx
      have hy' := h.hp.blk m y hy
      cases y with
      | rows e sz rs => exact hy'.mono rfl (fun _ _ => rfl) him (fun _ _ => rfl) (fun cs e => by cases e)
      | cells ds =>
        obtain ⟨b, arr, T, h1, h2, h3, h5⟩ := hy'
        refine ⟨b, arr, T, h1, h2, by simpa using h3, fun i x v hx hv => ?_⟩
        rw [List.getElem?_map] at hx
        obtain ⟨z, hz, rfl⟩ := Option.map_eq_some_iff.1 hx
        exact ⟨(h5 i z v hz hv).1, frel z v (h5 i z v hz hv).2⟩
  · rw [blk_iceS] at hx hy
    split at hx
    · cases hx
    split at hy
    · cases hy
    obtain ⟨x', hx', _⟩ := mapBlk_some hx
    obtain ⟨y', hy', _⟩ := mapBlk_some hy
    exact h.hp.inj m k b x' y' hx' hy'
  · exact hm.2.2 m x hx hb
  · rw [blk_iceS] at hx
    split at hx
    · cases hx
    · obtain ⟨y, hy, e⟩ := mapBlk_some hx
      cases y with
      | rows e' sz rs => cases e
      | cells cs' =>
        simp only [mapBlk, Blk.cells.injEq] at e
        subst e
        rw [← ices_eq] at hk
        obtain ⟨h1, h2⟩ := namess_ices n cs cs' k hk
        exact bnd k (h.hp.closed m cs' hy k h1) h2
  · rw [blk_iceS] at hx
    split at hx
    · cases hx
    · obtain ⟨y, hy, _⟩ := mapBlk_some hx
      exact h.own m y b hy hb
end
theorem Wk.ice {X : Cx} {σ : AS} (n : Nat) {cs : List AV} (hn : blk σ n = some (.cells cs)) (hcs : namess cs = []) : Wk X σ (iceS σ n cs) := fun γ a w ⟨ρ, h⟩ => ⟨ρ, h.ice hn hcs⟩
attribute [go_sem] iceS ice ices
end Go.Proofs.Ytcgdjdlcecnanaa.Ab
namespace Go.Proofs.Ytcgdjdlcecnanaa.Ab
open Go Go.RowKit
set_option linter.unusedVariables false
set_option linter.unusedSimpArgs false

set_option maxRecDepth 100000 in
theorem con_sameitem (i : LItem) (h : i.note.Fits) : Con Try.prog D 48 [itemA i, itemA i] ⟨.bool true, []⟩ := by
  have hok : GOk Try.prog D (tabG [eRefsame]) := tabG_ok _
  have g1 := tabG_use (T := [eRefsame]) (E := eRefsame) (i := 0) rfl (by decide) ((i.note, i.note)) (⟨h, h⟩)
  generalize tabG [eRefsame] = G at *
  dsimp only [eRefsame] at g1
  simp only [eq_self, decide_true] at g1
  obtain ⟨a1, a2, a3, a4, a5, ⟨xp, xb⟩⟩ := i
  simp only [noteA] at g1
  refine con_of (G := G) (rs := [(4, none)]) mixed tok hok Try.func48 rfl (by decide) Try.results48 (by decide) rfl Try.ntmps48 (by simp) (by simp [itemA, itemRow, namess, names]) fun X hP hD hG' hX => evC_sound hX (fun _ => {}) _ _ _ ?_
  simp only [argS, num, itemA, itemRow]
  simp (disch := omega) only [go_sem, Nat.reduceLeDiff, reduceCtorEq, Nat.reduceAdd, Nat.reduceSub, Nat.reduceMul, Nat.reduceLT, Nat.reduceEqDiff, Int.reduceEq, Int.reduceLE, Int.reduceLT, Int.reducePow, Int.reduceMul, Int.reduceToNat, Int.reduceNeg, ↓reduceIte, hD, hG', wrap64, g1, unbox, tmv, Option.some.injEq, exists_eq_left']
  refine RegT.mk [] ?_
  simp (disch := omega) only [go_sem, Nat.reduceLeDiff, reduceCtorEq, Nat.reduceAdd, Nat.reduceSub, Nat.reduceMul, Nat.reduceLT, Nat.reduceEqDiff, Int.reduceEq, Int.reduceLE, Int.reduceLT, Int.reducePow, Int.reduceMul, Int.reduceToNat, Int.reduceNeg, ↓reduceIte, hD, hG', wrap64, g1, unbox, tmv, Option.some.injEq, exists_eq_left']
  and_intros
  all_goals (try (first | (intro hk; refine ⟨hk, fun h2 => ?_⟩; first | (rw [hk, h2]; rfl) | (rw [hk, decide_eq_false h2]; rfl)) | (intro hk; rw [decide_eq_false hk]; rfl) | (intro hk; rw [hk]; rfl)))
  refine ⟨[], [], rfl, rfl, ?_, ?_⟩ <;> simp only [go_sem, Nat.reduceEqDiff]
def eSameitem : Ent Try.prog D := ⟨48, LItem, fun i => [itemA i, itemA i], fun i => i.note.Fits, fun i => ⟨.bool true, []⟩, fun x y _ _ h => rfl, fun x h => con_sameitem x h⟩

set_option maxRecDepth 100000 in
theorem con_sameq (q : LQueue) (hq : q.Fits) : Con Try.prog D 44 [queueA q, queueA q] ⟨.bool true, []⟩ := by
  have hok : GOk Try.prog D (tabG [eSameitem]) := tabG_ok _
  have g1 := fun (i : LItem) (h : i.note.Fits) => tabG_use (T := [eSameitem]) (E := eSameitem) (i := 0) rfl (by decide) (i) (h)
  generalize tabG [eSameitem] = G at *
  dsimp only [eSameitem] at g1
  have hl := hq.1
  obtain ⟨nm, lim, l⟩ := q
  simp only at hl
  refine con_of (G := G) (rs := [(4, none)]) mixed tok hok Try.func44 rfl (by decide) Try.results44 (by decide) rfl Try.ntmps44 (by simp) (by simp [queueA, namess, names]) fun X hP hD hG' hX => evC_sound hX (fun _ => {}) _ _ _ ?_
  simp only [argS, num, queueA]
  simp (disch := omega) only [go_sem, Nat.reduceLeDiff, reduceCtorEq, Nat.reduceAdd, Nat.reduceSub, Nat.reduceMul, Nat.reduceLT, Nat.reduceEqDiff, Int.reduceEq, Int.reduceLE, Int.reduceLT, Int.reducePow, Int.reduceMul, Int.reduceToNat, Int.reduceNeg, ↓reduceIte, hD, hG', wrap64, unbox, tmv, Option.some.injEq, exists_eq_left']
  refine RegT.mk [] ?_
  simp (disch := omega) only [go_sem, Nat.reduceLeDiff, reduceCtorEq, Nat.reduceAdd, Nat.reduceSub, Nat.reduceMul, Nat.reduceLT, Nat.reduceEqDiff, Int.reduceEq, Int.reduceLE, Int.reduceLT, Int.reducePow, Int.reduceMul, Int.reduceToNat, Int.reduceNeg, ↓reduceIte, hD, hG', wrap64, unbox, tmv, Option.some.injEq, exists_eq_left']
  and_intros
  all_goals (try (first | (intro hk; refine ⟨hk, fun h2 => ?_⟩; first | (rw [hk, h2]; rfl) | (rw [hk, decide_eq_false h2]; rfl)) | (intro hk; rw [decide_eq_false hk]; rfl) | (intro hk; rw [hk]; rfl)))
  refine Tr.loop (ι := Nat) (fun i => i ≤ l.length) (fun i => { nt := 46, tm := [(2, .ptr 2 0), (3, .ptr 3 0), (29, .int .i64 l.length), (30, .int .i64 i)], bl := [(2, some (.cells [.str nm.data.toList, .int .i64 lim, .sl 7 (l.map itemRow)])), (3, some (.cells [.str nm.data.toList, .int .i64 lim, .sl 7 (l.map itemRow)]))] }) (fun i => l.length - i) 0
    ⟨Nat.zero_le _, wk_of hD [(2, 2), (3, 3)] rfl rfl (by simp only [go_sem, Nat.reduceEqDiff]; simp) (by simp only [go_sem, Nat.reduceEqDiff])⟩ ?_
  intro i hi
  refine evC_sound hX (fun _ => {}) _ _ _ ?_
  simp (disch := omega) only [go_sem, Nat.reduceLeDiff, reduceCtorEq, Nat.reduceAdd, Nat.reduceSub, Nat.reduceMul, Nat.reduceLT, Nat.reduceEqDiff, Int.reduceEq, Int.reduceLE, Int.reduceLT, Int.reducePow, Int.reduceMul, Int.reduceToNat, Int.reduceNeg, ↓reduceIte, hD, hG', wrap64, unbox, tmv, Option.some.injEq, exists_eq_left']
  refine condK_split (fun h => ?_) (fun h => ?_)
  · rw [decide_eq_true_eq] at h
    have hi1 : i < l.length := by omega
    have hgx := itemGet hi1
    have hfi := item_fits hq hi1
    have g1 := g1 _ hfi
    generalize l.getD i item0 = x at *
    obtain ⟨a1, a2, a3, a4, a5, ⟨xp, xb⟩⟩ := x
    simp only [itemRow] at hgx
    simp only [itemA, itemRow] at g1
    simp (disch := omega) only [go_sem, Nat.reduceLeDiff, reduceCtorEq, Nat.reduceAdd, Nat.reduceSub, Nat.reduceMul, Nat.reduceLT, Nat.reduceEqDiff, Int.reduceEq, Int.reduceLE, Int.reduceLT, Int.reducePow, Int.reduceMul, Int.reduceToNat, Int.reduceNeg, ↓reduceIte, hD, hG', wrap64, hgx, g1, unbox, tmv, Option.some.injEq, exists_eq_left']
    refine ⟨by decide, by omega, by omega, i + 1, ⟨by omega, by omega⟩, wk_of hD [(2, 2), (3, 3)] rfl rfl ?_ ?_⟩ <;> simp only [go_sem, Nat.reduceEqDiff]
    simp
  · simp (disch := omega) only [go_sem, Nat.reduceLeDiff, reduceCtorEq, Nat.reduceAdd, Nat.reduceSub, Nat.reduceMul, Nat.reduceLT, Nat.reduceEqDiff, Int.reduceEq, Int.reduceLE, Int.reduceLT, Int.reducePow, Int.reduceMul, Int.reduceToNat, Int.reduceNeg, ↓reduceIte, hD, hG', wrap64, unbox, tmv, Option.some.injEq, exists_eq_left']
    refine ⟨[], [], rfl, rfl, ?_, ?_⟩ <;> simp only [go_sem, Nat.reduceEqDiff]
def eSameq : Ent Try.prog D := ⟨44, LQueue, fun i => [queueA i, queueA i], LQueue.Fits, fun i => ⟨.bool true, []⟩, fun x y _ _ h => rfl, fun x h => con_sameq x h⟩
set_option maxRecDepth 100000 in
set_option maxHeartbeats 1000000 in
theorem con_reflate (q : LQueue) (now : Int) (hq : q.Fits) : Con Try.prog D 54 [queueA q, .int .i64 now] ⟨.tup [itemA (lateS q now).1, .bool (lateS q now).2], []⟩ := by
  have hok : GOk Try.prog D (tabG []) := tabG_ok _
  generalize tabG [] = G at *
  have hl := hq.1
  have hcon : ∀ r, r = lateS q now → Con Try.prog D 54 [queueA q, .int .i64 now] ⟨.tup [itemA r.1, .bool r.2], []⟩ := by
    intro r hr
    unfold lateS at hr
    refine con_of (G := G) (rs := [(4, some 64), (5, none)]) mixed tok hok Try.func54 rfl (by decide) Try.results54 (by decide) rfl Try.ntmps54 (by simp) (by simp [queueA, namess, names]) fun X hP hD hG' hX => evC_sound hX (fun _ => {}) _ _ _ ?_
    simp only [argS, num, queueA]
    simp (disch := omega) only [go_sem, Nat.reduceLeDiff, reduceCtorEq, Nat.reduceAdd, Nat.reduceSub, Nat.reduceMul, Nat.reduceLT, Nat.reduceEqDiff, Int.reduceEq, Int.reduceLE, Int.reduceLT, Int.reducePow, Int.reduceMul, Int.reduceToNat, Int.reduceNeg, ↓reduceIte, hD, hG', wrap64]
    refine Tr.loop (ι := Nat) (fun i => i ≤ q.items.length ∧ ∀ j, j < i → lateP now (q.items.getD j item0) = false) (fun i => { nt := 26, tm := [(1, .int .i64 now), (4, .ptr 4 0), (9, .sl 7 (q.items.map itemRow)), (10, .int .i64 q.items.length), (11, .int .i64 i)], bl := [(4, some (.cells [.int .i64 0, .int .i64 0, .int .i64 0, .bool false, .int .i64 0, .nils, .nils]))] }) (fun i => q.items.length - i) 0
      ⟨⟨Nat.zero_le _, fun j hj => absurd hj (Nat.not_lt_zero j)⟩, wk_of hD [(4, 4)] rfl rfl (by simp only [go_sem, Nat.reduceEqDiff]; simp) (by simp only [go_sem, Nat.reduceEqDiff, D_3, D_4, D_5, D_9, D_22, D_40, D_42, D_52, D_54, D_64, D_73, D_99])⟩ ?_
    rintro i ⟨hi, hnot⟩
    refine evC_sound hX (fun _ => {}) _ _ _ ?_
    simp (disch := omega) only [go_sem, Nat.reduceLeDiff, reduceCtorEq, Nat.reduceAdd, Nat.reduceSub, Nat.reduceMul, Nat.reduceLT, Nat.reduceEqDiff, Int.reduceEq, Int.reduceLE, Int.reduceLT, Int.reducePow, Int.reduceMul, Int.reduceToNat, Int.reduceNeg, ↓reduceIte, hD, hG', wrap64]
    refine condK_split (fun h => ?_) (fun h => ?_)
    · rw [decide_eq_true_eq] at h
      have hi1 : i < q.items.length := by omega
      have hgx := itemGet hi1
      have hit : ∀ x, q.items.getD i item0 = x → lateP now x = true → r = (x, true) := fun x hx hp => by
        have hp' : placeS (lateP now) q.items 0 = 0 + i := placeS_hit hi1 hnot (by rw [hx]; exact hp)
        rw [hr, hp', if_neg (by omega)]
        simp only [Int.zero_add, Int.toNat_natCast, hx]
      generalize hx : q.items.getD i item0 = x at *
      have hit := hit x rfl
      obtain ⟨a1, a2, a3, a4, a5, ⟨xp, xb⟩⟩ := x
      simp only [itemRow] at hgx
      simp (disch := omega) only [go_sem, Nat.reduceLeDiff, reduceCtorEq, Nat.reduceAdd, Nat.reduceSub, Nat.reduceMul, Nat.reduceLT, Nat.reduceEqDiff, Int.reduceEq, Int.reduceLE, Int.reduceLT, Int.reducePow, Int.reduceMul, Int.reduceToNat, Int.reduceNeg, ↓reduceIte, hD, hG', wrap64, hgx]
      refine ⟨by omega, RegT.mk [] ?_⟩
      simp (disch := omega) only [go_sem, Nat.reduceLeDiff, reduceCtorEq, Nat.reduceAdd, Nat.reduceSub, Nat.reduceMul, Nat.reduceLT, Nat.reduceEqDiff, Int.reduceEq, Int.reduceLE, Int.reduceLT, Int.reducePow, Int.reduceMul, Int.reduceToNat, Int.reduceNeg, ↓reduceIte, hD, hG', wrap64, hgx]
      and_intros
      all_goals (try (first | (intro hk; refine ⟨hk, fun h2 => ?_⟩; first | (rw [hk, h2]; rfl) | (rw [hk, decide_eq_false h2]; rfl)) | (intro hk; rw [decide_eq_false hk]; rfl) | (intro hk; rw [hk]; rfl)))
      refine condK_split (fun h => ?_) (fun h => ?_)
      · have hp : lateP now ⟨a1, a2, a3, a4, a5, ⟨xp, xb⟩⟩ = true := by unfold lateP; grind
        simp (disch := omega) only [go_sem, Nat.reduceLeDiff, reduceCtorEq, Nat.reduceAdd, Nat.reduceSub, Nat.reduceMul, Nat.reduceLT, Nat.reduceEqDiff, Int.reduceEq, Int.reduceLE, Int.reduceLT, Int.reducePow, Int.reduceMul, Int.reduceToNat, Int.reduceNeg, ↓reduceIte, hD, hG', wrap64]
        simp (disch := omega) only [go_sem, Nat.reduceLeDiff, reduceCtorEq, Nat.reduceAdd, Nat.reduceSub, Nat.reduceMul, Nat.reduceLT, Nat.reduceEqDiff, Int.reduceEq, Int.reduceLE, Int.reduceLT, Int.reducePow, Int.reduceMul, Int.reduceToNat, Int.reduceNeg, ↓reduceIte, hD, hG', wrap64, unbox, tmv, Option.some.injEq, exists_eq_left']
        refine ⟨[], [], rfl, rfl, ?_, ?_⟩ <;> simp only [itemA, itemRow, go_sem, Nat.reduceEqDiff]
        rw [hit hp]
        simp
      · have hp : lateP now ⟨a1, a2, a3, a4, a5, ⟨xp, xb⟩⟩ = false := by unfold lateP; grind
        simp (disch := omega) only [go_sem, Nat.reduceLeDiff, reduceCtorEq, Nat.reduceAdd, Nat.reduceSub, Nat.reduceMul, Nat.reduceLT, Nat.reduceEqDiff, Int.reduceEq, Int.reduceLE, Int.reduceLT, Int.reducePow, Int.reduceMul, Int.reduceToNat, Int.reduceNeg, ↓reduceIte, hD, hG', wrap64]
        refine ⟨i + 1, ⟨⟨by omega, fun j hj => ?_⟩, by omega⟩, wk_of hD [(4, 4)] rfl rfl ?_ ?_⟩
        · by_cases hji : j = i
          · rw [hji, hx]; exact hp
          · exact hnot j (by omega)
        all_goals simp only [go_sem, Nat.reduceEqDiff]
        simp
    · rw [decide_eq_false_iff_not] at h
      have hie : i = q.items.length := by omega
      subst hie
      simp (disch := omega) only [go_sem, Nat.reduceLeDiff, reduceCtorEq, Nat.reduceAdd, Nat.reduceSub, Nat.reduceMul, Nat.reduceLT, Nat.reduceEqDiff, Int.reduceEq, Int.reduceLE, Int.reduceLT, Int.reducePow, Int.reduceMul, Int.reduceToNat, Int.reduceNeg, ↓reduceIte, hD, hG', wrap64]
      simp (disch := omega) only [go_sem, Nat.reduceLeDiff, reduceCtorEq, Nat.reduceAdd, Nat.reduceSub, Nat.reduceMul, Nat.reduceLT, Nat.reduceEqDiff, Int.reduceEq, Int.reduceLE, Int.reduceLT, Int.reducePow, Int.reduceMul, Int.reduceToNat, Int.reduceNeg, ↓reduceIte, hD, hG', wrap64, unbox, tmv, Option.some.injEq, exists_eq_left']
      refine ⟨[], [], rfl, rfl, ?_, ?_⟩ <;> simp only [itemA, itemRow, go_sem, Nat.reduceEqDiff]
      rw [hr, placeS_miss hnot, if_pos (by omega)]
      simp [item0, note0]
  exact hcon _ rfl
set_option maxRecDepth 100000 in
set_option maxHeartbeats 1000000 in
theorem con_refpurge (q : LQueue) (hq : q.Fits) : Con Try.prog D 56 [queueA q] ⟨.tup [queueA (purgeS q).1, .sl 1 ((purgeS q).2.map intRow)], []⟩ := by
  have hok : GOk Try.prog D (tabG []) := tabG_ok _
  generalize tabG [] = G at *
  have hl := hq.1
  obtain ⟨name, limit, items⟩ := q
  simp only [queueA] at hl
  have hcon : ∀ r, r = purgeS ⟨name, limit, items⟩ → Con Try.prog D 56 [queueA ⟨name, limit, items⟩] ⟨.tup [queueA r.1, .sl 1 (r.2.map intRow)], []⟩ := by
    intro r hr
    unfold purgeS at hr
    refine con_of (G := G) (rs := [(2, some 54), (3, none)]) mixed tok hok Try.func56 rfl (by decide) Try.results56 (by decide) rfl Try.ntmps56 (by simp) (by simp [queueA, namess, names]) fun X hP hD hG' hX => evC_sound hX (fun _ => {}) _ _ _ ?_
    simp only [argS, num, queueA]
    generalize hnl : name.data.toList = nl at *
    simp (disch := omega) only [go_sem, Nat.reduceLeDiff, reduceCtorEq, Nat.reduceAdd, Nat.reduceSub, Nat.reduceMul, Nat.reduceLT, Nat.reduceEqDiff, Int.reduceEq, Int.reduceLE, Int.reduceLT, Int.reducePow, Int.reduceMul, Int.reduceToNat, Int.reduceNeg, ↓reduceIte, hD, hG', wrap64]
    refine Tr.loop (ι := Nat) (fun i => i ≤ items.length) (fun i => { nt := 31, tm := [(1, .ptr 1 0), (2, .ptr 2 0), (4, .os 5000), (5, .os 5001), (9, .sl 7 (items.map itemRow)), (10, .int .i64 items.length), (11, .int .i64 i)], bl := [(1, some (.cells [.str nl, .int .i64 limit, .sl 7 (items.map itemRow)])), (2, some (.cells [.str [], .int .i64 0, .nils])), (5000, some (.rows 64 7 ((keptS items i).map itemRow))), (5001, some (.rows 3 1 ((goneS (items.take i)).map intRow)))] }) (fun i => items.length - i) 0
      ⟨Nat.zero_le _, wk_of hD [(1, 1), (2, 2)] rfl rfl (by simp only [go_sem, Nat.reduceEqDiff]; simp) (by simp only [go_sem, Nat.reduceEqDiff, D_3, D_4, D_5, D_9, D_22, D_40, D_42, D_52, D_54, D_64, D_73, D_99]; simp [keptS, goneS])⟩ ?_
    intro i hi
    refine evC_sound hX (fun _ => {}) _ _ _ ?_
    simp (disch := omega) only [go_sem, Nat.reduceLeDiff, reduceCtorEq, Nat.reduceAdd, Nat.reduceSub, Nat.reduceMul, Nat.reduceLT, Nat.reduceEqDiff, Int.reduceEq, Int.reduceLE, Int.reduceLT, Int.reducePow, Int.reduceMul, Int.reduceToNat, Int.reduceNeg, ↓reduceIte, hD, hG', wrap64]
    refine condK_split (fun h => ?_) (fun h => ?_)
    · rw [decide_eq_true_eq] at h
      have hi1 : i < items.length := by omega
      have hgx := itemGet hi1
      have hks := kept_succ hi1
      have hgs := gone_succ hi1
      have hkj : (keptS items i).length ≤ 1048576 := by
        have := List.length_filter_le isOut (items.take i)
        have h2 : (items.take i).length = i := by rw [List.length_take]; omega
        unfold keptS
        omega
      have hgj : (goneS (items.take i)).length ≤ 1048576 := by
        have : (items.take i).length = i := by rw [List.length_take]; omega
        have := List.length_filter_le notOut (items.take i)
        unfold goneS
        rw [List.length_map]
        omega
      generalize hx : items.getD i item0 = x at *
      obtain ⟨a1, a2, a3, a4, a5, ⟨xp, xb⟩⟩ := x
      simp only [itemRow] at hgx
      simp (disch := omega) only [go_sem, Nat.reduceLeDiff, reduceCtorEq, Nat.reduceAdd, Nat.reduceSub, Nat.reduceMul, Nat.reduceLT, Nat.reduceEqDiff, Int.reduceEq, Int.reduceLE, Int.reduceLT, Int.reducePow, Int.reduceMul, Int.reduceToNat, Int.reduceNeg, ↓reduceIte, hD, hG', wrap64, hgx]
      refine ⟨by omega, ?_⟩
      cases a4
      · simp (disch := omega) only [go_sem, Nat.reduceLeDiff, reduceCtorEq, Nat.reduceAdd, Nat.reduceSub, Nat.reduceMul, Nat.reduceLT, Nat.reduceEqDiff, Int.reduceEq, Int.reduceLE, Int.reduceLT, Int.reducePow, Int.reduceMul, Int.reduceToNat, Int.reduceNeg, ↓reduceIte, hD, hG', wrap64]
        simp only [Bool.false_eq_true, if_false, List.append_nil] at hks hgs
        ((try and_intros); all_goals (try first | omega | decide | (simp; done) | (simp only [List.length_append, List.length_cons, List.length_nil, List.length_map]; omega)))
        refine ⟨i + 1, ⟨by omega, by omega⟩, wk_of hD [(1, 1), (2, 2), (5000, 5000), (5001, 25)] rfl rfl ?_ ?_⟩
        all_goals simp only [go_sem, Nat.reduceEqDiff, hks, hgs]
        all_goals simp [intRow]
      · simp (disch := omega) only [go_sem, Nat.reduceLeDiff, reduceCtorEq, Nat.reduceAdd, Nat.reduceSub, Nat.reduceMul, Nat.reduceLT, Nat.reduceEqDiff, Int.reduceEq, Int.reduceLE, Int.reduceLT, Int.reducePow, Int.reduceMul, Int.reduceToNat, Int.reduceNeg, ↓reduceIte, hD, hG', wrap64]
        simp only [if_true, List.append_nil] at hks hgs
        ((try and_intros); all_goals (try first | omega | decide | (simp; done) | (simp only [List.length_append, List.length_cons, List.length_nil, List.length_map]; omega)))
        refine ⟨i + 1, ⟨by omega, by omega⟩, wk_of hD [(1, 1), (2, 2), (5000, 20), (5001, 5001)] rfl rfl ?_ ?_⟩
        all_goals simp only [go_sem, Nat.reduceEqDiff, hks, hgs]
        all_goals simp [itemRow]
    · rw [decide_eq_false_iff_not] at h
      have hie : i = items.length := by omega
      subst hie
      simp (disch := omega) only [go_sem, Nat.reduceLeDiff, reduceCtorEq, Nat.reduceAdd, Nat.reduceSub, Nat.reduceMul, Nat.reduceLT, Nat.reduceEqDiff, Int.reduceEq, Int.reduceLE, Int.reduceLT, Int.reducePow, Int.reduceMul, Int.reduceToNat, Int.reduceNeg, ↓reduceIte, hD, hG', wrap64]
      simp (disch := omega) only [go_sem, Nat.reduceLeDiff, reduceCtorEq, Nat.reduceAdd, Nat.reduceSub, Nat.reduceMul, Nat.reduceLT, Nat.reduceEqDiff, Int.reduceEq, Int.reduceLE, Int.reduceLT, Int.reducePow, Int.reduceMul, Int.reduceToNat, Int.reduceNeg, ↓reduceIte, hD, hG', wrap64, unbox, tmv, Option.some.injEq, exists_eq_left']
      refine ⟨[5000, 5001], [], rfl, rfl, ?_, ?_⟩ <;> simp only [go_sem, Nat.reduceEqDiff]
      have hka : keptS items items.length = items.filter isOut := by unfold keptS; rw [List.take_length]
      rw [hr, List.take_length, hka]
      simp [hnl]
  exact hcon _ rfl
end Go.Proofs.Ytcgdjdlcecnanaa.Ab
namespace Go.Proofs.Ytcgdjdlcecnanaa.Ab
open Go Go.RowKit
set_option linter.unusedVariables false
set_option linter.unusedSimpArgs false

theorem map_take' {α β : Type} (f : α → β) (l : List α) (k : Nat) : (l.map f).take k = (l.take k).map f := List.map_take.symm
theorem erase_parts {α : Type} (l : List α) (k : Nat) : l.eraseIdx k = l.take k ++ l.drop (k + 1) := List.eraseIdx_eq_take_drop_succ l k
theorem set_parts {α : Type} {l : List α} {k : Nat} {x : α} (h : k < l.length) : l.set k x = l.take k ++ x :: l.drop (k + 1) := by
  rw [List.set_eq_take_append_cons_drop, if_pos h]
set_option maxRecDepth 100000 in
set_option maxHeartbeats 1000000 in
theorem con_erase (q : LQueue) (k : Nat) (hq : q.Fits) (hk : k < q.items.length) : Con Try.prog D 86 [queueA q, .int .i64 k, .nilp] ⟨queueA { q with items := q.items.eraseIdx k }, []⟩ := by
  have hok : GOk Try.prog D (tabG []) := tabG_ok _
  generalize tabG [] = G at *
  have hl := hq.1
  obtain ⟨nm, lim, l⟩ := q
  simp only at hl hk
  refine con_of (G := G) (rs := [(6, some 54)]) mixed tok hok Try.func86 rfl (by decide) Try.results86 (by decide) rfl Try.ntmps86 (by simp) (by simp [queueA, namess, names]) fun X hP hD hG' hX => evC_sound hX (fun _ => {}) _ _ _ ?_
  simp only [argS, num, queueA]
  simp (disch := omega) only [go_sem, Nat.reduceLeDiff, reduceCtorEq, Nat.reduceAdd, Nat.reduceSub, Nat.reduceMul, Nat.reduceLT, Nat.reduceEqDiff, Int.reduceEq, Int.reduceLE, Int.reduceLT, Int.reducePow, Int.reduceMul, Int.reduceToNat, Int.reduceNeg, ↓reduceIte, hD, hG', wrap64, asked_none]
  refine ⟨by omega, by rw [List.length_take]; omega, inl_nil (b := false) (el := 64) (by rw [hP]; exact Try.underlying117) rfl (by simp) ?_⟩
  have hk1 : ((k : Int) + 1).toNat = k + 1 := by omega
  simp (disch := omega) only [go_sem, Nat.reduceLeDiff, reduceCtorEq, Nat.reduceAdd, Nat.reduceSub, Nat.reduceMul, Nat.reduceLT, Nat.reduceEqDiff, Int.reduceEq, Int.reduceLE, Int.reduceLT, Int.reducePow, Int.reduceMul, Int.reduceToNat, Int.reduceNeg, ↓reduceIte, hD, hG', wrap64, asked_none, hk1, List.take_length]
  refine ⟨by omega, by simp; omega, ?_⟩
  simp (disch := omega) only [go_sem, Nat.reduceLeDiff, reduceCtorEq, Nat.reduceAdd, Nat.reduceSub, Nat.reduceMul, Nat.reduceLT, Nat.reduceEqDiff, Int.reduceEq, Int.reduceLE, Int.reduceLT, Int.reducePow, Int.reduceMul, Int.reduceToNat, Int.reduceNeg, ↓reduceIte, hD, hG', wrap64, unbox, tmv, Option.some.injEq, exists_eq_left']
  refine ⟨[28], [], rfl, rfl, ?_, ?_⟩ <;> simp only [go_sem, Nat.reduceEqDiff]
  rw [erase_parts]
  simp
set_option maxRecDepth 100000 in
set_option maxHeartbeats 1000000 in
theorem con_itset (q : LQueue) (k : Nat) (x : LItem) (hq : q.Fits) (hk : k < q.items.length) : Con Try.prog D 86 [queueA q, .int .i64 k, .iptr (itemRow x)] ⟨queueA { q with items := q.items.set k x }, []⟩ := by
  have hok : GOk Try.prog D (tabG []) := tabG_ok _
  generalize tabG [] = G at *
  have hl := hq.1
  obtain ⟨nm, lim, l⟩ := q
  obtain ⟨a1, a2, a3, a4, a5, ⟨xp, xb⟩⟩ := x
  simp only at hl hk
  refine con_of (G := G) (rs := [(6, some 54)]) mixed tok hok Try.func86 rfl (by decide) Try.results86 (by decide) rfl Try.ntmps86 (by simp) (by simp [queueA, namess, names, itemRow]) fun X hP hD hG' hX => evC_sound hX (fun _ => {}) _ _ _ ?_
  simp only [argS, num, queueA, itemRow]
  simp (disch := omega) only [go_sem, Nat.reduceLeDiff, reduceCtorEq, Nat.reduceAdd, Nat.reduceSub, Nat.reduceMul, Nat.reduceLT, Nat.reduceEqDiff, Int.reduceEq, Int.reduceLE, Int.reduceLT, Int.reducePow, Int.reduceMul, Int.reduceToNat, Int.reduceNeg, ↓reduceIte, hD, hG', wrap64, asked_none]
  refine ⟨by omega, by rw [List.length_take]; omega, inl_nil (b := true) (el := 64) (by rw [hP]; exact Try.underlying117) rfl (by simp) ?_⟩
  have hk1 : ((k : Int) + 1).toNat = k + 1 := by omega
  simp (disch := omega) only [go_sem, Nat.reduceLeDiff, reduceCtorEq, Nat.reduceAdd, Nat.reduceSub, Nat.reduceMul, Nat.reduceLT, Nat.reduceEqDiff, Int.reduceEq, Int.reduceLE, Int.reduceLT, Int.reducePow, Int.reduceMul, Int.reduceToNat, Int.reduceNeg, ↓reduceIte, hD, hG', wrap64, asked_none, hk1, List.take_length]
  refine ⟨by rw [List.length_take]; omega, by omega, by simp; omega, ?_⟩
  simp (disch := omega) only [go_sem, Nat.reduceLeDiff, reduceCtorEq, Nat.reduceAdd, Nat.reduceSub, Nat.reduceMul, Nat.reduceLT, Nat.reduceEqDiff, Int.reduceEq, Int.reduceLE, Int.reduceLT, Int.reducePow, Int.reduceMul, Int.reduceToNat, Int.reduceNeg, ↓reduceIte, hD, hG', wrap64, unbox, tmv, Option.some.injEq, exists_eq_left']
  refine ⟨[28], [], rfl, rfl, ?_, ?_⟩ <;> simp only [go_sem, Nat.reduceEqDiff]
  rw [set_parts hk]
  simp [itemRow]
def itx : Option LItem → AV
  | some i => .iptr (itemRow i)
  | none => .nilp
def itemsS (l : List LItem) (k : Nat) : Option LItem → List LItem
  | some i => l.set k i
  | none => l.eraseIdx k
def eItems : Ent Try.prog D := ⟨86, LQueue × Nat × Option LItem, fun x => [queueA x.1, .int .i64 x.2.1, itx x.2.2], fun x => x.1.Fits ∧ x.2.1 < x.1.items.length, fun x => ⟨queueA { x.1 with items := itemsS x.1.items x.2.1 x.2.2 }, []⟩, fun x y _ _ h => by
  obtain ⟨q, k, i⟩ := x
  obtain ⟨q', k', i'⟩ := y
  simp only [List.cons.injEq, AV.int.injEq, and_true, true_and] at h
  have e : i = i' := by
    cases i with
    | none => cases i' with
      | none => rfl
      | some _ => cases h.2.2
    | some a => cases i' with
      | none => cases h.2.2
      | some b => rw [itemRow_inj (AV.iptr.inj h.2.2)]
  rw [queueA_inj h.1, show k = k' by omega, e], fun x h => by
  obtain ⟨q, k, i⟩ := x
  cases i with
  | none => exact con_erase q k h.1 h.2
  | some i => exact con_itset q k i h.1 h.2⟩
def refputLo : Nat → Lo := fun id => match id with | 3 => {uo := [3, 8, 10], un := [3], ex := [0, 2], kn := [15, 18]} | _ => {}
set_option maxRecDepth 100000 in
set_option maxHeartbeats 1000000 in
theorem con_refputq (q : LQueue) (id : Int) (n : LNote) (hq : q.Fits) (hn : n.Fits) : Con Try.prog D 43 [queueA q, .int .i64 id, noteA n] ⟨.tup [queueA (putS q id n).1, .int .i64 (putS q id n).2], []⟩ := by
  have hok : GOk Try.prog D (tabG []) := tabG_ok _
  generalize tabG [] = G at *
  have hl := hq.1
  obtain ⟨np, nb⟩ := n
  obtain ⟨name, limit, items⟩ := q
  simp only at hl
  have hcon : ∀ r, r = putS ⟨name, limit, items⟩ id ⟨np, nb⟩ → Con Try.prog D 43 [queueA ⟨name, limit, items⟩, .int .i64 id, noteA ⟨np, nb⟩] ⟨.tup [queueA r.1, .int .i64 r.2], []⟩ := by
    intro r hr
    refine con_of (G := G) (rs := [(6, some 54), (7, none)]) mixed tok hok Try.func43 rfl (by decide) Try.results43 (by decide) rfl Try.ntmps43 (by simp) (by simp [queueA, noteA, namess, names]) fun X hP hD hG' hX => evC_sound hX refputLo _ _ _ ?_
    by_cases hfull : limit ≤ items.length
    · have hd : decide ((items.length : Int) ≥ limit) = true := by simpa using hfull
      simp only [argS, num, queueA, noteA]
      simp (disch := omega) only [go_sem, Nat.reduceLeDiff, reduceCtorEq, Nat.reduceAdd, Nat.reduceSub, Nat.reduceMul, Nat.reduceLT, Nat.reduceEqDiff, Int.reduceEq, Int.reduceLE, Int.reduceLT, Int.reducePow, Int.reduceMul, Int.reduceToNat, Int.reduceNeg, ↓reduceIte, hD, hG', wrap64, refputLo, hd]
      simp (disch := omega) only [go_sem, Nat.reduceLeDiff, reduceCtorEq, Nat.reduceAdd, Nat.reduceSub, Nat.reduceMul, Nat.reduceLT, Nat.reduceEqDiff, Int.reduceEq, Int.reduceLE, Int.reduceLT, Int.reducePow, Int.reduceMul, Int.reduceToNat, Int.reduceNeg, ↓reduceIte, hD, hG', wrap64, unbox, tmv, Option.some.injEq, exists_eq_left']
      refine ⟨[], [], rfl, rfl, ?_, ?_⟩ <;> simp only [go_sem, Nat.reduceEqDiff]
      subst hr
      unfold putS
      rw [if_pos hfull]
      simp [queue0]
    · have hd : decide ((items.length : Int) ≥ limit) = false := by simpa using hfull
      simp only [argS, num, queueA, noteA]
      simp (disch := omega) only [go_sem, Nat.reduceLeDiff, reduceCtorEq, Nat.reduceAdd, Nat.reduceSub, Nat.reduceMul, Nat.reduceLT, Nat.reduceEqDiff, Int.reduceEq, Int.reduceLE, Int.reduceLT, Int.reducePow, Int.reduceMul, Int.reduceToNat, Int.reduceNeg, ↓reduceIte, hD, hG', wrap64, refputLo, hd]
      ((try and_intros); all_goals (try first | omega | decide | (simp; done) | (simp only [List.length_append, List.length_cons, List.length_nil, List.length_map]; omega)))
      simp (disch := omega) only [go_sem, Nat.reduceLeDiff, reduceCtorEq, Nat.reduceAdd, Nat.reduceSub, Nat.reduceMul, Nat.reduceLT, Nat.reduceEqDiff, Int.reduceEq, Int.reduceLE, Int.reduceLT, Int.reducePow, Int.reduceMul, Int.reduceToNat, Int.reduceNeg, ↓reduceIte, hD, hG', wrap64, unbox, tmv, Option.some.injEq, exists_eq_left']
      refine ⟨[23], [], rfl, rfl, ?_, ?_⟩ <;> simp only [go_sem, Nat.reduceEqDiff]
      subst hr
      unfold putS
      rw [if_neg hfull]
      simp [itemRow]
  exact hcon _ rfl
set_option maxRecDepth 100000 in
set_option maxHeartbeats 1000000 in
theorem con_refdoneq (q : LQueue) (id turn : Int) (hq : q.Fits) : Con Try.prog D 50 [queueA q, .int .i64 id, .int .i64 turn] ⟨.tup [queueA (doneS q id turn).1, .int .i64 (doneS q id turn).2], []⟩ := by
  have hok : GOk Try.prog D (tabG [eItems]) := tabG_ok _
  have g1 := fun (k : Nat) (h : k < q.items.length) => tabG_use (T := [eItems]) (E := eItems) (i := 0) rfl (by decide) ((q, k, none)) (⟨hq, h⟩)
  generalize tabG [eItems] = G at *
  dsimp only [eItems] at g1
  have hl := hq.1
  obtain ⟨name, limit, items⟩ := q
  simp only [queueA, itx, itemsS] at g1 hl
  have hcon : ∀ r, r = doneS ⟨name, limit, items⟩ id turn → Con Try.prog D 50 [queueA ⟨name, limit, items⟩, .int .i64 id, .int .i64 turn] ⟨.tup [queueA r.1, .int .i64 r.2], []⟩ := by
    intro r hr
    unfold doneS at hr
    refine con_of (G := G) (rs := [(6, some 54), (7, none)]) mixed tok hok Try.func50 rfl (by decide) Try.results50 (by decide) rfl Try.ntmps50 (by simp) (by simp [queueA, namess, names]) fun X hP hD hG' hX => evC_sound hX (fun _ => {}) _ _ _ ?_
    simp only [argS, num, queueA]
    generalize hnl : name.data.toList = nl at *
    simp (disch := omega) only [go_sem, Nat.reduceLeDiff, reduceCtorEq, Nat.reduceAdd, Nat.reduceSub, Nat.reduceMul, Nat.reduceLT, Nat.reduceEqDiff, Int.reduceEq, Int.reduceLE, Int.reduceLT, Int.reducePow, Int.reduceMul, Int.reduceToNat, Int.reduceNeg, ↓reduceIte, hD, hG', wrap64]
    refine Tr.loop (ι := Nat) (fun i => i ≤ items.length ∧ ∀ j, j < i → isIt id turn (items.getD j item0) = false) (fun i => { nt := 37, tm := [(1, .int .i64 id), (2, .int .i64 turn), (3, .ptr 3 0), (6, .ptr 6 0), (11, .sl 7 (items.map itemRow)), (12, .int .i64 items.length), (13, .int .i64 i)], bl := [(3, some (.cells [.str nl, .int .i64 limit, .sl 7 (items.map itemRow)])), (6, some (.cells [.str [], .int .i64 0, .nils]))] }) (fun i => items.length - i) 0
      ⟨⟨Nat.zero_le _, fun j hj => absurd hj (Nat.not_lt_zero j)⟩, wk_of hD [(3, 3), (6, 6)] rfl rfl (by simp only [go_sem, Nat.reduceEqDiff]; simp) (by simp only [go_sem, Nat.reduceEqDiff])⟩ ?_
    rintro i ⟨hi, hnot⟩
    refine evC_sound hX (fun _ => {}) _ _ _ ?_
    simp (disch := omega) only [go_sem, Nat.reduceLeDiff, reduceCtorEq, Nat.reduceAdd, Nat.reduceSub, Nat.reduceMul, Nat.reduceLT, Nat.reduceEqDiff, Int.reduceEq, Int.reduceLE, Int.reduceLT, Int.reducePow, Int.reduceMul, Int.reduceToNat, Int.reduceNeg, ↓reduceIte, hD, hG', wrap64]
    refine condK_split (fun h => ?_) (fun h => ?_)
    · rw [decide_eq_true_eq] at h
      have hi1 : i < items.length := by omega
      have hgx := itemGet hi1
      have g1 := g1 i hi1
      have hit : ∀ x, items.getD i item0 = x → isIt id turn x = true → r = ({ name := name, limit := limit, items := items.eraseIdx i }, 0) := fun x hx hp => by
        have hp' : placeS (isIt id turn) items 0 = 0 + i := placeS_hit hi1 hnot (by rw [hx]; exact hp)
        rw [hr]
        simp only [hp']
        rw [if_neg (by omega)]
        simp only [Int.zero_add, Int.toNat_natCast]
      generalize hx : items.getD i item0 = x at *
      have hit := hit x rfl
      obtain ⟨a1, a2, a3, a4, a5, ⟨xp, xb⟩⟩ := x
      simp only [itemRow] at hgx
      simp (disch := omega) only [go_sem, Nat.reduceLeDiff, reduceCtorEq, Nat.reduceAdd, Nat.reduceSub, Nat.reduceMul, Nat.reduceLT, Nat.reduceEqDiff, Int.reduceEq, Int.reduceLE, Int.reduceLT, Int.reducePow, Int.reduceMul, Int.reduceToNat, Int.reduceNeg, ↓reduceIte, hD, hG', wrap64, hgx, g1]
      refine ⟨by omega, RegT.mk [] ?_⟩
      simp (disch := omega) only [go_sem, Nat.reduceLeDiff, reduceCtorEq, Nat.reduceAdd, Nat.reduceSub, Nat.reduceMul, Nat.reduceLT, Nat.reduceEqDiff, Int.reduceEq, Int.reduceLE, Int.reduceLT, Int.reducePow, Int.reduceMul, Int.reduceToNat, Int.reduceNeg, ↓reduceIte, hD, hG', wrap64, hgx, g1]
      and_intros
      all_goals (try (first | (intro hk; refine ⟨hk, fun h2 => ?_⟩; first | (rw [hk, h2]; rfl) | (rw [hk, decide_eq_false h2]; rfl)) | (intro hk; rw [decide_eq_false hk]; rfl) | (intro hk; rw [hk]; rfl)))
      refine condK_split (fun h => ?_) (fun h => ?_)
      · have hp : isIt id turn ⟨a1, a2, a3, a4, a5, ⟨xp, xb⟩⟩ = true := by unfold isIt; grind
        simp (disch := omega) only [go_sem, Nat.reduceLeDiff, reduceCtorEq, Nat.reduceAdd, Nat.reduceSub, Nat.reduceMul, Nat.reduceLT, Nat.reduceEqDiff, Int.reduceEq, Int.reduceLE, Int.reduceLT, Int.reducePow, Int.reduceMul, Int.reduceToNat, Int.reduceNeg, ↓reduceIte, hD, hG', wrap64, g1]
        simp (disch := omega) only [go_sem, Nat.reduceLeDiff, reduceCtorEq, Nat.reduceAdd, Nat.reduceSub, Nat.reduceMul, Nat.reduceLT, Nat.reduceEqDiff, Int.reduceEq, Int.reduceLE, Int.reduceLT, Int.reducePow, Int.reduceMul, Int.reduceToNat, Int.reduceNeg, ↓reduceIte, hD, hG', wrap64, g1, unbox, tmv, Option.some.injEq, exists_eq_left']
        refine ⟨[], [], rfl, rfl, ?_, ?_⟩ <;> simp only [itemA, itemRow, go_sem, Nat.reduceEqDiff]
        rw [hit hp]
        simp [hnl]
      · have hp : isIt id turn ⟨a1, a2, a3, a4, a5, ⟨xp, xb⟩⟩ = false := by unfold isIt; grind
        simp (disch := omega) only [go_sem, Nat.reduceLeDiff, reduceCtorEq, Nat.reduceAdd, Nat.reduceSub, Nat.reduceMul, Nat.reduceLT, Nat.reduceEqDiff, Int.reduceEq, Int.reduceLE, Int.reduceLT, Int.reducePow, Int.reduceMul, Int.reduceToNat, Int.reduceNeg, ↓reduceIte, hD, hG', wrap64, g1]
        refine ⟨i + 1, ⟨⟨by omega, fun j hj => ?_⟩, by omega⟩, wk_of hD [(3, 3), (6, 6)] rfl rfl ?_ ?_⟩
        · by_cases hji : j = i
          · rw [hji, hx]; exact hp
          · exact hnot j (by omega)
        all_goals simp only [go_sem, Nat.reduceEqDiff]
        simp
    · rw [decide_eq_false_iff_not] at h
      have hie : i = items.length := by omega
      subst hie
      simp (disch := omega) only [go_sem, Nat.reduceLeDiff, reduceCtorEq, Nat.reduceAdd, Nat.reduceSub, Nat.reduceMul, Nat.reduceLT, Nat.reduceEqDiff, Int.reduceEq, Int.reduceLE, Int.reduceLT, Int.reducePow, Int.reduceMul, Int.reduceToNat, Int.reduceNeg, ↓reduceIte, hD, hG', wrap64]
      simp (disch := omega) only [go_sem, Nat.reduceLeDiff, reduceCtorEq, Nat.reduceAdd, Nat.reduceSub, Nat.reduceMul, Nat.reduceLT, Nat.reduceEqDiff, Int.reduceEq, Int.reduceLE, Int.reduceLT, Int.reducePow, Int.reduceMul, Int.reduceToNat, Int.reduceNeg, ↓reduceIte, hD, hG', wrap64, unbox, tmv, Option.some.injEq, exists_eq_left']
      refine ⟨[], [], rfl, rfl, ?_, ?_⟩ <;> simp only [itemA, itemRow, go_sem, Nat.reduceEqDiff]
      rw [hr, placeS_miss hnot, if_pos (by omega)]
      simp [queue0]
  exact hcon _ rfl
def reftakeLo : Nat → Lo := fun id => match id with | 6 => {uo := [4, 5], un := [4, 5]} | _ => {}
def reftakeH : Nat → Lo := fun id => match id with | 6 => {hand := true} | _ => {}
set_option maxRecDepth 100000 in
set_option maxHeartbeats 1000000 in
theorem con_reftakeq (q : LQueue) (now : Int) (hq : q.Ok) (hnow : -1000000 ≤ now ∧ now ≤ 1000000) : Con Try.prog D 47 [queueA q, .int .i64 now] ⟨.tup [queueA (takeS q now).1, itemA (takeS q now).2.1, .int .i64 (takeS q now).2.2], []⟩ := by
  have hok : GOk Try.prog D (tabG [eItems]) := tabG_ok _
  have g1 := fun (k : Nat) (x : LItem) (h : k < q.items.length) => tabG_use (T := [eItems]) (E := eItems) (i := 0) rfl (by decide) ((q, k, some x)) (⟨hq.1, h⟩)
  generalize tabG [eItems] = G at *
  dsimp only [eItems] at g1
  have hl := hq.1.1
  have hb := hq.2
  obtain ⟨name, limit, items⟩ := q
  simp only [queueA, itx, itemsS] at g1 hl hb
  have hcon : ∀ r, r = takeS ⟨name, limit, items⟩ now → Con Try.prog D 47 [queueA ⟨name, limit, items⟩, .int .i64 now] ⟨.tup [queueA r.1, itemA r.2.1, .int .i64 r.2.2], []⟩ := by
    intro r hr
    unfold takeS at hr
    refine con_of (G := G) (rs := [(4, some 54), (5, some 64), (6, none)]) mixed tok hok Try.func47 rfl (by decide) Try.results47 (by decide) rfl Try.ntmps47 (by simp) (by simp [queueA, namess, names]) fun X hP hD hG' hX => evC_sound hX (fun _ => {}) _ _ _ ?_
    simp only [argS, num, queueA]
    generalize hnl : name.data.toList = nl at *
    simp (disch := omega) only [go_sem, Nat.reduceLeDiff, reduceCtorEq, Nat.reduceAdd, Nat.reduceSub, Nat.reduceMul, Nat.reduceLT, Nat.reduceEqDiff, Int.reduceEq, Int.reduceLE, Int.reduceLT, Int.reducePow, Int.reduceMul, Int.reduceToNat, Int.reduceNeg, ↓reduceIte, hD, hG', wrap64]
    refine Tr.loop (ι := Nat) (fun i => i ≤ items.length ∧ ∀ j, j < i → notOut (items.getD j item0) = false) (fun i => { nt := 35, tm := [(1, .int .i64 now), (2, .ptr 2 0), (4, .ptr 4 0), (5, .ptr 5 0), (10, .sl 7 (items.map itemRow)), (11, .int .i64 items.length), (12, .int .i64 i)], bl := [(2, some (.cells [.str nl, .int .i64 limit, .sl 7 (items.map itemRow)])), (4, some (.cells [.str [], .int .i64 0, .nils])), (5, some (.cells [.int .i64 0, .int .i64 0, .int .i64 0, .bool false, .int .i64 0, .nils, .nils]))] }) (fun i => items.length - i) 0
      ⟨⟨Nat.zero_le _, fun j hj => absurd hj (Nat.not_lt_zero j)⟩, wk_of hD [(2, 2), (4, 4), (5, 5)] rfl rfl (by simp only [go_sem, Nat.reduceEqDiff]; simp) (by simp only [go_sem, Nat.reduceEqDiff, D_3, D_4, D_5, D_9, D_22, D_30, D_40, D_42, D_52, D_54, D_64, D_99, D_117])⟩ ?_
    rintro i ⟨hi, hnot⟩
    refine evC_sound hX reftakeH _ _ _ ?_
    simp (disch := omega) only [go_sem, Nat.reduceLeDiff, reduceCtorEq, Nat.reduceAdd, Nat.reduceSub, Nat.reduceMul, Nat.reduceLT, Nat.reduceEqDiff, Int.reduceEq, Int.reduceLE, Int.reduceLT, Int.reducePow, Int.reduceMul, Int.reduceToNat, Int.reduceNeg, ↓reduceIte, hD, hG', wrap64]
    refine condK_split (fun h => ?_) (fun h => ?_)
    · rw [decide_eq_true_eq] at h
      have hi1 : i < items.length := by omega
      have hgx := itemGet hi1
      have hbx : (-1000000 ≤ (items.getD i item0).turn ∧ (items.getD i item0).turn ≤ 1000000) := by
        have : items.getD i item0 = items[i] := by simp [hi1]
        rw [this]
        exact (hb _ (List.getElem_mem hi1)).1
      have g1 := fun x => g1 i x hi1
      have hit : ∀ x, items.getD i item0 = x → notOut x = true → r = ({ name := name, limit := limit, items := items.set i (takeI now x) }, takeI now x, 0) := fun x hx hp => by
        have hp' : placeS notOut items 0 = 0 + i := placeS_hit hi1 hnot (by rw [hx]; exact hp)
        rw [hr]
        simp only [hp']
        rw [if_neg (by omega)]
        simp only [Int.zero_add, Int.toNat_natCast, hx]
      generalize hx : items.getD i item0 = x at *
      have hit := hit x rfl
      obtain ⟨a1, a2, a3, a4, a5, ⟨xp, xb⟩⟩ := x
      simp only [itemRow] at hgx
      have g1 := g1 (takeI now ⟨a1, a2, a3, a4, a5, ⟨xp, xb⟩⟩)
      simp only [takeI, itemRow] at g1
      cases a4
      · simp only at hbx
        simp (disch := omega) only [go_sem, Nat.reduceLeDiff, reduceCtorEq, Nat.reduceAdd, Nat.reduceSub, Nat.reduceMul, Nat.reduceLT, Nat.reduceEqDiff, Int.reduceEq, Int.reduceLE, Int.reduceLT, Int.reducePow, Int.reduceMul, Int.reduceToNat, Int.reduceNeg, ↓reduceIte, hD, hG', wrap64, hgx]
        refine ⟨by omega, ?_⟩
        simp (disch := omega) only [go_sem, Nat.reduceLeDiff, reduceCtorEq, Nat.reduceAdd, Nat.reduceSub, Nat.reduceMul, Nat.reduceLT, Nat.reduceEqDiff, Int.reduceEq, Int.reduceLE, Int.reduceLT, Int.reducePow, Int.reduceMul, Int.reduceToNat, Int.reduceNeg, ↓reduceIte, hD, hG', wrap64, reftakeH]
        refine Tr.wk (Wk.ice 8 (cs := [.int .i64 a1, .int .i64 (a2 + 1), .int .i64 a3, .bool true, .int .i64 (now + 5), .sl 4 (xp.map propRow), .sl 1 (xb.map byteRow)]) (by rfl) rfl) (evC_sound hX reftakeLo _ _ _ ?_)
        simp (disch := omega) only [go_sem, Nat.reduceLeDiff, reduceCtorEq, Nat.reduceAdd, Nat.reduceSub, Nat.reduceMul, Nat.reduceLT, Nat.reduceEqDiff, Int.reduceEq, Int.reduceLE, Int.reduceLT, Int.reducePow, Int.reduceMul, Int.reduceToNat, Int.reduceNeg, ↓reduceIte, hD, hG', wrap64, g1, reftakeLo]
        refine ⟨by decide, ?_⟩
        simp (disch := omega) only [go_sem, Nat.reduceLeDiff, reduceCtorEq, Nat.reduceAdd, Nat.reduceSub, Nat.reduceMul, Nat.reduceLT, Nat.reduceEqDiff, Int.reduceEq, Int.reduceLE, Int.reduceLT, Int.reducePow, Int.reduceMul, Int.reduceToNat, Int.reduceNeg, ↓reduceIte, hD, hG', wrap64, unbox, tmv, Option.some.injEq, exists_eq_left']
        refine ⟨[], [], rfl, rfl, ?_, ?_⟩ <;> simp only [itemA, itemRow, go_sem, Nat.reduceEqDiff]
        rw [hit rfl]
        simp [hnl, takeI]
      · simp (disch := omega) only [go_sem, Nat.reduceLeDiff, reduceCtorEq, Nat.reduceAdd, Nat.reduceSub, Nat.reduceMul, Nat.reduceLT, Nat.reduceEqDiff, Int.reduceEq, Int.reduceLE, Int.reduceLT, Int.reducePow, Int.reduceMul, Int.reduceToNat, Int.reduceNeg, ↓reduceIte, hD, hG', wrap64, hgx]
        refine ⟨by omega, i + 1, ⟨⟨by omega, fun j hj => ?_⟩, by omega⟩, wk_of hD [(2, 2), (4, 4), (5, 5)] rfl rfl ?_ ?_⟩
        · by_cases hji : j = i
          · rw [hji, hx]; rfl
          · exact hnot j (by omega)
        all_goals simp only [go_sem, Nat.reduceEqDiff]
        simp
    · rw [decide_eq_false_iff_not] at h
      have hie : i = items.length := by omega
      subst hie
      simp (disch := omega) only [go_sem, Nat.reduceLeDiff, reduceCtorEq, Nat.reduceAdd, Nat.reduceSub, Nat.reduceMul, Nat.reduceLT, Nat.reduceEqDiff, Int.reduceEq, Int.reduceLE, Int.reduceLT, Int.reducePow, Int.reduceMul, Int.reduceToNat, Int.reduceNeg, ↓reduceIte, hD, hG', wrap64]
      simp (disch := omega) only [go_sem, Nat.reduceLeDiff, reduceCtorEq, Nat.reduceAdd, Nat.reduceSub, Nat.reduceMul, Nat.reduceLT, Nat.reduceEqDiff, Int.reduceEq, Int.reduceLE, Int.reduceLT, Int.reducePow, Int.reduceMul, Int.reduceToNat, Int.reduceNeg, ↓reduceIte, hD, hG', wrap64, unbox, tmv, Option.some.injEq, exists_eq_left']
      refine ⟨[], [], rfl, rfl, ?_, ?_⟩ <;> simp only [itemA, itemRow, go_sem, Nat.reduceEqDiff]
      rw [hr, placeS_miss hnot, if_pos (by omega)]
      simp [queue0, item0, note0]
  exact hcon _ rfl
def refbackLo : Nat → Lo := fun id => match id with | 7 => {uo := [4, 5], un := [6, 7]} | 8 => {hand := true} | _ => {}
set_option maxRecDepth 100000 in
set_option maxHeartbeats 2000000 in
theorem con_refbackq (q : LQueue) (id turn : Int) (hq : q.Ok) : Con Try.prog D 52 [queueA q, .int .i64 id, .int .i64 turn] ⟨.tup [queueA (backS q id turn).1, itemA (backS q id turn).2.1, .bool (backS q id turn).2.2.1, .int .i64 (backS q id turn).2.2.2], []⟩ := by
  have hok : GOk Try.prog D (tabG [eItems]) := tabG_ok _
  have g1 := fun (k : Nat) (x : LItem) (h : k < q.items.length) => tabG_use (T := [eItems]) (E := eItems) (i := 0) rfl (by decide) ((q, k, some x)) (⟨hq.1, h⟩)
  have g2 := fun (k : Nat) (h : k < q.items.length) => tabG_use (T := [eItems]) (E := eItems) (i := 0) rfl (by decide) ((q, k, none)) (⟨hq.1, h⟩)
  generalize tabG [eItems] = G at *
  dsimp only [eItems] at g1
  dsimp only [eItems] at g2
  have hl := hq.1.1
  have hb := hq.2
  obtain ⟨name, limit, items⟩ := q
  simp only [queueA, itx, itemsS] at g1 g2 hl hb
  have hcon : ∀ r, r = backS ⟨name, limit, items⟩ id turn → Con Try.prog D 52 [queueA ⟨name, limit, items⟩, .int .i64 id, .int .i64 turn] ⟨.tup [queueA r.1, itemA r.2.1, .bool r.2.2.1, .int .i64 r.2.2.2], []⟩ := by
    intro r hr
    unfold backS at hr
    refine con_of (G := G) (rs := [(6, some 54), (7, some 64), (8, none), (9, none)]) mixed tok hok Try.func52 rfl (by decide) Try.results52 (by decide) rfl Try.ntmps52 (by simp) (by simp [queueA, namess, names]) fun X hP hD hG' hX => evC_sound hX (fun _ => {}) _ _ _ ?_
    simp only [argS, num, queueA]
    generalize hnl : name.data.toList = nl at *
    simp (disch := omega) only [go_sem, Nat.reduceLeDiff, reduceCtorEq, Nat.reduceAdd, Nat.reduceSub, Nat.reduceMul, Nat.reduceLT, Nat.reduceEqDiff, Int.reduceEq, Int.reduceLE, Int.reduceLT, Int.reducePow, Int.reduceMul, Int.reduceToNat, Int.reduceNeg, ↓reduceIte, hD, hG', wrap64]
    refine Tr.loop (ι := Nat) (fun i => i ≤ items.length ∧ ∀ j, j < i → isIt id turn (items.getD j item0) = false) (fun i => { nt := 55, tm := [(1, .int .i64 id), (2, .int .i64 turn), (3, .ptr 3 0), (6, .ptr 6 0), (7, .ptr 7 0), (13, .sl 7 (items.map itemRow)), (14, .int .i64 items.length), (15, .int .i64 i)], bl := [(3, some (.cells [.str nl, .int .i64 limit, .sl 7 (items.map itemRow)])), (6, some (.cells [.str [], .int .i64 0, .nils])), (7, some (.cells [.int .i64 0, .int .i64 0, .int .i64 0, .bool false, .int .i64 0, .nils, .nils]))] }) (fun i => items.length - i) 0
      ⟨⟨Nat.zero_le _, fun j hj => absurd hj (Nat.not_lt_zero j)⟩, wk_of hD [(3, 3), (6, 6), (7, 7)] rfl rfl (by simp only [go_sem, Nat.reduceEqDiff]; simp) (by simp only [go_sem, Nat.reduceEqDiff, D_3, D_4, D_5, D_9, D_22, D_30, D_40, D_42, D_52, D_54, D_64, D_99, D_117])⟩ ?_
    rintro i ⟨hi, hnot⟩
    refine evC_sound hX refbackLo _ _ _ ?_
    simp (disch := omega) only [go_sem, Nat.reduceLeDiff, reduceCtorEq, Nat.reduceAdd, Nat.reduceSub, Nat.reduceMul, Nat.reduceLT, Nat.reduceEqDiff, Int.reduceEq, Int.reduceLE, Int.reduceLT, Int.reducePow, Int.reduceMul, Int.reduceToNat, Int.reduceNeg, ↓reduceIte, hD, hG', wrap64]
    refine condK_split (fun h => ?_) (fun h => ?_)
    · rw [decide_eq_true_eq] at h
      have hi1 : i < items.length := by omega
      have hgx := itemGet hi1
      have hbx : (-1000000 ≤ (items.getD i item0).turn ∧ (items.getD i item0).turn ≤ 1000000) ∧ -1000000 ≤ (items.getD i item0).tries ∧ (items.getD i item0).tries ≤ 1000000 := by
        have : items.getD i item0 = items[i] := by simp [hi1]
        rw [this]
        exact hb _ (List.getElem_mem hi1)
      have g1 := fun x => g1 i x hi1
      have g2 := g2 i hi1
      have hit : ∀ x, items.getD i item0 = x → isIt id turn x = true → r = if (backI x).tries < 3 then ({ name := name, limit := limit, items := items.set i (backI x) }, item0, false, 0) else ({ name := name, limit := limit, items := items.eraseIdx i }, backI x, true, 0) := fun x hx hp => by
        have hp' : placeS (isIt id turn) items 0 = 0 + i := placeS_hit hi1 hnot (by rw [hx]; exact hp)
        rw [hr]
        simp only [hp']
        rw [if_neg (by omega)]
        simp only [Int.zero_add, Int.toNat_natCast, hx]
      generalize hx : items.getD i item0 = x at *
      have hit := hit x rfl
      obtain ⟨a1, a2, a3, a4, a5, ⟨xp, xb⟩⟩ := x
      simp only [itemRow] at hgx
      simp only [backI] at hit hbx
      have g1 := g1 (backI ⟨a1, a2, a3, a4, a5, ⟨xp, xb⟩⟩)
      simp only [backI, itemRow] at g1
      simp (disch := omega) only [go_sem, Nat.reduceLeDiff, reduceCtorEq, Nat.reduceAdd, Nat.reduceSub, Nat.reduceMul, Nat.reduceLT, Nat.reduceEqDiff, Int.reduceEq, Int.reduceLE, Int.reduceLT, Int.reducePow, Int.reduceMul, Int.reduceToNat, Int.reduceNeg, ↓reduceIte, hD, hG', wrap64, hgx]
      refine ⟨by omega, RegT.mk [] ?_⟩
      simp (disch := omega) only [go_sem, Nat.reduceLeDiff, reduceCtorEq, Nat.reduceAdd, Nat.reduceSub, Nat.reduceMul, Nat.reduceLT, Nat.reduceEqDiff, Int.reduceEq, Int.reduceLE, Int.reduceLT, Int.reducePow, Int.reduceMul, Int.reduceToNat, Int.reduceNeg, ↓reduceIte, hD, hG', wrap64, hgx]
      and_intros
      all_goals (try (first | (intro hk; refine ⟨hk, fun h2 => ?_⟩; first | (rw [hk, h2]; rfl) | (rw [hk, decide_eq_false h2]; rfl)) | (intro hk; rw [decide_eq_false hk]; rfl) | (intro hk; rw [hk]; rfl)))
      refine condK_split (fun h => ?_) (fun h => ?_)
      · have hp : isIt id turn ⟨a1, a2, a3, a4, a5, ⟨xp, xb⟩⟩ = false := by
          clear g1 g2 hit
          unfold isIt
          dsimp only
          grind
        simp (disch := omega) only [go_sem, Nat.reduceLeDiff, reduceCtorEq, Nat.reduceAdd, Nat.reduceSub, Nat.reduceMul, Nat.reduceLT, Nat.reduceEqDiff, Int.reduceEq, Int.reduceLE, Int.reduceLT, Int.reducePow, Int.reduceMul, Int.reduceToNat, Int.reduceNeg, ↓reduceIte, hD, hG', wrap64]
        refine ⟨i + 1, ⟨⟨by omega, fun j hj => ?_⟩, by omega⟩, wk_of hD [(3, 3), (6, 6), (7, 7)] rfl rfl ?_ ?_⟩
        · by_cases hji : j = i
          · rw [hji, hx]; exact hp
          · exact hnot j (by omega)
        all_goals simp only [go_sem, Nat.reduceEqDiff]
        simp
      · have hp : isIt id turn ⟨a1, a2, a3, a4, a5, ⟨xp, xb⟩⟩ = true := by
          clear g1 g2 hit
          unfold isIt
          dsimp only
          grind
        have hit := hit hp
        simp (disch := omega) only [go_sem, Nat.reduceLeDiff, reduceCtorEq, Nat.reduceAdd, Nat.reduceSub, Nat.reduceMul, Nat.reduceLT, Nat.reduceEqDiff, Int.reduceEq, Int.reduceLE, Int.reduceLT, Int.reducePow, Int.reduceMul, Int.reduceToNat, Int.reduceNeg, ↓reduceIte, hD, hG', wrap64, g1, g2, refbackLo]
        refine condK_split (fun h3 => ?_) (fun h3 => ?_)
        · rw [decide_eq_true_eq] at h3
          have hit := hit.trans (if_neg (show ¬ a3 + 1 < 3 by omega))
          simp (disch := omega) only [go_sem, Nat.reduceLeDiff, reduceCtorEq, Nat.reduceAdd, Nat.reduceSub, Nat.reduceMul, Nat.reduceLT, Nat.reduceEqDiff, Int.reduceEq, Int.reduceLE, Int.reduceLT, Int.reducePow, Int.reduceMul, Int.reduceToNat, Int.reduceNeg, ↓reduceIte, hD, hG', wrap64, g1, g2, refbackLo]
          refine ⟨by decide, ?_⟩
          simp (disch := omega) only [go_sem, Nat.reduceLeDiff, reduceCtorEq, Nat.reduceAdd, Nat.reduceSub, Nat.reduceMul, Nat.reduceLT, Nat.reduceEqDiff, Int.reduceEq, Int.reduceLE, Int.reduceLT, Int.reducePow, Int.reduceMul, Int.reduceToNat, Int.reduceNeg, ↓reduceIte, hD, hG', wrap64, unbox, tmv, Option.some.injEq, exists_eq_left']
          refine ⟨[], [], rfl, rfl, ?_, ?_⟩ <;> simp only [itemA, itemRow, go_sem, Nat.reduceEqDiff]
          rw [hit]
          simp [hnl]
        · rw [decide_eq_false_iff_not] at h3
          have hit := hit.trans (if_pos (show a3 + 1 < 3 by omega))
          simp (disch := omega) only [go_sem, Nat.reduceLeDiff, reduceCtorEq, Nat.reduceAdd, Nat.reduceSub, Nat.reduceMul, Nat.reduceLT, Nat.reduceEqDiff, Int.reduceEq, Int.reduceLE, Int.reduceLT, Int.reducePow, Int.reduceMul, Int.reduceToNat, Int.reduceNeg, ↓reduceIte, hD, hG', wrap64, g1, g2, refbackLo]
          refine Tr.wk (Wk.ice 11 (cs := [.int .i64 a1, .int .i64 a2, .int .i64 (a3 + 1), .bool false, .int .i64 0, .sl 4 (xp.map propRow), .sl 1 (xb.map byteRow)]) (by rfl) rfl) (evC_sound hX (fun _ => {}) _ _ _ ?_)
          simp (disch := omega) only [go_sem, Nat.reduceLeDiff, reduceCtorEq, Nat.reduceAdd, Nat.reduceSub, Nat.reduceMul, Nat.reduceLT, Nat.reduceEqDiff, Int.reduceEq, Int.reduceLE, Int.reduceLT, Int.reducePow, Int.reduceMul, Int.reduceToNat, Int.reduceNeg, ↓reduceIte, hD, hG', wrap64, g1]
          simp (disch := omega) only [go_sem, Nat.reduceLeDiff, reduceCtorEq, Nat.reduceAdd, Nat.reduceSub, Nat.reduceMul, Nat.reduceLT, Nat.reduceEqDiff, Int.reduceEq, Int.reduceLE, Int.reduceLT, Int.reducePow, Int.reduceMul, Int.reduceToNat, Int.reduceNeg, ↓reduceIte, hD, hG', wrap64, unbox, tmv, Option.some.injEq, exists_eq_left']
          refine ⟨[], [], rfl, rfl, ?_, ?_⟩ <;> simp only [itemA, itemRow, go_sem, Nat.reduceEqDiff]
          rw [hit]
          simp [hnl, item0, note0]
    · rw [decide_eq_false_iff_not] at h
      have hie : i = items.length := by omega
      subst hie
      simp (disch := omega) only [go_sem, Nat.reduceLeDiff, reduceCtorEq, Nat.reduceAdd, Nat.reduceSub, Nat.reduceMul, Nat.reduceLT, Nat.reduceEqDiff, Int.reduceEq, Int.reduceLE, Int.reduceLT, Int.reducePow, Int.reduceMul, Int.reduceToNat, Int.reduceNeg, ↓reduceIte, hD, hG', wrap64]
      simp (disch := omega) only [go_sem, Nat.reduceLeDiff, reduceCtorEq, Nat.reduceAdd, Nat.reduceSub, Nat.reduceMul, Nat.reduceLT, Nat.reduceEqDiff, Int.reduceEq, Int.reduceLE, Int.reduceLT, Int.reducePow, Int.reduceMul, Int.reduceToNat, Int.reduceNeg, ↓reduceIte, hD, hG', wrap64, unbox, tmv, Option.some.injEq, exists_eq_left']
      refine ⟨[], [], rfl, rfl, ?_, ?_⟩ <;> simp only [itemA, itemRow, go_sem, Nat.reduceEqDiff]
      rw [hr, placeS_miss hnot, if_pos (by omega)]
      simp [queue0, item0, note0]
  exact hcon _ rfl
def eRefputq : Ent Try.prog D := ⟨43, LQueue × Int × LNote, fun x => [queueA x.1, .int .i64 x.2.1, noteA x.2.2], fun x => x.1.Fits ∧ x.2.2.Fits, fun x => ⟨.tup [queueA (putS x.1 x.2.1 x.2.2).1, .int .i64 (putS x.1 x.2.1 x.2.2).2], []⟩, fun x y _ _ h => by
  obtain ⟨a, b, c⟩ := x
  obtain ⟨a', b', c'⟩ := y
  simp only [List.cons.injEq, AV.int.injEq, and_true, true_and] at h
  obtain ⟨h1, rfl, h3⟩ := h
  rw [queueA_inj h1, noteA_inj h3], fun x h => con_refputq _ _ _ h.1 h.2⟩
def eReftakeq : Ent Try.prog D := ⟨47, LQueue × Int, fun x => [queueA x.1, .int .i64 x.2], fun x => x.1.Ok ∧ -1000000 ≤ x.2 ∧ x.2 ≤ 1000000, fun x => ⟨.tup [queueA (takeS x.1 x.2).1, itemA (takeS x.1 x.2).2.1, .int .i64 (takeS x.1 x.2).2.2], []⟩, fun x y _ _ h => by
  obtain ⟨a, b⟩ := x
  obtain ⟨a', b'⟩ := y
  simp only [List.cons.injEq, AV.int.injEq, and_true, true_and] at h
  obtain ⟨h1, rfl⟩ := h
  rw [queueA_inj h1], fun x h => con_reftakeq _ _ h.1 h.2⟩
def eRefdoneq : Ent Try.prog D := ⟨50, LQueue × Int × Int, fun x => [queueA x.1, .int .i64 x.2.1, .int .i64 x.2.2], fun x => x.1.Fits, fun x => ⟨.tup [queueA (doneS x.1 x.2.1 x.2.2).1, .int .i64 (doneS x.1 x.2.1 x.2.2).2], []⟩, fun x y _ _ h => by
  obtain ⟨a, b, c⟩ := x
  obtain ⟨a', b', c'⟩ := y
  simp only [List.cons.injEq, AV.int.injEq, and_true, true_and] at h
  obtain ⟨h1, rfl, rfl⟩ := h
  rw [queueA_inj h1], fun x h => con_refdoneq _ _ _ h⟩
def eRefbackq : Ent Try.prog D := ⟨52, LQueue × Int × Int, fun x => [queueA x.1, .int .i64 x.2.1, .int .i64 x.2.2], fun x => x.1.Ok, fun x => ⟨.tup [queueA (backS x.1 x.2.1 x.2.2).1, itemA (backS x.1 x.2.1 x.2.2).2.1, .bool (backS x.1 x.2.1 x.2.2).2.2.1, .int .i64 (backS x.1 x.2.1 x.2.2).2.2.2], []⟩, fun x y _ _ h => by
  obtain ⟨a, b, c⟩ := x
  obtain ⟨a', b', c'⟩ := y
  simp only [List.cons.injEq, AV.int.injEq, and_true, true_and] at h
  obtain ⟨h1, rfl, rfl⟩ := h
  rw [queueA_inj h1], fun x h => con_refbackq _ _ _ h⟩
def eReflateq : Ent Try.prog D := ⟨54, LQueue × Int, fun x => [queueA x.1, .int .i64 x.2], fun x => x.1.Fits, fun x => ⟨.tup [itemA (lateS x.1 x.2).1, .bool (lateS x.1 x.2).2], []⟩, fun x y _ _ h => by
  obtain ⟨a, b⟩ := x
  obtain ⟨a', b'⟩ := y
  simp only [List.cons.injEq, AV.int.injEq, and_true, true_and] at h
  obtain ⟨h1, rfl⟩ := h
  rw [queueA_inj h1], fun x h => con_reflate _ _ h⟩
def eRefpurgeq : Ent Try.prog D := ⟨56, LQueue, fun q => [queueA q], LQueue.Fits, fun q => ⟨.tup [queueA (purgeS q).1, .sl 1 ((purgeS q).2.map intRow)], []⟩, fun x y _ _ h => by
  simp only [List.cons.injEq, and_true] at h
  rw [queueA_inj h], con_refpurge⟩
end Go.Proofs.Ytcgdjdlcecnanaa.Ab
namespace Go.Proofs.Ytcgdjdlcecnanaa.Ab
open Go Go.RowKit
set_option linter.unusedVariables false
set_option linter.unusedSimpArgs false

theorem Con.weak {P : Program} {D : Nat → TI} {f : Nat} {args args' : List AV} {r : Res} (h : Con P D f args r) (hc : covs [] args' args) : Con P D f args' r := by
  obtain ⟨h0, h⟩ := h
  refine ⟨h0, fun w im ρ vs him hvs => h w im (fun _ => ⟨none, none, 0, 0, 0⟩) vs him ?_⟩
  obtain ⟨h1, h2⟩ := hvs
  obtain ⟨q1, q2⟩ := covs_get hc
  refine ⟨by rw [h1, q1], fun i y v hy hv => ?_⟩
  obtain ⟨x, hx, hxy⟩ := q2 i y hy
  exact (h2 i x v hx hv).cov (fun _ h => h) (fun n t hn => by simp [get] at hn) (fun _ _ => rfl) hxy
def ePutq : Ent Try.prog D := ⟨42, LQueue × Int × LNote, fun x => [queueA x.1, .int .i64 x.2.1, noteA x.2.2], fun x => x.1.Fits ∧ x.2.2.Fits, fun x => ⟨.tup [queueA (putS x.1 x.2.1 x.2.2).1, .int .i64 (putS x.1 x.2.1 x.2.2).2], []⟩, fun x y _ _ h => by
  obtain ⟨a, b, c⟩ := x
  obtain ⟨a', b', c'⟩ := y
  simp only [List.cons.injEq, AV.int.injEq, and_true, true_and] at h
  obtain ⟨h1, rfl, h3⟩ := h
  rw [queueA_inj h1, noteA_inj h3], fun x h => con_putq _ _ _ h.1 h.2⟩
/-- a note with no properties, of which the slice is nil -/
def ePutn : Ent Try.prog D := ⟨42, LQueue × Int × List UInt8, fun x => [queueA x.1, .int .i64 x.2.1, .agg [.nils, .sl 1 (x.2.2.map byteRow)]], fun x => x.1.Fits ∧ (⟨[], x.2.2⟩ : LNote).Fits, fun x => ⟨.tup [queueA (putS x.1 x.2.1 ⟨[], x.2.2⟩).1, .int .i64 (putS x.1 x.2.1 ⟨[], x.2.2⟩).2], []⟩, fun x y _ _ h => by
  obtain ⟨a, b, c⟩ := x
  obtain ⟨a', b', c'⟩ := y
  simp only [List.cons.injEq, AV.int.injEq, AV.agg.injEq, AV.sl.injEq, and_true, true_and] at h
  obtain ⟨h1, rfl, h3⟩ := h
  rw [queueA_inj h1, bytes_inj h3], fun x h => (con_putq _ _ ⟨[], x.2.2⟩ h.1 h.2).weak (by simp [covs, cov, queueA, noteA])⟩
def eTakeq : Ent Try.prog D := ⟨46, LQueue × Int, fun x => [queueA x.1, .int .i64 x.2], fun x => x.1.Ok ∧ -1000000 ≤ x.2 ∧ x.2 ≤ 1000000, fun x => ⟨.tup [queueA (takeS x.1 x.2).1, itemA (takeS x.1 x.2).2.1, .int .i64 (takeS x.1 x.2).2.2], []⟩, fun x y _ _ h => by
  obtain ⟨a, b⟩ := x
  obtain ⟨a', b'⟩ := y
  simp only [List.cons.injEq, AV.int.injEq, and_true, true_and] at h
  obtain ⟨h1, rfl⟩ := h
  rw [queueA_inj h1], fun x h => con_takeq _ _ h.1 h.2⟩
def eDoneq : Ent Try.prog D := ⟨49, LQueue × Int × Int, fun x => [queueA x.1, .int .i64 x.2.1, .int .i64 x.2.2], fun x => x.1.Fits, fun x => ⟨.tup [queueA (doneS x.1 x.2.1 x.2.2).1, .int .i64 (doneS x.1 x.2.1 x.2.2).2], []⟩, fun x y _ _ h => by
  obtain ⟨a, b, c⟩ := x
  obtain ⟨a', b', c'⟩ := y
  simp only [List.cons.injEq, AV.int.injEq, and_true, true_and] at h
  obtain ⟨h1, rfl, rfl⟩ := h
  rw [queueA_inj h1], fun x h => con_doneq _ _ _ h⟩
def eBackq : Ent Try.prog D := ⟨51, LQueue × Int × Int, fun x => [queueA x.1, .int .i64 x.2.1, .int .i64 x.2.2], fun x => x.1.Ok, fun x => ⟨.tup [queueA (backS x.1 x.2.1 x.2.2).1, itemA (backS x.1 x.2.1 x.2.2).2.1, .bool (backS x.1 x.2.1 x.2.2).2.2.1, .int .i64 (backS x.1 x.2.1 x.2.2).2.2.2], []⟩, fun x y _ _ h => by
  obtain ⟨a, b, c⟩ := x
  obtain ⟨a', b', c'⟩ := y
  simp only [List.cons.injEq, AV.int.injEq, and_true, true_and] at h
  obtain ⟨h1, rfl, rfl⟩ := h
  rw [queueA_inj h1], fun x h => con_backq _ _ _ h⟩
def eLateq : Ent Try.prog D := ⟨53, LQueue × Int, fun x => [queueA x.1, .int .i64 x.2], fun x => x.1.Fits, fun x => ⟨.tup [itemA (lateS x.1 x.2).1, .bool (lateS x.1 x.2).2], []⟩, fun x y _ _ h => by
  obtain ⟨a, b⟩ := x
  obtain ⟨a', b'⟩ := y
  simp only [List.cons.injEq, AV.int.injEq, and_true, true_and] at h
  obtain ⟨h1, rfl⟩ := h
  rw [queueA_inj h1], fun x h => con_lateq _ _ h⟩
def ePurgeq : Ent Try.prog D := ⟨55, LQueue, fun q => [queueA q], LQueue.Fits, fun q => ⟨.tup [queueA (purgeS q).1, .sl 1 ((purgeS q).2.map intRow)], []⟩, fun x y _ _ h => by
  simp only [List.cons.injEq, and_true] at h
  rw [queueA_inj h], con_purgeq⟩
def eRightq : Ent Try.prog D := ⟨41, LHall, fun h => [hallA h], LHall.Fits, fun h => ⟨.bool (decide (hallOk h)), []⟩, fun x y _ _ h => by
  simp only [List.cons.injEq, and_true] at h
  rw [hallA_inj h], con_right⟩
end Go.Proofs.Ytcgdjdlcecnanaa.Ab
namespace Go.Proofs.Ytcgdjdlcecnanaa.Ab
open Go Go.RowKit
set_option linter.unusedVariables false
set_option linter.unusedSimpArgs false

theorem intGet {l : List Int} {i : Nat} (h : i < l.length) : (l.map intRow).getD i [] = [.int .i64 (l.getD i 0)] := by
  simp [h, intRow]
theorem lastS_zero (l : List LItem) : lastS l 0 = -1 := rfl
theorem lastS_succ (l : List LItem) (j : Nat) : lastS l (j + 1) = (l.getD j item0).id := rfl
theorem badI_not {next last : Int} {i : LItem} (h : ¬ badI next last i) : (last < i.id ∧ i.id < next) ∧ wrongS i.note = 0 ∧ (0 ≤ i.turn ∧ i.turn ≤ 1000) ∧ (0 ≤ i.tries ∧ i.tries ≤ 2) ∧ 0 ≤ i.due ∧ i.due ≤ 1000000 := by
  unfold badI at h
  have h2 : wrongS i.note = 0 := Classical.byContradiction fun h2 => h (.inr (.inr (.inl h2)))
  omega
/-- items that are right -/
theorem itemsOk_all {next : Int} {l : List LItem} (h : itemsOk next l) : ∀ i ∈ l, (0 ≤ i.id ∧ i.id < next) ∧ wrongS i.note = 0 ∧ (0 ≤ i.turn ∧ i.turn ≤ 1000) ∧ (0 ≤ i.tries ∧ i.tries ≤ 2) ∧ 0 ≤ i.due ∧ i.due ≤ 1000000 := by
  have key : ∀ j, j < l.length → 0 ≤ (l.getD j item0).id := by
    intro j
    induction j with
    | zero =>
      intro hj
      have := (badI_not (h 0 hj)).1.1
      rw [lastS_zero] at this
      omega
    | succ j ih =>
      intro hj
      have := (badI_not (h (j + 1) hj)).1.1
      have := ih (by omega)
      rw [lastS_succ] at *
      omega
  intro i hi
  obtain ⟨j, hj⟩ := List.getElem?_of_mem hi
  have hjl := (List.getElem?_eq_some_iff.1 hj).1
  have h4 := badI_not (h j hjl)
  have h5 := key j hjl
  have e : l.getD j item0 = i := by rw [List.getD_eq_getElem?_getD, hj]; rfl
  rw [e] at h4 h5
  exact ⟨⟨h5, h4.1.2⟩, h4.2⟩
/-- a right hall's queue -/
theorem hallOk_queue {h : LHall} (ho : hallOk h) {k : Nat} (hk : k < h.queues.length) : headOk h k (h.queues.getD k queue0) ∧ (h.queues.getD k queue0).Ok ∧ (h.queues.getD k queue0).items.length ≤ 8 ∧ itemsOk h.next (h.queues.getD k queue0).items := by
  obtain ⟨h2, h3⟩ := ho.2 k hk
  have h4 := h2
  obtain ⟨_, _, _, l1, l2⟩ := h4
  refine ⟨h2, ⟨⟨by omega, fun i hi => fits_right (itemsOk_all h3 i hi).2.1⟩, fun i hi => ?_⟩, by omega, h3⟩
  have := itemsOk_all h3 i hi
  omega
theorem getD_mem {α : Type} {l : List α} {k : Nat} {d : α} (h : k < l.length) : l.getD k d ∈ l := by
  have : l.getD k d = l[k] := by simp [h]
  rw [this]; exact List.getElem_mem h
theorem fits_queue0 : queue0.Fits := ⟨by simp [queue0], by simp [queue0]⟩
theorem fits_item0 : item0.note.Fits := fits_zero
theorem fits_put {q : LQueue} {id : Int} {n : LNote} (hq : q.Fits) (h8 : q.items.length ≤ 1000) (hn : n.Fits) : (putS q id n).1.Fits := by
  unfold putS
  split
  · exact fits_queue0
  · refine ⟨by simp; omega, fun i hi => ?_⟩
    simp only [List.mem_append, List.mem_singleton] at hi
    rcases hi with hi | rfl
    · exact hq.2 i hi
    · exact hn
theorem fits_set {l : List LItem} {k : Nat} {x : LItem} (h : ∀ i ∈ l, i.note.Fits) (hx : x.note.Fits) : ∀ i ∈ l.set k x, i.note.Fits := fun i hi => by
  rcases List.mem_or_eq_of_mem_set hi with hi | rfl
  · exact h i hi
  · exact hx
theorem place_lt {p : LItem → Bool} {l : List LItem} (h : ¬ placeS p l 0 < 0) : (placeS p l 0).toNat < l.length := by
  have := @placeS_range p l
  omega
theorem fits_take {q : LQueue} {now : Int} (hq : q.Fits) : (takeS q now).1.Fits ∧ (takeS q now).2.1.note.Fits := by
  unfold takeS
  split
  · exact ⟨fits_queue0, fits_item0⟩
  · rename_i h
    have hx := hq.2 _ (getD_mem (d := item0) (place_lt h))
    exact ⟨⟨by simpa using hq.1, fits_set hq.2 hx⟩, hx⟩
theorem fits_done {q : LQueue} {id turn : Int} (hq : q.Fits) : (doneS q id turn).1.Fits := by
  unfold doneS
  split
  · exact fits_queue0
  · refine ⟨?_, fun i hi => hq.2 i (List.mem_of_mem_eraseIdx hi)⟩
    have h1 := hq.1
    show (q.items.eraseIdx _).length ≤ _
    rw [List.length_eraseIdx]
    split <;> omega
theorem fits_back {q : LQueue} {id turn : Int} (hq : q.Fits) : (backS q id turn).1.Fits ∧ (backS q id turn).2.1.note.Fits := by
  unfold backS
  split
  · exact ⟨fits_queue0, fits_item0⟩
  · rename_i h
    have hx := hq.2 _ (getD_mem (d := item0) (place_lt h))
    split
    · exact ⟨⟨by simpa using hq.1, fits_set hq.2 hx⟩, fits_item0⟩
    · refine ⟨⟨?_, fun i hi => hq.2 i (List.mem_of_mem_eraseIdx hi)⟩, hx⟩
      have h1 := hq.1
      show (q.items.eraseIdx _).length ≤ _
      rw [List.length_eraseIdx]
      split <;> omega
theorem fits_late {q : LQueue} {now : Int} (hq : q.Fits) : (lateS q now).1.note.Fits := by
  unfold lateS
  split
  · exact fits_item0
  · rename_i h
    exact hq.2 _ (getD_mem (d := item0) (place_lt h))
theorem fits_purge {q : LQueue} (hq : q.Fits) : (purgeS q).1.Fits := ⟨Nat.le_trans (List.length_filter_le _ _) hq.1, fun i hi => hq.2 i (List.mem_filter.1 hi).1⟩
theorem gone_len (l : List LItem) : (goneS l).length ≤ l.length := by
  unfold goneS
  rw [List.length_map]
  exact List.length_filter_le _ _
set_option maxRecDepth 100000 in
set_option maxHeartbeats 4000000 in
theorem con_queuetells (q : LQueue) (id turn now : Int) (n : LNote) (hq : q.Fits) (hnm : q.name.size ≤ 1048576) (hn : n.Fits) : Con Try.prog D 8 [queueA q, .int .i64 id, .int .i64 turn, .int .i64 now, noteA n] ⟨.bool true, []⟩ := by
  have hok : GOk Try.prog D (tabG [eRefwrong, eRightq, ePutq, eRefputq, eSameq, eOwnq, eTakeq, eReftakeq, eSameitem, eDoneq, eRefdoneq, eBackq, eRefbackq, eLateq, eReflateq, ePurgeq, eRefpurgeq]) := tabG_ok _
  have g1 := tabG_use (T := [eRefwrong, eRightq, ePutq, eRefputq, eSameq, eOwnq, eTakeq, eReftakeq, eSameitem, eDoneq, eRefdoneq, eBackq, eRefbackq, eLateq, eReflateq, ePurgeq, eRefpurgeq]) (E := eRefwrong) (i := 0) rfl (by decide) (n) (hn)
  have g2 := tabG_use (T := [eRefwrong, eRightq, ePutq, eRefputq, eSameq, eOwnq, eTakeq, eReftakeq, eSameitem, eDoneq, eRefdoneq, eBackq, eRefbackq, eLateq, eReflateq, ePurgeq, eRefpurgeq]) (E := eRightq) (i := 1) rfl (by decide) (⟨[q], 1000000⟩) (⟨by simp, by simpa using ⟨hq, hnm⟩⟩)
  have g3 := tabG_use (T := [eRefwrong, eRightq, ePutq, eRefputq, eSameq, eOwnq, eTakeq, eReftakeq, eSameitem, eDoneq, eRefdoneq, eBackq, eRefbackq, eLateq, eReflateq, ePurgeq, eRefpurgeq]) (E := ePutq) (i := 2) rfl (by decide) ((q, id, n)) (⟨hq, hn⟩)
  have g4 := tabG_use (T := [eRefwrong, eRightq, ePutq, eRefputq, eSameq, eOwnq, eTakeq, eReftakeq, eSameitem, eDoneq, eRefdoneq, eBackq, eRefbackq, eLateq, eReflateq, ePurgeq, eRefpurgeq]) (E := eRefputq) (i := 3) rfl (by decide) ((q, id, n)) (⟨hq, hn⟩)
  have g5 := fun (q : LQueue) (h : q.Fits) => tabG_use (T := [eRefwrong, eRightq, ePutq, eRefputq, eSameq, eOwnq, eTakeq, eReftakeq, eSameitem, eDoneq, eRefdoneq, eBackq, eRefbackq, eLateq, eReflateq, ePurgeq, eRefpurgeq]) (E := eSameq) (i := 4) rfl (by decide) (q) (h)
  have g6 := tabG_use (T := [eRefwrong, eRightq, ePutq, eRefputq, eSameq, eOwnq, eTakeq, eReftakeq, eSameitem, eDoneq, eRefdoneq, eBackq, eRefbackq, eLateq, eReflateq, ePurgeq, eRefpurgeq]) (E := eOwnq) (i := 5) rfl (by decide) (q) (hq)
  have g7 := fun (h : q.Ok) (h2 : -1000000 ≤ now ∧ now ≤ 1000000) => tabG_use (T := [eRefwrong, eRightq, ePutq, eRefputq, eSameq, eOwnq, eTakeq, eReftakeq, eSameitem, eDoneq, eRefdoneq, eBackq, eRefbackq, eLateq, eReflateq, ePurgeq, eRefpurgeq]) (E := eTakeq) (i := 6) rfl (by decide) ((q, now)) (⟨h, h2⟩)
  have g8 := fun (h : q.Ok) (h2 : -1000000 ≤ now ∧ now ≤ 1000000) => tabG_use (T := [eRefwrong, eRightq, ePutq, eRefputq, eSameq, eOwnq, eTakeq, eReftakeq, eSameitem, eDoneq, eRefdoneq, eBackq, eRefbackq, eLateq, eReflateq, ePurgeq, eRefpurgeq]) (E := eReftakeq) (i := 7) rfl (by decide) ((q, now)) (⟨h, h2⟩)
  have g9 := fun (i : LItem) (h : i.note.Fits) => tabG_use (T := [eRefwrong, eRightq, ePutq, eRefputq, eSameq, eOwnq, eTakeq, eReftakeq, eSameitem, eDoneq, eRefdoneq, eBackq, eRefbackq, eLateq, eReflateq, ePurgeq, eRefpurgeq]) (E := eSameitem) (i := 8) rfl (by decide) (i) (h)
  have g10 := tabG_use (T := [eRefwrong, eRightq, ePutq, eRefputq, eSameq, eOwnq, eTakeq, eReftakeq, eSameitem, eDoneq, eRefdoneq, eBackq, eRefbackq, eLateq, eReflateq, ePurgeq, eRefpurgeq]) (E := eDoneq) (i := 9) rfl (by decide) ((q, id, turn)) (hq)
  have g11 := tabG_use (T := [eRefwrong, eRightq, ePutq, eRefputq, eSameq, eOwnq, eTakeq, eReftakeq, eSameitem, eDoneq, eRefdoneq, eBackq, eRefbackq, eLateq, eReflateq, ePurgeq, eRefpurgeq]) (E := eRefdoneq) (i := 10) rfl (by decide) ((q, id, turn)) (hq)
  have g12 := fun (h : q.Ok) => tabG_use (T := [eRefwrong, eRightq, ePutq, eRefputq, eSameq, eOwnq, eTakeq, eReftakeq, eSameitem, eDoneq, eRefdoneq, eBackq, eRefbackq, eLateq, eReflateq, ePurgeq, eRefpurgeq]) (E := eBackq) (i := 11) rfl (by decide) ((q, id, turn)) (h)
  have g13 := fun (h : q.Ok) => tabG_use (T := [eRefwrong, eRightq, ePutq, eRefputq, eSameq, eOwnq, eTakeq, eReftakeq, eSameitem, eDoneq, eRefdoneq, eBackq, eRefbackq, eLateq, eReflateq, ePurgeq, eRefpurgeq]) (E := eRefbackq) (i := 12) rfl (by decide) ((q, id, turn)) (h)
  have g14 := tabG_use (T := [eRefwrong, eRightq, ePutq, eRefputq, eSameq, eOwnq, eTakeq, eReftakeq, eSameitem, eDoneq, eRefdoneq, eBackq, eRefbackq, eLateq, eReflateq, ePurgeq, eRefpurgeq]) (E := eLateq) (i := 13) rfl (by decide) ((q, now)) (hq)
  have g15 := tabG_use (T := [eRefwrong, eRightq, ePutq, eRefputq, eSameq, eOwnq, eTakeq, eReftakeq, eSameitem, eDoneq, eRefdoneq, eBackq, eRefbackq, eLateq, eReflateq, ePurgeq, eRefpurgeq]) (E := eReflateq) (i := 14) rfl (by decide) ((q, now)) (hq)
  have g16 := tabG_use (T := [eRefwrong, eRightq, ePutq, eRefputq, eSameq, eOwnq, eTakeq, eReftakeq, eSameitem, eDoneq, eRefdoneq, eBackq, eRefbackq, eLateq, eReflateq, ePurgeq, eRefpurgeq]) (E := ePurgeq) (i := 15) rfl (by decide) (q) (hq)
  have g17 := tabG_use (T := [eRefwrong, eRightq, ePutq, eRefputq, eSameq, eOwnq, eTakeq, eReftakeq, eSameitem, eDoneq, eRefdoneq, eBackq, eRefbackq, eLateq, eReflateq, ePurgeq, eRefpurgeq]) (E := eRefpurgeq) (i := 16) rfl (by decide) (q) (hq)
  generalize tabG [eRefwrong, eRightq, ePutq, eRefputq, eSameq, eOwnq, eTakeq, eReftakeq, eSameitem, eDoneq, eRefdoneq, eBackq, eRefbackq, eLateq, eReflateq, ePurgeq, eRefpurgeq] = G at *
  dsimp only [eRefwrong] at g1
  dsimp only [eRightq] at g2
  dsimp only [ePutq] at g3
  dsimp only [eRefputq] at g4
  dsimp only [eSameq] at g5
  dsimp only [eOwnq] at g6
  dsimp only [eTakeq] at g7
  dsimp only [eReftakeq] at g8
  dsimp only [eSameitem] at g9
  dsimp only [eDoneq] at g10
  dsimp only [eRefdoneq] at g11
  dsimp only [eBackq] at g12
  dsimp only [eRefbackq] at g13
  dsimp only [eLateq] at g14
  dsimp only [eReflateq] at g15
  dsimp only [ePurgeq] at g16
  dsimp only [eRefpurgeq] at g17
  simp only [noteA] at g1 g3 g4
  have hl := hq.1
  by_cases hgood : (0 ≤ now ∧ now ≤ 1000000) ∧ wrongS n = 0 ∧ hallOk ⟨[q], 1000000⟩
  · obtain ⟨hnow, hwn, hho⟩ := hgood
    obtain ⟨_, hqo, h8, _⟩ := hallOk_queue hho (k := 0) (by simp)
    simp only [List.getD_cons_zero] at hqo h8
    rw [hwn] at g1
    rw [decide_eq_true hho] at g2
    have g7 := g7 hqo (by omega)
    have g8 := g8 hqo (by omega)
    have g12 := g12 hqo
    have g13 := g13 hqo
    have s1 := g5 _ (fits_put (id := id) hq (by omega) hn)
    have s2 := g5 _ hq
    have s3 := g5 _ (fits_take (now := now) hq).1
    have s4 := g9 _ (fits_take (now := now) hq).2
    have s5 := g5 _ (fits_done (id := id) (turn := turn) hq)
    have s6 := g5 _ (fits_back (id := id) (turn := turn) hq).1
    have s7 := g9 _ (fits_back (id := id) (turn := turn) hq).2
    have s8 := g9 _ (fits_late (now := now) hq)
    have s9 := g5 _ (fits_purge hq)
    clear g5 g9 hho
    generalize putS q id n = rp at *
    generalize takeS q now = rt at *
    generalize doneS q id turn = rd at *
    generalize backS q id turn = rb at *
    generalize lateS q now = rl at *
    have hgu : (purgeS q).2.length ≤ 8 := Nat.le_trans (gone_len q.items) h8
    generalize purgeS q = ru at *
    obtain ⟨⟨p1, p2, p3⟩, p4⟩ := rp
    obtain ⟨⟨t1, t2, t3⟩, ⟨t4, t5, t6, t7, t8, ⟨t9, t10⟩⟩, t11⟩ := rt
    obtain ⟨⟨d1, d2, d3⟩, d4⟩ := rd
    obtain ⟨⟨b1, b2, b3⟩, ⟨b4, b5, b6, b7, b8, ⟨b9, b10⟩⟩, b11, b12⟩ := rb
    obtain ⟨⟨l4, l5, l6, l7, l8, ⟨l9, l10⟩⟩, l11⟩ := rl
    obtain ⟨⟨u1, u2, u3⟩, u4⟩ := ru
    obtain ⟨q1, q2, q3⟩ := q
    obtain ⟨n1, n2⟩ := n
    simp only [hallA, queueA, itemA, itemRow, queueRow, List.map_cons, List.map_nil] at g2 g3 g4 g6 g7 g8 g10 g11 g12 g13 g14 g15 g16 g17 s1 s2 s3 s4 s5 s6 s7 s8 s9 hgu
    refine con_of (G := G) (rs := [(10, none)]) mixed tok hok Try.func8 rfl (by decide) Try.results8 (by decide) rfl Try.ntmps8 (by simp) (by simp [queueA, noteA, namess, names]) fun X hP hD hG' hX => evC_sound hX (fun _ => {}) _ _ _ ?_
    simp only [argS, num, queueA, noteA]
    have hd1 : decide (now < 0) = false := by simp; omega
    have hd2 : decide (now > 1000000) = false := by simp; omega
    generalize q1.data.toList = q1 at *
    simp (disch := omega) only [go_sem, Nat.reduceLeDiff, reduceCtorEq, Nat.reduceAdd, Nat.reduceSub, Nat.reduceMul, Nat.reduceLT, Nat.reduceEqDiff, Int.reduceEq, Int.reduceLE, Int.reduceLT, Int.reducePow, Int.reduceMul, Int.reduceToNat, Int.reduceNeg, ↓reduceIte, hD, hG', wrap64, g1, g2, hd1, hd2, unbox, tmv, Option.some.injEq, exists_eq_left']
    refine RegT.mk [] ?_
    simp (disch := omega) only [go_sem, Nat.reduceLeDiff, reduceCtorEq, Nat.reduceAdd, Nat.reduceSub, Nat.reduceMul, Nat.reduceLT, Nat.reduceEqDiff, Int.reduceEq, Int.reduceLE, Int.reduceLT, Int.reducePow, Int.reduceMul, Int.reduceToNat, Int.reduceNeg, ↓reduceIte, hD, hG', wrap64, g1, g2, g3, g4, g6, g7, g8, g10, g11, g12, g13, g14, g15, g16, g17, s1, s2, s3, s4, s5, s6, s7, s8, s9, hd1, hd2, unbox, tmv, Option.some.injEq, exists_eq_left']
    iterate 9 (try (first | refine RegT.mk [] ?_ | refine RegA.mk [] (by decide) ?_); try simp (disch := omega) only [go_sem, Nat.reduceLeDiff, reduceCtorEq, Nat.reduceAdd, Nat.reduceSub, Nat.reduceMul, Nat.reduceLT, Nat.reduceEqDiff, Int.reduceEq, Int.reduceLE, Int.reduceLT, Int.reducePow, Int.reduceMul, Int.reduceToNat, Int.reduceNeg, ↓reduceIte, hD, hG', wrap64, g3, g4, g6, g7, g8, g10, g11, g12, g13, g14, g15, g16, g17, s1, s2, s3, s4, s5, s6, s7, s8, s9, unbox, tmv, Option.some.injEq, exists_eq_left'])
    refine Tr.loop (ι := Nat) (fun i => i ≤ u4.length) (fun i => { nt := 217, tm := [(19, .sl 1 (u4.map intRow)), (20, .sl 1 (u4.map intRow)), (203, .int .i64 u4.length), (204, .int .i64 i)], bl := [] }) (fun i => u4.length - i) 0
      ⟨Nat.zero_le _, wk_of hD [] rfl rfl (by simp only [go_sem, Nat.reduceEqDiff]; simp) (by simp only [go_sem, Nat.reduceEqDiff])⟩ ?_
    intro i hi
    refine evC_sound hX (fun _ => {}) _ _ _ ?_
    simp (disch := omega) only [go_sem, Nat.reduceLeDiff, reduceCtorEq, Nat.reduceAdd, Nat.reduceSub, Nat.reduceMul, Nat.reduceLT, Nat.reduceEqDiff, Int.reduceEq, Int.reduceLE, Int.reduceLT, Int.reducePow, Int.reduceMul, Int.reduceToNat, Int.reduceNeg, ↓reduceIte, hD, hG', wrap64, unbox, tmv, Option.some.injEq, exists_eq_left']
    refine condK_split (fun h => ?_) (fun h => ?_)
    · rw [decide_eq_true_eq] at h
      have hi1 : i < u4.length := by omega
      have hgx := intGet hi1
      simp (disch := omega) only [go_sem, Nat.reduceLeDiff, reduceCtorEq, Nat.reduceAdd, Nat.reduceSub, Nat.reduceMul, Nat.reduceLT, Nat.reduceEqDiff, Int.reduceEq, Int.reduceLE, Int.reduceLT, Int.reducePow, Int.reduceMul, Int.reduceToNat, Int.reduceNeg, ↓reduceIte, hD, hG', wrap64, hgx, unbox, tmv, Option.some.injEq, exists_eq_left']
      refine ⟨by decide, by omega, by omega, i + 1, ⟨by omega, by omega⟩, wk_of hD [] rfl rfl ?_ ?_⟩ <;> simp only [go_sem, Nat.reduceEqDiff]
      simp
    · simp (disch := omega) only [go_sem, Nat.reduceLeDiff, reduceCtorEq, Nat.reduceAdd, Nat.reduceSub, Nat.reduceMul, Nat.reduceLT, Nat.reduceEqDiff, Int.reduceEq, Int.reduceLE, Int.reduceLT, Int.reducePow, Int.reduceMul, Int.reduceToNat, Int.reduceNeg, ↓reduceIte, hD, hG', wrap64, unbox, tmv, Option.some.injEq, exists_eq_left']
      refine ⟨[], [], rfl, rfl, ?_, ?_⟩ <;> simp only [go_sem, Nat.reduceEqDiff]
  · clear g3 g4 g5 g6 g7 g8 g9 g10 g11 g12 g13 g14 g15 g16 g17
    generalize hwn : wrongS n = wn at *
    by_cases hho : hallOk ⟨[q], 1000000⟩
    · rw [decide_eq_true hho] at g2
      have hbad : ¬ ((0 ≤ now ∧ now ≤ 1000000) ∧ wn = 0) := fun h => hgood ⟨h.1, h.2, hho⟩
      clear hgood hho
      obtain ⟨q1, q2, q3⟩ := q
      obtain ⟨n1, n2⟩ := n
      simp only [hallA, queueA, itemA, itemRow, queueRow, List.map_cons, List.map_nil] at g1 g2
      refine con_of (G := G) (rs := [(10, none)]) mixed tok hok Try.func8 rfl (by decide) Try.results8 (by decide) rfl Try.ntmps8 (by simp) (by simp [queueA, noteA, namess, names]) fun X hP hD hG' hX => evC_sound hX (fun _ => {}) _ _ _ ?_
      simp only [argS, num, queueA, noteA]
      generalize q1.data.toList = q1 at *
      simp (disch := omega) only [go_sem, Nat.reduceLeDiff, reduceCtorEq, Nat.reduceAdd, Nat.reduceSub, Nat.reduceMul, Nat.reduceLT, Nat.reduceEqDiff, Int.reduceEq, Int.reduceLE, Int.reduceLT, Int.reducePow, Int.reduceMul, Int.reduceToNat, Int.reduceNeg, ↓reduceIte, hD, hG', wrap64, unbox, tmv, Option.some.injEq, exists_eq_left']
      refine RegT.mk [] ?_
      simp (disch := omega) only [go_sem, Nat.reduceLeDiff, reduceCtorEq, Nat.reduceAdd, Nat.reduceSub, Nat.reduceMul, Nat.reduceLT, Nat.reduceEqDiff, Int.reduceEq, Int.reduceLE, Int.reduceLT, Int.reducePow, Int.reduceMul, Int.reduceToNat, Int.reduceNeg, ↓reduceIte, hD, hG', wrap64, g1, g2, unbox, tmv, Option.some.injEq, exists_eq_left']
      and_intros
      all_goals (try (first | (intro hk; refine ⟨hk, fun h2 => ?_⟩; first | (rw [hk, h2]; rfl) | (rw [hk, decide_eq_false h2]; rfl)) | (intro hk; rw [decide_eq_false hk]; rfl) | (intro hk; rw [hk]; rfl)))
      refine condK_split (fun h => ?_) (fun h => ?_)
      · simp (disch := omega) only [go_sem, Nat.reduceLeDiff, reduceCtorEq, Nat.reduceAdd, Nat.reduceSub, Nat.reduceMul, Nat.reduceLT, Nat.reduceEqDiff, Int.reduceEq, Int.reduceLE, Int.reduceLT, Int.reducePow, Int.reduceMul, Int.reduceToNat, Int.reduceNeg, ↓reduceIte, hD, hG', wrap64, unbox, tmv, Option.some.injEq, exists_eq_left']
        refine ⟨[], [], rfl, rfl, ?_, ?_⟩ <;> simp only [go_sem, Nat.reduceEqDiff]
      · exfalso
        clear g1 g2
        simp at h
        omega
    · rw [decide_eq_false hho] at g2
      clear hgood hho
      obtain ⟨q1, q2, q3⟩ := q
      obtain ⟨n1, n2⟩ := n
      simp only [hallA, queueA, itemA, itemRow, queueRow, List.map_cons, List.map_nil] at g1 g2
      refine con_of (G := G) (rs := [(10, none)]) mixed tok hok Try.func8 rfl (by decide) Try.results8 (by decide) rfl Try.ntmps8 (by simp) (by simp [queueA, noteA, namess, names]) fun X hP hD hG' hX => evC_sound hX (fun _ => {}) _ _ _ ?_
      simp only [argS, num, queueA, noteA]
      generalize q1.data.toList = q1 at *
      simp (disch := omega) only [go_sem, Nat.reduceLeDiff, reduceCtorEq, Nat.reduceAdd, Nat.reduceSub, Nat.reduceMul, Nat.reduceLT, Nat.reduceEqDiff, Int.reduceEq, Int.reduceLE, Int.reduceLT, Int.reducePow, Int.reduceMul, Int.reduceToNat, Int.reduceNeg, ↓reduceIte, hD, hG', wrap64, unbox, tmv, Option.some.injEq, exists_eq_left']
      refine RegT.mk [] ?_
      simp (disch := omega) only [go_sem, Nat.reduceLeDiff, reduceCtorEq, Nat.reduceAdd, Nat.reduceSub, Nat.reduceMul, Nat.reduceLT, Nat.reduceEqDiff, Int.reduceEq, Int.reduceLE, Int.reduceLT, Int.reducePow, Int.reduceMul, Int.reduceToNat, Int.reduceNeg, ↓reduceIte, hD, hG', wrap64, g1, g2, unbox, tmv, Option.some.injEq, exists_eq_left']
      and_intros
      all_goals (try (first | (intro hk; refine ⟨hk, fun h2 => ?_⟩; first | (rw [hk, h2]; rfl) | (rw [hk, decide_eq_false h2]; rfl)) | (intro hk; rw [decide_eq_false hk]; rfl) | (intro hk; rw [hk]; rfl)))
      refine ⟨[], [], rfl, rfl, ?_, ?_⟩ <;> simp only [go_sem, Nat.reduceEqDiff]
end Go.Proofs.Ytcgdjdlcecnanaa.Ab
namespace Go.Proofs.Ytcgdjdlcecnanaa.Ab
open Go Go.RowKit
set_option linter.unusedVariables false
set_option linter.unusedSimpArgs false

section
variable {P : Program} {D : Nat → TI}
open Classical in
/-- a table of contracts for known arguments -/
noncomputable def listG : List (Nat × List AV × Res) → Ctr
  | [], _, _ => none
  | (f', a', r) :: t, f, a => if f = f' ∧ a = a' then some r else listG t f a
def LOk (P : Program) (D : Nat → TI) : List (Nat × List AV × Res) → Prop
  | [] => True
  | (f, a, r) :: t => Con P D f a r ∧ LOk P D t
theorem listG_ok : ∀ {l : List (Nat × List AV × Res)}, LOk P D l → GOk P D (listG l)
  | [], _, f, args, r, h => by simp [listG] at h
  | (f', a', r') :: t, hl, f, args, r, h => by
    rw [listG] at h
    split at h
    · rename_i e
      cases h
      rw [e.1, e.2]
      exact hl.1
    · exact listG_ok hl.2 f args r h
theorem listG_hit {f : Nat} {a : List AV} {r : Res} {t : List (Nat × List AV × Res)} : listG ((f, a, r) :: t) f a = some r := by
  rw [listG, if_pos ⟨rfl, rfl⟩]
theorem listG_skip {f f' : Nat} {a a' : List AV} {r' : Res} {t : List (Nat × List AV × Res)} (h : f = f' → a ≠ a') : listG ((f', a', r') :: t) f a = listG t f a := by
  rw [listG, if_neg fun e => h e.1 e.2]
end
def noteX : LNote := ⟨[], [120]⟩
def qA (n : Int) (l : List LItem) : LQueue := ⟨⟨#[97]⟩, n, l⟩
set_option maxRecDepth 100000 in
set_option maxHeartbeats 1000000 in
theorem con_alive3 : Con Try.prog D 57 [] ⟨.bool true, []⟩ := by
  have fX : noteX.Fits := by simp [noteX, LNote.Fits]
  have fI : ∀ n l, (∀ i ∈ l, i.note = noteX) → l.length ≤ 8 → (qA n l).Fits := fun n l h1 h2 => ⟨by simp only [qA]; omega, fun i hi => by rw [h1 i hi]; exact fX⟩
  have c1 : Con Try.prog D 42 [.agg [.str [97], .int .i64 1, .nils], .int .i64 5, .agg [.nils, .sl 1 [[.int .u8 120]]]] ⟨.tup [queueA (qA 1 [⟨5, 0, 0, false, 0, noteX⟩]), .int .i64 0], []⟩ :=
    (con_putq (qA 1 []) 5 noteX (fI _ _ (by simp) (by simp)) fX).weak (by simp [covs, cov, queueA, noteA, qA, noteX, byteRow])
  have c2 : Con Try.prog D 42 [queueA (qA 1 [⟨5, 0, 0, false, 0, noteX⟩]), .int .i64 6, .agg [.nils, .nils]] ⟨.tup [queueA queue0, .int .i64 8], []⟩ :=
    (con_putq (qA 1 [⟨5, 0, 0, false, 0, noteX⟩]) 6 note0 (fI _ _ (by simp) (by simp)) fits_zero).weak (by simp [covs, cov, queueA, noteA, note0])
  have c3 : Con Try.prog D 46 [queueA (qA 1 [⟨5, 0, 0, false, 0, noteX⟩]), .int .i64 3] ⟨.tup [queueA (qA 1 [⟨5, 1, 0, true, 8, noteX⟩]), itemA ⟨5, 1, 0, true, 8, noteX⟩, .int .i64 0], []⟩ :=
    con_takeq (qA 1 [⟨5, 0, 0, false, 0, noteX⟩]) 3 ⟨fI _ _ (by simp) (by simp), by simp [qA]⟩ (by decide)
  have c4 : Con Try.prog D 51 [queueA (qA 1 [⟨5, 1, 0, true, 8, noteX⟩]), .int .i64 5, .int .i64 1] ⟨.tup [queueA (qA 1 [⟨5, 1, 1, false, 0, noteX⟩]), itemA item0, .bool false, .int .i64 0], []⟩ :=
    con_backq (qA 1 [⟨5, 1, 0, true, 8, noteX⟩]) 5 1 ⟨fI _ _ (by simp) (by simp), by simp [qA]⟩
  have c5 : Con Try.prog D 49 [queueA (qA 1 [⟨5, 1, 0, true, 8, noteX⟩]), .int .i64 5, .int .i64 1] ⟨.tup [queueA (qA 1 []), .int .i64 0], []⟩ :=
    con_doneq (qA 1 [⟨5, 1, 0, true, 8, noteX⟩]) 5 1 (fI _ _ (by simp) (by simp))
  have c6 : Con Try.prog D 53 [queueA (qA 1 [⟨5, 1, 0, true, 8, noteX⟩]), .int .i64 8] ⟨.tup [itemA ⟨5, 1, 0, true, 8, noteX⟩, .bool true], []⟩ :=
    con_lateq (qA 1 [⟨5, 1, 0, true, 8, noteX⟩]) 8 (fI _ _ (by simp) (by simp))
  have c7 : Con Try.prog D 55 [queueA (qA 1 [⟨5, 0, 0, false, 0, noteX⟩])] ⟨.tup [queueA (qA 1 []), .sl 1 [[.int .i64 5]]], []⟩ :=
    con_purgeq (qA 1 [⟨5, 0, 0, false, 0, noteX⟩]) (fI _ _ (by simp) (by simp))
  have c8 := con_ownq (qA 1 [⟨5, 0, 0, false, 0, noteX⟩]) (fI _ _ (by simp) (by simp))
  simp only [queueA, itemA, itemRow, qA, queue0, item0, note0, noteX, List.map_cons, List.map_nil, byteRow_eq] at c1 c2 c3 c4 c5 c6 c7 c8
  have hok := listG_ok (l := [(_, _, _), (_, _, _), (_, _, _), (_, _, _), (_, _, _), (_, _, _), (_, _, _), (_, _, _)]) ⟨c1, c2, c3, c4, c5, c6, c7, c8, trivial⟩
  clear c1 c2 c3 c4 c5 c6 c7 c8
  generalize hG0 : listG _ = G at hok
  have hG : ∀ f a, G f a = listG _ f a := fun f a => by rw [← hG0]
  clear hG0
  refine con_of (G := G) (rs := [(0, none)]) mixed tok hok Try.func57 rfl (by decide) Try.results57 (by decide) rfl Try.ntmps57 (by simp) (by simp [namess, names]) fun X hP hD hG' hX => evC_sound hX (fun _ => {}) _ _ _ ?_
  simp only [argS, num]
  simp (disch := omega) only [go_sem, Nat.reduceLeDiff, reduceCtorEq, Nat.reduceAdd, Nat.reduceSub, Nat.reduceMul, Nat.reduceLT, Nat.reduceEqDiff, Int.reduceEq, Int.reduceLE, Int.reduceLT, Int.reducePow, Int.reduceMul, Int.reduceToNat, Int.reduceNeg, ↓reduceIte, hD, hG', wrap64, hG, listG, AV.agg.injEq, List.cons.injEq, AV.int.injEq, AV.str.injEq, AV.sl.injEq, AV.bool.injEq, unbox, tmv, Option.some.injEq, exists_eq_left']
  refine ⟨by simp, ?_⟩
  simp (disch := omega) only [go_sem, Nat.reduceLeDiff, reduceCtorEq, Nat.reduceAdd, Nat.reduceSub, Nat.reduceMul, Nat.reduceLT, Nat.reduceEqDiff, Int.reduceEq, Int.reduceLE, Int.reduceLT, Int.reducePow, Int.reduceMul, Int.reduceToNat, Int.reduceNeg, ↓reduceIte, hD, hG', wrap64, List.append_eq, unbox, tmv, Option.some.injEq, exists_eq_left']
  have n0 : ((0 : Nat) : Int) = 0 := rfl
  have n1 : ((1 : Nat) : Int) = 1 := rfl
  refine RegT.mk [] ?_
  simp (disch := omega) only [go_sem, Nat.reduceLeDiff, reduceCtorEq, Nat.reduceAdd, Nat.reduceSub, Nat.reduceMul, Nat.reduceLT, Nat.reduceEqDiff, Int.reduceEq, Int.reduceLE, Int.reduceLT, Int.reducePow, Int.reduceMul, Int.reduceToNat, Int.reduceNeg, ↓reduceIte, hD, hG', wrap64, List.append_eq, hG, listG, AV.agg.injEq, List.cons.injEq, AV.int.injEq, AV.str.injEq, AV.sl.injEq, AV.bool.injEq, n0, n1, unbox, tmv, Option.some.injEq, exists_eq_left']
  refine ⟨[], [], rfl, rfl, ?_, ?_⟩ <;> simp only [go_sem, Nat.reduceEqDiff]
def eAlive3 : Ent Try.prog D := ⟨57, Unit, fun _ => [], fun _ => True, fun _ => ⟨.bool true, []⟩, fun x y _ _ h => rfl, fun _ _ => con_alive3⟩
/-! first in, first out -/
def bnote (k : Nat) : LNote := ⟨[], [UInt8.ofNat k]⟩
def freshI (k : Nat) : LItem := ⟨k, 0, 0, false, 0, bnote k⟩
def takenI (k : Nat) : LItem := ⟨k, 1, 0, true, 5, bnote k⟩
def putsL (m : Nat) : List LItem := (List.range m).map freshI
def tookL (m i : Nat) : List LItem := (List.range m).map fun k => if k < i then takenI k else freshI k
def backL (m b : Nat) : List LItem := (tookL m m).set b ⟨b, 1, 1, false, 0, bnote b⟩
def againI (b : Nat) : LItem := ⟨b, 2, 1, true, 5, bnote b⟩
theorem put_step : ∀ i, i < 8 → putS (qA 8 (putsL i)) i (bnote i) = (qA 8 (putsL (i + 1)), 0) := by decide
theorem put_all : ∀ m, m ≤ 8 → putsL m = tookL m 0 := by decide
theorem take_step : ∀ m, m ≤ 8 → ∀ i, i < m → takeS (qA 8 (tookL m i)) 0 = (qA 8 (tookL m (i + 1)), takenI i, 0) := by decide
theorem take_none : ∀ m, m ≤ 8 → takeS (qA 8 (tookL m m)) 0 = (queue0, item0, 6) := by decide
theorem back_step : ∀ m, m ≤ 8 → ∀ b : Nat, b < m → backS (qA 8 (tookL m m)) b 1 = (qA 8 (backL m b), item0, false, 0) := by decide
theorem back_take : ∀ m, m ≤ 8 → ∀ b, b < m → takeS (qA 8 (backL m b)) 0 = (qA 8 ((backL m b).set b (againI b)), againI b, 0) := by decide
def ePutk : Ent Try.prog D := ⟨42, Nat, fun i => [queueA (qA 8 (putsL i)), .int .i64 (i : Int), .agg [.nils, .sl 1 [[.int .u8 (i : Int)]]]], fun i => i < 8, fun i => ⟨.tup [queueA (qA 8 (putsL (i + 1))), .int .i64 0], []⟩, fun x y _ _ h => by
  simp only [List.cons.injEq, AV.int.injEq, and_true, true_and] at h
  rw [show x = y by omega], fun i h => by
  have fb : ∀ i, (bnote i).Fits := fun i => by simp [bnote, LNote.Fits]
  have fI : (qA 8 (putsL i)).Fits := ⟨by simp [qA, putsL]; omega, fun x hx => by
    simp only [qA, putsL, List.mem_map] at hx
    obtain ⟨k, _, rfl⟩ := hx
    exact fb k⟩
  have := con_putq (qA 8 (putsL i)) i (bnote i) fI (fb i)
  rw [put_step i h] at this
  refine this.weak ?_
  have hb : (i : Int) = ((UInt8.ofNat i).toNat : Int) := by rw [UInt8.toNat_ofNat']; omega
  simp [covs, cov, queueA, noteA, bnote, byteRow]
  omega⟩
def bad8 (l : List LItem) : Prop := l.length ≤ 8 ∧ ∀ i ∈ l, i.note.Fits ∧ (0 ≤ i.turn ∧ i.turn ≤ 2) ∧ 0 ≤ i.tries ∧ i.tries ≤ 1
theorem ok_bad8 {l : List LItem} (h : bad8 l) : (qA 8 l).Ok := ⟨⟨by have := h.1; simp only [qA]; omega, fun i hi => (h.2 i hi).1⟩, fun i hi => by have := h.2 i hi; omega⟩
theorem bad_took (m i : Nat) (hm : m ≤ 8) : bad8 (tookL m i) := by
  refine ⟨by simp [tookL, hm], fun x hx => ?_⟩
  simp only [tookL, List.mem_map] at hx
  obtain ⟨k, _, rfl⟩ := hx
  split <;> refine ⟨by simp [takenI, freshI, bnote, LNote.Fits], by simp [takenI, freshI], by simp [takenI, freshI]⟩
theorem bad_back (m b : Nat) (hm : m ≤ 8) : bad8 (backL m b) := by
  have h := bad_took m m hm
  refine ⟨by simpa [backL] using h.1, fun x hx => ?_⟩
  rcases List.mem_or_eq_of_mem_set hx with hx | rfl
  · exact h.2 x hx
  · simp [bnote, LNote.Fits]
theorem wrapU8 {i : Nat} (h : i < 256) : IntKind.wrap .u8 (i : Int) = i := by
  simp [IntKind.wrap, IntKind.bits, IntKind.signed]
  omega
set_option maxRecDepth 100000 in
set_option maxHeartbeats 2000000 in
theorem con_queuefirst (n back : Int) : Con Try.prog D 9 [.int .i64 n, .int .i64 back] ⟨.bool true, []⟩ := by
  have hok : GOk Try.prog D (tabG [eAlive3, ePutk, eTakeq, eBackq]) := tabG_ok _
  have g0 := tabG_use (T := [eAlive3, ePutk, eTakeq, eBackq]) (E := eAlive3) (i := 0) rfl (by decide) (()) (trivial)
  have g1 := fun (i : Nat) (h : i < 8) => tabG_use (T := [eAlive3, ePutk, eTakeq, eBackq]) (E := ePutk) (i := 1) rfl (by decide) (i) (h)
  have g2 := fun (m i : Nat) (hm : m ≤ 8) => tabG_use (T := [eAlive3, ePutk, eTakeq, eBackq]) (E := eTakeq) (i := 2) rfl (by decide) ((qA 8 (tookL m i), 0)) (⟨ok_bad8 (bad_took m i hm), show (-1000000 : Int) ≤ 0 ∧ (0 : Int) ≤ 1000000 by decide⟩)
  have g3 := fun (m : Nat) (b : Nat) (hm : m ≤ 8) => tabG_use (T := [eAlive3, ePutk, eTakeq, eBackq]) (E := eBackq) (i := 3) rfl (by decide) ((qA 8 (tookL m m), (b : Int), 1)) (ok_bad8 (bad_took m m hm))
  have g4 := fun (m b : Nat) (hm : m ≤ 8) => tabG_use (T := [eAlive3, ePutk, eTakeq, eBackq]) (E := eTakeq) (i := 2) rfl (by decide) ((qA 8 (backL m b), 0)) (⟨ok_bad8 (bad_back m b hm), show (-1000000 : Int) ≤ 0 ∧ (0 : Int) ≤ 1000000 by decide⟩)
  generalize tabG [eAlive3, ePutk, eTakeq, eBackq] = G at *
  dsimp only [eAlive3] at g0
  dsimp only [ePutk] at g1
  dsimp only [eTakeq] at g2
  dsimp only [eBackq] at g3
  dsimp only [eTakeq] at g4
  by_cases hn : 0 ≤ n ∧ n ≤ 8
  · obtain ⟨m, rfl⟩ := Int.eq_ofNat_of_zero_le hn.1
    have hm : m ≤ 8 := by omega
    have g2 := fun i => g2 m i hm
    have g3 := fun b => g3 m b hm
    have g4 := fun b => g4 m b hm
    have gt : ∀ i, i < m → _ := fun i hi => (g2 i).trans (by rw [take_step m hm i hi])
    have gz := (g2 m).trans (by rw [take_none m hm])
    have gb : ∀ b, b < m → _ := fun b hb => (g3 b).trans (by rw [back_step m hm b hb])
    have ga : ∀ b, b < m → _ := fun b hb => (g4 b).trans (by rw [back_take m hm b hb])
    clear g2 g3 g4
    have hall := put_all m hm
    simp only [queueA, qA, itemA, itemRow, takenI, againI, item0, note0, queue0, bnote, List.map_cons, List.map_nil] at g1 gt gz gb ga
    refine con_of (G := G) (rs := [(4, none)]) mixed tok hok Try.func9 rfl (by decide) Try.results9 (by decide) rfl Try.ntmps9 (by simp) (by simp [namess, names]) fun X hP hD hG' hX => evC_sound hX (fun _ => {}) _ _ _ ?_
    simp only [argS, num]
    have hd1 : decide ((m : Int) < 0) = false := by simp
    have hd2 : decide ((m : Int) > 8) = false := by simp; omega
    simp (disch := omega) only [go_sem, Nat.reduceLeDiff, reduceCtorEq, Nat.reduceAdd, Nat.reduceSub, Nat.reduceMul, Nat.reduceLT, Nat.reduceEqDiff, Int.reduceEq, Int.reduceLE, Int.reduceLT, Int.reducePow, Int.reduceMul, Int.reduceToNat, Int.reduceNeg, ↓reduceIte, hD, hG', wrap64, g0, hd1, hd2, unbox, tmv, Option.some.injEq, exists_eq_left']
    refine RegT.mk [] ?_
    simp (disch := omega) only [go_sem, Nat.reduceLeDiff, reduceCtorEq, Nat.reduceAdd, Nat.reduceSub, Nat.reduceMul, Nat.reduceLT, Nat.reduceEqDiff, Int.reduceEq, Int.reduceLE, Int.reduceLT, Int.reducePow, Int.reduceMul, Int.reduceToNat, Int.reduceNeg, ↓reduceIte, hD, hG', wrap64, hd1, hd2, unbox, tmv, Option.some.injEq, exists_eq_left']
    refine Tr.loop (ι := Nat) (fun i => i ≤ m) (fun i => { nt := 137, tm := [(0, .int .i64 m), (1, .int .i64 back), (5, .ptr 5 0), (30, .int .i64 m), (31, .int .i64 i)], bl := [(5, some (.cells [.str [97], .int .i64 8, .sl 7 ((putsL i).map itemRow)]))] }) (fun i => m - i) 0
      ⟨Nat.zero_le _, wk_of hD [(5, 5)] rfl rfl (by simp only [go_sem, Nat.reduceEqDiff]; simp) (by simp only [go_sem, Nat.reduceEqDiff, D_3, D_4, D_5, D_9, D_22, D_30, D_40, D_42, D_52, D_54, D_64, D_73, D_99]; simp [putsL])⟩ ?_
    intro i hi
    refine evC_sound hX (fun _ => {}) _ _ _ ?_
    simp (disch := omega) only [go_sem, Nat.reduceLeDiff, reduceCtorEq, Nat.reduceAdd, Nat.reduceSub, Nat.reduceMul, Nat.reduceLT, Nat.reduceEqDiff, Int.reduceEq, Int.reduceLE, Int.reduceLT, Int.reducePow, Int.reduceMul, Int.reduceToNat, Int.reduceNeg, ↓reduceIte, hD, hG', wrap64, unbox, tmv, Option.some.injEq, exists_eq_left']
    refine condK_split (fun h => ?_) (fun h => ?_)
    · rw [decide_eq_true_eq] at h
      have g1 := g1 i (by omega)
      have hw : IntKind.wrap .u8 (i : Int) = i := wrapU8 (by omega)
      simp (disch := omega) only [go_sem, Nat.reduceLeDiff, reduceCtorEq, Nat.reduceAdd, Nat.reduceSub, Nat.reduceMul, Nat.reduceLT, Nat.reduceEqDiff, Int.reduceEq, Int.reduceLE, Int.reduceLT, Int.reducePow, Int.reduceMul, Int.reduceToNat, Int.reduceNeg, ↓reduceIte, hD, hG', wrap64, hw, g1, unbox, tmv, Option.some.injEq, exists_eq_left']
      refine ⟨i + 1, ⟨by omega, by omega⟩, wk_of hD [(5, 5)] rfl rfl ?_ ?_⟩ <;> simp only [go_sem, Nat.reduceEqDiff]
      simp
    · rw [decide_eq_false_iff_not] at h
      have hie : i = m := by omega
      subst hie
      rw [hall]
      simp (disch := omega) only [go_sem, Nat.reduceLeDiff, reduceCtorEq, Nat.reduceAdd, Nat.reduceSub, Nat.reduceMul, Nat.reduceLT, Nat.reduceEqDiff, Int.reduceEq, Int.reduceLE, Int.reduceLT, Int.reducePow, Int.reduceMul, Int.reduceToNat, Int.reduceNeg, ↓reduceIte, hD, hG', wrap64, unbox, tmv, Option.some.injEq, exists_eq_left']
      refine Tr.loop (ι := Nat) (fun j => j ≤ i) (fun j => { nt := 137, tm := [(0, .int .i64 i), (1, .int .i64 back), (5, .ptr 5 0), (48, .int .i64 i), (49, .int .i64 j)], bl := [(5, some (.cells [.str [97], .int .i64 8, .sl 7 ((tookL i j).map itemRow)]))] }) (fun j => i - j) 0
        ⟨Nat.zero_le _, wk_of hD [(5, 5)] rfl rfl (by simp only [go_sem, Nat.reduceEqDiff]; simp) (by simp only [go_sem, Nat.reduceEqDiff])⟩ ?_
      intro j hj
      refine evC_sound hX (fun _ => {}) _ _ _ ?_
      simp (disch := omega) only [go_sem, Nat.reduceLeDiff, reduceCtorEq, Nat.reduceAdd, Nat.reduceSub, Nat.reduceMul, Nat.reduceLT, Nat.reduceEqDiff, Int.reduceEq, Int.reduceLE, Int.reduceLT, Int.reducePow, Int.reduceMul, Int.reduceToNat, Int.reduceNeg, ↓reduceIte, hD, hG', wrap64, unbox, tmv, Option.some.injEq, exists_eq_left']
      refine condK_split (fun h => ?_) (fun h => ?_)
      · rw [decide_eq_true_eq] at h
        have gt := gt j (by omega)
        have hw : IntKind.wrap .u8 (j : Int) = j := wrapU8 (by omega)
        have hb : (((UInt8.ofNat j).toNat : Nat) : Int) = j := by rw [UInt8.toNat_ofNat']; omega
        simp only [byteRow, hb] at gt
        have n1 : ((1 : Nat) : Int) = 1 := rfl
        simp (disch := omega) only [go_sem, Nat.reduceLeDiff, reduceCtorEq, Nat.reduceAdd, Nat.reduceSub, Nat.reduceMul, Nat.reduceLT, Nat.reduceEqDiff, Int.reduceEq, Int.reduceLE, Int.reduceLT, Int.reducePow, Int.reduceMul, Int.reduceToNat, Int.reduceNeg, ↓reduceIte, hD, hG', wrap64, gt, unbox, tmv, Option.some.injEq, exists_eq_left']
        refine RegT.mk [] ?_
        simp (disch := omega) only [go_sem, Nat.reduceLeDiff, reduceCtorEq, Nat.reduceAdd, Nat.reduceSub, Nat.reduceMul, Nat.reduceLT, Nat.reduceEqDiff, Int.reduceEq, Int.reduceLE, Int.reduceLT, Int.reducePow, Int.reduceMul, Int.reduceToNat, Int.reduceNeg, ↓reduceIte, hD, hG', wrap64, hw, gt, n1, unbox, tmv, Option.some.injEq, exists_eq_left']
        refine ⟨j + 1, ⟨by omega, by omega⟩, wk_of hD [(5, 5)] rfl rfl ?_ ?_⟩ <;> simp only [go_sem, Nat.reduceEqDiff]
        simp
      · rw [decide_eq_false_iff_not] at h
        have hje : j = i := by omega
        subst hje
        by_cases hb : 0 ≤ back ∧ back < j
        · obtain ⟨b, rfl⟩ := Int.eq_ofNat_of_zero_le hb.1
          have gb := gb b (by omega)
          have ga := ga b (by omega)
          have hd3 : decide ((b : Int) < 0) = false := by simp
          have hd4 : decide ((b : Int) ≥ (j : Int)) = false := by simp; omega
          simp (disch := omega) only [go_sem, Nat.reduceLeDiff, reduceCtorEq, Nat.reduceAdd, Nat.reduceSub, Nat.reduceMul, Nat.reduceLT, Nat.reduceEqDiff, Int.reduceEq, Int.reduceLE, Int.reduceLT, Int.reducePow, Int.reduceMul, Int.reduceToNat, Int.reduceNeg, ↓reduceIte, hD, hG', wrap64, gz, unbox, tmv, Option.some.injEq, exists_eq_left']
          refine RegT.mk [] ?_
          simp (disch := omega) only [go_sem, Nat.reduceLeDiff, reduceCtorEq, Nat.reduceAdd, Nat.reduceSub, Nat.reduceMul, Nat.reduceLT, Nat.reduceEqDiff, Int.reduceEq, Int.reduceLE, Int.reduceLT, Int.reducePow, Int.reduceMul, Int.reduceToNat, Int.reduceNeg, ↓reduceIte, hD, hG', wrap64, hd3, hd4, unbox, tmv, Option.some.injEq, exists_eq_left']
          simp (disch := omega) only [go_sem, Nat.reduceLeDiff, reduceCtorEq, Nat.reduceAdd, Nat.reduceSub, Nat.reduceMul, Nat.reduceLT, Nat.reduceEqDiff, Int.reduceEq, Int.reduceLE, Int.reduceLT, Int.reducePow, Int.reduceMul, Int.reduceToNat, Int.reduceNeg, ↓reduceIte, hD, hG', wrap64, gb, unbox, tmv, Option.some.injEq, exists_eq_left']
          refine RegT.mk [] ?_
          simp (disch := omega) only [go_sem, Nat.reduceLeDiff, reduceCtorEq, Nat.reduceAdd, Nat.reduceSub, Nat.reduceMul, Nat.reduceLT, Nat.reduceEqDiff, Int.reduceEq, Int.reduceLE, Int.reduceLT, Int.reducePow, Int.reduceMul, Int.reduceToNat, Int.reduceNeg, ↓reduceIte, hD, hG', wrap64, ga, unbox, tmv, Option.some.injEq, exists_eq_left']
          refine RegT.mk [] ?_
          simp (disch := omega) only [go_sem, Nat.reduceLeDiff, reduceCtorEq, Nat.reduceAdd, Nat.reduceSub, Nat.reduceMul, Nat.reduceLT, Nat.reduceEqDiff, Int.reduceEq, Int.reduceLE, Int.reduceLT, Int.reducePow, Int.reduceMul, Int.reduceToNat, Int.reduceNeg, ↓reduceIte, hD, hG', wrap64, unbox, tmv, Option.some.injEq, exists_eq_left']
          refine ⟨[], [], rfl, rfl, ?_, ?_⟩ <;> simp only [go_sem, Nat.reduceEqDiff]
        · simp (disch := omega) only [go_sem, Nat.reduceLeDiff, reduceCtorEq, Nat.reduceAdd, Nat.reduceSub, Nat.reduceMul, Nat.reduceLT, Nat.reduceEqDiff, Int.reduceEq, Int.reduceLE, Int.reduceLT, Int.reducePow, Int.reduceMul, Int.reduceToNat, Int.reduceNeg, ↓reduceIte, hD, hG', wrap64, gz, unbox, tmv, Option.some.injEq, exists_eq_left']
          refine RegT.mk [] ?_
          simp (disch := omega) only [go_sem, Nat.reduceLeDiff, reduceCtorEq, Nat.reduceAdd, Nat.reduceSub, Nat.reduceMul, Nat.reduceLT, Nat.reduceEqDiff, Int.reduceEq, Int.reduceLE, Int.reduceLT, Int.reducePow, Int.reduceMul, Int.reduceToNat, Int.reduceNeg, ↓reduceIte, hD, hG', wrap64, unbox, tmv, Option.some.injEq, exists_eq_left']
          and_intros
          all_goals (try (first | (intro hk; refine ⟨hk, fun h2 => ?_⟩; first | (rw [hk, h2]; rfl) | (rw [hk, decide_eq_false h2]; rfl)) | (intro hk; rw [decide_eq_false hk]; rfl) | (intro hk; rw [hk]; rfl)))
          refine condK_split (fun h => ?_) (fun h => ?_)
          · simp (disch := omega) only [go_sem, Nat.reduceLeDiff, reduceCtorEq, Nat.reduceAdd, Nat.reduceSub, Nat.reduceMul, Nat.reduceLT, Nat.reduceEqDiff, Int.reduceEq, Int.reduceLE, Int.reduceLT, Int.reducePow, Int.reduceMul, Int.reduceToNat, Int.reduceNeg, ↓reduceIte, hD, hG', wrap64, unbox, tmv, Option.some.injEq, exists_eq_left']
            refine ⟨[], [], rfl, rfl, ?_, ?_⟩ <;> simp only [go_sem, Nat.reduceEqDiff]
          · exfalso
            clear gt gz gb ga g0 g1
            simp at h
            omega
  · refine con_of (G := G) (rs := [(4, none)]) mixed tok hok Try.func9 rfl (by decide) Try.results9 (by decide) rfl Try.ntmps9 (by simp) (by simp [namess, names]) fun X hP hD hG' hX => evC_sound hX (fun _ => {}) _ _ _ ?_
    simp only [argS, num]
    simp (disch := omega) only [go_sem, Nat.reduceLeDiff, reduceCtorEq, Nat.reduceAdd, Nat.reduceSub, Nat.reduceMul, Nat.reduceLT, Nat.reduceEqDiff, Int.reduceEq, Int.reduceLE, Int.reduceLT, Int.reducePow, Int.reduceMul, Int.reduceToNat, Int.reduceNeg, ↓reduceIte, hD, hG', wrap64, g0, unbox, tmv, Option.some.injEq, exists_eq_left']
    refine RegT.mk [] ?_
    simp (disch := omega) only [go_sem, Nat.reduceLeDiff, reduceCtorEq, Nat.reduceAdd, Nat.reduceSub, Nat.reduceMul, Nat.reduceLT, Nat.reduceEqDiff, Int.reduceEq, Int.reduceLE, Int.reduceLT, Int.reducePow, Int.reduceMul, Int.reduceToNat, Int.reduceNeg, ↓reduceIte, hD, hG', wrap64, unbox, tmv, Option.some.injEq, exists_eq_left']
    and_intros
    all_goals (try (first | (intro hk; refine ⟨hk, fun h2 => ?_⟩; first | (rw [hk, h2]; rfl) | (rw [hk, decide_eq_false h2]; rfl)) | (intro hk; rw [decide_eq_false hk]; rfl) | (intro hk; rw [hk]; rfl)))
    refine condK_split (fun h => ?_) (fun h => ?_)
    · simp (disch := omega) only [go_sem, Nat.reduceLeDiff, reduceCtorEq, Nat.reduceAdd, Nat.reduceSub, Nat.reduceMul, Nat.reduceLT, Nat.reduceEqDiff, Int.reduceEq, Int.reduceLE, Int.reduceLT, Int.reducePow, Int.reduceMul, Int.reduceToNat, Int.reduceNeg, ↓reduceIte, hD, hG', wrap64, unbox, tmv, Option.some.injEq, exists_eq_left']
      refine ⟨[], [], rfl, rfl, ?_, ?_⟩ <;> simp only [go_sem, Nat.reduceEqDiff]
    · exfalso
      clear g0 g1 g2 g3 g4
      simp at h
      omega
end Go.Proofs.Ytcgdjdlcecnanaa.Ab
namespace Go.Proofs.Ytcgdjdlcecnanaa.Ab
open Go Go.RowKit
set_option linter.unusedVariables false
set_option linter.unusedSimpArgs false

/-- ids that rise are unlike -/
theorem ids_rise {next : Int} {l : List LItem} (h : itemsOk next l) : ∀ j k, j < k → k < l.length → (l.getD j item0).id < (l.getD k item0).id := by
  have step : ∀ j, j + 1 < l.length → (l.getD j item0).id < (l.getD (j + 1) item0).id := fun j hj => by
    have := (badI_not (h (j + 1) hj)).1.1
    rwa [lastS_succ] at this
  intro j k
  induction k with
  | zero => intro hj; omega
  | succ k ih =>
    intro hj hk
    have h1 := step k hk
    by_cases e : j = k
    · subst e; exact h1
    · have := ih (by omega) (by omega)
      omega
theorem ids_unlike {next : Int} {l : List LItem} (h : itemsOk next l) {j k : Nat} (hj : j < l.length) (hk : k < l.length) (hne : j ≠ k) : (l.getD j item0).id ≠ (l.getD k item0).id := by
  rcases Nat.lt_or_gt_of_ne hne with h1 | h1
  · have := ids_rise h j k h1 hk; omega
  · have := ids_rise h k j h1 hj; omega
theorem get_set {l : List LItem} {k j : Nat} {x : LItem} (hk : k < l.length) : (l.set k x).getD j item0 = if j = k then x else l.getD j item0 := by
  by_cases h : j = k
  · subst h; rw [if_pos rfl]; exact set_get hk
  · rw [if_neg h]
    simp [List.getElem?_set, Ne.symm h]
theorem place_at {p : LItem → Bool} {l : List LItem} {k : Nat} (hk : k < l.length) (h1 : ∀ j, j < k → p (l.getD j item0) = false) (h2 : p (l.getD k item0) = true) : placeS p l 0 = (k : Int) := by
  rw [placeS_hit hk h1 h2]; omega
/-- the first place where it holds -/
theorem first_cases (p : LItem → Bool) : ∀ (l : List LItem), (∀ j, j < l.length → p (l.getD j item0) = false) ∨ ∃ k, k < l.length ∧ (∀ j, j < k → p (l.getD j item0) = false) ∧ p (l.getD k item0) = true
  | [] => .inl fun j hj => by simp at hj
  | a :: r => by
    by_cases ha : p a = true
    · exact .inr ⟨0, by simp, fun j hj => by omega, by simpa using ha⟩
    · rcases first_cases p r with h | ⟨k, h1, h2, h3⟩
      · refine .inl fun j hj => ?_
        cases j with
        | zero => simpa using ha
        | succ j => rw [List.getD_cons_succ]; exact h j (by simpa using hj)
      · refine .inr ⟨k + 1, by simpa using h1, fun j hj => ?_, by rw [List.getD_cons_succ]; exact h3⟩
        cases j with
        | zero => simpa using ha
        | succ j => rw [List.getD_cons_succ]; exact h2 j (by omega)
theorem isIt_id {id t : Int} {i : LItem} (h : i.id ≠ id) : isIt id t i = false := by simp [isIt, h]
/-- who takes, gives back, and is late -/
theorem turn_facts {q : LQueue} {now next : Int} (hi : itemsOk next q.items) : ((takeS q now) = (queue0, item0, 6)) ∨ ∃ x i y z j w, takeS q now = (x, i, 0) ∧
    ((backS x i.id i.turn = (y, item0, false, 0) ∧ takeS y now = (z, j, 0) ∧ j.id = i.id ∧ j.turn = i.turn + 1 ∧ doneS z i.id i.turn = (queue0, 6) ∧ doneS z j.id j.turn = (w, 0) ∧ w.items.length = q.items.length - 1 ∧ 1 ≤ q.items.length) ∨ ∃ d, backS x i.id i.turn = (y, d, true, 0) ∧ d.note = i.note) ∧
    doneS y i.id i.turn = (queue0, 6) ∧ ∃ a ∈ q.items, i.turn = a.turn + 1 := by
  obtain ⟨nm, lim, l⟩ := q
  rcases first_cases notOut l with h | ⟨k, hk, hb, hp⟩
  · left
    unfold takeS
    simp only
    rw [placeS_miss h]
    rfl
  right
  have hpl := place_at hk hb hp
  generalize hx : l.getD k item0 = a at *
  have hids : ∀ j, j < l.length → j ≠ k → (l.getD j item0).id ≠ a.id := fun j hj hne => by rw [← hx]; exact ids_unlike hi hj hk hne
  have hmem : ∃ b ∈ l, (takeI now a).turn = b.turn + 1 := ⟨a, by rw [← hx]; exact getD_mem hk, rfl⟩
  have e1 : takeS ⟨nm, lim, l⟩ now = (⟨nm, lim, l.set k (takeI now a)⟩, takeI now a, 0) := by
    unfold takeS
    simp only [hpl]
    rw [if_neg (by omega)]
    simp only [Int.toNat_natCast, hx]
  have far : ∀ (x : LItem) t j, j ≠ k → j < l.length → x.id = a.id → isIt (takeI now a).id t ((l.set k x).getD j item0) = false := fun x t j hne hj hxa => by
    rw [get_set hk, if_neg hne]
    exact isIt_id (hids j hj hne)
  have e2 : placeS (isIt (takeI now a).id (takeI now a).turn) (l.set k (takeI now a)) 0 = (k : Int) := by
    refine place_at (by simpa using hk) (fun j hj => far _ _ j (by omega) (by omega) rfl) ?_
    rw [get_set hk, if_pos rfl]
    simp [isIt, takeI]
  have hg : (l.set k (takeI now a)).getD k item0 = takeI now a := by rw [get_set hk, if_pos rfl]
  by_cases hd : a.tries + 1 < 3
  · have e3 : backS ⟨nm, lim, l.set k (takeI now a)⟩ (takeI now a).id (takeI now a).turn = (⟨nm, lim, l.set k (backI (takeI now a))⟩, item0, false, 0) := by
      unfold backS
      simp only [e2]
      rw [if_neg (by omega)]
      simp only [Int.toNat_natCast, hg, List.set_set]
      rw [if_pos (by exact hd)]
    have e4 : placeS notOut (l.set k (backI (takeI now a))) 0 = (k : Int) := by
      refine place_at (by simpa using hk) (fun j hj => ?_) ?_
      · rw [get_set hk, if_neg (by omega)]; exact hb j hj
      · rw [get_set hk, if_pos rfl]; rfl
    have hg2 : (l.set k (backI (takeI now a))).getD k item0 = backI (takeI now a) := by rw [get_set hk, if_pos rfl]
    have e5 : takeS ⟨nm, lim, l.set k (backI (takeI now a))⟩ now = (⟨nm, lim, l.set k (takeI now (backI (takeI now a)))⟩, takeI now (backI (takeI now a)), 0) := by
      unfold takeS
      simp only [e4]
      rw [if_neg (by omega)]
      simp only [Int.toNat_natCast, hg2, List.set_set]
    have miss : ∀ x : LItem, x.id = a.id → (x.out = false ∨ x.turn ≠ (takeI now a).turn) → placeS (isIt (takeI now a).id (takeI now a).turn) (l.set k x) 0 = -1 := fun x hxa hxo => by
      refine placeS_miss fun j hj => ?_
      by_cases e : j = k
      · subst e
        rw [get_set hk, if_pos rfl]
        rcases hxo with h | h <;> simp [isIt, h]
      · exact far x _ j e (by simpa using hj) hxa
    have done0 : ∀ x : LItem, x.id = a.id → (x.out = false ∨ x.turn ≠ (takeI now a).turn) → doneS ⟨nm, lim, l.set k x⟩ (takeI now a).id (takeI now a).turn = (queue0, 6) := fun x h1 h2 => by
      unfold doneS
      simp only [miss x h1 h2]
      rfl
    have e6 : placeS (isIt (takeI now a).id ((takeI now a).turn + 1)) (l.set k (takeI now (backI (takeI now a)))) 0 = (k : Int) := by
      refine place_at (by simpa using hk) (fun j hj => far _ _ j (by omega) (by omega) rfl) ?_
      rw [get_set hk, if_pos rfl]
      simp [isIt, takeI, backI]
    refine ⟨_, _, ⟨nm, lim, l.set k (backI (takeI now a))⟩, _, _, ⟨nm, lim, (l.set k (takeI now (backI (takeI now a)))).eraseIdx k⟩, e1, .inl ⟨e3, e5, rfl, rfl, done0 _ rfl (.inr (by simp [takeI, backI]; omega)), ?_, ?_, by show 1 ≤ l.length; omega⟩, done0 _ rfl (.inl rfl), hmem⟩
    · unfold doneS
      show (if placeS (isIt (takeI now a).id ((takeI now a).turn + 1)) (l.set k (takeI now (backI (takeI now a)))) 0 < 0 then _ else _) = _
      rw [if_neg (by rw [e6]; omega)]
      have : (takeI now (backI (takeI now a))).turn = (takeI now a).turn + 1 := rfl
      have h2 : (takeI now (backI (takeI now a))).id = (takeI now a).id := rfl
      simp only [this, h2, e6, Int.toNat_natCast]
    · show ((l.set k _).eraseIdx k).length = l.length - 1
      rw [List.length_eraseIdx, if_pos (by simpa using hk), List.length_set]
  · have e3 : backS ⟨nm, lim, l.set k (takeI now a)⟩ (takeI now a).id (takeI now a).turn = (⟨nm, lim, l.eraseIdx k⟩, backI (takeI now a), true, 0) := by
      unfold backS
      simp only [e2]
      rw [if_neg (by omega)]
      simp only [Int.toNat_natCast, hg]
      rw [if_neg (by exact hd), List.eraseIdx_set_eq]
    refine ⟨_, _, ⟨nm, lim, l.eraseIdx k⟩, queue0, item0, queue0, e1, .inr ⟨_, e3, rfl⟩, ?_, hmem⟩
    unfold doneS
    have : placeS (isIt (takeI now a).id (takeI now a).turn) (l.eraseIdx k) 0 = -1 := by
      refine placeS_miss fun j hj => ?_
      rw [List.length_eraseIdx, if_pos hk] at hj
      have hj' : (l.eraseIdx k).getD j item0 = l.getD (if j < k then j else j + 1) item0 := by
        rw [List.getD_eq_getElem?_getD, List.getElem?_eraseIdx, List.getD_eq_getElem?_getD]
        split <;> rfl
      rw [hj']
      exact isIt_id (hids (if j < k then j else j + 1) (by split <;> omega) (by split <;> omega))
    simp only [this]
    rfl
theorem okset {q : LQueue} (h : q.Ok) {k : Nat} {x : LItem} (h1 : x.note.Fits) (h2 : (-1000000 ≤ x.turn ∧ x.turn ≤ 1000000) ∧ -1000000 ≤ x.tries ∧ x.tries ≤ 1000000) : ({ q with items := q.items.set k x } : LQueue).Ok := by
  refine ⟨⟨by simpa using h.1.1, fits_set h.1.2 h1⟩, fun i hi => ?_⟩
  rcases List.mem_or_eq_of_mem_set hi with hi | rfl
  · exact h.2 i hi
  · exact h2
theorem ok_take {q : LQueue} {now : Int} (h : q.Ok) (hb : ∀ i ∈ q.items, i.turn ≤ 999990 ∧ i.tries ≤ 999990) : (takeS q now).1.Ok ∧ (∀ i ∈ (takeS q now).1.items, i.turn ≤ 999991 ∧ i.tries ≤ 999990) := by
  unfold takeS
  split
  · exact ⟨⟨fits_queue0, by simp [queue0]⟩, by simp [queue0]⟩
  · rename_i hp
    have hm := getD_mem (d := item0) (place_lt hp)
    have h1 := hb _ hm
    have h2 := h.2 _ hm
    have hf : (q.items.getD (placeS notOut q.items 0).toNat item0).note.Fits := h.1.2 _ hm
    refine ⟨okset h hf ?_, fun i hi => ?_⟩
    · simp only [takeI]; omega
    · rcases List.mem_or_eq_of_mem_set hi with hi | rfl
      · have := hb i hi; omega
      · simp only [takeI]; omega
theorem ok_back {q : LQueue} {id turn : Int} (h : q.Ok) (hb : ∀ i ∈ q.items, i.turn ≤ 999991 ∧ i.tries ≤ 999990) : (backS q id turn).1.Ok ∧ (∀ i ∈ (backS q id turn).1.items, i.turn ≤ 999991 ∧ i.tries ≤ 999991) := by
  unfold backS
  split
  · exact ⟨⟨fits_queue0, by simp [queue0]⟩, by simp [queue0]⟩
  · rename_i hp
    have hm := getD_mem (d := item0) (place_lt hp)
    have h1 := hb _ hm
    have h2 := h.2 _ hm
    split
    · have hf : (q.items.getD (placeS (isIt id turn) q.items 0).toNat item0).note.Fits := h.1.2 _ hm
      refine ⟨okset h hf ?_, fun i hi => ?_⟩
      · simp only [backI]; omega
      · rcases List.mem_or_eq_of_mem_set hi with hi | rfl
        · have := hb i hi; omega
        · simp only [backI]; omega
    · have hlen : (q.items.eraseIdx (placeS (isIt id turn) q.items 0).toNat).length ≤ 1048576 := by
        have h1 := h.1.1
        rw [List.length_eraseIdx]
        split <;> omega
      exact ⟨⟨⟨hlen, fun i hi => h.1.2 i (List.mem_of_mem_eraseIdx hi)⟩, fun i hi => h.2 i (List.mem_of_mem_eraseIdx hi)⟩, fun i hi => by have := hb i (List.mem_of_mem_eraseIdx hi); omega⟩
set_option maxRecDepth 100000 in
set_option maxHeartbeats 2000000 in
theorem con_queueturn (q : LQueue) (now : Int) (hq : q.Fits) (hnm : q.name.size ≤ 1048576) : Con Try.prog D 10 [queueA q, .int .i64 now] ⟨.bool true, []⟩ := by
  have hok : GOk Try.prog D (tabG [eAlive3, eRightq, eTakeq, eBackq, eDoneq]) := tabG_ok _
  have g0 := tabG_use (T := [eAlive3, eRightq, eTakeq, eBackq, eDoneq]) (E := eAlive3) (i := 0) rfl (by decide) (()) (trivial)
  have g1 := tabG_use (T := [eAlive3, eRightq, eTakeq, eBackq, eDoneq]) (E := eRightq) (i := 1) rfl (by decide) (⟨[q], 1000000⟩) (⟨by simp, by simpa using ⟨hq, hnm⟩⟩)
  have g2 := fun (q : LQueue) (h : q.Ok) (hn : -1000000 ≤ now ∧ now ≤ 1000000) => tabG_use (T := [eAlive3, eRightq, eTakeq, eBackq, eDoneq]) (E := eTakeq) (i := 2) rfl (by decide) ((q, now)) (⟨h, hn⟩)
  have g3 := fun (q : LQueue) (id turn : Int) (h : q.Ok) => tabG_use (T := [eAlive3, eRightq, eTakeq, eBackq, eDoneq]) (E := eBackq) (i := 3) rfl (by decide) ((q, id, turn)) (h)
  have g4 := fun (q : LQueue) (id turn : Int) (h : q.Fits) => tabG_use (T := [eAlive3, eRightq, eTakeq, eBackq, eDoneq]) (E := eDoneq) (i := 4) rfl (by decide) ((q, id, turn)) (h)
  generalize tabG [eAlive3, eRightq, eTakeq, eBackq, eDoneq] = G at *
  dsimp only [eAlive3] at g0
  dsimp only [eRightq] at g1
  dsimp only [eTakeq] at g2
  dsimp only [eBackq] at g3
  dsimp only [eDoneq] at g4
  have hl := hq.1
  have hcon : ∀ r, r = true → Con Try.prog D 10 [queueA q, .int .i64 now] ⟨.bool r, []⟩ := by
    intro r hr
    by_cases hgood : (0 ≤ now ∧ now ≤ 1000) ∧ hallOk ⟨[q], 1000000⟩
    · obtain ⟨hnow, hho⟩ := hgood
      obtain ⟨_, hqo, h8, hio⟩ := hallOk_queue hho (k := 0) (by simp)
      simp only [List.getD_cons_zero] at hqo h8 hio
      rw [decide_eq_true hho] at g1
      have hb0 : ∀ i ∈ q.items, i.turn ≤ 999990 ∧ i.tries ≤ 999990 := fun i hi => by have := itemsOk_all hio i hi; omega
      have t1 := g2 q hqo (by omega)
      obtain ⟨ok1, hb1⟩ := ok_take (now := now) hqo hb0
      obtain ⟨q1, q2, q3⟩ := q
      have hnl : ∀ nl, q1.data.toList = nl → Con Try.prog D 10 [.agg [.str nl, .int .i64 q2, .sl 7 (q3.map itemRow)], .int .i64 now] ⟨.bool r, []⟩ := by
        intro nl hnl
        simp only [hallA, queueRow, List.map_cons, List.map_nil, hnl] at g1
        simp only [queueA, hnl] at t1 hl h8
        refine con_of (G := G) (rs := [(4, none)]) mixed tok hok Try.func10 rfl (by decide) Try.results10 (by decide) rfl Try.ntmps10 (by simp) (by simp [namess, names]) fun X hP hD hG' hX => evC_sound hX (fun _ => {}) _ _ _ ?_
        simp only [argS, num]
        have hd1 : decide (now < 0) = false := by simp; omega
        have hd2 : decide (now > 1000) = false := by simp; omega
        simp (disch := omega) only [go_sem, Nat.reduceLeDiff, reduceCtorEq, Nat.reduceAdd, Nat.reduceSub, Nat.reduceMul, Nat.reduceLT, Nat.reduceEqDiff, Int.reduceEq, Int.reduceLE, Int.reduceLT, Int.reducePow, Int.reduceMul, Int.reduceToNat, Int.reduceNeg, ↓reduceIte, hD, hG', wrap64, g0, g1, unbox, tmv, Option.some.injEq, exists_eq_left']
        refine RegT.mk [] ?_
        simp (disch := omega) only [go_sem, Nat.reduceLeDiff, reduceCtorEq, Nat.reduceAdd, Nat.reduceSub, Nat.reduceMul, Nat.reduceLT, Nat.reduceEqDiff, Int.reduceEq, Int.reduceLE, Int.reduceLT, Int.reducePow, Int.reduceMul, Int.reduceToNat, Int.reduceNeg, ↓reduceIte, hD, hG', wrap64, hd1, hd2, g1, unbox, tmv, Option.some.injEq, exists_eq_left']
        refine Tr.loop (ι := Nat) (fun i => i ≤ q3.length) (fun i => { nt := 143, tm := [(1, .int .i64 now), (2, .ptr 2 0), (37, .sl 7 (q3.map itemRow)), (38, .int .i64 q3.length), (39, .int .i64 i)], bl := [(2, some (.cells [.str nl, .int .i64 q2, .sl 7 (q3.map itemRow)]))] }) (fun i => q3.length - i) 0
          ⟨Nat.zero_le _, wk_of hD [(2, 2)] rfl rfl (by simp only [go_sem, Nat.reduceEqDiff]; simp) (by simp only [go_sem, Nat.reduceEqDiff])⟩ ?_
        intro i hi
        refine evC_sound hX (fun _ => {}) _ _ _ ?_
        simp (disch := omega) only [go_sem, Nat.reduceLeDiff, reduceCtorEq, Nat.reduceAdd, Nat.reduceSub, Nat.reduceMul, Nat.reduceLT, Nat.reduceEqDiff, Int.reduceEq, Int.reduceLE, Int.reduceLT, Int.reducePow, Int.reduceMul, Int.reduceToNat, Int.reduceNeg, ↓reduceIte, hD, hG', wrap64, unbox, tmv, Option.some.injEq, exists_eq_left']
        refine condK_split (fun h => ?_) (fun h => ?_)
        · rw [decide_eq_true_eq] at h
          have hi1 : i < q3.length := by omega
          have hgx := itemGet hi1
          generalize q3.getD i item0 = x at *
          obtain ⟨a1, a2, a3, a4, a5, ⟨xp, xb⟩⟩ := x
          simp only [itemRow] at hgx
          simp (disch := omega) only [go_sem, Nat.reduceLeDiff, reduceCtorEq, Nat.reduceAdd, Nat.reduceSub, Nat.reduceMul, Nat.reduceLT, Nat.reduceEqDiff, Int.reduceEq, Int.reduceLE, Int.reduceLT, Int.reducePow, Int.reduceMul, Int.reduceToNat, Int.reduceNeg, ↓reduceIte, hD, hG', wrap64, hgx, unbox, tmv, Option.some.injEq, exists_eq_left']
          refine ⟨by omega, condK_split (fun h => ?_) (fun h => ?_)⟩
          · simp (disch := omega) only [go_sem, Nat.reduceLeDiff, reduceCtorEq, Nat.reduceAdd, Nat.reduceSub, Nat.reduceMul, Nat.reduceLT, Nat.reduceEqDiff, Int.reduceEq, Int.reduceLE, Int.reduceLT, Int.reducePow, Int.reduceMul, Int.reduceToNat, Int.reduceNeg, ↓reduceIte, hD, hG', wrap64, unbox, tmv, Option.some.injEq, exists_eq_left']
            refine ⟨[], [], rfl, rfl, ?_, ?_⟩ <;> simp only [go_sem, Nat.reduceEqDiff, hr]
          · simp (disch := omega) only [go_sem, Nat.reduceLeDiff, reduceCtorEq, Nat.reduceAdd, Nat.reduceSub, Nat.reduceMul, Nat.reduceLT, Nat.reduceEqDiff, Int.reduceEq, Int.reduceLE, Int.reduceLT, Int.reducePow, Int.reduceMul, Int.reduceToNat, Int.reduceNeg, ↓reduceIte, hD, hG', wrap64, unbox, tmv, Option.some.injEq, exists_eq_left']
            refine ⟨i + 1, ⟨by omega, by omega⟩, wk_of hD [(2, 2)] rfl rfl ?_ ?_⟩ <;> simp only [go_sem, Nat.reduceEqDiff]
            simp
        · clear h
          have n6 : ((6 : Int) != 0) = true := rfl
          rcases turn_facts (now := now) hio with ht | ⟨x, i, y, z, j, w, ht, hbk, hdn, a, ham, hat⟩
          · rw [ht] at t1
            simp only [queueA, itemA, itemRow, queue0, item0, note0, List.map_cons, List.map_nil] at t1
            have n0 : ((0 : Nat) : Int) = 0 := rfl
            simp (disch := omega) only [go_sem, Nat.reduceLeDiff, reduceCtorEq, Nat.reduceAdd, Nat.reduceSub, Nat.reduceMul, Nat.reduceLT, Nat.reduceEqDiff, Int.reduceEq, Int.reduceLE, Int.reduceLT, Int.reducePow, Int.reduceMul, Int.reduceToNat, Int.reduceNeg, ↓reduceIte, hD, hG', wrap64, t1, n6, n0, unbox, tmv, Option.some.injEq, exists_eq_left']
            refine ⟨[], [], rfl, rfl, ?_, ?_⟩ <;> simp only [go_sem, Nat.reduceEqDiff, hr]
          · have okx := ok1
            have hbx := hb1
            rw [ht] at t1 okx hbx
            simp only at okx hbx
            have t2 := g3 x i.id i.turn okx
            obtain ⟨oky, hby⟩ := ok_back (id := i.id) (turn := i.turn) okx hbx
            have b2 : i.turn ≤ 999991 ∧ -1000000 ≤ i.turn := by have := itemsOk_all hio a ham; omega
            rcases hbk with ⟨hbk, ht2, hji, hjt, hd1', hd2', hw, h1⟩ | ⟨d, hbk, _⟩
            · rw [hbk] at t2 oky hby
              simp only at oky hby
              have t3 := g4 y i.id i.turn oky.1
              rw [hdn] at t3
              have t4 := g2 y oky (by omega)
              rw [ht2] at t4
              have t5 := g4 z i.id i.turn (by have := (fits_take (now := now) oky.1).1; rw [ht2] at this; exact this)
              rw [hd1'] at t5
              have t6 := g4 z j.id j.turn (by have := (fits_take (now := now) oky.1).1; rw [ht2] at this; exact this)
              rw [hd2'] at t6
              simp only at hw h1
              clear g0 g1 g2 g3 g4 okx hbx oky hby ok1 hb1 ht hbk ht2 hdn hd1' hd2' hho hio hqo hb0
              obtain ⟨x1, x2, x3⟩ := x
              obtain ⟨y1, y2, y3⟩ := y
              obtain ⟨z1, z2, z3⟩ := z
              obtain ⟨w1, w2, w3⟩ := w
              obtain ⟨i1, i2, i3, i4, i5, ⟨i6, i7⟩⟩ := i
              obtain ⟨j1, j2, j3, j4, j5, ⟨j6, j7⟩⟩ := j
              simp only at hji hjt hw h1 b2
              subst hji hjt
              have hwl : ((w3.length : Nat) : Int) = (q3.length : Int) - 1 := by omega
              simp only [queueA, itemA, itemRow, queue0, item0, note0, List.map_cons, List.map_nil] at t1 t2 t3 t4 t5 t6
              simp (disch := omega) only [go_sem, Nat.reduceLeDiff, reduceCtorEq, Nat.reduceAdd, Nat.reduceSub, Nat.reduceMul, Nat.reduceLT, Nat.reduceEqDiff, Int.reduceEq, Int.reduceLE, Int.reduceLT, Int.reducePow, Int.reduceMul, Int.reduceToNat, Int.reduceNeg, ↓reduceIte, hD, hG', wrap64, t1, t2, t3, t4, t5, t6, n6, unbox, tmv, Option.some.injEq, exists_eq_left']
              refine RegT.mk [] ?_
              simp (disch := omega) only [go_sem, Nat.reduceLeDiff, reduceCtorEq, Nat.reduceAdd, Nat.reduceSub, Nat.reduceMul, Nat.reduceLT, Nat.reduceEqDiff, Int.reduceEq, Int.reduceLE, Int.reduceLT, Int.reducePow, Int.reduceMul, Int.reduceToNat, Int.reduceNeg, ↓reduceIte, hD, hG', wrap64, t1, t2, t3, t4, t5, t6, n6, unbox, tmv, Option.some.injEq, exists_eq_left']
              refine RegT.mk [] ?_
              simp (disch := omega) only [go_sem, Nat.reduceLeDiff, reduceCtorEq, Nat.reduceAdd, Nat.reduceSub, Nat.reduceMul, Nat.reduceLT, Nat.reduceEqDiff, Int.reduceEq, Int.reduceLE, Int.reduceLT, Int.reducePow, Int.reduceMul, Int.reduceToNat, Int.reduceNeg, ↓reduceIte, hD, hG', wrap64, t1, t2, t3, t4, t5, t6, n6, hwl, unbox, tmv, Option.some.injEq, exists_eq_left']
              refine ⟨[], [], rfl, rfl, ?_, ?_⟩ <;> simp only [go_sem, Nat.reduceEqDiff, hr]
            · rw [hbk] at t2 oky hby
              simp only at oky hby
              have t3 := g4 y i.id i.turn oky.1
              rw [hdn] at t3
              clear g0 g1 g2 g3 g4 okx hbx oky hby ok1 hb1 ht hbk hdn hho hio hqo hb0
              obtain ⟨x1, x2, x3⟩ := x
              obtain ⟨y1, y2, y3⟩ := y
              obtain ⟨i1, i2, i3, i4, i5, ⟨i6, i7⟩⟩ := i
              obtain ⟨j1, j2, j3, j4, j5, ⟨j6, j7⟩⟩ := d
              simp only [queueA, itemA, itemRow, queue0, item0, note0, List.map_cons, List.map_nil] at t1 t2 t3
              simp (disch := omega) only [go_sem, Nat.reduceLeDiff, reduceCtorEq, Nat.reduceAdd, Nat.reduceSub, Nat.reduceMul, Nat.reduceLT, Nat.reduceEqDiff, Int.reduceEq, Int.reduceLE, Int.reduceLT, Int.reducePow, Int.reduceMul, Int.reduceToNat, Int.reduceNeg, ↓reduceIte, hD, hG', wrap64, t1, t2, t3, n6, unbox, tmv, Option.some.injEq, exists_eq_left']
              refine ⟨[], [], rfl, rfl, ?_, ?_⟩ <;> simp only [go_sem, Nat.reduceEqDiff, hr]
      exact hnl _ rfl
    · clear g2 g3 g4
      by_cases hho : hallOk ⟨[q], 1000000⟩
      · rw [decide_eq_true hho] at g1
        have hbad : ¬ (0 ≤ now ∧ now ≤ 1000) := fun h => hgood ⟨h, hho⟩
        clear hgood hho
        obtain ⟨q1, q2, q3⟩ := q
        simp only [hallA, queueA, queueRow, List.map_cons, List.map_nil] at g1
        refine con_of (G := G) (rs := [(4, none)]) mixed tok hok Try.func10 rfl (by decide) Try.results10 (by decide) rfl Try.ntmps10 (by simp) (by simp [queueA, namess, names]) fun X hP hD hG' hX => evC_sound hX (fun _ => {}) _ _ _ ?_
        simp only [argS, num, queueA]
        generalize q1.data.toList = q1 at *
        simp (disch := omega) only [go_sem, Nat.reduceLeDiff, reduceCtorEq, Nat.reduceAdd, Nat.reduceSub, Nat.reduceMul, Nat.reduceLT, Nat.reduceEqDiff, Int.reduceEq, Int.reduceLE, Int.reduceLT, Int.reducePow, Int.reduceMul, Int.reduceToNat, Int.reduceNeg, ↓reduceIte, hD, hG', wrap64, g0, unbox, tmv, Option.some.injEq, exists_eq_left']
        refine RegT.mk [] ?_
        simp (disch := omega) only [go_sem, Nat.reduceLeDiff, reduceCtorEq, Nat.reduceAdd, Nat.reduceSub, Nat.reduceMul, Nat.reduceLT, Nat.reduceEqDiff, Int.reduceEq, Int.reduceLE, Int.reduceLT, Int.reducePow, Int.reduceMul, Int.reduceToNat, Int.reduceNeg, ↓reduceIte, hD, hG', wrap64, g1, unbox, tmv, Option.some.injEq, exists_eq_left']
        and_intros
        all_goals (try (first | (intro hk; refine ⟨hk, fun h2 => ?_⟩; first | (rw [hk, h2]; rfl) | (rw [hk, decide_eq_false h2]; rfl)) | (intro hk; rw [decide_eq_false hk]; rfl) | (intro hk; rw [hk]; rfl)))
        refine condK_split (fun h => ?_) (fun h => ?_)
        · simp (disch := omega) only [go_sem, Nat.reduceLeDiff, reduceCtorEq, Nat.reduceAdd, Nat.reduceSub, Nat.reduceMul, Nat.reduceLT, Nat.reduceEqDiff, Int.reduceEq, Int.reduceLE, Int.reduceLT, Int.reducePow, Int.reduceMul, Int.reduceToNat, Int.reduceNeg, ↓reduceIte, hD, hG', wrap64, unbox, tmv, Option.some.injEq, exists_eq_left']
          refine ⟨[], [], rfl, rfl, ?_, ?_⟩ <;> simp only [go_sem, Nat.reduceEqDiff, hr]
        · exfalso
          clear g0 g1
          simp at h
          omega
      · rw [decide_eq_false hho] at g1
        clear hgood hho
        obtain ⟨q1, q2, q3⟩ := q
        simp only [hallA, queueA, queueRow, List.map_cons, List.map_nil] at g1
        refine con_of (G := G) (rs := [(4, none)]) mixed tok hok Try.func10 rfl (by decide) Try.results10 (by decide) rfl Try.ntmps10 (by simp) (by simp [queueA, namess, names]) fun X hP hD hG' hX => evC_sound hX (fun _ => {}) _ _ _ ?_
        simp only [argS, num, queueA]
        generalize q1.data.toList = q1 at *
        simp (disch := omega) only [go_sem, Nat.reduceLeDiff, reduceCtorEq, Nat.reduceAdd, Nat.reduceSub, Nat.reduceMul, Nat.reduceLT, Nat.reduceEqDiff, Int.reduceEq, Int.reduceLE, Int.reduceLT, Int.reducePow, Int.reduceMul, Int.reduceToNat, Int.reduceNeg, ↓reduceIte, hD, hG', wrap64, g0, unbox, tmv, Option.some.injEq, exists_eq_left']
        refine RegT.mk [] ?_
        simp (disch := omega) only [go_sem, Nat.reduceLeDiff, reduceCtorEq, Nat.reduceAdd, Nat.reduceSub, Nat.reduceMul, Nat.reduceLT, Nat.reduceEqDiff, Int.reduceEq, Int.reduceLE, Int.reduceLT, Int.reducePow, Int.reduceMul, Int.reduceToNat, Int.reduceNeg, ↓reduceIte, hD, hG', wrap64, g1, unbox, tmv, Option.some.injEq, exists_eq_left']
        and_intros
        all_goals (try (first | (intro hk; refine ⟨hk, fun h2 => ?_⟩; first | (rw [hk, h2]; rfl) | (rw [hk, decide_eq_false h2]; rfl)) | (intro hk; rw [decide_eq_false hk]; rfl) | (intro hk; rw [hk]; rfl)))
        refine ⟨[], [], rfl, rfl, ?_, ?_⟩ <;> simp only [go_sem, Nat.reduceEqDiff, hr]
  exact hcon _ rfl
end Go.Proofs.Ytcgdjdlcecnanaa.Ab
namespace Go.Proofs.Ytcgdjdlcecnanaa.Ab
open Go Go.RowKit
set_option linter.unusedVariables false
set_option linter.unusedSimpArgs false

theorem shp_item {m : Nat} {B : Nat} {us : List AV} (h : Shp D B (m + 5) 64 us) : ∃ i : LItem, us = itemRow i ∧ i.note.props.length ≤ B ∧ i.note.body.length ≤ B ∧ ∀ p ∈ i.note.props, p.key.size ≤ B ∧ p.text.size ≤ B := by
  have h := shp_struct (fs := [(0, 3), (1, 3), (2, 3), (3, 4), (4, 3), (5, 42)]) (by simp only [D_1, D_2, D_3, D_4, D_5, D_6, D_7, D_8, D_9, D_10, D_11, D_12, D_13, D_14, D_15, D_16, D_17, D_18, D_19, D_21, D_22, D_23, D_24, D_25, D_26, D_27, D_28, D_29, D_30, D_32, D_33, D_35, D_36, D_37, D_38, D_39, D_40, D_41, D_42, D_43, D_44, D_45, D_46, D_47, D_49, D_50, D_51, D_52, D_53, D_54, D_55, D_56, D_57, D_58, D_60, D_61, D_62, D_63, D_64, D_66, D_67, D_68, D_70, D_72, D_73, D_75, D_76, D_77, D_78, D_79, D_80, D_81, D_82, D_83, D_84, D_85, D_86, D_88, D_89, D_91, D_92, D_93, D_94, D_95, D_96, D_97, D_98, D_99, D_100, D_103, D_104, D_105, D_106, D_107, D_108, D_109, D_110, D_111, D_112, D_113, D_114, D_115, D_116, D_117, D_118, D_119, D_120, D_121, D_122, D_123, D_126, D_128, D_130, D_131, D_132, D_133, D_137, D_138, D_139, D_140, D_141, D_142, D_143, D_144, D_145]) h
  simp only [ShpF] at h
  obtain ⟨_, _, rfl, h1, _, _, rfl, h2, _, _, rfl, h3, _, _, rfl, h4, _, _, rfl, h5, _, _, rfl, h6, rfl⟩ := h
  obtain ⟨a, rfl, _⟩ := shp_i64 (t := 3) rfl h1
  obtain ⟨b, rfl, _⟩ := shp_i64 (t := 3) rfl h2
  obtain ⟨c, rfl, _⟩ := shp_i64 (t := 3) rfl h3
  obtain ⟨d, rfl⟩ := shp_bool (t := 4) rfl h4
  obtain ⟨e, rfl, _⟩ := shp_i64 (t := 3) rfl h5
  obtain ⟨x, _, rfl, q1, q2, q3⟩ := shp_note h6
  exact ⟨⟨a, b, c, d, e, x⟩, rfl, q1, q2, q3⟩
theorem shp_queue {m : Nat} {us : List AV} (h : Shp D 1048576 (m + 7) 54 us) : ∃ q : LQueue, us = [.str q.name.data.toList, .int .i64 q.limit, .sl 7 (q.items.map itemRow)] ∧ AV.agg us = queueA q ∧ q.Fits ∧ q.name.size ≤ 1048576 := by
  have h := shp_struct (fs := [(0, 9), (1, 3), (2, 52)]) (by simp only [D_1, D_2, D_3, D_4, D_5, D_6, D_7, D_8, D_9, D_10, D_11, D_12, D_13, D_14, D_15, D_16, D_17, D_18, D_19, D_21, D_22, D_23, D_24, D_25, D_26, D_27, D_28, D_29, D_30, D_32, D_33, D_35, D_36, D_37, D_38, D_39, D_40, D_41, D_42, D_43, D_44, D_45, D_46, D_47, D_49, D_50, D_51, D_52, D_53, D_54, D_55, D_56, D_57, D_58, D_60, D_61, D_62, D_63, D_64, D_66, D_67, D_68, D_70, D_72, D_73, D_75, D_76, D_77, D_78, D_79, D_80, D_81, D_82, D_83, D_84, D_85, D_86, D_88, D_89, D_91, D_92, D_93, D_94, D_95, D_96, D_97, D_98, D_99, D_100, D_103, D_104, D_105, D_106, D_107, D_108, D_109, D_110, D_111, D_112, D_113, D_114, D_115, D_116, D_117, D_118, D_119, D_120, D_121, D_122, D_123, D_126, D_128, D_130, D_131, D_132, D_133, D_137, D_138, D_139, D_140, D_141, D_142, D_143, D_144, D_145]) h
  simp only [ShpF] at h
  obtain ⟨_, _, rfl, h1, _, _, rfl, h2, _, _, rfl, h3, rfl⟩ := h
  obtain ⟨s, rfl, hs⟩ := shp_str (t := 9) rfl h1
  obtain ⟨n, rfl, _⟩ := shp_i64 (t := 3) rfl h2
  obtain ⟨rs, rfl, hl, hr⟩ := shp_slice (e := 64) (by simp only [D_1, D_2, D_3, D_4, D_5, D_6, D_7, D_8, D_9, D_10, D_11, D_12, D_13, D_14, D_15, D_16, D_17, D_18, D_19, D_21, D_22, D_23, D_24, D_25, D_26, D_27, D_28, D_29, D_30, D_32, D_33, D_35, D_36, D_37, D_38, D_39, D_40, D_41, D_42, D_43, D_44, D_45, D_46, D_47, D_49, D_50, D_51, D_52, D_53, D_54, D_55, D_56, D_57, D_58, D_60, D_61, D_62, D_63, D_64, D_66, D_67, D_68, D_70, D_72, D_73, D_75, D_76, D_77, D_78, D_79, D_80, D_81, D_82, D_83, D_84, D_85, D_86, D_88, D_89, D_91, D_92, D_93, D_94, D_95, D_96, D_97, D_98, D_99, D_100, D_103, D_104, D_105, D_106, D_107, D_108, D_109, D_110, D_111, D_112, D_113, D_114, D_115, D_116, D_117, D_118, D_119, D_120, D_121, D_122, D_123, D_126, D_128, D_130, D_131, D_132, D_133, D_137, D_138, D_139, D_140, D_141, D_142, D_143, D_144, D_145]) h3
  obtain ⟨l, rfl, h4⟩ := shp_rows (f := itemRow) (Q := fun i => i.note.Fits) fun row hrow => by
    obtain ⟨i, h1, h2, h3, h4⟩ := shp_item (hr row hrow)
    exact ⟨i, h1, h4, h2, h3⟩
  refine ⟨⟨s, n, l⟩, ?_, ?_, ⟨by simpa using hl, h4⟩, hs⟩
  · simp only [D_1, D_2, D_3, D_4, D_5, D_6, D_7, D_8, D_9, D_10, D_11, D_12, D_13, D_14, D_15, D_16, D_17, D_18, D_19, D_21, D_22, D_23, D_24, D_25, D_26, D_27, D_28, D_29, D_30, D_32, D_33, D_35, D_36, D_37, D_38, D_39, D_40, D_41, D_42, D_43, D_44, D_45, D_46, D_47, D_49, D_50, D_51, D_52, D_53, D_54, D_55, D_56, D_57, D_58, D_60, D_61, D_62, D_63, D_64, D_66, D_67, D_68, D_70, D_72, D_73, D_75, D_76, D_77, D_78, D_79, D_80, D_81, D_82, D_83, D_84, D_85, D_86, D_88, D_89, D_91, D_92, D_93, D_94, D_95, D_96, D_97, D_98, D_99, D_100, D_103, D_104, D_105, D_106, D_107, D_108, D_109, D_110, D_111, D_112, D_113, D_114, D_115, D_116, D_117, D_118, D_119, D_120, D_121, D_122, D_123, D_126, D_128, D_130, D_131, D_132, D_133, D_137, D_138, D_139, D_140, D_141, D_142, D_143, D_144, D_145]; rfl
  · simp only [queueA, D_1, D_2, D_3, D_4, D_5, D_6, D_7, D_8, D_9, D_10, D_11, D_12, D_13, D_14, D_15, D_16, D_17, D_18, D_19, D_21, D_22, D_23, D_24, D_25, D_26, D_27, D_28, D_29, D_30, D_32, D_33, D_35, D_36, D_37, D_38, D_39, D_40, D_41, D_42, D_43, D_44, D_45, D_46, D_47, D_49, D_50, D_51, D_52, D_53, D_54, D_55, D_56, D_57, D_58, D_60, D_61, D_62, D_63, D_64, D_66, D_67, D_68, D_70, D_72, D_73, D_75, D_76, D_77, D_78, D_79, D_80, D_81, D_82, D_83, D_84, D_85, D_86, D_88, D_89, D_91, D_92, D_93, D_94, D_95, D_96, D_97, D_98, D_99, D_100, D_103, D_104, D_105, D_106, D_107, D_108, D_109, D_110, D_111, D_112, D_113, D_114, D_115, D_116, D_117, D_118, D_119, D_120, D_121, D_122, D_123, D_126, D_128, D_130, D_131, D_132, D_133, D_137, D_138, D_139, D_140, D_141, D_142, D_143, D_144, D_145]; rfl
end Go.Proofs.Ytcgdjdlcecnanaa.Ab
