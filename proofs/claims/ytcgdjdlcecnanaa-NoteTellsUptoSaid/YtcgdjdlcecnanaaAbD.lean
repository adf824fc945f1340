/-
  States of the evaluator and of the machine: what freezing, killing, putting and a new block do.
  No condition.
-/
import Derived.Test.YtcgdjdlcecnanaaAbC
namespace Go.Proofs.Ytcgdjdlcecnanaa.Ab
open Go
set_option linter.unusedVariables false
set_option linter.unusedSimpArgs false

def mapBlk (h : AV → AV) : Blk → Blk
  | .cells cs => .cells (cs.map h)
  | .rows e sz rs => .rows e sz rs
theorem mapL_eq (h : AV → AV) : ∀ cs : List AV, mapL h cs = cs.map h
  | [] => rfl
  | c :: r => by simp [mapL, mapL_eq h r]
theorem get_mapB (h : AV → AV) (n : Nat) : ∀ l, get n (mapB h l) = (get n l).map (Option.map (mapBlk h))
  | [] => rfl
  | (k, none) :: r => by
    simp only [mapB, get]
    split
    · rfl
    · exact get_mapB h n r
  | (k, some (.cells cs)) :: r => by
    simp only [mapB, get]
    split
    · simp [mapBlk, mapL_eq]
    · exact get_mapB h n r
  | (k, some (.rows e sz rs)) :: r => by
    simp only [mapB, get]
    split
    · simp [mapBlk]
    · exact get_mapB h n r
theorem get_append {α : Type} (n : Nat) : ∀ (l m : List (Nat × α)), get n (l ++ m) = match get n l with | some x => some x | none => get n m
  | [], m => rfl
  | (k, v) :: r, m => by
    simp only [List.cons_append, get]
    split
    · rfl
    · exact get_append n r m
theorem get_gone (n : Nat) : ∀ ns : List Nat, get n (gone ns) = if n ∈ ns then some none else none
  | [] => by simp [gone, get]
  | k :: r => by
    simp only [gone, get, List.mem_cons]
    by_cases h : k = n
    · subst h; simp
    · have h' : ¬ n = k := fun e => h e.symm
      simp only [h, if_false, h', false_or]
      exact get_gone n r
theorem get_here (n : Nat) : ∀ l : List (Nat × Blk), get n (here l) = (get n l).map some
  | [] => rfl
  | (k, b) :: r => by
    simp only [here, get]
    split
    · rfl
    · exact get_here n r
theorem blk_freeze (σ : AS) (ns : List Nat) (n : Nat) : blk (freeze σ ns) n = if n ∈ ns then none else (blk σ n).map (mapBlk (fz ns (blk σ))) := by
  cases ns with
  | nil =>
    simp only [freeze, List.not_mem_nil, if_false]
    cases hb : blk σ n with
    | none => rfl
    | some x =>
      cases x with
      | cells cs =>
        have : ∀ x : AV, fz [] (blk σ) x = x := by
          intro x
          exact (AV.rec (motive_1 := fun x => fz [] (blk σ) x = x) (motive_2 := fun _ => True) (motive_3 := fun cs => fzs [] (blk σ) cs = cs)
            (by simp [fz]) (by simp [fz]) (by simp [fz]) (by simp [fz]) (by simp [fz]) (by simp [fz]) (by simp [fz, mem]) (by simp [fz, mem]) (by simp [fz]) (by simp [fz, mem])
            (fun f cs ih => by simp [fz, ih]) (fun cs ih => by simp [fz, ih]) (fun cs ih => by simp [fz, ih]) (fun g v ih => by simp [fz, ih])
            trivial (fun _ _ _ _ => trivial) (by simp [fzs]) (fun c r h1 h2 => by simp [fzs, h1, h2]) x)
        simp only [Option.map_some, mapBlk, List.map_congr_left (fun x _ => this x), List.map_id']
      | rows e sz rs => rfl
  | cons m ms =>
    simp only [freeze, blk, get_append, get_gone, get_mapB]
    by_cases h : n ∈ m :: ms
    · simp only [h, if_true, jn]
    · simp only [h, if_false]
      cases get n σ.bl with
      | none => rfl
      | some x => rfl
theorem blk_kill (σ : AS) (ns : List Nat) (n : Nat) : blk (kill σ ns) n = if n ∈ ns then none else (blk σ n).map (mapBlk (kl ns)) := by
  cases ns with
  | nil =>
    simp only [kill, List.not_mem_nil, if_false]
    cases hb : blk σ n with
    | none => rfl
    | some x =>
      cases x with
      | cells cs =>
        have : ∀ x : AV, kl [] x = x := by
          intro x
          exact (AV.rec (motive_1 := fun x => kl [] x = x) (motive_2 := fun _ => True) (motive_3 := fun cs => kls [] cs = cs)
            (by simp [kl]) (by simp [kl]) (by simp [kl]) (by simp [kl]) (by simp [kl]) (by simp [kl]) (by simp [kl, mem]) (by simp [kl, mem]) (by simp [kl]) (by simp [kl, mem])
            (fun f cs ih => by simp [kl, ih]) (fun cs ih => by simp [kl, ih]) (fun cs ih => by simp [kl, ih]) (fun g v ih => by simp [kl, ih])
            trivial (fun _ _ _ _ => trivial) (by simp [kls]) (fun c r h1 h2 => by simp [kls, h1, h2]) x)
        simp only [Option.map_some, mapBlk, List.map_congr_left (fun x _ => this x), List.map_id']
      | rows e sz rs => rfl
  | cons m ms =>
    simp only [kill, blk, get_append, get_gone, get_mapB]
    by_cases h : n ∈ m :: ms
    · simp only [h, if_true, jn]
    · simp only [h, if_false]
      cases get n σ.bl with
      | none => rfl
      | some x => rfl
theorem get_tm_freeze (σ : AS) (ns : List Nat) (t : Nat) (x : AV) (h : get t (freeze σ ns).tm = some x) : ∃ y, get t σ.tm = some y ∧ (x = fz ns (blk σ) y ∨ (ns = [] ∧ x = y)) := by
  cases ns with
  | nil => exact ⟨x, h, .inr ⟨rfl, rfl⟩⟩
  | cons m ms =>
    simp only [freeze, get_mapT] at h
    obtain ⟨y, hy, rfl⟩ := Option.map_eq_some_iff.1 h
    exact ⟨y, hy, .inl rfl⟩
theorem get_tm_kill (σ : AS) (ns : List Nat) (t : Nat) (x : AV) (h : get t (kill σ ns).tm = some x) : ∃ y, get t σ.tm = some y ∧ (x = kl ns y ∨ (ns = [] ∧ x = y)) := by
  cases ns with
  | nil => exact ⟨x, h, .inr ⟨rfl, rfl⟩⟩
  | cons m ms =>
    simp only [kill, get_mapT] at h
    obtain ⟨y, hy, rfl⟩ := Option.map_eq_some_iff.1 h
    exact ⟨y, hy, .inl rfl⟩

/-- a slice of our own, read -/
theorem Rel.plain {D : Nat → TI} {w : World} {im im' : Nat → Prop} {ρ : Env} {t e sz : Nat} {rs : List (List AV)} (h : BRel D w im ρ t (.rows e sz rs)) (him : ∀ b, im b → im' b) (hb : ∀ b, (ρ t).b = some b → im' b) :
    Rel w im' ρ (.sl sz rs) (ρ t).sv := by
  obtain ⟨h1, h2, _, A, c, h3, h4, h5, h6⟩ := h
  rw [h3]
  rcases h6 with ⟨rfl, rfl, rfl, _⟩ | ⟨b, arr, hb1, rfl, hh, hsz, hr⟩
  · exact .sl sz [] none 0 0 0 (fun _ _ => .nilIface) h4 h5 (fun h => absurd h (by simp)) (by simp) (by simp) (by simp)
  · refine .sl sz rs _ c b 0 (fun i j => arr.getD (i * sz + j) undef) h4 h5 (fun _ => ⟨rfl, hb b hb1⟩) (fun i row hi => (hr i row hi).1) (fun i j row x hi hj => ?_) (fun i j row x hi hj => ?_)
    · obtain ⟨hn, v, hv, h1v, hrel⟩ := (hr i row hi).2 j x hj
      have hg : arr.getD (i * sz + j) undef = v := by
        rw [Array.getD_eq_getD_getElem?, hv]; rfl
      rw [hg]
      refine ⟨?_, h1v, hn⟩
      rw [Nat.zero_add]
      unfold World.cell?
      rw [hh]
      simp [hv]
    · obtain ⟨hn, v, hv, h1v, hrel⟩ := (hr i row hi).2 j x hj
      have hg : arr.getD (i * sz + j) undef = v := by
        rw [Array.getD_eq_getD_getElem?, hv]; rfl
      rw [hg]
      exact hrel.mono him (fun _ _ => rfl) (fun n hn' => rfl)

theorem Rel.fz {D : Nat → TI} {w : World} {im im' : Nat → Prop} {ρ : Env} {bl : Nat → Option Blk} {ns : List Nat} (hbl : ∀ n x, n ∈ ns → bl n = some x → BRel D w im ρ n x) (him : ∀ b, im b → im' b)
    (hb : ∀ n x b, n ∈ ns → bl n = some x → (ρ n).b = some b → im' b) {x : AV} {v : Value} (h : Rel w im ρ x v) : Rel w im' ρ (fz ns bl x) v := by
  induction h with
  | junk v => simp only [Ab.fz]; exact .junk v
  | int k n => simp only [Ab.fz]; exact .int k n
  | bool b => simp only [Ab.fz]; exact .bool b
  | str l => simp only [Ab.fz]; exact .str l
  | nils => simp only [Ab.fz]; exact .nils
  | sl sz rs A c b o val hc hm hA hrow hcell hval ih =>
    simp only [Ab.fz]
    exact (Rel.sl sz rs A c b o val hc hm hA hrow hcell hval).mono him (fun _ _ => rfl) (fun _ _ => rfl)
  | os t =>
    simp only [Ab.fz]
    split
    · rename_i ht
      unfold rowsAt
      cases hbt : bl t with
      | none => exact .junk _
      | some y =>
        cases y with
        | cells cs => exact .junk _
        | rows e sz rs => exact Rel.plain (hbl t _ (mem_iff.1 ht) hbt) him (fun b hb' => hb t _ b (mem_iff.1 ht) hbt hb')
    · exact .os t
  | ptr v off b h => simp only [Ab.fz]; split <;> first | exact .junk _ | exact .ptr v off b h
  | iptr cs b o val hb hcell hval ih =>
    simp only [Ab.fz]
    exact (Rel.iptr cs b o val hb hcell hval).mono him (fun _ _ => rfl) (fun _ _ => rfl)
  | eptr t i off b h => simp only [Ab.fz]; split <;> first | exact .junk _ | exact .eptr t i off b h
  | func f cs vs hl hval ih =>
    simp only [Ab.fz, fzs_eq]
    refine .func f _ vs (by simpa using hl) fun i x v h1 h2 => ?_
    rw [List.getElem?_map] at h1
    obtain ⟨y, hy, rfl⟩ := Option.map_eq_some_iff.1 h1
    exact ih i y v hy h2
  | agg cs vs hl h1 hval ih =>
    simp only [Ab.fz, fzs_eq]
    refine .agg _ vs (by simpa using hl) h1 fun i x v h1 h2 => ?_
    rw [List.getElem?_map] at h1
    obtain ⟨y, hy, rfl⟩ := Option.map_eq_some_iff.1 h1
    exact ih i y v hy h2
  | tup cs vs hl hval ih =>
    simp only [Ab.fz, fzs_eq]
    refine .tup _ vs (by simpa using hl) fun i x v h1 h2 => ?_
    rw [List.getElem?_map] at h1
    obtain ⟨y, hy, rfl⟩ := Option.map_eq_some_iff.1 h1
    exact ih i y v hy h2
  | opt g x v h1 h2 ih => simp only [Ab.fz]; exact .opt g _ v ih h2

theorem BRel.mono {D : Nat → TI} {w w' : World} {im im' : Nat → Prop} {ρ ρ' : Env} {n : Nat} {x : Blk} (h : BRel D w im ρ n x) (hn : ρ' n = ρ n) (hb : ∀ b, (ρ n).b = some b → w'.heap[b]? = w.heap[b]?)
    (him : ∀ b, im b → im' b) (hw : ∀ b, im b → w'.heap[b]? = w.heap[b]?) (hρ : ∀ cs, x = .cells cs → ∀ m ∈ namess cs, ρ' m = ρ m) : BRel D w' im' ρ' n x := by
  cases x with
  | cells cs =>
    obtain ⟨b, arr, T, h1, h2, h3, h5⟩ := h
    exact ⟨b, arr, T, by rw [hn]; exact h1, (hb b h1).trans h2, h3, fun i x v hx hv => ⟨(h5 i x v hx hv).1, (h5 i x v hx hv).2.mono him hw fun m hm => hρ cs rfl m (mem_namess hx hm)⟩⟩
  | rows e sz rs =>
    obtain ⟨h1, h2, h2', A, c, h3, h4, h5, h6⟩ := h
    refine ⟨by rw [hn]; exact h1, h2, h2', A, c, by rw [hn]; exact h3, h4, h5, ?_⟩
    rcases h6 with ⟨e1, e0, e2, e3⟩ | ⟨b, arr, hb1, hA, hh, hsz, hr⟩
    · exact .inl ⟨e1, e0, e2, by rw [hn]; exact e3⟩
    · refine .inr ⟨b, arr, by rw [hn]; exact hb1, hA, (hb b hb1).trans hh, hsz, fun i row hi => ⟨(hr i row hi).1, fun j x hj => ?_⟩⟩
      obtain ⟨hn', v, hv, h1v, hrel⟩ := (hr i row hi).2 j x hj
      exact ⟨hn', v, hv, h1v, hrel.mono him hw (fun m hm => by rw [hn'] at hm; cases hm)⟩

section
variable {D : Nat → TI} {S N0 : Nat → Prop} {B : Nat} {w0 : W0} {ρ : Env} {σ : AS} {a : Act} {w : World}

theorem mapBlk_some {h : AV → AV} {o : Option Blk} {x : Blk} (e : o.map (mapBlk h) = some x) : ∃ y, o = some y ∧ x = mapBlk h y := by
  cases o with
  | none => cases e
  | some y => exact ⟨y, rfl, by simpa using e.symm⟩
theorem names_of_fzs {ns : List Nat} {bl : Nat → Option Blk} {cs : List AV} {m : Nat} (h : m ∈ namess (cs.map (fz ns bl))) : m ∈ namess cs ∧ m ∉ ns := by
  rw [← fzs_eq] at h
  exact namess_fzs ns bl cs m h
theorem names_of_kls {ns : List Nat} {cs : List AV} {m : Nat} (h : m ∈ namess (cs.map (kl ns))) : m ∈ namess cs ∧ m ∉ ns := by
  rw [← kls_eq] at h
  exact namess_kls ns cs m h

theorem St0.freeze (h : St0 D S N0 B w0 ρ σ a w) (ns : List Nat) : St0 D S N0 B w0 ρ (freeze σ ns) a w := by
  by_cases hns : ns = []
  · subst hns; exact h
  have him : ∀ b, imOf S N0 B w ρ (blk σ) b → imOf S N0 B w ρ (blk (Ab.freeze σ ns)) b := by
    rintro b ⟨h1, h2, h3⟩
    refine ⟨h1, h2, fun n x hx => ?_⟩
    rw [blk_freeze] at hx
    split at hx
    · cases hx
    · obtain ⟨y, hy, _⟩ := mapBlk_some hx
      exact h3 n y hy
  have hlt : ∀ n x b, blk σ n = some x → (ρ n).b = some b → b < w.heap.size := by
    intro n x b hn hb
    have hx := h.hp.blk n x hn
    cases x with
    | cells cs =>
      obtain ⟨b', arr, T, h1, h2, _⟩ := hx
      rw [hb] at h1
      cases h1
      exact (Array.getElem?_eq_some_iff.1 h2).1
    | rows e sz rs =>
      obtain ⟨_, _, _, A, c, _, _, _, h6⟩ := hx
      rcases h6 with ⟨_, _, _, h0⟩ | ⟨b', arr, h1, _, h2, _⟩
      · rw [hb] at h0; cases h0
      · rw [hb] at h1
        cases h1
        exact (Array.getElem?_eq_some_iff.1 h2).1
  have hbim : ∀ n x b, n ∈ ns → blk σ n = some x → (ρ n).b = some b → imOf S N0 B w ρ (blk (Ab.freeze σ ns)) b := by
    intro n x b hn hx hb
    refine ⟨hlt n x b hx hb, .inr (h.own n x b hx hb), fun m y hy hm => ?_⟩
    rw [blk_freeze] at hy
    split at hy
    · cases hy
    · rename_i hmn
      obtain ⟨y', hy', _⟩ := mapBlk_some hy
      exact hmn (h.hp.inj n m b x y' hx hy' hb hm ▸ hn)
  have frel : ∀ x v, Rel w (imOf S N0 B w ρ (blk σ)) ρ x v → Rel w (imOf S N0 B w ρ (blk (Ab.freeze σ ns))) ρ (fz ns (blk σ) x) v := fun x v hx =>
    Rel.fz (fun n x _ hn => h.hp.blk n x hn) him hbim hx
  have bnd : ∀ n, (blk σ n).isSome = true → n ∉ ns → (blk (Ab.freeze σ ns) n).isSome = true := by
    intro n hn hns
    rw [blk_freeze, if_neg hns]
    simpa using hn
  refine ⟨fun t x hx => ?_, ⟨fun n x hx => ?_, fun n m b x y hx hy => ?_, fun n x b hx hb hm => ?_, fun b hb => hb.1, fun n cs hx m hm => ?_⟩, ?_, h.base, h.frm, fun n x b hx hb => ?_, h.defers⟩
  · obtain ⟨y, hy, hxy⟩ := get_tm_freeze σ ns t x hx
    rcases hxy with rfl | ⟨e, _⟩
    · obtain ⟨h1, h2⟩ := h.tm t y hy
      exact ⟨frel y _ h1, fun n hn => bnd n (h2 n (names_fz ns _ y n hn).1) (names_fz ns _ y n hn).2⟩
    · exact absurd e hns
  · rw [blk_freeze] at hx
    split at hx
    · cases hx
    · obtain ⟨y, hy, rfl⟩ := mapBlk_some hx
      have hy' := h.hp.blk n y hy
      cases y with
      | rows e sz rs => exact hy'.mono rfl (fun _ _ => rfl) him (fun _ _ => rfl) (fun cs e => by cases e)
      | cells cs =>
        obtain ⟨b, arr, T, h1, h2, h3, h5⟩ := hy'
        refine ⟨b, arr, T, h1, h2, by simpa using h3, fun i x v hx hv => ?_⟩
        rw [List.getElem?_map] at hx
        obtain ⟨z, hz, rfl⟩ := Option.map_eq_some_iff.1 hx
        exact ⟨(h5 i z v hz hv).1, frel z v (h5 i z v hz hv).2⟩
  · rw [blk_freeze] at hx hy
    split at hx
    · cases hx
    split at hy
    · cases hy
    obtain ⟨x', hx', _⟩ := mapBlk_some hx
    obtain ⟨y', hy', _⟩ := mapBlk_some hy
    exact h.hp.inj n m b x' y' hx' hy'
  · exact hm.2.2 n x hx hb
  · rw [blk_freeze] at hx
    split at hx
    · cases hx
    · obtain ⟨y, hy, e⟩ := mapBlk_some hx
      cases y with
      | rows e' sz rs => cases e
      | cells cs' =>
        cases e
        obtain ⟨h1, h2⟩ := names_of_fzs hm
        exact bnd m (h.hp.closed n cs' hy m h1) h2
  · cases ns with
    | nil => exact absurd rfl hns
    | cons m ms => exact h.nt
  · rw [blk_freeze] at hx
    split at hx
    · cases hx
    · obtain ⟨y, hy, _⟩ := mapBlk_some hx
      exact h.own n y b hy hb

/-- a value is put -/
theorem St0.put (h : St0 D S N0 B w0 ρ σ a w) {d : Nat} {x : AV} {v : Value} (hd : d < σ.nt) (hx : Rel w (imOf S N0 B w ρ (blk σ)) ρ x v) (hn : ∀ n ∈ names x, (blk σ n).isSome = true) :
    St0 D S N0 B w0 ρ { σ with tm := (d, x) :: σ.tm } (a.put (some d) v) w := by
  refine ⟨fun t y hy => ?_, h.hp, ⟨by simp [Act.put, h.nt.1], h.nt.2⟩, h.base, h.frm, h.own, h.defers⟩
  simp only [get] at hy
  split at hy
  · rename_i e
    subst e
    cases hy
    have : vl w0.γ (a.put (some d) v) d = v := by
      unfold vl
      rw [if_pos (Nat.lt_of_lt_of_le hd h.nt.2), Array.getD_eq_getD_getElem?]
      simp [Act.put, Array.getElem?_setIfInBounds_self, h.nt.1, hd]
    rw [this]
    exact ⟨hx, hn⟩
  · rename_i e
    have : vl w0.γ (a.put (some d) v) t = vl w0.γ a t := by
      unfold vl
      split
      · rw [Array.getD_eq_getD_getElem?, Array.getD_eq_getD_getElem?]
        simp [Act.put, Array.getElem?_setIfInBounds_ne e]
      · rfl
    rw [this]
    exact h.tm t y hy

theorem mem_keys {α : Type} {n : Nat} : ∀ {l : List (Nat × α)}, n ∈ keys l ↔ ∃ y, get n l = some y
  | [] => by simp [keys, get]
  | (k, v) :: r => by
    simp only [keys, List.mem_cons, get]
    by_cases h : k = n
    · simp [h]
    · have h' : ¬ n = k := fun e => h e.symm
      simp [h, h', mem_keys (l := r)]
theorem get_none {α : Type} {n : Nat} {l : List (Nat × α)} : get n l = none ↔ n ∉ keys l := by
  rw [mem_keys]
  cases h : get n l <;> simp

/-- where a bound name's block lies -/
theorem St0.named_lt (h : St0 D S N0 B w0 ρ σ a w) {n : Nat} {x : Blk} {b : Nat} (hn : blk σ n = some x) (hb : (ρ n).b = some b) : b < w.heap.size := by
  have hx := h.hp.blk n x hn
  cases x with
  | cells cs =>
    obtain ⟨b', arr, T, h1, h2, _⟩ := hx
    rw [hb] at h1
    cases h1
    exact (Array.getElem?_eq_some_iff.1 h2).1
  | rows e sz rs =>
    obtain ⟨_, _, _, A, c, _, _, _, h6⟩ := hx
    rcases h6 with ⟨_, _, _, h0⟩ | ⟨b', arr, h1, _, h2, _⟩
    · rw [hb] at h0; cases h0
    · rw [hb] at h1
      cases h1
      exact (Array.getElem?_eq_some_iff.1 h2).1

def stepS (σ : AS) (ks : List Nat) (nw up : List (Nat × Blk)) : AS := { nt := σ.nt, tm := (kill σ ks).tm, bl := here nw ++ here up ++ (kill σ ks).bl }
theorem blk_step (σ : AS) (ks : List Nat) (nw up : List (Nat × Blk)) (n : Nat) : blk (stepS σ ks nw up) n = match get n nw with
    | some y => some y
    | none => match get n up with
      | some y => some y
      | none => if n ∈ ks then none else (blk σ n).map (mapBlk (kl ks)) := by
  rw [← blk_kill]
  simp only [stepS, blk, get_append, get_here]
  cases get n nw with
  | some y => rfl
  | none =>
    simp only [Option.map_none]
    cases get n up with
    | some y => rfl
    | none => simp only [Option.map_none]

/-- a step of the machine: killed names, new blocks, what blocks hold then -/
theorem St0.step (h : St0 D S N0 B w0 ρ σ a w) {w' : World} {ρ' : Env} {ks : List Nat} {nw up : List (Nat × Blk)}
    (o1 : w'.os = w.os) (o2 : w'.tape = w.tape) (o3 : w'.output = w.output) (o4 : w.heap.size ≤ w'.heap.size)
    (c2 : ∀ b, b < w.heap.size → (∀ n x, n ∈ ks ∨ n ∈ keys up → blk σ n = some x → (ρ n).b ≠ some b) → w'.heap[b]? = w.heap[b]?)
    (c3 : ∀ n, (blk σ n).isSome = true → n ∉ ks → ρ' n = ρ n)
    (c4 : ∀ n, n ∈ keys nw → blk σ n = none) (c4' : ∀ n, n ∈ keys up → (blk σ n).isSome = true ∧ n ∉ ks)
    (c5 : (∀ b, imOf S N0 B w ρ (blk σ) b → imOf S N0 B w' ρ' (blk (stepS σ ks nw up)) b) → ∀ n y, get n nw = some y ∨ (get n nw = none ∧ get n up = some y) → BRel D w' (imOf S N0 B w' ρ' (blk (stepS σ ks nw up))) ρ' n y ∧ ∀ cs, y = .cells cs → ∀ m ∈ namess cs, (blk (stepS σ ks nw up) m).isSome = true)
    (c6 : ∀ n b, n ∈ keys nw → (ρ' n).b = some b → (w.heap.size ≤ b ∨ ∃ k x, k ∈ ks ∧ blk σ k = some x ∧ (ρ k).b = some b) ∧ b < w'.heap.size)
    (c7 : ∀ n m b, n ∈ keys nw → m ∈ keys nw → (ρ' n).b = some b → (ρ' m).b = some b → n = m) :
    St0 D S N0 B w0 ρ' (stepS σ ks nw up) a w' ∧ ∀ b, imOf S N0 B w ρ (blk σ) b → imOf S N0 B w' ρ' (blk (stepS σ ks nw up)) b ∧ w'.heap[b]? = w.heap[b]? := by
  -- what a bound name is behind the step
  have old : ∀ n x, blk (stepS σ ks nw up) n = some x → n ∉ keys nw → (∃ y, blk σ n = some y ∧ n ∉ ks) := by
    intro n x hx hn
    rw [blk_step, get_none.2 hn] at hx
    simp only at hx
    by_cases hu : n ∈ keys up
    · obtain ⟨h1, h2⟩ := c4' n hu
      exact ⟨_, (Option.isSome_iff_exists.1 h1).choose_spec, h2⟩
    · rw [get_none.2 hu] at hx
      simp only at hx
      split at hx
      · cases hx
      · rename_i hk
        obtain ⟨y, hy, _⟩ := mapBlk_some hx
        exact ⟨y, hy, hk⟩
  have him : ∀ b, imOf S N0 B w ρ (blk σ) b → imOf S N0 B w' ρ' (blk (stepS σ ks nw up)) b := by
    rintro b ⟨h1, h2, h3⟩
    refine ⟨by omega, h2, fun n x hx hb => ?_⟩
    by_cases hn : n ∈ keys nw
    · obtain ⟨h4, _⟩ := c6 n b hn hb
      rcases h4 with h4 | ⟨k, y, _, hy, hk⟩
      · omega
      · exact h3 k y hy hk
    · obtain ⟨y, hy, hk⟩ := old n x hx hn
      rw [c3 n (by rw [hy]; rfl) hk] at hb
      exact h3 n y hy hb
  have hw : ∀ b, imOf S N0 B w ρ (blk σ) b → w'.heap[b]? = w.heap[b]? := fun b hb => c2 b hb.1 fun n x _ hx hb' => hb.2.2 n x hx hb'
  have bnd : ∀ n, (blk σ n).isSome = true → n ∉ ks → (blk (stepS σ ks nw up) n).isSome = true := by
    intro n hn hk
    rw [blk_step]
    split
    · rfl
    · split
      · rfl
      · rw [if_neg hk]; simpa using hn
  have rel : ∀ x v, Rel w (imOf S N0 B w ρ (blk σ)) ρ x v → (∀ n ∈ names x, (blk σ n).isSome = true ∧ n ∉ ks) → Rel w' (imOf S N0 B w' ρ' (blk (stepS σ ks nw up))) ρ' x v :=
    fun x v hx hn => hx.mono him hw fun n hn' => c3 n (hn n hn').1 (hn n hn').2
  have size0 : B ≤ w.heap.size := Nat.le_trans h.base h.frm.size
  refine ⟨⟨fun t x hx => ?_, ⟨fun n x hx => ?_, fun n m b x y hx hy hb hb' => ?_, fun n x b hx hb hm => hm.2.2 n x hx hb, fun b hb => hb.1, fun n cs hx m hm => ?_⟩, h.nt, h.base, ?_, fun n x b hx hb => ?_, h.defers⟩, fun b hb => ⟨him b hb, hw b hb⟩⟩
  · obtain ⟨y, hy, hxy⟩ := get_tm_kill σ ks t x hx
    obtain ⟨h1, h2⟩ := h.tm t y hy
    rcases hxy with rfl | ⟨rfl, rfl⟩
    · have hnm : ∀ n ∈ names (kl ks y), (blk σ n).isSome = true ∧ n ∉ ks := fun n hn => ⟨h2 n (names_kl ks y n hn).1, (names_kl ks y n hn).2⟩
      exact ⟨rel _ _ (h1.kill ks) hnm, fun n hn => bnd n (hnm n hn).1 (hnm n hn).2⟩
    · exact ⟨rel _ _ h1 fun n hn => ⟨h2 n hn, by simp⟩, fun n hn => bnd n (h2 n hn) (by simp)⟩
  · by_cases hn : n ∈ keys nw
    · obtain ⟨y, hy⟩ := mem_keys.1 hn
      have : x = y := by rw [blk_step, hy] at hx; exact (Option.some.inj hx).symm
      subst this
      exact (c5 him n x (.inl hy)).1
    · have hn' := get_none.2 hn
      by_cases hu : n ∈ keys up
      · obtain ⟨y, hy⟩ := mem_keys.1 hu
        have : x = y := by rw [blk_step, hn', hy] at hx; exact (Option.some.inj hx).symm
        subst this
        exact (c5 him n x (.inr ⟨hn', hy⟩)).1
      · rw [blk_step, hn', get_none.2 hu] at hx
        simp only at hx
        split at hx
        · cases hx
        · rename_i hk
          obtain ⟨y, hy, rfl⟩ := mapBlk_some hx
          have hy' := h.hp.blk n y hy
          have hρn := c3 n (by rw [hy]; rfl) hk
          have hkeep : ∀ b, (ρ n).b = some b → w'.heap[b]? = w.heap[b]? := fun b hb => c2 b (h.named_lt hy hb) fun m z hm hz hb' => by
            have := h.hp.inj n m b y z hy hz hb hb'
            subst this
            rcases hm with hm | hm
            · exact hk hm
            · exact hu hm
          cases y with
          | rows e sz rs => exact hy'.mono hρn hkeep him hw (fun cs e => by cases e)
          | cells cs =>
            obtain ⟨b, arr, T, h1, h2, h3, h5⟩ := hy'
            refine ⟨b, arr, T, by rw [hρn]; exact h1, (hkeep b h1).trans h2, by simpa using h3, fun i x v hx' hv => ?_⟩
            rw [List.getElem?_map] at hx'
            obtain ⟨z, hz, rfl⟩ := Option.map_eq_some_iff.1 hx'
            refine ⟨(h5 i z v hz hv).1, rel _ v ((h5 i z v hz hv).2.kill ks) fun m hm => ?_⟩
            obtain ⟨q1, q2⟩ := names_kl ks z m hm
            exact ⟨h.hp.closed n cs hy m (mem_namess hz q1), q2⟩
  · by_cases hn : n ∈ keys nw
    · by_cases hm : m ∈ keys nw
      · exact c7 n m b hn hm hb hb'
      · exfalso
        obtain ⟨y', hy', hk'⟩ := old m y hy hm
        rw [c3 m (by rw [hy']; rfl) hk'] at hb'
        obtain ⟨h4, _⟩ := c6 n b hn hb
        rcases h4 with h4 | ⟨k, z, hk, hz, hkb⟩
        · have := h.named_lt hy' hb'; omega
        · have := h.hp.inj k m b z y' hz hy' hkb hb'
          subst this
          exact hk' hk
    · obtain ⟨x', hx', hk⟩ := old n x hx hn
      rw [c3 n (by rw [hx']; rfl) hk] at hb
      by_cases hm : m ∈ keys nw
      · exfalso
        obtain ⟨h4, _⟩ := c6 m b hm hb'
        rcases h4 with h4 | ⟨k, z, hk2, hz, hkb⟩
        · have := h.named_lt hx' hb; omega
        · have := h.hp.inj k n b z x' hz hx' hkb hb
          subst this
          exact hk hk2
      · obtain ⟨y', hy', hk'⟩ := old m y hy hm
        rw [c3 m (by rw [hy']; rfl) hk'] at hb'
        exact h.hp.inj n m b x' y' hx' hy' hb hb'
  · by_cases hn : n ∈ keys nw
    · obtain ⟨y, hy⟩ := mem_keys.1 hn
      have : Blk.cells cs = y := by rw [blk_step, hy] at hx; exact (Option.some.inj hx).symm
      exact (c5 him n y (.inl hy)).2 cs this.symm m hm
    · have hn' := get_none.2 hn
      by_cases hu : n ∈ keys up
      · obtain ⟨y, hy⟩ := mem_keys.1 hu
        have : Blk.cells cs = y := by rw [blk_step, hn', hy] at hx; exact (Option.some.inj hx).symm
        exact (c5 him n y (.inr ⟨hn', hy⟩)).2 cs this.symm m hm
      · rw [blk_step, hn', get_none.2 hu] at hx
        simp only at hx
        split at hx
        · cases hx
        · obtain ⟨y, hy, e⟩ := mapBlk_some hx
          cases y with
          | rows e' sz rs => cases e
          | cells cs' =>
            cases e
            obtain ⟨q1, q2⟩ := names_of_kls hm
            exact bnd m (h.hp.closed n cs' hy m q1) q2
  · refine ⟨o1.trans h.frm.os, o2.trans h.frm.tape, o3.trans h.frm.output, Nat.le_trans h.frm.size o4, fun b hb hN => ?_⟩
    refine (c2 b (by omega) fun n x _ hx hb' => ?_).trans (h.frm.block b hb hN)
    rcases h.own n x b hx hb' with h1 | h1
    · omega
    · exact hN h1
  · by_cases hn : n ∈ keys nw
    · obtain ⟨h4, _⟩ := c6 n b hn hb
      rcases h4 with h4 | ⟨k, z, hk, hz, hkb⟩
      · exact .inl (by omega)
      · exact h.own k z b hz hkb
    · obtain ⟨y, hy, hk⟩ := old n x hx hn
      rw [c3 n (by rw [hy]; rfl) hk] at hb
      exact h.own n y b hy hb
end
end Go.Proofs.Ytcgdjdlcecnanaa.Ab
