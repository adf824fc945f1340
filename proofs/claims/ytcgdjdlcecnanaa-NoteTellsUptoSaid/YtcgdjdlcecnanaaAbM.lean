/-
  Calls by contracts; guards; every operation of a region.
  No condition.
-/
import Derived.Test.YtcgdjdlcecnanaaAbL
namespace Go.Proofs.Ytcgdjdlcecnanaa.Ab
open Go
set_option linter.unusedVariables false
set_option linter.unusedSimpArgs false

/-- the region that an answer may read -/
def imR (w w' : World) (im : Nat → Prop) (ρo : Env) (k : Nat) (b : Nat) : Prop := b < w'.heap.size ∧ (im b ∨ w.heap.size ≤ b) ∧ ∀ m, m < k → (ρo m).b ≠ some b
/-- an answer, in memory -/
def ConPost (D : Nat → TI) (w : World) (im : Nat → Prop) (r : Res) (v : Value) (w' : World) : Prop :=
  Frm (fun _ => False) w.heap.size w w' ∧ ∃ ρo : Env,
    (∀ (k : Nat) e sz rs, r.own[k]? = some (e, sz, rs) → BRel D w' (imR w w' im ρo r.own.length) ρo k (.rows e sz rs) ∧ ∀ b, (ρo k).b = some b → w.heap.size ≤ b) ∧
    (∀ k l b, k < r.own.length → l < r.own.length → (ρo k).b = some b → (ρo l).b = some b → k = l) ∧
    Rel w' (imR w w' im ρo r.own.length) ρo r.v v ∧ ∀ n ∈ names r.v, n < r.own.length
/-- a contract: called with what reads as args, it answers r -/
def Con (P : Program) (D : Nat → TI) (f : Nat) (args : List AV) (r : Res) : Prop :=
  (∃ fn, P.funcs[f]? = some fn ∧ (fn.name == "runtime.NumGoroutine") = false ∧ fn.body.isNone = false) ∧
  ∀ (w : World) (im : Nat → Prop) (ρ : Env) (vs : Array Value), (∀ b, im b → b < w.heap.size) → Rels w im ρ args vs.toList →
    Calls P f vs w fun e w' => ∃ v, e = .returned v ∧ ConPost D w im r v w'
def GOk (P : Program) (D : Nat → TI) (G : Ctr) : Prop := ∀ f args r, G f args = some r → Con P D f args r

mutual
theorem scalar_rel {w w' : World} {im im' : Nat → Prop} {ρ ρ' : Env} : ∀ {x : AV} {v : Value}, scalar x = true → Rel w im ρ x v → Rel w' im' ρ' x v
  | .int k n, v, _, h => by rw [h.int_]; exact .int k n
  | .bool b, v, _, h => by rw [h.bool_]; exact .bool b
  | .str l, v, _, h => by rw [h.str_]; exact .str l
  | .agg cs, v, hs, h => by
    rw [scalar] at hs
    cases h with
    | agg cs vs hl h1 hval => exact .agg cs vs hl h1 fun i x v hx hv => scalars_rel hs hx (hval i x v hx hv)
  | .tup cs, v, hs, h => by
    rw [scalar] at hs
    cases h with
    | tup cs vs hl hval => exact .tup cs vs hl fun i x v hx hv => scalars_rel hs hx (hval i x v hx hv)
  | .junk, _, hs, _ => by simp [scalar] at hs
  | .nils, _, hs, _ => by simp [scalar] at hs
  | .sl _ _, _, hs, _ => by simp [scalar] at hs
  | .os _, _, hs, _ => by simp [scalar] at hs
  | .ptr _ _, _, hs, _ => by simp [scalar] at hs
  | .iptr _, _, hs, _ => by simp [scalar] at hs
  | .eptr _ _ _, _, hs, _ => by simp [scalar] at hs
  | .func _ _, _, hs, _ => by simp [scalar] at hs
  | .opt _ _, _, hs, _ => by simp [scalar] at hs
theorem scalars_rel {w w' : World} {im im' : Nat → Prop} {ρ ρ' : Env} : ∀ {cs : List AV} {i : Nat} {x : AV} {v : Value}, scalars cs = true → cs[i]? = some x → Rel w im ρ x v → Rel w' im' ρ' x v
  | [], _, _, _, _, hx, _ => by simp at hx
  | c :: r, 0, x, v, hs, hx, h => by
    simp only [scalars, Bool.and_eq_true] at hs
    simp at hx
    subst hx
    exact scalar_rel hs.1 h
  | c :: r, i + 1, x, v, hs, hx, h => by
    simp only [scalars, Bool.and_eq_true] at hs
    exact scalars_rel hs.2 (by simpa using hx) h
end
mutual
theorem scalar_names : ∀ {x : AV}, scalar x = true → names x = []
  | .int k n, _ => by simp [names]
  | .bool b, _ => by simp [names]
  | .str l, _ => by simp [names]
  | .agg cs, hs => by rw [scalar] at hs; rw [names]; exact scalars_names hs
  | .tup cs, hs => by rw [scalar] at hs; rw [names]; exact scalars_names hs
  | .junk, hs => by simp [scalar] at hs
  | .nils, hs => by simp [scalar] at hs
  | .sl _ _, hs => by simp [scalar] at hs
  | .os _, hs => by simp [scalar] at hs
  | .ptr _ _, hs => by simp [scalar] at hs
  | .iptr _, hs => by simp [scalar] at hs
  | .eptr _ _ _, hs => by simp [scalar] at hs
  | .func _ _, hs => by simp [scalar] at hs
  | .opt _ _, hs => by simp [scalar] at hs
theorem scalars_names : ∀ {cs : List AV}, scalars cs = true → namess cs = []
  | [], _ => rfl
  | c :: r, hs => by
    simp only [scalars, Bool.and_eq_true] at hs
    rw [namess, scalar_names hs.1, scalars_names hs.2]
    rfl
end
theorem rens_eq (m : Nat) : ∀ cs : List AV, rens m cs = cs.map (ren m)
  | [] => by simp [rens]
  | c :: r => by simp [rens, rens_eq m r]
theorem okRess_mem : ∀ {cs : List AV} {i : Nat} {x : AV}, okRess cs = true → cs[i]? = some x → okRes x = true
  | [], _, _, _, h => by simp at h
  | c :: r, 0, x, hs, h => by simp only [okRess, Bool.and_eq_true] at hs; simp at h; subst h; exact hs.1
  | c :: r, i + 1, x, hs, h => by simp only [okRess, Bool.and_eq_true] at hs; exact okRess_mem hs.2 (by simpa using h)

/-- an answer's names, renamed -/
theorem Rel.ren {w : World} {im im' : Nat → Prop} {ρ ρ' : Env} {m K : Nat} {x : AV} {v : Value} (h : Rel w im ρ x v) (him : ∀ b, im b → im' b) (hok : okRes x = true) (hn : ∀ n ∈ names x, n < K) (hρ : ∀ k, k < K → (ρ' (m + 4096 * (k + 1))).sv = (ρ k).sv) :
    Rel w im' ρ' (ren m x) v := by
  induction h with
  | int k n => simp only [Ab.ren]; exact .int k n
  | bool b => simp only [Ab.ren]; exact .bool b
  | str l => simp only [Ab.ren]; exact .str l
  | nils => simp only [Ab.ren]; exact .nils
  | sl sz rs A c b o val hc hm hA hrow hcell hval ih =>
    simp only [Ab.ren]
    refine (Rel.sl sz rs A c b o val hc hm hA hrow hcell hval).mono him (fun _ _ => rfl) (fun n hn => by simp [names] at hn)
  | os t =>
    simp only [Ab.ren]
    rw [← hρ t (hn t (by simp [names]))]
    exact .os _
  | agg cs vs hl h1 hval ih =>
    simp only [Ab.ren, rens_eq]
    rw [okRes] at hok
    refine .agg _ vs (by simpa using hl) h1 fun i x v h1 h2 => ?_
    rw [List.getElem?_map] at h1
    obtain ⟨y, hy, rfl⟩ := Option.map_eq_some_iff.1 h1
    exact ih i y v hy h2 (okRess_mem hok hy) fun n hn' => hn n (by rw [names]; exact mem_namess hy hn')
  | tup cs vs hl hval ih =>
    simp only [Ab.ren, rens_eq]
    rw [okRes] at hok
    refine .tup _ vs (by simpa using hl) fun i x v h1 h2 => ?_
    rw [List.getElem?_map] at h1
    obtain ⟨y, hy, rfl⟩ := Option.map_eq_some_iff.1 h1
    exact ih i y v hy h2 (okRess_mem hok hy) fun n hn' => hn n (by rw [names]; exact mem_namess hy hn')
  | junk v => simp [okRes] at hok
  | ptr v off b h => simp [okRes] at hok
  | iptr cs b o val hb hcell hval => simp [okRes] at hok
  | eptr t i off b h => simp [okRes] at hok
  | func f cs vs hl hval => simp [okRes] at hok
  | opt g x v h1 h2 => simp [okRes] at hok
mutual
theorem names_ren_mem {m n : Nat} : ∀ (x : AV), okRes x = true → n ∈ names (Ab.ren m x) → ∃ k ∈ names x, n = m + 4096 * (k + 1)
  | .os t, _, h => by simp [Ab.ren, names] at h; exact ⟨t, by simp [names], h⟩
  | .agg cs, hok, h => by simp only [Ab.ren, names] at h; rw [okRes] at hok; rw [names]; exact names_rens_mem cs hok h
  | .tup cs, hok, h => by simp only [Ab.ren, names] at h; rw [okRes] at hok; rw [names]; exact names_rens_mem cs hok h
  | .junk, hok, _ => by simp [okRes] at hok
  | .int _ _, _, h => by simp [Ab.ren, names] at h
  | .bool _, _, h => by simp [Ab.ren, names] at h
  | .str _, _, h => by simp [Ab.ren, names] at h
  | .nils, _, h => by simp [Ab.ren, names] at h
  | .sl _ _, _, h => by simp [Ab.ren, names] at h
  | .ptr _ _, hok, _ => by simp [okRes] at hok
  | .iptr _, hok, _ => by simp [okRes] at hok
  | .eptr _ _ _, hok, _ => by simp [okRes] at hok
  | .func _ _, hok, _ => by simp [okRes] at hok
  | .opt _ _, hok, _ => by simp [okRes] at hok
theorem names_rens_mem {m n : Nat} : ∀ (cs : List AV), okRess cs = true → n ∈ namess (Ab.rens m cs) → ∃ k ∈ namess cs, n = m + 4096 * (k + 1)
  | [], _, h => by simp [rens, namess] at h
  | c :: r, hok, h => by
    simp only [okRess, Bool.and_eq_true] at hok
    simp only [rens, namess, List.mem_append] at h
    rcases h with h | h
    · obtain ⟨k, hk, e⟩ := names_ren_mem c hok.1 h
      exact ⟨k, by rw [namess]; exact List.mem_append_left _ hk, e⟩
    · obtain ⟨k, hk, e⟩ := names_rens_mem r hok.2 h
      exact ⟨k, by rw [namess]; exact List.mem_append_right _ hk, e⟩
end

theorem get_ownBl (m : Nat) : ∀ (os : List (Nat × Nat × List (List AV))) (k n : Nat) (y : Blk), get n (ownBl m k os) = some y → ∃ j e sz rs, os[j]? = some (e, sz, rs) ∧ n = m + 4096 * (k + j + 1) ∧ y = .rows e sz rs
  | [], _, _, _, h => by simp [ownBl, get] at h
  | (e, sz, rs) :: r, k, n, y, h => by
    simp only [ownBl, get] at h
    split at h
    · rename_i heq
      cases h
      exact ⟨0, e, sz, rs, rfl, by rw [Nat.add_zero]; exact heq.symm, rfl⟩
    · obtain ⟨j, e', sz', rs', h1, h2, h3⟩ := get_ownBl m r (k + 1) n y h
      exact ⟨j + 1, e', sz', rs', by simpa using h1, by rw [h2]; congr 2; omega, h3⟩
theorem ownBl_get (m : Nat) : ∀ (os : List (Nat × Nat × List (List AV))) (k j : Nat), j < os.length → (get (m + 4096 * (k + j + 1)) (ownBl m k os)).isSome = true
  | [], _, _, h => by simp at h
  | (e, sz, rs) :: r, k, j, h => by
    simp only [ownBl, get]
    split
    · rfl
    · rename_i hne
      cases j with
      | zero => exact absurd rfl hne
      | succ j =>
        have := ownBl_get m r (k + 1) j (by simpa using h)
        rw [show k + (j + 1) + 1 = k + 1 + j + 1 by omega]
        exact this

section
variable {P : Program} {D : Nat → TI} {G : Ctr} {S N0 : Nat → Prop} {B : Nat} {w0 : W0} {ρ : Env} {σ : AS} {a : Act} {w : World}

/-- what a callee leaves, in the caller's state -/
theorem call_step (h : St0 D S N0 B w0 ρ σ a w) {all : List AV} {dst : Nat} {r : Res} {e : Eff} {v : Value} {w' : World}
    (he : effRes dst all (some r) = some e) (hf : unbound σ (keys e.nw) = true) (hpost : ConPost D w (Im S N0 B w ρ (freeze σ (osIn all))) r v w') : Mak D S N0 B w0 σ a e v w' := by
  obtain ⟨hfrm, ρo, hown, hinj, hrel, hnm⟩ := hpost
  obtain ⟨rv, own⟩ := r
  have size0 : B ≤ w.heap.size := Nat.le_trans h.base h.frm.size
  cases own with
  | nil =>
    simp only [effRes] at he
    split at he
    · rename_i hs
      cases he
      refine ⟨ρ, ?_, scalar_rel hs hrel, by rw [scalar_names hs]; simp⟩
      exact (h.step (ks := []) (nw := []) (up := []) hfrm.os hfrm.tape hfrm.output hfrm.size (fun b hb _ => hfrm.block b hb (by simp)) (fun _ _ _ => rfl) (fun m hm => by simp [keys] at hm) (fun m hm => by simp [keys] at hm)
        (fun _ n y hy => by simp [get] at hy) (fun n b hn => by simp [keys] at hn) (fun n m b hn => by simp [keys] at hn)).1
    · split at he
      · rename_i hs hok
        cases he
        have hfz := h.freeze (osIn all)
        have hst := hfz.step (w' := w') (ρ' := ρ) (ks := []) (nw := []) (up := []) hfrm.os hfrm.tape hfrm.output hfrm.size (fun b hb _ => hfrm.block b hb (by simp)) (fun _ _ _ => rfl) (fun m hm => by simp [keys] at hm) (fun m hm => by simp [keys] at hm)
          (fun _ n y hy => by simp [get] at hy) (fun n b hn => by simp [keys] at hn) (fun n m b hn => by simp [keys] at hn)
        have hno : names rv = [] := by
          refine List.eq_nil_iff_forall_not_mem.2 fun n hn => ?_
          have := hnm n hn
          simp at this
        refine ⟨ρ, hst.1, hrel.mono (fun b hb => ?_) (fun _ _ => rfl) (fun n hn => by rw [hno] at hn; cases hn), by rw [hno]; simp⟩
        rcases hb.2.1 with hb' | hb'
        · exact (hst.2 b hb').1
        · refine ⟨hb.1, .inr (.inl (by omega)), fun n x hx hbn => ?_⟩
          rw [stepS_nil] at hx
          have := hfz.named_lt hx hbn
          omega
      · cases he
  | cons o os =>
    simp only [effRes] at he
    split at he
    case isFalse => cases he
    rename_i hok
    cases he
    simp only at hf
    generalize hq : o :: os = own at *
    have hfz := h.freeze (osIn all)
    have hub : ∀ n, n ∈ keys (ownBl dst 0 own) → blk (freeze σ (osIn all)) n = none := by
      intro n hn
      rw [blk_freeze, unbound_mem hf n hn]
      split <;> rfl
    -- the caller's names
    let ρ' : Env := fun n => if n ∈ keys (ownBl dst 0 own) then ρo ((n - dst) / 4096 - 1) else ρ n
    have hkey : ∀ k, k < own.length → (dst + 4096 * (k + 1)) ∈ keys (ownBl dst 0 own) := by
      intro k hk
      have := ownBl_get dst own 0 k hk
      rw [Nat.zero_add] at this
      exact mem_keys.2 (Option.isSome_iff_exists.1 this)
    have hρk : ∀ k, k < own.length → ρ' (dst + 4096 * (k + 1)) = ρo k := by
      intro k hk
      show (if _ then _ else _) = _
      rw [if_pos (hkey k hk)]
      congr 1
      omega
    have hρn : ∀ n, n ∉ keys (ownBl dst 0 own) → ρ' n = ρ n := by
      intro n hn
      show (if _ then _ else _) = _
      rw [if_neg hn]
    have hbnd : ∀ n, (blk (freeze σ (osIn all)) n).isSome = true → n ∉ keys (ownBl dst 0 own) := by
      intro n hn hk
      rw [hub n hk] at hn
      cases hn
    have hidx : ∀ n, n ∈ keys (ownBl dst 0 own) → ∃ k, k < own.length ∧ n = dst + 4096 * (k + 1) := by
      intro n hn
      obtain ⟨y, hy⟩ := mem_keys.1 hn
      obtain ⟨j, e', sz, rs, h1, h2, _⟩ := get_ownBl dst own 0 n y hy
      exact ⟨j, (List.getElem?_eq_some_iff.1 h1).1, by rw [h2, Nat.zero_add]⟩
    have hob : ∀ k b, k < own.length → (ρo k).b = some b → w.heap.size ≤ b ∧ b < w'.heap.size := by
      intro k b hk hb
      obtain ⟨e', sz, rs⟩ : ∃ e' sz, ∃ rs : List (List AV), own[k]? = some (e', sz, rs) := ⟨own[k].1, own[k].2.1, own[k].2.2, by simp [hk]⟩
      obtain ⟨rs, hrs⟩ := rs
      obtain ⟨q1, q2⟩ := hown k e' sz rs hrs
      refine ⟨q2 b hb, ?_⟩
      obtain ⟨_, _, _, A, c, _, _, _, q3⟩ := q1
      rcases q3 with ⟨_, _, _, q4⟩ | ⟨b', arr, q4, _, q5, _⟩
      · rw [hb] at q4; cases q4
      · rw [hb] at q4
        cases q4
        exact (Array.getElem?_eq_some_iff.1 q5).1
    have himR : (∀ b, Im S N0 B w ρ (freeze σ (osIn all)) b → imOf S N0 B w' ρ' (blk (stepS (freeze σ (osIn all)) [] (ownBl dst 0 own) [])) b) → ∀ b, imR w w' (Im S N0 B w ρ (freeze σ (osIn all))) ρo own.length b → imOf S N0 B w' ρ' (blk (stepS (freeze σ (osIn all)) [] (ownBl dst 0 own) [])) b := by
      intro him b hb
      rcases hb.2.1 with hb' | hb'
      · exact him b hb'
      · refine ⟨hb.1, .inr (.inl (by omega)), fun n x hx hbn => ?_⟩
        by_cases hn : n ∈ keys (ownBl dst 0 own)
        · obtain ⟨k, hk, rfl⟩ := hidx n hn
          rw [hρk k hk] at hbn
          exact hb.2.2 k hk hbn
        · rw [hρn n hn] at hbn
          rw [blk_step, get_none.2 hn] at hx
          simp only [get, List.not_mem_nil, if_false] at hx
          obtain ⟨y, hy, _⟩ := mapBlk_some hx
          have := hfz.named_lt hy hbn
          omega
    have hst := hfz.step (w' := w') (ρ' := ρ') (ks := []) (nw := ownBl dst 0 own) (up := []) hfrm.os hfrm.tape hfrm.output hfrm.size (fun b hb _ => hfrm.block b hb (by simp)) (fun n hn _ => hρn n (hbnd n hn)) hub (fun m hm => by simp [keys] at hm)
      (fun him n y hy => by
        have hy' : get n (ownBl dst 0 own) = some y := by
          rcases hy with hy | ⟨_, hy⟩
          · exact hy
          · simp [get] at hy
        obtain ⟨j, e', sz, rs, h1, h2, rfl⟩ := get_ownBl dst own 0 n y hy'
        rw [Nat.zero_add] at h2
        subst h2
        have hj := (List.getElem?_eq_some_iff.1 h1).1
        refine ⟨?_, fun cs e => by cases e⟩
        obtain ⟨q1, q2, q3, A, c, q4, q5, q6, q7⟩ := (hown j e' sz rs h1).1
        refine ⟨by rw [hρk j hj]; exact q1, q2, q3, A, c, by rw [hρk j hj]; exact q4, q5, q6, ?_⟩
        rcases q7 with ⟨z1, z2, z3, z4⟩ | ⟨b, arr, z1, z2, z3, z4, z5⟩
        · exact .inl ⟨z1, z2, z3, by rw [hρk j hj]; exact z4⟩
        · refine .inr ⟨b, arr, by rw [hρk j hj]; exact z1, z2, z3, z4, fun i row hi => ⟨(z5 i row hi).1, fun j' x hx => ?_⟩⟩
          obtain ⟨y1, u, y2, y3, y4⟩ := (z5 i row hi).2 j' x hx
          exact ⟨y1, u, y2, y3, y4.mono (himR him) (fun _ _ => rfl) fun m hm => by rw [y1] at hm; cases hm⟩)
      (fun n b hn hb => by
        obtain ⟨k, hk, rfl⟩ := hidx n hn
        rw [hρk k hk] at hb
        exact ⟨.inl (hob k b hk hb).1, (hob k b hk hb).2⟩)
      (fun n m b hn hm hb hb' => by
        obtain ⟨k, hk, rfl⟩ := hidx n hn
        obtain ⟨l, hl, rfl⟩ := hidx m hm
        rw [hρk k hk] at hb
        rw [hρk l hl] at hb'
        rw [hinj k l b hk hl hb hb'])
    refine ⟨ρ', hst.1, ?_, fun n hn => ?_⟩
    · exact Rel.ren (K := own.length) hrel (himR fun b hb => (hst.2 b hb).1) hok hnm fun k hk => by rw [hρk k hk]
    · obtain ⟨k, hk, rfl⟩ := names_ren_mem rv hok hn
      have hk' := hkey k (hnm k hk)
      obtain ⟨y, hy⟩ := mem_keys.1 hk'
      show (blk (stepS (freeze σ (osIn all)) [] (ownBl dst 0 own) []) _).isSome = true
      rw [blk_step, hy]
      rfl
end
end Go.Proofs.Ytcgdjdlcecnanaa.Ab
