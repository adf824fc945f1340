/-
  Texts of the proof, one behind the other: AbM AbN AbO AbP AbQ AbR AbS AbT AbU AbTy AbV AbW AbX AbY AbZ.
  No condition but those that each theorem names.
-/
import Derived.Test.YtmlejhpeoiicpaaGreatDoorGB
import Derived.Orders
import Derived.LoopN
import Derived.Tactics
import Derived.Test.YtmlejhpeoiicpaaGreatDoorChecked
import Derived.Test.YtmlejhpeoiicpaaGreatDoorGA
import Derived.Attr
namespace Go.Proofs.YtmlejhpeoiicpaaGreatDoor.Ab
open Go
set_option linter.unusedVariables false
set_option linter.unusedSimpArgs false

/-- the region that an answer may read -/
def imR (w w' : World) (im : Nat → Prop) (ρo : Env) (k : Nat) (b : Nat) : Prop := b < w'.heap.size ∧ (im b ∨ w.heap.size ≤ b) ∧ ∀ m, m < k → (ρo m).b ≠ some b
/-- an answer, in memory -/
def ConPost (D : Nat → TI) (w : World) (im : Nat → Prop) (r : Res) (v : Value) (w' : World) : Prop :=
  Frm (fun _ => False) w.heap.size w w' ∧ ∃ ρo : Env,
    (∀ (k : Nat) e sz rs, r.own[k]? = some (e, sz, rs) → BRel D w' (imR w w' im ρo r.own.length) ρo k (.rows e sz rs) ∧ ∀ b, (ρo k).b = some b → w.heap.size ≤ b) ∧
    (∀ k l b, k < r.own.length → l < r.own.length → (ρo k).b = some b → (ρo l).b = some b → k = l) ∧
    Rel w' (imR w w' im ρo r.own.length) ρo r.v v ∧ ∀ n ∈ names r.v, n < r.own.length
/-- a contract: called with what reads as args, it answers r -/
def Con (P : Program) (D : Nat → TI) (f : Nat) (args : List AV) (r : Res) : Prop :=
  (∃ fn, P.funcs[f]? = some fn ∧ (fn.name == "runtime.NumGoroutine") = false ∧ fn.body.isNone = false) ∧
  ∀ (w : World) (im : Nat → Prop) (ρ : Env) (vs : Array Value), ImOk w im → Rels w im ρ args vs.toList →
    Calls P f vs w fun e w' => ∃ v, e = .returned v ∧ ConPost D w im r v w'
def GOk (P : Program) (D : Nat → TI) (G : Ctr) : Prop := ∀ f args r, G f args = some r → Con P D f args r

mutual
theorem scalar_rel {w w' : World} {im im' : Nat → Prop} {ρ ρ' : Env} : ∀ {x : AV} {v : Value}, scalar x = true → Rel w im ρ x v → Rel w' im' ρ' x v
  | .int k n, v, _, h => by rw [h.int_]; exact .int k n
  | .bool b, v, _, h => by rw [h.bool_]; exact .bool b
  | .str l, v, _, h => by rw [h.str_]; exact .str l
  | .agg cs, v, hs, h => by
    rw [scalar] at hs
    cases h with
    | agg cs vs hl h1 hval => exact .agg cs vs hl h1 fun i x v hx hv => scalars_rel hs hx (hval i x v hx hv)
  | .tup cs, v, hs, h => by
    rw [scalar] at hs
    cases h with
    | tup cs vs hl hval => exact .tup cs vs hl fun i x v hx hv => scalars_rel hs hx (hval i x v hx hv)
  | .junk, _, hs, _ => by simp [scalar] at hs
  | .nils, _, hs, _ => by simp [scalar] at hs
  | .sl _ _, _, hs, _ => by simp [scalar] at hs
  | .os _, _, hs, _ => by simp [scalar] at hs
  | .ptr _ _, _, hs, _ => by simp [scalar] at hs
  | .tsl _ _, _, hs, _ => by simp [scalar] at hs
  | .psl _ _, _, hs, _ => by simp [scalar] at hs
  | .iptr _, _, hs, _ => by simp [scalar] at hs
  | .lsl _, _, hs, _ => by simp [scalar] at hs
  | .imap _, _, hs, _ => by simp [scalar] at hs
  | .nilp, _, hs, _ => by simp [scalar] at hs
  | .ifc _, _, hs, _ => by simp [scalar] at hs
  | .eptr _ _ _, _, hs, _ => by simp [scalar] at hs
  | .func _ _, _, hs, _ => by simp [scalar] at hs
  | .opt _ _, _, hs, _ => by simp [scalar] at hs
theorem scalars_rel {w w' : World} {im im' : Nat → Prop} {ρ ρ' : Env} : ∀ {cs : List AV} {i : Nat} {x : AV} {v : Value}, scalars cs = true → cs[i]? = some x → Rel w im ρ x v → Rel w' im' ρ' x v
  | [], _, _, _, _, hx, _ => by simp at hx
  | c :: r, 0, x, v, hs, hx, h => by
    simp only [scalars, Bool.and_eq_true] at hs
    simp at hx
    subst hx
    exact scalar_rel hs.1 h
  | c :: r, i + 1, x, v, hs, hx, h => by
    simp only [scalars, Bool.and_eq_true] at hs
    exact scalars_rel hs.2 (by simpa using hx) h
end
mutual
theorem scalar_names : ∀ {x : AV}, scalar x = true → names x = []
  | .int k n, _ => by simp [names]
  | .bool b, _ => by simp [names]
  | .str l, _ => by simp [names]
  | .agg cs, hs => by rw [scalar] at hs; rw [names]; exact scalars_names hs
  | .tup cs, hs => by rw [scalar] at hs; rw [names]; exact scalars_names hs
  | .junk, hs => by simp [scalar] at hs
  | .nils, hs => by simp [scalar] at hs
  | .sl _ _, hs => by simp [scalar] at hs
  | .os _, hs => by simp [scalar] at hs
  | .ptr _ _, hs => by simp [scalar] at hs
  | .tsl _ _, hs => by simp [scalar] at hs
  | .psl _ _, hs => by simp [scalar] at hs
  | .iptr _, hs => by simp [scalar] at hs
  | .lsl _, hs => by simp [scalar] at hs
  | .imap _, hs => by simp [scalar] at hs
  | .nilp, hs => by simp [scalar] at hs
  | .ifc _, hs => by simp [scalar] at hs
  | .eptr _ _ _, hs => by simp [scalar] at hs
  | .func _ _, hs => by simp [scalar] at hs
  | .opt _ _, hs => by simp [scalar] at hs
theorem scalars_names : ∀ {cs : List AV}, scalars cs = true → namess cs = []
  | [], _ => rfl
  | c :: r, hs => by
    simp only [scalars, Bool.and_eq_true] at hs
    rw [namess, scalar_names hs.1, scalars_names hs.2]
    rfl
end
theorem rens_eq (m : Nat) : ∀ cs : List AV, rens m cs = cs.map (ren m)
  | [] => by simp [rens]
  | c :: r => by simp [rens, rens_eq m r]
theorem okRess_mem : ∀ {cs : List AV} {i : Nat} {x : AV}, okRess cs = true → cs[i]? = some x → okRes x = true
  | [], _, _, _, h => by simp at h
  | c :: r, 0, x, hs, h => by simp only [okRess, Bool.and_eq_true] at hs; simp at h; subst h; exact hs.1
  | c :: r, i + 1, x, hs, h => by simp only [okRess, Bool.and_eq_true] at hs; exact okRess_mem hs.2 (by simpa using h)

/-- an answer's names, renamed -/
theorem Rel.ren {w : World} {im im' : Nat → Prop} {ρ ρ' : Env} {m K : Nat} {x : AV} {v : Value} (h : Rel w im ρ x v) (him : ∀ b, im b → im' b) (hok : okRes x = true) (hn : ∀ n ∈ names x, n < K) (hρ : ∀ k, k < K → (ρ' (m + 4096 * (k + 1))).sv = (ρ k).sv) :
    Rel w im' ρ' (ren m x) v := by
  induction h with
  | int k n => simp only [Ab.ren]; exact .int k n
  | bool b => simp only [Ab.ren]; exact .bool b
  | str l => simp only [Ab.ren]; exact .str l
  | nils => simp only [Ab.ren]; exact .nils
  | sl sz rs A c b o val hc hm hA hrow hcell hval ih =>
    simp only [Ab.ren]
    refine (Rel.sl sz rs A c b o val hc hm hA hrow hcell hval).mono him (fun _ _ => rfl) (fun n hn => by simp [names] at hn)
  | os t =>
    simp only [Ab.ren]
    rw [← hρ t (hn t (by simp [names]))]
    exact .os _
  | agg cs vs hl h1 hval ih =>
    simp only [Ab.ren, rens_eq]
    rw [okRes] at hok
    refine .agg _ vs (by simpa using hl) h1 fun i x v h1 h2 => ?_
    rw [List.getElem?_map] at h1
    obtain ⟨y, hy, rfl⟩ := Option.map_eq_some_iff.1 h1
    exact ih i y v hy h2 (okRess_mem hok hy) fun n hn' => hn n (by rw [names]; exact mem_namess hy hn')
  | tup cs vs hl hval ih =>
    simp only [Ab.ren, rens_eq]
    rw [okRes] at hok
    refine .tup _ vs (by simpa using hl) fun i x v h1 h2 => ?_
    rw [List.getElem?_map] at h1
    obtain ⟨y, hy, rfl⟩ := Option.map_eq_some_iff.1 h1
    exact ih i y v hy h2 (okRess_mem hok hy) fun n hn' => hn n (by rw [names]; exact mem_namess hy hn')
  | junk v => simp [okRes] at hok
  | ptr v off b h => simp [okRes] at hok
  | iptr cs b o val hb hcell hval => simp [okRes] at hok
  | eptr t i off b h => simp [okRes] at hok
  | lsl n A c hc hm => simp [okRes] at hok
  | imap es b c arr hb ho he => simp [okRes] at hok
  | nilp => simp [okRes] at hok
  | ifc b v h => simp only [Ab.ren]; exact .ifc b v h
  | tsl t i b A' h hA => simp [okRes] at hok
  | psl t n c b h hc hm => simp [okRes] at hok
  | func f cs vs hl hval => simp [okRes] at hok
  | opt g x v h1 h2 => simp [okRes] at hok
mutual
theorem names_ren_mem {m n : Nat} : ∀ (x : AV), okRes x = true → n ∈ names (Ab.ren m x) → ∃ k ∈ names x, n = m + 4096 * (k + 1)
  | .os t, _, h => by simp [Ab.ren, names] at h; exact ⟨t, by simp [names], h⟩
  | .agg cs, hok, h => by simp only [Ab.ren, names] at h; rw [okRes] at hok; rw [names]; exact names_rens_mem cs hok h
  | .tup cs, hok, h => by simp only [Ab.ren, names] at h; rw [okRes] at hok; rw [names]; exact names_rens_mem cs hok h
  | .junk, hok, _ => by simp [okRes] at hok
  | .int _ _, _, h => by simp [Ab.ren, names] at h
  | .bool _, _, h => by simp [Ab.ren, names] at h
  | .str _, _, h => by simp [Ab.ren, names] at h
  | .nils, _, h => by simp [Ab.ren, names] at h
  | .sl _ _, _, h => by simp [Ab.ren, names] at h
  | .ptr _ _, hok, _ => by simp [okRes] at hok
  | .tsl _ _, hok, _ => by simp [okRes] at hok
  | .psl _ _, hok, _ => by simp [okRes] at hok
  | .iptr _, hok, _ => by simp [okRes] at hok
  | .lsl _, hok, _ => by simp [okRes] at hok
  | .imap _, hok, _ => by simp [okRes] at hok
  | .nilp, hok, _ => by simp [okRes] at hok
  | .ifc _, _, h => by simp [Ab.ren, names] at h
  | .eptr _ _ _, hok, _ => by simp [okRes] at hok
  | .func _ _, hok, _ => by simp [okRes] at hok
  | .opt _ _, hok, _ => by simp [okRes] at hok
theorem names_rens_mem {m n : Nat} : ∀ (cs : List AV), okRess cs = true → n ∈ namess (Ab.rens m cs) → ∃ k ∈ namess cs, n = m + 4096 * (k + 1)
  | [], _, h => by simp [rens, namess] at h
  | c :: r, hok, h => by
    simp only [okRess, Bool.and_eq_true] at hok
    simp only [rens, namess, List.mem_append] at h
    rcases h with h | h
    · obtain ⟨k, hk, e⟩ := names_ren_mem c hok.1 h
      exact ⟨k, by rw [namess]; exact List.mem_append_left _ hk, e⟩
    · obtain ⟨k, hk, e⟩ := names_rens_mem r hok.2 h
      exact ⟨k, by rw [namess]; exact List.mem_append_right _ hk, e⟩
end

theorem get_ownBl (m : Nat) : ∀ (os : List (Nat × Nat × List (List AV))) (k n : Nat) (y : Blk), get n (ownBl m k os) = some y → ∃ j e sz rs, os[j]? = some (e, sz, rs) ∧ n = m + 4096 * (k + j + 1) ∧ y = .rows e sz rs
  | [], _, _, _, h => by simp [ownBl, get] at h
  | (e, sz, rs) :: r, k, n, y, h => by
    simp only [ownBl, get] at h
    split at h
    · rename_i heq
      cases h
      exact ⟨0, e, sz, rs, rfl, by rw [Nat.add_zero]; exact heq.symm, rfl⟩
    · obtain ⟨j, e', sz', rs', h1, h2, h3⟩ := get_ownBl m r (k + 1) n y h
      exact ⟨j + 1, e', sz', rs', by simpa using h1, by rw [h2]; congr 2; omega, h3⟩
theorem ownBl_get (m : Nat) : ∀ (os : List (Nat × Nat × List (List AV))) (k j : Nat), j < os.length → (get (m + 4096 * (k + j + 1)) (ownBl m k os)).isSome = true
  | [], _, _, h => by simp at h
  | (e, sz, rs) :: r, k, j, h => by
    simp only [ownBl, get]
    split
    · rfl
    · rename_i hne
      cases j with
      | zero => exact absurd rfl hne
      | succ j =>
        have := ownBl_get m r (k + 1) j (by simpa using h)
        rw [show k + (j + 1) + 1 = k + 1 + j + 1 by omega]
        exact this

section
variable {P : Program} {D : Nat → TI} {G : Ctr} {S N0 : Nat → Prop} {B : Nat} {w0 : W0} {ρ : Env} {σ : AS} {a : Act} {w : World}

theorem St0.imOk (h : St0 D S N0 B w0 ρ σ a w) : ImOk w (Im S N0 B w ρ σ) := by
  obtain ⟨h1, h2, h3⟩ := h.base
  refine ⟨fun b hb => hb.1, fun b hb => ?_, h3.stays fun b hb => h.frm.block b (h2 b hb).2.1 (h2 b hb).2.2⟩
  obtain ⟨q1, q2, q3⟩ := h2 b hb
  refine ⟨Nat.lt_of_lt_of_le q2 (Nat.le_trans h1 h.frm.size), .inl q1, fun n x hx hn => ?_⟩
  rcases h.own n x b hx hn with q | q
  · omega
  · exact q3 q
/-- what a callee leaves, in the caller's state -/
theorem call_step (h : St0 D S N0 B w0 ρ σ a w) {all : List AV} {dst : Nat} {r : Res} {e : Eff} {v : Value} {w' : World}
    (he : effRes dst all (some r) = some e) (hf : unbound σ (keys e.nw) = true) (hpost : ConPost D w (Im S N0 B w ρ (freeze σ (osIn all))) r v w') : Mak D S N0 B w0 σ a e v w' := by
  obtain ⟨hfrm, ρo, hown, hinj, hrel, hnm⟩ := hpost
  obtain ⟨rv, own⟩ := r
  have size0 : B ≤ w.heap.size := Nat.le_trans h.base.1 h.frm.size
  cases own with
  | nil =>
    simp only [effRes] at he
    split at he
    · rename_i hs
      cases he
      refine ⟨ρ, ?_, scalar_rel hs hrel, by rw [scalar_names hs]; simp⟩
      exact (h.step (ks := []) (nw := []) (up := []) hfrm.os hfrm.tape hfrm.output hfrm.size (fun b hb _ => hfrm.block b hb (by simp)) (fun _ _ _ => rfl) (fun m hm => by simp [keys] at hm) (fun m hm => by simp [keys] at hm)
        (fun _ n y hy => by simp [get] at hy) (fun n y b hn => by simp [get] at hn) (fun n m y z b hn => by simp [get] at hn) (fun n y z b hn => by simp [get] at hn)).1
    · split at he
      · rename_i hs hok
        cases he
        have hfz := h.freeze (osIn all)
        have hst := hfz.step (w' := w') (ρ' := ρ) (ks := []) (nw := []) (up := []) hfrm.os hfrm.tape hfrm.output hfrm.size (fun b hb _ => hfrm.block b hb (by simp)) (fun _ _ _ => rfl) (fun m hm => by simp [keys] at hm) (fun m hm => by simp [keys] at hm)
          (fun _ n y hy => by simp [get] at hy) (fun n y b hn => by simp [get] at hn) (fun n m y z b hn => by simp [get] at hn) (fun n y z b hn => by simp [get] at hn)
        have hno : names rv = [] := by
          refine List.eq_nil_iff_forall_not_mem.2 fun n hn => ?_
          have := hnm n hn
          simp at this
        refine ⟨ρ, hst.1, hrel.mono (fun b hb => ?_) (fun _ _ => rfl) (fun n hn => by rw [hno] at hn; cases hn), by rw [hno]; simp⟩
        rcases hb.2.1 with hb' | hb'
        · exact (hst.2 b hb').1
        · refine ⟨hb.1, .inr (.inl (by omega)), fun n x hx hbn => ?_⟩
          rw [stepS_nil] at hx
          have := hfz.owns_lt hx hbn
          omega
      · cases he
  | cons o os =>
    simp only [effRes] at he
    split at he
    case isFalse => cases he
    rename_i hok
    cases he
    simp only at hf
    generalize hq : o :: os = own at *
    have hfz := h.freeze (osIn all)
    have hub : ∀ n, n ∈ keys (ownBl dst 0 own) → blk (freeze σ (osIn all)) n = none := by
      intro n hn
      rw [blk_freeze, unbound_mem hf n hn]
      split <;> rfl
    -- the caller's names
    let ρ' : Env := fun n => if n ∈ keys (ownBl dst 0 own) then ρo ((n - dst) / 4096 - 1) else ρ n
    have hkey : ∀ k, k < own.length → (dst + 4096 * (k + 1)) ∈ keys (ownBl dst 0 own) := by
      intro k hk
      have := ownBl_get dst own 0 k hk
      rw [Nat.zero_add] at this
      exact mem_keys.2 (Option.isSome_iff_exists.1 this)
    have hρk : ∀ k, k < own.length → ρ' (dst + 4096 * (k + 1)) = ρo k := by
      intro k hk
      show (if _ then _ else _) = _
      rw [if_pos (hkey k hk)]
      congr 1
      omega
    have hρn : ∀ n, n ∉ keys (ownBl dst 0 own) → ρ' n = ρ n := by
      intro n hn
      show (if _ then _ else _) = _
      rw [if_neg hn]
    have hbnd : ∀ n, (blk (freeze σ (osIn all)) n).isSome = true → n ∉ keys (ownBl dst 0 own) := by
      intro n hn hk
      rw [hub n hk] at hn
      cases hn
    have hidx : ∀ n, n ∈ keys (ownBl dst 0 own) → ∃ k, k < own.length ∧ n = dst + 4096 * (k + 1) := by
      intro n hn
      obtain ⟨y, hy⟩ := mem_keys.1 hn
      obtain ⟨j, e', sz, rs, h1, h2, _⟩ := get_ownBl dst own 0 n y hy
      exact ⟨j, (List.getElem?_eq_some_iff.1 h1).1, by rw [h2, Nat.zero_add]⟩
    have hob : ∀ k b, k < own.length → (ρo k).b = some b → w.heap.size ≤ b ∧ b < w'.heap.size := by
      intro k b hk hb
      obtain ⟨e', sz, rs⟩ : ∃ e' sz, ∃ rs : List (List AV), own[k]? = some (e', sz, rs) := ⟨own[k].1, own[k].2.1, own[k].2.2, by simp [hk]⟩
      obtain ⟨rs, hrs⟩ := rs
      obtain ⟨q1, q2⟩ := hown k e' sz rs hrs
      refine ⟨q2 b hb, ?_⟩
      obtain ⟨_, _, _, A, c, _, _, _, q3⟩ := q1
      rcases q3 with ⟨_, _, _, q4⟩ | ⟨b', arr, q4, _, q5, _⟩
      · rw [hb] at q4; cases q4
      · rw [hb] at q4
        cases q4
        exact (Array.getElem?_eq_some_iff.1 q5).1
    have himR : (∀ b, Im S N0 B w ρ (freeze σ (osIn all)) b → imOf S N0 B w' ρ' (blk (stepS (freeze σ (osIn all)) [] (ownBl dst 0 own) [])) b) → ∀ b, imR w w' (Im S N0 B w ρ (freeze σ (osIn all))) ρo own.length b → imOf S N0 B w' ρ' (blk (stepS (freeze σ (osIn all)) [] (ownBl dst 0 own) [])) b := by
      intro him b hb
      rcases hb.2.1 with hb' | hb'
      · exact him b hb'
      · refine ⟨hb.1, .inr (.inl (by omega)), fun n x hx hbn => ?_⟩
        by_cases hn : n ∈ keys (ownBl dst 0 own)
        · obtain ⟨y, hy⟩ := mem_keys.1 hn
          have hxy : y = x := by rw [blk_step, hy] at hx; exact Option.some.inj hx
          subst hxy
          obtain ⟨_, _, _, _, _, _, rfl⟩ := get_ownBl dst own 0 n y hy
          obtain ⟨k, hk, rfl⟩ := hidx n hn
          have hbn : (ρ' (dst + 4096 * (k + 1))).b = some b := hbn
          rw [hρk k hk] at hbn
          exact hb.2.2 k hk hbn
        · rw [blk_step, get_none.2 hn] at hx
          simp only [get, List.not_mem_nil, if_false] at hx
          obtain ⟨y, hy, rfl⟩ := mapBlk_some hx
          have := hfz.owns_lt hy ((owns_congr (hρn n hn)).1 (owns_map.1 hbn))
          omega
    have hst := hfz.step (w' := w') (ρ' := ρ') (ks := []) (nw := ownBl dst 0 own) (up := []) hfrm.os hfrm.tape hfrm.output hfrm.size (fun b hb _ => hfrm.block b hb (by simp)) (fun n hn _ => hρn n (hbnd n hn)) hub (fun m hm => by simp [keys] at hm)
      (fun him n y hy => by
        have hy' : get n (ownBl dst 0 own) = some y := by
          rcases hy with hy | ⟨_, hy⟩
          · exact hy
          · simp [get] at hy
        obtain ⟨j, e', sz, rs, h1, h2, rfl⟩ := get_ownBl dst own 0 n y hy'
        rw [Nat.zero_add] at h2
        subst h2
        have hj := (List.getElem?_eq_some_iff.1 h1).1
        refine ⟨?_, fun m hm => by cases hm⟩
        obtain ⟨q1, q2, q3, A, c, q4, q5, q6, q7⟩ := (hown j e' sz rs h1).1
        refine ⟨by rw [hρk j hj]; exact q1, q2, q3, A, c, by rw [hρk j hj]; exact q4, q5, q6, ?_⟩
        rcases q7 with ⟨z1, z2, z3, z4⟩ | ⟨b, arr, z1, z2, z3, z4, z5⟩
        · exact .inl ⟨z1, z2, z3, by rw [hρk j hj]; exact z4⟩
        · refine .inr ⟨b, arr, by rw [hρk j hj]; exact z1, z2, z3, z4, fun i row hi => ⟨(z5 i row hi).1, fun j' x hx => ?_⟩⟩
          obtain ⟨y1, u, y2, y3, y4⟩ := (z5 i row hi).2 j' x hx
          exact ⟨y1, u, y2, y3, y4.mono (himR him) (fun _ _ => rfl) fun m hm => by rw [y1] at hm; cases hm⟩)
      (fun n y b hn hb => by
        obtain ⟨_, _, _, _, _, _, rfl⟩ := get_ownBl dst own 0 n y hn
        obtain ⟨k, hk, rfl⟩ := hidx n (mem_keys.2 ⟨_, hn⟩)
        have hb : (ρ' (dst + 4096 * (k + 1))).b = some b := hb
        rw [hρk k hk] at hb
        exact ⟨.inl (hob k b hk hb).1, (hob k b hk hb).2⟩)
      (fun n m y z b hn hm hb hb' => by
        obtain ⟨_, _, _, _, _, _, rfl⟩ := get_ownBl dst own 0 n y hn
        obtain ⟨_, _, _, _, _, _, rfl⟩ := get_ownBl dst own 0 m z hm
        obtain ⟨k, hk, rfl⟩ := hidx n (mem_keys.2 ⟨_, hn⟩)
        obtain ⟨l, hl, rfl⟩ := hidx m (mem_keys.2 ⟨_, hm⟩)
        have hb : (ρ' (dst + 4096 * (k + 1))).b = some b := hb
        have hb' : (ρ' (dst + 4096 * (l + 1))).b = some b := hb'
        rw [hρk k hk] at hb
        rw [hρk l hl] at hb'
        rw [hinj k l b hk hl hb hb'])
      (fun n y z b hn => by simp [get] at hn)
    refine ⟨ρ', hst.1, ?_, fun n hn => ?_⟩
    · exact Rel.ren (K := own.length) hrel (himR fun b hb => (hst.2 b hb).1) hok hnm fun k hk => by rw [hρk k hk]
    · obtain ⟨k, hk, rfl⟩ := names_ren_mem rv hok hn
      have hk' := hkey k (hnm k hk)
      obtain ⟨y, hy⟩ := mem_keys.1 hk'
      show (blk (stepS (freeze σ (osIn all)) [] (ownBl dst 0 own) []) _).isSome = true
      rw [blk_step, hy]
      rfl
end
end Go.Proofs.YtmlejhpeoiicpaaGreatDoor.Ab
namespace Go.Proofs.YtmlejhpeoiicpaaGreatDoor.Ab
open Go
set_option linter.unusedVariables false
set_option linter.unusedSimpArgs false

section
variable {P : Program} {D : Nat → TI} {G : Ctr} {S N0 : Nat → Prop} {B : Nat} {w0 : W0} {ρ : Env} {σ : AS} {a : Act} {w : World}

theorem Rels.append {im : Nat → Prop} {xs ys : List AV} {us vs : List Value} (h : Rels w im ρ xs us) (k : Rels w im ρ ys vs) : Rels w im ρ (xs ++ ys) (us ++ vs) := by
  refine ⟨by rw [List.length_append, List.length_append, h.1, k.1], fun i x v hx hv => ?_⟩
  by_cases hlt : i < xs.length
  · rw [List.getElem?_append_left hlt] at hx
    rw [List.getElem?_append_left (by rw [h.1]; exact hlt)] at hv
    exact h.2 i x v hx hv
  · rw [List.getElem?_append_right (by omega)] at hx
    rw [List.getElem?_append_right (by rw [h.1]; omega), h.1] at hv
    exact k.2 _ x v hx hv

/-- arguments, as the callee reads them -/
theorem St0.args (h : St0 D S N0 B w0 ρ σ a w) {ns : List Nat} {bl : Nat → Option Blk} (hbl : ∀ n x, bl n = some x → blk σ n = some x) {xs : List AV} {vs : List Value} (hr : Rels w (Im S N0 B w ρ σ) ρ xs vs) :
    Rels w (Im S N0 B w ρ (Ab.freeze σ ns)) ρ (fzs ns bl xs) vs := by
  have him : ∀ b, Im S N0 B w ρ σ b → Im S N0 B w ρ (Ab.freeze σ ns) b := by
    rintro b ⟨h1, h2, h3⟩
    refine ⟨h1, h2, fun n x hx => ?_⟩
    rw [blk_freeze] at hx
    split at hx
    · cases hx
    · obtain ⟨y, hy, rfl⟩ := mapBlk_some hx
      rw [owns_map]
      exact h3 n y hy
  refine ⟨by rw [fzs_eq]; simpa using hr.1, fun i x v hx hv => ?_⟩
  rw [fzs_eq, List.getElem?_map] at hx
  obtain ⟨y, hy, rfl⟩ := Option.map_eq_some_iff.1 hx
  refine Rel.fz (D := D) (fun n x hn hx => h.hp.blk n x (hbl n x hx)) him (fun n x b hn hx hb => ?_) (hr.2 i y v hy hv)
  have hx' := hbl n x hx
  refine ⟨h.named_lt hx' hb, .inr (h.own n x b hx' (owns_b hb)), fun m y hy hm => ?_⟩
  rw [blk_freeze] at hy
  split at hy
  · cases hy
  · rename_i hmn
    obtain ⟨y', hy', rfl⟩ := mapBlk_some hy
    exact hmn (h.hp.inj n m b x y' hx' hy' (owns_b hb) (owns_map.1 hm) ▸ hn)

theorem call_sound (hG : GOk P D G) (h : St0 D S N0 B w0 ρ σ a w) {o : Oper} {e : Eff} {K : Act → World → Prop} {Q : Exit → Act → World → Prop} (hc : isCall o.op = true)
    (hug : (o.op.operands.toList.map (ev σ)).all ug = true) {dn : Nat} (he : eff D G (snap σ (namess (o.op.operands.toList.map (ev σ)))) dn o.op ((o.op.operands.toList.map (ev σ)).map uv) = some e)
    (hf : unbound σ (keys e.nw) = true) (hK : ∀ v w', Mak D S N0 B w0 σ a e v w' → K (a.put o.dst v) w') : o.wp P a w K Q := by
  obtain ⟨dst, op, ty, pos, af, gd⟩ := o
  cases op <;> simp only [isCall] at hc <;> try (cases hc; done)
  rename_i c
  obtain ⟨callee, args, types⟩ := c
  cases callee <;> simp only at hc <;> try (cases hc; done)
  rename_i f
  simp only at *
  obtain ⟨hR, hN⟩ := ops_uv h hug
  have hops : (Op.call ⟨.value f, args, types⟩).operands.toList = f :: args.toList := by simp [Op.operands, Call.operands]
  rw [hops] at he hR hN
  generalize hns : namess ((f :: args.toList).map (ev σ)) = ns at he
  have hbl : ∀ n x, snap σ ns n = some x → blk σ n = some x := fun n x hx => names_bl_snap hx
  simp only [List.map_cons] at he hR hN
  simp only [eff] at he
  generalize hX : uv (ev σ f) = X at *
  generalize hA : (args.toList.map (ev σ)).map uv = As at *
  have hRf := hR.2 0 _ _ rfl rfl
  have hRa : Rels w (Im S N0 B w ρ σ) ρ As (args.toList.map a.eval) := ⟨by have := hR.1; simpa using this, fun i x v hx hv => hR.2 (i + 1) x v (by simpa using hx) (by simpa using hv)⟩
  cases X <;> simp only [effCall] at he <;> try (cases he; done)
  rename_i g caps
  split at he
  case isFalse => cases he
  generalize hv : a.eval f = V at hRf
  cases hRf with
  | func g cs vs hl hval =>
  have hRc : Rels w (Im S N0 B w ρ σ) ρ (As ++ caps) (args.toList.map a.eval ++ vs.toList) := hRa.append ⟨by simpa using hl, fun i x v hx hv => hval i x v hx (by simpa using hv)⟩
  cases hg : G g (fzs (osIn (As ++ caps)) (snap σ ns) (As ++ caps)) with
  | none => rw [hg] at he; cases he
  | some r =>
    rw [hg] at he
    obtain ⟨⟨fn, hfn, hname, hbody⟩, hcon⟩ := hG g _ r hg
    have hcall := hcon w (Im S N0 B w ρ (freeze σ (osIn (As ++ caps)))) ρ (args.map a.eval ++ vs) (h.freeze _).imOk (by
      have := h.args (ns := osIn (As ++ caps)) hbl hRc
      simpa using this)
    unfold Oper.wp
    have hex : (execOp a.eval ⟨dst, .call ⟨.value f, args, types⟩, ty, pos, af, gd⟩).run P w = .ok (.enter g (args.map a.eval ++ vs)) w := by
      have hn' : ¬ fn.name = "runtime.NumGoroutine" := by simpa using hname
      have hb' : ¬ fn.body = none := by rintro e; rw [e] at hbody; cases hbody
      simp [execOp, resolve, hv, Deferred.ofValue, invoke, callFunc, program, Sem.run, hfn, hn', hb']
    rw [hex, Oper.upon_enter]
    refine hcall.mono fun en w' hpost => ?_
    obtain ⟨v, rfl, hpost⟩ := hpost
    exact hK v w' (call_step h he hf hpost)

theorem base_sound (hT : TOk P D) (hG : GOk P D G) (h : St0 D S N0 B w0 ρ σ a w) {o : Oper} {e : Eff} {K : Act → World → Prop} {Q : Exit → Act → World → Prop}
    {dn : Nat} (he : baseE D G σ dn o.op (o.op.operands.toList.map (ev σ)) = some e) (hf : unbound σ (keys e.nw) = true) (hp : e.pre) (hK : ∀ v w', Mak D S N0 B w0 σ a e v w' → K (a.put o.dst v) w') : o.wp P a w K Q := by
  unfold baseE at he
  split at he
  · -- pick
    rename_i hpk
    obtain ⟨dst, op, ty, pos, af, gd⟩ := o
    cases op <;> simp only [isPick] at hpk <;> try (cases hpk; done)
    rename_i c x y
    simp only [Op.operands, List.map_cons, List.map_nil, pick3, pickE] at he
    have hc := h.ev c
    have hx := h.ev x
    have hy := h.ev y
    split at he
    case h_2 => cases he
    rename_i g p q hgc hgx hgy
    cases he
    simp only at hp
    obtain ⟨p1, p2, p3⟩ := hp
    have hcv : a.eval c = .bool g := by have := hc.1.uv p1; rw [hgc] at this; exact this.bool_
    have hval : (if g then a.eval x else a.eval y) = .bool (if g then p else q) := by
      cases g with
      | true => have := hx.1.uv (p2 rfl); rw [hgx] at this; simpa using this.bool_
      | false => have := hy.1.uv (p3 rfl); rw [hgy] at this; simpa using this.bool_
    obtain ⟨v, h1, h2⟩ := Yld.mak h (P := P) (s := pure (.bool (if g then p else q))) (e := { v := .bool (if g then p else q) }) (Yld.only ⟨rfl, rfl, rfl, rfl⟩ (v := .bool (if g then p else q)) rfl (.bool _) (by simp [names]))
    have hex : execOp a.eval ⟨dst, .pick c x y, ty, pos, af, gd⟩ = (do pure (.value (← (pure (.bool (if g then p else q)) : Sem Value)))) := by
      simp only [execOp, hcv, ← hval]; rfl
    exact wp_of_value hex h1 (hK _ _ h2)
  · cases heff : eff D G (snap σ (namess (o.op.operands.toList.map (ev σ)))) dn o.op ((o.op.operands.toList.map (ev σ)).map uv) with
    | none => rw [heff] at he; cases he
    | some e' =>
      rw [heff] at he
      simp only [asked] at he
      cases he
      simp only at hp hf
      obtain ⟨hug, hp⟩ := hp
      cases hc : isCall o.op with
      | true => exact call_sound hG h hc hug heff hf hK
      | false => exact eff_sound hT h hc hug heff hf hp hK
end
end Go.Proofs.YtmlejhpeoiicpaaGreatDoor.Ab
namespace Go.Proofs.YtmlejhpeoiicpaaGreatDoor.Ab
open Go
set_option linter.unusedVariables false
set_option linter.unusedSimpArgs false

mutual
theorem fz_id {ns : List Nat} {bl : Nat → Option Blk} : ∀ (x : AV), (∀ n ∈ names x, n ∉ ns) → fz ns bl x = x
  | .os t, h => by simp only [fz]; rw [if_neg]; simp [mem_false.2 (h t (by simp [names]))]
  | .ptr v o, h => by simp only [fz]; rw [if_neg]; simp [mem_false.2 (h v (by simp [names]))]
  | .tsl v o, h => by simp only [fz]; rw [if_neg]; simp [mem_false.2 (h v (by simp [names]))]
  | .psl v o, h => by simp only [fz]; rw [if_neg]; simp [mem_false.2 (h v (by simp [names]))]
  | .eptr v i o, h => by simp only [fz]; rw [if_neg]; simp [mem_false.2 (h v (by simp [names]))]
  | .agg cs, h => by rw [names] at h; simp only [fz]; rw [fzs_id cs h]
  | .tup cs, h => by rw [names] at h; simp only [fz]; rw [fzs_id cs h]
  | .func f cs, h => by rw [names] at h; simp only [fz]; rw [fzs_id cs h]
  | .opt g v, h => by rw [names] at h; simp only [fz]; rw [fz_id v h]
  | .junk, _ => by simp [fz]
  | .int _ _, _ => by simp [fz]
  | .bool _, _ => by simp [fz]
  | .str _, _ => by simp [fz]
  | .nils, _ => by simp [fz]
  | .sl _ _, _ => by simp [fz]
  | .iptr _, _ => by simp [fz]
  | .lsl _, _ => by simp [fz]
  | .imap _, _ => by simp [fz]
  | .nilp, _ => by simp [fz]
  | .ifc _, _ => by simp [fz]
theorem fzs_id {ns : List Nat} {bl : Nat → Option Blk} : ∀ (cs : List AV), (∀ n ∈ namess cs, n ∉ ns) → fzs ns bl cs = cs
  | [], _ => by simp [fzs]
  | c :: r, h => by
    rw [namess] at h
    simp only [fzs]
    rw [fz_id c fun n hn => h n (List.mem_append_left _ hn), fzs_id r fun n hn => h n (List.mem_append_right _ hn)]
end

mutual
theorem kl_nil : ∀ (x : AV), kl [] x = x
  | .os t => by simp [kl, mem]
  | .ptr v o => by simp [kl, mem]
  | .tsl v o => by simp [kl, mem]
  | .psl v o => by simp [kl, mem]
  | .eptr v i o => by simp [kl, mem]
  | .agg cs => by simp only [kl]; rw [kls_nil cs]
  | .tup cs => by simp only [kl]; rw [kls_nil cs]
  | .func f cs => by simp only [kl]; rw [kls_nil cs]
  | .opt g v => by simp only [kl]; rw [kl_nil v]
  | .junk => by simp [kl]
  | .int _ _ => by simp [kl]
  | .bool _ => by simp [kl]
  | .str _ => by simp [kl]
  | .nils => by simp [kl]
  | .sl _ _ => by simp [kl]
  | .iptr _ => by simp [kl]
  | .lsl _ => by simp [kl]
  | .imap _ => by simp [kl]
  | .nilp => by simp [kl]
  | .ifc _ => by simp [kl]
theorem kls_nil : ∀ (cs : List AV), kls [] cs = cs
  | [] => by simp [kls]
  | c :: r => by simp only [kls]; rw [kl_nil c, kls_nil r]
end

section
variable {P : Program} {D : Nat → TI} {G : Ctr} {S N0 : Nat → Prop} {B : Nat} {w0 : W0} {ρ : Env} {σ σ' : AS} {a : Act} {w : World}

/-- states that say the same -/
structure Eqv (σ σ' : AS) : Prop where
  nt : σ'.nt = σ.nt
  tm : ∀ t, get t σ'.tm = get t σ.tm
  bl : ∀ n, blk σ' n = blk σ n
theorem Eqv.refl (σ : AS) : Eqv σ σ := ⟨rfl, fun _ => rfl, fun _ => rfl⟩
theorem Eqv.trans {σ'' : AS} (h : Eqv σ σ') (k : Eqv σ' σ'') : Eqv σ σ'' := ⟨k.nt.trans h.nt, fun t => (k.tm t).trans (h.tm t), fun n => (k.bl n).trans (h.bl n)⟩
theorem Eqv.symm (h : Eqv σ σ') : Eqv σ' σ := ⟨h.nt.symm, fun t => (h.tm t).symm, fun n => (h.bl n).symm⟩
theorem St0.congr (h : St0 D S N0 B w0 ρ σ a w) (k : Eqv σ σ') : St0 D S N0 B w0 ρ σ' a w := by
  have hb : blk σ' = blk σ := funext k.bl
  refine ⟨fun t x hx => ?_, ?_, by rw [k.nt]; exact h.nt, h.base, h.frm, ?_, h.defers⟩
  · rw [k.tm] at hx
    rw [hb]
    exact h.tm t x hx
  · rw [hb]; exact h.hp
  · rw [hb]; exact h.own
theorem St.congr (h : St D S N0 B w0 σ a w) (k : Eqv σ σ') : St D S N0 B w0 σ' a w := by
  obtain ⟨ρ, h⟩ := h
  exact ⟨ρ, h.congr k⟩

theorem subs_mem {n : Nat} : ∀ {a b : List Nat}, subs a b = true → n ∈ a → n ∈ b
  | [], _, _, h => by cases h
  | k :: r, b, hs, h => by
    simp only [subs, Bool.and_eq_true] at hs
    rcases List.mem_cons.1 h with rfl | h
    · exact mem_iff.1 hs.1
    · exact subs_mem hs.2 h
theorem blNames_mem {bl : Nat → Option Blk} {n : Nat} : ∀ {l : List Nat}, n ∈ blNames bl l → ∃ k x, bl k = some x ∧ n ∈ bnames x
  | [], h => by simp [blNames] at h
  | k :: r, h => by
    simp only [blNames] at h
    split at h
    · rename_i cs hk
      rcases List.mem_append.1 h with h | h
      · exact ⟨k, _, hk, h⟩
      · exact blNames_mem h
    · rename_i e sz rs cols foc hk
      rcases List.mem_append.1 h with h | h
      · exact ⟨k, _, hk, h⟩
      · exact blNames_mem h
    · exact blNames_mem h
theorem ops_bound (h : St0 D S N0 B w0 ρ σ a w) {xs : List Operand} {n : Nat} (hn : n ∈ namess (xs.map (ev σ))) : (blk σ n).isSome = true := by
  obtain ⟨i, x, hx, hn⟩ := namess_mem hn
  rw [List.getElem?_map] at hx
  obtain ⟨o, ho, rfl⟩ := Option.map_eq_some_iff.1 hx
  exact (h.ev o).2 n hn
theorem okN_bound (h : St0 D S N0 B w0 ρ σ a w) {xs : List Operand} {vs : List Nat} {op : Op} (hv : okN [] (namess (xs.map (ev σ))) (bsOf σ op (namess (xs.map (ev σ)))) vs = true) : ∀ n ∈ vs, (blk σ n).isSome = true := by
  intro n hn
  have := subs_mem hv hn
  simp only [List.nil_append, List.mem_append] at this
  rcases this with h1 | h1
  · exact ops_bound h h1
  · unfold bsOf at h1
    split at h1
    · cases h1
    obtain ⟨k, x, hk, hm⟩ := blNames_mem h1
    exact h.hp.clos k x (names_bl_snap hk) n hm

theorem freeze_nt (σ : AS) (ns : List Nat) : (freeze σ ns).nt = σ.nt := by cases ns <;> rfl
theorem Mak.fin {e : Eff} {v : Value} {w' : World} {dst : Option Nat} (h : Mak D S N0 B w0 σ a e v w') (hd : ∀ d, dst = some d → d < σ.nt) : St D S N0 B w0 (apply σ dst e) (a.put dst v) w' := by
  obtain ⟨ρ', h1, h2, h3⟩ := h
  cases dst with
  | none =>
    refine ⟨ρ', h1.congr ⟨?_, fun _ => rfl, fun _ => rfl⟩⟩
    exact (freeze_nt σ e.fr).symm
  | some d =>
    have := h1.put (d := d) (by show d < (freeze σ e.fr).nt; rw [freeze_nt]; exact hd d rfl) h2 h3
    refine ⟨ρ', this.congr ⟨(freeze_nt σ e.fr).symm, fun _ => rfl, fun _ => rfl⟩⟩

theorem get_tm_freeze_eq (σ : AS) (ns : List Nat) (t : Nat) : get t (freeze σ ns).tm = (get t σ.tm).map (if ns = [] then id else fz ns (blk σ)) := by
  cases ns with
  | nil => simp [freeze]
  | cons m ms => simp [freeze, get_mapT]

theorem wanted_of (h : St0 D S N0 B w0 ρ σ a w) {ops : Array Oper} {o : Oper} {g : Bool} (hg : guardOf σ ops o.guard = some (some g)) : Region.wanted o (yielded ops a.tmps) = g := by
  cases hgo : o.guard with
  | none => rw [hgo] at hg; simp [guardOf] at hg
  | some jw =>
    obtain ⟨j, want⟩ := jw
    rw [hgo] at hg
    simp only [guardOf] at hg
    split at hg
    case h_1 => cases hg
    rename_i t ht
    have hy : ∀ b, a.tmps.getD t undef = .bool b → yielded ops a.tmps j = some b := by
      intro b hb
      unfold yielded
      rw [ht]
      have : a.tmps[t]? = some (.bool b) := by
        rw [Array.getD_eq_getD_getElem?] at hb
        cases hq : a.tmps[t]? with
        | none => rw [hq] at hb; simp [undef] at hb
        | some v => rw [hq] at hb; simp at hb; rw [hb]
      simp [this]
    have hn : a.tmps.getD t undef = undef → yielded ops a.tmps j = none := by
      intro hb
      unfold yielded
      rw [ht]
      rw [Array.getD_eq_getD_getElem?] at hb
      cases hq : a.tmps[t]? with
      | none => simp [hq]
      | some v => rw [hq] at hb; simp at hb; subst hb; simp [hq, undef]
    have hlt : t < 65536 := by
      rcases Nat.lt_or_ge t 65536 with hlt | hge
      · exact hlt
      · rw [tmv, if_neg (by omega)] at hg
        cases hg
    rw [tmv, if_pos hlt] at hg
    cases hgt : get t σ.tm with
    | none => rw [hgt] at hg; simp at hg
    | some x =>
      have hrel := (h.tm t x hgt).1
      rw [vl, if_pos hlt] at hrel
      rw [hgt] at hg
      simp only [Option.getD_some] at hg
      split at hg
      · rename_i b
        have := hy b hrel.bool_
        simp only [Region.wanted, hgo, this]
        simp at hg
        subst hg
        cases b <;> cases want <;> rfl
      · rename_i g1 b
        simp at hg
        cases hrel with
        | opt g1 x v q1 q2 =>
        cases g1 with
        | true =>
          have := hy b (q1 rfl).bool_
          simp only [Region.wanted, hgo, this]
          simp at hg
          subst hg
          cases b <;> cases want <;> rfl
        | false =>
          have := hn (q2 rfl)
          simp only [Region.wanted, hgo, this]
          simp at hg
          subst hg
          rfl
      · cases hg

theorem op_sound (hT : TOk P D) (hG : GOk P D G) (h : St0 D S N0 B w0 ρ σ a w) {M : MCtr} {nb : Nat} {off : List (Nat × Bool)} {ops : Array Oper} {Q : Exit → Act → World → Prop} {i : Nat} {o : Oper} (ho : ops[i]? = some o) {e : Eff} (he : opEff D G M nb off ops σ o = some e)
    (hf : fresh σ o.dst e = true) (hp : e.pre) (hM : o.guard = none → mEff M (nb + o.dst.getD 0) σ o = some e → wpOp P ops Q i (fun a' w' => St D S N0 B w0 (apply σ o.dst e) a' w') a w) : wpOp P ops Q i (fun a' w' => St D S N0 B w0 (apply σ o.dst e) a' w') a w := by
  simp only [fresh, Bool.and_eq_true] at hf
  obtain ⟨hf1, hf2⟩ := hf
  have hd : ∀ d, o.dst = some d → d < σ.nt := by
    intro d hd
    rw [hd] at hf2
    simpa using hf2
  unfold opEff at he
  split at he
  · cases hg : guardOf σ ops o.guard with
    | none => rw [hg] at he; cases he
    | some g =>
      rw [hg] at he
      cases g with
      | none => cases he
      | some g =>
        simp only [skipE] at he
        cases he
        simp only at hp
        unfold wpOp
        simp only [ho]
        rw [wanted_of h hg, hp, if_neg (by simp)]
        cases hdst : o.dst with
        | none => exact ⟨ρ, h⟩
        | some d => exact ⟨ρ, h.put (hd d hdst) (.opt false _ undef (fun hh => by cases hh) fun _ => rfl) (by simp [names])⟩
  cases hg : guardOf σ ops o.guard with
  | none => rw [hg] at he; cases he
  | some g =>
    rw [hg] at he
    cases g with
    | none =>
      have hgd : o.guard = none := by
        cases hgo : o.guard with
        | none => rfl
        | some jw =>
          exfalso
          obtain ⟨j, want⟩ := jw
          rw [hgo] at hg
          simp only [guardOf] at hg
          split at hg
          · cases hg
          · split at hg <;> first | (cases hg; done) | (simp at hg)
      have hw : Region.wanted o (yielded ops a.tmps) = true := by simp [Region.wanted, hgd]
      cases hbe : baseE D G σ (nb + o.dst.getD 0) o.op (o.op.operands.toList.map (ev σ)) with
      | some e1 =>
        rw [hbe] at he
        cases he
        unfold wpOp
        simp only [ho]
        rw [if_pos hw]
        left
        exact base_sound hT hG h hbe hf1 hp fun v w' hm => hm.fin hd
      | none =>
        rw [hbe] at he
        cases hme : mEff M (nb + o.dst.getD 0) σ o with
        | none => rw [hme] at he; cases he
        | some e1 =>
          rw [hme] at he
          have : e1 = e := by
            simp only [orM] at he
            split at he
            · exact Option.some.inj he
            · cases he
          subst this
          exact hM hgd hme
    | some g =>
      unfold wpOp
      simp only [ho]
      cases hb : baseE D G σ (nb + o.dst.getD 0) o.op (o.op.operands.toList.map (ev σ)) with
      | none => rw [hb] at he; simp [guarded] at he
      | some e0 =>
        rw [hb] at he
        simp only [guarded] at he
        split at he
        case isFalse => cases he
        rename_i hemp
        obtain ⟨⟨h1, h2, h3⟩, h4, h5⟩ := hemp
        have h6 := okN_bound h h5
        cases he
        simp only at hp hf1
        have hwant : Region.wanted o (yielded ops a.tmps) = g := wanted_of h hg
        have hfz : ∀ x : AV, (∀ n ∈ names x, (blk σ n).isSome = true) → ∀ bl, fz (keys e0.nw) bl x = x := by
          intro x hx bl
          refine fz_id x fun n hn hk => ?_
          have h5 := hx n hn
          rw [unbound_mem h4 n hk] at h5
          cases h5
        have happ : ∀ v, apply σ o.dst { v := v, pre := g = true → e0.pre } = { nt := σ.nt, tm := putT o.dst v σ.tm, bl := σ.bl } := fun _ => rfl
        rw [hwant]
        rw [happ]
        have fin : ∀ (ρ1 : Env) (w1 : World) (x : AV) (u : Value), St0 D S N0 B w0 ρ1 σ a w1 → Rel w1 (Im S N0 B w1 ρ1 σ) ρ1 x u → (∀ n ∈ names x, (blk σ n).isSome = true) → St D S N0 B w0 { nt := σ.nt, tm := putT o.dst x σ.tm, bl := σ.bl } (a.put o.dst u) w1 := by
          intro ρ1 w1 x u k1 k2 k3
          cases hdst : o.dst with
          | none => exact ⟨ρ1, k1⟩
          | some d => exact ⟨ρ1, k1.put (hd d hdst) k2 k3⟩
        cases g with
        | false =>
          rw [if_neg (by simp)]
          refine fin ρ w _ undef h (.opt false _ undef (fun hh => by cases hh) fun _ => rfl) fun n hn => ?_
          rw [names] at hn
          exact h6 n hn
        | true =>
          rw [if_pos rfl]
          left
          refine base_sound hT hG h hb h4 (hp rfl) fun v w' hm => ?_
          obtain ⟨ρ1, k1, k2, k3⟩ := hm
          rw [h1, h2, h3] at k1 k2 k3
          have k4 := k1.freeze (keys e0.nw)
          have hbl : ∀ n, n ∈ keys e0.nw → blk (stepS (Ab.freeze σ []) [] e0.nw []) n = getN e0.nw n := by
            intro n hn
            obtain ⟨y, hy⟩ := mem_keys.1 hn
            rw [blk_step, hy]
            exact hy.symm
          have heq : Eqv (Ab.freeze (stepS (Ab.freeze σ []) [] e0.nw []) (keys e0.nw)) σ := by
            refine ⟨by rw [freeze_nt]; rfl, fun t => ?_, fun n => ?_⟩
            · rw [get_tm_freeze_eq]
              show get t σ.tm = Option.map _ (get t σ.tm)
              cases hgt : get t σ.tm with
              | none => rfl
              | some x =>
                simp only [Option.map_some]
                split
                · rfl
                · rw [hfz x (h.tm t x hgt).2]
            · rw [blk_freeze]
              by_cases hk : n ∈ keys e0.nw
              · rw [if_pos hk, unbound_mem h4 n hk]
              · rw [if_neg hk, blk_step, get_none.2 hk]
                simp only [get, List.not_mem_nil, if_false]
                rw [show blk (Ab.freeze σ []) n = blk σ n from rfl]
                cases hbn : blk σ n with
                | none => rfl
                | some y =>
                  cases y with
                  | rows e sz rs => rfl
                  | deep e sz rs cols foc =>
                    have hid : ∀ fo : List (Nat × Nat × Nat), (∀ m ∈ focN fo, m ∉ keys e0.nw) → keepF (fz (keys e0.nw) (blk (stepS (Ab.freeze σ []) [] e0.nw []))) (keepF (kl []) fo) = fo := by
                      intro fo
                      rw [keepF_id (h := kl []) (fun m => by simp [kl, mem])]
                      induction fo with
                      | nil => intro _; rfl
                      | cons q r ih =>
                        obtain ⟨i, j, m⟩ := q
                        intro hq
                        have hm : mem m (keys e0.nw) = false := mem_false.2 (hq m (by simp [focN]))
                        simp only [keepF, fz, hm, Bool.false_eq_true, if_false]
                        rw [ih fun m hm => hq m (by simp only [focN, List.mem_cons]; exact .inr hm)]
                    have := hid foc fun m hm hk => by
                      have := h.hp.clos n _ hbn m hm
                      rw [unbound_mem h4 m hk] at this
                      cases this
                    simp only [Option.map_some, mapBlk, this]
                  | cells cs =>
                    have hid : ∀ x ∈ cs, fz (keys e0.nw) (blk (stepS (Ab.freeze σ []) [] e0.nw [])) (kl [] x) = x := fun x hx => by
                      rw [kl_nil]
                      refine fz_id x fun m hm hk => ?_
                      obtain ⟨j, hj⟩ := List.getElem?_of_mem hx
                      have := h.hp.closed n cs hbn m (mem_namess hj hm)
                      rw [unbound_mem h4 m hk] at this
                      cases this
                    have : (cs.map (kl [])).map (fz (keys e0.nw) (blk (stepS (Ab.freeze σ []) [] e0.nw []))) = cs := by
                      rw [List.map_map]
                      exact (List.map_congr_left (g := id) hid).trans (by simp)
                    simp only [Option.map_some, mapBlk, this]
          have k5 := k4.congr heq
          refine fin ρ1 w' _ v k5 (.opt true _ v (fun _ => ?_) (fun hh => by cases hh)) fun n hn => ?_
          · have hold : ∀ m y, blk σ m = some y → m ∉ keys e0.nw ∧ ∃ y', blk (stepS (Ab.freeze σ []) [] e0.nw []) m = some y' ∧ ∀ b, owns ρ1 m y' b ↔ owns ρ1 m y b := by
              intro m y hm
              have hmk : m ∉ keys e0.nw := fun hk => by rw [unbound_mem h4 m hk] at hm; cases hm
              refine ⟨hmk, ?_⟩
              rw [blk_step, get_none.2 hmk]
              simp only [get, List.not_mem_nil, if_false]
              show ∃ y', (blk σ m).map (mapBlk (kl [])) = some y' ∧ ∀ b, owns ρ1 m y' b ↔ owns ρ1 m y b
              rw [hm]
              exact ⟨_, rfl, fun b => owns_map⟩
            refine Rel.fz (D := D) (fun n x hn hx => ?_) (fun b hb => ?_) (fun n x b hn hx hb => ?_) k2
            · exact k1.hp.blk n x (by rw [hbl n hn]; exact hx)
            · obtain ⟨q1, q2, q3⟩ := hb
              refine ⟨q1, q2, fun m y hm => ?_⟩
              obtain ⟨_, y', hy', ho⟩ := hold m y hm
              rw [← ho]
              exact q3 m y' hy'
            · have hx' : blk (stepS (Ab.freeze σ []) [] e0.nw []) n = some x := by rw [hbl n hn]; exact hx
              refine ⟨k1.named_lt hx' hb, (k1.own n x b hx' (owns_b hb)).elim (fun q => .inr (.inl q)) (fun q => .inr (.inr q)), fun m y hm hmb => ?_⟩
              obtain ⟨hmk, y', hy', ho⟩ := hold m y hm
              exact hmk (k1.hp.inj n m b x y' hx' hy' (owns_b hb) ((ho b).2 hmb) ▸ hn)
          · rw [names] at hn
            exact h6 n hn
end
end Go.Proofs.YtmlejhpeoiicpaaGreatDoor.Ab
namespace Go.Proofs.YtmlejhpeoiicpaaGreatDoor.Ab
open Go
set_option linter.unusedVariables false
set_option linter.unusedSimpArgs false

/-! names of new blocks -/
def Nw (dst : Nat) (e : Eff) : Prop := ∀ k ∈ keys e.nw, k % 4096 = dst % 4096
theorem Nw.nil {dst : Nat} {e : Eff} (h : e.nw = []) : Nw dst e := by intro k hk; rw [h] at hk; cases hk
theorem nwOk_mem {dn : Nat} : ∀ {l : List (Nat × Blk)}, nwOk dn l = true → ∀ k ∈ keys l, k % 4096 = dn % 4096
  | [], _, k, hk => by cases hk
  | (j, b) :: r, h, k, hk => by
    simp only [nwOk, Bool.and_eq_true, decide_eq_true_eq] at h
    simp only [keys, List.mem_cons] at hk
    rcases hk with rfl | hk
    · exact h.1
    · exact nwOk_mem h.2 k hk
theorem nwOk_nw {dn : Nat} {e : Eff} (h : nwOk dn e.nw = true) : Nw dn e := nwOk_mem h
theorem Nw.one {dst : Nat} {e : Eff} {b : Blk} (h : e.nw = [(dst, b)]) : Nw dst e := by
  intro k hk
  rw [h] at hk
  simp [keys] at hk
  rw [hk]
theorem ownBl_keys {dst : Nat} : ∀ {l : List (Nat × Nat × List (List AV))} {k : Nat}, ∀ n ∈ keys (ownBl dst k l), n % 4096 = dst % 4096
  | [], _, n, h => by simp [ownBl, keys] at h
  | (e, sz, rs) :: r, k, n, h => by
    simp only [ownBl, keys, List.mem_cons] at h
    rcases h with rfl | h
    · omega
    · exact ownBl_keys n h
theorem map_nw {α : Type} {o : Option α} {f : α → AV} {e : Eff} (h : o.map (fun x => ({ v := f x } : Eff)) = some e) : e.nw = [] := by
  obtain ⟨x, _, rfl⟩ := Option.map_eq_some_iff.1 h
  rfl
theorem map_nw' {α : Type} {o : Option α} {f : α → AV} {g : α → Prop} {e : Eff} (h : o.map (fun x => ({ v := f x, pre := g x } : Eff)) = some e) : e.nw = [] := by
  obtain ⟨x, _, rfl⟩ := Option.map_eq_some_iff.1 h
  rfl
theorem bin_nw {op x y e} (h : bin op x y = some e) : e.nw = [] := by
  unfold bin at h
  split at h <;> (try split at h) <;> first | (cases h; rfl) | cases h
theorem effBin_nw {D T c op x y e} (h : effBin D T c op x y = some e) : e.nw = [] := by
  unfold effBin at h
  split at h
  · split at h <;> first | (cases h; rfl) | cases h
  · split at h <;> first | (cases h; rfl) | cases h
  · exact bin_nw h
theorem effSlice_nw {D bl T lo hi xs e} (h : effSlice D bl T lo hi xs = some e) : e.nw = [] := by
  unfold effSlice at h
  simp only at h
  split at h
  · split at h
    · split at h <;> first | (cases h; rfl) | cases h
    · cases h
  · split at h
    · split at h <;> first | (cases h; rfl) | cases h
    · cases h
  · cases h
theorem effLoad_nw {D bl T x e} (h : effLoad D bl T x = some e) : e.nw = [] := by
  unfold effLoad at h
  split at h
  · split at h
    · exact map_nw h
    · cases h
  · exact map_nw h
  · split at h
    · exact map_nw h
    · split at h
      · exact map_nw h
      · cases h
  · cases h
theorem effStore_nw {D bl T x y e} (h : effStore D bl T x y = some e) : e.nw = [] := by
  unfold effStore at h
  split at h
  · split at h <;> first | (cases h; rfl) | cases h
  · split at h
    · cases h; rfl
    · split at h
      · split at h
        · cases h; rfl
        · cases h
      · cases h
  · cases h
theorem effFieldAddr_nw {D T f x e} (h : effFieldAddr D T f x = some e) : e.nw = [] := by
  unfold effFieldAddr at h
  split at h
  · split at h
    · split at h <;> first | (cases h; rfl) | cases h
    · cases h
  · cases h
theorem effField_nw {D T f x e} (h : effField D T f x = some e) : e.nw = [] := by
  unfold effField at h
  split at h
  · split at h
    · split at h
      · exact map_nw h
      · cases h
    · cases h
  · cases h
theorem effIndexAddr_nw {D bl T x i e} (h : effIndexAddr D bl T x i = some e) : e.nw = [] := by
  unfold effIndexAddr at h
  split at h
  · split at h
    · split at h
      · split at h <;> first | (cases h; rfl) | cases h
      · split at h
        · split at h <;> first | (cases h; rfl) | cases h
        · split at h
          · split at h <;> first | (cases h; rfl) | cases h
          · cases h
      · split at h <;> first | (cases h; rfl) | cases h
      · cases h
    · cases h
  · cases h
theorem effConvert_nw {D bl S T x e} (h : effConvert D bl S T x = some e) : e.nw = [] := by
  unfold effConvert at h
  split at h
  · split at h <;> first | (cases h; rfl) | cases h
  · split at h <;> first | (cases h; rfl) | cases h
  · split at h
    · exact map_nw' h
    · cases h
  · split at h
    · split at h <;> first | (cases h; rfl) | cases h
    · cases h
  · split at h
    · split at h
      · split at h <;> first | (cases h; rfl) | cases h
      · cases h
    · cases h
  · cases h
theorem effAppend_nw {D bl dst T U x y e} (h : effAppend D bl dst T U x y = some e) : Nw dst e := by
  unfold effAppend at h
  split at h
  · split at h
    · split at h
      · cases h; exact .one rfl
      · cases h
    · unfold effAppendD at h
      split at h
      · split at h
        · split at h
          · cases h; exact .one rfl
          · cases h
        · cases h
      · cases h
  · cases h
theorem effCall_nw {G bl dst args x e} (h : effCall G bl dst args x = some e) : Nw dst e := by
  unfold effCall at h
  split at h
  · split at h
    · unfold effRes at h
      split at h
      · split at h
        · cases h; exact .nil rfl
        · split at h <;> first | (cases h; exact .nil rfl) | cases h
      · split at h
        · cases h; exact ownBl_keys
        · cases h
      · cases h
    · cases h
  · cases h
theorem effLen_nw {D bl T x e} (h : effLen D bl T x = some e) : e.nw = [] := by
  unfold effLen at h
  split at h
  · split at h <;> first | (cases h; rfl) | cases h
  · split at h
    · cases h; rfl
    · split at h
      · exact map_nw h
      · cases h
  · cases h
theorem eff_nw {D G bl dst op xs e} (h : eff D G bl dst op xs = some e) : Nw dst e := by
  cases op <;> simp only [eff] at h <;> try (cases h; done)
  case move => split at h <;> first | (cases h; exact .nil rfl) | cases h
  case assign => split at h <;> first | (cases h; exact .nil rfl) | cases h
  case alloc => split at h <;> first | (cases h; exact .one rfl) | cases h
  case box => split at h <;> first | (cases h; exact .one rfl) | cases h
  case build =>
    split at h
    · exact .nil (map_nw h)
    · cases h
  case buildSlice =>
    split at h
    · split at h
      · split at h
        · cases h; exact .one rfl
        split at h
        · unfold effBuildD at h
          split at h
          · cases h; exact .one rfl
          · cases h
        · cases h; exact .one rfl
      · cases h
    · cases h
  case load => split at h <;> first | exact .nil (effLoad_nw h) | cases h
  case store =>
    split at h
    · split at h <;> first | exact .nil (effStore_nw h) | cases h
    · cases h
  case nilCheck => split at h <;> first | (cases h; exact .nil rfl) | cases h
  case binOp => split at h <;> first | exact .nil (effBin_nw h) | cases h
  case unOp => split at h <;> first | (cases h; exact .nil rfl) | cases h
  case convert => split at h <;> first | exact .nil (effConvert_nw h) | cases h
  case slice => split at h <;> first | exact .nil (effSlice_nw h) | cases h
  case fieldAddr => split at h <;> first | exact .nil (effFieldAddr_nw h) | cases h
  case field => split at h <;> first | exact .nil (effField_nw h) | cases h
  case indexAddr => split at h <;> first | exact .nil (effIndexAddr_nw h) | cases h
  case index => split at h <;> first | (cases h; exact .nil rfl) | cases h
  case makeSlice =>
    split at h
    · split at h
      · split at h <;> first | (cases h; exact .nil rfl) | cases h
      · cases h
    · cases h
  case extract =>
    split at h
    · exact .nil (map_nw h)
    · cases h
  case makeFunc =>
    split at h
    · split at h <;> first | (cases h; exact .nil rfl) | cases h
    · cases h
  case call c =>
    split at h
    · split at h
      · split at h
        · split at h <;> first | exact .nil (effLen_nw h) | cases h
        · cases h
      · split at h
        · split at h <;> first | exact effAppend_nw h | cases h
        · cases h
      · split at h
        · split at h <;> first | (cases h; exact .nil rfl) | cases h
        · cases h
      · split at h
        · split at h <;> first | (cases h; exact .nil rfl) | cases h
        · cases h
      · cases h
    · split at h <;> first | exact effCall_nw h | cases h
    · cases h
theorem baseE_nw {D G σ dst op ys e} (h : baseE D G σ dst op ys = some e) : Nw dst e := by
  unfold baseE at h
  split at h
  · unfold pick3 at h
    split at h
    · unfold pickE at h
      split at h <;> first | (cases h; exact .nil rfl) | cases h
    · cases h
  · cases he : eff D G (snap σ (namess ys)) dst op (ys.map uv) with
    | none => rw [he] at h; cases h
    | some e' =>
      rw [he] at h
      simp only [asked] at h
      cases h
      exact (show Nw dst e' from eff_nw he)

section
variable {P : Program} {D : Nat → TI} {G : Ctr} {M : MCtr} {nb : Nat} {off : List (Nat × Bool)} {ops : Array Oper} {σ σ' : AS}

/-- what an operation's operands name -/
def opsNs (σ : AS) (o : Oper) : List Nat := namess (o.op.operands.toList.map (ev σ))

theorem snap_same {ns : List Nat} (h : ∀ n ∈ ns, blk σ' n = blk σ n) : snap σ' ns = snap σ ns := by
  funext n
  unfold snap
  split
  · exact h n (mem_iff.1 ‹_›)
  · rfl

theorem eff_free {op : Op} (h : blkFree op = true) {bl bl' : Nat → Option Blk} {dst : Nat} {xs : List AV} : eff D G bl dst op xs = eff D G bl' dst op xs := by
  cases op <;> simp only [blkFree] at h <;> first | rfl | cases h
theorem mEff_free {o : Oper} {dn : Nat} (h : blkFree o.op = true) : mEff M dn σ o = none := by
  unfold mEff
  split
  · rename_i c hc
    rw [hc] at h
    cases h
  · rfl
/-- what an operation looks at is the same -/
def Same (σ σ' : AS) (o : Oper) : Prop := blkFree o.op = true ∨ ∀ n ∈ opsNs σ o, blk σ' n = blk σ n
theorem Same.base {o : Oper} (h : Same σ σ' o) (dn : Nat) : baseE D G σ' dn o.op (o.op.operands.toList.map (ev σ)) = baseE D G σ dn o.op (o.op.operands.toList.map (ev σ)) := by
  unfold baseE
  rcases h with h | h
  · rw [eff_free h (bl := snap σ' (namess (o.op.operands.toList.map (ev σ)))) (bl' := snap σ (namess (o.op.operands.toList.map (ev σ))))]
  · have hs := snap_same h
    simp only [opsNs] at hs
    rw [hs]
theorem Same.bs {o : Oper} (h : Same σ σ' o) : bsOf σ' o.op (opsNs σ o) = bsOf σ o.op (opsNs σ o) := by
  unfold bsOf
  split
  · rfl
  · rename_i hf
    rcases h with h | h
    · exact absurd h hf
    · rw [snap_same h]
theorem Same.m {o : Oper} (h : Same σ σ' o) (hev : ∀ x ∈ o.op.operands, ev σ' x = ev σ x) {dn : Nat} : mEff M dn σ' o = mEff M dn σ o := by
  rcases h with h | h
  · rw [mEff_free h, mEff_free h]
  · have hys : o.op.operands.toList.map (ev σ') = o.op.operands.toList.map (ev σ) := List.map_congr_left fun x hx => hev x (by simpa using hx)
    have hs := snap_same h
    simp only [opsNs] at hs
    unfold mEff
    rw [hys, hs]
    split
    · rename_i c hc
      split
      · rename_i f hcf
        rw [hc] at hev
        have h1 : ev σ' f = ev σ f := hev f (by simp [Op.operands, Call.operands, hcf])
        have h2 : c.args.toList.map (ev σ') = c.args.toList.map (ev σ) := List.map_congr_left fun x hx => hev x (by simp only [Op.operands, Call.operands, hcf]; exact Array.mem_append.2 (.inr (by simpa using hx)))
        rw [h1, h2]
      · rfl
    · rfl
/-- an operation does the same where what it looks at is the same -/
theorem opEff_same {o : Oper} {e : Eff} (hev : ∀ x ∈ o.op.operands, ev σ' x = ev σ x) (hg : guardOf σ' ops o.guard = guardOf σ ops o.guard) (hsn : Same σ σ' o)
    (hun : o.guard ≠ none → ∀ e0, baseE D G σ (nb + o.dst.getD 0) o.op (o.op.operands.toList.map (ev σ)) = some e0 → unbound σ (keys e0.nw) = true → unbound σ' (keys e0.nw) = true) (he : opEff D G M nb off ops σ o = some e) : opEff D G M nb off ops σ' o = some e := by
  have hys : o.op.operands.toList.map (ev σ') = o.op.operands.toList.map (ev σ) := List.map_congr_left fun x hx => hev x (by simpa using hx)
  unfold opEff at he ⊢
  rw [hg, hys]
  split at he
  · rename_i ho
    rw [if_pos ho]
    exact he
  rename_i ho
  rw [if_neg ho]
  rw [hsn.base, hsn.m hev]
  cases hgo : guardOf σ ops o.guard with
  | none => rw [hgo] at he; cases he
  | some g =>
    rw [hgo] at he
    cases g with
    | none => exact he
    | some g =>
      have hbs := hsn.bs
      simp only [opsNs] at hbs
      cases h0 : baseE D G σ (nb + o.dst.getD 0) o.op (o.op.operands.toList.map (ev σ)) with
      | none => rw [h0] at he; exact he
      | some e0 =>
        rw [h0] at he
        simp only [guarded, hbs] at he ⊢
        split at he
        · rename_i hc
          have hgn : o.guard ≠ none := fun e => by rw [e] at hgo; simp [guardOf] at hgo
          rw [if_pos ⟨hc.1, hun hgn e0 h0 hc.2.1, hc.2.2⟩]
          exact he
        · cases he

theorem opEff_quiet_nw {o : Oper} {e : Eff} (he : opEff D G M nb off ops σ o = some e) : Nw (nb + o.dst.getD 0) e := by
  unfold opEff at he
  split at he
  · unfold skipE at he
    split at he
    · cases he; exact .nil rfl
    · cases he
  cases hgo : guardOf σ ops o.guard with
  | none => rw [hgo] at he; cases he
  | some g =>
    rw [hgo] at he
    cases g with
    | none =>
      cases hbe : baseE D G σ (nb + o.dst.getD 0) o.op (o.op.operands.toList.map (ev σ)) with
      | some e1 => rw [hbe] at he; cases he; exact baseE_nw hbe
      | none =>
        rw [hbe] at he
        cases hme : mEff M (nb + o.dst.getD 0) σ o with
        | none => rw [hme] at he; cases he
        | some e1 =>
          rw [hme] at he
          simp only [orM] at he
          split at he
          · rename_i hn; cases he; exact nwOk_nw hn
          · cases he
    | some g =>
      cases h0 : baseE D G σ (nb + o.dst.getD 0) o.op (o.op.operands.toList.map (ev σ)) with
      | none => rw [h0] at he; simp [guarded] at he
      | some e0 =>
        rw [h0] at he
        simp only [guarded] at he
        split at he
        · cases he; exact .nil rfl
        · cases he

mutual
/-- nothing in it is junk -/
def clean : AV → Bool
  | .junk => false
  | .agg cs => cleans cs
  | .tup cs => cleans cs
  | .func _ cs => cleans cs
  | .opt _ v => clean v
  | _ => true
def cleans : List AV → Bool
  | [] => true
  | v :: r => clean v && cleans r
end
mutual
theorem clean_kl {ks : List Nat} : ∀ (x : AV), clean (kl ks x) = true → kl ks x = x
  | .os t, h => by
    simp only [kl] at h ⊢
    split
    · rename_i e; rw [if_pos e] at h; simp [clean] at h
    · rfl
  | .ptr v o, h => by
    simp only [kl] at h ⊢
    split
    · rename_i e; rw [if_pos e] at h; simp [clean] at h
    · rfl
  | .tsl v o, h => by
    simp only [kl] at h ⊢
    split
    · rename_i e; rw [if_pos e] at h; simp [clean] at h
    · rfl
  | .psl v o, h => by
    simp only [kl] at h ⊢
    split
    · rename_i e; rw [if_pos e] at h; simp [clean] at h
    · rfl
  | .eptr v i o, h => by
    simp only [kl] at h ⊢
    split
    · rename_i e; rw [if_pos e] at h; simp [clean] at h
    · rfl
  | .agg cs, h => by simp only [kl, clean] at h ⊢; rw [cleans_kls cs h]
  | .tup cs, h => by simp only [kl, clean] at h ⊢; rw [cleans_kls cs h]
  | .func f cs, h => by simp only [kl, clean] at h ⊢; rw [cleans_kls cs h]
  | .opt g v, h => by simp only [kl, clean] at h ⊢; rw [clean_kl v h]
  | .junk, _ => by simp [kl]
  | .int _ _, _ => by simp [kl]
  | .bool _, _ => by simp [kl]
  | .str _, _ => by simp [kl]
  | .nils, _ => by simp [kl]
  | .sl _ _, _ => by simp [kl]
  | .iptr _, _ => by simp [kl]
  | .lsl _, _ => by simp [kl]
  | .imap _, _ => by simp [kl]
  | .nilp, _ => by simp [kl]
  | .ifc _, _ => by simp [kl]
theorem cleans_kls {ks : List Nat} : ∀ (cs : List AV), cleans (kls ks cs) = true → kls ks cs = cs
  | [], _ => by simp [kls]
  | c :: r, h => by
    simp only [kls, cleans, Bool.and_eq_true] at h ⊢
    rw [clean_kl c h.1, cleans_kls r h.2]
end
mutual
theorem kl_id {ks : List Nat} : ∀ (x : AV), (∀ n ∈ names x, n ∉ ks) → kl ks x = x
  | .os t, h => by simp only [kl]; rw [if_neg]; simp [mem_false.2 (h t (by simp [names]))]
  | .ptr v o, h => by simp only [kl]; rw [if_neg]; simp [mem_false.2 (h v (by simp [names]))]
  | .tsl v o, h => by simp only [kl]; rw [if_neg]; simp [mem_false.2 (h v (by simp [names]))]
  | .psl v o, h => by simp only [kl]; rw [if_neg]; simp [mem_false.2 (h v (by simp [names]))]
  | .eptr v i o, h => by simp only [kl]; rw [if_neg]; simp [mem_false.2 (h v (by simp [names]))]
  | .agg cs, h => by rw [names] at h; simp only [kl]; rw [kls_id cs h]
  | .tup cs, h => by rw [names] at h; simp only [kl]; rw [kls_id cs h]
  | .func f cs, h => by rw [names] at h; simp only [kl]; rw [kls_id cs h]
  | .opt g v, h => by rw [names] at h; simp only [kl]; rw [kl_id v h]
  | .junk, _ => by simp [kl]
  | .int _ _, _ => by simp [kl]
  | .bool _, _ => by simp [kl]
  | .str _, _ => by simp [kl]
  | .nils, _ => by simp [kl]
  | .sl _ _, _ => by simp [kl]
  | .iptr _, _ => by simp [kl]
  | .lsl _, _ => by simp [kl]
  | .imap _, _ => by simp [kl]
  | .nilp, _ => by simp [kl]
  | .ifc _, _ => by simp [kl]
theorem kls_id {ks : List Nat} : ∀ (cs : List AV), (∀ n ∈ namess cs, n ∉ ks) → kls ks cs = cs
  | [], _ => by simp [kls]
  | c :: r, h => by
    rw [namess] at h
    simp only [kls]
    rw [kl_id c fun n hn => h n (List.mem_append_left _ hn), kls_id r fun n hn => h n (List.mem_append_right _ hn)]
end
theorem cleans_mem : ∀ {cs : List AV} {x : AV}, cleans cs = true → x ∈ cs → clean x = true
  | [], _, _, h => by cases h
  | c :: r, x, hc, h => by
    simp only [cleans, Bool.and_eq_true] at hc
    rcases List.mem_cons.1 h with rfl | h
    · exact hc.1
    · exact cleans_mem hc.2 h

theorem ev_same {x : Operand} (h : ∀ t, x = .tmp t → get t σ'.tm = get t σ.tm) : ev σ' x = ev σ x := by
  cases x with
  | tmp t => simp only [ev, tmv]; rw [h t rfl]
  | _ => rfl
theorem guardOf_same {g : Option (Nat × Bool)} (h : ∀ j w t, g = some (j, w) → (ops[j]?).bind (·.dst) = some t → get t σ'.tm = get t σ.tm) : guardOf σ' ops g = guardOf σ ops g := by
  cases g with
  | none => rfl
  | some jw =>
    obtain ⟨j, w⟩ := jw
    simp only [guardOf]
    cases ht : (ops[j]?).bind (·.dst) with
    | none => rfl
    | some t => simp only [tmv]; rw [h j w t rfl ht]

theorem unbound_iff : ∀ {l : List Nat}, unbound σ l = true ↔ ∀ n ∈ l, blk σ n = none
  | [] => by simp [unbound]
  | k :: r => by
    simp only [unbound, Bool.and_eq_true, Option.isNone_iff_eq_none, unbound_iff (l := r), List.mem_cons]
    constructor
    · rintro ⟨h1, h2⟩ n (rfl | hn)
      · exact h1
      · exact h2 n hn
    · intro h
      exact ⟨h k (.inl rfl), fun n hn => h n (.inr hn)⟩

theorem Eqv.blk_eq (h : Eqv σ σ') : blk σ' = blk σ := funext h.bl
theorem Eqv.opEff (h : Eqv σ σ') {o : Oper} {e : Eff} (he : opEff D G M nb off ops σ o = some e) : Ab.opEff D G M nb off ops σ' o = some e :=
  opEff_same (fun x _ => ev_same fun t _ => h.tm t) (guardOf_same fun _ _ t _ _ => h.tm t) (.inr fun n _ => h.bl n)
    (fun _ e0 _ hu => unbound_iff.2 fun n hn => by rw [h.bl]; exact unbound_iff.1 hu n hn) he
theorem Eqv.fresh (h : Eqv σ σ') {d : Option Nat} {e : Eff} (hf : fresh σ d e = true) : Ab.fresh σ' d e = true := by
  simp only [Ab.fresh, Bool.and_eq_true] at hf ⊢
  refine ⟨unbound_iff.2 fun n hn => by rw [h.bl]; exact unbound_iff.1 hf.1 n hn, ?_⟩
  rw [h.nt]
  exact hf.2

theorem get_tm_kill_eq (σ : AS) (ns : List Nat) (t : Nat) : get t (kill σ ns).tm = (get t σ.tm).map (if ns = [] then id else kl ns) := by
  cases ns with
  | nil => simp [kill]
  | cons m ms => simp [kill, get_mapT]
theorem Eqv.freeze (h : Eqv σ σ') (ns : List Nat) : Eqv (Ab.freeze σ ns) (Ab.freeze σ' ns) := by
  refine ⟨by rw [freeze_nt, freeze_nt]; exact h.nt, fun t => ?_, fun n => ?_⟩
  · rw [get_tm_freeze_eq, get_tm_freeze_eq, h.tm, h.blk_eq]
  · rw [blk_freeze, blk_freeze, h.blk_eq]
theorem kill_nt (σ : AS) (ns : List Nat) : (kill σ ns).nt = σ.nt := by cases ns <;> rfl
theorem Eqv.kill (h : Eqv σ σ') (ns : List Nat) : Eqv (Ab.kill σ ns) (Ab.kill σ' ns) := by
  refine ⟨by rw [kill_nt, kill_nt]; exact h.nt, fun t => ?_, fun n => ?_⟩
  · rw [get_tm_kill_eq, get_tm_kill_eq, h.tm]
  · rw [blk_kill, blk_kill, h.blk_eq]
theorem get_putT (t : Nat) (d : Option Nat) (v : AV) (tm : List (Nat × AV)) : get t (putT d v tm) = if d = some t then some v else get t tm := by
  cases d with
  | none => simp [putT]
  | some d => simp [putT, get]
theorem blk_apply (σ : AS) (d : Option Nat) (e : Eff) (n : Nat) : blk (apply σ d e) n = match get n e.nw with
    | some y => some y
    | none => match get n e.up with
      | some y => some y
      | none => blk (kill (freeze σ e.fr) e.kl) n := by
  simp only [apply, blk, get_append, get_here]
  cases get n e.nw with
  | some y => rfl
  | none =>
    simp only [Option.map_none]
    cases get n e.up with
    | some y => rfl
    | none => simp only [Option.map_none]
theorem Eqv.apply (h : Eqv σ σ') (d : Option Nat) (e : Eff) : Eqv (apply σ d e) (Ab.apply σ' d e) := by
  have h1 := (h.freeze e.fr).kill e.kl
  refine ⟨h.nt, fun t => ?_, fun n => ?_⟩
  · simp only [Ab.apply, get_putT, h1.tm]
  · rw [blk_apply, blk_apply, h1.bl]
end
end Go.Proofs.YtmlejhpeoiicpaaGreatDoor.Ab
namespace Go.Proofs.YtmlejhpeoiicpaaGreatDoor.Ab
open Go
set_option linter.unusedVariables false
set_option linter.unusedSimpArgs false

/-- how a region's operations may be ordered. lo: those that may do anything: all others are ordered with them; uo: those that may change what the blocks un hold; ex: those that are ordered with all of uo; hand: the region is left to be shown by hand -/
structure Lo where
  lo : List Nat := []
  uo : List Nat := []
  un : List Nat := []
  ex : List Nat := []
  kn : List Nat := []
  uo2 : List Nat := []
  un2 : List Nat := []
  ex2 : List Nat := []
  kn2 : List Nat := []
  hand : Bool := false
/-- the second group -/
def Lo.g2 (lo : Lo) : Lo := { uo := lo.uo2, un := lo.un2, ex := lo.ex2, kn := lo.kn2 }
/-- an effect that freezes nothing -/
def fkE (e : Eff) : Bool := match e.fr with
  | [] => true
  | _ :: _ => false
def klNil (e : Eff) : Bool := match e.kl with
  | [] => true
  | _ :: _ => false
def upNil (e : Eff) : Bool := match e.up with
  | [] => true
  | _ :: _ => false
def disj : List Nat → List Nat → Bool
  | [], _ => true
  | n :: r, l => !mem n l && disj r l
def okE (σ : AS) (o : Oper) (e : Eff) : Bool := okN (keys e.nw) (opsNs σ o) (bsOf σ o.op (opsNs σ o)) (names e.v ++ (nwNames e.nw ++ nwNames e.up))
def bcl (bl : Nat → Option Blk) : List Nat → Bool
  | [] => true
  | n :: r => (match bl n with | some (.cells cs) => cleans cs | some (.deep _ _ _ _ _) => false | _ => true) && bcl bl r
def exB (lo : Lo) (σ : AS) (i : Nat) (o : Oper) (e : Eff) : Bool :=
  (isNil lo.un && isNil lo.kn) || (mem i lo.ex ||
    ((isNil lo.kn || (o.guard.isNone && (disj (opsNs σ o) lo.kn && (cleans (o.op.operands.toList.map (ev σ)) && (disj (keys e.nw) lo.kn && (blkFree o.op || (disj (bsOf σ o.op (opsNs σ o)) lo.kn && bcl (snap σ (opsNs σ o)) (opsNs σ o))))))))
    && (blkFree o.op || disj (opsNs σ o) lo.un)))
def upB (lo : Lo) (σ : AS) (o : Oper) (e : Eff) : Bool :=
  subs (keys e.up) lo.un && (subs (keys e.up) (opsNs σ o) && (subs e.kl lo.kn && (subs e.kl (opsNs σ o) && disj (names e.v ++ (nwNames e.nw ++ nwNames e.up)) e.kl)))
def still (lo : Lo) (σ : AS) (i : Nat) (o : Oper) (e : Eff) : Bool :=
  (fkE e && (okE σ o e && ((upNil e && (klNil e && (exB lo σ i o e && exB lo.g2 σ i o e))) || ((mem i lo.uo && upB lo σ o e) || (mem i lo.uo2 && upB lo.g2 σ o e))))) || mem i lo.lo
structure Cx where
  P : Program
  D : Nat → TI
  G : Ctr
  S : Nat → Prop
  N0 : Nat → Prop
  B : Nat
  w0 : World
  nb : Nat
  M : MCtr
abbrev Cx.St (X : Cx) (γ : Nat → Value) : AS → Act → World → Prop := Ab.St X.D X.S X.N0 X.B ⟨X.w0, γ⟩
/-- an operation that the table does not tell: a call into which one goes -/
inductive InlOp (X : Cx) (ops : Array Oper) (o : Oper) (σ : AS) (R : AS → Prop) : Prop
  | mk (h : ∀ (γ : Nat → Value) (a : Act) (w : World) (i : Nat) (Qx : Exit → Act → World → Prop), ops[i]? = some o → X.St γ σ a w → wpOp X.P ops Qx i (fun a' w' => ∃ σ', R σ' ∧ X.St γ σ' a' w') a w)
theorem InlOp.mono {X : Cx} {ops : Array Oper} {o : Oper} {σ : AS} {R R' : AS → Prop} (hr : ∀ σ, R σ → R' σ) (h : InlOp X ops o σ R) : InlOp X ops o σ R' :=
  ⟨fun γ a w i Qx hi hs => wpOp_mono (fun a' w' ⟨σ', h1, h2⟩ => ⟨σ', hr _ h1, h2⟩) (h.1 γ a w i Qx hi hs)⟩
theorem InlOp.eqv {X : Cx} {ops : Array Oper} {o : Oper} {σ σ' : AS} {R : AS → Prop} (he : Eqv σ σ') (h : InlOp X ops o σ R) : InlOp X ops o σ' R :=
  ⟨fun γ a w i Qx hi hs => h.1 γ a w i Qx hi (hs.congr he.symm)⟩
structure Cx.Ok (X : Cx) : Prop where
  mixed : X.P.follows .mixedOrders = true
  types : TOk X.P X.D
  calls : GOk X.P X.D X.G
  mok : ∀ (ops : Array Oper) (o : Oper) (σ : AS) (e : Eff), o.guard = none → mEff X.M (X.nb + o.dst.getD 0) σ o = some e → e.pre → fresh σ o.dst e = true → InlOp X ops o σ (fun σ' => Eqv (apply σ o.dst e) σ')
/-- a region, in the text's order -/
def regW (X : Cx) (off : List (Nat × Bool)) (ops : Array Oper) : List Oper → (AS → Prop) → AS → Prop
  | [], Q, σ => Q σ
  | o :: r, Q, σ => match opEff X.D X.G X.M X.nb off ops σ o with
    | none => InlOp X ops o σ (regW X off ops r Q)
    | some e => (fresh σ o.dst e = true ∧ e.pre) ∧ regW X off ops r Q (apply σ o.dst e)
/-- a region, its operations numbered; lo: those that may touch what is there -/
def regP (X : Cx) (off : List (Nat × Bool)) (ops : Array Oper) (lo : Lo) : List (Nat × Oper) → (AS → Prop) → AS → Prop
  | [], Q, σ => Q σ
  | (i, o) :: r, Q, σ => match opEff X.D X.G X.M X.nb off ops σ o with
    | none => mem i lo.lo = true ∧ InlOp X ops o σ (regP X off ops lo r Q)
    | some e => ((fresh σ o.dst e = true ∧ e.pre) ∧ still lo σ i o e = true) ∧ regP X off ops lo r Q (apply σ o.dst e)
def pairs : Nat → List Oper → List (Nat × Oper)
  | _, [] => []
  | i, o :: r => (i, o) :: pairs (i + 1) r

/-- what comes ahead of each operation, as bits -/
def preOf (acc : List Nat) (es : List Edge) : Nat := es.foldl (fun s e => if Region.binds .any e then s ||| 2 ^ e.on ||| acc.getD e.on 0 else s) 0
def masks : List Oper → List Nat → List Nat
  | [], acc => acc
  | o :: r, acc => masks r (acc ++ [preOf acc o.after.toList])
def apartB (ops : Array Oper) (lo : Lo) (j i : Nat) (oj oi : Oper) : Bool :=
  oj.apart ops oi && !mem i lo.lo && !mem j lo.lo && decide ((oj.dst.getD 0) % 4096 ≠ (oi.dst.getD 0) % 4096) && ((!(mem i lo.uo) || (!mem j lo.ex && (!mem j lo.uo && !mem j lo.uo2))) && (!(mem i lo.uo2) || (!mem j lo.ex2 && (!mem j lo.uo && !mem j lo.uo2)))) && ((!(mem j lo.uo) || (!mem i lo.ex && (!mem i lo.uo && !mem i lo.uo2))) && (!(mem j lo.uo2) || (!mem i lo.ex2 && (!mem i lo.uo && !mem i lo.uo2))))
def backB (i : Nat) (es : List Edge) : Bool := es.all fun e => !Region.binds .any e || decide (e.on < i)
def rowB (ops : Array Oper) (lo : Lo) (m i : Nat) (oi : Oper) : List (Nat × Oper) → Bool
  | [] => true
  | (j, oj) :: r => (decide (i ≤ j) || m.testBit j || apartB ops lo j i oj oi) && rowB ops lo m i oi r
def indepGo (ops : Array Oper) (lo : Lo) (ms : List Nat) (ps : List (Nat × Oper)) : List (Nat × Oper) → Bool
  | [] => true
  | (i, o) :: r => backB i o.after.toList && rowB ops lo (ms.getD i 0) i o ps && indepGo ops lo ms ps r
/-- operations that no edge orders are apart, and none of them may touch what is there -/
def indep (ops : Array Oper) (lo : Lo) : Bool := indepGo ops lo (masks ops.toList []) (pairs 0 ops.toList) (pairs 0 ops.toList)

section
variable {X : Cx} {off : List (Nat × Bool)} {ops : Array Oper} {lo : Lo} {σ σ' : AS}

theorem regP_cons {i : Nat} {o : Oper} {r : List (Nat × Oper)} {Q : AS → Prop} : regP X off ops lo ((i, o) :: r) Q σ ↔ (∃ e, opEff X.D X.G X.M X.nb off ops σ o = some e ∧ ((fresh σ o.dst e = true ∧ e.pre) ∧ still lo σ i o e = true) ∧ regP X off ops lo r Q (apply σ o.dst e)) ∨ (opEff X.D X.G X.M X.nb off ops σ o = none ∧ mem i lo.lo = true ∧ InlOp X ops o σ (regP X off ops lo r Q)) := by
  rw [regP]
  cases opEff X.D X.G X.M X.nb off ops σ o with
  | none => simp
  | some e => simp
theorem regP_some {i : Nat} {o : Oper} {r : List (Nat × Oper)} {Q : AS → Prop} (hi : mem i lo.lo = false) : regP X off ops lo ((i, o) :: r) Q σ ↔ ∃ e, opEff X.D X.G X.M X.nb off ops σ o = some e ∧ ((fresh σ o.dst e = true ∧ e.pre) ∧ still lo σ i o e = true) ∧ regP X off ops lo r Q (apply σ o.dst e) := by
  rw [regP_cons]
  constructor
  · rintro (h | ⟨_, h, _⟩)
    · exact h
    · rw [hi] at h; cases h
  · exact .inl

/-- every name is bound -/
structure Wf (σ : AS) : Prop where
  tm : ∀ t x, get t σ.tm = some x → ∀ n ∈ names x, (blk σ n).isSome = true
  cl : ∀ n x, blk σ n = some x → ∀ m ∈ bnames x, (blk σ m).isSome = true
theorem St0.wf {D : Nat → TI} {S N0 : Nat → Prop} {B : Nat} {w0 : W0} {ρ : Env} {a : Act} {w : World} (h : St0 D S N0 B w0 ρ σ a w) : Wf σ := ⟨fun t x hx => (h.tm t x hx).2, h.hp.clos⟩

theorem Wf.opsB (h : Wf σ) {o : Oper} {n : Nat} (hn : n ∈ opsNs σ o) : (blk σ n).isSome = true := by
  obtain ⟨i, x, hx, hn⟩ := namess_mem hn
  rw [List.getElem?_map] at hx
  obtain ⟨y, hy, rfl⟩ := Option.map_eq_some_iff.1 hx
  cases y with
  | tmp t =>
    simp only [ev, tmv] at hn
    split at hn
    · cases hg : get t σ.tm with
      | none => rw [hg] at hn; simp [names] at hn
      | some x => rw [hg] at hn; exact h.tm t x hg n hn
    · simp [names] at hn
  | const v =>
    simp only [ev] at hn
    unfold cst at hn
    split at hn <;> simp [names] at hn
  | func f => simp [ev, names, namess] at hn
  | global g => simp [ev, names] at hn

theorem fkE_iff {e : Eff} : fkE e = true ↔ e.fr = [] := by
  unfold fkE
  cases e.fr <;> simp
theorem upNil_iff {e : Eff} : upNil e = true ↔ e.up = [] := by
  unfold upNil
  cases e.up <;> simp
theorem klNil_iff {e : Eff} : klNil e = true ↔ e.kl = [] := by
  unfold klNil
  cases e.kl <;> simp
theorem disj_mem {n : Nat} : ∀ {a b : List Nat}, disj a b = true → n ∈ a → n ∉ b
  | [], _, _, h => by cases h
  | k :: r, b, hs, h => by
    simp only [disj, Bool.and_eq_true, Bool.not_eq_true'] at hs
    rcases List.mem_cons.1 h with rfl | h
    · exact mem_false.1 hs.1
    · exact disj_mem hs.2 h
theorem get_tm_kl (σ : AS) (ns : List Nat) (t : Nat) : get t (kill σ ns).tm = (get t σ.tm).map (kl ns) := by
  rw [get_tm_kill_eq]
  split
  · rename_i h
    subst h
    rw [show (kl [] : AV → AV) = id from funext kl_nil]
  · rfl
theorem mapBlk_kl_nil (x : Blk) : mapBlk (kl []) x = x := by
  cases x with
  | rows e sz rs => rfl
  | deep e sz rs cols foc => simp only [mapBlk]; rw [keepF_id (fun m => kl_nil _)]
  | cells cs => simp only [mapBlk]; rw [show (kl [] : AV → AV) = id from funext kl_nil]; simp
theorem keepF_kl {ks : List Nat} : ∀ {foc : List (Nat × Nat × Nat)}, (∀ n ∈ focN foc, n ∉ ks) → keepF (kl ks) foc = foc
  | [], _ => rfl
  | (i, j, m) :: r, h => by
    have hm : mem m ks = false := mem_false.2 (h m (by simp [focN]))
    simp only [keepF, kl, hm, Bool.false_eq_true, if_false]
    rw [keepF_kl fun n hn => h n (by simp only [focN, List.mem_cons]; exact .inr hn)]
theorem mapBlk_id {ks : List Nat} {x : Blk} (h : ∀ n ∈ bnames x, n ∉ ks) : mapBlk (kl ks) x = x := by
  cases x with
  | rows e sz rs => rfl
  | deep e sz rs cols foc => simp only [mapBlk]; rw [keepF_kl h]
  | cells cs => simp only [mapBlk]; rw [← kls_eq, kls_id cs h]
/-- behind an effect that freezes nothing -/
theorem apply_tm {d : Option Nat} {e : Eff} (h : fkE e = true) (t : Nat) : get t (apply σ d e).tm = if d = some t then some e.v else (get t σ.tm).map (kl e.kl) := by
  simp only [apply, fkE_iff.1 h, freeze, get_putT, get_tm_kl]
theorem apply_blk {d : Option Nat} {e : Eff} (h : fkE e = true) (n : Nat) : blk (apply σ d e) n = match get n e.nw with
    | some y => some y
    | none => match get n e.up with
      | some y => some y
      | none => if n ∈ e.kl then none else (blk σ n).map (mapBlk (kl e.kl)) := by
  rw [blk_apply, fkE_iff.1 h]
  simp only [freeze, blk_kill]
  all_goals (
    cases get n e.nw with
    | some y => rfl
    | none =>
      cases get n e.up with
      | some y => rfl
      | none => rfl)
theorem apply_mono {d : Option Nat} {e : Eff} (h : fkE e = true) {n : Nat} (hn : (blk σ n).isSome = true) (hk : n ∉ e.kl) : (blk (apply σ d e) n).isSome = true := by
  rw [apply_blk h]
  split
  · rfl
  · split
    · rfl
    · rw [if_neg hk]; simpa using hn
theorem nwNames_mem {n k : Nat} {x : Blk} : ∀ {l : List (Nat × Blk)}, get k l = some x → n ∈ bnames x → n ∈ nwNames l
  | [], h, _ => by simp [get] at h
  | (j, .cells ds) :: r, h, hn => by
    simp only [get] at h
    simp only [nwNames, List.mem_append]
    split at h
    · cases h; exact .inl hn
    · exact .inr (nwNames_mem h hn)
  | (j, .rows _ _ _) :: r, h, hn => by
    simp only [get] at h
    simp only [nwNames]
    split at h
    · cases h; cases hn
    · exact nwNames_mem h hn
  | (j, .deep _ _ _ _ foc) :: r, h, hn => by
    simp only [get] at h
    simp only [nwNames, List.mem_append]
    split at h
    · cases h; exact .inl hn
    · exact .inr (nwNames_mem h hn)
theorem okE_bound (hw : Wf σ) {o : Oper} {d : Option Nat} {e : Eff} (hq : fkE e = true) (h : okE σ o e = true) (hkl : ∀ n ∈ names e.v ++ (nwNames e.nw ++ nwNames e.up), n ∉ e.kl) {n : Nat} (hn : n ∈ names e.v ++ (nwNames e.nw ++ nwNames e.up)) : (blk (apply σ d e) n).isSome = true := by
  have := subs_mem h hn
  have hnk := hkl n hn
  simp only [List.mem_append] at this
  rcases this with h1 | h1 | h1
  · obtain ⟨y, hy⟩ := mem_keys.1 h1
    rw [apply_blk hq, hy]
    rfl
  · exact apply_mono hq (hw.opsB h1) hnk
  · unfold bsOf at h1
    split at h1
    · cases h1
    obtain ⟨k, x, hk, hm⟩ := blNames_mem h1
    exact apply_mono hq (hw.cl k x (names_bl_snap hk) n hm) hnk
theorem Wf.apply (hw : Wf σ) {o : Oper} {d : Option Nat} {e : Eff} (hq : fkE e = true) (h : okE σ o e = true) (hkl : ∀ n ∈ names e.v ++ (nwNames e.nw ++ nwNames e.up), n ∉ e.kl) : Wf (apply σ d e) := by
  refine ⟨fun t x hx n hn => ?_, fun n cs hc m hm => ?_⟩
  · rw [apply_tm hq] at hx
    split at hx
    · cases hx
      exact okE_bound hw hq h hkl (List.mem_append_left _ hn)
    · obtain ⟨y, hy, rfl⟩ := Option.map_eq_some_iff.1 hx
      have := names_kl e.kl y n hn
      exact apply_mono hq (hw.tm t y hy n this.1) this.2
  · rw [apply_blk hq] at hc
    split at hc
    · rename_i y hy
      cases hc
      exact okE_bound hw hq h hkl (List.mem_append_right _ (List.mem_append_left _ (nwNames_mem hy hm)))
    · split at hc
      · rename_i y hy
        cases hc
        exact okE_bound hw hq h hkl (List.mem_append_right _ (List.mem_append_right _ (nwNames_mem hy hm)))
      · split at hc
        · cases hc
        · obtain ⟨y, hy, rfl⟩ := Option.map_eq_some_iff.1 hc
          obtain ⟨q1, q2⟩ := bnames_kl hm
          exact apply_mono hq (hw.cl n y hy m q1) q2

theorem opsNs_same {o : Oper} (hev : ∀ x ∈ o.op.operands, ev σ' x = ev σ x) : opsNs σ' o = opsNs σ o := by
  unfold opsNs
  rw [List.map_congr_left fun x hx => hev x (by simpa using hx)]
theorem okE_same {o : Oper} {e : Eff} (hns : opsNs σ' o = opsNs σ o) (h : Same σ σ' o) : okE σ' o e = okE σ o e := by
  unfold okE
  rw [hns, h.bs]
theorem upB_same {o : Oper} {e : Eff} (hns : opsNs σ' o = opsNs σ o) : upB lo σ' o e = upB lo σ o e := by
  unfold upB
  rw [hns]
theorem exB_same {i : Nat} {o : Oper} {e : Eff} (hev : ∀ x ∈ o.op.operands, ev σ' x = ev σ x) (h : Same σ σ' o) : exB lo σ' i o e = exB lo σ i o e := by
  have hns := opsNs_same hev
  have hm : o.op.operands.toList.map (ev σ') = o.op.operands.toList.map (ev σ) := List.map_congr_left fun x hx => hev x (by simpa using hx)
  unfold exB
  rw [hns, hm, h.bs]
  rcases h with h | h
  · rw [h]; simp
  · rw [snap_same h]
theorem still_same {i : Nat} {o : Oper} {e : Eff} (hev : ∀ x ∈ o.op.operands, ev σ' x = ev σ x) (h : Same σ σ' o) : still lo σ' i o e = still lo σ i o e := by
  unfold still
  rw [okE_same (opsNs_same hev) h, upB_same (opsNs_same hev), upB_same (opsNs_same hev), exB_same hev h, exB_same hev h]

/-- closed under what says the same -/
def Inv (Q : AS → Prop) : Prop := ∀ σ σ', Eqv σ σ' → Q σ → Q σ'
def clo (Q : AS → Prop) (σ : AS) : Prop := ∃ σ1, Eqv σ1 σ ∧ Q σ1
theorem clo_inv (Q : AS → Prop) : Inv (clo Q) := fun σ σ' h ⟨σ1, h1, h2⟩ => ⟨σ1, h1.trans h, h2⟩
theorem regP_mono {Q Q' : AS → Prop} (h : ∀ σ, Q σ → Q' σ) : ∀ {R : List (Nat × Oper)} {σ : AS}, regP X off ops lo R Q σ → regP X off ops lo R Q' σ
  | [], σ, hr => h σ hr
  | (i, o) :: r, σ, hr => by
    rcases regP_cons.1 hr with ⟨e, h1, h2, h3⟩ | ⟨h1, h2, h3⟩
    · exact regP_cons.2 (.inl ⟨e, h1, h2, regP_mono h h3⟩)
    · exact regP_cons.2 (.inr ⟨h1, h2, h3.mono fun σ => regP_mono h⟩)
theorem Eqv.opsNs (h : Eqv σ σ') (o : Oper) : opsNs σ' o = Ab.opsNs σ o := by
  unfold Ab.opsNs
  rw [List.map_congr_left fun x _ => ev_same fun t _ => h.tm t]
theorem Eqv.still (h : Eqv σ σ') {i : Nat} {o : Oper} {e : Eff} : still lo σ' i o e = Ab.still lo σ i o e :=
  still_same (fun x _ => ev_same fun t _ => h.tm t) (.inr fun n _ => h.bl n)
theorem regP_eqv {Q : AS → Prop} (hQ : Inv Q) : ∀ {R : List (Nat × Oper)} {σ σ' : AS}, Eqv σ σ' → regP X off ops lo R Q σ → regP X off ops lo R Q σ'
  | [], σ, σ', h, hr => hQ σ σ' h hr
  | (i, o) :: r, σ, σ', h, hr => by
    rcases regP_cons.1 hr with ⟨e, h1, ⟨⟨h2, h2'⟩, h2''⟩, h3⟩ | ⟨h1, h2, h3⟩
    · exact regP_cons.2 (.inl ⟨e, h.opEff h1, ⟨⟨h.fresh h2, h2'⟩, by rw [h.still]; exact h2''⟩, regP_eqv hQ (h.apply o.dst e) h3⟩)
    · refine regP_cons.2 (.inr ⟨?_, h2, h3.eqv h⟩)
      cases hq : opEff X.D X.G X.M X.nb off ops σ' o with
      | none => rfl
      | some e => rw [h.symm.opEff hq] at h1; cases h1

theorem looks_tmp {o : Oper} {x : Operand} {t : Nat} (hx : x ∈ o.op.operands) (e : x = .tmp t) : t ∈ o.looksAt ops := by
  subst e
  exact List.mem_append_left _ (List.mem_filterMap.2 ⟨.tmp t, by simpa using hx, rfl⟩)
theorem looks_guard {o : Oper} {j : Nat} {w : Bool} {t : Nat} (hg : o.guard = some (j, w)) (ht : (ops[j]?).bind (·.dst) = some t) : t ∈ o.looksAt ops := by
  unfold Oper.looksAt
  refine List.mem_append_right _ ?_
  rw [hg]
  simp [ht]

theorem mod_lem (a b c : Nat) (h : (c + a) % 4096 = (c + b) % 4096) : a % 4096 = b % 4096 := by omega
theorem ev_tmp (σ : AS) (t : Nat) : Ab.ev σ (.tmp t) = tmv σ t := rfl
/-- what is known of an operation that may do but little -/
theorem still_out {i : Nat} (hi : mem i lo.lo = false) {o : Oper} {e : Eff} (h : still lo σ i o e = true) : fkE e = true ∧ okE σ o e = true ∧ ((e.up = [] ∧ e.kl = [] ∧ exB lo σ i o e = true ∧ exB lo.g2 σ i o e = true) ∨ (mem i lo.uo = true ∧ upB lo σ o e = true) ∨ (mem i lo.uo2 = true ∧ upB lo.g2 σ o e = true)) := by
  simp only [still, hi, Bool.or_false, Bool.and_eq_true, Bool.or_eq_true] at h
  obtain ⟨h1, h2, h3⟩ := h
  refine ⟨h1, h2, ?_⟩
  rcases h3 with ⟨h3, h4, h5⟩ | h3
  · exact .inl ⟨upNil_iff.1 h3, klNil_iff.1 h4, h5⟩
  · exact .inr h3
theorem upB_out {o : Oper} {e : Eff} (h : upB lo σ o e = true) : (∀ n ∈ keys e.up, n ∈ lo.un ∧ n ∈ opsNs σ o) ∧ (∀ n ∈ e.kl, n ∈ lo.kn ∧ n ∈ opsNs σ o) ∧ ∀ n ∈ names e.v ++ (nwNames e.nw ++ nwNames e.up), n ∉ e.kl := by
  simp only [upB, Bool.and_eq_true] at h
  obtain ⟨h1, h2, h3, h4, h5⟩ := h
  exact ⟨fun n hn => ⟨subs_mem h1 hn, subs_mem h2 hn⟩, fun n hn => ⟨subs_mem h3 hn, subs_mem h4 hn⟩, fun n hn => disj_mem h5 hn⟩
theorem still_kl {i : Nat} (hi : mem i lo.lo = false) {o : Oper} {e : Eff} (h : still lo σ i o e = true) : ∀ n ∈ names e.v ++ (nwNames e.nw ++ nwNames e.up), n ∉ e.kl := by
  obtain ⟨_, _, h3⟩ := still_out hi h
  rcases h3 with ⟨_, h3, _⟩ | ⟨_, h3⟩ | ⟨_, h3⟩
  · rw [h3]; simp
  · exact (upB_out h3).2.2
  · exact (upB_out h3).2.2
theorem bcl_mem {bl : Nat → Option Blk} {n : Nat} {cs : List AV} : ∀ {l : List Nat}, bcl bl l = true → n ∈ l → bl n = some (.cells cs) → cleans cs = true
  | [], _, h, _ => by cases h
  | k :: r, hb, h, hn => by
    simp only [bcl, Bool.and_eq_true] at hb
    rcases List.mem_cons.1 h with rfl | h
    · have := hb.1; rw [hn] at this; exact this
    · exact bcl_mem hb.2 h hn
theorem bcl_deep {bl : Nat → Option Blk} {n e sz : Nat} {rs : List (List AV)} {cols foc : List (Nat × Nat × Nat)} : ∀ {l : List Nat}, bcl bl l = true → n ∈ l → bl n = some (.deep e sz rs cols foc) → False
  | [], _, h, _ => by cases h
  | k :: r, hb, h, hn => by
    simp only [bcl, Bool.and_eq_true] at hb
    rcases List.mem_cons.1 h with rfl | h
    · have := hb.1; rw [hn] at this; cases this
    · exact bcl_deep hb.2 h hn
theorem blNames_of {bl : Nat → Option Blk} {n m : Nat} {x : Blk} : ∀ {l : List Nat}, n ∈ l → bl n = some x → m ∈ bnames x → m ∈ blNames bl l
  | [], h, _, _ => by cases h
  | k :: r, h, hn, hm => by
    simp only [blNames]
    rcases List.mem_cons.1 h with rfl | h
    · rw [hn]
      cases x with
      | cells cs => exact List.mem_append_left _ hm
      | rows _ _ _ => cases hm
      | deep _ _ _ _ foc => exact List.mem_append_left _ hm
    · split
      · exact List.mem_append_right _ (blNames_of h hn hm)
      · exact List.mem_append_right _ (blNames_of h hn hm)
      · exact blNames_of h hn hm
theorem snap_mem {ns : List Nat} {n : Nat} (h : n ∈ ns) : snap σ ns n = blk σ n := by
  unfold snap
  rw [if_pos (mem_iff.2 h)]
theorem ne_nil_of {k : Nat} {l : List Nat} (h : k ∈ l) : isNil l = false := by
  cases l with
  | nil => cases h
  | cons _ _ => rfl
/-- what is known of a quiet operation that is not ordered with those that change something -/
theorem exB_out {i : Nat} {o : Oper} {e : Eff} (hx : mem i lo.ex = false) (h : exB lo σ i o e = true) :
    (∀ k ∈ lo.kn, o.guard = none ∧ (∀ n ∈ opsNs σ o, n ∉ lo.kn) ∧ cleans (o.op.operands.toList.map (ev σ)) = true ∧ (∀ n ∈ keys e.nw, n ∉ lo.kn) ∧ (blkFree o.op = true ∨ ((∀ n ∈ bsOf σ o.op (opsNs σ o), n ∉ lo.kn) ∧ bcl (snap σ (opsNs σ o)) (opsNs σ o) = true))) ∧
    (∀ k ∈ lo.un, blkFree o.op = true ∨ ∀ n ∈ opsNs σ o, n ∉ lo.un) := by
  simp only [exB, hx, Bool.false_or, Bool.or_eq_true, Bool.and_eq_true, Option.isNone_iff_eq_none] at h
  rcases h with ⟨h1, h2⟩ | ⟨h1, h2⟩
  · exact ⟨fun k hk => (by rw [ne_nil_of hk] at h2; cases h2), fun k hk => (by rw [ne_nil_of hk] at h1; cases h1)⟩
  · refine ⟨fun k hk => ?_, fun k hk => h2.imp id fun h => fun n hn => disj_mem h hn⟩
    rcases h1 with h1 | ⟨g1, g2, g3, g4, g5⟩
    · rw [ne_nil_of hk] at h1; cases h1
    · exact ⟨g1, fun n hn => disj_mem g2 hn, g3, fun n hn => disj_mem g4 hn, g5.imp id fun ⟨q1, q2⟩ => ⟨fun n hn => disj_mem q1 hn, q2⟩⟩
theorem tmv_apply {d : Option Nat} {e : Eff} (h : fkE e = true) {t : Nat} (ht : d ≠ some t) : tmv (apply σ d e) t = kl e.kl (tmv σ t) := by
  unfold tmv
  split
  · rw [apply_tm h, if_neg ht]
    cases get t σ.tm <;> simp [kl]
  · simp [kl]

/-- two that are apart change places -/
theorem swap {Q : AS → Prop} (hQ : Inv Q) (hw : Wf σ) {j i : Nat} {oj oi : Oper} {r : List (Nat × Oper)} (hap : apartB ops lo j i oj oi = true) (h : regP X off ops lo ((j, oj) :: (i, oi) :: r) Q σ) :
    regP X off ops lo ((i, oi) :: (j, oj) :: r) Q σ := by
  simp only [apartB, Bool.and_eq_true, Bool.or_eq_true, Bool.not_eq_true', decide_eq_true_eq] at hap
  obtain ⟨⟨⟨⟨⟨hap, hi⟩, hj⟩, hne⟩, hui, hui2⟩, huj, huj2⟩ := hap
  obtain ⟨a1, a2, a3⟩ := Oper.apart_spec hap
  obtain ⟨ej, j1, ⟨⟨j2, j3⟩, j4⟩, h⟩ := (regP_some hj).1 h
  obtain ⟨ei, i1, ⟨⟨i2, i3⟩, i4⟩, h⟩ := (regP_some hi).1 h
  have jkl := still_kl hj j4
  have ikl := still_kl hi i4
  obtain ⟨jq, jo, jc⟩ := still_out hj j4
  obtain ⟨iq, io, ic⟩ := still_out hi i4
  simp only [fresh, Bool.and_eq_true] at j2 i2
  obtain ⟨j2, j2'⟩ := j2
  obtain ⟨i2, i2'⟩ := i2
  have jun := unbound_iff.1 j2
  have iun := unbound_iff.1 i2
  -- j changes something: then i is quiet, and cares for it
  obtain ⟨lj, jup, jkn, iquiet⟩ : ∃ lj : Lo, (∀ n ∈ keys ej.up, n ∈ lj.un ∧ n ∈ opsNs σ oj) ∧ (∀ n ∈ ej.kl, n ∈ lj.kn ∧ n ∈ opsNs σ oj) ∧
      ((∃ n, n ∈ keys ej.up ∨ n ∈ ej.kl) → ei.up = [] ∧ ei.kl = [] ∧ mem i lj.ex = false ∧ exB lj (apply σ oj.dst ej) i oi ei = true) := by
    rcases jc with ⟨e1, e2, _⟩ | ⟨e1, e2⟩ | ⟨e1, e2⟩
    · exact ⟨lo, by rw [e1]; simp [keys], by rw [e2]; simp, fun ⟨n, hn⟩ => by rw [e1, e2] at hn; simp [keys] at hn⟩
    · refine ⟨lo, (upB_out e2).1, (upB_out e2).2.1, fun _ => ?_⟩
      have h1 := huj.resolve_left (by rw [e1]; simp)
      rcases ic with ⟨c1, c2, c3, _⟩ | ⟨c, _⟩ | ⟨c, _⟩
      · exact ⟨c1, c2, h1.1, c3⟩
      · rw [h1.2.1] at c; cases c
      · rw [h1.2.2] at c; cases c
    · refine ⟨lo.g2, (upB_out e2).1, (upB_out e2).2.1, fun _ => ?_⟩
      have h1 := huj2.resolve_left (by rw [e1]; simp)
      rcases ic with ⟨c1, c2, _, c3⟩ | ⟨c, _⟩ | ⟨c, _⟩
      · exact ⟨c1, c2, h1.1, c3⟩
      · rw [h1.2.1] at c; cases c
      · rw [h1.2.2] at c; cases c
  -- what i sees
  have hev : ∀ x ∈ oi.op.operands, ev (apply σ oj.dst ej) x = ev σ x := fun x hx => by
    cases x with
    | tmp t =>
      have ht : oj.dst ≠ some t := fun hd => a1 t hd (looks_tmp hx rfl)
      rw [ev_tmp, ev_tmp, tmv_apply jq ht]
      by_cases hk : ej.kl = []
      · rw [hk, kl_nil]
      · obtain ⟨n, hn⟩ := List.exists_mem_of_ne_nil _ hk
        obtain ⟨_, _, h1, h2⟩ := iquiet ⟨n, .inr hn⟩
        have h3 := ((exB_out h1 h2).1 n (jkn n hn).1).2.2.1
        have h4 := cleans_mem h3 (List.mem_map_of_mem (f := ev (apply σ oj.dst ej)) (show Operand.tmp t ∈ oi.op.operands.toList by simpa using hx))
        rw [ev_tmp, tmv_apply jq ht] at h4
        exact clean_kl _ h4
    | _ => rfl
  have hns : opsNs (apply σ oj.dst ej) oi = opsNs σ oi := opsNs_same hev
  have hiK : ∀ n ∈ opsNs σ oi, n ∉ ej.kl := fun n hn hk => by
    obtain ⟨_, _, h1, h2⟩ := iquiet ⟨n, .inr hk⟩
    have h3 := ((exB_out h1 h2).1 n (jkn n hk).1).2.1 n (by rw [hns]; exact hn)
    exact h3 (jkn n hk).1
  have same1 : Same σ (apply σ oj.dst ej) oi := by
    by_cases hf : blkFree oi.op = true
    · exact .inl hf
    · refine .inr fun n hn => ?_
      have hb := hw.opsB hn
      rw [apply_blk jq]
      have h1 : get n ej.nw = none := get_none.2 fun hk => by rw [jun n hk] at hb; cases hb
      have h2 : get n ej.up = none := get_none.2 fun hk => by
        obtain ⟨_, _, g1, g2⟩ := iquiet ⟨n, .inl hk⟩
        rcases (exB_out g1 g2).2 n (jup n hk).1 with g3 | g3
        · exact hf g3
        · exact g3 n (by rw [hns]; exact hn) (jup n hk).1
      rw [h1, h2]
      simp only
      rw [if_neg (hiK n hn)]
      cases hbn : blk σ n with
      | none => rfl
      | some y =>
        simp only [Option.map_some]
        by_cases hk : ej.kl = []
        · rw [hk, mapBlk_kl_nil]
        · obtain ⟨k, hk⟩ := List.exists_mem_of_ne_nil _ hk
          obtain ⟨_, _, g1, g2⟩ := iquiet ⟨k, .inr hk⟩
          have g3 := (((exB_out g1 g2).1 k (jkn k hk).1).2.2.2.2).resolve_left hf
          cases y with
          | rows _ _ _ => rfl
          | deep e sz rs cols foc =>
            exfalso
            have g4 : blk (apply σ oj.dst ej) n = some (.deep e sz rs cols (keepF (kl ej.kl) foc)) := by
              rw [apply_blk jq, h1, h2]
              simp only
              rw [if_neg (hiK n hn), hbn]
              rfl
            exact bcl_deep g3.2 (n := n) (by rw [hns]; exact hn) (by rw [snap_mem (by rw [hns]; exact hn)]; exact g4)
          | cells cs =>
            have g4 : blk (apply σ oj.dst ej) n = some (.cells (kls ej.kl cs)) := by
              rw [apply_blk jq, h1, h2]
              simp only
              rw [if_neg (hiK n hn), hbn]
              simp only [Option.map_some, mapBlk, kls_eq]
            have g5 := bcl_mem g3.2 (n := n) (cs := kls ej.kl cs) (by rw [hns]; exact hn) (by rw [snap_mem (by rw [hns]; exact hn)]; exact g4)
            simp only [mapBlk]
            rw [← kls_eq, cleans_kls cs g5]
  have hun0 : ∀ n, n ∉ ej.kl → blk (apply σ oj.dst ej) n = none → blk σ n = none := fun n hk hn => by
    cases hb : blk σ n with
    | none => rfl
    | some y =>
      have := apply_mono (σ := σ) (d := oj.dst) jq (n := n) (by rw [hb]; rfl) hk
      rw [hn] at this
      cases this
  have hgi : guardOf (apply σ oj.dst ej) ops oi.guard = guardOf σ ops oi.guard := by
    by_cases hk : ej.kl = []
    · refine guardOf_same fun jj ww t hg ht => ?_
      rw [apply_tm jq, if_neg fun hd => a1 t hd (looks_guard hg ht), hk, show (kl [] : AV → AV) = id from funext kl_nil]
      simp
    · obtain ⟨k, hk⟩ := List.exists_mem_of_ne_nil _ hk
      obtain ⟨_, _, g1, g2⟩ := iquiet ⟨k, .inr hk⟩
      rw [((exB_out g1 g2).1 k (jkn k hk).1).1]
      rfl
  have k1 : opEff X.D X.G X.M X.nb off ops σ oi = some ei := by
    refine opEff_same (σ := apply σ oj.dst ej) (fun x hx => (hev x hx).symm) hgi.symm (same1.imp id fun hs n hn => by rw [hns] at hn; exact (hs n hn).symm) (fun hgn e0 _ hu => ?_) i1
    refine unbound_iff.2 fun n hn => hun0 n (fun hk => ?_) (unbound_iff.1 hu n hn)
    obtain ⟨_, _, g1, g2⟩ := iquiet ⟨n, .inr hk⟩
    exact hgn ((exB_out g1 g2).1 n (jkn n hk).1).1
  have iun' : ∀ n ∈ keys ei.nw, blk σ n = none := fun n hn => hun0 n (fun hk => by
    obtain ⟨_, _, g1, g2⟩ := iquiet ⟨n, .inr hk⟩
    exact ((exB_out g1 g2).1 n (jkn n hk).1).2.2.2.1 n hn (jkn n hk).1) (iun n hn)
  -- i changes something: then j is quiet
  obtain ⟨li, iup, ikn, jquiet⟩ : ∃ li : Lo, (∀ n ∈ keys ei.up, n ∈ li.un ∧ n ∈ opsNs σ oi) ∧ (∀ n ∈ ei.kl, n ∈ li.kn ∧ n ∈ opsNs σ oi) ∧
      ((∃ n, n ∈ keys ei.up ∨ n ∈ ei.kl) → ej.up = [] ∧ ej.kl = [] ∧ mem j li.ex = false ∧ exB li σ j oj ej = true) := by
    rw [← hns]
    rcases ic with ⟨e1, e2, _⟩ | ⟨e1, e2⟩ | ⟨e1, e2⟩
    · exact ⟨lo, by rw [e1]; simp [keys], by rw [e2]; simp, fun ⟨n, hn⟩ => by rw [e1, e2] at hn; simp [keys] at hn⟩
    · refine ⟨lo, (upB_out e2).1, (upB_out e2).2.1, fun _ => ?_⟩
      have h1 := hui.resolve_left (by rw [e1]; simp)
      rcases jc with ⟨c1, c2, c3, _⟩ | ⟨c, _⟩ | ⟨c, _⟩
      · exact ⟨c1, c2, h1.1, c3⟩
      · rw [h1.2.1] at c; cases c
      · rw [h1.2.2] at c; cases c
    · refine ⟨lo.g2, (upB_out e2).1, (upB_out e2).2.1, fun _ => ?_⟩
      have h1 := hui2.resolve_left (by rw [e1]; simp)
      rcases jc with ⟨c1, c2, _, c3⟩ | ⟨c, _⟩ | ⟨c, _⟩
      · exact ⟨c1, c2, h1.1, c3⟩
      · rw [h1.2.1] at c; cases c
      · rw [h1.2.2] at c; cases c
  have hbd : ∀ n, (blk σ n).isSome = true → n ∉ keys ei.nw := fun n hn hk => by rw [iun' n hk] at hn; cases hn
  have hjK : ∀ n ∈ opsNs σ oj, n ∉ ei.kl := fun n hn hk => by
    obtain ⟨_, _, h1, h2⟩ := jquiet ⟨n, .inr hk⟩
    exact ((exB_out h1 h2).1 n (ikn n hk).1).2.1 n hn (ikn n hk).1
  have hev2 : ∀ x ∈ oj.op.operands, ev (apply σ oi.dst ei) x = ev σ x := fun x hx => by
    cases x with
    | tmp t =>
      have ht : oi.dst ≠ some t := fun hd => a3 t hd (looks_tmp hx rfl)
      rw [ev_tmp, ev_tmp, tmv_apply iq ht]
      refine kl_id _ fun n hn => hjK n ?_
      obtain ⟨q, hq⟩ := List.getElem?_of_mem (show Operand.tmp t ∈ oj.op.operands.toList by simpa using hx)
      exact mem_namess (i := q) (x := ev σ (.tmp t)) (by rw [List.getElem?_map, hq]; rfl) hn
    | _ => rfl
  have hns2 : opsNs (apply σ oi.dst ei) oj = opsNs σ oj := opsNs_same hev2
  have hjbs : ∀ n ∈ bsOf σ oj.op (opsNs σ oj), n ∉ ei.kl := fun n hn hk => by
    obtain ⟨_, _, g1, g2⟩ := jquiet ⟨n, .inr hk⟩
    rcases ((exB_out g1 g2).1 n (ikn n hk).1).2.2.2.2 with g3 | g3
    · unfold bsOf at hn; rw [if_pos g3] at hn; cases hn
    · exact g3.1 n hn (ikn n hk).1
  have same2 : Same σ (apply σ oi.dst ei) oj := by
    by_cases hf : blkFree oj.op = true
    · exact .inl hf
    · refine .inr fun n hn => ?_
      have hb := hw.opsB hn
      rw [apply_blk iq]
      have h1 : get n ei.nw = none := get_none.2 (hbd n hb)
      have h2 : get n ei.up = none := get_none.2 fun hk => by
        obtain ⟨_, _, g1, g2⟩ := jquiet ⟨n, .inl hk⟩
        rcases (exB_out g1 g2).2 n (iup n hk).1 with g3 | g3
        · exact hf g3
        · exact g3 n hn (iup n hk).1
      rw [h1, h2]
      simp only
      rw [if_neg (hjK n hn)]
      cases hbn : blk σ n with
      | none => rfl
      | some y =>
        simp only [Option.map_some]
        rw [mapBlk_id]
        intro m hm
        refine hjbs m ?_
        unfold bsOf
        rw [if_neg hf]
        exact blNames_of hn (by rw [snap_mem hn]; exact hbn) hm
  have hmod : ∀ n, n ∈ keys ei.nw → n % 4096 = (X.nb + oj.dst.getD 0) % 4096 → False := fun n hn hm => hne (mod_lem _ _ _ (hm.symm.trans (opEff_quiet_nw k1 n hn)))
  have hub : ∀ n, blk σ n = none → n ∉ keys ei.up := fun n hn hk => by have := hw.opsB (iup n hk).2; rw [hn] at this; cases this
  have hkb : ∀ n, blk σ n = none → n ∉ ei.kl := fun n hn hk => by have := hw.opsB (ikn n hk).2; rw [hn] at this; cases this
  have hnone : ∀ n, n ∉ keys ei.nw → blk σ n = none → blk (apply σ oi.dst ei) n = none := fun n hn hb => by
    rw [apply_blk iq, get_none.2 hn, get_none.2 (hub n hb), hb]
    simp
  have hgj : guardOf (apply σ oi.dst ei) ops oj.guard = guardOf σ ops oj.guard := by
    by_cases hk : ei.kl = []
    · refine guardOf_same fun jj ww t hg ht => ?_
      rw [apply_tm iq, if_neg fun hd => a3 t hd (looks_guard hg ht), hk, show (kl [] : AV → AV) = id from funext kl_nil]
      simp
    · obtain ⟨k, hk⟩ := List.exists_mem_of_ne_nil _ hk
      obtain ⟨_, _, g1, g2⟩ := jquiet ⟨k, .inr hk⟩
      rw [((exB_out g1 g2).1 k (ikn k hk).1).1]
      rfl
  have k2 : opEff X.D X.G X.M X.nb off ops (apply σ oi.dst ei) oj = some ej := by
    refine opEff_same (σ := σ) hev2 hgj same2 (fun _ e0 h0 hu => ?_) j1
    exact unbound_iff.2 fun n hn => hnone n (fun hk => hmod n hk (baseE_nw h0 n hn)) (unbound_iff.1 hu n hn)
  have hij : ∀ n, n ∈ keys ej.nw → n ∉ keys ei.nw := fun n hn hk => hmod n hk (opEff_quiet_nw j1 n hn)
  refine (regP_some hi).2 ⟨ei, k1, ⟨⟨?_, i3⟩, ?_⟩, (regP_some hj).2 ⟨ej, k2, ⟨⟨?_, j3⟩, ?_⟩, regP_eqv hQ ?_ h⟩⟩
  · simp only [fresh, Bool.and_eq_true]
    exact ⟨unbound_iff.2 iun', i2'⟩
  · rw [← still_same hev same1]
    exact i4
  · simp only [fresh, Bool.and_eq_true]
    exact ⟨unbound_iff.2 fun n hn => hnone n (hij n hn) (jun n hn), j2'⟩
  · rw [still_same hev2 same2]
    exact j4
  · -- the same state in the end
    have hju : ∀ n, n ∈ keys ej.up → n ∉ keys ei.nw := fun n hn => hbd n (hw.opsB (jup n hn).2)
    have hjn : ∀ n, n ∈ keys ej.nw → n ∉ keys ei.up := fun n hn => hub n (jun n hn)
    have huu : ∀ n, n ∈ keys ej.up → n ∉ keys ei.up := fun n hn hk => by
      rw [(iquiet ⟨n, .inl hn⟩).1] at hk; simp [keys] at hk
    have hvj : ∀ n ∈ names ej.v ++ (nwNames ej.nw ++ nwNames ej.up), n ∉ ei.kl := fun n hn hk => by
      have := subs_mem jo hn
      simp only [List.mem_append] at this
      rcases this with h1 | h1 | h1
      · exact hkb n (jun n h1) hk
      · exact hjK n h1 hk
      · exact hjbs n h1 hk
    have hvi : ∀ n ∈ names ei.v ++ (nwNames ei.nw ++ nwNames ei.up), n ∉ ej.kl := fun n hn hk => by
      have := subs_mem io hn
      obtain ⟨_, _, g1, g2⟩ := iquiet ⟨n, .inr hk⟩
      have g3 := (exB_out g1 g2).1 n (jkn n hk).1
      simp only [List.mem_append] at this
      rcases this with h1 | h1 | h1
      · exact g3.2.2.2.1 n h1 (jkn n hk).1
      · exact g3.2.1 n h1 (jkn n hk).1
      · rcases g3.2.2.2.2 with g4 | g4
        · unfold bsOf at h1; rw [if_pos g4] at h1; cases h1
        · exact g4.1 n h1 (jkn n hk).1
    have hone : ej.kl = [] ∨ ei.kl = [] := by
      by_cases hk : ej.kl = []
      · exact .inl hk
      · obtain ⟨k, hk⟩ := List.exists_mem_of_ne_nil _ hk
        exact .inr (iquiet ⟨k, .inr hk⟩).2.1
    have hcomm : ∀ x : AV, kl ei.kl (kl ej.kl x) = kl ej.kl (kl ei.kl x) := fun x => by
      rcases hone with h1 | h1
      · rw [h1, kl_nil, kl_nil]
      · rw [h1, kl_nil, kl_nil]
    have hcommB : ∀ x : Blk, mapBlk (kl ei.kl) (mapBlk (kl ej.kl) x) = mapBlk (kl ej.kl) (mapBlk (kl ei.kl) x) := fun x => by
      rcases hone with h1 | h1
      · rw [h1, mapBlk_kl_nil, mapBlk_kl_nil]
      · rw [h1, mapBlk_kl_nil, mapBlk_kl_nil]
    refine ⟨rfl, fun t => ?_, fun n => ?_⟩
    · rw [apply_tm jq, apply_tm iq, apply_tm iq, apply_tm jq]
      by_cases h1 : oj.dst = some t
      · have h2 : oi.dst ≠ some t := a2 t h1
        rw [if_pos h1, if_neg h2, if_pos h1, Option.map_some, kl_id _ fun n hn => hvj n (List.mem_append_left _ hn)]
      · rw [if_neg h1, if_neg h1]
        by_cases h2 : oi.dst = some t
        · rw [if_pos h2, if_pos h2, Option.map_some, kl_id _ fun n hn => hvi n (List.mem_append_left _ hn)]
        · rw [if_neg h2, if_neg h2]
          cases get t σ.tm with
          | none => rfl
          | some x => simp only [Option.map_some]; rw [hcomm]
    · have bj : ∀ y, get n ej.nw = some y ∨ get n ej.up = some y → mapBlk (kl ei.kl) y = y := fun y hy => mapBlk_id (by
        intro m hm
        refine hvj m (List.mem_append_right _ (List.mem_append.2 ?_))
        exact hy.imp (fun h => nwNames_mem h hm) (fun h => nwNames_mem h hm))
      have bi : ∀ y, get n ei.nw = some y ∨ get n ei.up = some y → mapBlk (kl ej.kl) y = y := fun y hy => mapBlk_id (by
        intro m hm
        refine hvi m (List.mem_append_right _ (List.mem_append.2 ?_))
        exact hy.imp (fun h => nwNames_mem h hm) (fun h => nwNames_mem h hm))
      rw [apply_blk jq, apply_blk iq, apply_blk iq, apply_blk jq]
      cases c1 : get n ej.nw with
      | some y =>
        have hm := mem_keys.2 ⟨y, c1⟩
        rw [get_none.2 (hij n hm), get_none.2 (hjn n hm)]
        simp only
        rw [if_neg (hkb n (jun n hm)), Option.map_some, bj y (.inl c1)]
      | none =>
        simp only
        cases c2 : get n ej.up with
        | some y =>
          have hm := mem_keys.2 ⟨y, c2⟩
          rw [get_none.2 (hju n hm), get_none.2 (huu n hm)]
          simp only
          rw [if_neg (hjK n (jup n hm).2), Option.map_some, bj y (.inr c2)]
        | none =>
          simp only
          cases c3 : get n ei.nw with
          | some y =>
            have hm := mem_keys.2 ⟨y, c3⟩
            simp only
            have hnk : n ∉ ej.kl := fun hk => by
              have := hw.opsB (jkn n hk).2
              rw [iun' n hm] at this; cases this
            rw [if_neg hnk, Option.map_some, bi y (.inl c3)]
          | none =>
            simp only
            cases c4 : get n ei.up with
            | some y =>
              have hm := mem_keys.2 ⟨y, c4⟩
              simp only
              rw [if_neg (hiK n (iup n hm).2), Option.map_some, bi y (.inr c4)]
            | none =>
              simp only
              by_cases d1 : n ∈ ei.kl <;> by_cases d2 : n ∈ ej.kl <;> cases blk σ n <;> simp [d1, d2, hcommB]

/-- one that nobody ahead of it hinders comes to the front -/
theorem front {Q : AS → Prop} (hQ : Inv Q) {i : Nat} {oi : Oper} {post : List (Nat × Oper)} : ∀ {pre : List (Nat × Oper)} {σ : AS}, Wf σ → (∀ p ∈ pre, apartB ops lo p.1 i p.2 oi = true) →
    regP X off ops lo (pre ++ (i, oi) :: post) Q σ → regP X off ops lo ((i, oi) :: (pre ++ post)) Q σ
  | [], σ, _, _, h => h
  | (j, oj) :: pre, σ, hw, hap, h => by
    have h1 := hap (j, oj) (List.mem_cons_self ..)
    have hj : mem j lo.lo = false := by
      simp only [apartB, Bool.and_eq_true, Bool.not_eq_true'] at h1
      exact h1.1.1.1.2
    obtain ⟨ej, j1, ⟨j2, j3⟩, h⟩ := (regP_some hj).1 h
    have j3' := still_out hj j3
    have := front hQ (hw.apply (d := oj.dst) j3'.1 j3'.2.1 (still_kl hj j3)) (fun p hp => hap p (List.mem_cons_of_mem _ hp)) h
    exact swap hQ hw h1 ((regP_some hj).2 ⟨ej, j1, ⟨j2, j3⟩, this⟩)
end
end Go.Proofs.YtmlejhpeoiicpaaGreatDoor.Ab
namespace Go.Proofs.YtmlejhpeoiicpaaGreatDoor.Ab
open Go
set_option linter.unusedVariables false
set_option linter.unusedSimpArgs false

/-- what comes ahead of what -/
inductive Pre (ops : Array Oper) : Nat → Nat → Prop
  | dir {i : Nat} {o : Oper} {e : Edge} (ho : ops[i]? = some o) (he : e ∈ o.after.toList) (hb : Region.binds .any e = true) : Pre ops e.on i
  | step {i j : Nat} {o : Oper} {e : Edge} (ho : ops[i]? = some o) (he : e ∈ o.after.toList) (hb : Region.binds .any e = true) (h : Pre ops j e.on) : Pre ops j i

theorem preOf_spec {acc : List Nat} {j : Nat} {es : List Edge} (h : (preOf acc es).testBit j = true) : ∃ e ∈ es, Region.binds .any e = true ∧ (j = e.on ∨ (acc.getD e.on 0).testBit j = true) := by
  have key : ∀ (es : List Edge) (s : Nat), (es.foldl (fun s e => if Region.binds .any e then s ||| 2 ^ e.on ||| acc.getD e.on 0 else s) s).testBit j = true → s.testBit j = true ∨ ∃ e ∈ es, Region.binds .any e = true ∧ (j = e.on ∨ (acc.getD e.on 0).testBit j = true) := by
    intro es
    induction es with
    | nil => intro s h; exact .inl h
    | cons e r ih =>
      intro s h
      rw [List.foldl_cons] at h
      rcases ih _ h with h1 | ⟨e', he', h1⟩
      · split at h1
        · rename_i hb
          simp only [Nat.testBit_or, Bool.or_eq_true, Nat.testBit_two_pow, decide_eq_true_eq] at h1
          rcases h1 with (h1 | h1) | h1
          · exact .inl h1
          · exact .inr ⟨e, List.mem_cons_self .., hb, .inl h1.symm⟩
          · exact .inr ⟨e, List.mem_cons_self .., hb, .inr h1⟩
        · exact .inl h1
      · exact .inr ⟨e', List.mem_cons_of_mem _ he', h1⟩
  rcases key es 0 h with h1 | h1
  · simp at h1
  · exact h1

theorem masks_spec {ops : Array Oper} : ∀ (r : List Oper) (acc : List Nat), (∀ k, r[k]? = ops[acc.length + k]?) → (∀ k j, (acc.getD k 0).testBit j = true → Pre ops j k) → ∀ k j, ((masks r acc).getD k 0).testBit j = true → Pre ops j k
  | [], acc, _, hacc, k, j, h => hacc k j h
  | o :: r, acc, hl, hacc, k, j, h => by
    rw [masks] at h
    refine masks_spec r _ (fun k => ?_) (fun k j h => ?_) k j h
    · have := hl (k + 1)
      simp only [List.getElem?_cons_succ, List.length_append, List.length_cons, List.length_nil] at this ⊢
      rw [this]
      congr 1
      omega
    · by_cases hk : k < acc.length
      · rw [List.getD_eq_getElem?_getD, List.getElem?_append_left hk, ← List.getD_eq_getElem?_getD] at h
        exact hacc k j h
      · by_cases hk' : k = acc.length
        · subst hk'
          rw [List.getD_eq_getElem?_getD, List.getElem?_append_right (Nat.le_refl _)] at h
          simp only [Nat.sub_self, List.getElem?_cons_zero, Option.getD_some] at h
          obtain ⟨e, he, hb, h1⟩ := preOf_spec h
          have ho : ops[acc.length]? = some o := by have := hl 0; simpa using this.symm
          rcases h1 with rfl | h1
          · exact .dir ho he hb
          · exact .step ho he hb (hacc _ _ h1)
        · rw [List.getD_eq_getElem?_getD, List.getElem?_eq_none (by simp; omega)] at h
          simp at h

theorem mem_pairs {i : Nat} {o : Oper} : ∀ {l : List Oper} {k : Nat}, (i, o) ∈ pairs k l ↔ k ≤ i ∧ l[i - k]? = some o
  | [], k => by simp [pairs]
  | x :: r, k => by
    rw [pairs, List.mem_cons, mem_pairs (l := r)]
    constructor
    · rintro (h | ⟨h1, h2⟩)
      · simp only [Prod.mk.injEq] at h
        obtain ⟨rfl, rfl⟩ := h
        simp
      · refine ⟨by omega, ?_⟩
        rw [show i - k = (i - (k + 1)) + 1 by omega]
        simpa using h2
    · rintro ⟨h1, h2⟩
      by_cases h : i = k
      · subst h
        simp at h2
        exact .inl (by rw [h2])
      · refine .inr ⟨by omega, ?_⟩
        rw [show i - k = (i - (k + 1)) + 1 by omega] at h2
        simpa using h2
theorem rowB_mem {ops : Array Oper} {lo : Lo} {m i : Nat} {oi : Oper} {j : Nat} {oj : Oper} : ∀ {l : List (Nat × Oper)}, rowB ops lo m i oi l = true → (j, oj) ∈ l → i ≤ j ∨ m.testBit j = true ∨ apartB ops lo j i oj oi = true
  | [], _, h => by cases h
  | (a, b) :: r, hb, h => by
    simp only [rowB, Bool.and_eq_true, Bool.or_eq_true, decide_eq_true_eq] at hb
    rcases List.mem_cons.1 h with h | h
    · cases h
      rcases hb.1 with (h1 | h1) | h1
      · exact .inl h1
      · exact .inr (.inl h1)
      · exact .inr (.inr h1)
    · exact rowB_mem hb.2 h
theorem indepGo_mem {ops : Array Oper} {lo : Lo} {ms : List Nat} {ps : List (Nat × Oper)} {i : Nat} {o : Oper} : ∀ {l : List (Nat × Oper)}, indepGo ops lo ms ps l = true → (i, o) ∈ l → backB i o.after.toList = true ∧ rowB ops lo (ms.getD i 0) i o ps = true
  | [], _, h => by cases h
  | (a, b) :: r, hb, h => by
    simp only [indepGo, Bool.and_eq_true] at hb
    rcases List.mem_cons.1 h with h | h
    · cases h; exact hb.1
    · exact indepGo_mem hb.2 h
theorem indep_spec {ops : Array Oper} {lo : Lo} (h : indep ops lo = true) {i : Nat} {oi : Oper} (hi : ops[i]? = some oi) :
    (∀ e ∈ oi.after.toList, Region.binds .any e = true → e.on < i) ∧ ∀ j oj, ops[j]? = some oj → j < i → Pre ops j i ∨ apartB ops lo j i oj oi = true := by
  have hmem : ∀ k o, ops[k]? = some o → (k, o) ∈ pairs 0 ops.toList := fun k o ho => mem_pairs.2 ⟨Nat.zero_le _, by simpa using ho⟩
  obtain ⟨h1, h2⟩ := indepGo_mem h (hmem i oi hi)
  refine ⟨fun e he hb => ?_, fun j oj hj hlt => ?_⟩
  · simp only [backB, List.all_eq_true, Bool.or_eq_true, Bool.not_eq_true', decide_eq_true_eq] at h1
    rcases h1 e he with h3 | h3
    · rw [hb] at h3; cases h3
    · exact h3
  · rcases rowB_mem h2 (hmem j oj hj) with h3 | h3 | h3
    · omega
    · exact .inl (masks_spec ops.toList [] (by simp) (by simp) i j h3)
    · exact .inr h3

section
variable {X : Cx} {γ : Nat → Value} {off : List (Nat × Bool)} {ops : Array Oper} {lo : Lo} {Qx : Exit → Act → World → Prop} {Q : AS → Prop}

theorem pre_listed {L : Array Bool} (hcl : ∀ (i : Nat) o, ops[i]? = some o → L.getD i false = true → ∀ e ∈ o.after.toList, Region.binds .any e = true → L.getD e.on false = true) {i j : Nat} (h : Pre ops j i) (hi : ∀ o, ops[i]? = some o → ∀ e ∈ o.after.toList, Region.binds .any e = true → L.getD e.on false = true) : L.getD j false = true := by
  induction h with
  | dir ho he hb => exact hi _ ho _ he hb
  | step ho he hb h ih => exact ih fun o' ho' e' he' hb' => hcl _ _ ho' (hi _ ho _ he hb) e' he' hb'

theorem any_sound (hX : X.Ok) (hs : indep ops lo = true) (hQ : Inv Q) (hfin : ∀ σ a w, Q σ → X.St γ σ a w → Qx .normal a w) :
    ∀ (fuel : Nat) (R : List (Nat × Oper)) (L : Array Bool) (σ : AS) (a : Act) (w : World), L.size = ops.size → (∀ p ∈ R, ops[p.1]? = some p.2) → R.Pairwise (fun p q => p.1 < q.1) →
      (∀ i, i < ops.size → (L.getD i false = false ↔ ∃ o, (i, o) ∈ R)) →
      (∀ (i : Nat) o, ops[i]? = some o → L.getD i false = true → ∀ e ∈ o.after.toList, Region.binds .any e = true → L.getD e.on false = true) →
      R.length ≤ fuel → X.St γ σ a w → regP X off ops lo R Q σ → wpAny X.P .any ops Qx fuel L a w := by
  intro fuel
  induction fuel with
  | zero =>
    intro R L σ a w hsz hR hp hL hcl hlen hst hr
    cases R with
    | cons p r => simp at hlen
    | nil =>
      refine ⟨?_, hfin σ a w hr hst⟩
      rw [List.eq_nil_iff_forall_not_mem]
      intro i hi
      obtain ⟨h0, o, ho, _⟩ := mem_ready.1 hi
      have hlt := (Array.getElem?_eq_some_iff.1 ho).1
      have : L.getD i false = false := by
        rw [Array.getD_eq_getD_getElem?, Array.getElem?_eq_getElem (by omega)] at h0 ⊢
        exact h0
      obtain ⟨_, h⟩ := (hL i hlt).1 this
      cases h
  | succ fuel ih =>
    intro R L σ a w hsz hR hp hL hcl hlen hst hr
    have hflip : ∀ i, i < ops.size → L.getD i true = L.getD i false := fun i hi => by
      rw [Array.getD_eq_getD_getElem?, Array.getD_eq_getD_getElem?, Array.getElem?_eq_getElem (by omega)]
      rfl
    refine ⟨fun hnil => ?_, fun i hi => ?_⟩
    · cases R with
      | nil => exact hfin σ a w hr hst
      | cons p r =>
        exfalso
        obtain ⟨i, o⟩ := p
        have ho := hR (i, o) (List.mem_cons_self ..)
        have hlt := (Array.getElem?_eq_some_iff.1 ho).1
        have : i ∈ Region.ready .any ops L := by
          refine mem_ready.2 ⟨?_, o, ho, fun e he hb => ?_⟩
          · rw [hflip i hlt]
            exact (hL i hlt).2 ⟨o, List.mem_cons_self ..⟩
          · have hback := (indep_spec hs ho).1 e (by simpa using he) hb
            cases hq : L.getD e.on false with
            | true => rfl
            | false =>
              exfalso
              obtain ⟨o', ho'⟩ := (hL e.on (by omega)).1 hq
              rcases List.mem_cons.1 ho' with h | h
              · cases h; omega
              · have := (List.pairwise_cons.1 hp).1 _ h
                simp at this
                omega
        rw [hnil] at this
        cases this
    · obtain ⟨h0, o, ho, hpre⟩ := mem_ready.1 hi
      have hlt := (Array.getElem?_eq_some_iff.1 ho).1
      rw [hflip i hlt] at h0
      obtain ⟨o', hmem⟩ := (hL i hlt).1 h0
      have : o' = o := by have := hR _ hmem; simp only at this; rw [ho] at this; cases this; rfl
      subst this
      obtain ⟨pre, post, rfl⟩ := List.append_of_mem hmem
      obtain ⟨ρ, hst0⟩ := hst
      have hpre' : ∀ e ∈ o'.after.toList, Region.binds .any e = true → L.getD e.on false = true := fun e he hb => hpre e (by simpa using he) hb
      have hfr : regP X off ops lo ((i, o') :: (pre ++ post)) Q σ := by
        refine front hQ hst0.wf (fun p hpm => ?_) hr
        obtain ⟨j, oj⟩ := p
        have hj := hR (j, oj) (List.mem_append_left _ hpm)
        have hji : j < i := (List.pairwise_append.1 hp).2.2 (j, oj) hpm (i, o') (List.mem_cons_self ..)
        rcases (indep_spec hs ho).2 j oj hj hji with h | h
        · exfalso
          have h1 := pre_listed hcl h fun o'' ho'' => by rw [ho] at ho''; cases ho''; exact hpre'
          have h2 := (hL j (by omega)).2 ⟨oj, List.mem_append_left _ hpm⟩
          rw [h1] at h2
          cases h2
        · exact h
      have hnext : wpOp X.P ops Qx i (fun a' w' => ∃ σ', regP X off ops lo (pre ++ post) Q σ' ∧ X.St γ σ' a' w') a w := by
        rcases regP_cons.1 hfr with ⟨e, h1, ⟨⟨h2, h3⟩, _⟩, h4⟩ | ⟨_, _, h1⟩
        · exact wpOp_mono (fun a' w' h5 => ⟨_, h4, h5⟩) (op_sound hX.types hX.calls hst0 (Q := Qx) ho h1 h2 h3 fun hg hm => wpOp_mono (fun a' w' ⟨σ', e1, e2⟩ => e2.congr e1.symm) ((hX.mok ops _ σ e hg hm h3 h2).1 γ a w i Qx ho ⟨ρ, hst0⟩))
        · exact h1.1 γ a w i Qx ho ⟨ρ, hst0⟩
      refine wpOp_mono (fun a' w' ⟨σ', h4, h5⟩ => ?_) hnext
      refine ih (pre ++ post) _ _ a' w' (by simpa using hsz) (fun p hpm => hR p ?_) ?_ (fun k hk => ?_) (fun k o hk hl e he hb => ?_) ?_ h5 h4
      · rcases List.mem_append.1 hpm with h | h
        · exact List.mem_append_left _ h
        · exact List.mem_append_right _ (List.mem_cons_of_mem _ h)
      · exact List.Pairwise.sublist (List.Sublist.append (List.Sublist.refl _) (List.sublist_cons_self ..)) hp
      · by_cases hki : i = k
        · subst hki
          have hti : (L.setIfInBounds i true).getD i false = true := by
            simp [show i < L.size by omega]
          rw [hti]
          refine ⟨fun h => (by cases h), fun ⟨o, h⟩ => ?_⟩
          exfalso
          rw [List.pairwise_append, List.pairwise_cons] at hp
          rcases List.mem_append.1 h with h | h
          · have := hp.2.2 (i, o) h (i, o') (List.mem_cons_self ..)
            simp at this
          · have := hp.2.1.1 (i, o) h
            simp at this
        · rw [getD_set_ne false hki, hL k hk]
          refine exists_congr fun o => ?_
          simp only [List.mem_append, List.mem_cons, Prod.mk.injEq]
          constructor
          · rintro (h | ⟨h, _⟩ | h)
            · exact .inl h
            · exact absurd h.symm hki
            · exact .inr h
          · rintro (h | h)
            · exact .inl h
            · exact .inr (.inr h)
      · by_cases hki : i = k
        · subst hki
          rw [ho] at hk
          cases hk
          exact getD_set_true (hpre' e he hb)
        · rw [getD_set_ne false hki] at hl
          exact getD_set_true (hcl k o hk hl e he hb)
      · simp only [List.length_append, List.length_cons] at hlen ⊢
        omega

theorem pairs_length : ∀ (l : List Oper) (k : Nat), (pairs k l).length = l.length
  | [], _ => rfl
  | _ :: r, k => by simp [pairs, pairs_length r]
theorem pairs_sorted : ∀ (l : List Oper) (k : Nat), (pairs k l).Pairwise (fun p q => p.1 < q.1)
  | [], _ => .nil
  | o :: r, k => by
    rw [pairs, List.pairwise_cons]
    refine ⟨fun p hp => ?_, pairs_sorted r _⟩
    obtain ⟨i, o'⟩ := p
    have := (mem_pairs.1 hp).1
    simp only
    omega

theorem St0.same {D : Nat → TI} {S N0 : Nat → Prop} {B : Nat} {w0 : W0} {ρ : Env} {σ : AS} {a : Act} {w w' : World} (h : St0 D S N0 B w0 ρ σ a w) (h1 : w'.heap = w.heap) (h2 : w'.os = w.os) (h3 : w'.tape = w.tape) (h4 : w'.output = w.output) : St0 D S N0 B w0 ρ σ a w' := by
  have him : imOf S N0 B w' ρ (blk σ) = imOf S N0 B w ρ (blk σ) := by unfold imOf; rw [h1]
  refine ⟨fun t x hx => ?_, ?_, h.nt, h.base, ⟨h2.trans h.frm.os, h3.trans h.frm.tape, h4.trans h.frm.output, by rw [h1]; exact h.frm.size, fun b hb hn => by rw [h1]; exact h.frm.block b hb hn⟩, h.own, h.defers⟩
  · rw [him]
    exact ⟨(h.tm t x hx).1.mono (fun _ h => h) (fun b _ => by rw [h1]) (fun _ _ => rfl), (h.tm t x hx).2⟩
  · rw [him]
    exact ⟨fun n x hx => (h.hp.blk n x hx).mono rfl (fun _ _ => by rw [h1]) (fun _ h => h) (fun b _ => by rw [h1]) (fun _ _ => rfl), h.hp.inj, h.hp.off, fun b hb => by rw [h1]; exact h.hp.lt b hb, h.hp.clos⟩

/-- a region whose order is drawn -/
theorem region_any (hX : X.Ok) (hs : indep ops lo = true) {id : Nat} {σ : AS} {a : Act} {w : World} (h : X.St γ σ a w)
    (hfin : ∀ σ a w, Q σ → X.St γ σ a w → Qx .normal a w) (hr : regP X off ops lo (pairs 0 ops.toList) Q σ) : (Code.region id ops true).wp X.P Qx a w := by
  obtain ⟨ρ, h⟩ := h
  refine wp_region_any hX.mixed (any_sound hX hs (clo_inv Q) (fun σ a w hq hst => ?_) ops.size (pairs 0 ops.toList) _ σ a _ (by simp) (fun p hp => ?_) (pairs_sorted _ _) (fun i hi => ?_) (fun i o _ hl => ?_) (by rw [pairs_length]; simp) ⟨ρ, h.same (w' := { w with drawn := w.drawn + 1 }) rfl rfl rfl rfl⟩ (regP_mono (fun σ hq => ⟨σ, Eqv.refl σ, hq⟩) hr))
  · obtain ⟨σ1, h1, h2⟩ := hq
    exact hfin σ1 a w h2 (hst.congr h1.symm)
  · obtain ⟨i, o⟩ := p
    have := (mem_pairs.1 hp).2
    simpa using this
  · have : (Array.replicate ops.size false).getD i false = false := by simp [hi]
    simp only [this, true_iff]
    exact ⟨ops[i], mem_pairs.2 ⟨Nat.zero_le _, by simp [hi]⟩⟩
  · exfalso
    rw [Array.getD_eq_getD_getElem?] at hl
    by_cases h : i < ops.size
    · simp [h] at hl
    · simp [h] at hl

/-- a region in the text's order -/
theorem regW_sound (hX : X.Ok) (hfin : ∀ σ a w, Q σ → X.St γ σ a w → Qx .normal a w) :
    ∀ (r : List Oper) (k : Nat) (σ : AS) (a : Act) (w : World), (∀ j, r[j]? = ops[k + j]?) → X.St γ σ a w → regW X off ops r Q σ → wpOps X.P ops Qx (List.range' k r.length) a w
  | [], k, σ, a, w, _, hst, hr => by simpa [wpOps] using hfin σ a w hr hst
  | o :: r, k, σ, a, w, hl, hst, hr => by
    rw [List.length_cons, List.range'_succ, wpOps_cons]
    have ho : ops[k]? = some o := by have := hl 0; simpa using this.symm
    rw [regW] at hr
    obtain ⟨ρ, hst0⟩ := hst
    cases he : opEff X.D X.G X.M X.nb off ops σ o with
    | none =>
      rw [he] at hr
      refine wpOp_mono (fun a' w' ⟨σ', h4, h5⟩ => regW_sound hX hfin r (k + 1) σ' a' w' (fun j => ?_) h5 h4) (hr.1 γ a w k Qx ho ⟨ρ, hst0⟩)
      have := hl (j + 1)
      simpa [Nat.add_assoc, Nat.add_comm 1 j] using this
    | some e =>
      rw [he] at hr
      refine wpOp_mono (fun a' w' h5 => regW_sound hX hfin r (k + 1) _ a' w' (fun j => ?_) h5 hr.2) (op_sound hX.types hX.calls hst0 ho he hr.1.1 hr.1.2 fun hg hm => wpOp_mono (fun a' w' ⟨σ', e1, e2⟩ => e2.congr e1.symm) ((hX.mok ops _ σ e hg hm hr.1.2 hr.1.1).1 γ a w k Qx ho ⟨ρ, hst0⟩))
      have := hl (j + 1)
      simpa [Nat.add_assoc, Nat.add_comm 1 j] using this
theorem region_text (hX : X.Ok) {id : Nat} {σ : AS} {a : Act} {w : World} (h : X.St γ σ a w)
    (hfin : ∀ σ a w, Q σ → X.St γ σ a w → Qx .normal a w) (hr : regW X off ops ops.toList Q σ) : (Code.region id ops false).wp X.P Qx a w := by
  refine wp_region ?_
  rw [List.range_eq_range', ← Array.length_toList]
  exact regW_sound hX hfin ops.toList 0 σ a w (by simp) h hr
end
end Go.Proofs.YtmlejhpeoiicpaaGreatDoor.Ab
namespace Go.Proofs.YtmlejhpeoiicpaaGreatDoor.Ab
open Go
set_option linter.unusedVariables false
set_option linter.unusedSimpArgs false

/-- from a state on, the code comes to states that meet Q -/
def Tr (X : Cx) (c : Code) (Q : Exit → AS → Prop) (σ : AS) : Prop := ∀ γ a w, X.St γ σ a w → c.wp X.P (fun e a w => ∃ σ', Q e σ' ∧ X.St γ σ' a w) a w
/-- one state covers another -/
def Wk (X : Cx) (σ σ' : AS) : Prop := ∀ γ a w, X.St γ σ a w → X.St γ σ' a w

def thenA (next : AS → Prop) (Q : Exit → AS → Prop) : Exit → AS → Prop
  | .normal, σ => next σ
  | e, σ => Q e σ
def inB (id : Nat) (Q : Exit → AS → Prop) : Exit → AS → Prop
  | .exit id', σ => if id' = id then Q .normal σ else Q (.exit id') σ
  | e, σ => Q e σ

section
variable {X : Cx} {Q Q' : Exit → AS → Prop} {σ σ' : AS}

theorem Tr.mono {c : Code} (hq : ∀ e σ, Q e σ → Q' e σ) (h : Tr X c Q σ) : Tr X c Q' σ := fun γ a w hs =>
  wp_mono (h γ a w hs) fun e a w ⟨σ', h1, h2⟩ => ⟨σ', hq e σ' h1, h2⟩
theorem Tr.wk {c : Code} (h1 : Wk X σ σ') (h : Tr X c Q σ') : Tr X c Q σ := fun γ a w hs => h γ a w (h1 γ a w hs)
theorem Tr.skip (h : Q .normal σ) : Tr X .skip Q σ := fun γ a w hs => wp_skip ⟨σ, h, hs⟩
theorem Tr.label {l : Nat} (h : Q .normal σ) : Tr X (.label l) Q σ := fun γ a w hs => wp_label ⟨σ, h, hs⟩
theorem Tr.ret (h : Q .ret σ) : Tr X .ret Q σ := fun γ a w hs => wp_ret ⟨σ, h, hs⟩
theorem Tr.exit {id : Nat} (h : Q (.exit id) σ) : Tr X (.exit id) Q σ := fun γ a w hs => wp_exit ⟨σ, h, hs⟩
theorem Tr.seq {x y : Code} (h : Tr X x (thenA (Tr X y Q) Q) σ) : Tr X (.seq x y) Q σ := fun γ a w hs => wp_seq (wp_mono (h γ a w hs) fun e a w ⟨σ', h1, h2⟩ => by
  cases e with
  | normal => exact h1 γ a w h2
  | _ => exact ⟨σ', h1, h2⟩)
theorem Tr.cond {c : Operand} {x y : Code} {t : Bool} (hc : ev σ c = .bool t) (h1 : t = true → Tr X x Q σ) (h2 : t = false → Tr X y Q σ) : Tr X (.cond c x y) Q σ := fun γ a w hs => by
  have : a.eval c = .bool t := by
    obtain ⟨ρ, hs⟩ := hs
    have := (hs.ev c).1
    rw [hc] at this
    exact this.bool_
  exact wp_cond_split this (fun ht => h1 ht γ a w hs) (fun ht => h2 ht γ a w hs)
theorem Tr.block {id : Nat} {c : Code} (h : Tr X c (inB id Q) σ) : Tr X (.block id c) Q σ := fun γ a w hs => wp_block (wp_mono (h γ a w hs) fun e a w ⟨σ', h1, h2⟩ => by
  cases e with
  | exit id' =>
    simp only [inB] at h1
    simp only [Exit.inBlock]
    split
    · rename_i he; rw [if_pos he] at h1; exact ⟨σ', h1, h2⟩
    · rename_i he; rw [if_neg he] at h1; exact ⟨σ', h1, h2⟩
  | _ => exact ⟨σ', h1, h2⟩)
theorem Tr.region (hX : X.Ok) {id : Nat} {ops : Array Oper} {off : List (Nat × Bool)} (h : regW X off ops ops.toList (Q .normal) σ) : Tr X (.region id ops false) Q σ := fun γ a w hs =>
  region_text (Q := Q .normal) hX hs (fun σ' a w h1 h2 => ⟨σ', h1, h2⟩) h
theorem Tr.any (hX : X.Ok) (lo : Lo) {id : Nat} {ops : Array Oper} (hi : indep ops lo = true) {off : List (Nat × Bool)} (h : regP X off ops lo (pairs 0 ops.toList) (Q .normal) σ) : Tr X (.region id ops true) Q σ := fun γ a w hs =>
  region_any (Q := Q .normal) hX hi hs (fun σ' a w h1 h2 => ⟨σ', h1, h2⟩) h
theorem Tr.loop {ι : Type} (J : ι → Prop) (I : ι → AS) (μ : ι → Nat) {c : Code} (i0 : ι) (h0 : J i0 ∧ Wk X σ (I i0))
    (round : ∀ i, J i → Tr X c (thenA (fun σ' => ∃ j, (J j ∧ μ j < μ i) ∧ Wk X σ' (I j)) Q) (I i)) : Tr X (.loop c) Q σ := fun γ a w hs => by
  have key : ∀ n i a w, μ i ≤ n → J i → X.St γ (I i) a w → Code.rounds X.P c (fun e a w => ∃ σ', Q e σ' ∧ X.St γ σ' a w) (n + 1) a w := by
    intro n
    induction n with
    | zero =>
      intro i a w hn hi hs
      rw [rounds_succ]
      refine wp_mono (round i hi γ a w hs) fun e a1 w1 ⟨σ', h1, h2⟩ => ?_
      cases e with
      | normal => obtain ⟨j, ⟨_, hlt⟩, _⟩ := h1; omega
      | _ => exact ⟨σ', h1, h2⟩
    | succ n ih =>
      intro i a w hn hi hs
      rw [rounds_succ]
      refine wp_mono (round i hi γ a w hs) fun e a1 w1 ⟨σ', h1, h2⟩ => ?_
      cases e with
      | normal => obtain ⟨j, ⟨hj, hlt⟩, hw⟩ := h1; exact ih j a1 w1 (by omega) hj (hw γ a1 w1 h2)
      | _ => exact ⟨σ', h1, h2⟩
  exact wp_loop_rounds _ (key (μ i0) i0 a w (Nat.le_refl _) h0.1 (h0.2 γ a w hs))

def condW (x : AV) (A B : Prop) : Prop := match x with
  | .bool t => (t = true → A) ∧ (t = false → B)
  | _ => False
def hasG : List Oper → Bool
  | [] => false
  | o :: r => o.guard.isSome || hasG r
/-- a region with guards: which do not hold is to be told -/
inductive RegT (X : Cx) (ops : Array Oper) (Q : AS → Prop) (σ : AS) : Prop
  | mk (off : List (Nat × Bool)) (h : regW X off ops ops.toList Q σ)
inductive RegA (X : Cx) (lo : Lo) (ops : Array Oper) (Q : AS → Prop) (σ : AS) : Prop
  | mk (off : List (Nat × Bool)) (hi : indep ops lo = true) (h : regP X off ops lo (pairs 0 ops.toList) Q σ)
/-- code, evaluated as far as its loops -/
def evC (X : Cx) (lo : Nat → Lo) : Code → (Exit → AS → Prop) → AS → Prop
  | .skip, Q, σ => Q .normal σ
  | .region id ops false, Q, σ => if (lo id).hand = true then Tr X (.region id ops false) Q σ else if hasG ops.toList = true then RegT X ops (Q .normal) σ else regW X [] ops ops.toList (Q .normal) σ
  | .region id ops true, Q, σ => if (lo id).hand = true then Tr X (.region id ops true) Q σ else if hasG ops.toList = true then RegA X (lo id) ops (Q .normal) σ else indep ops (lo id) = true ∧ regP X [] ops (lo id) (pairs 0 ops.toList) (Q .normal) σ
  | .seq a b, Q, σ => evC X lo a (thenA (evC X lo b Q) Q) σ
  | .cond c x y, Q, σ => condW (ev σ c) (evC X lo x Q σ) (evC X lo y Q σ)
  | .block id c, Q, σ => evC X lo c (inB id Q) σ
  | .loop c, Q, σ => Tr X (.loop c) Q σ
  | .exit id, Q, σ => Q (.exit id) σ
  | .ret, Q, σ => Q .ret σ
  | .label _, Q, σ => Q .normal σ
  | c, Q, σ => Tr X c Q σ
theorem evC_sound (hX : X.Ok) (lo : Nat → Lo) : ∀ (c : Code) (Q : Exit → AS → Prop) (σ : AS), evC X lo c Q σ → Tr X c Q σ
  | .skip, Q, σ, h => Tr.skip h
  | .region _ ops false, Q, σ, h => by
    rw [evC] at h
    split at h
    · exact h
    split at h
    · obtain ⟨off, h⟩ := h
      exact Tr.region hX h
    · exact Tr.region hX h
  | .region id ops true, Q, σ, h => by
    rw [evC] at h
    split at h
    · exact h
    split at h
    · obtain ⟨off, hi, h⟩ := h
      exact Tr.any hX (lo id) hi h
    · exact Tr.any hX (lo id) h.1 h.2
  | .seq a b, Q, σ, h => Tr.seq (Tr.mono (fun e σ h => by
      cases e with
      | normal => exact evC_sound hX lo b Q σ h
      | _ => exact h) (evC_sound hX lo a _ σ h))
  | .cond c x y, Q, σ, h => by
    rw [evC] at h
    unfold condW at h
    split at h
    · rename_i t ht
      exact Tr.cond ht (fun e => evC_sound hX lo x Q σ (h.1 e)) (fun e => evC_sound hX lo y Q σ (h.2 e))
    · exact h.elim
  | .block id c, Q, σ, h => Tr.block (evC_sound hX lo c _ σ h)
  | .loop c, Q, σ, h => h
  | .exit id, Q, σ, h => Tr.exit h
  | .ret, Q, σ, h => Tr.ret h
  | .label _, Q, σ, h => Tr.label h
  | .rangeFunc _ _ _ _, Q, σ, h => h
  | .scope _, Q, σ, h => h
  | .goto _, Q, σ, h => h
  | .refuse _, Q, σ, h => h
end
end Go.Proofs.YtmlejhpeoiicpaaGreatDoor.Ab
namespace Go.Proofs.YtmlejhpeoiicpaaGreatDoor.Ab
open Go
set_option linter.unusedVariables false
set_option linter.unusedSimpArgs false

mutual
/-- the second value tells no more than the first; rl: the names of the second, and what they are in the first -/
def cov (rl : List (Nat × Nat)) : AV → AV → Prop
  | _, .junk => True
  | .int k n, .int k' n' => k = k' ∧ n = n'
  | .bool b, .bool b' => b = b'
  | .str l, .str l' => l = l'
  | .nils, .nils => True
  | .nils, .os n => get n rl = none
  | .nils, .sl _ rs => rs = []
  | .sl sz rs, .sl sz' rs' => sz = sz' ∧ rs = rs'
  | .os t, .os n => get n rl = some t
  | .ptr v o, .ptr v' o' => get v' rl = some v ∧ o = o'
  | .iptr cs, .iptr ds => cs = ds
  | .eptr t i o, .eptr t' i' o' => get t' rl = some t ∧ i = i' ∧ o = o'
  | .lsl n, .lsl n' => n = n'
  | .imap es, .imap es' => es = es'
  | .nilp, .nilp => True
  | .ifc b, .ifc b' => b = b'
  | .tsl t i, .tsl t' i' => get t' rl = some t ∧ i = i'
  | .psl t i, .psl t' i' => get t' rl = some t ∧ i = i'
  | .func f cs, .func g ds => f = g ∧ covs rl cs ds
  | .agg cs, .agg ds => covs rl cs ds
  | .tup cs, .tup ds => covs rl cs ds
  | .opt g v, .opt g' v' => g = g' ∧ cov rl v v'
  | _, _ => False
def covs (rl : List (Nat × Nat)) : List AV → List AV → Prop
  | [], [] => True
  | x :: xs, y :: ys => cov rl x y ∧ covs rl xs ys
  | _, _ => False
end
def covT (σ : AS) (ks : List Nat) (rl : List (Nat × Nat)) : List (Nat × AV) → Prop
  | [] => True
  | (t, x) :: r => (cov rl ((get t σ.tm).getD .junk) x ∧ subs (names x) ks = true) ∧ covT σ ks rl r
def focHas : List (Nat × Nat × Nat) → Nat → Nat → Nat → Bool
  | [], _, _, _ => false
  | (a, b, c) :: r, i, j, m => (decide (a = i) && (decide (b = j) && decide (c = m))) || focHas r i j m
def covF (rl : List (Nat × Nat)) (foc : List (Nat × Nat × Nat)) : List (Nat × Nat × Nat) → Prop
  | [] => True
  | (i, j, m) :: r => (match get m rl with | some t => focHas foc i j t = true | none => False) ∧ covF rl foc r
def covBlk (D : Nat → TI) (rl : List (Nat × Nat)) (ks : List Nat) : Option (Option Blk) → Option Blk → Prop
  | some (some (.rows e sz rs)), some (.rows e' sz' rs') => e = e' ∧ sz = sz' ∧ rs = rs'
  | some (some (.cells ds)), some (.cells cs) => covs rl ds cs ∧ subs (namess cs) ks = true
  | none, some (.rows e sz rs) => rs = [] ∧ sz = (D e).n ∧ 0 < sz
  | some (some (.deep e sz rs cols foc)), some (.deep e' sz' rs' cols' foc') => (e = e' ∧ sz = sz' ∧ rs = rs') ∧ (cols = cols' ∧ covF rl foc foc' ∧ subs (focN foc') ks = true)
  | none, some (.deep e sz rs cols foc) => (rs = [] ∧ sz = (D e).n ∧ 0 < sz) ∧ foc = []
  | _, _ => False
def covB (D : Nat → TI) (σ : AS) (ks : List Nat) (rl : List (Nat × Nat)) : List (Nat × Option Blk) → Prop
  | [] => True
  | (n, b) :: r => covBlk D rl ks ((get n rl).map (blk σ)) b ∧ covB D σ ks rl r
def nodupV : List (Nat × Nat) → Bool
  | [] => true
  | (_, t) :: r => !mem t (r.map (·.2)) && nodupV r
structure Cover (D : Nat → TI) (σ σ' : AS) (rl : List (Nat × Nat)) : Prop where
  nt : σ'.nt = σ.nt
  nd : nodupV rl = true
  tm : covT σ (keys σ'.bl) rl σ'.tm
  bl : covB D σ (keys σ'.bl) rl σ'.bl

section
variable {D : Nat → TI} {S N0 : Nat → Prop} {B : Nat} {w0 : W0} {ρ : Env} {σ σ' : AS} {a : Act} {w : World} {rl : List (Nat × Nat)}

theorem covs_get : ∀ {xs ys : List AV}, covs rl xs ys → xs.length = ys.length ∧ ∀ (i : Nat) y, ys[i]? = some y → ∃ x, xs[i]? = some x ∧ cov rl x y
  | [], [], _ => ⟨rfl, fun i y h => by simp at h⟩
  | x :: xs, y :: ys, h => by
    rw [covs] at h
    obtain ⟨h1, h2⟩ := covs_get h.2
    refine ⟨by simp [h1], fun i z hz => ?_⟩
    cases i with
    | zero => simp at hz; subst hz; exact ⟨x, rfl, h.1⟩
    | succ i => simp at hz; simpa using h2 i z hz
  | [], _ :: _, h => by simp [covs] at h
  | _ :: _, [], h => by simp [covs] at h

theorem Rel.cov {im im' : Nat → Prop} {ρ ρ' : Env} (him : ∀ b, im b → im' b) (hρ : ∀ n t, get n rl = some t → ρ' n = ρ t) (hρ0 : ∀ n, get n rl = none → (ρ' n).sv = .slice none 0 0) {x y : AV} {v : Value}
    (h : Rel w im ρ x v) (hc : Ab.cov rl x y) : Rel w im' ρ' y v := by
  induction h generalizing y with
  | junk v => cases y <;> simp only [Ab.cov] at hc <;> exact .junk v
  | int k n =>
    cases y <;> simp only [Ab.cov] at hc
    · exact .junk _
    · obtain ⟨rfl, rfl⟩ := hc; exact .int k n
  | bool b =>
    cases y <;> simp only [Ab.cov] at hc
    · exact .junk _
    · subst hc; exact .bool b
  | str l =>
    cases y <;> simp only [Ab.cov] at hc
    · exact .junk _
    · subst hc; exact .str l
  | nils =>
    cases y <;> simp only [Ab.cov] at hc
    · exact .junk _
    · exact .nils
    · rename_i sz rs
      subst hc
      exact .sl sz [] none 0 0 0 (fun _ _ => .nilIface) (Nat.le_refl _) (by simp [maxLen]) (fun h => absurd h (by simp)) (by simp) (by simp) (by simp)
    · rename_i t
      rw [← hρ0 t hc]; exact .os t
  | sl sz rs A c b o val hc' hm hA hrow hcell hval ih =>
    cases y <;> simp only [Ab.cov] at hc
    · exact .junk _
    · obtain ⟨rfl, rfl⟩ := hc
      exact (Rel.sl sz rs A c b o val hc' hm hA hrow hcell hval).mono him (fun _ _ => rfl) (fun n hn => by simp [names] at hn)
  | os t =>
    cases y <;> simp only [Ab.cov] at hc
    · exact .junk _
    · rw [← hρ _ t hc]; exact .os _
  | ptr v off b h =>
    cases y <;> simp only [Ab.cov] at hc
    · exact .junk _
    · obtain ⟨h1, rfl⟩ := hc
      exact .ptr _ off b (by rw [hρ _ v h1]; exact h)
  | iptr cs b o val hb hcell hval ih =>
    cases y <;> simp only [Ab.cov] at hc
    · exact .junk _
    · subst hc
      exact (Rel.iptr cs b o val hb hcell hval).mono him (fun _ _ => rfl) (fun n hn => by simp [names] at hn)
  | eptr t i off b h =>
    cases y <;> simp only [Ab.cov] at hc
    · exact .junk _
    · obtain ⟨h1, rfl, rfl⟩ := hc
      rw [← hρ _ t h1]
      exact .eptr _ i off b (by rw [hρ _ t h1]; exact h)
  | lsl n A c hc' hm =>
    cases y <;> simp only [Ab.cov] at hc
    · exact .junk _
    · subst hc; exact .lsl n A c hc' hm
  | imap es b c arr hb ho he =>
    cases y <;> simp only [Ab.cov] at hc
    · exact .junk _
    · subst hc; exact .imap es b c arr (him _ hb) ho he
  | nilp =>
    cases y <;> simp only [Ab.cov] at hc
    · exact .junk _
    · exact .nilp
  | ifc b v h =>
    cases y <;> simp only [Ab.cov] at hc
    · exact .junk _
    · subst hc; exact .ifc b v h
  | tsl t i b A' h hA =>
    cases y <;> simp only [Ab.cov] at hc
    · exact .junk _
    · obtain ⟨h1, rfl⟩ := hc
      rw [← hρ _ t h1]
      exact .tsl _ i b A' (by rw [hρ _ t h1]; exact h) (by rw [hρ _ t h1]; exact hA)
  | psl t n c b h hk hm =>
    cases y <;> simp only [Ab.cov] at hc
    · exact .junk _
    · obtain ⟨h1, rfl⟩ := hc
      exact .psl _ n c b (by rw [hρ _ t h1]; exact h) hk hm
  | func f cs vs hl hval ih =>
    cases y <;> simp only [Ab.cov] at hc
    · exact .junk _
    · obtain ⟨rfl, hc⟩ := hc
      obtain ⟨h1, h2⟩ := covs_get hc
      refine .func f _ vs (by rw [hl, h1]) fun i y v hy hv => ?_
      obtain ⟨x, hx, hxy⟩ := h2 i y hy
      exact ih i x v hx hv hxy
  | agg cs vs hl h1 hval ih =>
    cases y <;> simp only [Ab.cov] at hc
    · exact .junk _
    · obtain ⟨q1, q2⟩ := covs_get hc
      refine .agg _ vs (by rw [hl, q1]) h1 fun i y v hy hv => ?_
      obtain ⟨x, hx, hxy⟩ := q2 i y hy
      exact ih i x v hx hv hxy
  | tup cs vs hl hval ih =>
    cases y <;> simp only [Ab.cov] at hc
    · exact .junk _
    · obtain ⟨q1, q2⟩ := covs_get hc
      refine .tup _ vs (by rw [hl, q1]) fun i y v hy hv => ?_
      obtain ⟨x, hx, hxy⟩ := q2 i y hy
      exact ih i x v hx hv hxy
  | opt g x v h1 h2 ih =>
    cases y <;> simp only [Ab.cov] at hc
    · exact .junk _
    · obtain ⟨rfl, hc⟩ := hc
      exact .opt g _ v (fun hg => ih hg hc) h2

theorem covT_get {σ : AS} {ks : List Nat} {t : Nat} {x : AV} : ∀ {l : List (Nat × AV)}, covT σ ks rl l → get t l = some x → Ab.cov rl ((get t σ.tm).getD .junk) x ∧ subs (names x) ks = true
  | [], _, h => by simp [get] at h
  | (k, y) :: r, hc, h => by
    rw [covT] at hc
    simp only [get] at h
    split at h
    · rename_i e; subst e; cases h; exact hc.1
    · exact covT_get hc.2 h
theorem covB_get {σ : AS} {ks : List Nat} {n : Nat} {b : Option Blk} : ∀ {l : List (Nat × Option Blk)}, covB D σ ks rl l → get n l = some b → covBlk D rl ks ((get n rl).map (blk σ)) b
  | [], _, h => by simp [get] at h
  | (k, y) :: r, hc, h => by
    rw [covB] at hc
    simp only [get] at h
    split at h
    · rename_i e; subst e; cases h; exact hc.1
    · exact covB_get hc.2 h
theorem get_snd {n t : Nat} : ∀ {l : List (Nat × Nat)}, get n l = some t → t ∈ l.map (·.2)
  | [], h => by simp [get] at h
  | (k, y) :: r, h => by
    simp only [get] at h
    split at h
    · cases h; simp
    · rw [List.map_cons]; exact List.mem_cons_of_mem _ (get_snd h)
theorem nodup_inj {n m t : Nat} : ∀ {l : List (Nat × Nat)}, nodupV l = true → get n l = some t → get m l = some t → n = m
  | [], _, h, _ => by simp [get] at h
  | (k, y) :: r, hd, h1, h2 => by
    simp only [nodupV, Bool.and_eq_true, Bool.not_eq_true'] at hd
    have hy := mem_false.1 hd.1
    simp only [get] at h1 h2
    split at h1
    · rename_i e1
      split at h2
      · rename_i e2; exact e1.symm.trans e2
      · cases h1; exact absurd (get_snd h2) hy
    · split at h2
      · cases h2; exact absurd (get_snd h1) hy
      · exact nodup_inj hd.2 h1 h2

theorem blk_iff {n : Nat} {x : Blk} : blk σ n = some x ↔ get n σ.bl = some (some x) := by
  unfold blk jn
  cases get n σ.bl with
  | none => simp
  | some b => simp

theorem Cover.bound (h : Cover D σ σ' rl) {n : Nat} (hn : n ∈ keys σ'.bl) : (blk σ' n).isSome = true := by
  obtain ⟨b, hb⟩ := mem_keys.1 hn
  have := covB_get h.bl hb
  cases b with
  | some y => rw [blk_iff.2 hb]; rfl
  | none =>
    exfalso
    unfold covBlk at this
    split at this <;> simp_all

theorem focHas_mem {i j m : Nat} : ∀ {foc : List (Nat × Nat × Nat)}, focHas foc i j m = true → (i, j, m) ∈ foc
  | [], h => by cases h
  | (a, b, c) :: r, h => by
    simp only [focHas, Bool.or_eq_true, Bool.and_eq_true, decide_eq_true_eq] at h
    rcases h with ⟨rfl, rfl, rfl⟩ | h
    · exact List.mem_cons_self
    · exact List.mem_cons_of_mem _ (focHas_mem h)
theorem covF_mem {foc : List (Nat × Nat × Nat)} {i j m : Nat} : ∀ {foc' : List (Nat × Nat × Nat)}, covF rl foc foc' → (i, j, m) ∈ foc' → ∃ t, get m rl = some t ∧ (i, j, t) ∈ foc
  | [], _, h => by cases h
  | (a, b, c) :: r, hc, h => by
    simp only [covF] at hc
    rcases List.mem_cons.1 h with e | h
    · cases e
      have := hc.1
      split at this
      · rename_i t ht; exact ⟨t, ht, focHas_mem this⟩
      · cases this
    · exact covF_mem hc.2 h
theorem St0.cover (h : St0 D S N0 B w0 ρ σ a w) (hc : Cover D σ σ' rl) : ∃ ρ', St0 D S N0 B w0 ρ' σ' a w := by
  let ρ' : Env := fun n => match get n rl with
    | some t => ρ t
    | none => ⟨none, none, 0, 0, match blk σ' n with | some (.rows _ sz _) => sz | some (.deep _ sz _ _ _) => sz | _ => 0, fun _ => none⟩
  have hρ : ∀ n t, get n rl = some t → ρ' n = ρ t := fun n t hn => by simp only [ρ', hn]
  have hρn : ∀ n, get n rl = none → ρ' n = ⟨none, none, 0, 0, match blk σ' n with | some (.rows _ sz _) => sz | some (.deep _ sz _ _ _) => sz | _ => 0, fun _ => none⟩ := fun n hn => by simp only [ρ', hn]
  have hρ0 : ∀ n, get n rl = none → (ρ' n).sv = .slice none 0 0 := fun n hn => by rw [hρn n hn]; rfl
  have hsrc : ∀ n x b, blk σ' n = some x → owns ρ' n x b → ∃ t y, get n rl = some t ∧ blk σ t = some y ∧ owns ρ t y b := by
    intro n x b hx hb
    have hcb := covB_get hc.bl (blk_iff.1 hx)
    cases hg : get n rl with
    | none =>
      exfalso
      have e := hρn n hg
      cases x <;> simp only [owns, e, reduceCtorEq, exists_false, or_self] at hb
    | some t =>
      rw [hg] at hcb
      have e := hρ n t hg
      cases hbt : blk σ t with
      | some y =>
        refine ⟨t, y, rfl, hbt, ?_⟩
        simp only [Option.map_some, hbt] at hcb
        cases y <;> cases x <;> simp only [covBlk] at hcb <;> simp only [owns, e] at hb ⊢ <;> exact hb
      | none =>
        exfalso
        simp only [Option.map_some, hbt] at hcb
        unfold covBlk at hcb
        split at hcb <;> simp_all
  have him : ∀ b, imOf S N0 B w ρ (blk σ) b → imOf S N0 B w ρ' (blk σ') b := by
    rintro b ⟨h1, h2, h3⟩
    refine ⟨h1, h2, fun n x hx hb => ?_⟩
    obtain ⟨t, y, _, hy, hb'⟩ := hsrc n x b hx hb
    exact h3 t y hy hb'
  have conv : ∀ {x y : AV} {v : Value}, Rel w (imOf S N0 B w ρ (blk σ)) ρ x v → Ab.cov rl x y → Rel w (imOf S N0 B w ρ' (blk σ')) ρ' y v := fun hr hxy => hr.cov him hρ hρ0 hxy
  have hbd : ∀ {l : List Nat} {n : Nat}, subs l (keys σ'.bl) = true → n ∈ l → (blk σ' n).isSome = true := fun hs hn => hc.bound (subs_mem hs hn)
  refine ⟨ρ', fun t x hx => ?_, ⟨fun n x hx => ?_, fun n m b x y hx hy hb hb' => ?_, fun n x b hx hb hi => hi.2.2 n x hx hb, fun b hb => hb.1, fun n cs hx m hm => ?_⟩, by rw [hc.nt]; exact h.nt, h.base, h.frm, fun n x b hx hb => ?_, h.defers⟩
  · obtain ⟨h1, h2⟩ := covT_get hc.tm hx
    refine ⟨?_, fun n hn => hbd h2 hn⟩
    cases hg : get t σ.tm with
    | none => rw [hg] at h1; exact conv (.junk _) h1
    | some y => rw [hg] at h1; exact conv (h.tm t y hg).1 h1
  · have hcb := covB_get hc.bl (blk_iff.1 hx)
    cases hg : get n rl with
    | none =>
      rw [hg] at hcb
      cases x with
      | cells cs => simp [covBlk] at hcb
      | rows e sz rs =>
        simp only [Option.map_none, covBlk] at hcb
        obtain ⟨rfl, h1, h2⟩ := hcb
        have hr := hρn n hg
        refine ⟨by rw [hr]; simp [hx], h2, h1, none, 0, by rw [hρ0 n hg]; rfl, Nat.le_refl _, by simp [maxLen], .inl ⟨rfl, rfl, rfl, by rw [hr]⟩⟩
      | deep e sz rs cols foc =>
        simp only [Option.map_none, covBlk] at hcb
        obtain ⟨⟨rfl, h1, h2⟩, rfl⟩ := hcb
        have hr := hρn n hg
        refine ⟨by rw [hr]; simp [hx], h2, h1, ?_, fun i j m hm => (by cases hm), none, 0, by rw [hρ0 n hg]; rfl, Nat.le_refl _, by simp [maxLen], .inl ⟨rfl, rfl, rfl, by rw [hr]⟩⟩
        rw [hr]
        exact ⟨fun k b hk => (by cases hk), fun k l b hk => (by cases hk)⟩
    | some t =>
      rw [hg] at hcb
      simp only [Option.map_some] at hcb
      have hr := hρ n t hg
      cases hbt : blk σ t with
      | none => rw [hbt] at hcb; cases x <;> simp [covBlk] at hcb
      | some y =>
        rw [hbt] at hcb
        have hy := h.hp.blk t y hbt
        cases y with
        | cells ds =>
          cases x with
          | rows e sz rs => simp [covBlk] at hcb
          | deep e sz rs cols foc => simp [covBlk] at hcb
          | cells cs =>
            simp only [covBlk] at hcb
            obtain ⟨h1, h2⟩ := covs_get hcb.1
            obtain ⟨b, arr, T, q1, q2, q3, q4⟩ := hy
            refine ⟨b, arr, T, by rw [hr]; exact q1, q2, by rw [q3, h1], fun i x v hx hv => ?_⟩
            obtain ⟨z, hz, hzx⟩ := h2 i x hx
            exact ⟨(q4 i z v hz hv).1, conv (q4 i z v hz hv).2 hzx⟩
        | rows e sz rs =>
          cases x with
          | cells cs => simp [covBlk] at hcb
          | deep e sz rs cols foc => simp [covBlk] at hcb
          | rows e' sz' rs' =>
            simp only [covBlk] at hcb
            obtain ⟨rfl, rfl, rfl⟩ := hcb
            obtain ⟨q1, q2, q3, A, c, q4, q5, q6, q7⟩ := hy
            refine ⟨by rw [hr]; exact q1, q2, q3, A, c, by rw [hr]; exact q4, q5, q6, ?_⟩
            rw [hr]
            refine q7.imp id ?_
            rintro ⟨b, arr, r1, r2, r3, r4, r5⟩
            refine ⟨b, arr, r1, r2, r3, r4, fun i row hi => ⟨(r5 i row hi).1, fun j x hj => ?_⟩⟩
            obtain ⟨s1, v, s2, s3, s4⟩ := (r5 i row hi).2 j x hj
            exact ⟨s1, v, s2, s3, s4.mono him (fun _ _ => rfl) (fun n hn => by rw [s1] at hn; cases hn)⟩
        | deep e sz rs cols foc =>
          cases x with
          | cells cs => simp [covBlk] at hcb
          | rows e sz rs => simp [covBlk] at hcb
          | deep e' sz' rs' cols' foc' =>
            simp only [covBlk] at hcb
            obtain ⟨⟨rfl, rfl, rfl⟩, rfl, hcf, _⟩ := hcb
            obtain ⟨q1, q2, q3, qh, qI, A, c, q4, q5, q6, q7⟩ := hy
            refine ⟨by rw [hr]; exact q1, q2, q3, by rw [hr]; exact qh, fun i j m hm => ?_, A, c, by rw [hr]; exact q4, q5, q6, ?_⟩
            · obtain ⟨t', _, ht'⟩ := covF_mem hcf hm
              exact qI i j t' ht'
            rw [hr]
            refine q7.imp id ?_
            rintro ⟨b, arr, r1, r2, r3, r4, r5, r6⟩
            refine ⟨b, arr, r1, r2, r3, r4, fun i row hi => ⟨(r5 i row hi).1, fun j x hj => ?_⟩, fun i j m hm row x hi hj => ?_⟩
            · obtain ⟨s1, v, s2, s3, s4⟩ := (r5 i row hi).2 j x hj
              exact ⟨s1, v, s2, s3, s4.mono s1 (fun _ _ => rfl) him (fun _ _ => rfl)⟩
            · obtain ⟨t', g1, g2⟩ := covF_mem hcf hm
              rw [hρ m t' g1]
              exact r6 i j t' g2 row x hi hj
  · obtain ⟨t, y', g1, g2, g3⟩ := hsrc n x b hx hb
    obtain ⟨t', y'', g1', g2', g3'⟩ := hsrc m y b hy hb'
    have := h.hp.inj t t' b y' y'' g2 g2' g3 g3'
    subst this
    exact nodup_inj hc.nd g1 g1'
  · have hcb := covB_get hc.bl (blk_iff.1 hx)
    cases cs with
    | rows _ _ _ => cases hm
    | deep e sz rs cols foc =>
      cases hg : (get n rl).map (blk σ) with
      | none =>
        rw [hg] at hcb
        simp only [covBlk] at hcb
        obtain ⟨_, rfl⟩ := hcb
        cases hm
      | some z =>
        rw [hg] at hcb
        cases z with
        | none => simp [covBlk] at hcb
        | some z =>
          cases z with
          | rows _ _ _ => simp [covBlk] at hcb
          | cells _ => simp [covBlk] at hcb
          | deep _ _ _ _ _ =>
            simp only [covBlk] at hcb
            exact hbd hcb.2.2.2 hm
    | cells cs =>
      cases hg : (get n rl).map (blk σ) with
      | none => rw [hg] at hcb; simp [covBlk] at hcb
      | some z =>
        rw [hg] at hcb
        cases z with
        | none => simp [covBlk] at hcb
        | some z =>
          cases z with
          | rows _ _ _ => simp [covBlk] at hcb
          | deep _ _ _ _ _ => simp [covBlk] at hcb
          | cells ds =>
            simp only [covBlk] at hcb
            exact hbd hcb.2 hm
  · obtain ⟨t, y, _, hy, hb'⟩ := hsrc n x b hx hb
    exact h.own t y b hy hb'
end
theorem Wk.cover {X : Cx} {σ σ' : AS} (rl : List (Nat × Nat)) (hc : Cover X.D σ σ' rl) : Wk X σ σ' := fun γ a w ⟨ρ, h⟩ => h.cover hc
theorem Wk.refl {X : Cx} {σ : AS} : Wk X σ σ := fun γ a w h => h
theorem Wk.trans {X : Cx} {σ σ' σ'' : AS} (h : Wk X σ σ') (k : Wk X σ' σ'') : Wk X σ σ'' := fun γ a w hs => k γ a w (h γ a w hs)
theorem Wk.freeze {X : Cx} {σ : AS} (ns : List Nat) : Wk X σ (freeze σ ns) := fun γ a w ⟨ρ, h⟩ => ⟨ρ, h.freeze ns⟩
end Go.Proofs.YtmlejhpeoiicpaaGreatDoor.Ab
namespace Go.Proofs.YtmlejhpeoiicpaaGreatDoor.Ab
open Go
set_option linter.unusedVariables false
set_option linter.unusedSimpArgs false

def num : Nat → List AV → List (Nat × AV)
  | _, [] => []
  | k, x :: r => (k, x) :: num (k + 1) r
def argS (n : Nat) (args : List AV) : AS := { nt := n, tm := num 0 args, bl := [] }
def ownS : Nat → List (Nat × Nat × List (List AV)) → List (Nat × Option Blk)
  | _, [] => []
  | k, (e, sz, rs) :: r => (k, some (.rows e sz rs)) :: ownS (k + 1) r
/-- a state that bears an answer -/
def resT : List Nat → AV → List (Nat × AV)
  | [t], v => [(t, v)]
  | t :: ts, .tup (v :: vs) => (t, v) :: resT' ts vs
  | _, _ => []
where resT' : List Nat → List AV → List (Nat × AV)
  | t :: ts, v :: vs => (t, v) :: resT' ts vs
  | _, _ => []
def resS (n : Nat) (ts : List Nat) (r : Res) : AS := { nt := n, tm := resT ts r.v, bl := ownS 0 r.own }
/-- the answer's form fits -/
def resFit : List Nat → AV → Bool
  | [t], _ => decide (t < 65536)
  | [], .tup [] => true
  | t :: ts, .tup vs => decide (vs.length = (t :: ts).length) && (t :: ts).all (fun t => decide (t < 65536))
  | _, _ => false

theorem get_num {t : Nat} {x : AV} : ∀ {l : List AV} {k : Nat}, get t (num k l) = some x → k ≤ t ∧ l[t - k]? = some x
  | [], k, h => by simp [num, get] at h
  | y :: r, k, h => by
    simp only [num, get] at h
    split at h
    · rename_i e; subst e; cases h; simp
    · obtain ⟨h1, h2⟩ := get_num h
      refine ⟨by omega, ?_⟩
      rw [show t - k = (t - (k + 1)) + 1 by omega]
      simpa using h2
theorem get_ownS {n : Nat} {b : Option Blk} : ∀ {l : List (Nat × Nat × List (List AV))} {k : Nat}, get n (ownS k l) = some b ↔ ∃ e sz rs, k ≤ n ∧ l[n - k]? = some (e, sz, rs) ∧ b = some (.rows e sz rs)
  | [], k => by simp [ownS, get]
  | (e, sz, rs) :: r, k => by
    simp only [ownS, get]
    split
    · rename_i h
      subst h
      simp only [Nat.sub_self, List.getElem?_cons_zero, Nat.le_refl, true_and, Option.some.injEq, Prod.mk.injEq]
      constructor
      · rintro rfl; exact ⟨e, sz, rs, ⟨rfl, rfl, rfl⟩, rfl⟩
      · rintro ⟨_, _, _, ⟨rfl, rfl, rfl⟩, rfl⟩; rfl
    · rename_i h
      rw [get_ownS (l := r)]
      constructor
      · rintro ⟨e', sz', rs', h1, h2, h3⟩
        refine ⟨e', sz', rs', by omega, ?_, h3⟩
        rw [show n - k = (n - (k + 1)) + 1 by omega]
        simpa using h2
      · rintro ⟨e', sz', rs', h1, h2, h3⟩
        refine ⟨e', sz', rs', by omega, ?_, h3⟩
        rw [show n - k = (n - (k + 1)) + 1 by omega] at h2
        simpa using h2

def resV (ts : List Nat) (tmps : Array Value) : Value := match ts with
  | [t] => tmps.getD t undef
  | ts => .tuple (ts.map fun t => tmps.getD t undef).toArray
/-- a result's place: a temporary, or a variable of a type whose address a temporary holds -/
def toRV : Nat × Option Nat → ResultVar
  | (t, none) => .tmp t
  | (t, some T) => .cell t T
/-- results that lie in variables, read -/
def unbox (D : Nat → TI) : List (Nat × Option Nat) → AS → Option AS
  | [], σ => some σ
  | (_, none) :: r, σ => unbox D r σ
  | (t, some T) :: r, σ => match tmv σ t with
    | .ptr n o => match blk σ n with
      | some (.cells cs) => match valOf (D T) (cs.drop o) with
        | some v => unbox D r { σ with tm := (t, v) :: σ.tm }
        | none => none
      | _ => none
    | _ => none
def resG (tmps : Array Value) : ResultVar → Sem Value
  | .tmp t => pure (tmps.getD t undef)
  | .cell a t => do loadVar t (← asAddr (tmps.getD a undef))
theorem resG_congr {tm tm' : Array Value} : ∀ (l : List (Nat × Option Nat)), (∀ p ∈ l, tm'.getD p.1 undef = tm.getD p.1 undef) → (l.map toRV).mapM (resG tm') = (l.map toRV).mapM (resG tm)
  | [], _ => rfl
  | (t, T) :: r, h => by
    have h1 := h (t, T) (List.mem_cons_self ..)
    have h2 : resG tm' (toRV (t, T)) = resG tm (toRV (t, T)) := by
      cases T with
      | none => simp only [toRV, resG, h1]
      | some T => simp only [toRV, resG, h1]
    rw [List.map_cons, List.mapM_cons, List.mapM_cons, h2, resG_congr r fun p hp => h p (List.mem_cons_of_mem _ hp)]
theorem unbox_ok {P : Program} {D : Nat → TI} (hT : TOk P D) {S N0 : Nat → Prop} {B : Nat} {w0 : W0} {w : World} {ρ : Env} : ∀ (rs : List (Nat × Option Nat)) (σ σ' : AS) (a : Act), (rs.map (·.1)).Nodup → St0 D S N0 B w0 ρ σ a w → unbox D rs σ = some σ' →
    ∃ a', St0 D S N0 B w0 ρ σ' a' w ∧ (∀ t, t ∉ rs.map (·.1) → a'.tmps.getD t undef = a.tmps.getD t undef) ∧ ((rs.map toRV).mapM (resG a.tmps)).run P w = .ok ((rs.map (·.1)).map fun t => a'.tmps.getD t undef) w
  | [], σ, σ', a, _, h, hu => by
    rw [unbox] at hu
    cases hu
    exact ⟨a, h, fun _ _ => rfl, rfl⟩
  | (t, none) :: r, σ, σ', a, hd, h, hu => by
    rw [unbox] at hu
    rw [List.map_cons, List.nodup_cons] at hd
    obtain ⟨a', h1, h2, h3⟩ := unbox_ok hT r σ σ' a hd.2 h hu
    refine ⟨a', h1, fun u hu => h2 u fun hm => hu (by rw [List.map_cons]; exact List.mem_cons_of_mem _ hm), ?_⟩
    rw [List.map_cons, List.mapM_cons]
    have e1 : resG a.tmps (toRV (t, none)) = pure (a'.tmps.getD t undef) := by rw [h2 t hd.1]; rfl
    rw [e1]
    simp only [pure_bind, Sem.run_bind, h3]
    rfl
  | (t, some T) :: r, σ, σ', a, hd, h, hu => by
    rw [unbox] at hu
    rw [List.map_cons, List.nodup_cons] at hd
    split at hu
    case h_2 => cases hu
    rename_i n o hg
    split at hu
    case h_2 => cases hu
    rename_i cs hb
    split at hu
    case h_2 => cases hu
    rename_i y hy
    have h6 : t < 65536 := by
      rcases Nat.lt_or_ge t 65536 with h' | h'
      · exact h'
      · rw [tmv, if_neg (by omega)] at hg; cases hg
    rw [tmv, if_pos h6] at hg
    have hg : get t σ.tm = some (.ptr n o) := by
      cases hq : get t σ.tm with
      | none => rw [hq] at hg; cases hg
      | some x => rw [hq] at hg; simp at hg; rw [hg]
    obtain ⟨hrel, hnm⟩ := h.tm t _ hg
    rw [vl, if_pos h6] at hrel
    generalize hv : a.tmps.getD t undef = v at hrel
    have he : effLoad D (blk σ) T (.ptr n o) = some { v := y } := by simp only [effLoad, hb, hy, Option.map_some]
    obtain ⟨_, _, _, u, hrun, hru, hnu⟩ := load_sound (P := P) hT h (fun _ _ h => h) hrel he
    have hlt : t < σ.nt := by
      rw [← h.nt.1]
      rcases Nat.lt_or_ge t a.tmps.size with h' | h'
      · exact h'
      · exfalso
        rw [Array.getD_eq_getD_getElem?, Array.getElem?_eq_none h'] at hv
        subst hv
        cases hrel
    have hs1 := h.put (d := t) (x := y) (v := u) hlt hru hnu
    obtain ⟨a', h1, h2, h3⟩ := unbox_ok hT r _ σ' (a.put (some t) u) hd.2 hs1 hu
    have hne : ∀ s, s ≠ t → (a.put (some t) u).tmps.getD s undef = a.tmps.getD s undef := fun s hs => by
      rw [Array.getD_eq_getD_getElem?, Array.getD_eq_getD_getElem?]
      simp [Act.put, Array.getElem?_setIfInBounds_ne (fun e => hs e.symm)]
    refine ⟨a', h1, fun s hs => ?_, ?_⟩
    · rw [List.map_cons, List.mem_cons] at hs
      rw [h2 s fun hm => hs (.inr hm)]
      exact hne s fun e => hs (.inl e)
    · rw [List.map_cons, List.mapM_cons]
      have e1 : (resG a.tmps (toRV (t, some T))).run P w = .ok (a'.tmps.getD t undef) w := by
        have : a'.tmps.getD t undef = u := by
          rw [h2 t hd.1, Array.getD_eq_getD_getElem?]
          simp [Act.put, Array.getElem?_setIfInBounds_self, h.nt.1, hlt]
        rw [this]
        simp only [toRV, resG, hv]
        cases hrel with
        | ptr n o b hb' => simpa [Instr.loadAt, Instr.sureAddr, asAddr] using hrun
      have e2 : ((r.map toRV).mapM (resG a.tmps)).run P w = .ok ((r.map (·.1)).map fun t => a'.tmps.getD t undef) w := by
        rw [resG_congr r (tm := (a.put (some t) u).tmps) (tm' := a.tmps)]
        · exact h3
        · intro p hp
          exact (hne p.1 fun e => hd.1 (by show t ∈ _; rw [← e]; exact List.mem_map_of_mem hp)).symm
      simp only [Sem.run_bind, e1, Result.andThen, e2]
      rfl
theorem results_rs {P : Program} {fn : Func} {rs : List (Nat × Option Nat)} (h : fn.results = (rs.map toRV).toArray) {tm tm' : Array Value} {w : World} (hr : ((rs.map toRV).mapM (resG tm)).run P w = .ok ((rs.map (·.1)).map fun t => tm'.getD t undef) w) : (results fn tm).run P w = .ok (resV (rs.map (·.1)) tm') w := by
  have e : results fn tm = (do let vs ← fn.results.mapM (resG tm); pure (if h : vs.size = 1 then vs[0] else .tuple vs)) := rfl
  rw [e, h, List.mapM_toArray]
  simp only [Sem.run_bind, Sem.run_map, hr]
  match rs with
  | [] => rfl
  | [_] => rfl
  | t :: u :: r => simp [resV, Sem.run, pure]

theorem resT'_get {t : Nat} : ∀ {ts : List Nat} {vs : List AV} {i : Nat}, ts.Nodup → ts[i]? = some t → vs.length = ts.length → get t (resT.resT' ts vs) = vs[i]?
  | [], _, i, _, h, _ => by simp at h
  | u :: ts, [], i, _, _, h => by simp at h
  | u :: ts, v :: vs, i, hd, h, hl => by
    simp only [resT.resT', get]
    cases i with
    | zero => simp at h; subst h; simp
    | succ i =>
      simp at h hl
      rw [List.nodup_cons] at hd
      rw [if_neg fun e => hd.1 (by rw [e]; exact List.mem_of_getElem? h)]
      simpa using resT'_get hd.2 h hl

theorem mEff_noM (dn : Nat) (σ : AS) (o : Oper) : mEff noM dn σ o = none := by
  unfold mEff
  split
  · split
    · unfold callM noM
      split <;> rfl
    · rfl
  · rfl
/-- a table of effects is right -/
def MOk (P : Program) (D : Nat → TI) (G : Ctr) (M : MCtr) : Prop := ∀ X : Cx, X.P = P → X.D = D → X.G = G → X.M = M → P.follows .mixedOrders = true → TOk P D → GOk P D G →
  ∀ (ops : Array Oper) (o : Oper) (σ : AS) (e : Eff), o.guard = none → mEff M (X.nb + o.dst.getD 0) σ o = some e → e.pre → fresh σ o.dst e = true → InlOp X ops o σ (fun σ' => Eqv (apply σ o.dst e) σ')
theorem MOk.none {P : Program} {D : Nat → TI} {G : Ctr} : MOk P D G noM := fun X _ _ _ _ _ _ _ ops o σ e _ h => by rw [mEff_noM] at h; cases h
theorem MOk.ok {X : Cx} {P : Program} {D : Nat → TI} {G : Ctr} {M : MCtr} (h : MOk P D G M) (h1 : X.P = P) (h2 : X.D = D) (h3 : X.G = G) (h4 : X.M = M) (hm : P.follows .mixedOrders = true) (hT : TOk P D) (hG : GOk P D G) : X.Ok := by
  subst h1 h2 h3 h4
  exact ⟨hm, hT, hG, h X rfl rfl rfl rfl hm hT hG⟩
/-- A BODY's CONTRACT -/
theorem con_ofM {P : Program} {D : Nat → TI} {G : Ctr} {M : MCtr} (hM : MOk P D G M) (hm : P.follows .mixedOrders = true) (hT : TOk P D) (hG : GOk P D G) {f : Nat} {fn : Func} {c : Code} {rs : List (Nat × Option Nat)} {args : List AV} {r : Res}
    (hf : P.funcs[f]? = some fn) (hb : fn.body = some c) (hname : (fn.name == "runtime.NumGoroutine") = false) (hres : fn.results = (rs.map toRV).toArray) (hd : (rs.map (·.1)).Nodup) (hfit : resFit (rs.map (·.1)) r.v = true)
    {n : Nat} (hn : fn.ntmps = n) (hlen : args.length ≤ n ∧ n ≤ 65536) (hnm : namess args = [])
    (h : ∀ X : Cx, X.P = P → X.D = D ∧ X.nb = 0 ∧ X.M = M → X.G = G → X.Ok → Tr X c (fun e σ' => (e = .normal ∨ e = .ret) ∧ ∃ σ1, unbox D rs σ' = some σ1 ∧ ∃ ns rl, Cover D (Ab.freeze σ1 ns) (resS n (rs.map (·.1)) r) rl) (argS n args)) : Con P D f args r := by
  refine ⟨⟨fn, hf, hname, by rw [hb]; rfl⟩, fun w im ρ vs him hvs => ?_⟩
  subst hn
  have hsz : vs.size = args.length := by have := hvs.1; simp at this; omega
  let X : Cx := ⟨P, D, G, im, fun _ => False, w.heap.size, w, 0, M⟩
  have hst : X.St (fun _ => undef) (argS fn.ntmps args) { tmps := vs ++ Array.replicate (fn.ntmps - vs.size) undef, defers := [] } w := by
    have hbl : blk (argS fn.ntmps args) = fun _ => none := rfl
    have hi : ∀ b, im b → imOf im (fun _ => False) w.heap.size w ρ (blk (argS fn.ntmps args)) b := fun b hb => ⟨him.1 b hb, .inl hb, fun n x hx => by cases hx⟩
    refine ⟨ρ, fun t x hx => ?_, ⟨fun n x hx => (by rw [hbl] at hx; cases hx), fun n m b x y hx => (by rw [hbl] at hx; cases hx), fun n x b hx => (by rw [hbl] at hx; cases hx), fun b hb => hb.1, fun n cs hx => (by rw [hbl] at hx; cases hx)⟩, ⟨by simp [argS]; omega, hlen.2⟩, ⟨Nat.le_refl _, fun b hb => ⟨him.2.1 b hb, him.1 b (him.2.1 b hb), fun h => h⟩, him.2.2⟩, ⟨rfl, rfl, rfl, Nat.le_refl _, fun _ _ _ => rfl⟩, fun n x b hx => (by rw [hbl] at hx; cases hx), rfl⟩
    obtain ⟨_, hx'⟩ := get_num hx
    simp only [Nat.sub_zero] at hx'
    have hlt : t < args.length := (List.getElem?_eq_some_iff.1 hx').1
    have hnx : names x = [] := by
      rw [List.eq_nil_iff_forall_not_mem]
      intro k hk
      have := mem_namess hx' hk
      rw [hnm] at this
      cases this
    refine ⟨?_, fun k hk => by rw [hnx] at hk; cases hk⟩
    have hv : (vs ++ Array.replicate (fn.ntmps - vs.size) undef).getD t undef = vs[t]'(by omega) := by
      rw [Array.getD_eq_getD_getElem?, Array.getElem?_append_left (by omega)]
      simp [show t < vs.size by omega]
    rw [vl, if_pos (by omega)]
    simp only
    rw [hv]
    have := hvs.2 t x (vs[t]'(by omega)) hx' (by simp [show t < vs.size by omega])
    exact this.mono hi (fun _ _ => rfl) (fun _ _ => rfl)
  refine calls_of_wp hf hb (wp_mono (h X rfl ⟨rfl, rfl, rfl⟩ rfl (hM.ok rfl rfl rfl rfl hm hT hG) _ _ w hst) fun e a0 w' ⟨σ', ⟨he, σ1, hub, ns, rl, hcov⟩, hs⟩ => ?_)
  obtain ⟨ρ1, hs⟩ := hs
  have hdf := hs.defers
  obtain ⟨a, hs, _, hrun⟩ := unbox_ok hT rs σ' σ1 a0 hd hs hub
  have hrun := results_rs hres hrun
  generalize hts : rs.map (·.1) = ts at *
  obtain ⟨ρ2, hs⟩ := (hs.freeze ns).cover hcov
  have hblo : ∀ k e sz rs, r.own[k]? = some (e, sz, rs) → blk (resS fn.ntmps ts r) k = some (.rows e sz rs) := fun k e sz rs hk => blk_iff.2 (get_ownS.2 ⟨e, sz, rs, Nat.zero_le _, by simpa using hk, rfl⟩)
  have hbli : ∀ k x, blk (resS fn.ntmps ts r) k = some x → ∃ e sz rs, r.own[k]? = some (e, sz, rs) ∧ x = .rows e sz rs := fun k x hk => by
    obtain ⟨e, sz, rs, _, h1, h2⟩ := get_ownS.1 (blk_iff.1 hk)
    simp only [Nat.sub_zero] at h1
    cases h2
    exact ⟨e, sz, rs, h1, rfl⟩
  have himR : ∀ b, imOf im (fun _ => False) w.heap.size w' ρ2 (blk (resS fn.ntmps ts r)) b → imR w w' im ρ2 r.own.length b := by
    rintro b ⟨h1, h2, h3⟩
    refine ⟨h1, ?_, fun m hm => ?_⟩
    · rcases h2 with h2 | h2 | h2
      · exact .inl h2
      · exact .inr h2
      · exact h2.elim
    · have hlt : r.own[m]? = some (r.own[m]) := by simp [hm]
      exact h3 m _ (hblo m _ _ _ (by rw [hlt]))
  have hbound : ∀ n, (blk (resS fn.ntmps ts r) n).isSome = true → n < r.own.length := fun n hn => by
    obtain ⟨x, hx⟩ := Option.isSome_iff_exists.1 hn
    obtain ⟨e, sz, rs, h1, _⟩ := hbli n x hx
    exact (List.getElem?_eq_some_iff.1 h1).1
  have hval : Rel w' (imR w w' im ρ2 r.own.length) ρ2 r.v (resV ts a.tmps) ∧ ∀ n ∈ names r.v, n < r.own.length := by
    have one : ∀ t x, t < 65536 → get t (resT ts r.v) = some x → Rel w' (imR w w' im ρ2 r.own.length) ρ2 x (a.tmps.getD t undef) ∧ ∀ n ∈ names x, n < r.own.length := fun t x h6 hx => by
      have h7 := (hs.tm t x hx).1
      rw [vl, if_pos h6] at h7
      exact ⟨h7.mono himR (fun _ _ => rfl) (fun _ _ => rfl), fun n hn => hbound n ((hs.tm t x hx).2 n hn)⟩
    match ts, hd, hfit, one with
    | [t], _, hfit, one => exact one t r.v (by simpa [resFit] using hfit) (by simp [resT, get])
    | [], _, hfit, _ =>
      unfold resFit at hfit
      split at hfit
      · rename_i h1; exact absurd h1 (by simp)
      · rename_i hr; rw [hr]; exact ⟨.tup [] #[] rfl (by simp), by simp [names, namess]⟩
      · rename_i h1 _; exact absurd h1 (by simp)
      · cases hfit
    | t :: u :: ts, hd, hfit, one =>
      cases hrv : r.v <;> rw [hrv] at hfit <;> simp only [resFit] at hfit <;> try (cases hfit; done)
      rename_i vs'
      rw [Bool.and_eq_true] at hfit
      have hl : vs'.length = (t :: u :: ts).length := by simpa using hfit.1
      have h6 : ∀ (i : Nat) s, (t :: u :: ts)[i]? = some s → s < 65536 := fun i s hi => by simpa using List.all_eq_true.1 hfit.2 s (List.mem_of_getElem? hi)
      rw [hrv] at one
      have hget : ∀ (i : Nat) s, (t :: u :: ts)[i]? = some s → get s (resT (t :: u :: ts) (.tup vs')) = vs'[i]? := fun i s hi => by
        have := resT'_get hd hi hl
        cases vs' with
        | nil => simp at hl
        | cons v vs' => exact this
      refine ⟨.tup vs' _ (by simp [hl]) fun i x v hx hv => ?_, fun n hn => ?_⟩
      · have hi : i < (t :: u :: ts).length := by rw [← hl]; exact (List.getElem?_eq_some_iff.1 hx).1
        have hs1 : (t :: u :: ts)[i]? = some ((t :: u :: ts)[i]) := by simp [hi]
        have := (one _ x (h6 i _ hs1) (by rw [hget i _ hs1]; exact hx)).1
        have hv' : v = a.tmps.getD ((t :: u :: ts)[i]) undef := by
          rw [List.getElem?_toArray, List.getElem?_map, hs1] at hv
          simpa using hv.symm
        rw [hv']
        exact this
      · rw [names] at hn
        obtain ⟨i, x, hx, hn⟩ := namess_mem hn
        have hi : i < (t :: u :: ts).length := by rw [← hl]; exact (List.getElem?_eq_some_iff.1 hx).1
        have hs1 : (t :: u :: ts)[i]? = some ((t :: u :: ts)[i]) := by simp [hi]
        exact (one _ x (h6 i _ hs1) (by rw [hget i _ hs1]; exact hx)).2 n hn
  have hpost : ConPost D w im r (resV ts a.tmps) w' := by
    refine ⟨hs.frm, ρ2, fun k e sz rs hk => ⟨?_, fun b hb => ?_⟩, fun k l b hk hl hb hb' => ?_, hval.1, hval.2⟩
    · have := hs.hp.blk k _ (hblo k e sz rs hk)
      obtain ⟨q1, q2, q3, A, c, q4, q5, q6, q7⟩ := this
      refine ⟨q1, q2, q3, A, c, q4, q5, q6, q7.imp id ?_⟩
      rintro ⟨b, arr, r1, r2, r3, r4, r5⟩
      refine ⟨b, arr, r1, r2, r3, r4, fun i row hi => ⟨(r5 i row hi).1, fun j x hj => ?_⟩⟩
      obtain ⟨s1, v, s2, s3, s4⟩ := (r5 i row hi).2 j x hj
      exact ⟨s1, v, s2, s3, s4.mono himR (fun _ _ => rfl) (fun n hn => rfl)⟩
    · exact (hs.own k _ b (hblo k e sz rs hk) hb).resolve_right (fun h => h.elim)
    · have h1 : r.own[k]? = some (r.own[k]) := by simp [hk]
      have h2 : r.own[l]? = some (r.own[l]) := by simp [hl]
      exact hs.hp.inj k l b _ _ (hblo k _ _ _ (by rw [h1])) (hblo l _ _ _ (by rw [h2])) hb hb'
  rcases he with rfl | rfl
  · exact ⟨hdf, _, hrun, _, rfl, hpost⟩
  · exact ⟨hdf, _, hrun, _, rfl, hpost⟩

theorem con_of {P : Program} {D : Nat → TI} {G : Ctr} (hm : P.follows .mixedOrders = true) (hT : TOk P D) (hG : GOk P D G) {f : Nat} {fn : Func} {c : Code} {rs : List (Nat × Option Nat)} {args : List AV} {r : Res}
    (hf : P.funcs[f]? = some fn) (hb : fn.body = some c) (hname : (fn.name == "runtime.NumGoroutine") = false) (hres : fn.results = (rs.map toRV).toArray) (hd : (rs.map (·.1)).Nodup) (hfit : resFit (rs.map (·.1)) r.v = true)
    {n : Nat} (hn : fn.ntmps = n) (hlen : args.length ≤ n ∧ n ≤ 65536) (hnm : namess args = [])
    (h : ∀ X : Cx, X.P = P → X.D = D ∧ X.nb = 0 ∧ X.M = noM → X.G = G → X.Ok → Tr X c (fun e σ' => (e = .normal ∨ e = .ret) ∧ ∃ σ1, unbox D rs σ' = some σ1 ∧ ∃ ns rl, Cover D (Ab.freeze σ1 ns) (resS n (rs.map (·.1)) r) rl) (argS n args)) : Con P D f args r :=
  con_ofM MOk.none hm hT hG hf hb hname hres hd hfit hn hlen hnm h
theorem InlOp.wk {X : Cx} {ops : Array Oper} {o : Oper} {σ : AS} {R : AS → Prop} (h : InlOp X ops o σ (fun σ' => ∃ σ2, Wk X σ' σ2 ∧ R σ2)) : InlOp X ops o σ R :=
  ⟨fun γ a w i Qx hi hs => wpOp_mono (fun a' w' ⟨σ', ⟨σ2, h1, h2⟩, h3⟩ => ⟨σ2, h2, h1 γ a' w' h3⟩) (h.1 γ a w i Qx hi hs)⟩

/-! into a call -/
def shT : List (Nat × AV) → List (Nat × AV)
  | [] => []
  | (t, x) :: r => (t + 65536, x) :: shT r
def enterS (σ : AS) (n : Nat) (args : List AV) : AS := { nt := n, tm := num 0 args ++ shT σ.tm, bl := σ.bl }
theorem get_shT {t : Nat} {x : AV} : ∀ {l : List (Nat × AV)}, get t (shT l) = some x → 65536 ≤ t ∧ get (t - 65536) l = some x
  | [], h => by simp [shT, get] at h
  | (k, y) :: r, h => by
    simp only [shT, get] at h ⊢
    split at h
    · rename_i e
      cases h
      exact ⟨by omega, by rw [if_pos (by omega)]⟩
    · rename_i e
      obtain ⟨h1, h2⟩ := get_shT h
      exact ⟨h1, by rw [if_neg (by omega)]; exact h2⟩

section
variable {X : Cx} {γ : Nat → Value} {ops : Array Oper} {σ : AS} {R : AS → Prop}
theorem St0.enter {D : Nat → TI} {S N0 : Nat → Prop} {B : Nat} {w0 w : World} {ρ : Env} {a : Act} (h : St0 D S N0 B ⟨w0, γ⟩ ρ σ a w) {args : List AV} {vs : Array Value} {n : Nat} (hvs : Rels w (Im S N0 B w ρ σ) ρ args vs.toList) (hnm : ∀ x ∈ args, ∀ k ∈ names x, (blk σ k).isSome = true)
    (hlen : args.length ≤ n ∧ n ≤ 65536) : St0 D S N0 B ⟨w0, vl γ a⟩ ρ (enterS σ n args) { tmps := vs ++ Array.replicate (n - vs.size) undef, defers := [] } w := by
  have hsz : vs.size = args.length := by have := hvs.1; simp at this; omega
  refine ⟨fun t x hx => ?_, h.hp, ⟨by simp [enterS]; omega, hlen.2⟩, h.base, h.frm, h.own, rfl⟩
  simp only [enterS, get_append] at hx
  cases hg : get t (num 0 args) with
  | some y =>
    rw [hg] at hx
    cases hx
    obtain ⟨_, hx'⟩ := get_num hg
    simp only [Nat.sub_zero] at hx'
    have hlt : t < args.length := (List.getElem?_eq_some_iff.1 hx').1
    refine ⟨?_, hnm x (List.mem_of_getElem? hx')⟩
    have hv : (vs ++ Array.replicate (n - vs.size) undef).getD t undef = vs[t]'(by omega) := by
      rw [Array.getD_eq_getD_getElem?, Array.getElem?_append_left (by omega)]
      simp [show t < vs.size by omega]
    rw [vl, if_pos (by omega)]
    simp only
    rw [hv]
    exact hvs.2 t x (vs[t]'(by omega)) hx' (by simp [show t < vs.size by omega])
  | none =>
    rw [hg] at hx
    obtain ⟨h1, h2⟩ := get_shT hx
    have h3 := h.tm (t - 65536) x h2
    have h4 : vl (vl γ a) { tmps := vs ++ Array.replicate (n - vs.size) undef, defers := [] } t = vl γ a (t - 65536) := if_neg (by omega)
    rw [h4]
    exact h3

end
end Go.Proofs.YtmlejhpeoiicpaaGreatDoor.Ab
namespace Go.Proofs.YtmlejhpeoiicpaaGreatDoor.Ab
open Go
def tyTab : List (Nat × TI) := [
  (1, ⟨.ref, 1, 8, [.junk]⟩),
  (2, ⟨.int .i64, 1, 8, [.int .i64 0]⟩),
  (3, ⟨.int .i64, 1, 8, [.int .i64 0]⟩),
  (4, ⟨.bool, 1, 1, [.bool false]⟩),
  (5, ⟨.int .u8, 1, 1, [.int .u8 0]⟩),
  (6, ⟨.int .u8, 1, 1, [.int .u8 0]⟩),
  (7, ⟨.struct [(0, 2), (1, 3), (2, 4), (3, 6)], 4, 24, [.int .i64 0, .int .i64 0, .bool false, .int .u8 0]⟩),
  (8, ⟨.struct [(0, 2), (1, 3), (2, 4), (3, 6)], 4, 24, [.int .i64 0, .int .i64 0, .bool false, .int .u8 0]⟩),
  (9, ⟨.str, 1, 16, [.str []]⟩),
  (10, ⟨.str, 1, 16, [.str []]⟩),
  (11, ⟨.str, 1, 16, [.str []]⟩),
  (12, ⟨.int .u64, 1, 8, [.int .u64 0]⟩),
  (13, ⟨.struct [(0, 9), (1, 12)], 2, 24, [.str [], .int .u64 0]⟩),
  (14, ⟨.struct [(0, 9), (1, 12)], 2, 24, [.str [], .int .u64 0]⟩),
  (15, ⟨.ref, 1, 8, [.junk]⟩),
  (16, ⟨.ref, 1, 8, [.junk]⟩),
  (17, ⟨.ref, 1, 8, [.junk]⟩),
  (18, ⟨.struct [(0, 17)], 1, 8, [.junk]⟩),
  (19, ⟨.struct [(0, 17)], 1, 8, [.junk]⟩),
  (20, ⟨.iface, 1, 16, [.junk]⟩),
  (21, ⟨.int .i32, 1, 4, [.int .i32 0]⟩),
  (22, ⟨.slice 36, 1, 24, [.nils]⟩),
  (23, ⟨.slice 5, 1, 24, [.nils]⟩),
  (24, ⟨.struct [(0, 22), (1, 23)], 2, 48, [.nils, .nils]⟩),
  (25, ⟨.struct [(0, 22), (1, 23)], 2, 48, [.nils, .nils]⟩),
  (26, ⟨.struct [(0, 3), (1, 9), (2, 3), (3, 25)], 5, 80, [.int .i64 0, .str [], .int .i64 0, .nils, .nils]⟩),
  (27, ⟨.struct [(0, 3), (1, 9), (2, 3), (3, 25)], 5, 80, [.int .i64 0, .str [], .int .i64 0, .nils, .nils]⟩),
  (28, ⟨.int .i64, 1, 8, [.int .i64 0]⟩),
  (29, ⟨.struct [(0, 3), (1, 3), (2, 3), (3, 28), (4, 25)], 6, 80, [.int .i64 0, .int .i64 0, .int .i64 0, .int .i64 0, .nils, .nils]⟩),
  (30, ⟨.struct [(0, 3), (1, 3), (2, 3), (3, 28), (4, 25)], 6, 80, [.int .i64 0, .int .i64 0, .int .i64 0, .int .i64 0, .nils, .nils]⟩),
  (32, ⟨.ref, 1, 8, [.junk]⟩),
  (34, ⟨.ref, 1, 8, [.junk]⟩),
  (35, ⟨.struct [(0, 9), (1, 3), (2, 3), (3, 9)], 4, 48, [.str [], .int .i64 0, .int .i64 0, .str []]⟩),
  (36, ⟨.struct [(0, 9), (1, 3), (2, 3), (3, 9)], 4, 48, [.str [], .int .i64 0, .int .i64 0, .str []]⟩),
  (38, ⟨.ref, 1, 8, [.junk]⟩),
  (39, ⟨.ref, 1, 8, [.junk]⟩),
  (40, ⟨.ref, 1, 8, [.junk]⟩),
  (41, ⟨.ref, 1, 8, [.junk]⟩),
  (42, ⟨.ref, 1, 8, [.junk]⟩),
  (43, ⟨.ref, 1, 8, [.junk]⟩),
  (44, ⟨.ref, 1, 8, [.junk]⟩),
  (46, ⟨.ref, 1, 8, [.junk]⟩),
  (47, ⟨.ref, 1, 8, [.junk]⟩),
  (49, ⟨.ref, 1, 8, [.junk]⟩),
  (50, ⟨.ref, 1, 8, [.junk]⟩),
  (51, ⟨.ref, 1, 8, [.junk]⟩),
  (52, ⟨.ref, 1, 8, [.junk]⟩),
  (54, ⟨.ref, 1, 8, [.junk]⟩),
  (55, ⟨.ref, 1, 8, [.junk]⟩),
  (56, ⟨.slice 27, 1, 24, [.nils]⟩),
  (58, ⟨.ref, 1, 8, [.junk]⟩),
  (59, ⟨.slice 30, 1, 24, [.nils]⟩),
  (61, ⟨.ref, 1, 8, [.junk]⟩),
  (62, ⟨.ref, 1, 8, [.junk]⟩),
  (63, ⟨.ref, 1, 8, [.junk]⟩),
  (64, ⟨.ref, 1, 8, [.junk]⟩),
  (65, ⟨.ref, 1, 8, [.junk]⟩),
  (66, ⟨.ref, 1, 8, [.junk]⟩),
  (67, ⟨.ref, 1, 8, [.junk]⟩),
  (68, ⟨.ref, 1, 8, [.junk]⟩),
  (69, ⟨.ref, 1, 8, [.junk]⟩),
  (70, ⟨.iface, 1, 16, [.junk]⟩),
  (71, ⟨.iface, 1, 16, [.junk]⟩),
  (73, ⟨.ref, 1, 8, [.junk]⟩),
  (74, ⟨.ref, 1, 8, [.junk]⟩),
  (75, ⟨.ref, 1, 8, [.junk]⟩),
  (76, ⟨.int .u64, 1, 8, [.int .u64 0]⟩),
  (78, ⟨.ref, 1, 8, [.junk]⟩),
  (81, ⟨.ref, 1, 8, [.junk]⟩),
  (82, ⟨.ref, 1, 8, [.junk]⟩),
  (83, ⟨.slice 9, 1, 24, [.nils]⟩),
  (84, ⟨.ref, 1, 8, [.junk]⟩),
  (85, ⟨.ref, 1, 8, [.junk]⟩),
  (86, ⟨.ref, 1, 8, [.junk]⟩),
  (87, ⟨.ref, 1, 8, [.junk]⟩),
  (89, ⟨.ref, 1, 8, [.junk]⟩),
  (91, ⟨.ref, 1, 8, [.junk]⟩),
  (92, ⟨.ref, 1, 8, [.junk]⟩),
  (94, ⟨.ref, 1, 8, [.junk]⟩),
  (95, ⟨.ref, 1, 8, [.junk]⟩),
  (97, ⟨.ref, 1, 8, [.junk]⟩),
  (98, ⟨.ref, 1, 8, [.junk]⟩),
  (100, ⟨.ref, 1, 8, [.junk]⟩),
  (101, ⟨.ref, 1, 8, [.junk]⟩),
  (103, ⟨.ref, 1, 8, [.junk]⟩),
  (105, ⟨.ref, 1, 8, [.junk]⟩),
  (106, ⟨.ref, 1, 8, [.junk]⟩),
  (108, ⟨.ref, 1, 8, [.junk]⟩),
  (109, ⟨.ref, 1, 8, [.junk]⟩),
  (110, ⟨.slice 111, 1, 24, [.nils]⟩),
  (111, ⟨.ref, 1, 8, [.junk]⟩),
  (112, ⟨.slice 3, 1, 24, [.nils]⟩),
  (114, ⟨.ref, 1, 8, [.junk]⟩),
  (115, ⟨.struct [(0, 46), (1, 42), (2, 49), (3, 44)], 4, 32, [.junk, .junk, .junk, .junk]⟩),
  (116, ⟨.struct [(0, 46), (1, 42), (2, 49), (3, 44)], 4, 32, [.junk, .junk, .junk, .junk]⟩),
  (118, ⟨.ref, 1, 8, [.junk]⟩),
  (119, ⟨.ref, 1, 8, [.junk]⟩),
  (121, ⟨.ref, 1, 8, [.junk]⟩),
  (122, ⟨.struct [(0, 121), (1, 23)], 2, 32, [.junk, .nils]⟩),
  (123, ⟨.struct [(0, 121), (1, 23)], 2, 32, [.junk, .nils]⟩),
  (124, ⟨.ref, 1, 8, [.junk]⟩),
  (125, ⟨.ref, 1, 8, [.junk]⟩),
  (126, ⟨.ref, 1, 8, [.junk]⟩),
  (127, ⟨.ref, 1, 8, [.junk]⟩),
  (129, ⟨.ref, 1, 8, [.junk]⟩),
  (130, ⟨.ref, 1, 8, [.junk]⟩),
  (131, ⟨.ref, 1, 8, [.junk]⟩),
  (132, ⟨.ref, 1, 8, [.junk]⟩),
  (134, ⟨.ref, 1, 8, [.junk]⟩),
  (135, ⟨.ref, 1, 8, [.junk]⟩),
  (136, ⟨.ref, 1, 8, [.junk]⟩),
  (138, ⟨.ref, 1, 8, [.junk]⟩),
  (139, ⟨.ref, 1, 8, [.junk]⟩),
  (140, ⟨.ref, 1, 8, [.junk]⟩),
  (141, ⟨.int .i64, 1, 8, [.int .i64 0]⟩),
  (143, ⟨.ref, 1, 8, [.junk]⟩),
  (144, ⟨.ref, 1, 8, [.junk]⟩),
  (145, ⟨.ref, 1, 8, [.junk]⟩),
  (146, ⟨.ref, 1, 8, [.junk]⟩),
  (147, ⟨.ref, 1, 8, [.junk]⟩),
  (148, ⟨.ref, 1, 8, [.junk]⟩),
  (149, ⟨.ref, 1, 8, [.junk]⟩),
  (150, ⟨.ref, 1, 8, [.junk]⟩),
  (151, ⟨.ref, 1, 8, [.junk]⟩),
  (152, ⟨.ref, 1, 8, [.junk]⟩),
  (154, ⟨.ref, 1, 8, [.junk]⟩),
  (155, ⟨.ref, 1, 8, [.junk]⟩),
  (156, ⟨.int .u32, 1, 4, [.int .u32 0]⟩),
  (158, ⟨.ref, 1, 8, [.junk]⟩),
  (159, ⟨.int .u64, 1, 8, [.int .u64 0]⟩),
  (161, ⟨.ref, 1, 8, [.junk]⟩),
  (162, ⟨.ref, 1, 8, [.junk]⟩),
  (163, ⟨.struct [(0, 9), (1, 9), (2, 71)], 3, 48, [.str [], .str [], .junk]⟩),
  (164, ⟨.struct [(0, 9), (1, 9), (2, 71)], 3, 48, [.str [], .str [], .junk]⟩),
  (165, ⟨.ref, 1, 8, [.junk]⟩),
  (167, ⟨.ref, 1, 8, [.junk]⟩),
  (168, ⟨.ref, 1, 8, [.junk]⟩),
  (170, ⟨.ref, 1, 8, [.junk]⟩),
  (172, ⟨.ref, 1, 8, [.junk]⟩),
  (173, ⟨.ref, 1, 8, [.junk]⟩),
  (175, ⟨.ref, 1, 8, [.junk]⟩),
  (176, ⟨.ref, 1, 8, [.junk]⟩),
  (177, ⟨.ref, 1, 8, [.junk]⟩),
  (178, ⟨.ref, 1, 8, [.junk]⟩),
  (179, ⟨.struct [(0, 9)], 1, 16, [.str []]⟩),
  (180, ⟨.struct [(0, 9)], 1, 16, [.str []]⟩),
  (181, ⟨.ref, 1, 8, [.junk]⟩),
  (182, ⟨.ref, 1, 8, [.junk]⟩),
  (185, ⟨.ref, 1, 8, [.junk]⟩),
  (186, ⟨.ref, 1, 8, [.junk]⟩),
  (187, ⟨.ref, 1, 8, [.junk]⟩),
  (188, ⟨.struct [(0, 23), (1, 4)], 2, 32, [.nils, .bool false]⟩),
  (189, ⟨.struct [(0, 23), (1, 4)], 2, 32, [.nils, .bool false]⟩),
  (190, ⟨.ref, 1, 8, [.junk]⟩),
  (191, ⟨.ref, 1, 8, [.junk]⟩),
  (193, ⟨.ref, 1, 8, [.junk]⟩),
  (195, ⟨.struct [(0, 5), (1, 5)], 2, 2, [.int .u8 0, .int .u8 0]⟩),
  (196, ⟨.struct [(0, 5), (1, 5)], 2, 2, [.int .u8 0, .int .u8 0]⟩),
  (200, ⟨.struct [(0, 17), (1, 17), (2, 17), (3, 9)], 4, 40, [.junk, .junk, .junk, .str []]⟩),
  (201, ⟨.struct [(0, 17), (1, 17), (2, 17), (3, 9)], 4, 40, [.junk, .junk, .junk, .str []]⟩),
  (205, ⟨.ref, 1, 8, [.junk]⟩),
  (206, ⟨.int .u8, 1, 1, [.int .u8 0]⟩),
  (207, ⟨.int .u8, 1, 1, [.int .u8 0]⟩),
  (208, ⟨.ref, 1, 8, [.junk]⟩),
  (209, ⟨.int .i32, 1, 4, [.int .i32 0]⟩),
  (210, ⟨.int .i32, 1, 4, [.int .i32 0]⟩),
  (211, ⟨.struct [(0, 12), (1, 12), (2, 156), (3, 206), (4, 5), (5, 5), (6, 207), (7, 208), (8, 149), (9, 209), (10, 210)], 11, 48, [.int .u64 0, .int .u64 0, .int .u32 0, .int .u8 0, .int .u8 0, .int .u8 0, .int .u8 0, .junk, .junk, .int .i32 0, .int .i32 0]⟩),
  (212, ⟨.struct [(0, 12), (1, 12), (2, 156), (3, 206), (4, 5), (5, 5), (6, 207), (7, 208), (8, 149), (9, 209), (10, 210)], 11, 48, [.int .u64 0, .int .u64 0, .int .u32 0, .int .u8 0, .int .u8 0, .int .u8 0, .int .u8 0, .junk, .junk, .int .i32 0, .int .i32 0]⟩)]
def D (T : Nat) : TI := (get T tyTab).getD ⟨.other, 0, 0, []⟩
theorem D_1 : D 1 = ⟨.ref, 1, 8, [.junk]⟩ := rfl
theorem D_2 : D 2 = ⟨.int .i64, 1, 8, [.int .i64 0]⟩ := rfl
theorem D_3 : D 3 = ⟨.int .i64, 1, 8, [.int .i64 0]⟩ := rfl
theorem D_4 : D 4 = ⟨.bool, 1, 1, [.bool false]⟩ := rfl
theorem D_5 : D 5 = ⟨.int .u8, 1, 1, [.int .u8 0]⟩ := rfl
theorem D_6 : D 6 = ⟨.int .u8, 1, 1, [.int .u8 0]⟩ := rfl
theorem D_7 : D 7 = ⟨.struct [(0, 2), (1, 3), (2, 4), (3, 6)], 4, 24, [.int .i64 0, .int .i64 0, .bool false, .int .u8 0]⟩ := rfl
theorem D_8 : D 8 = ⟨.struct [(0, 2), (1, 3), (2, 4), (3, 6)], 4, 24, [.int .i64 0, .int .i64 0, .bool false, .int .u8 0]⟩ := rfl
theorem D_9 : D 9 = ⟨.str, 1, 16, [.str []]⟩ := rfl
theorem D_10 : D 10 = ⟨.str, 1, 16, [.str []]⟩ := rfl
theorem D_11 : D 11 = ⟨.str, 1, 16, [.str []]⟩ := rfl
theorem D_12 : D 12 = ⟨.int .u64, 1, 8, [.int .u64 0]⟩ := rfl
theorem D_13 : D 13 = ⟨.struct [(0, 9), (1, 12)], 2, 24, [.str [], .int .u64 0]⟩ := rfl
theorem D_14 : D 14 = ⟨.struct [(0, 9), (1, 12)], 2, 24, [.str [], .int .u64 0]⟩ := rfl
theorem D_15 : D 15 = ⟨.ref, 1, 8, [.junk]⟩ := rfl
theorem D_16 : D 16 = ⟨.ref, 1, 8, [.junk]⟩ := rfl
theorem D_17 : D 17 = ⟨.ref, 1, 8, [.junk]⟩ := rfl
theorem D_18 : D 18 = ⟨.struct [(0, 17)], 1, 8, [.junk]⟩ := rfl
theorem D_19 : D 19 = ⟨.struct [(0, 17)], 1, 8, [.junk]⟩ := rfl
theorem D_20 : D 20 = ⟨.iface, 1, 16, [.junk]⟩ := rfl
theorem D_21 : D 21 = ⟨.int .i32, 1, 4, [.int .i32 0]⟩ := rfl
theorem D_22 : D 22 = ⟨.slice 36, 1, 24, [.nils]⟩ := rfl
theorem D_23 : D 23 = ⟨.slice 5, 1, 24, [.nils]⟩ := rfl
theorem D_24 : D 24 = ⟨.struct [(0, 22), (1, 23)], 2, 48, [.nils, .nils]⟩ := rfl
theorem D_25 : D 25 = ⟨.struct [(0, 22), (1, 23)], 2, 48, [.nils, .nils]⟩ := rfl
theorem D_26 : D 26 = ⟨.struct [(0, 3), (1, 9), (2, 3), (3, 25)], 5, 80, [.int .i64 0, .str [], .int .i64 0, .nils, .nils]⟩ := rfl
theorem D_27 : D 27 = ⟨.struct [(0, 3), (1, 9), (2, 3), (3, 25)], 5, 80, [.int .i64 0, .str [], .int .i64 0, .nils, .nils]⟩ := rfl
theorem D_28 : D 28 = ⟨.int .i64, 1, 8, [.int .i64 0]⟩ := rfl
theorem D_29 : D 29 = ⟨.struct [(0, 3), (1, 3), (2, 3), (3, 28), (4, 25)], 6, 80, [.int .i64 0, .int .i64 0, .int .i64 0, .int .i64 0, .nils, .nils]⟩ := rfl
theorem D_30 : D 30 = ⟨.struct [(0, 3), (1, 3), (2, 3), (3, 28), (4, 25)], 6, 80, [.int .i64 0, .int .i64 0, .int .i64 0, .int .i64 0, .nils, .nils]⟩ := rfl
theorem D_32 : D 32 = ⟨.ref, 1, 8, [.junk]⟩ := rfl
theorem D_34 : D 34 = ⟨.ref, 1, 8, [.junk]⟩ := rfl
theorem D_35 : D 35 = ⟨.struct [(0, 9), (1, 3), (2, 3), (3, 9)], 4, 48, [.str [], .int .i64 0, .int .i64 0, .str []]⟩ := rfl
theorem D_36 : D 36 = ⟨.struct [(0, 9), (1, 3), (2, 3), (3, 9)], 4, 48, [.str [], .int .i64 0, .int .i64 0, .str []]⟩ := rfl
theorem D_38 : D 38 = ⟨.ref, 1, 8, [.junk]⟩ := rfl
theorem D_39 : D 39 = ⟨.ref, 1, 8, [.junk]⟩ := rfl
theorem D_40 : D 40 = ⟨.ref, 1, 8, [.junk]⟩ := rfl
theorem D_41 : D 41 = ⟨.ref, 1, 8, [.junk]⟩ := rfl
theorem D_42 : D 42 = ⟨.ref, 1, 8, [.junk]⟩ := rfl
theorem D_43 : D 43 = ⟨.ref, 1, 8, [.junk]⟩ := rfl
theorem D_44 : D 44 = ⟨.ref, 1, 8, [.junk]⟩ := rfl
theorem D_46 : D 46 = ⟨.ref, 1, 8, [.junk]⟩ := rfl
theorem D_47 : D 47 = ⟨.ref, 1, 8, [.junk]⟩ := rfl
theorem D_49 : D 49 = ⟨.ref, 1, 8, [.junk]⟩ := rfl
theorem D_50 : D 50 = ⟨.ref, 1, 8, [.junk]⟩ := rfl
theorem D_51 : D 51 = ⟨.ref, 1, 8, [.junk]⟩ := rfl
theorem D_52 : D 52 = ⟨.ref, 1, 8, [.junk]⟩ := rfl
theorem D_54 : D 54 = ⟨.ref, 1, 8, [.junk]⟩ := rfl
theorem D_55 : D 55 = ⟨.ref, 1, 8, [.junk]⟩ := rfl
theorem D_56 : D 56 = ⟨.slice 27, 1, 24, [.nils]⟩ := rfl
theorem D_58 : D 58 = ⟨.ref, 1, 8, [.junk]⟩ := rfl
theorem D_59 : D 59 = ⟨.slice 30, 1, 24, [.nils]⟩ := rfl
theorem D_61 : D 61 = ⟨.ref, 1, 8, [.junk]⟩ := rfl
theorem D_62 : D 62 = ⟨.ref, 1, 8, [.junk]⟩ := rfl
theorem D_63 : D 63 = ⟨.ref, 1, 8, [.junk]⟩ := rfl
theorem D_64 : D 64 = ⟨.ref, 1, 8, [.junk]⟩ := rfl
theorem D_65 : D 65 = ⟨.ref, 1, 8, [.junk]⟩ := rfl
theorem D_66 : D 66 = ⟨.ref, 1, 8, [.junk]⟩ := rfl
theorem D_67 : D 67 = ⟨.ref, 1, 8, [.junk]⟩ := rfl
theorem D_68 : D 68 = ⟨.ref, 1, 8, [.junk]⟩ := rfl
theorem D_69 : D 69 = ⟨.ref, 1, 8, [.junk]⟩ := rfl
theorem D_70 : D 70 = ⟨.iface, 1, 16, [.junk]⟩ := rfl
theorem D_71 : D 71 = ⟨.iface, 1, 16, [.junk]⟩ := rfl
theorem D_73 : D 73 = ⟨.ref, 1, 8, [.junk]⟩ := rfl
theorem D_74 : D 74 = ⟨.ref, 1, 8, [.junk]⟩ := rfl
theorem D_75 : D 75 = ⟨.ref, 1, 8, [.junk]⟩ := rfl
theorem D_76 : D 76 = ⟨.int .u64, 1, 8, [.int .u64 0]⟩ := rfl
theorem D_78 : D 78 = ⟨.ref, 1, 8, [.junk]⟩ := rfl
theorem D_81 : D 81 = ⟨.ref, 1, 8, [.junk]⟩ := rfl
theorem D_82 : D 82 = ⟨.ref, 1, 8, [.junk]⟩ := rfl
theorem D_83 : D 83 = ⟨.slice 9, 1, 24, [.nils]⟩ := rfl
theorem D_84 : D 84 = ⟨.ref, 1, 8, [.junk]⟩ := rfl
theorem D_85 : D 85 = ⟨.ref, 1, 8, [.junk]⟩ := rfl
theorem D_86 : D 86 = ⟨.ref, 1, 8, [.junk]⟩ := rfl
theorem D_87 : D 87 = ⟨.ref, 1, 8, [.junk]⟩ := rfl
theorem D_89 : D 89 = ⟨.ref, 1, 8, [.junk]⟩ := rfl
theorem D_91 : D 91 = ⟨.ref, 1, 8, [.junk]⟩ := rfl
theorem D_92 : D 92 = ⟨.ref, 1, 8, [.junk]⟩ := rfl
theorem D_94 : D 94 = ⟨.ref, 1, 8, [.junk]⟩ := rfl
theorem D_95 : D 95 = ⟨.ref, 1, 8, [.junk]⟩ := rfl
theorem D_97 : D 97 = ⟨.ref, 1, 8, [.junk]⟩ := rfl
theorem D_98 : D 98 = ⟨.ref, 1, 8, [.junk]⟩ := rfl
theorem D_100 : D 100 = ⟨.ref, 1, 8, [.junk]⟩ := rfl
theorem D_101 : D 101 = ⟨.ref, 1, 8, [.junk]⟩ := rfl
theorem D_103 : D 103 = ⟨.ref, 1, 8, [.junk]⟩ := rfl
theorem D_105 : D 105 = ⟨.ref, 1, 8, [.junk]⟩ := rfl
theorem D_106 : D 106 = ⟨.ref, 1, 8, [.junk]⟩ := rfl
theorem D_108 : D 108 = ⟨.ref, 1, 8, [.junk]⟩ := rfl
theorem D_109 : D 109 = ⟨.ref, 1, 8, [.junk]⟩ := rfl
theorem D_110 : D 110 = ⟨.slice 111, 1, 24, [.nils]⟩ := rfl
theorem D_111 : D 111 = ⟨.ref, 1, 8, [.junk]⟩ := rfl
theorem D_112 : D 112 = ⟨.slice 3, 1, 24, [.nils]⟩ := rfl
theorem D_114 : D 114 = ⟨.ref, 1, 8, [.junk]⟩ := rfl
theorem D_115 : D 115 = ⟨.struct [(0, 46), (1, 42), (2, 49), (3, 44)], 4, 32, [.junk, .junk, .junk, .junk]⟩ := rfl
theorem D_116 : D 116 = ⟨.struct [(0, 46), (1, 42), (2, 49), (3, 44)], 4, 32, [.junk, .junk, .junk, .junk]⟩ := rfl
theorem D_118 : D 118 = ⟨.ref, 1, 8, [.junk]⟩ := rfl
theorem D_119 : D 119 = ⟨.ref, 1, 8, [.junk]⟩ := rfl
theorem D_121 : D 121 = ⟨.ref, 1, 8, [.junk]⟩ := rfl
theorem D_122 : D 122 = ⟨.struct [(0, 121), (1, 23)], 2, 32, [.junk, .nils]⟩ := rfl
theorem D_123 : D 123 = ⟨.struct [(0, 121), (1, 23)], 2, 32, [.junk, .nils]⟩ := rfl
theorem D_124 : D 124 = ⟨.ref, 1, 8, [.junk]⟩ := rfl
theorem D_125 : D 125 = ⟨.ref, 1, 8, [.junk]⟩ := rfl
theorem D_126 : D 126 = ⟨.ref, 1, 8, [.junk]⟩ := rfl
theorem D_127 : D 127 = ⟨.ref, 1, 8, [.junk]⟩ := rfl
theorem D_129 : D 129 = ⟨.ref, 1, 8, [.junk]⟩ := rfl
theorem D_130 : D 130 = ⟨.ref, 1, 8, [.junk]⟩ := rfl
theorem D_131 : D 131 = ⟨.ref, 1, 8, [.junk]⟩ := rfl
theorem D_132 : D 132 = ⟨.ref, 1, 8, [.junk]⟩ := rfl
theorem D_134 : D 134 = ⟨.ref, 1, 8, [.junk]⟩ := rfl
theorem D_135 : D 135 = ⟨.ref, 1, 8, [.junk]⟩ := rfl
theorem D_136 : D 136 = ⟨.ref, 1, 8, [.junk]⟩ := rfl
theorem D_138 : D 138 = ⟨.ref, 1, 8, [.junk]⟩ := rfl
theorem D_139 : D 139 = ⟨.ref, 1, 8, [.junk]⟩ := rfl
theorem D_140 : D 140 = ⟨.ref, 1, 8, [.junk]⟩ := rfl
theorem D_141 : D 141 = ⟨.int .i64, 1, 8, [.int .i64 0]⟩ := rfl
theorem D_143 : D 143 = ⟨.ref, 1, 8, [.junk]⟩ := rfl
theorem D_144 : D 144 = ⟨.ref, 1, 8, [.junk]⟩ := rfl
theorem D_145 : D 145 = ⟨.ref, 1, 8, [.junk]⟩ := rfl
theorem D_146 : D 146 = ⟨.ref, 1, 8, [.junk]⟩ := rfl
theorem D_147 : D 147 = ⟨.ref, 1, 8, [.junk]⟩ := rfl
theorem D_148 : D 148 = ⟨.ref, 1, 8, [.junk]⟩ := rfl
theorem D_149 : D 149 = ⟨.ref, 1, 8, [.junk]⟩ := rfl
theorem D_150 : D 150 = ⟨.ref, 1, 8, [.junk]⟩ := rfl
theorem D_151 : D 151 = ⟨.ref, 1, 8, [.junk]⟩ := rfl
theorem D_152 : D 152 = ⟨.ref, 1, 8, [.junk]⟩ := rfl
theorem D_154 : D 154 = ⟨.ref, 1, 8, [.junk]⟩ := rfl
theorem D_155 : D 155 = ⟨.ref, 1, 8, [.junk]⟩ := rfl
theorem D_156 : D 156 = ⟨.int .u32, 1, 4, [.int .u32 0]⟩ := rfl
theorem D_158 : D 158 = ⟨.ref, 1, 8, [.junk]⟩ := rfl
theorem D_159 : D 159 = ⟨.int .u64, 1, 8, [.int .u64 0]⟩ := rfl
theorem D_161 : D 161 = ⟨.ref, 1, 8, [.junk]⟩ := rfl
theorem D_162 : D 162 = ⟨.ref, 1, 8, [.junk]⟩ := rfl
theorem D_163 : D 163 = ⟨.struct [(0, 9), (1, 9), (2, 71)], 3, 48, [.str [], .str [], .junk]⟩ := rfl
theorem D_164 : D 164 = ⟨.struct [(0, 9), (1, 9), (2, 71)], 3, 48, [.str [], .str [], .junk]⟩ := rfl
theorem D_165 : D 165 = ⟨.ref, 1, 8, [.junk]⟩ := rfl
theorem D_167 : D 167 = ⟨.ref, 1, 8, [.junk]⟩ := rfl
theorem D_168 : D 168 = ⟨.ref, 1, 8, [.junk]⟩ := rfl
theorem D_170 : D 170 = ⟨.ref, 1, 8, [.junk]⟩ := rfl
theorem D_172 : D 172 = ⟨.ref, 1, 8, [.junk]⟩ := rfl
theorem D_173 : D 173 = ⟨.ref, 1, 8, [.junk]⟩ := rfl
theorem D_175 : D 175 = ⟨.ref, 1, 8, [.junk]⟩ := rfl
theorem D_176 : D 176 = ⟨.ref, 1, 8, [.junk]⟩ := rfl
theorem D_177 : D 177 = ⟨.ref, 1, 8, [.junk]⟩ := rfl
theorem D_178 : D 178 = ⟨.ref, 1, 8, [.junk]⟩ := rfl
theorem D_179 : D 179 = ⟨.struct [(0, 9)], 1, 16, [.str []]⟩ := rfl
theorem D_180 : D 180 = ⟨.struct [(0, 9)], 1, 16, [.str []]⟩ := rfl
theorem D_181 : D 181 = ⟨.ref, 1, 8, [.junk]⟩ := rfl
theorem D_182 : D 182 = ⟨.ref, 1, 8, [.junk]⟩ := rfl
theorem D_185 : D 185 = ⟨.ref, 1, 8, [.junk]⟩ := rfl
theorem D_186 : D 186 = ⟨.ref, 1, 8, [.junk]⟩ := rfl
theorem D_187 : D 187 = ⟨.ref, 1, 8, [.junk]⟩ := rfl
theorem D_188 : D 188 = ⟨.struct [(0, 23), (1, 4)], 2, 32, [.nils, .bool false]⟩ := rfl
theorem D_189 : D 189 = ⟨.struct [(0, 23), (1, 4)], 2, 32, [.nils, .bool false]⟩ := rfl
theorem D_190 : D 190 = ⟨.ref, 1, 8, [.junk]⟩ := rfl
theorem D_191 : D 191 = ⟨.ref, 1, 8, [.junk]⟩ := rfl
theorem D_193 : D 193 = ⟨.ref, 1, 8, [.junk]⟩ := rfl
theorem D_195 : D 195 = ⟨.struct [(0, 5), (1, 5)], 2, 2, [.int .u8 0, .int .u8 0]⟩ := rfl
theorem D_196 : D 196 = ⟨.struct [(0, 5), (1, 5)], 2, 2, [.int .u8 0, .int .u8 0]⟩ := rfl
theorem D_200 : D 200 = ⟨.struct [(0, 17), (1, 17), (2, 17), (3, 9)], 4, 40, [.junk, .junk, .junk, .str []]⟩ := rfl
theorem D_201 : D 201 = ⟨.struct [(0, 17), (1, 17), (2, 17), (3, 9)], 4, 40, [.junk, .junk, .junk, .str []]⟩ := rfl
theorem D_205 : D 205 = ⟨.ref, 1, 8, [.junk]⟩ := rfl
theorem D_206 : D 206 = ⟨.int .u8, 1, 1, [.int .u8 0]⟩ := rfl
theorem D_207 : D 207 = ⟨.int .u8, 1, 1, [.int .u8 0]⟩ := rfl
theorem D_208 : D 208 = ⟨.ref, 1, 8, [.junk]⟩ := rfl
theorem D_209 : D 209 = ⟨.int .i32, 1, 4, [.int .i32 0]⟩ := rfl
theorem D_210 : D 210 = ⟨.int .i32, 1, 4, [.int .i32 0]⟩ := rfl
theorem D_211 : D 211 = ⟨.struct [(0, 12), (1, 12), (2, 156), (3, 206), (4, 5), (5, 5), (6, 207), (7, 208), (8, 149), (9, 209), (10, 210)], 11, 48, [.int .u64 0, .int .u64 0, .int .u32 0, .int .u8 0, .int .u8 0, .int .u8 0, .int .u8 0, .junk, .junk, .int .i32 0, .int .i32 0]⟩ := rfl
theorem D_212 : D 212 = ⟨.struct [(0, 12), (1, 12), (2, 156), (3, 206), (4, 5), (5, 5), (6, 207), (7, 208), (8, 149), (9, 209), (10, 210)], 11, 48, [.int .u64 0, .int .u64 0, .int .u32 0, .int .u8 0, .int .u8 0, .int .u8 0, .int .u8 0, .junk, .junk, .int .i32 0, .int .i32 0]⟩ := rfl
theorem get_mem {α : Type} {n : Nat} {x : α} : ∀ {l : List (Nat × α)}, get n l = some x → (n, x) ∈ l
  | [], h => by simp [get] at h
  | (k, y) :: r, h => by
    simp only [get] at h
    split at h
    · rename_i e; subst e; cases h; exact List.mem_cons_self ..
    · exact List.mem_cons_of_mem _ (get_mem h)
theorem tyTab_ok : tyTab.all (fun p => tyB Tryz.prog D p.1 p.2) = true := by kernel_rfl
theorem tok : TOk Tryz.prog D := by
  intro T
  unfold D
  cases h : get T tyTab with
  | none => rfl
  | some d => exact List.all_eq_true.1 tyTab_ok _ (get_mem h)
theorem mixed : Tryz.prog.follows .mixedOrders = true := by kernel_rfl
end Go.Proofs.YtmlejhpeoiicpaaGreatDoor.Ab
namespace Go.Proofs.YtmlejhpeoiicpaaGreatDoor.Ab
open Go Go.RowKit
set_option linter.unusedVariables false
set_option linter.unusedSimpArgs false

/-- a row of the table of contracts: called with what an x spells, it answers F x -/
structure Ent (P : Program) (D : Nat → TI) where
  f : Nat
  X : Type
  e : X → List AV
  ok : X → Prop
  F : X → Res
  inj : ∀ x y, ok x → ok y → e x = e y → F x = F y
  con : ∀ x, ok x → Con P D f (e x) (F x)
section
variable {P : Program} {D : Nat → TI}
open Classical in
noncomputable def Ent.ctr (E : Ent P D) (args : List AV) : Option Res := if h : ∃ x, E.ok x ∧ E.e x = args then some (E.F h.choose) else none
open Classical in
noncomputable def tabG : List (Ent P D) → Ctr
  | [], _, _ => none
  | E :: r, f, args => if f = E.f then (match E.ctr args with | some x => some x | none => tabG r f args) else tabG r f args
theorem Ent.hit (E : Ent P D) (x : E.X) (h : E.ok x) : E.ctr (E.e x) = some (E.F x) := by
  unfold Ent.ctr
  have hex : ∃ y, E.ok y ∧ E.e y = E.e x := ⟨x, h, rfl⟩
  rw [dif_pos hex]
  have := hex.choose_spec
  rw [E.inj _ _ this.1 h this.2]
theorem Ent.sound (E : Ent P D) {args : List AV} {r : Res} (h : E.ctr args = some r) : Con P D E.f args r := by
  unfold Ent.ctr at h
  split at h
  · rename_i hex
    have := hex.choose_spec
    cases h
    have hc := E.con _ this.1
    rw [this.2] at hc
    exact hc
  · cases h
theorem tabG_ok : ∀ (T : List (Ent P D)), GOk P D (tabG T)
  | [], f, args, r, h => by simp [tabG] at h
  | E :: T, f, args, r, h => by
    rw [tabG] at h
    split at h
    · rename_i e
      split at h
      · rename_i x hx
        cases h
        rw [e]
        exact E.sound hx
      · exact tabG_ok T f args r h
    · exact tabG_ok T f args r h
theorem tabG_hit {E : Ent P D} {T : List (Ent P D)} {f : Nat} {args : List AV} {r : Res} (hf : f = E.f) (x : E.X) (h : E.ok x) (ha : E.e x = args) (hr : E.F x = r) : tabG (E :: T) f args = some r := by
  rw [tabG, if_pos hf, ← ha, E.hit x h, ← hr]
theorem tabG_skip {E : Ent P D} {T : List (Ent P D)} {f : Nat} {args : List AV} {r : Res} (hf : f ≠ E.f) (h : tabG T f args = some r) : tabG (E :: T) f args = some r := by
  rw [tabG, if_neg hf]
  exact h
end

theorem tabG_at {P : Program} {D : Nat → TI} {E : Ent P D} : ∀ {T : List (Ent P D)} {i : Nat}, T[i]? = some E → ((T.take i).map (·.f)).all (fun g => !(E.f == g)) = true → ∀ (x : E.X), E.ok x → ∀ {args : List AV} {r : Res}, E.e x = args → E.F x = r → tabG T E.f args = some r
  | [], i, h, _, _, _, _, _, _, _ => by simp at h
  | E' :: T, 0, h, _, x, hx, args, r, ha, hr => by
    simp at h
    subst h
    exact tabG_hit rfl x hx ha hr
  | E' :: T, i + 1, h, hn, x, hx, args, r, ha, hr => by
    simp only [List.take_succ_cons, List.map_cons, List.all_cons, Bool.and_eq_true, Bool.not_eq_true', beq_eq_false_iff_ne] at hn
    exact tabG_skip hn.1 (tabG_at (by simpa using h) hn.2 x hx ha hr)
/-! bytes -/
theorem bytesOf_map (l : List UInt8) : bytesOf (l.map byteRow) = l := by
  unfold bytesOf
  rw [List.map_map]
  conv => rhs; rw [← List.map_id l]
  exact List.map_congr_left fun b _ => by simp [byteRow]
theorem isB_map (l : List UInt8) : isB (l.map byteRow) := by unfold isB; rw [bytesOf_map]
theorem bytes_inj {l m : List UInt8} (h : l.map byteRow = m.map byteRow) : l = m := by
  have := congrArg bytesOf h
  rwa [bytesOf_map, bytesOf_map] at this

section
variable {w : World} {im : Nat → Prop} {ρ : Env}
theorem rel_bytes {l : List UInt8} {v : Value} (h : Rel w im ρ (.sl 1 (l.map byteRow)) v) : ∃ A c, v = .slice A l.length c ∧ l.length ≤ c ∧ c ≤ maxLen ∧ RBytes w im A l := by
  generalize hrs : l.map byteRow = rs at h
  cases h with
  | sl sz rs A c b o val hc hm hA hrow hcell hval =>
  subst hrs
  rw [List.length_map] at hc hA ⊢
  refine ⟨A, c, rfl, hc, hm, by simp, fun hn => ?_⟩
  obtain ⟨h1, h2⟩ := hA hn
  refine ⟨b, o, h1, h2, fun j u hu => ?_⟩
  rw [List.getElem?_map] at hu
  obtain ⟨x, hx, rfl⟩ := Option.map_eq_some_iff.1 hu
  have hr : (l.map byteRow)[j]? = some (byteRow x) := by rw [List.getElem?_map, hx]; rfl
  have h3 := hcell j 0 _ (.int .u8 x.toNat) hr rfl
  have h4 := (hval j 0 _ (.int .u8 x.toNat) hr rfl).int_
  rw [h4] at h3
  simpa [byteV] using h3.1
theorem bytes_rel {A : Option Addr} {c : Nat} {l : List UInt8} (hc : l.length ≤ c) (hm : c ≤ maxLen) (h : RBytes w im A l) : Rel w im ρ (.sl 1 (l.map byteRow)) (.slice A l.length c) := by
  by_cases hn : 0 < l.length
  · obtain ⟨b, o, hA, hb, hcell⟩ := h.2 hn
    have := Rel.sl (w := w) (im := im) (ρ := ρ) 1 (l.map byteRow) A c b o (fun i _ => byteV (l.getD i 0)) (by simpa using hc) hm (fun _ => ⟨hA, hb⟩) (fun i row hi => ?_) (fun i j row x hi hj => ?_) (fun i j row x hi hj => ?_)
    · rw [List.length_map] at this; exact this
    · rw [List.getElem?_map] at hi
      obtain ⟨y, _, rfl⟩ := Option.map_eq_some_iff.1 hi
      rfl
    · rw [List.getElem?_map] at hi
      obtain ⟨y, hy, rfl⟩ := Option.map_eq_some_iff.1 hi
      have hj0 : j = 0 := by have := (List.getElem?_eq_some_iff.1 hj).1; simp [byteRow] at this; exact this
      subst hj0
      simp [byteRow] at hj
      subst hj
      have hg : l.getD i 0 = y := by simp [hy]
      simp only [hg]
      refine ⟨?_, rfl, by simp [names]⟩
      have := hcell i (byteV y) (by rw [List.getElem?_map, hy]; rfl)
      simpa using this
    · rw [List.getElem?_map] at hi
      obtain ⟨y, hy, rfl⟩ := Option.map_eq_some_iff.1 hi
      have hj0 : j = 0 := by have := (List.getElem?_eq_some_iff.1 hj).1; simp [byteRow] at this; exact this
      subst hj0
      simp [byteRow] at hj
      subst hj
      have hg : l.getD i 0 = y := by simp [hy]
      simp only [hg]
      exact .int _ _
  · have h0 : l = [] := List.eq_nil_of_length_eq_zero (by omega)
    subst h0
    exact .sl 1 [] A c 0 0 (fun _ _ => .nilIface) hc hm (fun h => absurd h (by simp)) (by simp) (by simp) (by simp)
end

/-- from an elder contract: what it answers is new, or read -/
theorem con_below {P : Program} {D : Nat → TI} {f : Nat} {fn : Func} {args : List AV} {v0 : AV} (hf : P.funcs[f]? = some fn) (hname : (fn.name == "runtime.NumGoroutine") = false) (hbody : fn.body.isNone = false) (hn : names v0 = [])
    (h : ∀ (w : World) (im : Nat → Prop) (ρ : Env) (vs : Array Value), (∀ b, im b → b < w.heap.size) → Rels w im ρ args vs.toList →
      Calls P f vs w fun e w' => ∃ v, e = .returned v ∧ Below w.heap.size w w' ∧ Rel w' (fun b => b < w'.heap.size ∧ (im b ∨ w.heap.size ≤ b)) ρ v0 v) : Con P D f args ⟨v0, []⟩ := by
  refine ⟨⟨fn, hf, hname, hbody⟩, fun w im ρ vs him hvs => (h w im ρ vs him.1 hvs).mono fun e w' ⟨v, he, hb, hr⟩ => ⟨v, he, ⟨hb.os, hb.tape, hb.output, hb.size, fun b hlt _ => hb.block b hlt⟩, ρ, ?_, ?_, ?_, ?_⟩⟩
  · intro k e sz rs hk; simp at hk
  · intro k l b hk; simp at hk
  · exact hr.mono (fun b hb => ⟨hb.1, hb.2, fun m hm => by simp at hm⟩) (fun _ _ => rfl) (fun _ _ => rfl)
  · intro n hn'; rw [hn] at hn'; cases hn'
theorem rels_one {w : World} {im : Nat → Prop} {ρ : Env} {x : AV} {vs : Array Value} (h : Rels w im ρ [x] vs.toList) : ∃ v, vs = #[v] ∧ Rel w im ρ x v := by
  obtain ⟨vs⟩ := vs
  obtain ⟨h1, h2⟩ := h
  match vs, h1 with
  | [v], _ => exact ⟨v, rfl, h2 0 x v rfl rfl⟩
theorem rels_two {w : World} {im : Nat → Prop} {ρ : Env} {x y : AV} {vs : Array Value} (h : Rels w im ρ [x, y] vs.toList) : ∃ v u, vs = #[v, u] ∧ Rel w im ρ x v ∧ Rel w im ρ y u := by
  obtain ⟨vs⟩ := vs
  obtain ⟨h1, h2⟩ := h
  match vs, h1 with
  | [v, u], _ => exact ⟨v, u, rfl, h2 0 x v rfl rfl, h2 1 y u rfl rfl⟩
theorem rel_agg2 {w : World} {im : Nat → Prop} {ρ : Env} {x y : AV} {v : Value} (h : Rel w im ρ (.agg [x, y]) v) : ∃ a b, v = .agg #[a, b] ∧ (a.oneCell' = true ∧ Rel w im ρ x a) ∧ b.oneCell' = true ∧ Rel w im ρ y b := by
  cases h with
  | agg cs vs hl h1 hval =>
  obtain ⟨vs⟩ := vs
  match vs, hl with
  | [a, b], _ => exact ⟨a, b, rfl, ⟨h1 0 a rfl, hval 0 x a rfl rfl⟩, h1 1 b rfl, hval 1 y b rfl rfl⟩
theorem tup2_rel {w : World} {im : Nat → Prop} {ρ : Env} {x y : AV} {a b : Value} (hx : Rel w im ρ x a) (hy : Rel w im ρ y b) : Rel w im ρ (.tup [x, y]) (.tuple #[a, b]) := by
  refine .tup [x, y] #[a, b] rfl (fun i z v hz hv => ?_)
  match i with
  | 0 => simp at hz hv; subst hz hv; exact hx
  | 1 => simp at hz hv; subst hz hv; exact hy
  | i + 2 => simp at hv

theorem wk_of {X : Cx} {D : Nat → TI} {R : Prop} (hD : X.D = D ∧ R) (rl : List (Nat × Nat)) {σ σ' : AS} (h1 : σ'.nt = σ.nt) (h2 : nodupV rl = true) (h3 : covT σ (keys σ'.bl) rl σ'.tm) (h4 : covB D σ (keys σ'.bl) rl σ'.bl) : Wk X σ σ' := by
  obtain ⟨rfl, _⟩ := hD
  exact Wk.cover rl ⟨h1, h2, h3, h4⟩
/-! the evaluation -/
/-- a branch, not taken yet -/
structure condK (X : Cx) (lo : Nat → Lo) (v : AV) (x y : Code) (Q : Exit → AS → Prop) (σ : AS) : Prop where
  h : condW v (evC X lo x Q σ) (evC X lo y Q σ)
section
variable {X : Cx} {lo : Nat → Lo} {Q : Exit → AS → Prop} {σ : AS}
theorem evC_cond {c : Operand} {x y : Code} : evC X lo (.cond c x y) Q σ = condK X lo (ev σ c) x y Q σ := propext ⟨fun h => ⟨h⟩, fun h => h.h⟩
theorem evC_skip : evC X lo .skip Q σ = Q .normal σ := rfl
theorem evC_text {id : Nat} {ops : Array Oper} : evC X lo (.region id ops false) Q σ = if (lo id).hand = true then Tr X (.region id ops false) Q σ else if hasG ops.toList = true then RegT X ops (Q .normal) σ else regW X [] ops ops.toList (Q .normal) σ := rfl
theorem evC_any {id : Nat} {ops : Array Oper} : evC X lo (.region id ops true) Q σ = if (lo id).hand = true then Tr X (.region id ops true) Q σ else if hasG ops.toList = true then RegA X (lo id) ops (Q .normal) σ else indep ops (lo id) = true ∧ regP X [] ops (lo id) (pairs 0 ops.toList) (Q .normal) σ := rfl
theorem evC_seq {a b : Code} : evC X lo (.seq a b) Q σ = evC X lo a (thenA (evC X lo b Q) Q) σ := rfl
theorem evC_block {id : Nat} {c : Code} : evC X lo (.block id c) Q σ = evC X lo c (inB id Q) σ := rfl
theorem evC_loop {c : Code} : evC X lo (.loop c) Q σ = Tr X (.loop c) Q σ := rfl
theorem evC_exit {id : Nat} : evC X lo (.exit id) Q σ = Q (.exit id) σ := rfl
theorem evC_ret : evC X lo .ret Q σ = Q .ret σ := rfl
theorem evC_label {l : Nat} : evC X lo (.label l) Q σ = Q .normal σ := rfl
theorem condK_true {x y : Code} : condK X lo (.bool true) x y Q σ = evC X lo x Q σ := propext ⟨fun h => h.h.1 rfl, fun h => ⟨⟨fun _ => h, fun h => (by cases h)⟩⟩⟩
theorem condK_false {x y : Code} : condK X lo (.bool false) x y Q σ = evC X lo y Q σ := propext ⟨fun h => h.h.2 rfl, fun h => ⟨⟨fun h => (by cases h), fun _ => h⟩⟩⟩
theorem condK_split {t : Bool} {x y : Code} (h1 : t = true → evC X lo x Q σ) (h2 : t = false → evC X lo y Q σ) : condK X lo (.bool t) x y Q σ := ⟨⟨h1, h2⟩⟩
theorem thenA_normal {n : AS → Prop} : thenA n Q .normal σ = n σ := rfl
theorem thenA_ret {n : AS → Prop} : thenA n Q .ret σ = Q .ret σ := rfl
theorem thenA_exit {n : AS → Prop} {id : Nat} : thenA n Q (.exit id) σ = Q (.exit id) σ := rfl
theorem thenA_normal' {n : AS → Prop} : thenA n Q .normal = n := rfl
theorem inB_normal {id : Nat} : inB id Q .normal σ = Q .normal σ := rfl
theorem inB_normal' {id : Nat} : inB id Q .normal = Q .normal := rfl
theorem inB_ret {id : Nat} : inB id Q .ret σ = Q .ret σ := rfl
theorem inB_exit {id id' : Nat} : inB id Q (.exit id') σ = if id' = id then Q .normal σ else Q (.exit id') σ := rfl
end
section
variable {X : Cx} {off : List (Nat × Bool)} {ops : Array Oper} {lo : Lo} {σ : AS} {Q : AS → Prop}
def stepI (e : Option Eff) (σ : AS) (dst : Option Nat) (I : Prop) (K : AS → Prop) : Prop := match e with
  | none => I
  | some e => (fresh σ dst e = true ∧ e.pre) ∧ K (apply σ dst e)
theorem regW_nil : regW X off ops [] Q σ = Q σ := rfl
theorem regW_cons {o : Oper} {r : List Oper} : regW X off ops (o :: r) Q σ = stepI (opEff X.D X.G X.M X.nb off ops σ o) σ o.dst (InlOp X ops o σ (regW X off ops r Q)) (regW X off ops r Q) := by
  rw [regW]; cases opEff X.D X.G X.M X.nb off ops σ o <;> rfl
theorem stepI_some {e : Eff} {dst : Option Nat} {I : Prop} {K : AS → Prop} : stepI (some e) σ dst I K = ((fresh σ dst e = true ∧ e.pre) ∧ K (apply σ dst e)) := rfl
theorem stepI_none {dst : Option Nat} {I : Prop} {K : AS → Prop} : stepI none σ dst I K = I := rfl
def stepP (e : Option Eff) (lo : Lo) (σ : AS) (i : Nat) (o : Oper) (I : Prop) (K : AS → Prop) : Prop := match e with
  | none => mem i lo.lo = true ∧ I
  | some e => ((fresh σ o.dst e = true ∧ e.pre) ∧ still lo σ i o e = true) ∧ K (apply σ o.dst e)
theorem regP_nil : regP X off ops lo [] Q σ = Q σ := rfl
theorem regP_step {i : Nat} {o : Oper} {r : List (Nat × Oper)} : regP X off ops lo ((i, o) :: r) Q σ = stepP (opEff X.D X.G X.M X.nb off ops σ o) lo σ i o (InlOp X ops o σ (regP X off ops lo r Q)) (regP X off ops lo r Q) := by
  rw [regP]; cases opEff X.D X.G X.M X.nb off ops σ o <;> rfl
theorem stepP_some {e : Eff} {i : Nat} {o : Oper} {I : Prop} {K : AS → Prop} : stepP (some e) lo σ i o I K = (((fresh σ o.dst e = true ∧ e.pre) ∧ still lo σ i o e = true) ∧ K (apply σ o.dst e)) := rfl
theorem stepP_none {i : Nat} {o : Oper} {I : Prop} {K : AS → Prop} : stepP none lo σ i o I K = (mem i lo.lo = true ∧ I) := rfl
end
theorem wrap64 {x : Int} (h1 : -9223372036854775808 ≤ x) (h2 : x < 9223372036854775808) : IntKind.wrap .i64 x = x := IntWalk.i64_in x ⟨h1, by omega⟩
theorem byteGet {l : List UInt8} {i : Nat} (h : i < l.length) : (l.map byteRow).getD i [] = [.int .u8 (l.getD i 0).toNat] := by
  rw [List.getD_eq_getElem?_getD, List.getElem?_map, List.getD_eq_getElem?_getD]
  simp [h, byteRow]
theorem freeze_nil {σ : AS} : freeze σ [] = σ := rfl
theorem freeze_cons {σ : AS} {n : Nat} {ns : List Nat} : freeze σ (n :: ns) = { nt := σ.nt, tm := mapT (fz (n :: ns) (blk σ)) σ.tm, bl := gone (n :: ns) ++ mapB (fz (n :: ns) (blk σ)) σ.bl } := rfl
theorem kill_nil {σ : AS} : kill σ [] = σ := rfl
theorem kill_cons {σ : AS} {n : Nat} {ns : List Nat} : kill σ (n :: ns) = { nt := σ.nt, tm := mapT (kl (n :: ns)) σ.tm, bl := gone (n :: ns) ++ mapB (kl (n :: ns)) σ.bl } := rfl
theorem osIn_nil : osIn [] = [] := by simp [osIn]
section
variable {r : List AV}
theorem osIn_junk : osIn (.junk :: r) = osIn r := by simp [osIn]
theorem osIn_int {k n} : osIn (.int k n :: r) = osIn r := by simp [osIn]
theorem osIn_bool {b} : osIn (.bool b :: r) = osIn r := by simp [osIn]
theorem osIn_str {l} : osIn (.str l :: r) = osIn r := by simp [osIn]
theorem osIn_nils : osIn (.nils :: r) = osIn r := by simp [osIn]
theorem osIn_sl {sz rs} : osIn (.sl sz rs :: r) = osIn r := by simp [osIn]
theorem osIn_os {t} : osIn (.os t :: r) = t :: osIn r := by simp [osIn]
theorem osIn_ptr {v o} : osIn (.ptr v o :: r) = osIn r := by simp [osIn]
theorem osIn_iptr {cs} : osIn (.iptr cs :: r) = osIn r := by simp [osIn]
theorem osIn_eptr {t i o} : osIn (.eptr t i o :: r) = osIn r := by simp [osIn]
theorem osIn_lsl {n} : osIn (.lsl n :: r) = osIn r := by simp [osIn]
theorem osIn_nilp : osIn (.nilp :: r) = osIn r := by simp [osIn]
theorem osIn_ifc {b} : osIn (.ifc b :: r) = osIn r := by simp [osIn]
theorem osIn_tsl {t i} : osIn (.tsl t i :: r) = osIn r := by simp [osIn]
theorem osIn_psl {t i} : osIn (.psl t i :: r) = osIn r := by simp [osIn]
theorem osIn_imap {es} : osIn (.imap es :: r) = osIn r := by simp [osIn]
theorem osIn_func {f cs} : osIn (.func f cs :: r) = osIn r := by simp [osIn]
theorem osIn_agg {cs} : osIn (.agg cs :: r) = osIn cs ++ osIn r := by simp [osIn]
theorem osIn_tup {cs} : osIn (.tup cs :: r) = osIn r := by simp [osIn]
theorem osIn_opt {g v} : osIn (.opt g v :: r) = osIn r := by simp [osIn]
end
theorem range1 : List.range 1 = [0] := rfl
theorem range2 : List.range 2 = [0, 1] := rfl
theorem range3 : List.range 3 = [0, 1, 2] := rfl
theorem range4 : List.range 4 = [0, 1, 2, 3] := rfl
theorem range5 : List.range 5 = [0, 1, 2, 3, 4] := rfl
theorem range6 : List.range 6 = [0, 1, 2, 3, 4, 5] := rfl
theorem range7 : List.range 7 = [0, 1, 2, 3, 4, 5, 6] := rfl
theorem range8 : List.range 8 = [0, 1, 2, 3, 4, 5, 6, 7] := rfl
end Go.Proofs.YtmlejhpeoiicpaaGreatDoor.Ab
namespace Go.Proofs.YtmlejhpeoiicpaaGreatDoor.Ab
open Go Go.RowKit
set_option linter.unusedVariables false
set_option linter.unusedSimpArgs false

theorem tabG_use {P : Program} {D : Nat → TI} {E : Ent P D} {T : List (Ent P D)} {i : Nat} (h : T[i]? = some E) (hn : ((T.take i).map (·.f)).all (fun g => !(E.f == g)) = true) (x : E.X) (hx : E.ok x) : tabG T E.f (E.e x) = some (E.F x) := tabG_at h hn x hx rfl rfl
def ρ0 : Env := fun _ => ⟨none, none, 0, 0, 0, fun _ => none⟩
theorem law_true {P : Program} {D : Nat → TI} {f : Nat} {args : List AV} {vs : Array Value} {W : World} (h : Con P D f args ⟨.bool true, []⟩) (hr : Rels W (· < W.heap.size) ρ0 args vs.toList) (hgl : ∀ b ∈ gL, b < W.heap.size := by intro b hb; cases hb) (hgi : GI W := by trivial) :
    Calls P f vs W fun e W' => e = .returned (.bool true) ∧ Below W.heap.size W W' := by
  refine (h.2 W (· < W.heap.size) ρ0 vs ⟨fun b hb => hb, hgl, hgi⟩ hr).mono fun e W' ⟨v, he, hf, ρo, _, _, hrel, _⟩ => ?_
  rw [hrel.bool_] at he
  exact ⟨he, hf.os, hf.tape, hf.output, hf.size, fun b hb => hf.block b hb (fun h => h)⟩
theorem rels_nil {w : World} {im : Nat → Prop} {ρ : Env} : Rels w im ρ [] [] := ⟨rfl, fun i x v h => by simp at h⟩
theorem rels_cons {w : World} {im : Nat → Prop} {ρ : Env} {x : AV} {v : Value} {xs : List AV} {vs : List Value} (h : Rel w im ρ x v) (k : Rels w im ρ xs vs) : Rels w im ρ (x :: xs) (v :: vs) := by
  refine ⟨by simp [k.1], fun i y u hy hu => ?_⟩
  cases i with
  | zero => simp at hy hu; subst hy hu; exact h
  | succ i => simp at hy hu; exact k.2 i y u hy hu
end Go.Proofs.YtmlejhpeoiicpaaGreatDoor.Ab
namespace Go.Proofs.YtmlejhpeoiicpaaGreatDoor.Ab
open Go
set_option linter.unusedVariables false
set_option linter.unusedSimpArgs false

section
variable {X : Cx} {off : List (Nat × Bool)} {ops : Array Oper} {γ : Nat → Value} {Qx : Exit → Act → World → Prop}
/-- a part of a region, in the text's order -/
theorem regW_part (hX : X.Ok) {Q : AS → Prop} {rest : List Nat} (hfin : ∀ σ a w, Q σ → X.St γ σ a w → wpOps X.P ops Qx rest a w) :
    ∀ (r : List Oper) (k : Nat) (σ : AS) (a : Act) (w : World), (∀ j o, r[j]? = some o → ops[k + j]? = some o) → X.St γ σ a w → regW X off ops r Q σ → wpOps X.P ops Qx (List.range' k r.length ++ rest) a w
  | [], k, σ, a, w, _, hst, hr => by simpa using hfin σ a w hr hst
  | o :: r, k, σ, a, w, hl, hst, hr => by
    rw [List.length_cons, List.range'_succ, List.cons_append, wpOps_cons]
    have ho : ops[k]? = some o := hl 0 o rfl
    have hl' : ∀ j o', r[j]? = some o' → ops[k + 1 + j]? = some o' := fun j o' hj => by
      have := hl (j + 1) o' (by simpa using hj)
      rwa [show k + (j + 1) = k + 1 + j by omega] at this
    rw [regW] at hr
    obtain ⟨ρ, hst0⟩ := hst
    cases he : opEff X.D X.G X.M X.nb off ops σ o with
    | none =>
      rw [he] at hr
      exact wpOp_mono (fun a' w' ⟨σ', h4, h5⟩ => regW_part hX hfin r (k + 1) σ' a' w' hl' h5 h4) (hr.1 γ a w k Qx ho ⟨ρ, hst0⟩)
    | some e =>
      rw [he] at hr
      exact wpOp_mono (fun a' w' h5 => regW_part hX hfin r (k + 1) _ a' w' hl' h5 hr.2) (op_sound hX.types hX.calls hst0 ho he hr.1.1 hr.1.2 fun hg hm => wpOp_mono (fun a' w' ⟨σ', e1, e2⟩ => e2.congr e1.symm) ((hX.mok ops _ σ e hg hm hr.1.2 hr.1.1).1 γ a w k Qx ho ⟨ρ, hst0⟩))
theorem range_parts (n k : Nat) (h : k ≤ n) : List.range n = List.range' 0 k ++ List.range' k (n - k) := by
  rw [List.range_eq_range']
  have := List.range'_append (s := 0) (m := k) (n := n - k) (step := 1)
  simp only [Nat.mul_one, Nat.one_mul, Nat.zero_add] at this
  rw [this, show k + (n - k) = n by omega]
/-- a region, parted behind its first k operations -/
theorem Tr.split (hX : X.Ok) {id : Nat} {Q : Exit → AS → Prop} {σ : AS} (k : Nat) (hk : k ≤ ops.size) (h : regW X [] ops (ops.toList.take k) (fun σ1 => ∃ σ2, Wk X σ1 σ2 ∧ regW X [] ops (ops.toList.drop k) (Q .normal) σ2) σ) : Tr X (.region id ops false) Q σ := by
  intro γ a w hs
  refine wp_region ?_
  rw [range_parts ops.size k hk]
  have hlt : (ops.toList.take k).length = k := by simp; omega
  have hld : (ops.toList.drop k).length = ops.size - k := by simp
  rw [← hlt]
  refine regW_part hX (rest := List.range' (ops.toList.take k).length (ops.size - (ops.toList.take k).length)) (fun σ1 a1 w1 ⟨σ2, hw, hr⟩ hst => ?_) _ 0 σ a w (fun j o hj => ?_) hs h
  · rw [List.getElem?_take] at hj
    split at hj
    · simpa using hj
    · cases hj
  · rw [hlt, ← hld]
    exact regW_sound hX (fun σ' a' w' h1 h2 => ⟨σ', h1, h2⟩) _ k σ2 a1 w1 (fun j => by simp) (hw γ a1 w1 hst) hr

/-- what writes an entry of a map's literal -/
def LitOp (T d : Nat) (k v : Value) (o : Oper) : Prop := ∃ ko vo, o.op = .insert T (.tmp d) ko vo ∧ o.dst = none ∧ o.guard = none ∧ (∀ a : Act, a.eval ko = k) ∧ ∀ a : Act, a.eval vo = v
def litArr : Nat → List (Value × Value) → List MapEntry
  | _, [] => []
  | n, (k, v) :: r => ⟨k, v, n⟩ :: litArr (n + 1) r
/-- the keys are new, one by one -/
def litNew (dk : TypeDesc) : List MapEntry → List (Value × Value) → Prop
  | _, [] => True
  | es, (k, v) :: r => MapKept.IsKey dk k ∧ Instr.findNow dk k es 0 = some none ∧ litNew dk (es ++ [⟨k, v, es.length⟩]) r
theorem litArr_map : ∀ (l : List (Value × Value)) (n : Nat), (litArr n l).map (fun e => (e.key, e.val)) = l
  | [], _ => rfl
  | (k, v) :: r, n => by simp [litArr, litArr_map r]
theorem litArr_app : ∀ (l : List (Value × Value)) (n : Nat) (k v : Value), litArr n (l ++ [(k, v)]) = litArr n l ++ [⟨k, v, n + l.length⟩]
  | [], _, _, _ => rfl
  | (k', v') :: r, n, k, v => by simp only [List.cons_append, litArr, litArr_app r, List.length_cons]; congr 4; omega
theorem litArr_len : ∀ (l : List (Value × Value)) (n : Nat), (litArr n l).length = l.length
  | [], _ => rfl
  | (k, v) :: r, n => by simp [litArr, litArr_len r]
theorem wpOp_plain {o : Oper} {i : Nat} {a : Act} {w : World} {K : Act → World → Prop} (ho : ops[i]? = some o) (hg : o.guard = none) (h : o.wp X.P a w K Qx) : wpOp X.P ops Qx i K a w := by
  unfold wpOp
  simp only [ho]
  rw [if_pos (by simp [Region.wanted, hg])]
  exact .inl h
theorem wp_of_skip {o : Oper} {P : Program} {a : Act} {w w' : World} {K : Act → World → Prop} {s : Sem Unit} (hex : execOp a.eval o = (do s; pure .skip)) (hd : o.dst = none) (hrun : s.run P w = .ok () w') (hk : K a w') : o.wp P a w K Qx := by
  unfold Oper.wp
  rw [hex]
  simp only [Sem.run_bind, hrun, Result.andThen_ok, Sem.run_pure, Oper.upon, hd]
  exact hk
/-- what is found: z, where there is none -/
def lookV (dk : TypeDesc) (k z : Value) : List (Value × Value) → Option Value
  | [] => some z
  | (k', v) :: r => match Instr.sameNow dk k k' with
    | some true => some v
    | some false => lookV dk k z r
    | none => none
theorem lookV_find {dk : TypeDesc} {k z v : Value} : ∀ {es : List (Value × Value)} {arr : List MapEntry} {i : Nat}, lookV dk k z es = some v → arr.map (fun e => (e.key, e.val)) = es → ∃ f, Instr.findNow dk k arr i = some f ∧ (f.map (·.2)).getD z = v
  | [], arr, i, h, ha => by
    have : arr = [] := by simpa using ha
    subst this
    cases h
    exact ⟨none, rfl, rfl⟩
  | (k', v') :: r, [], i, h, ha => by cases ha
  | (k', v') :: r, e :: arr, i, h, ha => by
    simp only [List.map_cons, List.cons.injEq, Prod.mk.injEq] at ha
    obtain ⟨⟨rfl, rfl⟩, ha⟩ := ha
    rw [lookV] at h
    rw [Instr.findNow]
    split at h
    · rename_i hs; cases h; rw [hs]; exact ⟨_, rfl, rfl⟩
    · rename_i hs; rw [hs]; exact lookV_find h ha
    · cases h
/-- the entries of a literal are in the text -/
def litOps (ops : Array Oper) (T d : Nat) : Nat → List (Value × Value) → Prop
  | _, [] => True
  | k, kv :: r => (∃ o, ops[k]? = some o ∧ LitOp T d kv.1 kv.2 o) ∧ litOps ops T d (k + 1) r
theorem litOps_at {T d : Nat} : ∀ {kvs : List (Value × Value)} {k : Nat}, litOps ops T d k kvs → ∀ j kv, kvs[j]? = some kv → ∃ o, ops[k + j]? = some o ∧ LitOp T d kv.1 kv.2 o
  | [], _, _, j, kv, hj => by simp at hj
  | x :: r, k, h, 0, kv, hj => by simp at hj; subst hj; exact h.1
  | x :: r, k, h, j + 1, kv, hj => by
    have := litOps_at h.2 j kv (by simpa using hj)
    rwa [show k + (j + 1) = k + 1 + j by omega]
/-- the entries of a literal are written, one by one -/
theorem lit_wp {T kt et d b : Nat} {dk : TypeDesc} (hu : X.P.underlying T = some (.map kt et)) (hk : X.P.underlying kt = some dk) {K : Act → World → Prop} {a : Act} {W : World} (hb : W.heap.size = b) (hm : a.eval (.tmp d) = .map (some b)) :
    ∀ (kvs : List (Value × Value)) (es : List (Value × Value)) (k : Nat), litNew dk (litArr 0 es) kvs → (∀ j kv, kvs[j]? = some kv → ∃ o, ops[k + j]? = some o ∧ LitOp T d kv.1 kv.2 o) → K a (W.alloc (.map (litArr 0 (es ++ kvs)).toArray (es ++ kvs).length)) →
      ∀ {rest : List Nat}, (∀ w', K a w' → wpOps X.P ops Qx rest a w') → wpOps X.P ops Qx (List.range' k kvs.length ++ rest) a (W.alloc (.map (litArr 0 es).toArray es.length))
  | [], es, k, _, _, hK, rest, hr => by
    simp only [List.append_nil] at hK
    simpa using hr _ hK
  | (key, v) :: r, es, k, hn, ho, hK, rest, hr => by
    rw [List.length_cons, List.range'_succ, List.cons_append, wpOps_cons]
    obtain ⟨h1, h2, h3⟩ := hn
    obtain ⟨o, o1, ko, vo, o2, o3, o4, o5, o6⟩ := ho 0 (key, v) rfl
    refine wpOp_plain o1 o4 ?_
    have hex : execOp a.eval o = (do Instr.mapUpdate T (a.eval (.tmp d)) (a.eval ko) (a.eval vo); pure .skip) := by
      obtain ⟨dst, op, ty, pos, af, gd⟩ := o
      simp only at o2
      subst o2
      rfl
    rw [hm, o5, o6] at hex
    rw [litArr_len] at h3
    have hins := run_insert_alloc (P := X.P) T kt et hu dk hk W (litArr 0 es).toArray es.length key v h1 (by simpa using h2)
    rw [hb] at hins
    refine wp_of_skip hex o3 hins ?_
    have e1 : (litArr 0 es).toArray.push ⟨key, v, es.length⟩ = (litArr 0 (es ++ [(key, v)])).toArray := by
      rw [litArr_app, Nat.zero_add]
      simp
    have e2 : es.length + 1 = (es ++ [(key, v)]).length := by simp
    rw [e1, e2]
    refine lit_wp hu hk hb hm r (es ++ [(key, v)]) (k + 1) ?_ (fun j kv hj => ?_) ?_ hr
    · rw [litArr_app, Nat.zero_add]
      exact h3
    · obtain ⟨o', q1, q2⟩ := ho (j + 1) kv (by simpa using hj)
      exact ⟨o', by rwa [show k + (j + 1) = k + 1 + j by omega] at q1, q2⟩
    · simpa using hK
/-- a literal's map is there, to be read -/
theorem St.lit {D : Nat → TI} {S N0 : Nat → Prop} {B : Nat} {w0 : W0} {σ : AS} {a : Act} {w : World} (h : St D S N0 B w0 σ a w) {d : Nat} (hd : d < σ.nt) (kvs : List (Value × Value)) :
    St D S N0 B w0 { σ with tm := (d, .imap kvs) :: σ.tm } (a.put (some d) (.map (some w.heap.size))) (w.alloc (.map (litArr 0 kvs).toArray kvs.length)) := by
  obtain ⟨ρ, h⟩ := h
  have h1 := (h.step (w' := w.alloc (.map (litArr 0 kvs).toArray kvs.length)) (ks := []) (nw := []) (up := []) rfl rfl rfl (by simp) (fun b hb _ => pushed_old hb) (fun _ _ _ => rfl) (fun m hm => by simp [keys] at hm) (fun m hm => by simp [keys] at hm)
      (fun _ n y hy => by simp [get] at hy) (fun n y b hn => by simp [get] at hn) (fun n m y z b hn => by simp [get] at hn) (fun n y z b hn => by simp [get] at hn)).1
  rw [stepS_nil] at h1
  have h2 := h1.put (d := d) (x := .imap kvs) (v := .map (some w.heap.size)) hd ?_ (by simp [names])
  · exact ⟨ρ, h2⟩
  · refine .imap kvs _ kvs.length (litArr 0 kvs).toArray ⟨by simp, .inr (.inl (Nat.le_trans h.base.1 h.frm.size)), fun n x hx hb => ?_⟩ ?_ (by simp [litArr_map])
    · have := h.owns_lt hx hb
      omega
    · show (w.heap.push _)[w.heap.size]? = _
      simp
/-- a region with a literal map, in the text's order: k operations, the map and its entries, what is behind -/
theorem Tr.lit (hX : X.Ok) {id : Nat} {Q : Exit → AS → Prop} {σ : AS} (k : Nat) {T kt et d : Nat} {dk : TypeDesc} (kvs : List (Value × Value)) (hu : X.P.underlying T = some (.map kt et)) (hk : X.P.underlying kt = some dk)
    (hsz : k + 1 + kvs.length ≤ ops.size) (hmk : ∃ o, ops[k]? = some o ∧ o.op = .makeMap T none ∧ o.dst = some d ∧ o.guard = none) (hd : d < 65536) (hins' : litOps ops T d (k + 1) kvs) (hn : litNew dk [] kvs)
    (h : regW X [] ops (ops.toList.take k) (fun σ1 => d < σ1.nt ∧ regW X [] ops (ops.toList.drop (k + 1 + kvs.length)) (Q .normal) { σ1 with tm := (d, .imap kvs) :: σ1.tm }) σ) : Tr X (.region id ops false) Q σ := by
  intro γ a w hs
  refine wp_region ?_
  have hins := litOps_at hins'
  have hlt : (ops.toList.take k).length = k := by simp; omega
  have hld : (ops.toList.drop (k + 1 + kvs.length)).length = ops.size - (k + 1 + kvs.length) := by simp
  have hr : List.range ops.size = List.range' 0 k ++ (k :: (List.range' (k + 1) kvs.length ++ List.range' (k + 1 + kvs.length) (ops.size - (k + 1 + kvs.length)))) := by
    rw [range_parts ops.size k (by omega)]
    congr 1
    rw [show ops.size - k = (kvs.length + (ops.size - (k + 1 + kvs.length))) + 1 by omega, List.range'_succ]
    congr 1
    have := List.range'_append (s := k + 1) (m := kvs.length) (n := ops.size - (k + 1 + kvs.length)) (step := 1)
    simp only [Nat.one_mul] at this
    exact this.symm
  rw [hr]
  have hpart := regW_part (ops := ops) (off := []) (γ := γ) (Qx := fun e a w => ∃ σ', Q e σ' ∧ X.St γ σ' a w) hX (Q := fun σ1 => d < σ1.nt ∧ regW X [] ops (ops.toList.drop (k + 1 + kvs.length)) (Q .normal) { σ1 with tm := (d, .imap kvs) :: σ1.tm })
    (rest := k :: (List.range' (k + 1) kvs.length ++ List.range' (k + 1 + kvs.length) (ops.size - (k + 1 + kvs.length)))) (fun σ1 a1 w1 ⟨hd1, hr1⟩ hst => ?_) (ops.toList.take k) 0 σ a w (fun j o hj => ?_) hs h
  · rwa [hlt] at hpart
  · obtain ⟨o, o1, o2, o3, o4⟩ := hmk
    rw [wpOps_cons]
    refine wpOp_plain o1 o4 ?_
    have hex : execOp a1.eval o = (do pure (.value (← Instr.makeMap T none))) := by
      obtain ⟨dst, op, ty, pos, af, gd⟩ := o
      simp only at o2
      subst o2
      rfl
    refine wp_of_value hex (v := .map (some w1.heap.size)) (w' := w1.alloc (.map #[] 0)) rfl ?_
    rw [o3]
    have hst' := St.lit hst hd1 kvs
    have hnt : a1.tmps.size = σ1.nt := by
      obtain ⟨ρ, hst⟩ := hst
      exact hst.nt.1
    have hev : (a1.put (some d) (.map (some w1.heap.size))).eval (.tmp d) = .map (some w1.heap.size) := by
      simp [Act.eval, Act.put, hnt, hd1]
    exact lit_wp (b := w1.heap.size) (W := w1) (K := fun a' w' => a' = a1.put (some d) (.map (some w1.heap.size)) ∧ X.St γ { σ1 with tm := (d, .imap kvs) :: σ1.tm } a' w') hu hk rfl hev kvs [] (k + 1) hn hins ⟨rfl, hst'⟩ (rest := List.range' (k + 1 + kvs.length) (ops.size - (k + 1 + kvs.length))) (fun w' ⟨_, hq⟩ => by
      rw [← hld]
      exact regW_sound hX (fun σ' a' w' h1 h2 => ⟨σ', h1, h2⟩) _ _ _ _ _ (fun j => by simp) hq hr1)
  · rw [List.getElem?_take] at hj
    split at hj
    · simpa using hj
    · cases hj
/-- an entry is looked for -/
theorem inl_look {T kt et : Nat} {dk : TypeDesc} {es : List (Value × Value)} {σ : AS} {R : AS → Prop} {d : Nat} {x y : Operand} {ty : Nat} {pos : String} {af : Array Edge} {key v z : Value} {av : AV} (hu : X.P.underlying T = some (.map kt et)) (hk : X.P.underlying kt = some dk)
    (hx : ev σ x = .imap es) (hy : ev σ y = cst key) (hkey : MapKept.IsKey dk key) (hz : ∀ W, (zeroValue et).run X.P W = .ok z W) (hcst : cst key ≠ .junk)
    (hf : lookV dk key z es = some v) (hav : ∀ w im ρ, Rel w im ρ av v) (hnm : names av = []) (hd : d < σ.nt)
    (h : R { σ with tm := (d, av) :: σ.tm }) : InlOp X ops ⟨some d, .lookup T x y false, ty, pos, af, none⟩ σ R := by
  refine ⟨fun γ a w i Qx hi ⟨ρ, hs⟩ => ?_⟩
  have hvx := (hs.ev x).1
  have hvy := (hs.ev y).1
  rw [hx] at hvx
  rw [hy] at hvy
  have hey : a.eval y = key := by
    revert hvy hcst
    unfold cst
    split
    · exact fun _ h => h.int_
    · exact fun _ h => h.bool_
    · exact fun _ h => h.str_
    · exact fun _ h => by generalize a.eval y = u at h; cases h; rfl
    · exact fun _ h => by generalize a.eval y = u at h; cases h; rfl
    · exact fun _ h => by
        generalize a.eval y = u at h
        cases h with | ifc _ _ hi => cases u <;> simp [isIfc] at hi; rfl
    · exact fun h _ => absurd rfl h
  generalize hvx' : a.eval x = vx at hvx
  cases hvx with
  | imap _ b c arr hb ho he =>
  obtain ⟨f, hf1, hf2⟩ := lookV_find (i := 0) hf he
  refine wpOp_plain hi rfl ?_
  have hex : execOp a.eval ⟨some d, .lookup T x y false, ty, pos, af, none⟩ = (do pure (.value (← Instr.lookup T (a.eval x) (a.eval y) false))) := rfl
  refine wp_of_value hex (v := v) (w' := w) ?_ ⟨_, h, ρ, hs.put hd (hav _ _ _) (by simp [hnm])⟩
  rw [hvx', hey]
  have := run_lookup_lit T kt et hu dk hk w b arr c key false ho z (hz w) hkey f hf1
  rw [this]
  simp [hf2]
end
end Go.Proofs.YtmlejhpeoiicpaaGreatDoor.Ab
namespace Go.Proofs.YtmlejhpeoiicpaaGreatDoor.Ab
open Go
set_option linter.unusedVariables false
set_option linter.unusedSimpArgs false

end Go.Proofs.YtmlejhpeoiicpaaGreatDoor.Ab
namespace Go.Proofs.YtmlejhpeoiicpaaGreatDoor.Ab
open Go

theorem takeMap {α β : Type} {f : α → β} {l : List α} {n : Nat} : (l.map f).take n = (l.take n).map f := List.map_take.symm
theorem dropMap {α β : Type} {f : α → β} {l : List α} {n : Nat} : (l.map f).drop n = (l.drop n).map f := List.map_drop.symm
attribute [go_sem] covT covB covBlk cov covs resS resT resT.resT' ownS takeMap dropMap
attribute [go_sem] evC_cond evC_skip evC_text evC_any evC_seq evC_block evC_loop evC_exit evC_ret evC_label condK_true condK_false
  thenA_normal thenA_ret thenA_exit thenA_normal' inB_normal inB_normal' inB_ret inB_exit regW_cons regW_nil stepI_some stepI_none
  regP_nil regP_step stepP_some stepP_none pairs still fkE upNil klNil exB upB Lo.g2 bcl
  cleans clean disj okE opsNs asked_some opEff nwOk isOff memP eqB skipE
  hasG guardOf baseE orM mEff callM noM bsOf blkFree guarded isPick eff
  ev tmv get uv ug cellsOf cst jn blk apply putT freeze_nil
  freeze_cons kill_nil kill_cons here gone mapT mapB mapL fresh unbound keys mem
  namess names snap effLoad effFieldAddr effField effIndexAddr effStore effCall effRes effBin isC bin
  effLen effConvert effSlice effAppend baseOf tailOf bound osOf isStr isOther good splice
  rowsOf rowsAt isNil fz fzs osIn_nil osIn_junk osIn_int osIn_bool osIn_str osIn_nils osIn_sl
  osIn_os osIn_ptr osIn_iptr osIn_eptr osIn_lsl osIn_imap osIn_nilp osIn_ifc osIn_tsl osIn_psl isPtr osIn_func osIn_agg osIn_tup osIn_opt ren rens
  ownBl scalar scalars okRes okRess pick3 pickE fillS okN subs blNames nwNames
  getN plain valOf isU8 goodRow kl kls Op.operands Call.operands List.map_cons List.map_nil List.append_nil
  List.nil_append List.cons_append Option.getD_some Option.getD_none Option.isSome_some Option.isNone_none Option.isSome_none Option.isNone_some Option.map_some Option.map_none Option.bind_some Option.bind_none
  Option.toList_some Option.toList_none Option.toArray_some Option.toArray_none Array.toList_append List.toList_toArray Nat.le_refl implies_true imp_self List.getElem?_toArray List.getElem?_cons_zero List.getElem?_cons_succ
  List.size_toArray Bool.and_true Bool.true_and Bool.and_false Bool.false_and Bool.or_true Bool.true_or Bool.or_false Bool.false_or Bool.not_true Bool.not_false and_true
  true_and and_false false_and and_self eq_self ite_self bne_self_eq_false beq_self_eq_true or_true true_or or_false false_or
  ite_true ite_false Bool.false_eq_true List.all_cons List.all_nil Nat.zero_add decide_true decide_false List.drop_zero List.drop_succ_cons List.take_zero List.take_succ_cons
  List.head?_cons List.length_cons List.length_nil forall_const if_true if_false List.zip_cons_cons List.zip_nil_right List.zip_nil_left List.getD_cons_zero List.getD_cons_succ List.getD_nil List.drop_nil
  List.take_nil Int.toNat_natCast List.length_map decide_eq_true_eq decide_eq_false_iff_not bytesOf_map isB_map List.range_zero range1 range2 range3 range4
  range5 range6 range7 range8
  deepAt colAt focAt focN keepF focOff focUp isNilc viewRow deepCells colsOf isJunk noSl noSls noMem baseD tailD bothC effAppendD hasNames effBuildD covF focHas
attribute [go_sem] Nat.reduceLeDiff reduceCtorEq Nat.reduceAdd Nat.reduceSub Nat.reduceMul Nat.reduceLT Nat.reduceEqDiff Int.reduceEq Int.reduceLE Int.reduceLT Int.reducePow Int.reduceMul Int.reduceToNat Int.reduceNeg wrap64 Option.some.injEq exists_eq_left'
attribute [go_sem ↓] reduceIte
attribute [go_sem] D_1 D_2 D_3 D_4 D_5 D_6 D_7 D_8 D_9 D_10 D_11 D_12 D_13 D_14 D_15 D_16 D_17 D_18 D_19 D_20 D_21 D_22 D_23 D_24 D_25 D_26 D_27 D_28 D_29 D_30 D_32 D_34 D_35 D_36 D_38 D_39 D_40 D_41 D_42 D_43 D_44 D_46 D_47 D_49 D_50 D_51 D_52 D_54 D_55 D_56 D_58 D_59 D_61 D_62 D_63 D_64 D_65 D_66 D_67 D_68 D_69 D_70 D_71 D_73 D_74 D_75 D_76 D_78 D_81 D_82 D_83 D_84 D_85 D_86 D_87 D_89 D_91 D_92 D_94 D_95 D_97 D_98 D_100 D_101 D_103 D_105 D_106 D_108 D_109 D_110 D_111 D_112 D_114 D_115 D_116 D_118 D_119 D_121 D_122 D_123 D_124 D_125 D_126 D_127 D_129 D_130 D_131 D_132 D_134 D_135 D_136 D_138 D_139 D_140 D_141 D_143 D_144 D_145 D_146 D_147 D_148 D_149 D_150 D_151 D_152 D_154 D_155 D_156 D_158 D_159 D_161 D_162 D_163 D_164 D_165 D_167 D_168 D_170 D_172 D_173 D_175 D_176 D_177 D_178 D_179 D_180 D_181 D_182 D_185 D_186 D_187 D_188 D_189 D_190 D_191 D_193 D_195 D_196 D_200 D_201 D_205 D_206 D_207 D_208 D_209 D_210 D_211 D_212
end Go.Proofs.YtmlejhpeoiicpaaGreatDoor.Ab
