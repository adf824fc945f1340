/-
  Operations that make memory, or write it.
  No condition.
-/
import Derived.Test.YtcgdjdlcecnanaaAbH
import Derived.Maps.AppendAt
import Derived.Lib.AppendStr
import Derived.Laws.Tables
import Derived.Great.BuildSlice
namespace Go.Proofs.Ytcgdjdlcecnanaa.Ab
open Go
set_option linter.unusedVariables false
set_option linter.unusedSimpArgs false

section
variable {P : Program} {D : Nat → TI} {S N0 : Nat → Prop} {B : Nat} {w0 : W0} {ρ : Env} {σ : AS} {a : Act} {w : World}

/-! rows as one list of values -/
def FlatRel (w : World) (im : Nat → Prop) (ρ : Env) (sz : Nat) (rs : List (List AV)) (vs : List Value) : Prop :=
  vs.length = rs.length * sz ∧ ∀ (i : Nat) row, rs[i]? = some row → row.length = sz ∧ ∀ (j : Nat) x, row[j]? = some x → names x = [] ∧ ∃ v, vs[i * sz + j]? = some v ∧ v.oneCell' = true ∧ Rel w im ρ x v
theorem idx_lt {n i j sz : Nat} (hi : i < n) (hj : j < sz) : i * sz + j < n * sz := by
  have : (i + 1) * sz ≤ n * sz := Nat.mul_le_mul_right _ hi
  rw [Nat.add_mul] at this
  omega
theorem FlatRel.append {im : Nat → Prop} {sz : Nat} {rs qs : List (List AV)} {xs ys : List Value} (h : FlatRel w im ρ sz rs xs) (k : FlatRel w im ρ sz qs ys) : FlatRel w im ρ sz (rs ++ qs) (xs ++ ys) := by
  refine ⟨by rw [List.length_append, List.length_append, h.1, k.1, Nat.add_mul], fun i row hi => ?_⟩
  by_cases hlt : i < rs.length
  · rw [List.getElem?_append_left hlt] at hi
    refine ⟨(h.2 i row hi).1, fun j x hj => ?_⟩
    obtain ⟨h1, v, h2, h3, h4⟩ := (h.2 i row hi).2 j x hj
    exact ⟨h1, v, by rw [List.getElem?_append_left (List.getElem?_eq_some_iff.1 h2).1]; exact h2, h3, h4⟩
  · rw [List.getElem?_append_right (by omega)] at hi
    refine ⟨(k.2 _ row hi).1, fun j x hj => ?_⟩
    obtain ⟨h1, v, h2, h3, h4⟩ := (k.2 _ row hi).2 j x hj
    refine ⟨h1, v, ?_, h3, h4⟩
    have hm : i * sz = rs.length * sz + (i - rs.length) * sz := by rw [← Nat.add_mul]; congr 1; omega
    rw [List.getElem?_append_right (by rw [h.1]; omega), h.1]
    rw [← h2]
    congr 1
    omega
theorem FlatRel.nil {im : Nat → Prop} {sz : Nat} : FlatRel w im ρ sz [] [] := ⟨by simp, by simp⟩
theorem FlatRel.mono {w' : World} {im im' : Nat → Prop} {ρ' : Env} {sz : Nat} {rs : List (List AV)} {vs : List Value} (h : FlatRel w im ρ sz rs vs) (him : ∀ b, im b → im' b) (hw : ∀ b, im b → w'.heap[b]? = w.heap[b]?) : FlatRel w' im' ρ' sz rs vs :=
  ⟨h.1, fun i row hi => ⟨(h.2 i row hi).1, fun j x hj => by
    obtain ⟨h1, v, h2, h3, h4⟩ := (h.2 i row hi).2 j x hj
    exact ⟨h1, v, h2, h3, h4.mono him hw fun n hn => by rw [h1] at hn; cases hn⟩⟩⟩

/-- a slice that is read, as one list of values -/
theorem Rel.flat {im : Nat → Prop} {sz : Nat} {rs : List (List AV)} {A : Option Addr} {n c : Nat} (h : Rel w im ρ (.sl sz rs) (.slice A n c)) (hpos : 0 < sz) :
    n = rs.length ∧ ∃ vs, FlatRel w im ρ sz rs vs ∧ (∀ u ∈ vs, u.oneCell' = true) ∧ (0 < rs.length → ∃ ad, A = some ad ∧ ∀ j u, vs[j]? = some u → w.cell? (ad.add j) = some u) := by
  cases h with
  | sl sz rs A c b o val hc hm hA hrow hcell hval =>
  have key : ∀ k, k < rs.length * sz → ∃ row x, rs[k / sz]? = some row ∧ row[k % sz]? = some x := by
    intro k hk
    have h1 : k / sz < rs.length := Nat.div_lt_of_lt_mul (by rw [Nat.mul_comm]; exact hk)
    refine ⟨rs[k / sz], ?_⟩
    have h2 := hrow (k / sz) rs[k / sz] (by simp [h1])
    have h3 : k % sz < (rs[k / sz]).length := by rw [h2]; exact Nat.mod_lt _ hpos
    exact ⟨(rs[k / sz])[k % sz], by simp [h1], by simp [h3]⟩
  refine ⟨rfl, (List.range (rs.length * sz)).map fun k => val (k / sz) (k % sz), ⟨by simp, fun i row hi => ⟨hrow i row hi, fun j x hj => ?_⟩⟩, fun u hu => ?_, fun hp => ?_⟩
  · have hj' : j < sz := by rw [← hrow i row hi]; exact (List.getElem?_eq_some_iff.1 hj).1
    have hi' := (List.getElem?_eq_some_iff.1 hi).1
    have hlt := idx_lt hi' hj'
    have e1 : (i * sz + j) / sz = i := by rw [Nat.mul_comm, Nat.mul_add_div hpos, Nat.div_eq_of_lt hj', Nat.add_zero]
    have e2 : (i * sz + j) % sz = j := by rw [Nat.mul_comm, Nat.mul_add_mod, Nat.mod_eq_of_lt hj']
    refine ⟨(hcell i j row x hi hj).2.2, val i j, ?_, (hcell i j row x hi hj).2.1, hval i j row x hi hj⟩
    simp [hlt, e1, e2]
  · obtain ⟨k, hk, rfl⟩ := List.mem_map.1 hu
    obtain ⟨row, x, h1, h2⟩ := key k (by simpa using hk)
    exact (hcell _ _ row x h1 h2).2.1
  · obtain ⟨rfl, hb⟩ := hA hp
    refine ⟨_, rfl, fun k u hu => ?_⟩
    rw [List.getElem?_map] at hu
    obtain ⟨k', hk', rfl⟩ := Option.map_eq_some_iff.1 hu
    have hk := (List.getElem?_eq_some_iff.1 hk').1
    simp at hk
    have : k' = k := by simpa [hk] using hk'.symm
    subst this
    obtain ⟨row, x, h1, h2⟩ := key k' hk
    rw [add_flat']
    have := (hcell _ _ row x h1 h2).1
    rwa [Nat.div_add_mod'] at this

/-- a slice of our own, as the kit has it -/
theorem BRel.owns {im : Nat → Prop} {t e sz : Nat} {rs : List (List AV)} (h : BRel D w im ρ t (.rows e sz rs)) : ∃ xs, w.ownsRow 0 e sz (ρ t).sv rs.length xs ∧ FlatRel w im ρ sz rs xs := by
  obtain ⟨h1, h2, h2', A, c, h3, h4, h5, h6⟩ := h
  rw [h3]
  rcases h6 with ⟨rfl, rfl, rfl, _⟩ | ⟨b, arr, hb, rfl, hh, hsz, hr⟩
  · exact ⟨[], ⟨by simp, .inl ⟨rfl, rfl⟩⟩, .nil⟩
  · have hle : rs.length * sz ≤ arr.size := by rw [hsz]; exact Nat.mul_le_mul_right _ h4
    have hlen : (arr.toList.take (rs.length * sz)).length = rs.length * sz := by simp; omega
    refine ⟨arr.toList.take (rs.length * sz), ⟨hlen, .inr ⟨b, c, arr, rfl, Nat.zero_le _, hh, h4, h5, hsz, rfl⟩⟩, hlen, fun i row hi => ⟨(hr i row hi).1, fun j x hj => ?_⟩⟩
    obtain ⟨q1, v, q2, q3, q4⟩ := (hr i row hi).2 j x hj
    refine ⟨q1, v, ?_, q3, q4⟩
    have hj' : j < sz := by rw [← (hr i row hi).1]; exact (List.getElem?_eq_some_iff.1 hj).1
    have hi' := (List.getElem?_eq_some_iff.1 hi).1
    rw [List.getElem?_take, if_pos (idx_lt hi' hj')]
    simpa using q2
theorem BRel.of_owns {w : World} {im : Nat → Prop} {ρ : Env} {t e sz base : Nat} {rs : List (List AV)} {v : Value} {xs : List Value} (h : w.ownsRow base e sz v rs.length xs) (hf : FlatRel w im ρ sz rs xs) (hsz : 0 < sz) (hD : sz = (D e).n)
    (hρ : ∃ A c, v = .slice A rs.length c ∧ ρ t = ⟨v.ownBlock, A, rs.length, c, sz⟩) : BRel D w im ρ t (.rows e sz rs) := by
  obtain ⟨A, c, hv, hρt⟩ := hρ
  rcases h.2 with ⟨hv', hn⟩ | ⟨g, cap, cur, hv', hb, hg, h1, h2, h3, h4⟩
  · rw [hv] at hv'
    have hrs : rs = [] := List.eq_nil_of_length_eq_zero hn
    subst hrs
    injection hv' with e1 e2 e3
    subst e1 e3
    exact ⟨by rw [hρt], hsz, hD, none, 0, by rw [hρt]; rfl, Nat.le_refl _, Nat.zero_le _, .inl ⟨rfl, rfl, rfl, by rw [hρt, hv]; rfl⟩⟩
  · rw [hv] at hv'
    cases hv'
    refine ⟨by rw [hρt], hsz, hD, _, c, by rw [hρt]; rfl, h1, h2, .inr ⟨g, cur, by rw [hρt, hv]; rfl, rfl, hg, h3, fun i row hi => ⟨(hf.2 i row hi).1, fun j x hj => ?_⟩⟩⟩
    obtain ⟨q1, u, q2, q3, q4⟩ := (hf.2 i row hi).2 j x hj
    refine ⟨q1, u, ?_, q3, q4⟩
    rw [← h4, List.getElem?_take] at q2
    split at q2
    · simpa using q2
    · cases q2

/-! ## the operations -/
def Env.set (ρ : Env) (n : Nat) (i : NI) : Env := fun m => if m = n then i else ρ m
theorem Env.set_eq {ρ : Env} {n : Nat} {i : NI} : (ρ.set n i) n = i := by simp [Env.set]
theorem Env.set_ne {ρ : Env} {n m : Nat} {i : NI} (h : m ≠ n) : (ρ.set n i) m = ρ m := by simp [Env.set, h]

/-- a new block with a name; perhaps one that took the place of another name's -/
theorem St0.new1 (h : St0 D S N0 B w0 ρ σ a w) {w' : World} {n : Nat} {y : Blk} {i : NI} {ks : List Nat} (hn : blk σ n = none) (o1 : w'.os = w.os) (o2 : w'.tape = w.tape) (o3 : w'.output = w.output) (o4 : w.heap.size ≤ w'.heap.size)
    (c2 : ∀ b, b < w.heap.size → (∀ k x, k ∈ ks → blk σ k = some x → (ρ k).b ≠ some b) → w'.heap[b]? = w.heap[b]?)
    (hb : ∀ b, i.b = some b → (w.heap.size ≤ b ∨ ∃ k x, k ∈ ks ∧ blk σ k = some x ∧ (ρ k).b = some b) ∧ b < w'.heap.size)
    (hy : ∀ im' : Nat → Prop, (∀ b, Im S N0 B w ρ σ b → im' b) → (∀ b, Im S N0 B w ρ σ b → w'.heap[b]? = w.heap[b]?) → BRel D w' im' (ρ.set n i) n y)
    (hcl : ∀ cs, y = .cells cs → ∀ m ∈ namess cs, (blk σ m).isSome = true ∧ m ∉ ks) :
    St0 D S N0 B w0 (ρ.set n i) (stepS σ ks [(n, y)] []) a w' ∧ ∀ b, Im S N0 B w ρ σ b → Im S N0 B w' (ρ.set n i) (stepS σ ks [(n, y)] []) b ∧ w'.heap[b]? = w.heap[b]? := by
  have hget : get n [(n, y)] = some y := by simp [get]
  have hne : ∀ m, (blk σ m).isSome = true → m ≠ n := by
    rintro m hm rfl
    rw [hn] at hm; cases hm
  have hw : ∀ b, Im S N0 B w ρ σ b → w'.heap[b]? = w.heap[b]? := fun b hb => c2 b hb.1 fun k x _ hx hb' => hb.2.2 k x hx hb'
  refine h.step (ks := ks) (nw := [(n, y)]) (up := []) o1 o2 o3 o4 (fun b hlt hk => c2 b hlt fun k x hk' hx => hk k x (.inl hk') hx) (fun m hm _ => Env.set_ne (hne m hm)) (fun m hm => ?_) (fun m hm => by simp [keys] at hm) (fun him m z hz => ?_) (fun m b hm hb' => ?_) (fun m k b hm hk _ _ => ?_)
  · simp [keys] at hm; subst hm; exact hn
  · have e : m = n ∧ z = y := by
      rcases hz with hz | ⟨_, hz⟩
      · simp only [get] at hz
        split at hz
        · rename_i e; exact ⟨e.symm, (Option.some.inj hz).symm⟩
        · cases hz
      · simp [get] at hz
    obtain ⟨rfl, rfl⟩ := e
    refine ⟨hy _ him hw, fun cs hcs k hk => ?_⟩
    obtain ⟨q1, q2⟩ := hcl cs hcs k hk
    rw [blk_step]
    split
    · rfl
    · simp only [get]
      rw [if_neg q2]
      simpa using q1
  · simp [keys] at hm
    subst hm
    rw [Env.set_eq] at hb'
    exact hb b hb'
  · simp [keys] at hm hk
    rw [hm, hk]

theorem pushed_old {h : Array Obj} {o : Obj} {b : Nat} (hb : b < h.size) : (h.push o)[b]? = h[b]? := by
  rw [Array.getElem?_push, if_neg (by omega)]

/-- alloc, box: a new block of cells -/
theorem St0.newCells (h : St0 D S N0 B w0 ρ σ a w) {n : Nat} {cs : List AV} {arr : Array Value} {T : TypeId} (hn : blk σ n = none) (hc : CRel w (Im S N0 B w ρ σ) ρ cs arr) (hcl : ∀ m ∈ namess cs, (blk σ m).isSome = true) :
    St0 D S N0 B w0 (ρ.set n ⟨some w.heap.size, none, 0, 0, 0⟩) (stepS σ [] [(n, .cells cs)] []) a (w.alloc (.cells arr T)) ∧
      ∀ b, Im S N0 B w ρ σ b → Im S N0 B (w.alloc (.cells arr T)) (ρ.set n ⟨some w.heap.size, none, 0, 0, 0⟩) (stepS σ [] [(n, .cells cs)] []) b ∧ (w.alloc (.cells arr T)).heap[b]? = w.heap[b]? := by
  refine h.new1 hn rfl rfl rfl (by simp) (fun b hb _ => pushed_old hb) (fun b hb => ?_) (fun im' him hw => ?_) (fun cs' e m hm => ?_)
  · cases hb
    exact ⟨.inl (Nat.le_refl _), by simp⟩
  · refine ⟨w.heap.size, arr, T, by rw [Env.set_eq], heap_alloc_new w _, hc.1, fun i x v hx hv => ⟨(hc.2 i x v hx hv).1, (hc.2 i x v hx hv).2.mono him hw fun m hm => ?_⟩⟩
    refine Env.set_ne ?_
    rintro rfl
    have := hcl m (mem_namess hx hm)
    rw [hn] at this; cases this
  · cases e
    exact ⟨hcl m hm, by simp⟩

/-- a new slice of our own -/
theorem St0.newRows (hT : TOk P D) (h : St0 D S N0 B w0 ρ σ a w) {w' : World} {n e : Nat} {rs : List (List AV)} {v : Value} {vs : List Value} {ks : List Nat} {row : Option Nat} (hn : blk σ n = none) (hpos : 0 < (D e).n)
    (hown : w'.ownsRow 0 e (D e).n v rs.length vs) (hf : FlatRel w (Im S N0 B w ρ σ) ρ (D e).n rs vs) (hg : w.grownBy w' row)
    (hrow : ∀ b, row = some b → ∃ k x, k ∈ ks ∧ blk σ k = some x ∧ (ρ k).b = some b)
    (hv : ∀ b, v.ownBlock = some b → (row = some b ∨ w.heap.size ≤ b)) :
    ∃ i : NI, i.sv = v ∧ St0 D S N0 B w0 (ρ.set n i) (stepS σ ks [(n, .rows e (D e).n rs)] []) a w' ∧
      ∀ b, Im S N0 B w ρ σ b → Im S N0 B w' (ρ.set n i) (stepS σ ks [(n, .rows e (D e).n rs)] []) b ∧ w'.heap[b]? = w.heap[b]? := by
  have hsl : ∃ A c, v = .slice A rs.length c := by
    rcases hown.2 with ⟨rfl, h0⟩ | ⟨g, cap, cur, rfl, _⟩
    · exact ⟨none, 0, by rw [h0]⟩
    · exact ⟨_, _, rfl⟩
  obtain ⟨A, c, rfl⟩ := hsl
  refine ⟨⟨Value.ownBlock (.slice A rs.length c), A, rs.length, c, (D e).n⟩, rfl, h.new1 hn hg.os hg.tape hg.output hg.size (fun b hb hk => hg.block b hb ?_) (fun b hb => ⟨?_, ?_⟩) (fun im' him hw => ?_) (fun cs e => by cases e)⟩
  · rintro hr
    obtain ⟨k, x, h1, h2, h3⟩ := hrow b hr.symm
    exact hk k x h1 h2 h3
  · rcases hv b hb with h1 | h1
    · exact .inr (hrow b h1)
    · exact .inl h1
  · have hb' : Value.ownBlock (.slice A rs.length c) = some b := hb
    rcases hown.2 with ⟨hv', _⟩ | ⟨g, cap, cur, hv', _, hgg, _⟩
    · rw [hv'] at hb'
      simp [Value.ownBlock] at hb'
    · rw [hv'] at hb'
      simp [Value.ownBlock] at hb'
      subst hb'
      exact (Array.getElem?_eq_some_iff.1 hgg).1
  · exact BRel.of_owns (v := .slice A rs.length c) hown (hf.mono him hw) hpos rfl ⟨A, c, rfl, by rw [Env.set_eq]⟩

theorem FlatRel.one {im : Nat → Prop} {sz : Nat} {rs : List (List AV)} {vs : List Value} (h : FlatRel w im ρ sz rs vs) (hpos : 0 < sz) : ∀ u ∈ vs, u.oneCell' = true := by
  intro u hu
  obtain ⟨k, hk⟩ := List.getElem?_of_mem hu
  have hlt := (List.getElem?_eq_some_iff.1 hk).1
  rw [h.1] at hlt
  have h1 : k / sz < rs.length := Nat.div_lt_of_lt_mul (by rw [Nat.mul_comm]; exact hlt)
  have h2 := h.2 (k / sz) rs[k / sz] (by simp [h1])
  have h3 : k % sz < (rs[k / sz]).length := by rw [h2.1]; exact Nat.mod_lt _ hpos
  obtain ⟨_, v, h4, h5, _⟩ := h2.2 (k % sz) _ (List.getElem?_eq_getElem h3)
  rw [Nat.div_add_mod'] at h4
  rw [h4] at hk
  cases hk
  exact h5

/-- what is appended, as one list of values -/
theorem St0.tail (h : St0 D S N0 B w0 ρ σ a w) {bl : Nat → Option Blk} (hbl : ∀ n x, bl n = some x → blk σ n = some x) {y : AV} {v : Value} {sz : Nat} {qs : List (List AV)}
    (hy : Rel w (Im S N0 B w ρ σ) ρ y v) (he : rowsOf bl y = some (sz, qs)) {s : Nat} (hs : sz = s ∨ qs = []) (hpos : 0 < s) :
    ∃ A c news, v = .slice A qs.length c ∧ FlatRel w (Im S N0 B w ρ σ) ρ s qs news ∧ (0 < qs.length → ∃ ad, A = some ad ∧ ∀ j u, news[j]? = some u → w.cell? (ad.add j) = some u) := by
  cases hy <;> simp [rowsOf] at he
  case nils =>
    obtain ⟨rfl, rfl⟩ := he
    exact ⟨none, 0, [], rfl, .nil, by simp⟩
  case sl A c b o val hc hm hA hrow hcell hval =>
    obtain ⟨rfl, rfl⟩ := he
    rcases hs with rfl | rfl
    · obtain ⟨_, vs, h1, h2, h3⟩ := Rel.flat (Rel.sl _ _ A c b o val hc hm hA hrow hcell hval) hpos
      exact ⟨A, c, vs, rfl, h1, h3⟩
    · exact ⟨A, c, [], rfl, .nil, by simp⟩
  case os t =>
    obtain ⟨e, he⟩ := he
    have hb : bl t = some (.rows e sz qs) := by
      unfold rowsAt at he
      split at he
      · rename_i q; rw [q]; simp at he; obtain ⟨rfl, rfl, rfl⟩ := he; rfl
      · cases he
    have hB := h.hp.blk t _ (hbl t _ hb)
    obtain ⟨xs, hown, hf⟩ := hB.owns
    obtain ⟨h1, h2, h2', A, c, h3, h4, h5, h6⟩ := hB
    refine ⟨A, c, xs, h3, ?_, fun hq => ?_⟩
    · rcases hs with rfl | rfl
      · exact hf
      · exact ⟨by simpa using hf.1, by simp⟩
    · rw [h3] at hown
      rcases hown.2 with ⟨hv, hn⟩ | ⟨g, cap, cur, hv, _, hg, _, _, _, htake⟩
      · omega
      · injection hv with e1 e2 e3
        refine ⟨_, e1, fun j u hu => ?_⟩
        rw [← htake, List.getElem?_take] at hu
        split at hu
        · rw [add_flat', Nat.zero_add]
          unfold World.cell?
          rw [hg]
          simpa using hu
        · cases hu

theorem run_append_none (t ty e : TypeId) (i : TypeInfo) (size base : Nat) (ht : P.underlying t = some (.slice e)) (hi : P.info? e = some i)
    (v : Value) (n : Nat) (xs : List Value) (hown : w.ownsRow base e size v n xs) (c : Nat) : (Builtin.append_ #[t, t] ty #[v, .slice none 0 c]).run P w = .ok v w := by
  rcases hown.2 with ⟨rfl, rfl⟩ | ⟨g, cap, cur, rfl, _, _, hnc, _⟩
  · simp [Builtin.append_, run_underlying ht, sizeOf, typeInfo, hi, Builtin.lenOf, Builtin.firstCells]
  · simp [Builtin.append_, run_underlying ht, sizeOf, typeInfo, hi, Builtin.lenOf, Builtin.firstCells, hnc, storeCells]

theorem run_append_text (t u ty e : TypeId) (i : TypeInfo) (ht : P.underlying t = some (.slice e)) (hu : P.underlying u = some .string) (hi : P.info? e = some i) (hz : i.zero = some (.int .u8 0)) (hsize : i.size = 1) (hby : i.bytes = 1)
    (v : Value) (n : Nat) (xs : List Value) (hown : w.ownsRow 0 e 1 v n xs) (s : ByteArray) (hb : n + s.size ≤ 1099511627776) :
    ∃ v' w', (Builtin.append_ #[t, u] ty #[v, .string s]).run P w = .ok v' w' ∧ w'.ownsRow 0 e 1 v' (n + s.size) (xs ++ Lib.strCells s) ∧ w.grownBy w' v.ownBlock ∧ ∀ b, v'.ownBlock = some b → (v.ownBlock = some b ∨ w.heap.size ≤ b) := by
  have hm : n + s.size ≤ maxLen := Nat.le_trans hb (by decide)
  have hl := Lib.run_append_own_string (P := P) w 0 t u ty e i ht hu hi hz hsize hby v n xs hown s hm (Nat.le_trans hb (by decide)) (Nat.zero_le _)
  obtain ⟨v', w', h1, h2, h3, h4⟩ := hl
  refine ⟨v', w', h1, h2, h3, fun b hvb => ?_⟩
  rcases hown.2 with ⟨rfl, rfl⟩ | ⟨g, cap, cur, rfl, _, hg, hnc, hcm, hcs, htake⟩
  · -- nil: the new block lies behind
    have hown' : w.ownsRow w.heap.size e 1 (.slice none 0 0) 0 xs := ⟨hown.1, .inl ⟨rfl, rfl⟩⟩
    obtain ⟨v2, w2, k1, k2, _, _⟩ := Lib.run_append_own_string (P := P) w w.heap.size t u ty e i ht hu hi hz hsize hby _ 0 xs hown' s hm (Nat.le_trans hb (by decide)) (Nat.le_refl _)
    rw [h1] at k1
    cases k1
    rcases k2.2 with ⟨rfl, _⟩ | ⟨g, cap, cur, rfl, hbg, _⟩
    · simp [Value.ownBlock] at hvb
    · simp [Value.ownBlock] at hvb
      exact .inr (by omega)
  · by_cases hroom : n + s.size ≤ cap
    · have hr := Lib.run_append_room_string (P := P) w t u ty e i ht hu hi hsize g n cap cur hg s hroom (by omega)
      rw [h1] at hr
      cases hr
      exact .inl hvb
    · have hc : ∀ j v, xs[j]? = some v → w.cell? ((⟨g, 0, none⟩ : Addr).add j) = some v := by
        intro j v hj
        rw [← htake, List.getElem?_take] at hj
        split at hj
        · rw [add_flat', Nat.zero_add]
          unfold World.cell?
          rw [hg]
          simpa using hj
        · cases hj
      have hfit : Builtin.nextslicecap (n + s.size) cap * i.bytes ≤ 281474976710656 := by
        rw [hby, Nat.mul_one]
        have := nextslicecap_le (need := n + s.size) (old := cap) (by omega)
        omega
      have hr := Lib.run_append_grow_string (P := P) w t u ty e i _ ht hu hi hz ⟨g, 0, none⟩ n cap xs (by rw [hsize]; exact hown.1) hc s (by omega) (by omega) hfit
      rw [h1] at hr
      cases hr
      simp [Value.ownBlock] at hvb
      exact .inr (by omega)

/-- what an operation leaves behind that makes or writes memory -/
def Mak (D : Nat → TI) (S N0 : Nat → Prop) (B : Nat) (w0 : W0) (σ : AS) (a : Act) (e : Eff) (v : Value) (w' : World) : Prop :=
  ∃ ρ', St0 D S N0 B w0 ρ' (stepS (freeze σ e.fr) e.kl e.nw e.up) a w' ∧ Rel w' (Im S N0 B w' ρ' (stepS (freeze σ e.fr) e.kl e.nw e.up)) ρ' e.v v ∧ ∀ n ∈ names e.v, (blk (stepS (freeze σ e.fr) e.kl e.nw e.up) n).isSome = true

theorem blk_step_new {σ : AS} {ks : List Nat} {n : Nat} {y : Blk} : blk (stepS σ ks [(n, y)] []) n = some y := by
  rw [blk_step]; simp [get]

theorem append_sound (hT : TOk P D) (h : St0 D S N0 B w0 ρ σ a w) {bl : Nat → Option Blk} (hbl : ∀ n x, bl n = some x → blk σ n = some x) {T U ty dst : Nat} {x y : AV} {u v : Value} {e : Eff}
    (hx : Rel w (Im S N0 B w ρ σ) ρ x u) (hy : Rel w (Im S N0 B w ρ σ) ρ y v) (he : effAppend D bl dst T U x y = some e) (hp : e.pre) (hd : blk σ dst = none) :
    ∃ r w', (Builtin.append_ #[T, U] ty #[u, v]).run P w = .ok r w' ∧ Mak D S N0 B w0 σ a e r w' := by
  unfold effAppend at he
  cases hk : (D T).k <;> simp only [hk] at he <;> try (cases he; done)
  rename_i el
  obtain ⟨hu, hne, hpz⟩ := ty_slice hT hk
  obtain ⟨i, z, hi, hi1, hi2, hi3, hi4, hi5⟩ := ty_info hT hne
  obtain ⟨hz1, hz2, hz3⟩ := zeroB_ok hi4
  split at he
  case h_2 => cases he
  rename_i r q hr hq
  obtain ⟨qz, qs⟩ := q
  split at he
  case isFalse => cases he
  rename_i hbytes
  cases he
  simp only at hp hq
  obtain ⟨p1, p2⟩ := hp
  -- the slice that is appended to
  have base : ∃ xs, w.ownsRow 0 el (D el).n u r.length xs ∧ FlatRel w (Im S N0 B w ρ σ) ρ (D el).n r xs ∧ ∀ b, u.ownBlock = some b → ∃ k z, k ∈ osOf x ∧ blk σ k = some z ∧ (ρ k).b = some b := by
    cases hx <;> simp only [baseOf] at hr <;> try (cases hr; done)
    case nils =>
      cases hr
      exact ⟨[], ⟨by simp, .inl ⟨rfl, rfl⟩⟩, .nil, by simp [Value.ownBlock]⟩
    case os t =>
      cases hrt : rowsAt bl t with
      | none => rw [hrt] at hr; cases hr
      | some y' =>
        obtain ⟨e', sz, rs⟩ := y'
        rw [hrt] at hr
        simp only at hr
        split at hr
        case isFalse => cases hr
        rename_i hes
        obtain ⟨rfl, rfl⟩ := hes
        cases hr
        have hb := hbl t _ (rowsAt_some hrt)
        have hB := h.hp.blk t _ hb
        obtain ⟨xs, hown, hf⟩ := hB.owns
        refine ⟨xs, hown, hf, fun b hob => ⟨t, _, by simp [osOf], hb, ?_⟩⟩
        obtain ⟨h1, h2, h3, A, c, h4, h5, h6, h7⟩ := hB
        rw [h4] at hob
        rcases h7 with ⟨_, rfl, _, _⟩ | ⟨b', arr, hb', rfl, _⟩
        · simp [Value.ownBlock] at hob
        · simp [Value.ownBlock] at hob
          rw [hb', hob]
  obtain ⟨xs, hown, hf, hob⟩ := base
  suffices key : ∃ r' w' news, (Builtin.append_ #[T, U] ty #[u, v]).run P w = .ok r' w' ∧ w'.ownsRow 0 el (D el).n r' (r ++ qs).length (xs ++ news) ∧ FlatRel w (Im S N0 B w ρ σ) ρ (D el).n qs news ∧ w.grownBy w' u.ownBlock ∧
      ∀ b, r'.ownBlock = some b → u.ownBlock = some b ∨ w.heap.size ≤ b by
    obtain ⟨r', w', news, k1, k2, k3, k4, k5⟩ := key
    obtain ⟨i', hi', hst, _⟩ := h.newRows hT (n := dst) (ks := osOf x) (rs := r ++ qs) hd hpz k2 (hf.append k3) k4 hob k5
    refine ⟨r', w', k1, _, hst, ?_, fun m hm => ?_⟩
    · have : ((ρ.set dst i') dst).sv = r' := by rw [Env.set_eq]; exact hi'
      rw [← this]
      exact .os dst
    · simp [names] at hm
      subst hm
      show (blk (stepS σ _ [(m, _)] []) m).isSome = true
      rw [blk_step_new]; rfl
  have hlen : (r ++ qs).length = r.length + qs.length := List.length_append
  have hmax : r.length + qs.length ≤ maxLen := Nat.le_trans p1 (by decide)
  have hby : (r.length + qs.length) * i.bytes ≤ 140737488355328 := by
    rw [hi2]
    exact Nat.le_trans (Nat.mul_le_mul p1 hbytes.1) (by decide)
  -- what is appended
  have slice : U = T → rowsOf bl y = some (qz, qs) → ∃ r' w' news, (Builtin.append_ #[T, U] ty #[u, v]).run P w = .ok r' w' ∧ w'.ownsRow 0 el (D el).n r' (r ++ qs).length (xs ++ news) ∧ FlatRel w (Im S N0 B w ρ σ) ρ (D el).n qs news ∧ w.grownBy w' u.ownBlock ∧
      ∀ b, r'.ownBlock = some b → u.ownBlock = some b ∨ w.heap.size ≤ b := by
    rintro rfl hrw
    obtain ⟨A, c, news, rfl, hfn, hcells⟩ := h.tail hbl hy hrw p2 hpz
    cases A with
    | none =>
      have hq : qs = [] := by
        rcases Nat.eq_zero_or_pos qs.length with h0 | h0
        · exact List.eq_nil_of_length_eq_zero h0
        · obtain ⟨ad, hA, _⟩ := hcells h0; cases hA
      subst hq
      have hn : news = [] := List.eq_nil_of_length_eq_zero (by simpa using hfn.1)
      subst hn
      exact ⟨u, w, [], run_append_none U ty el i _ 0 hu hi u _ xs hown c, by simpa using hown, hfn, World.grownBy.refl w _, fun b hb => .inl hb⟩
    | some ad =>
      have hc : ∀ j u, news[j]? = some u → w.cell? (ad.add j) = some u := by
        intro j u hj
        rcases Nat.eq_zero_or_pos qs.length with h0 | h0
        · have : news = [] := List.eq_nil_of_length_eq_zero (by rw [hfn.1, h0, Nat.zero_mul])
          subst this
          simp at hj
        · obtain ⟨ad', hA, hc⟩ := hcells h0
          cases hA
          exact hc j u hj
      obtain ⟨v', w', k1, k2, k3, _, k5⟩ := run_append_own_at (P := P) w 0 U ty el i z (D el).n i.bytes hu hi hi3 hi1 rfl (by have := hz1; simpa [hi5] using this) hpz u r.length xs hown ad qs.length c news hfn.1 hc (hfn.one hpz) hmax hby (Nat.zero_le _)
      refine ⟨v', w', news, k1, by rw [hlen]; exact k2, hfn, k3, fun b hb => ?_⟩
      rcases k5 with k5 | k5
      · exact .inl (k5 ▸ hb)
      · rw [k5] at hb
        cases hb
        exact .inr (Nat.le_refl _)
  cases hy
  case str l =>
    simp only [tailOf] at hq
    split at hq
    case h_2 => cases hq
    rename_i hkU
    cases hq
    have hU := ty_str hT hkU
    rcases hbytes.2 with hb | ⟨hb1, hb2, hb3⟩
    · simp [isStr] at hb
    have hku8 : (D el).k = .int .u8 := by
      cases hk8 : (D el).k with
      | int k => rw [hk8] at hb1; cases k <;> simp [isU8] at hb1; rfl
      | _ => rw [hk8] at hb1; simp [isU8] at hb1
    have hzero : i.zero = some (.int .u8 0) := ty_zint hT hku8 hi
    have hlz : (⟨⟨l⟩⟩ : ByteArray).size = l.length := rfl
    rw [hb2] at hown hf
    obtain ⟨v', w', k1, k2, k3, k4⟩ := run_append_text (P := P) T U ty el i hu hU hi hzero (by rw [hi1, hb2]) (by rw [hi2, hb3]) u r.length xs hown ⟨⟨l⟩⟩ (by rw [hlz]; simpa using p1)
    refine ⟨v', w', Lib.strCells ⟨⟨l⟩⟩, k1, by rw [hb2, hlen]; rw [hlz] at k2; simpa using k2, ?_, k3, k4⟩
    rw [hb2]
    refine ⟨by simp [Lib.strCells], fun i row hi => ?_⟩
    rw [List.getElem?_map] at hi
    obtain ⟨c, hc, rfl⟩ := Option.map_eq_some_iff.1 hi
    refine ⟨rfl, fun j x hj => ?_⟩
    cases j with
    | zero =>
      simp [byteRow] at hj
      subst hj
      refine ⟨by simp [names], .int .u8 c.toNat, ?_, rfl, .int _ _⟩
      simp [Lib.strCells, hc]
    | succ j => simp [byteRow] at hj
  all_goals
    simp only [tailOf] at hq
    split at hq
    · rename_i hUT
      exact slice hUT hq
    · cases hq
end
end Go.Proofs.Ytcgdjdlcecnanaa.Ab
