/-
  Further operations that make and change no memory: slices of slices, texts and bytes, structs built.
  No condition.
-/
import Derived.Test.YtcgdjdlcecnanaaAbG
namespace Go.Proofs.Ytcgdjdlcecnanaa.Ab
open Go
set_option linter.unusedVariables false
set_option linter.unusedSimpArgs false

section
variable {P : Program} {D : Nat → TI} {S N0 : Nat → Prop} {B : Nat} {w0 : W0} {ρ : Env} {σ : AS} {a : Act} {w : World}

/-- a list of operands, each as the evaluator has it -/
def Rels (w : World) (im : Nat → Prop) (ρ : Env) (xs : List AV) (vs : List Value) : Prop := vs.length = xs.length ∧ ∀ (i : Nat) x v, xs[i]? = some x → vs[i]? = some v → Rel w im ρ x v
theorem Rels.at_ {w : World} {im : Nat → Prop} {ρ : Env} {xs : List AV} {vs : List Value} (h : Rels w im ρ xs vs) {i : Nat} {x : AV} (hx : xs[i]? = some x) : ∃ v, vs[i]? = some v ∧ Rel w im ρ x v := by
  have hlt : i < vs.length := by rw [h.1]; exact (List.getElem?_eq_some_iff.1 hx).1
  exact ⟨vs[i], by simp [hlt], h.2 i x _ hx (by simp [hlt])⟩

theorem bound_int {im : Nat → Prop} {n : Nat} {d m : Int} {o : Option Operand} {ρ' : Operand → Value} {xs : List AV} {vs : List Value} (hr : Rels w im ρ xs vs) (hb : bound n d o xs = some m) (hv : ∀ x, o = some x → vs[n]? = some (ρ' x)) :
    (o.map ρ' = none ∧ m = d) ∨ ∃ k, o.map ρ' = some (.int k m) := by
  cases o with
  | none => simp [bound] at hb; exact .inl ⟨rfl, hb.symm⟩
  | some x =>
    simp only [bound] at hb
    split at hb
    · rename_i k m' hx
      cases hb
      obtain ⟨v, hv', hrel⟩ := hr.at_ hx
      rw [hv x rfl] at hv'
      cases hv'
      exact .inr ⟨k, by rw [Option.map_some, hrel.int_]⟩
    · cases hb

theorem slice_sound (hT : TOk P D) (h : St0 D S N0 B w0 ρ σ a w) {bl : Nat → Option Blk} (hbl : ∀ n x, bl n = some x → blk σ n = some x) {T : Nat} {x : Operand} {lo hi : Option Operand} {xs : List AV} {e : Eff}
    (hr : Rels w (Im S N0 B w ρ σ) ρ xs ((#[x] ++ lo.toArray ++ hi.toArray).toList.map a.eval)) (he : effSlice D bl T lo hi xs = some e) (hp : e.pre) :
    Yld P S N0 B ρ σ w (Instr.sliceAt T (a.eval x) (lo.map a.eval) (hi.map a.eval) none) e := by
  have h0 : ((#[x] ++ lo.toArray ++ hi.toArray).toList.map a.eval)[0]? = some (a.eval x) := by simp
  have hl : ∀ y, lo = some y → ((#[x] ++ lo.toArray ++ hi.toArray).toList.map a.eval)[1]? = some (a.eval y) := by rintro y rfl; simp
  have hh : ∀ y, hi = some y → ((#[x] ++ lo.toArray ++ hi.toArray).toList.map a.eval)[if lo.isSome then 2 else 1]? = some (a.eval y) := by
    rintro y rfl
    cases lo <;> simp
  have hx0 : Rel w (Im S N0 B w ρ σ) ρ (xs.getD 0 .junk) (a.eval x) := by
    have hlt : 0 < xs.length := by rw [← hr.1]; simp
    exact hr.2 0 _ _ (by simp [List.getD_eq_getElem?_getD, hlt]) h0
  unfold effSlice at he
  cases hk : (D T).k <;> simp only [hk] at he <;> try (cases he; done)
  case str =>
    split at he
    · rename_i s hs
      rw [hs] at hx0
      have hv := hx0.str_
      split at he
      · rename_i l m hbl' hbh
        cases he
        simp only at hp
        obtain ⟨p1, p2, p3⟩ := hp
        obtain ⟨l, rfl⟩ := Int.eq_ofNat_of_zero_le p1
        obtain ⟨m, rfl⟩ := Int.eq_ofNat_of_zero_le (show 0 ≤ m by omega)
        have q1 := bound_int hr hbl' hl
        have q2 := bound_int hr hbh hh
        have hrun := slice_str_run (P := P) (w := w) T ⟨⟨s⟩⟩ l m (lo.map a.eval) (hi.map a.eval) (ty_str hT hk) (by rcases q1 with ⟨q, q'⟩ | q; exact .inl ⟨q, by omega⟩; exact .inr q)
          (by rcases q2 with ⟨q, q'⟩ | q; exact .inl ⟨q, by have : (⟨⟨s⟩⟩ : ByteArray).size = s.length := rfl; omega⟩; exact .inr q) (by omega) (by have : (⟨⟨s⟩⟩ : ByteArray).size = s.length := rfl; omega)
        rw [extract_list] at hrun
        rw [hv]
        exact Yld.only ⟨rfl, rfl, rfl, rfl⟩ hrun (by simpa using Rel.str _) (by simp [names])
      · cases he
    · cases he
  case slice el =>
    split at he
    · rename_i r hrw
      obtain ⟨sz, rs⟩ := r
      have hrel := h.rows hbl hx0 hrw
      split at he
      · rename_i l m hbl' hbh
        cases he
        simp only at hp hbh
        obtain ⟨⟨p1, p2, p3⟩, p4⟩ := hp
        obtain ⟨l, rfl⟩ := Int.eq_ofNat_of_zero_le p1
        obtain ⟨m, rfl⟩ := Int.eq_ofNat_of_zero_le (show 0 ≤ m by omega)
        have q1 := bound_int hr hbl' hl
        have q2 := bound_int hr hbh hh
        obtain ⟨hu, hne, hpz⟩ := ty_slice hT hk
        generalize hv : a.eval x = v at hrel
        cases hrel with
        | sl sz rs A c b o val hc hm hA hrow hcell hval =>
        have hrun := slice_run (P := P) (w := w) T el A rs.length c l m (D el).n (lo.map a.eval) (hi.map a.eval) hu (ty_size hT hne w) (by rcases q1 with ⟨q, q'⟩ | q; exact .inl ⟨q, by omega⟩; exact .inr q)
          (by rcases q2 with ⟨q, q'⟩ | q; exact .inl ⟨q, by omega⟩; exact .inr q) (by omega) (by omega)
        have hpc := Rel.piece (s := (D el).n) (l := l) (h := m) (Rel.sl sz rs A c b o val hc hm hA hrow hcell hval) (by omega) (by omega) (by rcases p4 with p4 | p4; exact .inl p4.symm; exact .inr (by omega))
        refine ⟨rfl, rfl, rfl, _, hrun, by simpa using hpc, by simp [names]⟩
      · cases he
    · cases he

theorem len_sound (hT : TOk P D) (h : St0 D S N0 B w0 ρ σ a w) {bl : Nat → Option Blk} (hbl : ∀ n x, bl n = some x → blk σ n = some x) {T ty : Nat} {x : AV} {v : Value} {e : Eff}
    (hx : Rel w (Im S N0 B w ρ σ) ρ x v) (he : effLen D bl T x = some e) : Yld P S N0 B ρ σ w (Builtin.len_ #[T] ty #[v]) e := by
  unfold effLen at he
  split at he
  · rename_i hk
    split at he
    · rename_i l
      cases he
      rw [hx.str_]
      exact Yld.only ⟨rfl, rfl, rfl, rfl⟩ (v := .int .i64 l.length) (by simp [Builtin.len_, run_underlying (ty_str hT hk), goInt]; rfl) (.int _ _) (by simp [names])
    · cases he
  · rename_i el hk
    obtain ⟨r, hr, rfl⟩ := Option.map_eq_some_iff.1 he
    obtain ⟨sz, rs⟩ := r
    have hrel := h.rows hbl hx hr
    clear hx
    cases hrel with
    | sl sz rs A c b o val hc hm hA hrow hcell hval =>
    exact Yld.only ⟨rfl, rfl, rfl, rfl⟩ (v := .int .i64 rs.length) (by simp [Builtin.len_, run_underlying (ty_slice hT hk).1, goInt]) (.int _ _) (by simp [names])
  · cases he

theorem isU8_eq {k : K} (h : isU8 k = true) : k = .int .u8 := by
  cases k with
  | int k => cases k <;> simp [isU8] at h; rfl
  | _ => simp [isU8] at h

theorem bytes_text_sound (hT : TOk P D) (h : St0 D S N0 B w0 ρ σ a w) {bl : Nat → Option Blk} (hbl : ∀ n x, bl n = some x → blk σ n = some x) {R T el sz : Nat} {rs : List (List AV)} {x : AV} {v : Value}
    (hk2 : (D R).k = .slice el) (hk : (D T).k = .str) (hk3 : (D el).k = .int .u8) (hx : Rel w (Im S N0 B w ρ σ) ρ x v) (hr : rowsOf bl x = some (sz, rs)) (hp : isB rs) : (convert R T v).run P w = .ok (.string ⟨⟨bytesOf rs⟩⟩) w := by
  have hrel := h.rows hbl hx hr
  obtain ⟨hu, hne, hpz⟩ := ty_slice hT hk2
  have hu8 := ty_int hT hk3
  have hd := ty_str hT hk
  unfold isB at hp
  generalize hbo : bytesOf rs = l at *
  subst hp
  clear hx
  cases hrel with
  | sl sz rs A c b o val hc hm hA hrow hcell hval =>
  have hl : (l.map byteRow).length = l.length := by simp
  rw [hl]
  cases A with
  | none =>
    have : l = [] := by
      cases l with
      | nil => rfl
      | cons x r => have := (hA (by simp)).1; cases this
    subst this
    exact run_convert_bytes_nil w R el hu hu8 _ _ T hd
  | some ad =>
    have hcell' : ∀ j (hj : j < l.length), w.cell? (ad.add j) = some (.int .u8 (l[j].toNat : Int)) := by
      intro j hj
      obtain ⟨hA1, hA2⟩ := hA (by simp; omega)
      cases hA1
      have hr1 : (l.map byteRow)[j]? = some (byteRow l[j]) := by simp [hj]
      have hr2 : (byteRow l[j])[0]? = some (.int .u8 l[j].toNat) := rfl
      have hsz : sz = 1 := by rw [← hrow j _ hr1]; rfl
      have h1 := (hcell j 0 _ _ hr1 hr2).1
      have h2 := (hval j 0 _ _ hr1 hr2).int_
      rw [h2, hsz] at h1
      rw [add_flat']
      simpa using h1
    exact run_convert_bytes_back w R T el ad c l hu hu8 hd hcell'

theorem index_sound (hT : TOk P D) {T : Nat} {l : List UInt8} {k : IntKind} {n : Int} (hk : (D T).k = .str) (h0 : 0 ≤ n) (h1 : n < l.length) :
    (Instr.index T (.string ⟨⟨l⟩⟩) (.int k n)).run P w = .ok (.int .u8 (l.getD n.toNat 0).toNat) w := by
  have hlt : n.toNat < l.length := by omega
  have hg : (⟨⟨l⟩⟩ : ByteArray)[n.toNat]? = some l[n.toNat] := by
    have hs : n.toNat < (⟨⟨l⟩⟩ : ByteArray).size := hlt
    rw [getElem?_pos (⟨⟨l⟩⟩ : ByteArray) n.toNat hs]
    rfl
  simp [Instr.index, asIntOf, run_underlying (ty_str hT hk), h0, hg, List.getD_eq_getElem?_getD, hlt]

/-! structs built -/
theorem splice_len {o : Nat} {new old : List AV} (h : o + new.length ≤ old.length) : (splice o new old).length = old.length := by simp [splice]; omega
theorem splice_get {o : Nat} {new old : List AV} (h : o + new.length ≤ old.length) (i : Nat) : (splice o new old)[i]? = if o ≤ i ∧ i < o + new.length then new[i - o]? else old[i]? := by
  unfold splice
  by_cases h1 : i < o
  · rw [if_neg (by omega), List.append_assoc, List.getElem?_append_left (by simp; omega), List.getElem?_take, if_pos h1]
  · by_cases h2 : i < o + new.length
    · rw [if_pos (by omega), List.append_assoc, List.getElem?_append_right (by simp; omega), List.getElem?_append_left (by simp; omega)]
      congr 1
      simp; omega
    · rw [if_neg (by omega), List.append_assoc, List.getElem?_append_right (by simp; omega), List.getElem?_append_right (by simp; omega), List.getElem?_drop]
      congr 1
      simp; omega
theorem foldl_set (off : Nat) : ∀ (vs : List Value) (k : Nat) (cs : Array Value), off + k + vs.length ≤ cs.size →
    ((vs.zipIdx k).foldl (fun cs (c, j) => cs.setIfInBounds (off + j) c) cs).size = cs.size ∧
    ∀ i, ((vs.zipIdx k).foldl (fun cs (c, j) => cs.setIfInBounds (off + j) c) cs)[i]? = if off + k ≤ i ∧ i < off + k + vs.length then vs[i - (off + k)]? else cs[i]?
  | [], k, cs, h => by
    refine ⟨rfl, fun i => ?_⟩
    simp only [List.zipIdx_nil, List.foldl_nil, List.length_nil, Nat.add_zero]
    rw [if_neg (by omega)]
  | v :: r, k, cs, h => by
    simp only [List.length_cons] at h
    obtain ⟨h1, h2⟩ := foldl_set off r (k + 1) (cs.setIfInBounds (off + k) v) (by rw [Array.size_setIfInBounds]; omega)
    rw [List.zipIdx_cons, List.foldl_cons]
    refine ⟨by rw [h1]; simp, fun i => ?_⟩
    rw [h2 i]
    by_cases e : i = off + k
    · subst e
      rw [if_neg (by omega), if_pos (by simp), Nat.sub_self, List.getElem?_cons_zero, Array.getElem?_setIfInBounds_self_of_lt (by omega)]
    · by_cases e2 : off + (k + 1) ≤ i ∧ i < off + (k + 1) + r.length
      · rw [if_pos e2, if_pos (by simp; omega)]
        have : i - (off + k) = (i - (off + (k + 1))) + 1 := by omega
        rw [this, List.getElem?_cons_succ]
      · rw [if_neg e2, if_neg (by simp; omega), Array.getElem?_setIfInBounds_ne (by omega)]

/-- cells as the evaluator has them -/
def CRel (w : World) (im : Nat → Prop) (ρ : Env) (cs : List AV) (vs : Array Value) : Prop :=
  vs.size = cs.length ∧ ∀ (i : Nat) x v, cs[i]? = some x → vs[i]? = some v → v.oneCell' = true ∧ Rel w im ρ x v
theorem cells_rel {w : World} {im : Nat → Prop} {ρ : Env} {x : AV} {v : Value} (h : Rel w im ρ x v) (hg : good x = true) : CRel w im ρ (cellsOf x) v.cells := by
  have one : ∀ {y : AV} {u : Value}, Rel w im ρ y u → u.oneCell' = true → u.cells = #[u] → cellsOf y = [y] → CRel w im ρ (cellsOf y) u.cells := by
    intro y u h1 h2 h3 h4
    rw [h3, h4]
    refine ⟨rfl, fun i z v hz hv => ?_⟩
    cases i with
    | zero => simp at hz hv; subst hz hv; exact ⟨h2, h1⟩
    | succ i => simp at hz
  cases h with
  | junk v => cases hg
  | int k n => exact one (.int k n) rfl rfl rfl
  | bool b => exact one (.bool b) rfl rfl rfl
  | str l => exact one (.str l) rfl rfl rfl
  | nils => exact one .nils rfl rfl rfl
  | sl sz rs A c b o val hc hm hA hrow hcell hval => exact one (.sl sz rs A c b o val hc hm hA hrow hcell hval) rfl rfl rfl
  | os t => exact one (.os t) rfl rfl rfl
  | ptr v off b h => exact one (.ptr v off b h) rfl rfl rfl
  | iptr cs b o val hb hcell hval => exact one (.iptr cs b o val hb hcell hval) rfl rfl rfl
  | eptr t i off b h => exact one (.eptr t i off b h) rfl rfl rfl
  | func f cs vs hl hval => exact one (.func f cs vs hl hval) rfl rfl rfl
  | agg cs vs hl h1 hval => exact ⟨hl, fun i x v hx hv => ⟨h1 i v hv, hval i x v hx hv⟩⟩
  | tup cs vs hl hval => cases hg
  | opt g x v h1 h2 => cases hg
end
end Go.Proofs.Ytcgdjdlcecnanaa.Ab
