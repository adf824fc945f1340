/-
  Structs and slices written out; texts made bytes.
  No condition.
-/
import Derived.Test.YtcgdjdlcecnanaaAbJ
import Derived.Laws.MakeOwn
namespace Go.Proofs.Ytcgdjdlcecnanaa.Ab
open Go
set_option linter.unusedVariables false
set_option linter.unusedSimpArgs false

section
variable {P : Program} {D : Nat → TI} {S N0 : Nat → Prop} {B : Nat} {w0 : W0} {ρ : Env} {σ : AS} {a : Act} {w : World}

theorem names_cellsOf (x : AV) : namess (cellsOf x) = names x := by
  cases x <;> simp [cellsOf, namess, names]

/-! structs -/
theorem fill_sound {im : Nat → Prop} {fs : List (Nat × Nat)} {place : Nat → Option (Nat × Nat)} (hpl : ∀ (i o t : Nat), fs[i]? = some (o, t) → place i = some (o, (D t).n)) :
    ∀ {ps : List (Nat × AV)} {qs : List (Nat × Value)} {cs cs' : List AV} {arr : Array Value}, CRel w im ρ cs arr → ps.length = qs.length → (∀ (k i : Nat) (x : AV), ps[k]? = some (i, x) → ∃ v, qs[k]? = some (i, v) ∧ Rel w im ρ x v) → fillS fs D cs ps = some cs' →
      ∃ arr', Instr.fill place arr qs = some arr' ∧ CRel w im ρ cs' arr' ∧ ∀ n ∈ namess cs', n ∈ namess cs ∨ ∃ (k i : Nat) (x : AV), ps[k]? = some (i, x) ∧ n ∈ names x
  | [], [], cs, cs', arr, hc, _, _, he => by
    cases he
    exact ⟨arr, rfl, hc, fun n hn => .inl hn⟩
  | [], _ :: _, _, _, _, _, h, _, _ => by simp at h
  | _ :: _, [], _, _, _, _, h, _, _ => by simp at h
  | (i, x) :: ps, (i', v) :: qs, cs, cs', arr, hc, hl, hr, he => by
    obtain ⟨v', hv', hx⟩ := hr 0 i x rfl
    simp at hv'
    obtain ⟨e1, e2⟩ := hv'
    subst e1 e2
    rw [fillS] at he
    split at he
    case h_2 => cases he
    rename_i o t hft
    split at he
    case isFalse => cases he
    rename_i hcond
    obtain ⟨p0, p1, p2⟩ := hcond
    have hcx := cells_rel hx p0
    have hsz : v.cells.size = (D t).n := by rw [hcx.1, p1]
    have hl' : o + (cellsOf x).length ≤ cs.length := by omega
    obtain ⟨q1, q2⟩ := foldl_set o v.cells.toList 0 arr (by rw [Nat.add_zero, Array.length_toList, hc.1]; omega)
    have hfold : v.cells.zipIdx.foldl (fun cs (c, j) => cs.setIfInBounds (o + j) c) arr = (v.cells.toList.zipIdx 0).foldl (fun cs (c, j) => cs.setIfInBounds (o + j) c) arr := by
      rw [← Array.foldl_toList]
      simp
    have hc' : CRel w im ρ (splice o (cellsOf x) cs) (v.cells.zipIdx.foldl (fun cs (c, j) => cs.setIfInBounds (o + j) c) arr) := by
      rw [hfold]
      refine ⟨by rw [q1, splice_len hl', hc.1], fun k z u hz hu => ?_⟩
      rw [splice_get hl'] at hz
      rw [q2] at hu
      simp only [Nat.add_zero, Array.length_toList, hcx.1] at hu
      split at hz
      · rename_i hin
        rw [if_pos hin] at hu
        simp only [Array.getElem?_toList] at hu
        exact hcx.2 _ z u hz hu
      · rename_i hin
        rw [if_neg hin] at hu
        exact hc.2 k z u hz hu
    obtain ⟨arr', h1, h2, h3⟩ := fill_sound hpl (ps := ps) (qs := qs) hc' (by simpa using hl) (fun k i x hk => hr (k + 1) i x (by simpa using hk)) he
    refine ⟨arr', ?_, h2, fun n hn => ?_⟩
    · rw [Instr.fill, hpl _ o t hft]
      simp only
      rw [if_neg ?_]
      · exact h1
      · simp only [Bool.or_eq_true, decide_eq_true_eq]
        have := hc.1
        omega
    · rcases h3 n hn with h4 | ⟨k, j, y, hk, hy⟩
      · obtain ⟨k, z, hz, hnz⟩ := namess_mem h4
        rw [splice_get hl'] at hz
        split at hz
        · refine .inr ⟨0, _, x, rfl, ?_⟩
          rw [← names_cellsOf]
          exact mem_namess hz hnz
        · exact .inl (mem_namess hz hnz)
      · exact .inr ⟨k + 1, j, y, by simpa using hk, hy⟩

theorem places_some : ∀ {fs : List (Nat × Nat)} {flds : List Field}, fieldsB P D fs flds = true →
    flds.mapM (fun f => (P.info? f.type).map fun i => (f.offset, i.size)) = some (fs.map fun x => (x.1, (D x.2).n))
  | [], [], _ => rfl
  | [], _ :: _, h => by simp [fieldsB] at h
  | _ :: _, [], h => by simp [fieldsB] at h
  | (o, t) :: fs, f :: flds, h => by
    simp only [fieldsB, Bool.and_eq_true, decide_eq_true_eq] at h
    obtain ⟨⟨⟨h1, h2⟩, h3⟩, h4⟩ := h
    have ih := places_some h4
    cases hs : sizeB P t with
    | none => rw [hs] at h3; cases h3
    | some n =>
      rw [hs] at h3
      simp only [Bool.and_eq_true, decide_eq_true_eq] at h3
      unfold sizeB at hs
      obtain ⟨i, hi, hi2⟩ := Option.map_eq_some_iff.1 hs
      simp [List.mapM_cons, h2, hi, ih, h1, hi2, h3.2]

theorem build_sound (hT : TOk P D) {T : Nat} {fs : List (Nat × Nat)} {ps : List (Nat × AV)} {parts : Array (Nat × Value)} {im : Nat → Prop} {cs : List AV} (hk : (D T).k = .struct fs) (hl : ps.length = parts.toList.length)
    (hr : ∀ (k i : Nat) (x : AV), ps[k]? = some (i, x) → ∃ v, parts.toList[k]? = some (i, v) ∧ Rel w im ρ x v) (he : fillS fs D (D T).zero ps = some cs) :
    ∃ arr, (Instr.build T parts).run P w = .ok (.agg arr) w ∧ CRel w im ρ cs arr ∧ ∀ n ∈ namess cs, ∃ (k i : Nat) (x : AV), ps[k]? = some (i, x) ∧ n ∈ names x := by
  obtain ⟨flds, hu, hf⟩ := ty_struct hT hk
  obtain ⟨i, z, hi, hi1, hi2, hi3, hi4, hi5⟩ := ty_info hT (T := T) (by rw [hk]; rfl)
  obtain ⟨hz1, hz2, hz3⟩ := zeroB_ok hi4
  have hc : CRel w im ρ (D T).zero z.cells := ⟨by simpa using hz1, fun k x v hx hv => ⟨(hz3 k x v hx (by simpa using hv)).1, (hz3 k x v hx (by simpa using hv)).2 _ _ _⟩⟩
  have hpl : ∀ (i o t : Nat), fs[i]? = some (o, t) → ((fs.map fun x => (x.1, (D x.2).n)).toArray[i]?) = some (o, (D t).n) := by
    intro i o t h
    simp [h]
  obtain ⟨arr, h1, h2, h3⟩ := fill_sound (place := fun i => (fs.map fun x => (x.1, (D x.2).n)).toArray[i]?) hpl hc hl hr he
  refine ⟨arr, run_build w T parts arr ?_, h2, fun n hn => ?_⟩
  · unfold Program.built
    simp only [hi, hu, hi3, places_some hf]
    exact h1
  · rcases h3 n hn with h4 | h4
    · rw [hz2] at h4; cases h4
    · exact h4

/-! slices written out -/
theorem fillRows {sz : Nat} : ∀ (vs : List Value) (k : Nat) (arr : Array Value), (k + vs.length) * sz ≤ arr.size → (∀ v ∈ vs, v.cells.size = sz) →
    ∃ arr', Instr.fill (fun i => some (i * sz, sz)) arr ((List.range' k vs.length).zip vs) = some arr' ∧ arr'.size = arr.size ∧ (∀ i, i < k * sz → arr'[i]? = arr[i]?) ∧
      ∀ (m : Nat) v j, vs[m]? = some v → j < sz → arr'[(k + m) * sz + j]? = v.cells[j]?
  | [], k, arr, _, _ => ⟨arr, rfl, rfl, fun _ _ => rfl, by simp⟩
  | v :: vs, k, arr, hb, hs => by
    have hv := hs v (by simp)
    simp only [List.length_cons] at hb
    have hb1 : (k + 1) * sz ≤ arr.size := Nat.le_trans (Nat.mul_le_mul_right _ (by omega)) hb
    have hb2 := hb1
    rw [Nat.add_mul] at hb2
    obtain ⟨q1, q2⟩ := foldl_set (k * sz) v.cells.toList 0 arr (by rw [Nat.add_zero, Array.length_toList]; omega)
    have hfold : v.cells.zipIdx.foldl (fun cs (c, j) => cs.setIfInBounds (k * sz + j) c) arr = (v.cells.toList.zipIdx 0).foldl (fun cs (c, j) => cs.setIfInBounds (k * sz + j) c) arr := by
      rw [← Array.foldl_toList]
      simp
    obtain ⟨arr', h1, h2, h3, h4⟩ := fillRows vs (k + 1) (v.cells.zipIdx.foldl (fun cs (c, j) => cs.setIfInBounds (k * sz + j) c) arr) (by rw [hfold, q1, show k + 1 + vs.length = k + (vs.length + 1) by omega]; exact hb) (fun u hu => hs u (by simp [hu]))
    refine ⟨arr', ?_, by rw [h2, hfold, q1], fun i hi => ?_, fun m u j hm hj => ?_⟩
    · rw [List.length_cons, List.range'_succ, List.zip_cons_cons, Instr.fill]
      simp only
      rw [if_neg ?_]
      · exact h1
      · simp only [Bool.or_eq_true, decide_eq_true_eq]
        omega
    · rw [h3 i (by rw [Nat.add_mul]; omega), hfold, q2, if_neg (by omega)]
    · cases m with
      | zero =>
        simp at hm
        subst hm
        rw [Nat.add_zero, h3 _ (by rw [Nat.add_mul]; omega), hfold, q2, if_pos (by rw [Array.length_toList]; omega)]
        simp
      | succ m =>
        simp at hm
        have := h4 m u j hm hj
        rw [show k + (m + 1) = k + 1 + m by omega]
        exact this

theorem buildSlice_sound (hT : TOk P D) (h : St0 D S N0 B w0 ρ σ a w) {T n dst e : Nat} {xs : List AV} {vs : List Value} (hk : (D T).k = .slice e) (hn : xs.length = n) (hr : Rels w (Im S N0 B w ρ σ) ρ xs vs)
    (hg : xs.all (goodRow (D e).n) = true) (hsm : n * (D e).n ≤ 16777216) (hd : blk σ dst = none) :
    ∃ r w', (Instr.buildSlice T n ((List.range n).zip vs).toArray).run P w = .ok r w' ∧ Mak D S N0 B w0 σ a { v := .os dst, nw := [(dst, .rows e (D e).n (xs.map cellsOf))] } r w' := by
  obtain ⟨hu, hne, hpz⟩ := ty_slice hT hk
  obtain ⟨i, z, hi, hi1, hi2, hi3, hi4, hi5⟩ := ty_info hT hne
  have hvl : vs.length = n := by rw [hr.1, hn]
  have hgood : ∀ (m : Nat) x, xs[m]? = some x → good x = true ∧ (cellsOf x).length = (D e).n ∧ names x = [] := by
    intro m x hx
    have := List.all_eq_true.1 hg x (List.mem_of_getElem? hx)
    simp only [goodRow, Bool.and_eq_true, decide_eq_true_eq] at this
    refine ⟨this.1.1, this.1.2, ?_⟩
    have h2 := this.2
    rw [names_cellsOf] at h2
    cases hq : names x with
    | nil => rfl
    | cons c r => rw [hq] at h2; cases h2
  have hcx : ∀ (m : Nat) v, vs[m]? = some v → ∃ x, xs[m]? = some x ∧ CRel w (Im S N0 B w ρ σ) ρ (cellsOf x) v.cells := by
    intro m v hv
    have hlt : m < xs.length := by rw [← hr.1]; exact (List.getElem?_eq_some_iff.1 hv).1
    have hx : xs[m]? = some xs[m] := by simp [hlt]
    exact ⟨_, hx, cells_rel (hr.2 m _ v hx hv) (hgood m _ hx).1⟩
  have hcs : ∀ v ∈ vs, v.cells.size = (D e).n := by
    intro v hv
    obtain ⟨m, hm⟩ := List.getElem?_of_mem hv
    obtain ⟨x, hx, hc⟩ := hcx m v hm
    rw [hc.1, (hgood m x hx).2.1]
  -- the cells
  have main : ∀ base : Array Value, base.size = n * (D e).n → ∃ arr, Instr.fill (fun i => some (i * (D e).n, (D e).n)) base ((List.range n).zip vs) = some arr ∧ arr.size = n * (D e).n ∧ FlatRel w (Im S N0 B w ρ σ) ρ (D e).n (xs.map cellsOf) arr.toList := by
    intro base hb
    obtain ⟨arr, h1, h2, _, h4⟩ := fillRows (sz := (D e).n) vs 0 base (by rw [hb, hvl]; simp) hcs
    rw [hvl, ← List.range_eq_range'] at h1
    refine ⟨arr, h1, by rw [h2, hb], by simp [h2, hb, hn], fun m row hm => ?_⟩
    rw [List.getElem?_map] at hm
    obtain ⟨x, hx, rfl⟩ := Option.map_eq_some_iff.1 hm
    obtain ⟨g1, g2, g3⟩ := hgood m x hx
    refine ⟨g2, fun j y hy => ?_⟩
    obtain ⟨v, hv, _⟩ := hr.at_ hx
    obtain ⟨x', hx', hc⟩ := hcx m v hv
    rw [hx] at hx'
    cases hx'
    have hj : j < (D e).n := by rw [← g2]; exact (List.getElem?_eq_some_iff.1 hy).1
    have hlt : j < v.cells.size := by rw [hc.1]; exact (List.getElem?_eq_some_iff.1 hy).1
    have hq := h4 m v j hv hj
    rw [Nat.zero_add] at hq
    obtain ⟨q1, q2⟩ := hc.2 j y v.cells[j] hy (by simp [hlt])
    refine ⟨?_, v.cells[j], by simpa [hlt] using hq, q1, q2⟩
    refine List.eq_nil_iff_forall_not_mem.2 fun k hk => ?_
    have := mem_namess hy hk
    rw [names_cellsOf, g3] at this
    cases this
  have fin : ∀ arr : Array Value, arr.size = n * (D e).n → FlatRel w (Im S N0 B w ρ σ) ρ (D e).n (xs.map cellsOf) arr.toList → (Instr.buildSlice T n ((List.range n).zip vs).toArray).run P w = .ok (.slice (some ⟨w.heap.size, 0, none⟩) n n) (w.alloc (.cells arr e)) →
      ∃ r w', (Instr.buildSlice T n ((List.range n).zip vs).toArray).run P w = .ok r w' ∧ Mak D S N0 B w0 σ a { v := .os dst, nw := [(dst, .rows e (D e).n (xs.map cellsOf))] } r w' := by
    intro arr harr hf hrun
    have hlen : (xs.map cellsOf).length = n := by simp [hn]
    have hmax : n ≤ maxLen := by
      have h1 : n * 1 ≤ n * (D e).n := Nat.mul_le_mul_left _ hpz
      have h2 : n ≤ 16777216 := by omega
      exact Nat.le_trans h2 (by decide)
    obtain ⟨i', hi', hst, _⟩ := h.newRows (w' := w.alloc (.cells arr e)) hT (n := dst) (e := e) (ks := []) (rs := xs.map cellsOf) (row := none) (v := .slice (some ⟨w.heap.size, 0, none⟩) n n) (vs := arr.toList) hd hpz
      ⟨by simpa [hlen] using harr, .inr ⟨w.heap.size, n, arr, by rw [hlen], Nat.zero_le _, heap_alloc_new w _, by rw [hlen]; exact Nat.le_refl _, hmax, harr, by rw [hlen, ← harr, ← Array.length_toList, List.take_length]⟩⟩
      hf ⟨rfl, rfl, rfl, by simp, fun k hk _ => pushed_old hk⟩ (fun b hb => by cases hb) (fun b hb => by simp [Value.ownBlock] at hb; exact .inr (by omega))
    refine ⟨_, _, hrun, _, hst, ?_, fun m hm => ?_⟩
    · have : ((ρ.set dst i') dst).sv = .slice (some ⟨w.heap.size, 0, none⟩) n n := by rw [Env.set_eq]; exact hi'
      rw [← this]
      exact .os dst
    · simp [names] at hm
      subst hm
      show (blk (stepS σ _ [(m, _)] []) m).isSome = true
      rw [blk_step_new]; rfl
  by_cases h0 : n = 0
  · subst h0
    obtain ⟨arr, h1, h2, h3⟩ := main #[] (by simp)
    have hv0 : vs = [] := List.eq_nil_of_length_eq_zero hvl
    subst hv0
    simp [Instr.fill] at h1
    subst h1
    refine fin #[] h2 h3 ?_
    have e0 : (Array.map (fun x => (default : Value)) (Array.range 0)) = #[] := by simp
    simp [Instr.buildSlice, run_underlying hu, ty_size hT hne, Instr.fill, newRow, World.alloc_eq]
    congr 2
  · have hp : 0 < n * (D e).n := Nat.mul_pos (by omega) hpz
    obtain ⟨arr, h1, h2, h3⟩ := main ((Array.range (n * (D e).n)).map (z.cells[· % z.cells.size]!)) (by simp)
    refine fin arr h2 h3 ?_
    refine run_buildSlice w T e n _ arr i z hu hi hi3 (by rw [hi1]; omega) (by rw [hi1]; omega) ?_
    rw [hi1]
    exact h1

/-- texts made bytes -/
theorem conv_bytes_sound (hT : TOk P D) (h : St0 D S N0 B w0 ρ σ a w) {R T e : Nat} {l : List UInt8} (hR : (P.underlying R) = some .string) (hk : (D T).k = .slice e) (hk8 : (D e).k = .int .u8) (hl : l.length ≤ 1099511627776) :
    ∃ r w', (convert R T (.string ⟨⟨l⟩⟩)).run P w = .ok r w' ∧ Mak D S N0 B w0 σ a { v := .sl 1 (l.map byteRow) } r w' := by
  obtain ⟨hu, hne, hpz⟩ := ty_slice hT hk
  have hrun := run_bytes_of_string (P := P) w R T e ⟨⟨l⟩⟩ hR hu (ty_int hT hk8)
  have hlz : (⟨⟨l⟩⟩ : ByteArray).size = l.length := rfl
  rw [hlz] at hrun
  refine ⟨_, _, hrun, ρ, ?_, ?_, by simp [names]⟩
  · exact (h.step (w' := w.drew.alloc _) (ks := []) (nw := []) (up := []) rfl rfl rfl (by simp) (fun b hb _ => pushed_old hb) (fun _ _ _ => rfl) (fun m hm => by simp [keys] at hm) (fun m hm => by simp [keys] at hm)
      (fun _ n y hy => by simp [get] at hy) (fun n b hn => by simp [keys] at hn) (fun n m b hn => by simp [keys] at hn)).1
  · have hz : (l.map byteRow).length = l.length := by simp
    have hcm : grownCap w l.length 0 e ≤ maxLen := grownCap_le_maxLen w l.length 0 e (Nat.le_trans hl (by decide))
    have hge := grownCap_ge w l.length 0 e
    generalize hgc : grownCap w l.length 0 e = gc at *
    have hsl : (Value.slice (some ⟨w.heap.size, 0, none⟩) l.length gc) = .slice (some ⟨w.heap.size, 0, none⟩) (l.map byteRow).length gc := by rw [hz]
    rw [hsl]
    refine .sl 1 (l.map byteRow) _ _ w.heap.size 0 (fun i j => .int .u8 (l.getD i 0).toNat) (by rw [hz]; exact hge) hcm (fun _ => ⟨rfl, ?_⟩) (fun i row hi => ?_) (fun i j row x hi hj => ?_) (fun i j row x hi hj => ?_)
    · refine ⟨by simp, .inr (.inl (Nat.le_trans h.base h.frm.size)), fun n x hx hb => ?_⟩
      have hx' : blk σ n = some x := by
        have : blk (stepS σ [] [] []) n = some x := hx
        rw [blk_step] at this
        simp only [get, List.not_mem_nil, if_false] at this
        obtain ⟨y, hy, rfl⟩ := mapBlk_some this
        have hbl := h.named_lt hy hb
        omega
      have := h.named_lt hx' hb
      omega
    · rw [List.getElem?_map] at hi
      obtain ⟨c, hc, rfl⟩ := Option.map_eq_some_iff.1 hi
      rfl
    · rw [List.getElem?_map] at hi
      obtain ⟨c, hc, rfl⟩ := Option.map_eq_some_iff.1 hi
      have hi' := (List.getElem?_eq_some_iff.1 hc).1
      cases j with
      | succ j => simp [byteRow] at hj
      | zero =>
        simp [byteRow] at hj
        subst hj
        refine ⟨?_, rfl, by simp [names]⟩
        have h1 := World.cell?_alloc_mark w.drew (bytesRow ⟨⟨l⟩⟩ gc) e ((bytesRow ⟨⟨l⟩⟩ gc).size, (bytesRow ⟨⟨l⟩⟩ gc).size + 1) i
        rw [bytesRow_at ⟨⟨l⟩⟩ _ i (by simpa using hi')] at h1
        rw [Nat.zero_add, Nat.mul_one, Nat.add_zero]
        refine h1.trans ?_
        have : l[i] = c := by
          have := hc
          rw [List.getElem?_eq_getElem hi'] at this
          exact Option.some.inj this
        simp [List.getD_eq_getElem?_getD, hc, this]
    · rw [List.getElem?_map] at hi
      obtain ⟨c, hc, rfl⟩ := Option.map_eq_some_iff.1 hi
      cases j with
      | succ j => simp [byteRow] at hj
      | zero =>
        simp [byteRow] at hj
        subst hj
        simp only [List.getD_eq_getElem?_getD, hc, Option.getD_some]
        exact .int _ _
theorem make_sound (hT : TOk P D) (h : St0 D S N0 B w0 ρ σ a w) {T e n : Nat} {kl kc : IntKind} (hk : (D T).k = .slice e) (hk8 : (D e).k = .int .u8) (hb1 : (D e).bytes = 1) (hn : n ≤ 65536) :
    ∃ r w', (Instr.makeSlice T (.int kl (n : Int)) (.int kc (n : Int))).run P w = .ok r w' ∧ Mak D S N0 B w0 σ a { v := .sl 1 ((List.replicate n (0 : UInt8)).map byteRow) } r w' := by
  obtain ⟨hu, hne, hpz⟩ := ty_slice hT hk
  obtain ⟨i, z, hi, hi1, hi2, hi3, hi4, hi5⟩ := ty_info hT hne
  have hz := ty_zint hT hk8 hi
  rw [hz] at hi3
  cases hi3
  have hin : i.size = 1 := by
    have h1 := zeroB_ok hi4
    rw [hi1, ← hi5, ← h1.1]
    rfl
  have hbb : (i.bytes : Int) * n ≤ 281474976710656 := by rw [hi2, hb1]; omega
  have hrun := run_make (P := P) w T e i (.int .u8 0) hu hi hz kl kc n n (by omega) (Int.le_refl _) hbb (by omega)
  rw [hin, Nat.mul_one, Int.toNat_natCast] at hrun
  refine ⟨_, _, hrun, ρ, ?_, ?_, by simp [names]⟩
  · exact (h.step (w' := w.alloc _) (ks := []) (nw := []) (up := []) rfl rfl rfl (by simp) (fun b hb _ => pushed_old hb) (fun _ _ _ => rfl) (fun m hm => by simp [keys] at hm) (fun m hm => by simp [keys] at hm)
      (fun _ n y hy => by simp [get] at hy) (fun n b hn => by simp [keys] at hn) (fun n m b hn => by simp [keys] at hn)).1
  · have hsl : (Value.slice (some ⟨w.heap.size, 0, none⟩) n n) = .slice (some ⟨w.heap.size, 0, none⟩) ((List.replicate n (0 : UInt8)).map byteRow).length n := by simp
    have hcell : ∀ (i : Nat) row, ((List.replicate n (0 : UInt8)).map byteRow)[i]? = some row → i < n ∧ row = [.int .u8 0] := fun i row hi => by
      rw [List.getElem?_map, List.getElem?_replicate] at hi
      split at hi
      · rename_i hlt
        cases hi
        exact ⟨hlt, rfl⟩
      · cases hi
    rw [hsl]
    refine .sl 1 _ _ _ w.heap.size 0 (fun i j => .int .u8 0) (by simp) (Nat.le_trans hn (by simp [maxLen])) (fun _ => ⟨rfl, ?_⟩) (fun i row hi => ?_) (fun i j row x hi hj => ?_) (fun i j row x hi hj => ?_)
    · refine ⟨by simp, .inr (.inl (Nat.le_trans h.base h.frm.size)), fun n x hx hb => ?_⟩
      have hx' : blk σ n = some x := by
        have : blk (stepS σ [] [] []) n = some x := hx
        rw [blk_step] at this
        simp only [get, List.not_mem_nil, if_false] at this
        obtain ⟨y, hy, rfl⟩ := mapBlk_some this
        have hbl := h.named_lt hy hb
        omega
      have := h.named_lt hx' hb
      omega
    · rw [(hcell i row hi).2]; rfl
    · obtain ⟨hlt, rfl⟩ := hcell i row hi
      cases j with
      | succ j => simp at hj
      | zero =>
        simp at hj
        subst hj
        refine ⟨?_, rfl, by simp [names]⟩
        rw [Nat.zero_add, Nat.mul_one, Nat.add_zero]
        unfold World.cell?
        have : (w.alloc (.cells (madeCells (Value.int IntKind.u8 0).cells n) e)).heap[w.heap.size]? = some (.cells (madeCells (Value.int IntKind.u8 0).cells n) e) := by
          show (w.heap.push _)[w.heap.size]? = _
          simp
        rw [this]
        simp [madeCells, hlt, Value.cells, Nat.mod_one]
    · obtain ⟨hlt, rfl⟩ := hcell i row hi
      cases j with
      | succ j => simp at hj
      | zero => simp at hj; subst hj; exact .int _ _
end
end Go.Proofs.Ytcgdjdlcecnanaa.Ab
