/-
  What the abstract values mean: how a value in memory is as an abstract one tells. That this stays so where memory that is read stays as it is.
  No condition.
-/
import Derived.Test.YtcgdjdlcecnanaaAbA
import Derived.Below
namespace Go.Proofs.Ytcgdjdlcecnanaa.Ab
open Go
set_option linter.unusedVariables false

/-- what a name stands for: a block, the slice's value, how many cells an element has -/
structure NI where
  b : Option Nat
  A : Option Addr
  n : Nat
  c : Nat
  sz : Nat
def NI.sv (i : NI) : Value := .slice i.A i.n i.c
abbrev Env := Nat → NI

inductive Rel (w : World) (im : Nat → Prop) (ρ : Env) : AV → Value → Prop
  | junk (v : Value) : Rel w im ρ .junk v
  | int (k : IntKind) (n : Int) : Rel w im ρ (.int k n) (.int k n)
  | bool (b : Bool) : Rel w im ρ (.bool b) (.bool b)
  | str (l : List UInt8) : Rel w im ρ (.str l) (.string ⟨⟨l⟩⟩)
  | nils : Rel w im ρ .nils (.slice none 0 0)
  | sl (sz : Nat) (rs : List (List AV)) (A : Option Addr) (c b o : Nat) (val : Nat → Nat → Value) (hc : rs.length ≤ c) (hm : c ≤ maxLen)
      (hA : 0 < rs.length → A = some ⟨b, o, none⟩ ∧ im b)
      (hrow : ∀ (i : Nat) row, rs[i]? = some row → row.length = sz)
      (hcell : ∀ (i j : Nat) row x, rs[i]? = some row → row[j]? = some x → w.cell? ⟨b, o + (i * sz + j), none⟩ = some (val i j) ∧ (val i j).oneCell' = true ∧ names x = [])
      (hval : ∀ (i j : Nat) row x, rs[i]? = some row → row[j]? = some x → Rel w im ρ x (val i j)) : Rel w im ρ (.sl sz rs) (.slice A rs.length c)
  | os (t : Nat) : Rel w im ρ (.os t) (ρ t).sv
  | ptr (v off b : Nat) (h : (ρ v).b = some b) : Rel w im ρ (.ptr v off) (.pointer (some ⟨b, off, none⟩))
  | iptr (cs : List AV) (b o : Nat) (val : Nat → Value) (hb : im b)
      (hcell : ∀ (j : Nat) x, cs[j]? = some x → w.cell? ⟨b, o + j, none⟩ = some (val j) ∧ (val j).oneCell' = true ∧ names x = [])
      (hval : ∀ (j : Nat) x, cs[j]? = some x → Rel w im ρ x (val j)) : Rel w im ρ (.iptr cs) (.pointer (some ⟨b, o, none⟩))
  | eptr (t i off b : Nat) (h : (ρ t).b = some b) : Rel w im ρ (.eptr t i off) (.pointer (some ⟨b, i * (ρ t).sz + off, none⟩))
  | func (f : Nat) (cs : List AV) (vs : Array Value) (hl : vs.size = cs.length) (hval : ∀ (i : Nat) x v, cs[i]? = some x → vs[i]? = some v → Rel w im ρ x v) : Rel w im ρ (.func f cs) (.func (.func f) #[] vs)
  | agg (cs : List AV) (vs : Array Value) (hl : vs.size = cs.length) (h1 : ∀ (i : Nat) v, vs[i]? = some v → v.oneCell' = true) (hval : ∀ (i : Nat) x v, cs[i]? = some x → vs[i]? = some v → Rel w im ρ x v) : Rel w im ρ (.agg cs) (.agg vs)
  | tup (cs : List AV) (vs : Array Value) (hl : vs.size = cs.length) (hval : ∀ (i : Nat) x v, cs[i]? = some x → vs[i]? = some v → Rel w im ρ x v) : Rel w im ρ (.tup cs) (.tuple vs)
  | opt (g : Bool) (x : AV) (v : Value) (h1 : g = true → Rel w im ρ x v) (h2 : g = false → v = undef) : Rel w im ρ (.opt g x) v

theorem mem_namess {n i : Nat} {x : AV} : ∀ {cs : List AV}, cs[i]? = some x → n ∈ names x → n ∈ namess cs
  | [], h, _ => by simp at h
  | c :: r, h, hn => by
    rw [namess]
    cases i with
    | zero => simp at h; subst h; exact List.mem_append_left _ hn
    | succ i => simp at h; exact List.mem_append_right _ (mem_namess h hn)
theorem namess_mem {n : Nat} : ∀ {cs : List AV}, n ∈ namess cs → ∃ (i : Nat) (x : AV), cs[i]? = some x ∧ n ∈ names x
  | [], h => by simp [namess] at h
  | c :: r, h => by
    rw [namess] at h
    rcases List.mem_append.1 h with h | h
    · exact ⟨0, c, by simp, h⟩
    · obtain ⟨i, x, h1, h2⟩ := namess_mem h
      exact ⟨i + 1, x, by simpa using h1, h2⟩

/-- what is read stays -/
theorem Rel.mono {w w' : World} {im im' : Nat → Prop} {ρ ρ' : Env} {x : AV} {v : Value} (h : Rel w im ρ x v) (him : ∀ b, im b → im' b) (hw : ∀ b, im b → w'.heap[b]? = w.heap[b]?)
    (hρ : ∀ n, n ∈ names x → ρ' n = ρ n) : Rel w' im' ρ' x v := by
  induction h with
  | junk v => exact .junk v
  | int k n => exact .int k n
  | bool b => exact .bool b
  | str l => exact .str l
  | nils => exact .nils
  | sl sz rs A c b o val hc hm hA hrow hcell hval ih =>
    refine .sl sz rs A c b o val hc hm (fun h => ⟨(hA h).1, him _ (hA h).2⟩) hrow (fun i j row x h1 h2 => ?_) (fun i j row x h1 h2 => ih i j row x h1 h2 (fun n hn => ?_))
    · obtain ⟨hc1, hc2, hc3⟩ := hcell i j row x h1 h2
      have hpos : 0 < rs.length := by have := (List.getElem?_eq_some_iff.1 h1).1; omega
      exact ⟨(World.cell?_of_block (hw b (hA hpos).2)).trans hc1, hc2, hc3⟩
    · rw [(hcell i j row x h1 h2).2.2] at hn; cases hn
  | os t => rw [← hρ t (by simp [names])]; exact .os t
  | ptr v off b h => exact .ptr v off b (by rw [hρ v (by simp [names])]; exact h)
  | iptr cs b o val hb hcell hval ih =>
    refine .iptr cs b o val (him _ hb) (fun j x h1 => ?_) (fun j x h1 => ih j x h1 (fun n hn => ?_))
    · obtain ⟨hc1, hc2, hc3⟩ := hcell j x h1
      exact ⟨(World.cell?_of_block (hw b hb)).trans hc1, hc2, hc3⟩
    · rw [(hcell j x h1).2.2] at hn; cases hn
  | eptr t i off b h =>
    have := hρ t (by simp [names])
    rw [← this]
    exact .eptr t i off b (by rw [this]; exact h)
  | func f cs vs hl hval ih => exact .func f cs vs hl fun i x v h1 h2 => ih i x v h1 h2 fun n hn => hρ n (by rw [names]; exact mem_namess h1 hn)
  | agg cs vs hl h1 hval ih => exact .agg cs vs hl h1 fun i x v h1 h2 => ih i x v h1 h2 fun n hn => hρ n (by rw [names]; exact mem_namess h1 hn)
  | tup cs vs hl hval ih => exact .tup cs vs hl fun i x v h1 h2 => ih i x v h1 h2 fun n hn => hρ n (by rw [names]; exact mem_namess h1 hn)
  | opt g x v h1 h2 ih => exact .opt g x v (fun hg => ih hg fun n hn => hρ n (by rw [names]; exact hn)) h2

/-! the shapes of values -/
theorem Rel.int_ {w im ρ k n v} (h : Rel w im ρ (.int k n) v) : v = .int k n := by cases h; rfl
theorem Rel.bool_ {w im ρ b v} (h : Rel w im ρ (.bool b) v) : v = .bool b := by cases h; rfl
theorem Rel.str_ {w im ρ l v} (h : Rel w im ρ (.str l) v) : v = .string ⟨⟨l⟩⟩ := by cases h; rfl

theorem mem_iff {n : Nat} : ∀ {l : List Nat}, mem n l = true ↔ n ∈ l
  | [] => by simp [mem]
  | k :: r => by
    rw [mem]
    by_cases h : n = k
    · simp [h]
    · simp [h, mem_iff]
theorem mem_false {n : Nat} {l : List Nat} : mem n l = false ↔ n ∉ l := by
  rw [← mem_iff]; simp

theorem get_mapT {h : AV → AV} (t : Nat) : ∀ (l : List (Nat × AV)), get t (mapT h l) = (get t l).map h
  | [] => rfl
  | (k, v) :: r => by
    simp only [mapT, get]
    split
    · rfl
    · exact get_mapT t r
theorem kls_eq (ns : List Nat) : ∀ cs : List AV, kls ns cs = cs.map (kl ns)
  | [] => by simp [kls]
  | c :: r => by simp [kls, kls_eq ns r]
theorem fzs_eq (ns : List Nat) (bl : Nat → Option Blk) : ∀ cs : List AV, fzs ns bl cs = cs.map (fz ns bl)
  | [] => by simp [fzs]
  | c :: r => by simp [fzs, fzs_eq ns bl r]

/-- behind a kill -/
theorem Rel.kill {w : World} {im : Nat → Prop} {ρ : Env} {x : AV} {v : Value} (h : Rel w im ρ x v) (ns : List Nat) : Rel w im ρ (kl ns x) v := by
  induction h with
  | junk v => simp only [kl]; exact .junk v
  | int k n => simp only [kl]; exact .int k n
  | bool b => simp only [kl]; exact .bool b
  | str l => simp only [kl]; exact .str l
  | nils => simp only [kl]; exact .nils
  | sl sz rs A c b o val hc hm hA hrow hcell hval ih => simp only [kl]; exact .sl sz rs A c b o val hc hm hA hrow hcell hval
  | os t => simp only [kl]; split <;> first | exact .junk _ | exact .os t
  | ptr v off b h => simp only [kl]; split <;> first | exact .junk _ | exact .ptr v off b h
  | iptr cs b o val hb hcell hval ih => simp only [kl]; exact .iptr cs b o val hb hcell hval
  | eptr t i off b h => simp only [kl]; split <;> first | exact .junk _ | exact .eptr t i off b h
  | func f cs vs hl hval ih =>
    simp only [kl, kls_eq]
    refine .func f _ vs (by simpa using hl) fun i x v h1 h2 => ?_
    rw [List.getElem?_map] at h1
    obtain ⟨y, hy, rfl⟩ := Option.map_eq_some_iff.1 h1
    exact ih i y v hy h2
  | agg cs vs hl h1 hval ih =>
    simp only [kl, kls_eq]
    refine .agg _ vs (by simpa using hl) h1 fun i x v h1 h2 => ?_
    rw [List.getElem?_map] at h1
    obtain ⟨y, hy, rfl⟩ := Option.map_eq_some_iff.1 h1
    exact ih i y v hy h2
  | tup cs vs hl hval ih =>
    simp only [kl, kls_eq]
    refine .tup _ vs (by simpa using hl) fun i x v h1 h2 => ?_
    rw [List.getElem?_map] at h1
    obtain ⟨y, hy, rfl⟩ := Option.map_eq_some_iff.1 h1
    exact ih i y v hy h2
  | opt g x v h1 h2 ih => simp only [kl]; exact .opt g _ v ih h2
mutual
theorem names_kl (ns : List Nat) : ∀ x : AV, (∀ n ∈ names (kl ns x), n ∈ names x ∧ n ∉ ns)
  | .os t => by simp only [kl]; split <;> simp_all [names, mem_iff]
  | .ptr v o => by simp only [kl]; split <;> simp_all [names, mem_iff]
  | .eptr v i o => by simp only [kl]; split <;> simp_all [names, mem_iff]
  | .agg cs => by simpa only [kl, names] using namess_kls ns cs
  | .tup cs => by simpa only [kl, names] using namess_kls ns cs
  | .func f cs => by simpa only [kl, names] using namess_kls ns cs
  | .opt g v => by simpa only [kl, names] using names_kl ns v
  | .junk => by simp [kl, names]
  | .int _ _ => by simp [kl, names]
  | .bool _ => by simp [kl, names]
  | .str _ => by simp [kl, names]
  | .nils => by simp [kl, names]
  | .sl _ _ => by simp [kl, names]
  | .iptr _ => by simp [kl, names]
theorem namess_kls (ns : List Nat) : ∀ cs : List AV, (∀ n ∈ namess (kls ns cs), n ∈ namess cs ∧ n ∉ ns)
  | [] => by simp [kls, namess]
  | c :: r => by
    simp only [kls, namess, List.mem_append]
    rintro n (hn | hn)
    · exact ⟨.inl (names_kl ns c n hn).1, (names_kl ns c n hn).2⟩
    · exact ⟨.inr (namess_kls ns r n hn).1, (namess_kls ns r n hn).2⟩
end
mutual
theorem names_fz (ns : List Nat) (bl : Nat → Option Blk) : ∀ x : AV, (∀ n ∈ names (fz ns bl x), n ∈ names x ∧ n ∉ ns)
  | .os t => by
    simp only [fz]
    split
    · cases rowsAt bl t with
      | none => simp [plain, names]
      | some r => obtain ⟨e, sz, rs⟩ := r; simp [plain, names]
    · simp_all [names, mem_iff]
  | .ptr v o => by simp only [fz]; split <;> simp_all [names, mem_iff]
  | .eptr v i o => by simp only [fz]; split <;> simp_all [names, mem_iff]
  | .agg cs => by simpa only [fz, names] using namess_fzs ns bl cs
  | .tup cs => by simpa only [fz, names] using namess_fzs ns bl cs
  | .func f cs => by simpa only [fz, names] using namess_fzs ns bl cs
  | .opt g v => by simpa only [fz, names] using names_fz ns bl v
  | .junk => by simp [fz, names]
  | .int _ _ => by simp [fz, names]
  | .bool _ => by simp [fz, names]
  | .str _ => by simp [fz, names]
  | .nils => by simp [fz, names]
  | .sl _ _ => by simp [fz, names]
  | .iptr _ => by simp [fz, names]
theorem namess_fzs (ns : List Nat) (bl : Nat → Option Blk) : ∀ cs : List AV, (∀ n ∈ namess (fzs ns bl cs), n ∈ namess cs ∧ n ∉ ns)
  | [] => by simp [fzs, namess]
  | c :: r => by
    simp only [fzs, namess, List.mem_append]
    rintro n (hn | hn)
    · exact ⟨.inl (names_fz ns bl c n hn).1, (names_fz ns bl c n hn).2⟩
    · exact ⟨.inr (namess_fzs ns bl r n hn).1, (namess_fzs ns bl r n hn).2⟩
end

/-! the blocks that have a name -/
def RowsRel (w : World) (im : Nat → Prop) (ρ : Env) (sz : Nat) (rs : List (List AV)) (arr : Array Value) : Prop :=
  ∀ (i : Nat) row, rs[i]? = some row → row.length = sz ∧ ∀ (j : Nat) x, row[j]? = some x → names x = [] ∧ ∃ v, arr[i * sz + j]? = some v ∧ v.oneCell' = true ∧ Rel w im ρ x v
def BRel (D : Nat → TI) (w : World) (im : Nat → Prop) (ρ : Env) (n : Nat) : Blk → Prop
  | .cells cs => ∃ b arr T, (ρ n).b = some b ∧ w.heap[b]? = some (.cells arr T (0, 0)) ∧ arr.size = cs.length ∧
      ∀ (i : Nat) x v, cs[i]? = some x → arr[i]? = some v → v.oneCell' = true ∧ Rel w im ρ x v
  | .rows e sz rs => (ρ n).sz = sz ∧ 0 < sz ∧ sz = (D e).n ∧ ∃ A c, (ρ n).sv = .slice A rs.length c ∧ rs.length ≤ c ∧ c ≤ maxLen ∧
      ((rs = [] ∧ A = none ∧ c = 0 ∧ (ρ n).b = none) ∨ ∃ b arr, (ρ n).b = some b ∧ A = some ⟨b, 0, none⟩ ∧ w.heap[b]? = some (.cells arr e (0, 0)) ∧ arr.size = c * sz ∧ RowsRel w im ρ sz rs arr)
/-- what names are bound, and by what -/
structure Hp (D : Nat → TI) (w : World) (im : Nat → Prop) (ρ : Env) (bl : Nat → Option Blk) : Prop where
  blk : ∀ n x, bl n = some x → BRel D w im ρ n x
  inj : ∀ n m b x y, bl n = some x → bl m = some y → (ρ n).b = some b → (ρ m).b = some b → n = m
  off : ∀ n x b, bl n = some x → (ρ n).b = some b → ¬ im b
  lt : ∀ b, im b → b < w.heap.size
  closed : ∀ n cs, bl n = some (.cells cs) → ∀ m ∈ namess cs, (bl m).isSome = true
/-- what a walk leaves as it was: blocks below B that are not its own -/
structure Frm (N0 : Nat → Prop) (B : Nat) (w w' : World) : Prop where
  os : w'.os = w.os
  tape : w'.tape = w.tape
  output : w'.output = w.output
  size : w.heap.size ≤ w'.heap.size
  block : ∀ b, b < B → ¬ N0 b → w'.heap[b]? = w.heap[b]?
/-- the region that is read alone -/
def imOf (S N0 : Nat → Prop) (B : Nat) (w : World) (ρ : Env) (bl : Nat → Option Blk) (b : Nat) : Prop :=
  b < w.heap.size ∧ (S b ∨ B ≤ b ∨ N0 b) ∧ ∀ n x, bl n = some x → (ρ n).b ≠ some b
/-- the world at the beginning; what waiting frames' temporaries hold -/
structure W0 where
  w : World
  γ : Nat → Value
def vl (γ : Nat → Value) (a : Act) (t : Nat) : Value := if t < 65536 then a.tmps.getD t undef else γ (t - 65536)
/-- a state in the evaluator and a state of the machine -/
structure St0 (D : Nat → TI) (S N0 : Nat → Prop) (B : Nat) (w0 : W0) (ρ : Env) (σ : AS) (a : Act) (w : World) : Prop where
  tm : ∀ t x, get t σ.tm = some x → Rel w (imOf S N0 B w ρ (blk σ)) ρ x (vl w0.γ a t) ∧ ∀ n ∈ names x, (Ab.blk σ n).isSome = true
  hp : Hp D w (imOf S N0 B w ρ (Ab.blk σ)) ρ (Ab.blk σ)
  nt : a.tmps.size = σ.nt ∧ σ.nt ≤ 65536
  base : B ≤ w0.w.heap.size
  frm : Frm N0 B w0.w w
  own : ∀ n x b, Ab.blk σ n = some x → (ρ n).b = some b → B ≤ b ∨ N0 b
  defers : a.defers = []
def St (D : Nat → TI) (S N0 : Nat → Prop) (B : Nat) (w0 : W0) (σ : AS) (a : Act) (w : World) : Prop := ∃ ρ, St0 D S N0 B w0 ρ σ a w
end Go.Proofs.Ytcgdjdlcecnanaa.Ab
