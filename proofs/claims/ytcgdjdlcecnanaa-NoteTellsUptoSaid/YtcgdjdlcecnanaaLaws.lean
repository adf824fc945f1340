/-
  Laws for the walk: a text made a slice of bytes, a slice of bytes made a text, append onto a slice of the call's own.
  No condition but the sizes that each law names.
-/
import Derived.Test.YtcgdjdlcecnanaaBase
import Derived.Deep.RegionLaw
namespace Go.Proofs.Ytcgdjdlcecnanaa
open Go.RowKit
set_option linter.unusedSimpArgs false
set_option linter.unusedVariables false

theorem Reads.ext {w : World} {S : Nat → Prop} {size n : Nat} {A : Option Addr} {xs : List Value} (h : Reads w S size A n xs) (hn : 0 < n) :
    ∃ b o, A = some ⟨b, o, none⟩ ∧ S b ∧ ∀ j u, xs[j]? = some u → w.cell? ((⟨b, o, none⟩ : Addr).add j) = some u := by
  obtain ⟨b, o, e, hb, hc⟩ := h.2 hn
  exact ⟨b, o, e, hb, fun j u hu => by rw [add_flat]; exact hc j u hu⟩

/-- what is owned reads as it is -/
theorem own_reads {w : World} {base e size n : Nat} {v : Value} {xs : List Value} (h : w.ownsRow base e size v n xs) :
    ∃ A c, v = .slice A n c ∧ n ≤ c ∧ c ≤ maxLen ∧ Reads w (fun b => base ≤ b ∧ b < w.heap.size ∧ v.ownBlock = some b) size A n xs := by
  rcases h.2 with ⟨rfl, rfl⟩ | ⟨g, cap, cur, rfl, hb, hg, h1, h2, h3, h4⟩
  · exact ⟨none, 0, rfl, Nat.le_refl _, by simp, h.1, fun hn => absurd hn (by omega)⟩
  · refine ⟨_, _, rfl, h1, h2, h.1, fun _ => ⟨g, 0, rfl, ⟨hb, (Array.getElem?_eq_some_iff.1 hg).1, by simp [Value.ownBlock]⟩, ?_⟩⟩
    intro j u hu
    have := h.cells (g := g) (by simp [Value.ownBlock]) j u hu
    rw [add_flat] at this
    exact this

/-- a block that was just written out reads as it was written -/
theorem reads_lit (w : World) (cs : Array Value) (e size n : Nat) (hs : cs.size = n * size) : Reads (w.alloc (.cells cs e)) (· = w.heap.size) size (some ⟨w.heap.size, 0, none⟩) n cs.toList := by
  refine ⟨by simpa using hs, fun _ => ⟨_, 0, rfl, rfl, fun j u hu => ?_⟩⟩
  rw [Nat.zero_add, World.cell?_alloc_new]
  simpa using hu
theorem own_lit (w : World) (cs : Array Value) (e size n : Nat) (hs : cs.size = n * size) (hm : n ≤ maxLen) : (w.alloc (.cells cs e)).ownsRow w.heap.size e size (.slice (some ⟨w.heap.size, 0, none⟩) n n) n cs.toList :=
  World.ownsRow_lit w cs n (Nat.le_refl _) hm hs
theorem own_mono {w : World} {base base' e size n : Nat} {v : Value} {xs : List Value} (h : w.ownsRow base e size v n xs) (hb : base' ≤ base) : w.ownsRow base' e size v n xs := by
  refine ⟨h.1, ?_⟩
  rcases h.2 with h2 | ⟨g, cap, cur, hv, hg, hh⟩
  · exact .inl h2
  · exact .inr ⟨g, cap, cur, hv, Nat.le_trans hb hg, hh⟩
theorem own_kept {w w' : World} {base e size n : Nat} {v : Value} {xs : List Value} (h : w.ownsRow base e size v n xs) (hk : ∀ g, v.ownBlock = some g → w'.heap[g]? = w.heap[g]?) : w'.ownsRow base e size v n xs := by
  refine ⟨h.1, ?_⟩
  rcases h.2 with h2 | ⟨g, cap, cur, rfl, hg, hh, r⟩
  · exact .inl h2
  · exact .inr ⟨g, cap, cur, rfl, hg, (hk g (by simp [Value.ownBlock])).trans hh, r⟩
theorem own_later {w w' : World} {base e size n : Nat} {v : Value} {xs : List Value} (h : w.ownsRow base e size v n xs) (hb : Below w.heap.size w w') : w'.ownsRow base e size v n xs :=
  own_kept h fun g hg => hb.block g (h.lt g hg).2
theorem own_set {w : World} {base e size n : Nat} {v : Value} {xs : List Value} (h : w.ownsRow base e size v n xs) {a : Addr} (ha : a.block < base) (u : Value) : (w.setCell a u).ownsRow base e size v n xs :=
  ownsRow_setCell_below h ha u

/-! a block that is known whole -/
def Blk (w : World) (g : Nat) (t : TypeId) (cs : Array Value) : Prop := w.heap[g]? = some (.cells cs t (0, 0))
section
variable {w w' : World} {g : Nat} {t : TypeId} {cs : Array Value}
theorem Blk.lt (h : Blk w g t cs) : g < w.heap.size := by
  rcases Nat.lt_or_ge g w.heap.size with hlt | hge
  · exact hlt
  · unfold Blk at h; rw [Array.getElem?_eq_none hge] at h; cases h
theorem Blk.cell (h : Blk w g t cs) (i : Nat) : w.cell? ⟨g, i, none⟩ = cs[i]? := cell_of_row w g i cs t (0, 0) h
theorem Blk.frozen (h : Blk w g t cs) (i : Nat) : w.frozen? ⟨g, i, none⟩ = false := by
  unfold Blk at h
  simp [World.frozen?, h]
theorem Blk.new (w : World) (t : TypeId) (cs : Array Value) : Blk (w.alloc (.cells cs t)) w.heap.size t cs := heap_alloc_new w _
theorem Blk.new_at (w : World) (t : TypeId) (cs : Array Value) (hg : g = w.heap.size) : Blk (w.alloc (.cells cs t)) g t cs := by subst hg; exact Blk.new w t cs
theorem Blk.drew (h : Blk w g t cs) : Blk w.drew g t cs := h
theorem Blk.drewN (h : Blk w g t cs) (n : Nat) : Blk (w.drewN n) g t cs := h
theorem Blk.alloc (h : Blk w g t cs) (o : Obj) : Blk (w.alloc o) g t cs := (Below.heap_alloc w o g h.lt).trans h
theorem Blk.set_ (h : Blk w g t cs) (i : Nat) (u : Value) : Blk (w.setCell ⟨g, i, none⟩ u) g t (cs.setIfInBounds i u) := by
  unfold Blk at h ⊢
  simp [World.setCell, Array.getElem?_modify, h]
theorem Blk.far (h : Blk w g t cs) {p : Addr} (hp : g ≠ p.block) (u : Value) : Blk (w.setCell p u) g t cs := (Below.heap_setCell w p u g hp).trans h
theorem Blk.below {B : Nat} (h : Blk w g t cs) (hb : Below B w w') (hg : g < B) : Blk w' g t cs := (hb.block g hg).trans h
theorem Blk.later (h : Blk w g t cs) (hb : Below w.heap.size w w') : Blk w' g t cs := h.below hb h.lt
theorem Blk.grown {row : Option Nat} (h : Blk w g t cs) (hb : w.grownBy w' row) (hg : some g ≠ row) : Blk w' g t cs := (hb.block g h.lt hg).trans h
theorem Blk.ne_ {g' : Nat} {t' : TypeId} {cs' : Array Value} (h : Blk w g t cs) (h' : Blk w g' t' cs') (hne : t ≠ t') : g ≠ g' := by
  rintro rfl
  unfold Blk at h h'
  rw [h] at h'
  injection h' with h'
  injection h' with _ ht
  exact hne ht
theorem own_blk_ne {base : Nat} {e : TypeId} {size n : Nat} {v : Value} {xs : List Value} (h : w.ownsRow base e size v n xs) (hg : Blk w g t cs) (hne : e ≠ t) : v.ownBlock ≠ some g := by
  rcases h.2 with ⟨rfl, _⟩ | ⟨g', cap, cur, rfl, _, hh, _⟩
  · simp [Value.ownBlock]
  · intro he
    have : g' = g := by simpa [Value.ownBlock] using he
    subst this
    exact Blk.ne_ (t := e) hh hg hne rfl
end

theorem own_lit_at (W : World) (cs : Array Value) (e size n base g : Nat) (hs : cs.size = n * size) (hm : n ≤ maxLen) (hg : g = W.heap.size) (hb : base ≤ W.heap.size) : (W.alloc (.cells cs e)).ownsRow base e size (.slice (some ⟨g, 0, none⟩) n n) n cs.toList := by
  subst hg
  exact World.ownsRow_lit W cs n hb hm hs

section
variable {P : Program} (w : World)

theorem wpList_bytes_of_string {ops : Array Oper} {rest : List Oper} {o : Oper} {a : Act} {Q : Exit → Act → World → Prop} (hgd : o.guard = none) (x : Operand) (src dst e : TypeId)
    (ho : o.op = .convert src dst x) (hs : P.underlying src = some .string) (hd : P.underlying dst = some (.slice e)) (he : P.underlying e = some (.int .u8)) (s : ByteArray) (l : List UInt8) (hsl : s.data.toList = l) (hx : a.eval x = .string s)
    (h : ∀ c w', s.size ≤ c → c ≤ maxLen → RBytes w' (fun b => w.heap.size ≤ b ∧ b < w'.heap.size) (some ⟨w.heap.size, 0, none⟩) l → Below w.heap.size w w' →
      wpList P ops Q rest (a.put o.dst (.slice (some ⟨w.heap.size, 0, none⟩) l.length c)) w') (hm : s.size ≤ 4294967296) : wpList P ops Q (o :: rest) a w := by
  subst hsl
  refine wpList_plain hgd fun K hK => ?_
  have hrun := run_bytes_of_string (P := P) w src dst e s hs hd he
  unfold Oper.wp execOp
  simp only [ho, hx, Sem.run_bind, hrun, Result.andThen_ok, Sem.run_pure]
  have hl : s.data.toList.length = s.size := rfl
  rw [← hl]
  refine hK _ _ (h _ _ (grownCap_ge _ _ _ _) (grownCap_le_maxLen _ _ _ _ (Nat.le_trans hm (by decide))) ⟨by simp, fun _ => ⟨_, 0, rfl, ⟨Nat.le_refl _, by simp⟩, ?_⟩⟩ ((Below.refl _ w).drew.alloc (Nat.le_refl _) _))
  intro j u hu
  have hj : j < s.data.size := by
    have := (List.getElem?_eq_some_iff.1 hu).1
    simpa using this
  have h1 := World.cell?_alloc_mark w.drew (bytesRow s (grownCap w s.size 0 e)) e ((bytesRow s (grownCap w s.size 0 e)).size, (bytesRow s (grownCap w s.size 0 e)).size + 1) j
  rw [bytesRow_at s _ j hj] at h1
  rw [Nat.zero_add]
  refine h1.trans ?_
  rw [← hu, List.getElem?_map, Array.getElem?_toList, Array.getElem?_eq_getElem hj]
  rfl

theorem run_string_of_bytes {S : Nat → Prop} (src dst e : TypeId) (A : Option Addr) (c : Nat) (l : List UInt8) (hr : RBytes w S A l)
    (hs : P.underlying src = some (.slice e)) (he : P.underlying e = some (.int .u8)) (hd : P.underlying dst = some .string) :
    (convert src dst (.slice A l.length c)).run P w = .ok (.string ⟨l.toArray⟩) w := by
  cases A with
  | none =>
    have h0 : l.length = 0 := by
      rcases Nat.eq_zero_or_pos l.length with h | h
      · exact h
      · obtain ⟨b, o, e, _⟩ := hr.at_ h
        cases e
    have hn : l = [] := List.eq_nil_of_length_eq_zero h0
    subst hn
    exact run_convert_bytes_nil w src e hs he _ c dst hd
  | some ad =>
    refine run_convert_bytes_back w src dst e ad c l hs he hd fun j hj => ?_
    obtain ⟨b, o, e, _, hc⟩ := hr.at_ (by omega)
    injection e with e
    subst e
    rw [add_flat]
    exact hc j hj

theorem wpList_string_of_bytes {ops : Array Oper} {rest : List Oper} {o : Oper} {a : Act} {Q : Exit → Act → World → Prop} (hgd : o.guard = none) (x : Operand) (src dst e : TypeId)
    (ho : o.op = .convert src dst x) (hs : P.underlying src = some (.slice e)) (he : P.underlying e = some (.int .u8)) (hd : P.underlying dst = some .string) (S : Nat → Prop) (A : Option Addr) (n c : Nat) (l : List UInt8)
    (hx : a.eval x = .slice A n c) (hn : n = l.length) (hr : RBytes w S A l)
    (h : wpList P ops Q rest (a.put o.dst (.string ⟨l.toArray⟩)) w) : wpList P ops Q (o :: rest) a w := by
  subst hn
  refine wpList_plain hgd fun K hK => ?_
  have hrun := run_string_of_bytes (P := P) w src dst e A c l hr hs he hd
  unfold Oper.wp execOp
  simp only [ho, hx, Sem.run_bind, hrun, Result.andThen_ok, Sem.run_pure]
  exact hK _ _ h

theorem run_append_of_nil (base : Nat) (t ty e : TypeId) (i : TypeInfo) (size : Nat) (ht : P.underlying t = some (.slice e)) (hi : P.info? e = some i)
    (v : Value) (n : Nat) (xs : List Value) (hown : w.ownsRow base e size v n xs) (c : Nat) : (Builtin.append_ #[t, t] ty #[v, .slice none 0 c]).run P w = .ok v w := by
  rcases hown.2 with ⟨rfl, rfl⟩ | ⟨g, cap, cur, rfl, _, _, hnc, _⟩
  · simp [Builtin.append_, run_underlying ht, sizeOf, typeInfo, hi, Builtin.lenOf, Builtin.firstCells]
  · simp [Builtin.append_, run_underlying ht, sizeOf, typeInfo, hi, Builtin.lenOf, Builtin.firstCells, hnc, storeCells]

theorem run_append_any (base : Nat) (t ty e : TypeId) (i : TypeInfo) (z : Value) (size bytes : Nat) (ht : P.underlying t = some (.slice e)) (hi : P.info? e = some i) (hz : i.zero = some z)
    (hsize : i.size = size) (hby : i.bytes = bytes) (hzs : z.cells.size = size) (hsz : 0 < size)
    (v : Value) (n : Nat) (xs : List Value) (hown : w.ownsRow base e size v n xs)
    (S : Nat → Prop) (A : Option Addr) (m c : Nat) (news : List Value) (hr : Reads w S size A m news) (h1 : ∀ u ∈ news, u.oneCell' = true)
    (h63 : n + m ≤ maxLen) (hbytes : (n + m) * bytes ≤ 140737488355328) (hbase : base ≤ w.heap.size) :
    ∃ v' w', (Builtin.append_ #[t, t] ty #[v, .slice A m c]).run P w = .ok v' w' ∧ w'.ownsRow base e size v' (n + m) (xs ++ news) ∧ w.grownBy w' v.ownBlock ∧
      (v'.ownBlock = v.ownBlock ∨ v'.ownBlock = some w.heap.size) := by
  rcases A with _ | ad
  · have hm : m = 0 := by
      rcases Nat.eq_zero_or_pos m with h0 | h0
      · exact h0
      · obtain ⟨b, o, h, _⟩ := hr.2 h0
        cases h
    subst hm
    have hn : news = [] := List.eq_nil_of_length_eq_zero (by simpa using hr.1)
    subst hn
    exact ⟨v, w, run_append_of_nil w base t ty e i size ht hi v n xs hown c, by simpa using hown, World.grownBy.refl w _, .inl rfl⟩
  · have hcells : ∀ j u, news[j]? = some u → w.cell? (ad.add j) = some u := by
      intro j u hu
      rcases Nat.eq_zero_or_pos m with h0 | h0
      · subst h0
        have hn : news = [] := List.eq_nil_of_length_eq_zero (by simpa using hr.1)
        subst hn
        simp at hu
      · obtain ⟨b, o, h, _, hc⟩ := hr.ext h0
        injection h with h
        subst h
        exact hc j u hu
    obtain ⟨v', w', hrun, h2, h3, _, h5⟩ := run_append_own_at (P := P) w base t ty e i z size bytes ht hi hz hsize hby hzs hsz v n xs hown ad m c news hr.1 hcells h1 h63 hbytes hbase
    exact ⟨v', w', hrun, h2, h3, h5⟩

theorem wp_append_any {o : Oper} {a : Act} {K : Act → World → Prop} {Q : Exit → Act → World → Prop} (s x : Operand) (t : TypeId)
    (ho : o.op = .call { callee := .builtin .append, args := #[s, x], argTypes := #[t, t] })
    (base : Nat) (e : TypeId) (i : TypeInfo) (z : Value) (size bytes : Nat) (ht : P.underlying t = some (.slice e)) (hi : P.info? e = some i) (hz : i.zero = some z)
    (hsize : i.size = size) (hby : i.bytes = bytes) (hzs : z.cells.size = size) (hsz : 0 < size)
    (v : Value) (n : Nat) (xs : List Value) (hs : a.eval s = v) (hown : w.ownsRow base e size v n xs)
    (S : Nat → Prop) (A : Option Addr) (m c : Nat) (news : List Value) (hx : a.eval x = .slice A m c) (hr : Reads w S size A m news) (h1 : ∀ u ∈ news, u.oneCell' = true)
    (h63 : n + m ≤ maxLen) (hbytes : (n + m) * bytes ≤ 140737488355328) (hbase : base ≤ w.heap.size)
    (h : ∀ v' w', w'.ownsRow base e size v' (n + m) (xs ++ news) → w.grownBy w' v.ownBlock → (v'.ownBlock = v.ownBlock ∨ v'.ownBlock = some w.heap.size) → K (a.put o.dst v') w') : o.wp P a w K Q := by
  obtain ⟨v', w', hrun, h2, h3, h4⟩ := run_append_any (P := P) w base t o.type e i z size bytes ht hi hz hsize hby hzs hsz v n xs hown S A m c news hr h1 h63 hbytes hbase
  unfold Oper.wp execOp
  simp only [ho, resolve, invoke, builtin, Sem.run_bind, Sem.run_pure, Result.andThen_ok, List.map_toArray, List.map_cons, List.map_nil, hs, hx, hrun]
  exact h v' w' h2 h3 h4

theorem wpList_append_any {ops : Array Oper} {rest : List Oper} {o : Oper} {a : Act} {Q : Exit → Act → World → Prop} (hgd : o.guard = none) (s x : Operand) (t : TypeId)
    (ho : o.op = .call { callee := .builtin .append, args := #[s, x], argTypes := #[t, t] })
    (base : Nat) (e : TypeId) (i : TypeInfo) (z : Value) (size bytes : Nat) (ht : P.underlying t = some (.slice e)) (hi : P.info? e = some i) (hz : i.zero = some z)
    (hsize : i.size = size) (hby : i.bytes = bytes) (hzs : z.cells.size = size) (hsz : 0 < size)
    (v : Value) (n : Nat) (xs : List Value) (hs : a.eval s = v) (hown : w.ownsRow base e size v n xs)
    (S : Nat → Prop) (A : Option Addr) (m c : Nat) (news : List Value) (hx : a.eval x = .slice A m c) (hr : Reads w S size A m news) (h1 : ∀ u ∈ news, u.oneCell' = true)
    (h63 : n + m ≤ maxLen) (hbytes : (n + m) * bytes ≤ 140737488355328) (hbase : base ≤ w.heap.size)
    (h : ∀ v' w', w'.ownsRow base e size v' (n + m) (xs ++ news) → w.grownBy w' v.ownBlock → (v'.ownBlock = v.ownBlock ∨ v'.ownBlock = some w.heap.size) → wpList P ops Q rest (a.put o.dst v') w') : wpList P ops Q (o :: rest) a w :=
  wpList_plain hgd fun _ hK => wp_append_any w s x t ho base e i z size bytes ht hi hz hsize hby hzs hsz v n xs hs hown S A m c news hx hr h1 h63 hbytes hbase fun v' w' h2 h3 h4 => hK _ _ (h v' w' h2 h3 h4)

theorem step_append_any {ops : Array Oper} {o : Oper} {a : Act} {K : Act → World → Prop} {Q : Exit → Act → World → Prop} {E : Prop} (hgd : o.guard = none) (s x : Operand) (t : TypeId)
    (ho : o.op = .call { callee := .builtin .append, args := #[s, x], argTypes := #[t, t] })
    (base : Nat) (e : TypeId) (i : TypeInfo) (z : Value) (size bytes : Nat) (ht : P.underlying t = some (.slice e)) (hi : P.info? e = some i) (hz : i.zero = some z)
    (hsize : i.size = size) (hby : i.bytes = bytes) (hzs : z.cells.size = size) (hsz : 0 < size)
    (v : Value) (n : Nat) (xs : List Value) (hs : a.eval s = v) (hown : w.ownsRow base e size v n xs)
    (S : Nat → Prop) (A : Option Addr) (m c : Nat) (news : List Value) (hx : a.eval x = .slice A m c) (hr : Reads w S size A m news) (h1 : ∀ u ∈ news, u.oneCell' = true)
    (h63 : n + m ≤ maxLen) (hbytes : (n + m) * bytes ≤ 140737488355328) (hbase : base ≤ w.heap.size)
    (h : ∀ v' w', w'.ownsRow base e size v' (n + m) (xs ++ news) → w.grownBy w' v.ownBlock → (v'.ownBlock = v.ownBlock ∨ v'.ownBlock = some w.heap.size) → K (a.put o.dst v') w') :
    if Region.wanted o (yielded ops a.tmps) = true then Oper.wp P o a w K Q else E := by
  have hw : Region.wanted o (yielded ops a.tmps) = true := by simp [Region.wanted, hgd]
  rw [if_pos hw]
  exact wp_append_any w s x t ho base e i z size bytes ht hi hz hsize hby hzs hsz v n xs hs hown S A m c news hx hr h1 h63 hbytes hbase h
end

/-- A call of a Go function by its contract, as one step of a region that draws its order. -/
theorem step_call {P : Program} {w : World} {ops : Array Oper} {o : Oper} {a : Act} {K : Act → World → Prop} {Q : Exit → Act → World → Prop} {E : Prop} (hgd : o.guard = none) (f : FuncId) (xs : Array Operand) (ts : Array TypeId)
    (ho : o.op = .call { callee := .value (.func f), args := xs, argTypes := ts }) {fn : Func} (hf : P.funcs[f]? = some fn) (hname : (fn.name == "runtime.NumGoroutine") = false) (hbody : fn.body.isNone = false)
    (args : Array Value) (hx : (xs.toList.map a.eval).toArray = args) {R : Ending → World → Prop} (hc : Calls P f args w R)
    (h : ∀ e w', R e w' → ∃ v, e = .returned v ∧ K (a.put o.dst v) w') :
    if Region.wanted o (yielded ops a.tmps) = true then Oper.wp P o a w K Q else E := by
  have hw : Region.wanted o (yielded ops a.tmps) = true := by simp [Region.wanted, hgd]
  rw [if_pos hw]
  have hrun : (execOp a.eval o).run P w = .ok (.enter f args) w := by
    obtain ⟨dst, op, ty, pos, after, guard⟩ := o
    simp only at ho
    subst ho
    rw [execOp_call_go]
    have hx' : xs.map a.eval = args := by rw [← hx, ← Array.toList_map]
    have h1 : fn.name ≠ "runtime.NumGoroutine" := by simpa using hname
    have h2 : fn.body ≠ none := by intro e; simp [e] at hbody
    simp only [Array.empty_append, Array.append_empty, hx']
    simp [callFunc, hf, h1, h2]
  unfold Oper.wp
  rw [hrun]
  simp only [Oper.upon]
  refine hc.mono fun e w' hR => ?_
  obtain ⟨v, rfl, hK⟩ := h e w' hR
  exact hK

section
variable {P : Program} (w : World)
theorem wpList_slice_l {ops : Array Oper} {rest : List Oper} {o : Oper} {a : Act} {Q : Exit → Act → World → Prop} (hgd : o.guard = none) (x lo : Operand) (t e : TypeId)
    (ho : o.op = .slice t x (some lo) none none) (hu : P.underlying t = some (.slice e)) (i : TypeInfo) (hi : P.info? e = some i) (size : Nat) (hsz : i.size = size) (A : Option Addr) (n c k : Nat) (kl : IntKind) (L : Int)
    (hx : a.eval x = .slice A n c) (hlo : a.eval lo = .int kl L) (hL : L = (k : Int)) (hk : k ≤ n)
    (h : ∀ A', (c ≠ k → A' = A.map (·.add (k * size))) → wpList P ops Q rest (a.put o.dst (.slice A' (n - k) (c - k))) w) : wpList P ops Q (o :: rest) a w := by
  refine wpList_plain hgd fun K hK => ?_
  have hrun : (Instr.slice t (.slice A n c) (some (.int kl L)) none none).run P w = .ok (.slice (if c = k then A else A.map (·.add (k * size))) (n - k) (c - k)) w := by
    subst hL hsz
    have : (0 : Int) ≤ k ∧ (k : Int) ≤ n := ⟨by omega, by omega⟩
    simp [Instr.slice, run_underlying hu, Instr.sliceBounds, run_sliceBound, this, sizeOf, typeInfo, hi, hk]
  have hel : P.underlying t = some (.slice (P.elem t)) := by
    rw [hu]; simp [Program.elem, hu]
  unfold Oper.wp execOp
  simp only [ho, hx, hlo, Option.map_some, Option.map_none]
  simp only [Sem.run_bind, run_sliceAt_slice w t _ _ _ _ hel, hrun, Result.andThen_ok, Sem.run_pure]
  exact hK _ _ (h _ (fun hne => if_neg hne))

theorem wpList_slice_lh {ops : Array Oper} {rest : List Oper} {o : Oper} {a : Act} {Q : Exit → Act → World → Prop} (hgd : o.guard = none) (x lo hh : Operand) (t e : TypeId)
    (ho : o.op = .slice t x (some lo) (some hh) none) (hu : P.underlying t = some (.slice e)) (i : TypeInfo) (hi : P.info? e = some i) (size : Nat) (hsz : i.size = size) (A : Option Addr) (n c k m : Nat) (kl kh : IntKind) (L M : Int)
    (hx : a.eval x = .slice A n c) (hlo : a.eval lo = .int kl L) (hL : L = (k : Int)) (hhh : a.eval hh = .int kh M) (hM : M = (m : Int)) (hk : k ≤ m) (hm : m ≤ c)
    (h : ∀ A', (c ≠ k → A' = A.map (·.add (k * size))) → wpList P ops Q rest (a.put o.dst (.slice A' (m - k) (c - k))) w) : wpList P ops Q (o :: rest) a w := by
  refine wpList_plain hgd fun K hK => ?_
  have hrun : (Instr.slice t (.slice A n c) (some (.int kl L)) (some (.int kh M)) none).run P w = .ok (.slice (if c = k then A else A.map (·.add (k * size))) (m - k) (c - k)) w := by
    subst hL hM hsz
    have h1 : (0 : Int) ≤ k ∧ (k : Int) ≤ m := ⟨by omega, by omega⟩
    have h2 : (0 : Int) ≤ m ∧ (m : Int) ≤ c := ⟨by omega, by omega⟩
    simp [Instr.slice, run_underlying hu, Instr.sliceBounds, run_sliceBound, h1, h2, sizeOf, typeInfo, hi, hk]
  have hel : P.underlying t = some (.slice (P.elem t)) := by
    rw [hu]; simp [Program.elem, hu]
  unfold Oper.wp execOp
  simp only [ho, hx, hlo, hhh, Option.map_some, Option.map_none]
  simp only [Sem.run_bind, run_sliceAt_slice w t _ _ _ _ hel, hrun, Result.andThen_ok, Sem.run_pure]
  exact hK _ _ (h _ (fun hne => if_neg hne))
end

theorem wpList_slice_h {P : Program} (w : World) {ops : Array Oper} {rest : List Oper} {o : Oper} {a : Act} {Q : Exit → Act → World → Prop} (hgd : o.guard = none) (x hh : Operand) (t e : TypeId)
    (ho : o.op = .slice t x none (some hh) none) (hu : P.underlying t = some (.slice e)) (i : TypeInfo) (hi : P.info? e = some i) (A : Option Addr) (n c m : Nat) (kh : IntKind) (M : Int)
    (hx : a.eval x = .slice A n c) (hhh : a.eval hh = .int kh M) (hM : M = (m : Int)) (hm : m ≤ c)
    (h : wpList P ops Q rest (a.put o.dst (.slice A m c)) w) : wpList P ops Q (o :: rest) a w := by
  refine wpList_plain hgd fun K hK => ?_
  have hA : (if c = 0 then A else Option.map (fun x => x.add (0 * i.size)) A) = A := by
    rw [Nat.zero_mul]
    split
    · rfl
    · cases A <;> simp [Addr.add]
  have hrun : (Instr.slice t (.slice A n c) none (some (.int kh M)) none).run P w = .ok (.slice A m c) w := by
    subst hM
    have h2 : (0 : Int) ≤ m ∧ (m : Int) ≤ c := ⟨by omega, by omega⟩
    rw [Nat.zero_mul] at hA
    simp [Instr.slice, run_underlying hu, Instr.sliceBounds, run_sliceBound, h2, sizeOf, typeInfo, hi, hA]
  have hel : P.underlying t = some (.slice (P.elem t)) := by
    rw [hu]; simp [Program.elem, hu]
  unfold Oper.wp execOp
  simp only [ho, hx, hhh, Option.map_some, Option.map_none]
  simp only [Sem.run_bind, run_sliceAt_slice w t _ _ _ _ hel, hrun, Result.andThen_ok, Sem.run_pure]
  exact hK _ _ h

end Go.Proofs.Ytcgdjdlcecnanaa
