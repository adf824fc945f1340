/-
  What the operations do that make and change no memory.
  No condition.
-/
import Derived.Test.YtcgdjdlcecnanaaAbE
import Derived.Laws.Slices
import Derived.Laws.IdiomStrings
import Derived.Laws.BytesArg
namespace Go.Proofs.Ytcgdjdlcecnanaa.Ab
open Go
set_option linter.unusedVariables false
set_option linter.unusedSimpArgs false

/-- an effect that is a value alone -/
def Only (e : Eff) : Prop := e.nw = [] ∧ e.up = [] ∧ e.kl = [] ∧ e.fr = []

section
variable {w : World} {im : Nat → Prop} {ρ : Env}
theorem Rel.uv {x : AV} {v : Value} (h : Rel w im ρ x v) (hg : ug x = true) : Rel w im ρ (uv x) v := by
  cases h with
  | opt g x v h1 h2 => exact h1 hg
  | junk v => exact .junk v
  | int k n => exact .int k n
  | bool b => exact .bool b
  | str l => exact .str l
  | nils => exact .nils
  | sl sz rs A c b o val hc hm hA hrow hcell hval => exact .sl sz rs A c b o val hc hm hA hrow hcell hval
  | os t => exact .os t
  | ptr v off b h => exact .ptr v off b h
  | iptr cs b o val hb hcell hval => exact .iptr cs b o val hb hcell hval
  | eptr t i off b h => exact .eptr t i off b h
  | func f cs vs hl hval => exact .func f cs vs hl hval
  | agg cs vs hl h1 hval => exact .agg cs vs hl h1 hval
  | tup cs vs hl hval => exact .tup cs vs hl hval
theorem names_uv (x : AV) : names (uv x) = names x := by
  cases x <;> simp [uv, names]
theorem Rel.cst (v : Value) : Rel w im ρ (cst v) v := by
  unfold Ab.cst
  split
  · exact .int _ _
  · exact .bool _
  · exact .str _
  · exact .nils
  · exact .junk _
theorem names_cst (v : Value) : names (cst v) = [] := by
  unfold cst
  split <;> simp [names]
end

section
variable {P : Program} {D : Nat → TI} {S N0 : Nat → Prop} {B : Nat} {w0 : W0} {ρ : Env} {σ : AS} {a : Act} {w : World}
theorem St0.ev (h : St0 D S N0 B w0 ρ σ a w) (x : Operand) : Rel w (imOf S N0 B w ρ (blk σ)) ρ (Ab.ev σ x) (a.eval x) ∧ ∀ n ∈ names (Ab.ev σ x), (blk σ n).isSome = true := by
  cases x with
  | tmp t =>
    simp only [Ab.ev, tmv, Act.eval]
    by_cases hlt : t < 65536
    · rw [if_pos hlt]
      cases hg : get t σ.tm with
      | none => exact ⟨.junk _, by simp [names]⟩
      | some y =>
        have := h.tm t y hg
        rw [vl, if_pos hlt] at this
        exact this
    · rw [if_neg hlt]
      exact ⟨.junk _, by simp [names]⟩
  | const v => exact ⟨Rel.cst v, by simp [Ab.ev, names_cst]⟩
  | global g => exact ⟨.junk _, by simp [Ab.ev, names]⟩
  | func f => exact ⟨.func f [] #[] rfl (by simp), by simp [Ab.ev, names, namess]⟩

theorem names_bl_snap {ns : List Nat} {n : Nat} {x : Blk} (h : snap σ ns n = some x) : blk σ n = some x := by
  unfold snap at h
  split at h
  · exact h
  · cases h

/-- what a slice is to a reader -/
theorem St0.rows (h : St0 D S N0 B w0 ρ σ a w) {bl : Nat → Option Blk} (hbl : ∀ n x, bl n = some x → blk σ n = some x) {x : AV} {v : Value} {sz : Nat} {rs : List (List AV)}
    (hx : Rel w (imOf S N0 B w ρ (blk σ)) ρ x v) (he : rowsOf bl x = some (sz, rs)) : Rel w (imOf S N0 B w ρ (blk (Ab.freeze σ (osOf x)))) ρ (.sl sz rs) v := by
  cases hx <;> simp [rowsOf] at he
  case nils =>
    obtain ⟨rfl, rfl⟩ := he
    exact .sl 0 [] none 0 0 0 (fun _ _ => .nilIface) (Nat.le_refl _) (Nat.zero_le _) (fun h => absurd h (by simp)) (by simp) (by simp) (by simp)
  case sl A c b o val hc hm hA hrow hcell hval =>
    obtain ⟨rfl, rfl⟩ := he
    exact .sl _ _ A c b o val hc hm hA hrow hcell hval
  case os t =>
    obtain ⟨e, he⟩ := he
    have hb : bl t = some (.rows e sz rs) := by
      unfold rowsAt at he
      split at he
      · rename_i q; rw [q]; simp at he; obtain ⟨rfl, rfl, rfl⟩ := he; rfl
      · cases he
    have hb' := hbl t _ hb
    refine Rel.plain (h.hp.blk t _ hb') (fun b hb => ?_) (fun b hb => ?_)
    · refine ⟨hb.1, hb.2.1, fun n y hy => ?_⟩
      simp only [osOf] at hy
      rw [blk_freeze] at hy
      split at hy
      · cases hy
      · obtain ⟨z, hz, _⟩ := mapBlk_some hy
        exact hb.2.2 n z hz
    · refine ⟨h.named_lt hb' hb, .inr (h.own t _ b hb' hb), fun n y hy hn => ?_⟩
      simp only [osOf] at hy
      rw [blk_freeze] at hy
      split at hy
      · cases hy
      · rename_i hnt
        obtain ⟨z, hz, _⟩ := mapBlk_some hy
        exact hnt (by simp [h.hp.inj n t b z _ hz hb' hn hb])

theorem bin_sound {op : BinOp} {T : TypeId} {x y : AV} {X Y : Operand} {u v : Value} {e : Eff} {im : Nat → Prop} (hx : Rel w im ρ x u) (hy : Rel w im ρ y v) (he : bin op x y = some e) (hp : e.pre) :
    Only e ∧ ∃ r, (do eqGuard op T X Y u v; binOp op T u v : Sem Value).run P w = .ok r w ∧ Rel w im ρ e.v r ∧ names e.v = [] := by
  cases x <;> cases y <;> try (cases op <;> simp [bin] at he; done)
  case int.int k a k' b =>
    have h1 := hx.int_
    have h2 := hy.int_
    subst h1 h2
    have key : ∀ (r : AV) (p : Prop) (q : Value), (k = k' → p → (do eqGuard op T X Y (.int k a) (.int k' b); binOp op T (.int k a) (.int k' b) : Sem Value).run P w = .ok q w) → Rel w im ρ r q → names r = [] → (if k = k' then some ({ v := r, pre := p } : Eff) else none) = some e →
        Only e ∧ ∃ r, (do eqGuard op T X Y (.int k a) (.int k' b); binOp op T (.int k a) (.int k' b) : Sem Value).run P w = .ok r w ∧ Rel w im ρ e.v r ∧ names e.v = [] := by
      intro r p q h1 h2 h3 h4
      split at h4
      · rename_i hk
        cases h4
        exact ⟨⟨rfl, rfl, rfl, rfl⟩, q, h1 hk hp, h2, h3⟩
      · cases h4
    cases op <;> simp only [bin, shlI, shrI, orI, andI] at he
    case add => exact key _ _ _ (fun hk _ => by subst hk; simp [eqGuard, binOp, Op.intArith]) (.int _ _) (by simp [names]) he
    case sub => exact key _ _ _ (fun hk _ => by subst hk; simp [eqGuard, binOp, Op.intArith]) (.int _ _) (by simp [names]) he
    case mul => exact key _ _ _ (fun hk _ => by subst hk; simp [eqGuard, binOp, Op.intArith]) (.int _ _) (by simp [names]) he
    case quo => exact key _ _ _ (fun hk hp => by subst hk; simp [eqGuard, binOp, Op.intDiv, hp]) (.int _ _) (by simp [names]) he
    case rem => exact key _ _ _ (fun hk hp => by subst hk; simp [eqGuard, binOp, Op.intDiv, hp]) (.int _ _) (by simp [names]) he
    case and => exact key _ _ _ (fun hk _ => by subst hk; simp [eqGuard, binOp, Op.intBits]) (.int _ _) (by simp [names]) he
    case or => exact key _ _ _ (fun hk _ => by subst hk; simp [eqGuard, binOp, Op.intBits]) (.int _ _) (by simp [names]) he
    case eql => exact key _ _ _ (fun hk _ => by subst hk; simp [eqGuard, binOp, Op.intCmp]) (.bool _) (by simp [names]) he
    case neq => exact key _ _ _ (fun hk _ => by subst hk; simp [eqGuard, binOp, Op.intCmp]) (.bool _) (by simp [names]) he
    case lss => exact key _ _ _ (fun hk _ => by subst hk; simp [eqGuard, binOp, Op.intCmp]) (.bool _) (by simp [names]) he
    case leq => exact key _ _ _ (fun hk _ => by subst hk; simp [eqGuard, binOp, Op.intCmp]) (.bool _) (by simp [names]) he
    case gtr => exact key _ _ _ (fun hk _ => by subst hk; simp [eqGuard, binOp, Op.intCmp]) (.bool _) (by simp [names]) he
    case geq => exact key _ _ _ (fun hk _ => by subst hk; simp [eqGuard, binOp, Op.intCmp]) (.bool _) (by simp [names]) he
    case shl =>
      cases he
      simp only at hp
      have hb : ¬ b < 0 := by omega
      exact ⟨⟨rfl, rfl, rfl, rfl⟩, _, by simp [eqGuard, binOp, Op.shift, hb], .int _ _, by simp [names]⟩
    case shr =>
      cases he
      simp only at hp
      have hb : ¬ b < 0 := by omega
      exact ⟨⟨rfl, rfl, rfl, rfl⟩, _, by simp [eqGuard, binOp, Op.shift, hb], .int _ _, by simp [names]⟩
    all_goals cases he
  case str.str l m =>
    have h1 := hx.str_
    have h2 := hy.str_
    subst h1 h2
    cases op <;> simp only [bin] at he
    case eql => cases he; exact ⟨⟨rfl, rfl, rfl, rfl⟩, _, by simp [eqGuard, binOp, Op.stringOp, ByteArray.toList_eq], .bool _, by simp [names]⟩
    case neq => cases he; exact ⟨⟨rfl, rfl, rfl, rfl⟩, _, by simp [eqGuard, binOp, Op.stringOp, ByteArray.toList_eq], .bool _, by simp [names]⟩
    case add =>
      cases he
      simp only at hp
      have ha : (⟨⟨l⟩⟩ : ByteArray) ++ ⟨⟨m⟩⟩ = ⟨⟨l ++ m⟩⟩ := by
        apply ByteArray.ext
        simp
      have z1 : (⟨⟨l⟩⟩ : ByteArray).size = l.length := rfl
      have z2 : (⟨⟨m⟩⟩ : ByteArray).size = m.length := rfl
      exact ⟨⟨rfl, rfl, rfl, rfl⟩, .string ⟨⟨l ++ m⟩⟩, by simp [eqGuard, binOp, Op.stringOp, ha, z1, z2, IntKind.max, IntKind.signed, IntKind.bits]; omega, .str _, by simp [names]⟩
    all_goals cases he

theorem getD_name {xs : List AV} {i : Nat} {x : AV} (h : xs[i]? = some x) : xs.getD i .junk = x := by simp [h]

/-- slices of slices, and of texts -/
theorem slice_run (T : TypeId) (e : TypeId) (A : Option Addr) (len cap l h s : Nat) (lo hi : Option Value) (hu : P.underlying T = some (.slice e)) (hs : (sizeOf e).run P w = .ok s w)
    (hlo : (lo = none ∧ l = 0) ∨ ∃ k, lo = some (.int k l)) (hhi : (hi = none ∧ h = len) ∨ ∃ k, hi = some (.int k h)) (h1 : l ≤ h) (h2 : h ≤ cap) :
    (Instr.sliceAt T (.slice A len cap) lo hi none).run P w = .ok (.slice (if cap = l then A else A.map (·.add (l * s))) (h - l) (cap - l)) w := by
  have h3 : (l : Int) ≤ h := by omega
  have h4 : (h : Int) ≤ cap := by omega
  have h5 : 0 ≤ (l : Int) := by omega
  have h6 : 0 ≤ (h : Int) := by omega
  rcases hlo with ⟨rfl, rfl⟩ | ⟨k, rfl⟩ <;> rcases hhi with ⟨rfl, rfl⟩ | ⟨k', rfl⟩ <;>
    simp [Instr.sliceAt, Instr.slice, run_underlying hu, Instr.sliceBounds, Instr.sliceBound, asIntOf, hs, h3, h4, h1, h2]
theorem slice_str_run (T : TypeId) (x : ByteArray) (l h : Nat) (lo hi : Option Value) (hu : P.underlying T = some .string)
    (hlo : (lo = none ∧ l = 0) ∨ ∃ k, lo = some (.int k l)) (hhi : (hi = none ∧ h = x.size) ∨ ∃ k, hi = some (.int k h)) (h1 : l ≤ h) (h2 : h ≤ x.size) :
    (Instr.sliceAt T (.string x) lo hi none).run P w = .ok (.string (x.extract l h)) w := by
  have h3 : (l : Int) ≤ h := by omega
  have h4 : (h : Int) ≤ x.size := by omega
  have h5 : 0 ≤ (l : Int) := by omega
  have h6 : 0 ≤ (h : Int) := by omega
  rcases hlo with ⟨rfl, rfl⟩ | ⟨k, rfl⟩ <;> rcases hhi with ⟨rfl, rfl⟩ | ⟨k', rfl⟩ <;>
    simp [Instr.sliceAt, Instr.slice, run_underlying hu, Instr.sliceBounds, Instr.sliceBound, asIntOf, h3, h4, h1, h2]
theorem extract_list (l : List UInt8) (i j : Nat) : (⟨⟨l⟩⟩ : ByteArray).extract i j = ⟨⟨(l.take j).drop i⟩⟩ := by
  apply ByteArray.ext
  simp [List.drop_take]

/-- a piece of a slice that is read -/
theorem Rel.piece {im : Nat → Prop} {sz : Nat} {rs : List (List AV)} {A : Option Addr} {n c l h s : Nat} (hr : Rel w im ρ (.sl sz rs) (.slice A n c)) (h1 : l ≤ h) (h2 : h ≤ rs.length) (hs : s = sz ∨ h = 0) :
    Rel w im ρ (.sl sz ((rs.take h).drop l)) (.slice (if c = l then A else A.map (·.add (l * s))) (h - l) (c - l)) := by
  cases hr with
  | sl sz rs A c b o val hc hm hA hrow hcell hval =>
  have hlen : ((rs.take h).drop l).length = h - l := by simp; omega
  rw [← hlen]
  have hget : ∀ (i : Nat) row, ((rs.take h).drop l)[i]? = some row → rs[l + i]? = some row := by
    intro i row hi
    rw [List.getElem?_drop, List.getElem?_take] at hi
    split at hi
    · exact hi
    · cases hi
  refine .sl sz _ _ _ b (o + l * sz) (fun i j => val (l + i) j) (by omega) (by omega) (fun hpos => ?_) (fun i row hi => hrow _ row (hget i row hi)) (fun i j row x hi hj => ?_) (fun i j row x hi hj => hval _ j row x (hget i row hi) hj)
  · rw [hlen] at hpos
    obtain ⟨rfl, hb⟩ := hA (by omega)
    have hcl : ¬ c = l := by omega
    have hs' : s = sz := by rcases hs with h | h <;> omega
    subst hs'
    rw [if_neg hcl, Option.map_some, add_flat']
    exact ⟨rfl, hb⟩
  · have := hcell (l + i) j row x (hget i row hi) hj
    rw [Nat.add_mul] at this
    rw [show o + l * sz + (i * sz + j) = o + (l * sz + i * sz + j) by omega]
    exact this
end
end Go.Proofs.Ytcgdjdlcecnanaa.Ab
