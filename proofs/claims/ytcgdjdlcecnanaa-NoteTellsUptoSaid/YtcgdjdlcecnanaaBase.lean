/-
  How values in memory read as the plain data of the Data text, and that this stays so while other memory is written.
  No condition.
-/
import Derived.Test.YtcgdjdlcecnanaaData
import Derived.WalkKit
import Derived.Lib.Hide
import Derived.Maps.AppendAt
import Derived.Deep.AppendLies
import Derived.Deep.Draws
import Derived.RegionTactic
import Derived.OwnWalk
import Derived.Deep.QuietTactic
import Derived.BigQuiet
import Derived.Deep.RegionWith
import Derived.WalkSpells
import Derived.WalkLawsBesides
namespace Go.Proofs.Ytcgdjdlcecnanaa
open Go.RowKit
set_option linter.unusedSimpArgs false
set_option linter.unusedVariables false

theorem ret_int {k : IntKind} {a b : Int} (h : a = b) : Ending.returned (.int k a) = .returned (.int k b) := by rw [h]
theorem ret_bool {a b : Bool} (h : a = b) : Ending.returned (.bool a) = .returned (.bool b) := by rw [h]

theorem isEmpty_size (t : ByteArray) : t.toList.isEmpty = decide (t.size = 0) := by
  rw [ByteArray.toList_eq, Bool.eq_iff_iff, List.isEmpty_iff_length_eq_zero]
  simp only [decide_eq_true_eq]
  rfl

/-- what a walk below a callee keeps -/
theorem bcell {W w1 : World} (hb : Below W.heap.size W w1) : (∀ b o, b < W.heap.size → w1.cell? ⟨b, o, none⟩ = W.cell? ⟨b, o, none⟩) ∧ (∀ b o, b < W.heap.size → w1.frozen? ⟨b, o, none⟩ = W.frozen? ⟨b, o, none⟩) :=
  ⟨fun b o h => hb.cell (p := ⟨b, o, none⟩) h, fun b o h => hb.frozen (p := ⟨b, o, none⟩) h⟩

theorem block_of_add (a : Addr) (n : Nat) : (a.add n).block = a.block := by unfold Addr.add; split <;> rfl
theorem add_of_add (a : Addr) (i j : Nat) : (a.add i).add j = a.add (i + j) := by
  unfold Addr.add
  by_cases hi : i = 0 <;> by_cases hj : j = 0 <;> simp [hi, hj, Nat.add_assoc]
theorem add_flat (b o n : Nat) : (⟨b, o, none⟩ : Addr).add n = ⟨b, o + n, none⟩ := by unfold Addr.add; split <;> simp_all

/-- In w', the blocks of S are as they were in w. -/
def Kept (S : Nat → Prop) (w w' : World) : Prop := ∀ b, S b → w'.heap[b]? = w.heap[b]?
theorem Kept.refl (S : Nat → Prop) (w : World) : Kept S w w := fun _ _ => rfl
theorem Kept.trans {S : Nat → Prop} {a b c : World} (h : Kept S a b) (k : Kept S b c) : Kept S a c := fun i hi => (k i hi).trans (h i hi)
theorem Kept.cell {S : Nat → Prop} {w w' : World} (h : Kept S w w') {p : Addr} (hp : S p.block) : w'.cell? p = w.cell? p := World.cell?_of_block (h _ hp)
theorem Kept.below {B : Nat} {w w' : World} (h : Below B w w') {S : Nat → Prop} (hS : ∀ b, S b → b < B) : Kept S w w' := fun b hb => h.block b (hS b hb)

/-- The slice at A, of n elements of 'size' cells each, holds the cells xs; its block is in S. -/
def Reads (w : World) (S : Nat → Prop) (size : Nat) (A : Option Addr) (n : Nat) (xs : List Value) : Prop :=
  xs.length = n * size ∧ (0 < n → ∃ b o, A = some ⟨b, o, none⟩ ∧ S b ∧ ∀ j u, xs[j]? = some u → w.cell? ⟨b, o + j, none⟩ = some u)

section
variable {w w' : World} {S S' : Nat → Prop} {size n : Nat} {A : Option Addr} {xs : List Value}
theorem Reads.nil : Reads w S size A 0 [] := ⟨by simp, fun h => absurd h (by omega)⟩
theorem Reads.keep (h : Reads w S size A n xs) (hk : Kept S w w') : Reads w' S size A n xs :=
  ⟨h.1, fun hn => by
    obtain ⟨b, o, e, hb, hc⟩ := h.2 hn
    exact ⟨b, o, e, hb, fun j u hu => (hk.cell hb).trans (hc j u hu)⟩⟩
theorem Reads.mono (h : Reads w S size A n xs) (hS : ∀ b, S b → S' b) : Reads w S' size A n xs :=
  ⟨h.1, fun hn => by
    obtain ⟨b, o, e, hb, hc⟩ := h.2 hn
    exact ⟨b, o, e, hS b hb, hc⟩⟩
end

theorem below_alloc {a w : World} (h : Below a.heap.size a w) (o : Obj) : Below a.heap.size a (w.alloc o) := h.alloc h.size o
theorem below_drewN {B : Nat} {a w : World} (h : Below B a w) (n : Nat) : Below B a (w.drewN n) := ⟨h.os, h.tape, h.output, h.size, h.block⟩
theorem below_trans {a w w' : World} (h : Below a.heap.size a w) (k : Below w.heap.size w w') : Below a.heap.size a w' := h.trans (k.mono h.size)
theorem below_set {a w : World} (h : Below a.heap.size a w) {p : Addr} (hp : a.heap.size ≤ p.block) (u : Value) : Below a.heap.size a (w.setCell p u) := h.setCell hp u
theorem below_grown {a w w' : World} (h : Below a.heap.size a w) {row : Option Nat} (hg : w.grownBy w' row) (hr : ∀ k, row = some k → a.heap.size ≤ k) : Below a.heap.size a w' := h.grown hg h.size hr
theorem below_grown_none {a w w' : World} (h : Below a.heap.size a w) (hg : w.grownBy w' none) : Below a.heap.size a w' := h.grown hg h.size (by simp)
/-- what lies below a call's beginning, asked later on -/
theorem Reads.later {w W : World} {size n : Nat} {A : Option Addr} {xs : List Value} (h : Reads w (· < w.heap.size) size A n xs) (hb : Below w.heap.size w W) : Reads W (· < W.heap.size) size A n xs :=
  (h.keep (Kept.below hb fun _ h => h)).mono fun b hb' => Nat.lt_of_lt_of_le hb' hb.size

/-! ## bytes -/
def byteV (b : UInt8) : Value := .int .u8 b.toNat
theorem byteV_of (n : Nat) : byteV (UInt8.ofNat n) = .int .u8 ((n % 256 : Nat) : Int) := by simp [byteV]
/-- a slice value reads as bytes -/
def RBytes (w : World) (S : Nat → Prop) (A : Option Addr) (l : List UInt8) : Prop := Reads w S 1 A l.length (l.map byteV)

section
variable {w w' : World} {S S' : Nat → Prop} {A : Option Addr} {l : List UInt8}
theorem RBytes.keep (h : RBytes w S A l) (hk : Kept S w w') : RBytes w' S A l := Reads.keep h hk
theorem RBytes.mono (h : RBytes w S A l) (hS : ∀ b, S b → S' b) : RBytes w S' A l := Reads.mono h hS
theorem RBytes.at_ (h : RBytes w S A l) (hl : 0 < l.length) : ∃ b o, A = some ⟨b, o, none⟩ ∧ S b ∧ ∀ (k : Nat) (hk : k < l.length), w.cell? ⟨b, o + k, none⟩ = some (.int .u8 l[k].toNat) := by
  obtain ⟨b, o, e, hb, hc⟩ := h.2 hl
  exact ⟨b, o, e, hb, fun k hk => hc k _ (by simp [hk, byteV])⟩
end

theorem RBytes.take {w : World} {S : Nat → Prop} {A : Option Addr} {l : List UInt8} (h : RBytes w S A l) (k : Nat) : RBytes w S A (l.take k) := by
  refine ⟨by simp, fun hk => ?_⟩
  have hl : 0 < l.length := by rw [List.length_take] at hk; omega
  obtain ⟨b, o, e, hb, hc⟩ := h.at_ hl
  refine ⟨b, o, e, hb, fun j u hu => ?_⟩
  rw [List.map_take, List.getElem?_take] at hu
  split at hu
  · have hj : j < l.length := by
      rcases Nat.lt_or_ge j l.length with h' | h'
      · exact h'
      · rw [List.getElem?_eq_none (by simpa using h')] at hu; cases hu
    rw [hc j hj]
    rw [List.getElem?_map, List.getElem?_eq_getElem hj] at hu
    exact hu
  · cases hu
/-- the slice that begins k bytes later (where the room ends there, at whatever address) -/
theorem RBytes.drop {w : World} {S : Nat → Prop} {b o : Nat} {l : List UInt8} (h : RBytes w S (some ⟨b, o, none⟩) l) (k : Nat) (A : Option Addr) (hA : k < l.length → A = some ⟨b, o + k, none⟩) : RBytes w S A (l.drop k) := by
  refine ⟨by simp, fun hk => ?_⟩
  rw [List.length_drop] at hk
  have hl : k < l.length := by omega
  obtain ⟨b', o', e, hb, hc⟩ := h.at_ (by omega)
  injection e with e
  injection e with e1 e2 e3
  subst e1 e2
  refine ⟨b, o + k, hA hl, hb, fun j u hu => ?_⟩
  rw [List.getElem?_map, List.getElem?_drop] at hu
  have hj : k + j < l.length := by
    rcases Nat.lt_or_ge (k + j) l.length with h' | h'
    · exact h'
    · rw [List.getElem?_eq_none h'] at hu; cases hu
  rw [Nat.add_assoc, hc (k + j) hj]
  rw [List.getElem?_eq_getElem hj] at hu
  exact hu

/-! ## properties -/
def propV (p : LProp) : List Value := [.string p.key, .int .i64 p.kind, .int .i64 p.n, .string p.text]
def RProps (w : World) (S : Nat → Prop) (A : Option Addr) (l : List LProp) : Prop := Reads w S 4 A l.length (l.flatMap propV)

theorem flatMap_get {α : Type} (f : α → List Value) (m : Nat) (hf : ∀ x, (f x).length = m) (l : List α) : ∀ (k : Nat) (hk : k < l.length) (j : Nat) (_hj : j < m), (l.flatMap f)[k * m + j]? = (f l[k])[j]? := by
  induction l with
  | nil => intro k hk; simp at hk
  | cons x r ih =>
    intro k hk j hj
    rw [List.flatMap_cons]
    cases k with
    | zero => rw [List.getElem?_append_left (by rw [hf]; omega)]; simp
    | succ k =>
      rw [List.getElem?_append_right (by rw [hf, Nat.add_mul]; omega), hf]
      have e : (k + 1) * m + j - m = k * m + j := by rw [Nat.add_mul]; omega
      rw [e]
      exact ih k (by simpa using hk) j hj
theorem flatMap_len {α : Type} (f : α → List Value) (m : Nat) (hf : ∀ x, (f x).length = m) (l : List α) : (l.flatMap f).length = l.length * m := by
  induction l with
  | nil => simp
  | cons x r ih => rw [List.flatMap_cons, List.length_append, hf, ih, List.length_cons, Nat.add_mul]; omega

section
variable {w w' : World} {S S' : Nat → Prop} {A : Option Addr} {l : List LProp}
theorem RProps.keep (h : RProps w S A l) (hk : Kept S w w') : RProps w' S A l := Reads.keep h hk
theorem RProps.mono (h : RProps w S A l) (hS : ∀ b, S b → S' b) : RProps w S' A l := Reads.mono h hS
theorem RProps.at_ (h : RProps w S A l) (hl : 0 < l.length) : ∃ b o, A = some ⟨b, o, none⟩ ∧ S b ∧ ∀ (k : Nat) (hk : k < l.length),
    w.cell? ⟨b, o + k * 4, none⟩ = some (.string l[k].key) ∧ w.cell? ⟨b, o + k * 4 + 1, none⟩ = some (.int .i64 l[k].kind) ∧
    w.cell? ⟨b, o + k * 4 + 2, none⟩ = some (.int .i64 l[k].n) ∧ w.cell? ⟨b, o + k * 4 + 3, none⟩ = some (.string l[k].text) := by
  obtain ⟨b, o, e, hb, hc⟩ := h.2 hl
  refine ⟨b, o, e, hb, fun k hk => ?_⟩
  have hg := flatMap_get propV 4 (fun _ => rfl) l k hk
  refine ⟨hc _ _ ((hg 0 (by omega)).trans rfl), ?_, ?_, ?_⟩
  · rw [Nat.add_assoc]; exact hc _ _ ((hg 1 (by omega)).trans rfl)
  · rw [Nat.add_assoc]; exact hc _ _ ((hg 2 (by omega)).trans rfl)
  · rw [Nat.add_assoc]; exact hc _ _ ((hg 3 (by omega)).trans rfl)
end


/-! ## slices of slices of bytes -/
def recV (h : Option Addr × Nat) (r : List UInt8) : Value := .slice h.1 r.length h.2
def RRecs (w : World) (S S2 : Nat → Prop) (A : Option Addr) (rs : List (List UInt8)) : Prop :=
  ∃ hs : List (Option Addr × Nat), hs.length = rs.length ∧ Reads w S 1 A rs.length (List.zipWith recV hs rs) ∧
    ∀ (i : Nat) (h1 : i < hs.length) (h2 : i < rs.length), RBytes w S2 hs[i].1 rs[i] ∧ rs[i].length ≤ hs[i].2 ∧ hs[i].2 ≤ maxLen
theorem RRecs.keep {w w' : World} {S S2 : Nat → Prop} {A : Option Addr} {rs : List (List UInt8)} (h : RRecs w S S2 A rs) (hk : Kept S w w') (hk2 : Kept S2 w w') : RRecs w' S S2 A rs := by
  obtain ⟨hs, h1, h2, h3⟩ := h
  exact ⟨hs, h1, h2.keep hk, fun i a b => ⟨(h3 i a b).1.keep hk2, (h3 i a b).2⟩⟩
theorem RRecs.mono {w : World} {S S2 S' S2' : Nat → Prop} {A : Option Addr} {rs : List (List UInt8)} (h : RRecs w S S2 A rs) (hk : ∀ b, S b → S' b) (hk2 : ∀ b, S2 b → S2' b) : RRecs w S' S2' A rs := by
  obtain ⟨hs, h1, h2, h3⟩ := h
  exact ⟨hs, h1, h2.mono hk, fun i a b => ⟨(h3 i a b).1.mono hk2, (h3 i a b).2⟩⟩
theorem RRecs.later {w W : World} {A : Option Addr} {rs : List (List UInt8)} (h : RRecs w (· < w.heap.size) (· < w.heap.size) A rs) (hb : Below w.heap.size w W) : RRecs W (· < W.heap.size) (· < W.heap.size) A rs :=
  (h.keep (Kept.below hb fun _ h => h) (Kept.below hb fun _ h => h)).mono (fun b hb' => Nat.lt_of_lt_of_le hb' hb.size) (fun b hb' => Nat.lt_of_lt_of_le hb' hb.size)
theorem RRecs.at_ {w : World} {S S2 : Nat → Prop} {A : Option Addr} {rs : List (List UInt8)} (h : RRecs w S S2 A rs) (hl : 0 < rs.length) : ∃ b o, A = some ⟨b, o, none⟩ ∧ S b ∧
    ∀ (k : Nat) (hk : k < rs.length), ∃ A1 c1, w.cell? ⟨b, o + k, none⟩ = some (.slice A1 rs[k].length c1) ∧ RBytes w S2 A1 rs[k] ∧ rs[k].length ≤ c1 ∧ c1 ≤ maxLen := by
  obtain ⟨hs, h1, h2, h3⟩ := h
  obtain ⟨b, o, e, hb, hc⟩ := h2.2 hl
  refine ⟨b, o, e, hb, fun k hk => ?_⟩
  have hk' : k < hs.length := by omega
  obtain ⟨r1, r2, r3⟩ := h3 k hk' hk
  exact ⟨hs[k].1, hs[k].2, hc k _ (by rw [List.getElem?_zipWith, List.getElem?_eq_getElem hk', List.getElem?_eq_getElem hk]; rfl), r1, r2, r3⟩

end Go.Proofs.Ytcgdjdlcecnanaa
