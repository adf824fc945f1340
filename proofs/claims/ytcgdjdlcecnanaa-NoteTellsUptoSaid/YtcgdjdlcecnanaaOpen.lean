/-
  Arguments opened: bytes and slices of bytes, as the walks read them, with what their bulk bounds.
  No condition.
-/
import Derived.Test.YtcgdjdlcecnanaaRows
import Derived.Test.YtcgdjdlcecnanaaLaws
import Derived.ChangeSlices
import Derived.ChangeAt
import Derived.Deep.Slices
namespace Go.Proofs.Ytcgdjdlcecnanaa
open Go.ChangeShapes Go.WideShapes Go.RowKit
set_option linter.unusedSimpArgs false
set_option linter.unusedVariables false

theorem cells1_u8 : Try.prog.cellsOf 5 = 1 := by kernel_rfl
theorem cells1_bytes : Try.prog.cellsOf 22 = 1 := by kernel_rfl

theorem cell_addr {w : World} {a : Addr} {u : Value} (h : w.cell? a = some u) : (∃ b o, a = ⟨b, o, none⟩) ∧ a.block < w.heap.size := by
  obtain ⟨b, o, s⟩ := a
  unfold World.cell? at h
  cases hh : w.heap[b]? with
  | none => simp [hh] at h
  | some x =>
    refine ⟨⟨b, o, ?_⟩, (Array.getElem?_eq_some_iff.1 hh).1⟩
    cases s with
    | none => rfl
    | some k => cases x <;> simp [hh] at h

theorem bulk_mem {H : Type} {d : DataW H} {l : List (DataW H)} (h : d ∈ l) : Rows.uptoBulk d ≤ Rows.uptoBulkAll l := by
  induction l with
  | nil => cases h
  | cons x r ih =>
    simp only [Rows.uptoBulkAll]
    cases List.mem_cons.1 h with
    | inl e => subst e; omega
    | inr e => have := ih e; omega
theorem bulk_one {H : Type} (d : DataW H) : 1 ≤ Rows.uptoBulk d := by
  cases d with
  | lit l => cases l <;> simp [Rows.uptoBulk]
  | nil => simp [Rows.uptoBulk]
  | ptr d => simp [Rows.uptoBulk]
  | slice elems spare => simp [Rows.uptoBulk]
  | agg parts => simp [Rows.uptoBulk]
  | iface t d => simp [Rows.uptoBulk]
  | map entries => simp [Rows.uptoBulk]
  | held h => simp [Rows.uptoBulk]
theorem bulk_len {H : Type} (l : List (DataW H)) : l.length ≤ Rows.uptoBulkAll l := by
  induction l with
  | nil => simp [Rows.uptoBulkAll]
  | cons x r ih => have := bulk_one x; simp only [Rows.uptoBulkAll, List.length_cons]; omega
theorem bulk_map {H α : Type} (f : α → DataW H) (g : α → Nat) : ∀ (l : List α), (∀ x ∈ l, g x ≤ Rows.uptoBulk (f x)) → (l.map g).sum ≤ Rows.uptoBulkAll (l.map f)
  | [], _ => by simp [Rows.uptoBulkAll]
  | x :: r, h => by
    have h1 := h x (by simp)
    have h2 := bulk_map f g r (fun y hy => h y (by simp [hy]))
    simp only [List.map_cons, List.sum_cons, Rows.uptoBulkAll]
    omega

theorem trod_bytes {H : Type} {enc : TypeId × Value → H} {W : World} {fuel : Nat} {cs : List Value} {x : DataW H × List MemPlace}
    (h : DataW.trod enc Try.prog W 0 (fun _ => true) true fuel 22 cs = some x) :
    ∃ (l : List UInt8) (A : Option Addr) (c : Nat), cs = [.slice A l.length c] ∧ l.length ≤ c ∧ c ≤ maxLen ∧ RBytes W (· < W.heap.size) A l ∧ l.length + 1 ≤ Rows.uptoBulk x.1 := by
  rcases open_ints Try.underlying22 Try.underlying5 cells1_u8 h with ⟨rfl, rfl⟩ | ⟨a, n, c, zs, rfl, _, h1, h2, h3, rfl, hc, hw⟩
  · exact ⟨[], none, 0, rfl, Nat.le_refl _, Nat.zero_le _, Reads.nil, by simp [Rows.uptoBulk]⟩
  · simp only [if_true] at h3
    have hl : (zs.take n).length = n := by rw [List.length_take]; omega
    refine ⟨(zs.take n).map fun z => UInt8.ofNat z.toNat, some a, c, by rw [List.length_map, hl], by rw [List.length_map, hl]; exact h1, h2, ⟨by simp [hl], fun hn => ?_⟩, ?_⟩
    · rw [List.length_map, hl] at hn
      obtain ⟨b, o, s⟩ := a
      have hc0 := cell_addr (hc 0 (by omega))
      obtain ⟨⟨b', o', e⟩, hb⟩ := hc0
      rw [block_of_add] at hb
      have hs : s = none := by
        cases s with
        | none => rfl
        | some k => simp [Addr.add] at e
      subst hs
      refine ⟨b, o, rfl, hb, fun j u hu => ?_⟩
      have hj : j < n := by
        have := (List.getElem?_eq_some_iff.1 hu).1
        simp only [List.length_map, hl] at this
        exact this
      have hz := hc j (by omega)
      have hwz := hw (zs[j]'(by omega)) (List.getElem_mem _)
      have hx : 0 ≤ zs[j]'(by omega) ∧ zs[j]'(by omega) ≤ 255 := by simpa [Lit.wf, IntKind.min, IntKind.max, IntKind.signed, IntKind.bits] using hwz
      have hq : (((zs.take n).map fun z => UInt8.ofNat z.toNat).map byteV)[j]? = some (.int .u8 (zs[j]'(by omega))) := by
        rw [List.getElem?_map, List.getElem?_map, List.getElem?_take_of_lt hj, List.getElem?_eq_getElem (by omega)]
        simp only [Option.map_some, byteV]
        congr 2
        rw [UInt8.toNat_ofNat']
        omega
      have hu' := hu.symm.trans hq
      cases hu'
      rw [List.getD_eq_getElem?_getD, List.getElem?_eq_getElem (by omega)] at hz
      rw [add_flat] at hz
      exact hz
    · rw [List.length_map]
      have := bulk_len (lits (H := H) .u8 (zs.take n))
      simp only [lits, List.length_map, hl] at this
      simp only [Rows.uptoBulk, hl, lits]
      omega

theorem frames_bulk {H : Type} : ∀ (rs : List (List UInt8)) (ds : List (DataW H)), rs.length = ds.length → (∀ (i : Nat) (h1 : i < rs.length) (h2 : i < ds.length), rs[i].length + 1 ≤ Rows.uptoBulk ds[i]) → (rs.map frameS).flatten.length ≤ 4 * Rows.uptoBulkAll ds
  | [], [], _, _ => by simp
  | [], _ :: _, h, _ => by simp at h
  | _ :: _, [], h, _ => by simp at h
  | r :: rs, d :: ds, h, hk => by
    have h0 := hk 0 (by simp) (by simp)
    have h1 := frames_bulk rs ds (by simpa using h) (fun i a b => hk (i + 1) (Nat.succ_lt_succ a) (Nat.succ_lt_succ b))
    simp only [List.map_cons, List.flatten_cons, List.length_append, frameS_len, Rows.uptoBulkAll]
    simp only [List.getElem_cons_zero] at h0
    omega

theorem trod_recs {H : Type} {enc : TypeId × Value → H} {W : World} {fuel : Nat} {cs : List Value} {x : DataW H × List MemPlace}
    (h : DataW.trod enc Try.prog W 0 (fun _ => true) true fuel 25 cs = some x) :
    ∃ (rs : List (List UInt8)) (A : Option Addr) (c : Nat), cs = [.slice A rs.length c] ∧ rs.length ≤ c ∧ c ≤ maxLen ∧ RRecs W (· < W.heap.size) (· < W.heap.size) A rs ∧ rs.length + 1 ≤ Rows.uptoBulk x.1 ∧ (rs.map frameS).flatten.length ≤ 4 * Rows.uptoBulk x.1 := by
  rcases Deep.open_slice1 Try.underlying25 cells1_bytes h with ⟨rfl, rfl⟩ | ⟨a, n, c, m, f2, V, D, Pl, rfl, _, h1, h2, h3, rfl, hc⟩
  · exact ⟨[], none, 0, rfl, Nat.le_refl _, Nat.zero_le _, ⟨[], rfl, Reads.nil, fun i h => absurd h (by simp)⟩, by simp [Rows.uptoBulk], by simp⟩
  · simp only [if_true] at h3
    subst h3
    have each : ∀ i, i < m → ∃ y : List UInt8 × Option Addr × Nat, V i = .slice y.2.1 y.1.length y.2.2 ∧ y.1.length ≤ y.2.2 ∧ y.2.2 ≤ maxLen ∧ RBytes W (· < W.heap.size) y.2.1 y.1 ∧ y.1.length + 1 ≤ Rows.uptoBulk (D i) := by
      intro i hi
      obtain ⟨l, A, c', e, r1, r2, r3, r4⟩ := trod_bytes (hc i hi).2
      exact ⟨(l, A, c'), by simpa using e, r1, r2, r3, r4⟩
    obtain ⟨Y, hY⟩ := Deep.choose_lt each
    have hl : ((List.range n).map fun i => (Y i).1).length = n := by simp
    refine ⟨(List.range n).map fun i => (Y i).1, some a, m, by rw [hl], by rw [hl]; exact h1, h2, ⟨(List.range n).map fun i => (Y i).2, by simp, ⟨by simp, fun hn => ?_⟩, fun i a1 a2 => ?_⟩, ?_, ?_⟩
    · rw [hl] at hn
      obtain ⟨b, o, s⟩ := a
      obtain ⟨⟨b', o', e⟩, hb⟩ := cell_addr (hc 0 (by omega)).1
      rw [block_of_add] at hb
      have hs : s = none := by
        cases s with
        | none => rfl
        | some k => simp [Addr.add] at e
      subst hs
      refine ⟨b, o, rfl, hb, fun j u hu => ?_⟩
      have hj : j < n := by
        have := (List.getElem?_eq_some_iff.1 hu).1
        simpa using this
      have hz := (hc j (by omega)).1
      rw [add_flat, (hY j (by omega)).1] at hz
      rw [hz]
      rw [List.getElem?_zipWith] at hu
      simpa [hj, recV] using hu
    · have hi : i < n := by simpa using a1
      have := hY i (by omega)
      simp only [List.getElem_map, List.getElem_range]
      exact ⟨this.2.2.2.1, this.2.1, this.2.2.1⟩
    · have := bulk_len ((List.range n).map D)
      rw [hl]
      simp only [List.length_map, List.length_range] at this
      simp only [Rows.uptoBulk]
      omega
    · have := frames_bulk ((List.range n).map fun i => (Y i).1) ((List.range n).map D) (by simp) (fun i a1 a2 => by
        have hi : i < n := by simpa using a1
        have := hY i (by omega)
        simpa using this.2.2.2.2)
      simp only [Rows.uptoBulk]
      omega
end Go.Proofs.Ytcgdjdlcecnanaa
