/-
  Stores; slices written out; structs built; texts made bytes.
  No condition.
-/
import Derived.Test.YtcgdjdlcecnanaaAbI
import Derived.Laws.CopyRow
import Derived.Laws.Rows
namespace Go.Proofs.Ytcgdjdlcecnanaa.Ab
open Go
set_option linter.unusedVariables false
set_option linter.unusedSimpArgs false

section
variable {P : Program} {D : Nat → TI} {S N0 : Nat → Prop} {B : Nat} {w0 : W0} {ρ : Env} {σ : AS} {a : Act} {w : World}

theorem valSplice_get {o : Nat} {new old : List Value} (h : o + new.length ≤ old.length) (i : Nat) : (old.take o ++ new ++ old.drop (o + new.length))[i]? = if o ≤ i ∧ i < o + new.length then new[i - o]? else old[i]? := by
  by_cases h1 : i < o
  · rw [if_neg (by omega), List.append_assoc, List.getElem?_append_left (by simp; omega), List.getElem?_take, if_pos h1]
  · by_cases h2 : i < o + new.length
    · rw [if_pos (by omega), List.append_assoc, List.getElem?_append_right (by simp; omega), List.getElem?_append_left (by simp; omega)]
      congr 1
      simp; omega
    · rw [if_neg (by omega), List.append_assoc, List.getElem?_append_right (by simp; omega), List.getElem?_append_right (by simp; omega), List.getElem?_drop]
      congr 1
      simp; omega

theorem storeVar_run (hT : TOk P D) {T b o : Nat} {t : TypeId} {arr : Array Value} {v : Value} (hno : isOther (D T).k = false) (hs : v.cells.size = (D T).n) (h1 : ∀ u ∈ v.cells.toList, u.oneCell' = true) (hh : w.heap[b]? = some (.cells arr t (0, 0))) (hb : o + (D T).n ≤ arr.size) :
    (Instr.storeAt T (.pointer (some ⟨b, o, none⟩)) v).run P w = .ok () (w.setRow b (arr.toList.take o ++ v.cells.toList ++ arr.toList.drop (o + (D T).n)).toArray) := by
  have := run_storeCells_at P b o t v.cells.toList 0 arr w hh (by simpa [hs] using hb) h1
  simp only [Nat.add_zero, Array.length_toList, hs] at this
  simp [Instr.storeAt, Instr.sureAddr, storeVar, ty_size hT hno, hs, this]

theorem crel_one {im : Nat → Prop} {cs : List AV} {vs : Array Value} (h : CRel w im ρ cs vs) : ∀ u ∈ vs.toList, u.oneCell' = true := by
  intro u hu
  obtain ⟨k, hk⟩ := List.getElem?_of_mem hu
  have hlt := (List.getElem?_eq_some_iff.1 hk).1
  simp at hk hlt
  exact (h.2 k _ u (List.getElem?_eq_getElem (by rw [← h.1]; exact hlt)) hk).1

/-- a block of our own is written -/
theorem St0.upd (h : St0 D S N0 B w0 ρ σ a w) {n b : Nat} {x y : Blk} {arr : Array Value} (hn : blk σ n = some x) (hb : (ρ n).b = some b)
    (hy : (∀ c, Im S N0 B w ρ σ c → (w.setRow b arr).heap[c]? = w.heap[c]?) → ∀ im', (∀ c, Im S N0 B w ρ σ c → im' c) → BRel D (w.setRow b arr) im' ρ n y) (hcl : ∀ cs, y = .cells cs → ∀ m ∈ namess cs, (blk σ m).isSome = true) :
    St0 D S N0 B w0 ρ (stepS σ [] [] [(n, y)]) a (w.setRow b arr) ∧ ∀ c, Im S N0 B w ρ σ c → Im S N0 B (w.setRow b arr) ρ (stepS σ [] [] [(n, y)]) c ∧ (w.setRow b arr).heap[c]? = w.heap[c]? := by
  have hw : ∀ c, Im S N0 B w ρ σ c → (w.setRow b arr).heap[c]? = w.heap[c]? := fun c hc => setRow_other w b c arr (by rintro rfl; exact hc.2.2 n x hn hb)
  refine h.step (ks := []) (nw := []) (up := [(n, y)]) rfl rfl rfl (by simp) (fun c hc hk => setRow_other w b c arr ?_) (fun _ _ _ => rfl) (fun m hm => by simp [keys] at hm) (fun m hm => ?_) (fun him m z hz => ?_) (fun m c hm _ => by simp [keys] at hm) (fun m k c hm _ _ _ => by simp [keys] at hm)
  · rintro rfl
    exact hk n x (.inr (by simp [keys])) hn hb
  · simp [keys] at hm
    subst hm
    exact ⟨by rw [hn]; rfl, by simp⟩
  · have e : m = n ∧ z = y := by
      rcases hz with hz | ⟨_, hz⟩
      · simp [get] at hz
      · simp only [get] at hz
        split at hz
        · rename_i e; exact ⟨e.symm, (Option.some.inj hz).symm⟩
        · cases hz
    obtain ⟨rfl, rfl⟩ := e
    refine ⟨hy hw _ him, fun cs hcs k hk => ?_⟩
    have := hcl cs hcs k hk
    rw [blk_step]
    simp only [get]
    split
    · rfl
    · rename_i hq
      rw [if_neg (by simp)]
      simpa using this

theorem store_sound (hT : TOk P D) (h : St0 D S N0 B w0 ρ σ a w) {bl : Nat → Option Blk} (hbl : ∀ n x, bl n = some x → blk σ n = some x) {T : Nat} {x y : AV} {u v : Value} {e : Eff} (hno : isOther (D T).k = false)
    (hx : Rel w (Im S N0 B w ρ σ) ρ x u) (hnx : ∀ n ∈ names x, (blk σ n).isSome = true) (hy : Rel w (Im S N0 B w ρ σ) ρ y v) (he : effStore D bl T x y = some e) (hp : e.pre) :
    ∃ w', (Instr.storeAt T v u).run P w = .ok () w' ∧ e.v = .junk ∧ ∃ ρ', St0 D S N0 B w0 ρ' (stepS (freeze σ e.fr) e.kl e.nw e.up) a w' := by
  cases hy <;> simp only [effStore] at he <;> try (cases he; done)
  case ptr n off b hb =>
    cases hbn : bl n with
    | none => rw [hbn] at he; cases he
    | some z =>
      rw [hbn] at he
      cases z with
      | rows e' sz rs => cases he
      | cells cs =>
        cases he
        simp only at hp
        obtain ⟨p0, p1, p2⟩ := hp
        have hs := hbl n _ hbn
        obtain ⟨b', arr, T', h1, h2, h3, h5⟩ := h.hp.blk n _ hs
        rw [hb] at h1
        cases h1
        have hc := cells_rel hx p0
        have hsz : u.cells.size = (D T).n := by rw [hc.1, p1]
        have hrun := storeVar_run (P := P) (w := w) hT (T := T) (o := off) hno hsz (crel_one hc) h2 (by omega)
        refine ⟨_, hrun, rfl, ρ, ?_⟩
        refine (h.upd (n := n) (b := b) hs hb (fun hw im' him => ?_) (fun cs' e' m hm => ?_)).1
        · have hl : off + (cellsOf x).length ≤ cs.length := by omega
          refine ⟨b, _, T', hb, setRow_heap w b arr _ T' _ h2, by simp [splice]; omega, fun i z q hz hq => ?_⟩
          rw [splice_get hl] at hz
          simp only [List.getElem?_toArray] at hq
          have hq' := valSplice_get (o := off) (new := u.cells.toList) (old := arr.toList) (by simp; omega) i
          rw [Array.length_toList, hsz] at hq'
          rw [hq'] at hq
          rw [p1] at hz
          split at hz
          · rename_i hin
            rw [if_pos hin] at hq
            simp only [Array.getElem?_toList] at hq
            obtain ⟨q1, q2⟩ := hc.2 _ z q hz hq
            exact ⟨q1, q2.mono him hw fun _ _ => rfl⟩
          · rename_i hin
            rw [if_neg hin] at hq
            simp only [Array.getElem?_toList] at hq
            obtain ⟨q1, q2⟩ := h5 i z q hz hq
            exact ⟨q1, q2.mono him hw fun _ _ => rfl⟩
        · cases e'
          obtain ⟨i, z, hz, hmz⟩ := namess_mem hm
          have hl : off + (cellsOf x).length ≤ cs.length := by omega
          rw [splice_get hl] at hz
          split at hz
          · refine hnx m ?_
            have := mem_namess hz hmz
            cases x <;> simp [cellsOf, namess, names] at this ⊢ <;> exact this
          · exact h.hp.closed n cs hs m (mem_namess hz hmz)
  case eptr t i off b hb =>
    cases hrt : rowsAt bl t with
    | none => rw [hrt] at he; cases he
    | some r =>
      obtain ⟨e', sz, rs⟩ := r
      rw [hrt] at he
      cases he
      simp only at hp
      obtain ⟨p0, ⟨p1, p2⟩, p3, p4⟩ := hp
      have hs := hbl t _ (rowsAt_some hrt)
      obtain ⟨g1, g2, g3, A, c, g4, g5, g6, g7⟩ := h.hp.blk t _ hs
      rcases g7 with ⟨_, _, _, g8⟩ | ⟨b', arr, g8, g9, g10, g11, g14⟩
      · rw [hb] at g8; cases g8
      rw [hb] at g8
      cases g8
      have hc := cells_rel hx p0
      have hsz : u.cells.size = (D T).n := by rw [hc.1, p1]
      have hri : rs[i]? = some (rs.getD i []) := by simp [List.getD_eq_getElem?_getD, p4]
      have hrl := (g14 i _ hri).1
      have hidx : i * sz + sz ≤ arr.size := by
        have : (i + 1) * sz ≤ c * sz := Nat.mul_le_mul_right _ (by omega)
        rw [Nat.add_mul] at this
        omega
      have hrun := storeVar_run (P := P) (w := w) hT (T := T) (o := i * (ρ t).sz + off) hno hsz (crel_one hc) g10 (by rw [g1]; omega)
      refine ⟨_, hrun, rfl, ρ, ?_⟩
      refine (h.upd (n := t) (b := b) hs hb (fun hw im' him => ?_) (fun cs' e' m hm => by cases e')).1
      refine ⟨g1, g2, g3, A, c, by simpa using g4, by simpa using g5, g6, .inr ⟨b, _, hb, g9, setRow_heap w b arr _ e' _ g10, by simp [g1, hsz]; omega, fun i' row hi' => ?_⟩⟩
      have hget : ∀ k, (arr.toList.take (i * (ρ t).sz + off) ++ u.cells.toList ++ arr.toList.drop (i * (ρ t).sz + off + (D T).n)).toArray[k]? = if i * sz + off ≤ k ∧ k < i * sz + off + (D T).n then u.cells[k - (i * sz + off)]? else arr[k]? := by
        intro k
        simp only [List.getElem?_toArray]
        have hq' := valSplice_get (o := i * (ρ t).sz + off) (new := u.cells.toList) (old := arr.toList) (by simp [hsz]; rw [g1]; omega) k
        rw [Array.length_toList, hsz] at hq'
        rw [hq', g1]
        split
        · simp
        · simp
      by_cases hii : i' = i
      · subst hii
        rw [List.getElem?_set_self p4] at hi'
        cases hi'
        have hl : off + (cellsOf x).length ≤ (rs.getD i' []).length := by omega
        refine ⟨by rw [splice_len hl]; exact hrl, fun j z hz => ?_⟩
        rw [splice_get hl] at hz
        split at hz
        · rename_i hin
          have hlt : j - off < u.cells.size := by rw [hsz]; omega
          obtain ⟨q1, q2⟩ := hc.2 _ z u.cells[j - off] hz (by simp [hlt])
          refine ⟨?_, u.cells[j - off], ?_, q1, q2.mono him hw fun _ _ => rfl⟩
          · have : ∀ n, n ∉ names z := fun n hn => by
              have := mem_namess hz hn
              rw [p3] at this
              cases this
            exact List.eq_nil_iff_forall_not_mem.2 this
          · rw [hget, if_pos (by omega)]
            have e : i' * sz + j - (i' * sz + off) = j - off := by omega
            rw [e]
            simp [hlt]
        · rename_i hin
          obtain ⟨q1, q, q2, q3, q4⟩ := (g14 i' _ hri).2 j z hz
          refine ⟨q1, q, ?_, q3, q4.mono him hw fun _ _ => rfl⟩
          have hj : j < sz := by rw [← hrl]; exact (List.getElem?_eq_some_iff.1 hz).1
          rw [hget, if_neg (by omega)]
          exact q2
      · rw [List.getElem?_set_ne (fun e => hii e.symm)] at hi'
        refine ⟨(g14 i' row hi').1, fun j z hz => ?_⟩
        obtain ⟨q1, q, q2, q3, q4⟩ := (g14 i' row hi').2 j z hz
        refine ⟨q1, q, ?_, q3, q4.mono him hw fun _ _ => rfl⟩
        have hj : j < sz := by rw [← (g14 i' row hi').1]; exact (List.getElem?_eq_some_iff.1 hz).1
        rw [hget, if_neg ?_]
        · exact q2
        · rcases Nat.lt_or_gt_of_ne hii with hlt | hgt
          · have : (i' + 1) * sz ≤ i * sz := Nat.mul_le_mul_right _ hlt
            rw [Nat.add_mul] at this
            omega
          · have : (i + 1) * sz ≤ i' * sz := Nat.mul_le_mul_right _ hgt
            rw [Nat.add_mul] at this
            omega
end
end Go.Proofs.Ytcgdjdlcecnanaa.Ab
