/-
  The operations that make and change no memory: what the evaluator says of them is so.
  No condition.
-/
import Derived.Test.YtcgdjdlcecnanaaAbF
namespace Go.Proofs.Ytcgdjdlcecnanaa.Ab
open Go
set_option linter.unusedVariables false
set_option linter.unusedSimpArgs false

section
variable {P : Program} {D : Nat → TI} {S N0 : Nat → Prop} {B : Nat} {w0 : W0} {ρ : Env} {σ : AS} {a : Act} {w : World}

/-- an operation that is a value -/
def Yld (P : Program) (S N0 : Nat → Prop) (B : Nat) (ρ : Env) (σ : AS) (w : World) (s : Sem Value) (e : Eff) : Prop :=
  e.nw = [] ∧ e.up = [] ∧ e.kl = [] ∧ ∃ v, s.run P w = .ok v w ∧ Rel w (imOf S N0 B w ρ (blk (freeze σ e.fr))) ρ e.v v ∧ ∀ n ∈ names e.v, (blk (freeze σ e.fr) n).isSome = true
theorem Yld.only {s : Sem Value} {e : Eff} (ho : Only e) {v : Value} (h1 : s.run P w = .ok v w) (h2 : Rel w (imOf S N0 B w ρ (blk σ)) ρ e.v v) (h3 : ∀ n ∈ names e.v, (blk σ n).isSome = true) : Yld P S N0 B ρ σ w s e := by
  obtain ⟨a1, a2, a3, a4⟩ := ho
  exact ⟨a1, a2, a3, v, h1, by rw [a4]; exact h2, by rw [a4]; exact h3⟩

abbrev Im (S N0 : Nat → Prop) (B : Nat) (w : World) (ρ : Env) (σ : AS) : Nat → Prop := imOf S N0 B w ρ (blk σ)

theorem rowsAt_some {bl : Nat → Option Blk} {t e sz : Nat} {rs : List (List AV)} (h : rowsAt bl t = some (e, sz, rs)) : bl t = some (.rows e sz rs) := by
  unfold rowsAt at h
  split at h
  · rename_i q; simp at h; obtain ⟨rfl, rfl, rfl⟩ := h; exact q
  · cases h

theorem names_row {w : World} {im : Nat → Prop} {cs : List AV} (h : ∀ (j : Nat) x, cs[j]? = some x → names x = []) : namess cs = [] := by
  induction cs with
  | nil => rfl
  | cons c r ih =>
    rw [namess, h 0 c rfl, ih (fun j x hj => h (j + 1) x hj)]
    rfl
theorem names_valOf {d : TI} {cs : List AV} {y : AV} (h : valOf d cs = some y) {n : Nat} (hn : n ∈ names y) : n ∈ namess cs := by
  have hd : cs.head? = some y → n ∈ namess cs := by
    intro h
    cases cs with
    | nil => cases h
    | cons c r => simp at h; subst h; rw [namess]; exact List.mem_append_left _ hn
  unfold valOf at h
  split at h
  · split at h
    · cases h
      rw [names] at hn
      obtain ⟨i, x, hi, hx⟩ := namess_mem hn
      rw [List.getElem?_take] at hi
      split at hi
      · exact mem_namess hi hx
      · cases hi
    · cases h
  · cases h
  · exact hd h
theorem names_drop {cs : List AV} {k n : Nat} (h : n ∈ namess (cs.drop k)) : n ∈ namess cs := by
  obtain ⟨i, x, hi, hx⟩ := namess_mem h
  rw [List.getElem?_drop] at hi
  exact mem_namess hi hx

theorem load_sound (hT : TOk P D) (h : St0 D S N0 B w0 ρ σ a w) {bl : Nat → Option Blk} (hbl : ∀ n x, bl n = some x → blk σ n = some x) {T : Nat} {x : AV} {v : Value} {e : Eff}
    (hx : Rel w (Im S N0 B w ρ σ) ρ x v) (he : effLoad D bl T x = some e) : Yld P S N0 B ρ σ w (Instr.loadAt T v) e := by
  cases hx <;> simp only [effLoad] at he <;> try (cases he; done)
  case ptr n off b hb =>
    cases hbn : bl n with
    | none => rw [hbn] at he; cases he
    | some y =>
      rw [hbn] at he
      cases y with
      | rows e' sz rs => cases he
      | cells cs =>
        simp only at he
        obtain ⟨y, hy, rfl⟩ := Option.map_eq_some_iff.1 he
        have hs := hbl n _ hbn
        obtain ⟨b', arr, T', h1, h2, h3, h5⟩ := h.hp.blk n _ hs
        rw [hb] at h1
        cases h1
        have hcell : ∀ (j : Nat) x, (cs.drop off)[j]? = some x → w.cell? ⟨b, off + j, none⟩ = some (arr.getD (off + j) undef) ∧ (arr.getD (off + j) undef).oneCell' = true ∧ Rel w (Im S N0 B w ρ σ) ρ x (arr.getD (off + j) undef) := by
          intro j x hj
          rw [List.getElem?_drop] at hj
          have hlt : off + j < arr.size := by have := (List.getElem?_eq_some_iff.1 hj).1; omega
          have hv : arr[off + j]? = some arr[off + j] := by simp [hlt]
          have hg : arr.getD (off + j) undef = arr[off + j] := by simp [Array.getD_eq_getD_getElem?, hlt]
          rw [hg]
          refine ⟨?_, h5 _ _ _ hj hv⟩
          unfold World.cell?
          rw [h2]
          simp [hlt]
        obtain ⟨u, hu, hr⟩ := loadVar_sound (P := P) hT (w := w) (b := b) (o := off) (fun j x hj => ⟨(hcell j x hj).1, (hcell j x hj).2.1⟩) (fun j x hj => (hcell j x hj).2.2) hy
        exact Yld.only ⟨rfl, rfl, rfl, rfl⟩ (by simpa [Instr.loadAt, Instr.sureAddr] using hu) hr fun m hm => h.hp.closed n cs hs m (names_drop (names_valOf hy hm))
  case iptr cs b o val hb hcell hval =>
    obtain ⟨y, hy, rfl⟩ := Option.map_eq_some_iff.1 he
    obtain ⟨u, hu, hr⟩ := loadVar_sound (P := P) hT (w := w) (b := b) (o := o) (fun j x hj => ⟨(hcell j x hj).1, (hcell j x hj).2.1⟩) (fun j x hj => hval j x hj) hy
    refine Yld.only ⟨rfl, rfl, rfl, rfl⟩ (by simpa [Instr.loadAt, Instr.sureAddr] using hu) hr fun m hm => ?_
    have := names_valOf hy hm
    rw [names_row (w := w) (im := Im S N0 B w ρ σ) fun j x hj => (hcell j x hj).2.2] at this
    cases this
  case eptr t i off b hb =>
    cases hrt : rowsAt bl t with
    | none => rw [hrt] at he; cases he
    | some r =>
      obtain ⟨e', sz, rs⟩ := r
      rw [hrt] at he
      simp only at he
      obtain ⟨y, hy, rfl⟩ := Option.map_eq_some_iff.1 he
      have hs := hbl t _ (rowsAt_some hrt)
      obtain ⟨g1, g2, g3, A, c, g4, g5, g6, g7⟩ := h.hp.blk t _ hs
      rcases g7 with ⟨_, _, _, g8⟩ | ⟨b', arr, g8, g9, g10, g11, g14⟩
      · rw [hb] at g8; cases g8
      rw [hb] at g8
      cases g8
      have hcell : ∀ (j : Nat) x, ((rs.getD i []).drop off)[j]? = some x → w.cell? ⟨b, i * (ρ t).sz + off + j, none⟩ = some (arr.getD (i * (ρ t).sz + off + j) undef) ∧ (arr.getD (i * (ρ t).sz + off + j) undef).oneCell' = true ∧ names x = [] ∧ Rel w (Im S N0 B w ρ σ) ρ x (arr.getD (i * (ρ t).sz + off + j) undef) := by
        intro j x hj
        rw [List.getElem?_drop] at hj
        have hi : rs[i]? = some (rs.getD i []) := by
          cases hri : rs[i]? with
          | none => rw [List.getD_eq_getElem?_getD, hri] at hj; simp at hj
          | some row => simp [List.getD_eq_getElem?_getD, hri]
        obtain ⟨hn, v, hv, h1v, hrel⟩ := (g14 i _ hi).2 _ x hj
        rw [← g1] at hv
        have ee : i * (ρ t).sz + off + j = i * (ρ t).sz + (off + j) := by omega
        have hg : arr.getD (i * (ρ t).sz + off + j) undef = v := by rw [ee, Array.getD_eq_getD_getElem?, hv]; rfl
        rw [hg]
        refine ⟨?_, h1v, hn, hrel⟩
        unfold World.cell?
        rw [g10]
        simp [ee, hv]
      obtain ⟨u, hu, hr⟩ := loadVar_sound (P := P) hT (w := w) (b := b) (o := i * (ρ t).sz + off) (fun j x hj => ⟨(hcell j x hj).1, (hcell j x hj).2.1⟩) (fun j x hj => (hcell j x hj).2.2.2) hy
      refine Yld.only ⟨rfl, rfl, rfl, rfl⟩ (by simpa [Instr.loadAt, Instr.sureAddr] using hu) hr fun m hm => ?_
      have := names_valOf hy hm
      rw [names_row (w := w) (im := Im S N0 B w ρ σ) fun j x hj => (hcell j x hj).2.2.1] at this
      cases this

theorem fieldAddr_sound (hT : TOk P D) {T f : Nat} {x : AV} {v : Value} {e : Eff} (hx : Rel w (Im S N0 B w ρ σ) ρ x v) (hn : ∀ n ∈ names x, (blk σ n).isSome = true) (he : effFieldAddr D T f x = some e) :
    Yld P S N0 B ρ σ w (Instr.fieldAt T v f) e := by
  unfold effFieldAddr at he
  cases hk : (D T).k <;> rw [hk] at he <;> try (cases he; done)
  rename_i fs
  simp only at he
  cases hf : fs[f]? with
  | none => rw [hf] at he; cases he
  | some ot =>
    obtain ⟨o, t⟩ := ot
    rw [hf] at he
    obtain ⟨flds, hu, hfb⟩ := ty_struct hT hk
    obtain ⟨fd, h1, h2, h3, h4, h5⟩ := ty_field hfb f o t hf
    have h1' : flds[f]? = some fd := by rw [← h1]; simp
    have hsz : (sizeOf fd.type).run P w = .ok (D t).n w := by
      unfold sizeB at h4
      rw [h3]
      obtain ⟨i, hi, hi2⟩ := Option.map_eq_some_iff.1 h4
      simp [sizeOf, typeInfo, hi, hi2]
    have run : ∀ ad : Addr, (Instr.fieldAt T (.pointer (some ad)) f).run P w = .ok (.pointer (some (ad.add o))) w := by
      intro ad
      have h6 : ¬ (D t).n = 0 := by omega
      simp [Instr.fieldAt, run_underlying hu, h1', Instr.sureAddr, fieldPlace, hsz, h6, h2]
    cases hx <;> simp only at he <;> try (cases he; done)
    case ptr n off b hb =>
      cases he
      exact Yld.only ⟨rfl, rfl, rfl, rfl⟩ (run _) (by rw [add_flat']; exact .ptr n (off + o) b hb) (by simpa [names] using hn)
    case iptr cs b o' val hb hcell hval =>
      cases he
      refine Yld.only ⟨rfl, rfl, rfl, rfl⟩ (run _) ?_ (by simp [names])
      rw [add_flat']
      refine .iptr _ b (o' + o) (fun j => val (o + j)) hb (fun j x hj => ?_) (fun j x hj => ?_)
      · rw [List.getElem?_drop] at hj
        have := hcell _ x hj
        rwa [← Nat.add_assoc] at this
      · rw [List.getElem?_drop] at hj
        exact hval _ x hj
    case eptr t i off b hb =>
      cases he
      refine Yld.only ⟨rfl, rfl, rfl, rfl⟩ (run _) ?_ (by simpa [names] using hn)
      rw [add_flat', Nat.add_assoc]
      exact .eptr t i (off + o) b hb

theorem field_sound (hT : TOk P D) {T f : Nat} {x : AV} {v : Value} {e : Eff} (hx : Rel w (Im S N0 B w ρ σ) ρ x v) (hn : ∀ n ∈ names x, (blk σ n).isSome = true) (he : effField D T f x = some e) :
    Yld P S N0 B ρ σ w (Instr.field T v f) e := by
  cases hx <;> simp only [effField] at he <;> try (cases he; done)
  rename_i cs vs hl h1 hval
  cases hk : (D T).k <;> rw [hk] at he <;> try (cases he; done)
  rename_i fs
  simp only at he
  cases hf : fs[f]? with
  | none => rw [hf] at he; cases he
  | some ot =>
    obtain ⟨o, t⟩ := ot
    rw [hf] at he
    simp only at he
    obtain ⟨y, hy, rfl⟩ := Option.map_eq_some_iff.1 he
    obtain ⟨flds, hu, hfb⟩ := ty_struct hT hk
    obtain ⟨fd, h1', h2, h3, h4, h5⟩ := ty_field hfb f o t hf
    have h1'' : flds[f]? = some fd := by rw [← h1']; simp
    obtain ⟨u, hu', hr⟩ := part_sound (P := P) hT hl h1 hval hy
    refine Yld.only ⟨rfl, rfl, rfl, rfl⟩ (by simpa [Instr.field, run_underlying hu, h1'', asAgg, h2, h3] using hu') hr fun m hm => hn m ?_
    rw [names]
    exact names_drop (names_valOf hy hm)

theorem indexAddr_sound (hT : TOk P D) (h : St0 D S N0 B w0 ρ σ a w) {bl : Nat → Option Blk} (hbl : ∀ n x, bl n = some x → blk σ n = some x) {T : Nat} {x i : AV} {v u : Value} {e : Eff}
    (hx : Rel w (Im S N0 B w ρ σ) ρ x v) (hi : Rel w (Im S N0 B w ρ σ) ρ i u) (he : effIndexAddr D bl T x i = some e) (hp : e.pre) : Yld P S N0 B ρ σ w (Instr.indexAt T v u) e := by
  cases hi <;> simp only [effIndexAddr] at he <;> try (cases he; done)
  rename_i k n
  cases hk : (D T).k <;> rw [hk] at he <;> try (cases he; done)
  rename_i el
  simp only at he
  obtain ⟨hu, hne, hpz⟩ := ty_slice hT hk
  have run : ∀ (ad : Addr) (len c s : Nat), (sizeOf el).run P w = .ok s w → 0 ≤ n → n < len → (Instr.indexAt T (.slice (some ad) len c) (.int k n)).run P w = .ok (.pointer (some (ad.add (n.toNat * s)))) w := by
    intro ad len c s hs h0 h1
    simp [Instr.indexAt, run_underlying hu, asIntOf, h0, h1, hs]
  have hsz := ty_size hT hne w
  cases hx <;> simp only at he <;> try (cases he; done)
  case sl sz rs A c b o val hc hm hA hrow hcell hval =>
    split at he
    · rename_i hse
      cases he
      simp only at hp
      obtain ⟨h0, h1⟩ := hp
      have hpos : 0 < rs.length := by omega
      obtain ⟨rfl, hb⟩ := hA hpos
      have hlt : n.toNat < rs.length := by omega
      have hri : rs[n.toNat]? = some (rs.getD n.toNat []) := by simp [List.getD_eq_getElem?_getD, hlt]
      refine Yld.only ⟨rfl, rfl, rfl, rfl⟩ (run _ _ _ _ hsz h0 h1) ?_ (by simp [names])
      rw [add_flat', ← hse]
      refine .iptr _ b _ (fun j => val n.toNat j) hb (fun j x hj => ?_) (fun j x hj => hval _ j _ x hri hj)
      have := hcell _ j _ x hri hj
      rwa [← Nat.add_assoc] at this
    · cases he
  case os t =>
    cases hrt : rowsAt bl t with
    | none => rw [hrt] at he; cases he
    | some r =>
      obtain ⟨e', sz, rs⟩ := r
      rw [hrt] at he
      simp only at he
      split at he
      · rename_i hse
        cases he
        simp only at hp
        obtain ⟨h0, h1⟩ := hp
        have hs := hbl t _ (rowsAt_some hrt)
        obtain ⟨g1, g2, g3, A, c, g4, g5, g6, g7⟩ := h.hp.blk t _ hs
        rcases g7 with ⟨rfl, _, _, g8⟩ | ⟨b, arr, g8, rfl, g10, g11, g14⟩
        · simp at h1; omega
        rw [g4]
        refine Yld.only ⟨rfl, rfl, rfl, rfl⟩ (run _ _ _ _ hsz h0 h1) ?_ (fun m hm => ?_)
        · rw [add_flat', ← hse, ← g1, Nat.zero_add]
          exact .eptr t n.toNat 0 b g8
        · simp [names] at hm
          subst hm
          rw [hs]; rfl
      · cases he
end
end Go.Proofs.Ytcgdjdlcecnanaa.Ab
