/-
  Texts of the proof, one behind the other: PcC PcD QuT QuU WkA QuV QuW QuX OpenQ.
  No condition but those that each theorem names.
-/
import Derived.Test.YthbejciebmkclaaGQ
import Derived.Test.YthbejciebmkclaaGC
import Derived.Test.YthbejciebmkclaaGD
namespace Go.Proofs.Ythbejciebmkclaa.Ab
open Go
set_option linter.unusedVariables false
set_option linter.unusedSimpArgs false

/-! a pointer compared with nil -/
end Go.Proofs.Ythbejciebmkclaa.Ab
namespace Go.Proofs.Ythbejciebmkclaa.Ab
open Go
set_option linter.unusedVariables false
set_option linter.unusedSimpArgs false

mutual
/-- pointers into the block n, whose cells are cs, become pointers into memory that is only read -/
def ice (n : Nat) (cs : List AV) : AV → AV
  | .os t => if t = n then .junk else .os t
  | .ptr v o => if v = n then .iptr (cs.drop o) else .ptr v o
  | .tsl v o => if v = n then .junk else .tsl v o
  | .eptr v i o => if v = n then .junk else .eptr v i o
  | .agg xs => .agg (ices n cs xs)
  | .tup xs => .tup (ices n cs xs)
  | .func f xs => .func f (ices n cs xs)
  | .opt g v => .opt g (ice n cs v)
  | v => v
def ices (n : Nat) (cs : List AV) : List AV → List AV
  | [] => []
  | v :: r => ice n cs v :: ices n cs r
end
theorem ices_eq (n : Nat) (ds : List AV) : ∀ cs : List AV, ices n ds cs = cs.map (ice n ds)
  | [] => by simp [ices]
  | c :: r => by simp [ices, ices_eq n ds r]
mutual
theorem names_ice (n : Nat) (cs : List AV) : ∀ x : AV, (∀ m ∈ names (ice n cs x), m ∈ names x ∧ m ≠ n)
  | .os t => by simp only [ice]; split <;> simp_all [names]
  | .ptr v o => by simp only [ice]; split <;> simp_all [names]
  | .tsl v o => by simp only [ice]; split <;> simp_all [names]
  | .eptr v i o => by simp only [ice]; split <;> simp_all [names]
  | .agg xs => by simpa only [ice, names] using namess_ices n cs xs
  | .tup xs => by simpa only [ice, names] using namess_ices n cs xs
  | .func f xs => by simpa only [ice, names] using namess_ices n cs xs
  | .opt g v => by simpa only [ice, names] using names_ice n cs v
  | .junk => by simp [ice, names]
  | .int _ _ => by simp [ice, names]
  | .bool _ => by simp [ice, names]
  | .str _ => by simp [ice, names]
  | .nils => by simp [ice, names]
  | .sl _ _ => by simp [ice, names]
  | .iptr _ => by simp [ice, names]
  | .lsl _ => by simp [ice, names]
  | .imap _ => by simp [ice, names]
  | .nilp => by simp [ice, names]
theorem namess_ices (n : Nat) (cs : List AV) : ∀ xs : List AV, (∀ m ∈ namess (ices n cs xs), m ∈ namess xs ∧ m ≠ n)
  | [] => by simp [ices, namess]
  | c :: r => by
    simp only [ices, namess, List.mem_append]
    rintro m (hn | hn)
    · exact ⟨.inl (names_ice n cs c m hn).1, (names_ice n cs c m hn).2⟩
    · exact ⟨.inr (namess_ices n cs r m hn).1, (namess_ices n cs r m hn).2⟩
end
theorem Rel.ice {D : Nat → TI} {w : World} {im im' : Nat → Prop} {ρ : Env} {n : Nat} {cs : List AV} (hbl : BRel D w im ρ n (.cells cs)) (hcs : namess cs = []) (him : ∀ b, im b → im' b)
    (hb : ∀ b, (ρ n).b = some b → im' b) {x : AV} {v : Value} (h : Rel w im ρ x v) : Rel w im' ρ (Ab.ice n cs x) v := by
  have self : ∀ {y : AV} {u : Value}, Rel w im ρ y u → Rel w im' ρ y u := fun h => h.mono him (fun _ _ => rfl) fun n hn' => rfl
  induction h with
  | junk v => simp only [Ab.ice]; exact .junk v
  | int k n => simp only [Ab.ice]; exact .int k n
  | bool b => simp only [Ab.ice]; exact .bool b
  | str l => simp only [Ab.ice]; exact .str l
  | nils => simp only [Ab.ice]; exact .nils
  | sl sz rs A c b o val hc hm hA hrow hcell hval ih => simp only [Ab.ice]; exact self (.sl sz rs A c b o val hc hm hA hrow hcell hval)
  | os t => simp only [Ab.ice]; split <;> first | exact .junk _ | exact .os t
  | ptr v off b h =>
    simp only [Ab.ice]
    split
    · rename_i e
      subst e
      obtain ⟨b', arr, T, h1, h2, h3, h5⟩ := hbl
      rw [h] at h1
      cases h1
      have hget : ∀ i, i < arr.size → arr[i]? = some (arr.getD i undef) := fun i hi => by simp [Array.getD_eq_getD_getElem?, hi]
      have hat : ∀ (j : Nat) x, (cs.drop off)[j]? = some x → cs[off + j]? = some x ∧ off + j < arr.size := fun j x hj => by
        rw [List.getElem?_drop] at hj
        exact ⟨hj, by rw [h3]; exact (List.getElem?_eq_some_iff.1 hj).1⟩
      refine .iptr _ b off (fun j => arr.getD (off + j) undef) (hb b h) (fun j x hj => ?_) (fun j x hj => ?_)
      · obtain ⟨q1, q2⟩ := hat j x hj
        refine ⟨?_, (h5 _ x _ q1 (hget _ q2)).1, ?_⟩
        · unfold World.cell?
          rw [h2]
          exact hget _ q2
        · refine List.eq_nil_iff_forall_not_mem.2 fun m hm => ?_
          have := mem_namess q1 hm
          rw [hcs] at this
          cases this
      · obtain ⟨q1, q2⟩ := hat j x hj
        exact self (h5 _ x _ q1 (hget _ q2)).2
    · exact .ptr v off b h
  | iptr cs b o val hb hcell hval ih => simp only [Ab.ice]; exact self (.iptr cs b o val hb hcell hval)
  | eptr t i off b h => simp only [Ab.ice]; split <;> first | exact .junk _ | exact .eptr t i off b h
  | lsl n A c hc hm => simp only [Ab.ice]; exact .lsl n A c hc hm
  | imap es b c arr hb ho he => simp only [Ab.ice]; exact .imap es b c arr (him _ hb) ho he
  | nilp => simp only [Ab.ice]; exact .nilp
  | tsl t i b A' h hA => simp only [Ab.ice]; split <;> first | exact .junk _ | exact .tsl t i b A' h hA
  | func f cs vs hl hval ih =>
    simp only [Ab.ice, ices_eq]
    refine .func f _ vs (by simpa using hl) fun i x v h1 h2 => ?_
    rw [List.getElem?_map] at h1
    obtain ⟨y, hy, rfl⟩ := Option.map_eq_some_iff.1 h1
    exact ih i y v hy h2
  | agg cs vs hl h1 hval ih =>
    simp only [Ab.ice, ices_eq]
    refine .agg _ vs (by simpa using hl) h1 fun i x v h1 h2 => ?_
    rw [List.getElem?_map] at h1
    obtain ⟨y, hy, rfl⟩ := Option.map_eq_some_iff.1 h1
    exact ih i y v hy h2
  | tup cs vs hl hval ih =>
    simp only [Ab.ice, ices_eq]
    refine .tup _ vs (by simpa using hl) fun i x v h1 h2 => ?_
    rw [List.getElem?_map] at h1
    obtain ⟨y, hy, rfl⟩ := Option.map_eq_some_iff.1 h1
    exact ih i y v hy h2
  | opt g x v h1 h2 ih => simp only [Ab.ice]; exact .opt g _ v ih h2
/-- the state then -/
def iceS (σ : AS) (n : Nat) (cs : List AV) : AS := { nt := σ.nt, tm := mapT (ice n cs) σ.tm, bl := (n, none) :: mapB (ice n cs) σ.bl }
theorem blk_iceS (σ : AS) (n : Nat) (cs : List AV) (m : Nat) : blk (iceS σ n cs) m = if m = n then none else (blk σ m).map (mapBlk (ice n cs)) := by
  unfold blk iceS
  simp only [get]
  by_cases h : n = m
  · rw [if_pos h, if_pos h.symm]; rfl
  · rw [if_neg h, if_neg (fun e => h e.symm), get_mapB]
    cases get m σ.bl with
    | none => rfl
    | some x => cases x <;> rfl
theorem bnames_ice {n : Nat} {cs : List AV} {x : Blk} {m : Nat} (h : m ∈ bnames (mapBlk (ice n cs) x)) : m ∈ bnames x ∧ m ≠ n := by
  cases x with
  | cells ds =>
    have h : m ∈ namess (ds.map (ice n cs)) := h
    rw [← ices_eq] at h
    exact namess_ices n cs ds m h
  | rows e sz rs => cases h
  | deep e sz rs cols foc =>
    obtain ⟨i, j, hm⟩ := focN_mem.1 (show m ∈ focN (keepF (ice n cs) foc) from h)
    obtain ⟨h1, k, h2⟩ := keepF_mem hm
    refine ⟨focN_mem.2 ⟨i, j, h1⟩, ?_⟩
    simp only [ice] at h2
    split at h2
    · cases h2
    · assumption
section
variable {D : Nat → TI} {S N0 : Nat → Prop} {B : Nat} {w0 : W0} {ρ : Env} {σ : AS} {a : Act} {w : World}
theorem St0.ice (h : St0 D S N0 B w0 ρ σ a w) {n : Nat} {cs : List AV} (hn : blk σ n = some (.cells cs)) (hcs : namess cs = []) : St0 D S N0 B w0 ρ (iceS σ n cs) a w := by
  have him : ∀ b, imOf S N0 B w ρ (blk σ) b → imOf S N0 B w ρ (blk (iceS σ n cs)) b := by
    rintro b ⟨h1, h2, h3⟩
    refine ⟨h1, h2, fun m x hx => ?_⟩
    rw [blk_iceS] at hx
    split at hx
    · cases hx
    · obtain ⟨y, hy, rfl⟩ := mapBlk_some hx
      rw [owns_map]
      exact h3 m y hy
  have hbim : ∀ b, (ρ n).b = some b → imOf S N0 B w ρ (blk (iceS σ n cs)) b := by
    intro b hb
    refine ⟨h.named_lt hn hb, .inr (h.own n _ b hn (owns_b hb)), fun m y hy hm => ?_⟩
    rw [blk_iceS] at hy
    split at hy
    · cases hy
    · rename_i hmn
      obtain ⟨y', hy', rfl⟩ := mapBlk_some hy
      exact hmn (h.hp.inj m n b y' _ hy' hn (owns_map.1 hm) (owns_b hb))
  have frel : ∀ x v, Rel w (imOf S N0 B w ρ (blk σ)) ρ x v → Rel w (imOf S N0 B w ρ (blk (iceS σ n cs))) ρ (Ab.ice n cs x) v := fun x v hx =>
    Rel.ice (h.hp.blk n _ hn) hcs him hbim hx
  have bnd : ∀ m, (blk σ m).isSome = true → m ≠ n → (blk (iceS σ n cs) m).isSome = true := by
    intro m hm hne
    rw [blk_iceS, if_neg hne]
    simpa using hm
  refine ⟨fun t x hx => ?_, ⟨fun m x hx => ?_, fun m k b x y hx hy => ?_, fun m x b hx hb hm => ?_, fun b hb => hb.1, fun m ds hx k hk => ?_⟩, h.nt, h.base, h.frm, fun m x b hx hb => ?_, h.defers⟩
  · have hx' : get t (mapT (Ab.ice n cs) σ.tm) = some x := hx
    rw [get_mapT] at hx'
    obtain ⟨y, hy, rfl⟩ := Option.map_eq_some_iff.1 hx'
    obtain ⟨h1, h2⟩ := h.tm t y hy
    exact ⟨frel y _ h1, fun m hm => bnd m (h2 m (names_ice n cs y m hm).1) (names_ice n cs y m hm).2⟩
  · rw [blk_iceS] at hx
    split at hx
    · cases hx
    · obtain ⟨y, hy, rfl⟩ := mapBlk_some hx
      have hy' := h.hp.blk m y hy
      cases y with
      | rows e sz rs => exact hy'.mono rfl (fun _ _ => rfl) him (fun _ _ => rfl) (fun _ _ => rfl)
      | deep e sz rs cols foc => exact (hy'.keepF (h := Ab.ice n cs)).mono rfl (fun _ _ => rfl) him (fun _ _ => rfl) (fun _ _ => rfl)
      | cells ds =>
        obtain ⟨b, arr, T, h1, h2, h3, h5⟩ := hy'
        refine ⟨b, arr, T, h1, h2, by simpa using h3, fun i x v hx hv => ?_⟩
        rw [List.getElem?_map] at hx
        obtain ⟨z, hz, rfl⟩ := Option.map_eq_some_iff.1 hx
        exact ⟨(h5 i z v hz hv).1, frel z v (h5 i z v hz hv).2⟩
  · rw [blk_iceS] at hx hy
    split at hx
    · cases hx
    split at hy
    · cases hy
    obtain ⟨x', hx', rfl⟩ := mapBlk_some hx
    obtain ⟨y', hy', rfl⟩ := mapBlk_some hy
    rw [owns_map, owns_map]
    exact h.hp.inj m k b x' y' hx' hy'
  · exact hm.2.2 m x hx hb
  · rw [blk_iceS] at hx
    split at hx
    · cases hx
    · obtain ⟨y, hy, rfl⟩ := mapBlk_some hx
      obtain ⟨h1, h2⟩ := bnames_ice hk
      exact bnd k (h.hp.clos m y hy k h1) h2
  · rw [blk_iceS] at hx
    split at hx
    · cases hx
    · obtain ⟨y, hy, rfl⟩ := mapBlk_some hx
      exact h.own m y b hy (owns_map.1 hb)
end
theorem Wk.ice {X : Cx} {σ : AS} (n : Nat) {cs : List AV} (hn : blk σ n = some (.cells cs)) (hcs : namess cs = []) : Wk X σ (iceS σ n cs) := fun γ a w ⟨ρ, h⟩ => ⟨ρ, h.ice hn hcs⟩
attribute [go_sem] iceS ice ices
end Go.Proofs.Ythbejciebmkclaa.Ab
namespace Go.Proofs.Ythbejciebmkclaa.Ab
open Go Go.RowKit
set_option linter.unusedVariables false
set_option linter.unusedSimpArgs false

end Go.Proofs.Ythbejciebmkclaa.Ab
namespace Go.Proofs.Ythbejciebmkclaa.Ab
open Go Go.RowKit
set_option linter.unusedVariables false
set_option linter.unusedSimpArgs false

end Go.Proofs.Ythbejciebmkclaa.Ab
namespace Go.Proofs.Ythbejciebmkclaa.Ab
open Go Go.RowKit
set_option linter.unusedVariables false
set_option linter.unusedSimpArgs false

theorem Con.weak {P : Program} {D : Nat → TI} {f : Nat} {args args' : List AV} {r : Res} (h : Con P D f args r) (hc : covs [] args' args) : Con P D f args' r := by
  obtain ⟨h0, h⟩ := h
  refine ⟨h0, fun w im ρ vs him hvs => h w im (fun _ => ⟨none, none, 0, 0, 0, fun _ => none⟩) vs him ?_⟩
  obtain ⟨h1, h2⟩ := hvs
  obtain ⟨q1, q2⟩ := covs_get hc
  refine ⟨by rw [h1, q1], fun i y v hy hv => ?_⟩
  obtain ⟨x, hx, hxy⟩ := q2 i y hy
  exact (h2 i x v hx hv).cov (fun _ h => h) (fun n t hn => by simp [get] at hn) (fun _ _ => rfl) hxy
def ePutq : Ent Try.prog D := ⟨127, LQueue × Int × LNote, fun x => [queueA x.1, .int .i64 x.2.1, noteA x.2.2], fun x => x.1.Fits ∧ x.2.2.Fits, fun x => ⟨.tup [queueA (putS x.1 x.2.1 x.2.2).1, .int .i64 (putS x.1 x.2.1 x.2.2).2], []⟩, fun x y _ _ h => by
  obtain ⟨a, b, c⟩ := x
  obtain ⟨a', b', c'⟩ := y
  simp only [List.cons.injEq, AV.int.injEq, and_true, true_and] at h
  obtain ⟨h1, rfl, h3⟩ := h
  rw [queueA_inj h1, noteA_inj h3], fun x h => con_putq _ _ _ h.1 h.2⟩
def eTakeq : Ent Try.prog D := ⟨103, LQueue × Int, fun x => [queueA x.1, .int .i64 x.2], fun x => x.1.Ok ∧ -1000000 ≤ x.2 ∧ x.2 ≤ 1000000, fun x => ⟨.tup [queueA (takeS x.1 x.2).1, itemA (takeS x.1 x.2).2.1, .int .i64 (takeS x.1 x.2).2.2], []⟩, fun x y _ _ h => by
  obtain ⟨a, b⟩ := x
  obtain ⟨a', b'⟩ := y
  simp only [List.cons.injEq, AV.int.injEq, and_true, true_and] at h
  obtain ⟨h1, rfl⟩ := h
  rw [queueA_inj h1], fun x h => con_takeq _ _ h.1 h.2⟩
def eDoneq : Ent Try.prog D := ⟨99, LQueue × Int × Int, fun x => [queueA x.1, .int .i64 x.2.1, .int .i64 x.2.2], fun x => x.1.Fits, fun x => ⟨.tup [queueA (doneS x.1 x.2.1 x.2.2).1, .int .i64 (doneS x.1 x.2.1 x.2.2).2], []⟩, fun x y _ _ h => by
  obtain ⟨a, b, c⟩ := x
  obtain ⟨a', b', c'⟩ := y
  simp only [List.cons.injEq, AV.int.injEq, and_true, true_and] at h
  obtain ⟨h1, rfl, rfl⟩ := h
  rw [queueA_inj h1], fun x h => con_doneq _ _ _ h⟩
def eBackq : Ent Try.prog D := ⟨100, LQueue × Int × Int, fun x => [queueA x.1, .int .i64 x.2.1, .int .i64 x.2.2], fun x => x.1.Ok, fun x => ⟨.tup [queueA (backS x.1 x.2.1 x.2.2).1, itemA (backS x.1 x.2.1 x.2.2).2.1, .bool (backS x.1 x.2.1 x.2.2).2.2.1, .int .i64 (backS x.1 x.2.1 x.2.2).2.2.2], []⟩, fun x y _ _ h => by
  obtain ⟨a, b, c⟩ := x
  obtain ⟨a', b', c'⟩ := y
  simp only [List.cons.injEq, AV.int.injEq, and_true, true_and] at h
  obtain ⟨h1, rfl, rfl⟩ := h
  rw [queueA_inj h1], fun x h => con_backq _ _ _ h⟩
def ePurgeq : Ent Try.prog D := ⟨101, LQueue, fun q => [queueA q], LQueue.Fits, fun q => ⟨.tup [queueA (purgeS q).1, .sl 1 ((purgeS q).2.map intRow)], []⟩, fun x y _ _ h => by
  simp only [List.cons.injEq, and_true] at h
  rw [queueA_inj h], con_purgeq⟩
def eRightq : Ent Try.prog D := ⟨23, LHall, fun h => [hallA h], LHall.Fits, fun h => ⟨.bool (decide (hallOk h)), []⟩, fun x y _ _ h => by
  simp only [List.cons.injEq, and_true] at h
  rw [hallA_inj h], con_right⟩
end Go.Proofs.Ythbejciebmkclaa.Ab
namespace Go.Proofs.Ythbejciebmkclaa.Ab
open Go Go.RowKit
set_option linter.unusedVariables false
set_option linter.unusedSimpArgs false

theorem intGet {l : List Int} {i : Nat} (h : i < l.length) : (l.map intRow).getD i [] = [.int .i64 (l.getD i 0)] := by
  simp [h, intRow]
theorem lastS_zero (l : List LItem) : lastS l 0 = -1 := rfl
theorem lastS_succ (l : List LItem) (j : Nat) : lastS l (j + 1) = (l.getD j item0).id := rfl
theorem badI_not {next last : Int} {i : LItem} (h : ¬ badI next last i) : (last < i.id ∧ i.id < next) ∧ wrongS i.note = 0 ∧ (0 ≤ i.turn ∧ i.turn ≤ 1000) ∧ (0 ≤ i.tries ∧ i.tries ≤ 2) ∧ 0 ≤ i.due ∧ i.due ≤ 1000000 := by
  unfold badI at h
  have h2 : wrongS i.note = 0 := Classical.byContradiction fun h2 => h (.inr (.inr (.inl h2)))
  omega
/-- items that are right -/
theorem itemsOk_all {next : Int} {l : List LItem} (h : itemsOk next l) : ∀ i ∈ l, (0 ≤ i.id ∧ i.id < next) ∧ wrongS i.note = 0 ∧ (0 ≤ i.turn ∧ i.turn ≤ 1000) ∧ (0 ≤ i.tries ∧ i.tries ≤ 2) ∧ 0 ≤ i.due ∧ i.due ≤ 1000000 := by
  have key : ∀ j, j < l.length → 0 ≤ (l.getD j item0).id := by
    intro j
    induction j with
    | zero =>
      intro hj
      have := (badI_not (h 0 hj)).1.1
      rw [lastS_zero] at this
      omega
    | succ j ih =>
      intro hj
      have := (badI_not (h (j + 1) hj)).1.1
      have := ih (by omega)
      rw [lastS_succ] at *
      omega
  intro i hi
  obtain ⟨j, hj⟩ := List.getElem?_of_mem hi
  have hjl := (List.getElem?_eq_some_iff.1 hj).1
  have h4 := badI_not (h j hjl)
  have h5 := key j hjl
  have e : l.getD j item0 = i := by rw [List.getD_eq_getElem?_getD, hj]; rfl
  rw [e] at h4 h5
  exact ⟨⟨h5, h4.1.2⟩, h4.2⟩
theorem getD_mem {α : Type} {l : List α} {k : Nat} {d : α} (h : k < l.length) : l.getD k d ∈ l := by
  have : l.getD k d = l[k] := by simp [h]
  rw [this]; exact List.getElem_mem h
theorem fits_queue0 : queue0.Fits := ⟨by simp [queue0], by simp [queue0]⟩
theorem fits_item0 : item0.note.Fits := fits_zero
theorem fits_put {q : LQueue} {id : Int} {n : LNote} (hq : q.Fits) (h8 : q.items.length ≤ 1000) (hn : n.Fits) : (putS q id n).1.Fits := by
  unfold putS
  split
  · exact fits_queue0
  · refine ⟨by simp; omega, fun i hi => ?_⟩
    simp only [List.mem_append, List.mem_singleton] at hi
    rcases hi with hi | rfl
    · exact hq.2 i hi
    · exact hn
theorem fits_set {l : List LItem} {k : Nat} {x : LItem} (h : ∀ i ∈ l, i.note.Fits) (hx : x.note.Fits) : ∀ i ∈ l.set k x, i.note.Fits := fun i hi => by
  rcases List.mem_or_eq_of_mem_set hi with hi | rfl
  · exact h i hi
  · exact hx
theorem place_lt {p : LItem → Bool} {l : List LItem} (h : ¬ placeS p l 0 < 0) : (placeS p l 0).toNat < l.length := by
  have := @placeS_range p l
  omega
theorem fits_take {q : LQueue} {now : Int} (hq : q.Fits) : (takeS q now).1.Fits ∧ (takeS q now).2.1.note.Fits := by
  unfold takeS
  split
  · exact ⟨fits_queue0, fits_item0⟩
  · rename_i h
    have hx := hq.2 _ (getD_mem (d := item0) (place_lt h))
    exact ⟨⟨by simpa using hq.1, fits_set hq.2 hx⟩, hx⟩
theorem fits_done {q : LQueue} {id turn : Int} (hq : q.Fits) : (doneS q id turn).1.Fits := by
  unfold doneS
  split
  · exact fits_queue0
  · refine ⟨?_, fun i hi => hq.2 i (List.mem_of_mem_eraseIdx hi)⟩
    have h1 := hq.1
    show (q.items.eraseIdx _).length ≤ _
    rw [List.length_eraseIdx]
    split <;> omega
theorem fits_back {q : LQueue} {id turn : Int} (hq : q.Fits) : (backS q id turn).1.Fits ∧ (backS q id turn).2.1.note.Fits := by
  unfold backS
  split
  · exact ⟨fits_queue0, fits_item0⟩
  · rename_i h
    have hx := hq.2 _ (getD_mem (d := item0) (place_lt h))
    split
    · exact ⟨⟨by simpa using hq.1, fits_set hq.2 hx⟩, fits_item0⟩
    · refine ⟨⟨?_, fun i hi => hq.2 i (List.mem_of_mem_eraseIdx hi)⟩, hx⟩
      have h1 := hq.1
      show (q.items.eraseIdx _).length ≤ _
      rw [List.length_eraseIdx]
      split <;> omega
theorem fits_purge {q : LQueue} (hq : q.Fits) : (purgeS q).1.Fits := ⟨Nat.le_trans (List.length_filter_le _ _) hq.1, fun i hi => hq.2 i (List.mem_filter.1 hi).1⟩
theorem gone_len (l : List LItem) : (goneS l).length ≤ l.length := by
  unfold goneS
  rw [List.length_map]
  exact List.length_filter_le _ _
end Go.Proofs.Ythbejciebmkclaa.Ab
namespace Go.Proofs.Ythbejciebmkclaa.Ab
open Go Go.RowKit
set_option linter.unusedVariables false
set_option linter.unusedSimpArgs false

section
variable {P : Program} {D : Nat → TI}
open Classical in
/-- a table of contracts for known arguments -/
noncomputable def listG : List (Nat × List AV × Res) → Ctr
  | [], _, _ => none
  | (f', a', r) :: t, f, a => if f = f' ∧ a = a' then some r else listG t f a
def LOk (P : Program) (D : Nat → TI) : List (Nat × List AV × Res) → Prop
  | [] => True
  | (f, a, r) :: t => Con P D f a r ∧ LOk P D t
theorem listG_ok : ∀ {l : List (Nat × List AV × Res)}, LOk P D l → GOk P D (listG l)
  | [], _, f, args, r, h => by simp [listG] at h
  | (f', a', r') :: t, hl, f, args, r, h => by
    rw [listG] at h
    split at h
    · rename_i e
      cases h
      rw [e.1, e.2]
      exact hl.1
    · exact listG_ok hl.2 f args r h
end
def noteX : LNote := ⟨[], [120]⟩
def qA (n : Int) (l : List LItem) : LQueue := ⟨⟨#[97]⟩, n, l⟩
end Go.Proofs.Ythbejciebmkclaa.Ab
namespace Go.Proofs.Ythbejciebmkclaa.Ab
open Go Go.RowKit
set_option linter.unusedVariables false
set_option linter.unusedSimpArgs false

end Go.Proofs.Ythbejciebmkclaa.Ab
namespace Go.Proofs.Ythbejciebmkclaa.Ab
open Go Go.RowKit
set_option linter.unusedVariables false
set_option linter.unusedSimpArgs false

theorem shp_item {m : Nat} {B : Nat} {us : List AV} (h : Shp D B (m + 5) 65 us) : ∃ i : LItem, us = itemRow i ∧ i.note.props.length ≤ B ∧ i.note.body.length ≤ B ∧ ∀ p ∈ i.note.props, p.key.size ≤ B ∧ p.text.size ≤ B := by
  have h := shp_struct (fs := [(0, 3), (1, 3), (2, 3), (3, 4), (4, 3), (5, 28)]) (by simp only [D_1, D_2, D_3, D_4, D_5, D_6, D_7, D_8, D_9, D_10, D_11, D_12, D_13, D_14, D_15, D_16, D_17, D_18, D_19, D_21, D_22, D_23, D_24, D_25, D_26, D_27, D_28, D_29, D_30, D_31, D_32, D_33, D_35, D_36, D_37, D_38, D_39, D_40, D_41, D_42, D_43, D_45, D_46, D_47, D_48, D_49, D_50, D_51, D_52, D_53, D_55, D_56, D_57, D_58, D_60, D_61, D_62, D_63, D_64, D_65, D_67, D_68, D_69, D_70, D_71, D_72, D_73, D_74, D_75, D_76, D_77, D_78, D_79, D_80, D_81, D_82, D_83, D_84, D_85, D_86, D_87, D_88, D_89, D_91, D_93, D_94, D_95, D_97, D_98, D_99, D_101, D_103, D_104, D_105, D_106, D_108, D_109, D_110, D_111, D_113, D_114, D_115, D_116, D_117, D_118, D_119, D_120, D_121, D_122, D_124, D_125, D_127, D_128, D_130, D_132, D_133, D_134, D_135, D_136, D_138, D_139, D_141, D_143, D_144, D_145, D_147, D_148, D_149, D_150, D_151, D_153, D_154, D_155, D_156, D_157, D_158, D_159, D_160, D_161, D_162, D_163, D_164, D_165, D_166, D_167, D_168, D_169, D_170, D_171, D_172, D_173, D_174, D_178, D_179, D_180, D_181, D_182, D_183, D_184, D_185, D_186]) h
  simp only [ShpF] at h
  obtain ⟨_, _, rfl, h1, _, _, rfl, h2, _, _, rfl, h3, _, _, rfl, h4, _, _, rfl, h5, _, _, rfl, h6, rfl⟩ := h
  obtain ⟨a, rfl, _⟩ := shp_i64 (t := 3) rfl h1
  obtain ⟨b, rfl, _⟩ := shp_i64 (t := 3) rfl h2
  obtain ⟨c, rfl, _⟩ := shp_i64 (t := 3) rfl h3
  obtain ⟨d, rfl⟩ := shp_bool (t := 4) rfl h4
  obtain ⟨e, rfl, _⟩ := shp_i64 (t := 3) rfl h5
  obtain ⟨x, _, rfl, q1, q2, q3⟩ := shp_note h6
  exact ⟨⟨a, b, c, d, e, x⟩, rfl, q1, q2, q3⟩
theorem shp_queue {m : Nat} {us : List AV} (h : Shp D 1048576 (m + 7) 71 us) : ∃ q : LQueue, us = [.str q.name.data.toList, .int .i64 q.limit, .sl 7 (q.items.map itemRow)] ∧ AV.agg us = queueA q ∧ q.Fits ∧ q.name.size ≤ 1048576 := by
  have h := shp_struct (fs := [(0, 9), (1, 3), (2, 69)]) (by simp only [D_1, D_2, D_3, D_4, D_5, D_6, D_7, D_8, D_9, D_10, D_11, D_12, D_13, D_14, D_15, D_16, D_17, D_18, D_19, D_21, D_22, D_23, D_24, D_25, D_26, D_27, D_28, D_29, D_30, D_31, D_32, D_33, D_35, D_36, D_37, D_38, D_39, D_40, D_41, D_42, D_43, D_45, D_46, D_47, D_48, D_49, D_50, D_51, D_52, D_53, D_55, D_56, D_57, D_58, D_60, D_61, D_62, D_63, D_64, D_65, D_67, D_68, D_69, D_70, D_71, D_72, D_73, D_74, D_75, D_76, D_77, D_78, D_79, D_80, D_81, D_82, D_83, D_84, D_85, D_86, D_87, D_88, D_89, D_91, D_93, D_94, D_95, D_97, D_98, D_99, D_101, D_103, D_104, D_105, D_106, D_108, D_109, D_110, D_111, D_113, D_114, D_115, D_116, D_117, D_118, D_119, D_120, D_121, D_122, D_124, D_125, D_127, D_128, D_130, D_132, D_133, D_134, D_135, D_136, D_138, D_139, D_141, D_143, D_144, D_145, D_147, D_148, D_149, D_150, D_151, D_153, D_154, D_155, D_156, D_157, D_158, D_159, D_160, D_161, D_162, D_163, D_164, D_165, D_166, D_167, D_168, D_169, D_170, D_171, D_172, D_173, D_174, D_178, D_179, D_180, D_181, D_182, D_183, D_184, D_185, D_186]) h
  simp only [ShpF] at h
  obtain ⟨_, _, rfl, h1, _, _, rfl, h2, _, _, rfl, h3, rfl⟩ := h
  obtain ⟨s, rfl, hs⟩ := shp_str (t := 9) rfl h1
  obtain ⟨n, rfl, _⟩ := shp_i64 (t := 3) rfl h2
  obtain ⟨rs, rfl, hl, hr⟩ := shp_slice (e := 65) (by simp only [D_1, D_2, D_3, D_4, D_5, D_6, D_7, D_8, D_9, D_10, D_11, D_12, D_13, D_14, D_15, D_16, D_17, D_18, D_19, D_21, D_22, D_23, D_24, D_25, D_26, D_27, D_28, D_29, D_30, D_31, D_32, D_33, D_35, D_36, D_37, D_38, D_39, D_40, D_41, D_42, D_43, D_45, D_46, D_47, D_48, D_49, D_50, D_51, D_52, D_53, D_55, D_56, D_57, D_58, D_60, D_61, D_62, D_63, D_64, D_65, D_67, D_68, D_69, D_70, D_71, D_72, D_73, D_74, D_75, D_76, D_77, D_78, D_79, D_80, D_81, D_82, D_83, D_84, D_85, D_86, D_87, D_88, D_89, D_91, D_93, D_94, D_95, D_97, D_98, D_99, D_101, D_103, D_104, D_105, D_106, D_108, D_109, D_110, D_111, D_113, D_114, D_115, D_116, D_117, D_118, D_119, D_120, D_121, D_122, D_124, D_125, D_127, D_128, D_130, D_132, D_133, D_134, D_135, D_136, D_138, D_139, D_141, D_143, D_144, D_145, D_147, D_148, D_149, D_150, D_151, D_153, D_154, D_155, D_156, D_157, D_158, D_159, D_160, D_161, D_162, D_163, D_164, D_165, D_166, D_167, D_168, D_169, D_170, D_171, D_172, D_173, D_174, D_178, D_179, D_180, D_181, D_182, D_183, D_184, D_185, D_186]) h3
  obtain ⟨l, rfl, h4⟩ := shp_rows (f := itemRow) (Q := fun i => i.note.Fits) fun row hrow => by
    obtain ⟨i, h1, h2, h3, h4⟩ := shp_item (hr row hrow)
    exact ⟨i, h1, h4, h2, h3⟩
  refine ⟨⟨s, n, l⟩, ?_, ?_, ⟨by simpa using hl, h4⟩, hs⟩
  · simp only [D_1, D_2, D_3, D_4, D_5, D_6, D_7, D_8, D_9, D_10, D_11, D_12, D_13, D_14, D_15, D_16, D_17, D_18, D_19, D_21, D_22, D_23, D_24, D_25, D_26, D_27, D_28, D_29, D_30, D_31, D_32, D_33, D_35, D_36, D_37, D_38, D_39, D_40, D_41, D_42, D_43, D_45, D_46, D_47, D_48, D_49, D_50, D_51, D_52, D_53, D_55, D_56, D_57, D_58, D_60, D_61, D_62, D_63, D_64, D_65, D_67, D_68, D_69, D_70, D_71, D_72, D_73, D_74, D_75, D_76, D_77, D_78, D_79, D_80, D_81, D_82, D_83, D_84, D_85, D_86, D_87, D_88, D_89, D_91, D_93, D_94, D_95, D_97, D_98, D_99, D_101, D_103, D_104, D_105, D_106, D_108, D_109, D_110, D_111, D_113, D_114, D_115, D_116, D_117, D_118, D_119, D_120, D_121, D_122, D_124, D_125, D_127, D_128, D_130, D_132, D_133, D_134, D_135, D_136, D_138, D_139, D_141, D_143, D_144, D_145, D_147, D_148, D_149, D_150, D_151, D_153, D_154, D_155, D_156, D_157, D_158, D_159, D_160, D_161, D_162, D_163, D_164, D_165, D_166, D_167, D_168, D_169, D_170, D_171, D_172, D_173, D_174, D_178, D_179, D_180, D_181, D_182, D_183, D_184, D_185, D_186]; rfl
  · simp only [queueA, D_1, D_2, D_3, D_4, D_5, D_6, D_7, D_8, D_9, D_10, D_11, D_12, D_13, D_14, D_15, D_16, D_17, D_18, D_19, D_21, D_22, D_23, D_24, D_25, D_26, D_27, D_28, D_29, D_30, D_31, D_32, D_33, D_35, D_36, D_37, D_38, D_39, D_40, D_41, D_42, D_43, D_45, D_46, D_47, D_48, D_49, D_50, D_51, D_52, D_53, D_55, D_56, D_57, D_58, D_60, D_61, D_62, D_63, D_64, D_65, D_67, D_68, D_69, D_70, D_71, D_72, D_73, D_74, D_75, D_76, D_77, D_78, D_79, D_80, D_81, D_82, D_83, D_84, D_85, D_86, D_87, D_88, D_89, D_91, D_93, D_94, D_95, D_97, D_98, D_99, D_101, D_103, D_104, D_105, D_106, D_108, D_109, D_110, D_111, D_113, D_114, D_115, D_116, D_117, D_118, D_119, D_120, D_121, D_122, D_124, D_125, D_127, D_128, D_130, D_132, D_133, D_134, D_135, D_136, D_138, D_139, D_141, D_143, D_144, D_145, D_147, D_148, D_149, D_150, D_151, D_153, D_154, D_155, D_156, D_157, D_158, D_159, D_160, D_161, D_162, D_163, D_164, D_165, D_166, D_167, D_168, D_169, D_170, D_171, D_172, D_173, D_174, D_178, D_179, D_180, D_181, D_182, D_183, D_184, D_185, D_186]; rfl
end Go.Proofs.Ythbejciebmkclaa.Ab
