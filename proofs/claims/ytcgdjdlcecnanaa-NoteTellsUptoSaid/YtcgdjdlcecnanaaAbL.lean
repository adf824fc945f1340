/-
  Every operation but a call does what the evaluator says.
  No condition.
-/
import Derived.Test.YtcgdjdlcecnanaaAbK
namespace Go.Proofs.Ytcgdjdlcecnanaa.Ab
open Go
set_option linter.unusedVariables false
set_option linter.unusedSimpArgs false

section
variable {P : Program} {D : Nat → TI} {G : Ctr} {S N0 : Nat → Prop} {B : Nat} {w0 : W0} {ρ : Env} {σ : AS} {a : Act} {w : World}

theorem wp_of_value {o : Oper} {K : Act → World → Prop} {Q : Exit → Act → World → Prop} {s : Sem Value} (hex : execOp a.eval o = (do pure (.value (← s)))) {v : Value} {w' : World} (hrun : s.run P w = .ok v w') (hk : K (a.put o.dst v) w') : o.wp P a w K Q := by
  unfold Oper.wp
  rw [hex]
  simp only [Sem.run_bind, hrun, Result.andThen_ok, Sem.run_pure, Oper.upon]
  exact hk

theorem stepS_nil (τ : AS) : stepS τ [] [] [] = τ := rfl
theorem Yld.mak {s : Sem Value} {e : Eff} (h : St0 D S N0 B w0 ρ σ a w) (hy : Yld P S N0 B ρ σ w s e) : ∃ v, s.run P w = .ok v w ∧ Mak D S N0 B w0 σ a e v w := by
  obtain ⟨a1, a2, a3, v, h1, h2, h3⟩ := hy
  refine ⟨v, h1, ρ, ?_⟩
  rw [a1, a2, a3, stepS_nil]
  exact ⟨h.freeze e.fr, h2, h3⟩

theorem ops_uv (h : St0 D S N0 B w0 ρ σ a w) {xs : List Operand} (hug : (xs.map (ev σ)).all ug = true) : Rels w (Im S N0 B w ρ σ) ρ ((xs.map (ev σ)).map uv) (xs.map a.eval) ∧ ∀ x ∈ (xs.map (ev σ)).map uv, ∀ n ∈ names x, (blk σ n).isSome = true := by
  refine ⟨⟨by simp, fun i x v hx hv => ?_⟩, fun x hx n hn => ?_⟩
  · rw [List.map_map, List.getElem?_map] at hx
    obtain ⟨y, hy, rfl⟩ := Option.map_eq_some_iff.1 hx
    rw [List.getElem?_map, hy] at hv
    cases hv
    exact (h.ev y).1.uv (List.all_eq_true.1 hug _ (List.mem_map.2 ⟨y, List.mem_of_getElem? hy, rfl⟩))
  · rw [List.map_map, List.mem_map] at hx
    obtain ⟨y, hy, rfl⟩ := hx
    simp only [Function.comp, names_uv] at hn
    exact (h.ev y).2 n hn

def isCall : Op → Bool
  | .call c => match c.callee with
    | .value _ => true
    | _ => false
  | _ => false

theorem unbound_mem : ∀ {l : List Nat}, unbound σ l = true → ∀ n ∈ l, blk σ n = none
  | [], _, n, hn => by cases hn
  | k :: r, h, n, hn => by
    simp only [unbound, Bool.and_eq_true, Option.isNone_iff_eq_none] at h
    rcases List.mem_cons.1 hn with rfl | hn
    · exact h.1
    · exact unbound_mem h.2 n hn

theorem ty_bool (hT : TOk P D) {T : Nat} (h : (D T).k = .bool) : P.underlying T = some .bool := by
  have h1 := (ty_kind hT (T := T) (by rw [h]; rfl)).1
  rw [h] at h1
  cases hu : P.underlying T with
  | none => rw [hu] at h1; cases h1
  | some u => rw [hu] at h1; cases u <;> simp [kindB] at h1; rfl
theorem eq_bool_run {T : Nat} (h : P.underlying T = some .bool) (p q : Bool) : (Op.equal T (.bool p) (.bool q)).run P w = .ok (p == q) w := by
  unfold Op.equal
  rw [show Op.maxDepth = 9999 + 1 from rfl]
  unfold Op.equalIn
  simp [run_underlying h]
theorem effBin_sound (hT : TOk P D) {op : BinOp} {T : TypeId} {x y : AV} {X Y : Operand} {u v : Value} {e : Eff} {im : Nat → Prop} (hx : Rel w im ρ x u) (hy : Rel w im ρ y v) (he : effBin D T op x y = some e) (hp : e.pre) :
    Only e ∧ ∃ r, (do eqGuard op T X Y u v; binOp op T u v : Sem Value).run P w = .ok r w ∧ Rel w im ρ e.v r ∧ names e.v = [] := by
  unfold effBin at he
  split at he
  · rename_i p
    split at he
    · rename_i q hk
      cases he
      rw [hx.bool_, hy.bool_]
      exact ⟨⟨rfl, rfl, rfl, rfl⟩, .bool (p == q), by simp [eqGuard, binOp, eq_bool_run (ty_bool hT hk)], .bool _, by simp [names]⟩
    · rename_i q hk
      cases he
      rw [hx.bool_, hy.bool_]
      exact ⟨⟨rfl, rfl, rfl, rfl⟩, .bool (!(p == q)), by simp [eqGuard, binOp, eq_bool_run (ty_bool hT hk)], .bool _, by simp [names]⟩
    · cases he
  · exact bin_sound hx hy he hp

theorem mark_sound (hT : TOk P D) (h : St0 D S N0 B w0 ρ σ a w) {t e el T sz : Nat} {rs : List (List AV)} {v : Value} (hb : blk σ t = some (.rows e sz rs)) (hk : (D T).k = .slice el) (h8 : (D el).k = .int .u8)
    (hx : Rel w (Im S N0 B w ρ σ) ρ (.os t) v) (hne : rs ≠ []) : ∃ r w', (convert T T v).run P w = .ok r w' ∧ Mak D S N0 B w0 σ a { v := .sl sz rs, kl := [t] } r w' := by
  have hv : v = (ρ t).sv := by cases hx; rfl
  subst hv
  obtain ⟨g1, g2, g3, A, c, g4, g5, g6, g7⟩ := h.hp.blk t _ hb
  rcases g7 with ⟨h0, _⟩ | ⟨b, arr, k1, rfl, k2, k3, k4⟩
  · exact absurd h0 hne
  have hlt : b < w.heap.size := (Array.getElem?_eq_some_iff.1 k2).1
  have hsh : w.shape? b = some (e, arr.size) := by unfold World.shape?; rw [k2]
  let w' : World := w.freeze ⟨b, arr.size, none⟩ 1
  have hw' : w' = { w with heap := w.heap.modify b fun | .cells c elem (lo, hi) => .cells c elem (if lo == hi then (arr.size, arr.size + 1) else (min lo arr.size, max hi (arr.size + 1))) | o => o } := by
    simp only [w', World.freeze]
    rfl
  have hrun : (convert T T (.slice (some ⟨b, 0, none⟩) rs.length c)).run P w = .ok (.slice (some ⟨b, 0, none⟩) rs.length c) w' := by
    simp [convert, run_underlying (ty_slice hT hk).1, run_underlying (ty_int hT h8), markStringish, hsh]
    rfl
  have hsame : ∀ b', b' ≠ b → w'.heap[b']? = w.heap[b']? := fun b' hb' => by
    rw [hw']
    simp only [Array.getElem?_modify]
    rw [if_neg (fun e => hb' e.symm)]
  have hself : w'.heap[b]? = some (.cells arr e (arr.size, arr.size + 1)) := by
    rw [hw']
    simp only [Array.getElem?_modify, if_true, k2, Option.map_some]
    rfl
  have hsize : w'.heap.size = w.heap.size := by rw [hw']; simp
  have hst := h.step (w' := w') (ρ' := ρ) (ks := [t]) (nw := []) (up := []) (by rw [hw']) (by rw [hw']) (by rw [hw']) (by omega)
    (fun b' _ hn => hsame b' fun e => hn t _ (.inl (by simp)) hb (e ▸ k1)) (fun n _ _ => rfl) (fun n hn => by simp [keys] at hn) (fun n hn => by simp [keys] at hn)
    (fun _ n y hy => by simp [get] at hy) (fun n b' hn => by simp [keys] at hn) (fun n m b' hn => by simp [keys] at hn)
  refine ⟨_, w', by rw [g4]; exact hrun, ρ, hst.1, ?_, by simp [names]⟩
  have himb : imOf S N0 B w' ρ (blk (stepS σ [t] [] [])) b := by
    refine ⟨by rw [hsize]; exact hlt, .inr (h.own t _ b hb k1), fun n x hx hnb => ?_⟩
    rw [blk_step] at hx
    simp only [get, List.mem_singleton] at hx
    split at hx
    · cases hx
    · rename_i hnt
      obtain ⟨y, hy, _⟩ := mapBlk_some hx
      exact hnt (h.hp.inj n t b y _ hy hb hnb k1)
  refine .sl sz rs _ c b 0 (fun i j => arr.getD (i * sz + j) undef) g5 g6 (fun _ => ⟨rfl, himb⟩) (fun i row hi => (k4 i row hi).1) (fun i j row x hi hj => ?_) (fun i j row x hi hj => ?_)
  · obtain ⟨hn, v, hv, h1v, hrel⟩ := (k4 i row hi).2 j x hj
    have hg : arr.getD (i * sz + j) undef = v := by rw [Array.getD_eq_getD_getElem?, hv]; rfl
    rw [hg]
    refine ⟨?_, h1v, hn⟩
    rw [Nat.zero_add]
    unfold World.cell?
    rw [hself]
    simp [hv]
  · obtain ⟨hn, v, hv, h1v, hrel⟩ := (k4 i row hi).2 j x hj
    have hg : arr.getD (i * sz + j) undef = v := by rw [Array.getD_eq_getD_getElem?, hv]; rfl
    rw [hg]
    exact hrel.mono (fun b hb => (hst.2 b hb).1) (fun b hb => (hst.2 b hb).2) (fun n hn' => rfl)
theorem convert_sound (hT : TOk P D) (h : St0 D S N0 B w0 ρ σ a w) {bl : Nat → Option Blk} (hbl : ∀ n x, bl n = some x → blk σ n = some x) {R T : Nat} {x : AV} {v : Value} {e : Eff}
    (hx : Rel w (Im S N0 B w ρ σ) ρ x v) (he : effConvert D bl R T x = some e) (hp : e.pre) : ∃ r w', (convert R T v).run P w = .ok r w' ∧ Mak D S N0 B w0 σ a e r w' := by
  have lift : ∀ {e : Eff} {r : Value}, Only e → (convert R T v).run P w = .ok r w → Rel w (Im S N0 B w ρ σ) ρ e.v r → names e.v = [] → ∃ r w', (convert R T v).run P w = .ok r w' ∧ Mak D S N0 B w0 σ a e r w' := by
    intro e r h1 h2 h3 h4
    obtain ⟨v', k1, k2⟩ := Yld.mak h (P := P) (Yld.only h1 h2 h3 (by rw [h4]; simp))
    exact ⟨v', w, k1, k2⟩
  unfold effConvert at he
  split at he
  · rename_i k' k hS hk
    split at he
    · rename_i k2 n
      cases he
      have hv := hx.int_
      refine lift ⟨rfl, rfl, rfl, rfl⟩ (r := .int k (k.wrap n)) ?_ (.int _ _) (by simp [names])
      rw [hv]
      simp [convert, run_underlying (ty_int hT hS), run_underlying (ty_int hT hk), Conv.intToInt]
    · cases he
  · rename_i hS hk
    split at he
    · rename_i l
      cases he
      have hv := hx.str_
      refine lift ⟨rfl, rfl, rfl, rfl⟩ (r := .string ⟨⟨l⟩⟩) ?_ (.str _) (by simp [names])
      rw [hv]
      simp [convert, run_underlying (ty_str hT hS), run_underlying (ty_str hT hk)]
    · cases he
  · rename_i el hS hk
    split at he
    · rename_i h8
      obtain ⟨r, hr, rfl⟩ := Option.map_eq_some_iff.1 he
      obtain ⟨sz, rs⟩ := r
      exact lift ⟨rfl, rfl, rfl, rfl⟩ (bytes_text_sound hT h hbl hS hk (isU8_eq h8) hx hr hp) (.str _) (by simp [names])
    · cases he
  · rename_i el hS hk
    split at he
    · rename_i l
      split at he
      · rename_i h8
        cases he
        rw [hx.str_]
        exact conv_bytes_sound hT h (ty_str hT hS) hk (isU8_eq h8) hp
      · cases he
    · cases he
  · rename_i el' el hS hk
    split at he
    · rename_i t
      split at he
      · rename_i e0 sz rs hrt
        split at he
        · rename_i hc
          obtain ⟨rfl, h8⟩ := hc
          cases he
          exact mark_sound hT h (hbl t _ (rowsAt_some hrt)) hk (isU8_eq h8) hx hp
        · cases he
      · cases he
    · cases he
  · cases he

set_option maxHeartbeats 2000000 in
theorem eff_sound (hT : TOk P D) (h : St0 D S N0 B w0 ρ σ a w) {o : Oper} {e : Eff} {K : Act → World → Prop} {Q : Exit → Act → World → Prop} (hnc : isCall o.op = false)
    (hug : (o.op.operands.toList.map (ev σ)).all ug = true) {dn : Nat} (he : eff D G (snap σ (namess (o.op.operands.toList.map (ev σ)))) dn o.op ((o.op.operands.toList.map (ev σ)).map uv) = some e)
    (hf : unbound σ (keys e.nw) = true) (hp : e.pre) (hK : ∀ v w', Mak D S N0 B w0 σ a e v w' → K (a.put o.dst v) w') : o.wp P a w K Q := by
  obtain ⟨dst, op, ty, pos, af, gd⟩ := o
  simp only at *
  obtain ⟨hR, hN⟩ := ops_uv h hug
  generalize hns : namess (op.operands.toList.map (ev σ)) = ns at he
  have hbl : ∀ n x, snap σ ns n = some x → blk σ n = some x := fun n x hx => names_bl_snap hx
  cases op <;> simp only [eff] at he <;> try (cases he; done)
  case move x =>
    simp only [Op.operands, List.map_cons, List.map_nil] at he hR hN
    cases he
    have hr := hR.2 0 _ _ rfl rfl
    obtain ⟨v, h1, h2⟩ := Yld.mak h (P := P) (s := pure (a.eval x)) (e := { v := uv (ev σ x) }) (Yld.only ⟨rfl, rfl, rfl, rfl⟩ rfl hr (hN _ (by simp)))
    exact wp_of_value rfl h1 (hK _ _ h2)
  case assign x =>
    simp only [Op.operands, List.map_cons, List.map_nil] at he hR hN
    cases he
    have hr := hR.2 0 _ _ rfl rfl
    obtain ⟨v, h1, h2⟩ := Yld.mak h (P := P) (s := pure (a.eval x)) (e := { v := uv (ev σ x) }) (Yld.only ⟨rfl, rfl, rfl, rfl⟩ rfl hr (hN _ (by simp)))
    exact wp_of_value rfl h1 (hK _ _ h2)
  case alloc T =>
    split at he
    · cases he
    rename_i hno
    simp only [Bool.not_eq_true] at hno
    cases he
    have hd := unbound_mem hf dn (by simp [keys])
    obtain ⟨i, z, hi, hi1, hi2, hi3, hi4, hi5⟩ := ty_info hT hno
    obtain ⟨hz1, hz2, hz3⟩ := zeroB_ok hi4
    have hc : CRel w (Im S N0 B w ρ σ) ρ (D T).zero z.cells := ⟨by simpa using hz1, fun k x v hx hv => ⟨(hz3 k x v hx (by simpa using hv)).1, (hz3 k x v hx (by simpa using hv)).2 _ _ _⟩⟩
    have hs := h.newCells (T := T) hd hc (by rw [hz2]; simp)
    refine wp_of_value (s := Instr.alloc T true (.tuple #[])) rfl (v := .pointer (some ⟨w.heap.size, 0, none⟩)) (w' := w.alloc (.cells z.cells T)) ?_ (hK _ _ ⟨_, hs.1, .ptr _ 0 w.heap.size (by rw [Env.set_eq]), fun m hm => ?_⟩)
    · simp [Instr.alloc, zeroValue, typeInfo, hi, hi3, newVar, newRow, World.alloc_eq]
    · simp [names] at hm
      subst hm
      show (blk (stepS σ _ [(_, _)] []) _).isSome = true
      rw [blk_step_new]; rfl
  case box T x =>
    simp only [Op.operands, List.map_cons, List.map_nil] at he hR hN
    cases he
    simp only at hp
    have hr := hR.2 0 _ _ rfl rfl
    have hd := unbound_mem hf dn (by simp [keys])
    have hs := h.newCells (T := T) hd (cells_rel hr hp) (fun m hm => hN (uv (ev σ x)) (by simp) m (by rwa [names_cellsOf] at hm))
    refine wp_of_value (s := Instr.box T (a.eval x)) rfl (v := .pointer (some ⟨w.heap.size, 0, none⟩)) (w' := w.alloc (.cells (a.eval x).cells T)) ?_ (hK _ _ ⟨_, hs.1, .ptr _ 0 w.heap.size (by rw [Env.set_eq]), fun m hm => ?_⟩)
    · simp [Instr.box, newVar, newRow, World.alloc_eq]
    · simp [names] at hm
      subst hm
      show (blk (stepS σ _ [(_, _)] []) _).isSome = true
      rw [blk_step_new]; rfl
  case build T ps =>
    split at he
    case h_2 => cases he
    rename_i fs hk
    obtain ⟨cs, hcs, rfl⟩ := Option.map_eq_some_iff.1 he
    have hops : (Op.build T ps).operands.toList = ps.toList.map (·.2) := by simp [Op.operands]
    rw [hops] at hcs hR hN
    have hlen : ((ps.toList.map (·.1)).zip ((((ps.toList.map (·.2))).map (ev σ)).map uv)).length = (ps.map fun x => (x.1, a.eval x.2)).toList.length := by simp
    obtain ⟨arr, h1, h2, h3⟩ := build_sound (P := P) (w := w) (ρ := ρ) (parts := ps.map fun x => (x.1, a.eval x.2)) (im := Im S N0 B w ρ σ) hT hk hlen (fun k i x hkx => by
      rw [List.getElem?_zip_eq_some] at hkx
      obtain ⟨q1, q2⟩ := hkx
      rw [List.getElem?_map] at q1
      obtain ⟨p, hp', rfl⟩ := Option.map_eq_some_iff.1 q1
      refine ⟨a.eval p.2, by simp [← Array.getElem?_toList, hp'], hR.2 k x _ q2 (by simp [hp'])⟩) hcs
    obtain ⟨v, g1, g2⟩ := Yld.mak h (P := P) (s := Instr.build T (ps.map fun x => (x.1, a.eval x.2))) (e := { v := .agg cs }) (Yld.only ⟨rfl, rfl, rfl, rfl⟩ h1 (.agg _ _ h2.1 (fun i v hv => by
        have hlt := (Array.getElem?_eq_some_iff.1 hv).1
        exact (h2.2 i _ v (List.getElem?_eq_getElem (by rw [← h2.1]; exact hlt)) hv).1) (fun i x v hx hv => (h2.2 i x v hx hv).2)) (fun n hn => by
      rw [names] at hn
      obtain ⟨k, i, x, hkx, hx⟩ := h3 n hn
      rw [List.getElem?_zip_eq_some] at hkx
      exact hN x (List.mem_of_getElem? hkx.2) n hx))
    exact wp_of_value rfl g1 (hK _ _ g2)
  case buildSlice T n ps =>
    split at he
    case h_2 => cases he
    rename_i el hk
    split at he
    case isFalse => cases he
    rename_i hidx
    cases he
    simp only at hp
    have hd := unbound_mem hf dn (by simp [keys])
    have hops : (Op.buildSlice T n ps).operands.toList = ps.toList.map (·.2) := by simp [Op.operands]
    rw [hops] at hp hR hN hK
    have hpl : ps.toList.length = n := by have := congrArg List.length hidx; simpa using this
    obtain ⟨r, w', h1, h2⟩ := buildSlice_sound hT h (T := T) (n := n) (dst := dn) hk (by simp [← hpl]) hR hp.1 hp.2 hd
    refine wp_of_value (s := Instr.buildSlice T n (ps.map fun x => (x.1, a.eval x.2))) rfl (v := r) (w' := w') ?_ (hK _ _ h2)
    rw [← h1]
    congr 2
    apply Array.ext'
    rw [← hidx]
    simp only [Array.toList_map, List.map_map]
    apply List.ext_getElem?
    intro k
    simp only [List.getElem?_map, List.getElem?_zip_eq_some, List.zip_map', Function.comp]
  case load T x =>
    simp only [Op.operands, List.map_cons, List.map_nil] at he hR hN
    have hr := hR.2 0 _ _ rfl rfl
    obtain ⟨v, h1, h2⟩ := Yld.mak h (load_sound (P := P) hT h hbl hr he)
    exact wp_of_value rfl h1 (hK _ _ h2)
  case store T x y =>
    simp only [Op.operands, List.map_cons, List.map_nil] at he hR hN
    split at he
    · cases he
    rename_i hno
    simp only [Bool.not_eq_true] at hno
    have hr := hR.2 0 _ _ rfl rfl
    have hr' := hR.2 1 _ _ rfl rfl
    obtain ⟨w', h1, h2, ρ', h3⟩ := store_sound (P := P) hT h hbl hno hr' (hN _ (by simp)) hr he hp
    unfold Oper.wp
    have hex : execOp a.eval ⟨dst, .store T x y, ty, pos, af, gd⟩ = (do Instr.storeAt T (a.eval x) (a.eval y); pure .skip) := rfl
    rw [hex]
    simp only [Sem.run_bind, h1, Result.andThen_ok, Sem.run_pure, Oper.upon]
    exact hK _ _ ⟨ρ', h3, by rw [h2]; exact .junk _, by rw [h2]; simp [names]⟩
  case nilCheck x =>
    simp only [Op.operands, List.map_cons, List.map_nil] at he hR hN
    have hr := hR.2 0 _ _ rfl rfl
    have hn := hN (uv (ev σ x)) (by simp)
    generalize uv (ev σ x) = X at *
    generalize hv : a.eval x = V at *
    have key : (∃ ad, V = .pointer (some ad)) ∧ e = { v := X } := by
      cases hr <;> simp only at he <;> first
        | (cases he; done)
        | (cases he; exact ⟨⟨_, rfl⟩, rfl⟩)
    obtain ⟨⟨ad, rfl⟩, rfl⟩ := key
    obtain ⟨v, h1, h2⟩ := Yld.mak h (P := P) (s := pure (.pointer (some ad))) (e := { v := X }) (Yld.only ⟨rfl, rfl, rfl, rfl⟩ rfl hr hn)
    have hex : execOp a.eval ⟨dst, .nilCheck x, ty, pos, af, gd⟩ = (do pure (.value (← (pure (.pointer (some ad)) : Sem Value)))) := by
      simp only [execOp, hv]; rfl
    exact wp_of_value hex h1 (hK _ _ h2)
  case binOp bo T x y T' =>
    simp only [Op.operands, List.map_cons, List.map_nil] at he hR hN
    have hr := hR.2 0 _ _ rfl rfl
    have hr' := hR.2 1 _ _ rfl rfl
    have hex : execOp a.eval ⟨dst, .binOp bo T x y T', ty, pos, af, gd⟩ = (do pure (.value (← (do eqGuard bo T x y (a.eval x) (a.eval y); binOp bo T (a.eval x) (a.eval y))))) := rfl
    have key : Only e ∧ ∃ r, (do eqGuard bo T x y (a.eval x) (a.eval y); binOp bo T (a.eval x) (a.eval y) : Sem Value).run P w = .ok r w ∧ Rel w (Im S N0 B w ρ σ) ρ e.v r ∧ names e.v = [] := effBin_sound hT hr hr' he hp
    obtain ⟨k1, r, k2, k3, k4⟩ := key
    obtain ⟨v, h1, h2⟩ := Yld.mak h (P := P) (Yld.only k1 k2 k3 (by rw [k4]; simp))
    exact wp_of_value hex h1 (hK _ _ h2)
  case unOp u T x =>
    simp only [Op.operands, List.map_cons, List.map_nil] at he hR hN
    have hr := hR.2 0 _ _ rfl rfl
    generalize uv (ev σ x) = X at *
    cases u <;> cases X <;> simp only at he <;> try (cases he; done)
    case neg.int k n =>
      cases he
      have hv := hr.int_
      obtain ⟨v, h1, h2⟩ := Yld.mak h (P := P) (s := Op.unary .neg (a.eval x)) (e := { v := .int k (k.wrap (0 - n)) }) (Yld.only ⟨rfl, rfl, rfl, rfl⟩ (v := .int k (k.wrap (0 - n))) (by rw [hv]; rfl) (.int _ _) (by simp [names]))
      exact wp_of_value rfl h1 (hK _ _ h2)
    case not.bool b =>
      cases he
      have hv := hr.bool_
      obtain ⟨v, h1, h2⟩ := Yld.mak h (P := P) (s := Op.unary .not (a.eval x)) (e := { v := .bool (!b) }) (Yld.only ⟨rfl, rfl, rfl, rfl⟩ (v := .bool (!b)) (by rw [hv]; rfl) (.bool _) (by simp [names]))
      exact wp_of_value rfl h1 (hK _ _ h2)
  case convert R T x =>
    simp only [Op.operands, List.map_cons, List.map_nil] at he hR hN
    have hr := hR.2 0 _ _ rfl rfl
    obtain ⟨r, w', h1, h2⟩ := convert_sound (P := P) hT h hbl hr he hp
    exact wp_of_value (s := convert R T (a.eval x)) rfl h1 (hK _ _ h2)
  case makeSlice T ln cp =>
    simp only [Op.operands, List.map_cons, List.map_nil] at he hR hN
    split at he
    case h_2 => cases he
    rename_i el hk
    split at he
    case h_2 => cases he
    rename_i kl n kc m hxs
    split at he
    case isFalse => cases he
    rename_i h8
    obtain ⟨h8, hb1⟩ := h8
    simp only [List.cons.injEq, and_true] at hxs
    obtain ⟨hx1, hx2⟩ := hxs
    cases he
    simp only at hp
    obtain ⟨p1, p2, rfl⟩ := hp
    have hr1 := hR.2 0 _ _ rfl rfl
    have hr2 := hR.2 1 _ _ rfl rfl
    rw [hx1] at hr1
    rw [hx2] at hr2
    obtain ⟨n, rfl⟩ := Int.eq_ofNat_of_zero_le p1
    obtain ⟨r, w', h1, h2⟩ := make_sound hT h (n := n) (kl := kl) (kc := kc) hk (isU8_eq h8) hb1 (by omega)
    exact wp_of_value (s := Instr.makeSlice T (a.eval ln) (a.eval cp)) rfl (by rw [hr1.int_, hr2.int_]; exact h1) (hK _ _ h2)
  case slice T x lo hi mx =>
    cases mx with
    | some m => cases he
    | none =>
      simp only at he
      have hops : (Op.slice T x lo hi none).operands.toList = (#[x] ++ lo.toArray ++ hi.toArray).toList := by simp [Op.operands]
      rw [hops] at he hR
      obtain ⟨v, h1, h2⟩ := Yld.mak h (P := P) (slice_sound hT h hbl hR he hp)
      exact wp_of_value (s := Instr.sliceAt T (a.eval x) (lo.map a.eval) (hi.map a.eval) none) rfl h1 (hK _ _ h2)
  case fieldAddr T x f =>
    simp only [Op.operands, List.map_cons, List.map_nil] at he hR hN
    have hr := hR.2 0 _ _ rfl rfl
    obtain ⟨v, h1, h2⟩ := Yld.mak h (P := P) (fieldAddr_sound hT hr (hN _ (by simp)) he)
    exact wp_of_value (s := Instr.fieldAt T (a.eval x) f) rfl h1 (hK _ _ h2)
  case field T x f =>
    simp only [Op.operands, List.map_cons, List.map_nil] at he hR hN
    have hr := hR.2 0 _ _ rfl rfl
    obtain ⟨v, h1, h2⟩ := Yld.mak h (P := P) (field_sound hT hr (hN _ (by simp)) he)
    exact wp_of_value (s := Instr.field T (a.eval x) f) rfl h1 (hK _ _ h2)
  case indexAddr T x i =>
    simp only [Op.operands, List.map_cons, List.map_nil] at he hR hN
    have hr := hR.2 0 _ _ rfl rfl
    have hr' := hR.2 1 _ _ rfl rfl
    obtain ⟨v, h1, h2⟩ := Yld.mak h (P := P) (indexAddr_sound hT h hbl hr hr' he hp)
    exact wp_of_value (s := Instr.indexAt T (a.eval x) (a.eval i)) rfl h1 (hK _ _ h2)
  case index T x i =>
    simp only [Op.operands, List.map_cons, List.map_nil] at he hR hN
    have hr := hR.2 0 _ _ rfl rfl
    have hr' := hR.2 1 _ _ rfl rfl
    generalize uv (ev σ x) = X at *
    generalize uv (ev σ i) = I at *
    split at he
    · rename_i l k n hk hxs
      cases he
      simp only at hp
      cases hxs
      have hv := hr.str_
      have hv' := hr'.int_
      obtain ⟨v, h1, h2⟩ := Yld.mak h (P := P) (s := Instr.index T (a.eval x) (a.eval i)) (e := { v := .int .u8 (l.getD n.toNat 0).toNat }) (Yld.only ⟨rfl, rfl, rfl, rfl⟩ (v := .int .u8 (l.getD n.toNat 0).toNat) (by rw [hv, hv']; exact index_sound hT hk hp.1 hp.2) (.int _ _) (by simp [names]))
      exact wp_of_value rfl h1 (hK _ _ h2)
    · cases he
  case extract x i =>
    simp only [Op.operands, List.map_cons, List.map_nil] at he hR hN
    have hr := hR.2 0 _ _ rfl rfl
    have hn := hN (uv (ev σ x)) (by simp)
    generalize uv (ev σ x) = X at *
    cases X <;> simp only at he <;> try (cases he; done)
    rename_i cs
    obtain ⟨y, hy, rfl⟩ := Option.map_eq_some_iff.1 he
    generalize hv : a.eval x = V at hr
    cases hr with
    | tup cs vs hl hval =>
    have hlt : i < vs.size := by rw [hl]; exact (List.getElem?_eq_some_iff.1 hy).1
    obtain ⟨v, h1, h2⟩ := Yld.mak h (P := P) (s := Instr.extract (a.eval x) i) (e := { v := y }) (Yld.only ⟨rfl, rfl, rfl, rfl⟩ (v := vs[i]) (by rw [hv]; simp [Instr.extract, hlt]) (hval i y _ hy (by simp [hlt])) (fun n hn' => hn n (by rw [names]; exact mem_namess hy hn')))
    exact wp_of_value rfl h1 (hK _ _ h2)
  case makeFunc fn first caps =>
    split at he
    case h_2 => cases he
    rename_i f
    split at he
    case isFalse => cases he
    rename_i hfirst
    subst hfirst
    cases he
    have hops : (Op.makeFunc (.func f) #[] caps).operands.toList = caps.toList := by simp [Op.operands]
    rw [hops] at hR hN hK
    obtain ⟨v, h1, h2⟩ := Yld.mak h (P := P) (s := Instr.makeFunc (.func f) (#[].map a.eval) (caps.map a.eval)) (e := { v := .func f ((caps.toList.map (ev σ)).map uv) }) (Yld.only ⟨rfl, rfl, rfl, rfl⟩ (v := .func (.func f) #[] (caps.map a.eval)) (by simp [Instr.makeFunc])
      (.func f _ _ (by simp) (fun i x v hx hv => hR.2 i x v hx (by simpa [← Array.getElem?_toList] using hv))) (fun n hn => by
        rw [names] at hn
        obtain ⟨i, x, hi, hx⟩ := namess_mem hn
        exact hN x (List.mem_of_getElem? hi) n hx))
    exact wp_of_value rfl h1 (hK _ _ h2)
  case call c =>
    obtain ⟨callee, args, types⟩ := c
    cases callee with
    | value f => simp [isCall] at hnc
    | invoke r m => cases he
    | builtin b =>
      have hops : (Op.call ⟨.builtin b, args, types⟩).operands.toList = args.toList := by simp [Op.operands, Call.operands]
      rw [hops] at he hR hN
      have hex : ∀ s : Sem Value, (builtin b types ty (args.map fun | .const _ => true | _ => false) (args.map a.eval) = (do pure (.value (← s)))) → execOp a.eval ⟨dst, .call ⟨.builtin b, args, types⟩, ty, pos, af, gd⟩ = (do pure (.value (← s))) := by
        intro s hs
        rw [← hs]
        rfl
      cases b <;> simp only at he <;> try (cases he; done)
      case append =>
        split at he
        case h_2 => cases he
        rename_i T U hty
        split at he
        case h_2 => cases he
        rename_i x y hxs
        have hd : blk σ dn = none := by
          have : dn ∈ keys e.nw := by
            unfold effAppend at he
            split at he
            · split at he
              · split at he
                · cases he; simp [keys]
                · cases he
              · cases he
            · cases he
          exact unbound_mem hf _ this
        obtain ⟨va, ha, hra⟩ := hR.at_ (i := 0) (by rw [hxs]; rfl)
        obtain ⟨vb, hb, hrb⟩ := hR.at_ (i := 1) (by rw [hxs]; rfl)
        have hargs : args.map a.eval = #[va, vb] := by
          have hl : (args.toList.map a.eval).length = 2 := by rw [hR.1, hxs]; rfl
          apply Array.ext'
          rw [Array.toList_map]
          apply List.ext_getElem? 
          intro k
          match k with
          | 0 => rw [ha]; rfl
          | 1 => rw [hb]; rfl
          | k + 2 => rw [List.getElem?_eq_none (by omega)]; rfl
        have htys : types = #[T, U] := by apply Array.ext'; rw [hty]
        obtain ⟨r, w', h1, h2⟩ := append_sound (P := P) (ty := ty) hT h hbl hra hrb he hp hd
        refine wp_of_value (hex (Builtin.append_ types ty (args.map a.eval)) rfl) ?_ (hK _ _ h2)
        rw [hargs, htys]; exact h1
      case len =>
        split at he
        case h_2 => cases he
        rename_i T hty
        split at he
        case h_2 => cases he
        rename_i x hxs
        obtain ⟨va, ha, hra⟩ := hR.at_ (i := 0) (by rw [hxs]; rfl)
        have hargs : args.map a.eval = #[va] := by
          have hl : (args.toList.map a.eval).length = 1 := by rw [hR.1, hxs]; rfl
          apply Array.ext'
          rw [Array.toList_map]
          apply List.ext_getElem?
          intro k
          match k with
          | 0 => rw [ha]; rfl
          | k + 1 => rw [List.getElem?_eq_none (by omega)]; rfl
        have htys : types = #[T] := by apply Array.ext'; rw [hty]
        obtain ⟨v, h1, h2⟩ := Yld.mak h (P := P) (len_sound (ty := ty) hT h hbl hra he)
        refine wp_of_value (hex (Builtin.len_ types ty (args.map a.eval)) rfl) ?_ (hK _ _ h2)
        rw [hargs, htys]; exact h1
      case max =>
        split at he
        case h_2 => cases he
        rename_i k p k' q hxs
        split at he
        case isFalse => cases he
        rename_i hkk
        subst hkk
        cases he
        obtain ⟨va, ha, hra⟩ := hR.at_ (i := 0) (by rw [hxs]; rfl)
        obtain ⟨vb, hb, hrb⟩ := hR.at_ (i := 1) (by rw [hxs]; rfl)
        have hv := hra.int_
        have hv' := hrb.int_
        subst hv hv'
        have hargs : args.map a.eval = #[.int k p, .int k q] := by
          have hl : (args.toList.map a.eval).length = 2 := by rw [hR.1, hxs]; rfl
          apply Array.ext'
          rw [Array.toList_map]
          apply List.ext_getElem?
          intro k
          match k with
          | 0 => rw [ha]; rfl
          | 1 => rw [hb]; rfl
          | k + 2 => rw [List.getElem?_eq_none (by omega)]; rfl
        obtain ⟨v, h1, h2⟩ := Yld.mak h (P := P) (s := Builtin.max_ types ty (args.map a.eval)) (e := { v := .int k (if q > p then q else p) }) (Yld.only ⟨rfl, rfl, rfl, rfl⟩ (v := .int k (if q > p then q else p)) (by rw [hargs]; simp [Builtin.max_, Builtin.max2]) (.int _ _) (by simp [names]))
        exact wp_of_value (hex (Builtin.max_ types ty (args.map a.eval)) rfl) h1 (hK _ _ h2)
      case min =>
        split at he
        case h_2 => cases he
        rename_i k p k' q hxs
        split at he
        case isFalse => cases he
        rename_i hkk
        subst hkk
        cases he
        obtain ⟨va, ha, hra⟩ := hR.at_ (i := 0) (by rw [hxs]; rfl)
        obtain ⟨vb, hb, hrb⟩ := hR.at_ (i := 1) (by rw [hxs]; rfl)
        have hv := hra.int_
        have hv' := hrb.int_
        subst hv hv'
        have hargs : args.map a.eval = #[.int k p, .int k q] := by
          have hl : (args.toList.map a.eval).length = 2 := by rw [hR.1, hxs]; rfl
          apply Array.ext'
          rw [Array.toList_map]
          apply List.ext_getElem?
          intro k
          match k with
          | 0 => rw [ha]; rfl
          | 1 => rw [hb]; rfl
          | k + 2 => rw [List.getElem?_eq_none (by omega)]; rfl
        obtain ⟨v, h1, h2⟩ := Yld.mak h (P := P) (s := Builtin.min_ types ty (args.map a.eval)) (e := { v := .int k (if q < p then q else p) }) (Yld.only ⟨rfl, rfl, rfl, rfl⟩ (v := .int k (if q < p then q else p)) (by rw [hargs]; simp [Builtin.min_, Builtin.min2]) (.int _ _) (by simp [names]))
        exact wp_of_value (hex (Builtin.min_ types ty (args.map a.eval)) rfl) h1 (hK _ _ h2)
end
end Go.Proofs.Ytcgdjdlcecnanaa.Ab
