/-
  An operation in a region; regions in the text's order.
  No condition.
-/
import Derived.Test.YtcgdjdlcecnanaaAbN
namespace Go.Proofs.Ytcgdjdlcecnanaa.Ab
open Go
set_option linter.unusedVariables false
set_option linter.unusedSimpArgs false

mutual
theorem fz_id {ns : List Nat} {bl : Nat → Option Blk} : ∀ (x : AV), (∀ n ∈ names x, n ∉ ns) → fz ns bl x = x
  | .os t, h => by simp only [fz]; rw [if_neg]; simp [mem_false.2 (h t (by simp [names]))]
  | .ptr v o, h => by simp only [fz]; rw [if_neg]; simp [mem_false.2 (h v (by simp [names]))]
  | .eptr v i o, h => by simp only [fz]; rw [if_neg]; simp [mem_false.2 (h v (by simp [names]))]
  | .agg cs, h => by rw [names] at h; simp only [fz]; rw [fzs_id cs h]
  | .tup cs, h => by rw [names] at h; simp only [fz]; rw [fzs_id cs h]
  | .func f cs, h => by rw [names] at h; simp only [fz]; rw [fzs_id cs h]
  | .opt g v, h => by rw [names] at h; simp only [fz]; rw [fz_id v h]
  | .junk, _ => by simp [fz]
  | .int _ _, _ => by simp [fz]
  | .bool _, _ => by simp [fz]
  | .str _, _ => by simp [fz]
  | .nils, _ => by simp [fz]
  | .sl _ _, _ => by simp [fz]
  | .iptr _, _ => by simp [fz]
theorem fzs_id {ns : List Nat} {bl : Nat → Option Blk} : ∀ (cs : List AV), (∀ n ∈ namess cs, n ∉ ns) → fzs ns bl cs = cs
  | [], _ => by simp [fzs]
  | c :: r, h => by
    rw [namess] at h
    simp only [fzs]
    rw [fz_id c fun n hn => h n (List.mem_append_left _ hn), fzs_id r fun n hn => h n (List.mem_append_right _ hn)]
end
mutual
theorem fz_congr {ns : List Nat} {bl bl' : Nat → Option Blk} (hb : ∀ n, n ∈ ns → bl n = bl' n) : ∀ (x : AV), fz ns bl x = fz ns bl' x
  | .os t => by
    simp only [fz]
    split
    · rename_i ht
      have := hb t (mem_iff.1 ht)
      simp only [rowsAt, this]
    · rfl
  | .ptr v o => by simp only [fz]
  | .eptr v i o => by simp only [fz]
  | .agg cs => by simp only [fz]; rw [fzs_congr hb cs]
  | .tup cs => by simp only [fz]; rw [fzs_congr hb cs]
  | .func f cs => by simp only [fz]; rw [fzs_congr hb cs]
  | .opt g v => by simp only [fz]; rw [fz_congr hb v]
  | .junk => by simp [fz]
  | .int _ _ => by simp [fz]
  | .bool _ => by simp [fz]
  | .str _ => by simp [fz]
  | .nils => by simp [fz]
  | .sl _ _ => by simp [fz]
  | .iptr _ => by simp [fz]
theorem fzs_congr {ns : List Nat} {bl bl' : Nat → Option Blk} (hb : ∀ n, n ∈ ns → bl n = bl' n) : ∀ (cs : List AV), fzs ns bl cs = fzs ns bl' cs
  | [] => by simp [fzs]
  | c :: r => by simp only [fzs]; rw [fz_congr hb c, fzs_congr hb r]
end

mutual
theorem kl_nil : ∀ (x : AV), kl [] x = x
  | .os t => by simp [kl, mem]
  | .ptr v o => by simp [kl, mem]
  | .eptr v i o => by simp [kl, mem]
  | .agg cs => by simp only [kl]; rw [kls_nil cs]
  | .tup cs => by simp only [kl]; rw [kls_nil cs]
  | .func f cs => by simp only [kl]; rw [kls_nil cs]
  | .opt g v => by simp only [kl]; rw [kl_nil v]
  | .junk => by simp [kl]
  | .int _ _ => by simp [kl]
  | .bool _ => by simp [kl]
  | .str _ => by simp [kl]
  | .nils => by simp [kl]
  | .sl _ _ => by simp [kl]
  | .iptr _ => by simp [kl]
theorem kls_nil : ∀ (cs : List AV), kls [] cs = cs
  | [] => by simp [kls]
  | c :: r => by simp only [kls]; rw [kl_nil c, kls_nil r]
end

section
variable {P : Program} {D : Nat → TI} {G : Ctr} {S N0 : Nat → Prop} {B : Nat} {w0 : W0} {ρ : Env} {σ σ' : AS} {a : Act} {w : World}

/-- states that say the same -/
structure Eqv (σ σ' : AS) : Prop where
  nt : σ'.nt = σ.nt
  tm : ∀ t, get t σ'.tm = get t σ.tm
  bl : ∀ n, blk σ' n = blk σ n
theorem Eqv.refl (σ : AS) : Eqv σ σ := ⟨rfl, fun _ => rfl, fun _ => rfl⟩
theorem Eqv.trans {σ'' : AS} (h : Eqv σ σ') (k : Eqv σ' σ'') : Eqv σ σ'' := ⟨k.nt.trans h.nt, fun t => (k.tm t).trans (h.tm t), fun n => (k.bl n).trans (h.bl n)⟩
theorem Eqv.symm (h : Eqv σ σ') : Eqv σ' σ := ⟨h.nt.symm, fun t => (h.tm t).symm, fun n => (h.bl n).symm⟩
theorem St0.congr (h : St0 D S N0 B w0 ρ σ a w) (k : Eqv σ σ') : St0 D S N0 B w0 ρ σ' a w := by
  have hb : blk σ' = blk σ := funext k.bl
  refine ⟨fun t x hx => ?_, ?_, by rw [k.nt]; exact h.nt, h.base, h.frm, ?_, h.defers⟩
  · rw [k.tm] at hx
    rw [hb]
    exact h.tm t x hx
  · rw [hb]; exact h.hp
  · rw [hb]; exact h.own
theorem St.congr (h : St D S N0 B w0 σ a w) (k : Eqv σ σ') : St D S N0 B w0 σ' a w := by
  obtain ⟨ρ, h⟩ := h
  exact ⟨ρ, h.congr k⟩

theorem subs_mem {n : Nat} : ∀ {a b : List Nat}, subs a b = true → n ∈ a → n ∈ b
  | [], _, _, h => by cases h
  | k :: r, b, hs, h => by
    simp only [subs, Bool.and_eq_true] at hs
    rcases List.mem_cons.1 h with rfl | h
    · exact mem_iff.1 hs.1
    · exact subs_mem hs.2 h
theorem blNames_mem {bl : Nat → Option Blk} {n : Nat} : ∀ {l : List Nat}, n ∈ blNames bl l → ∃ k cs, bl k = some (.cells cs) ∧ n ∈ namess cs
  | [], h => by simp [blNames] at h
  | k :: r, h => by
    simp only [blNames] at h
    split at h
    · rename_i cs hk
      rcases List.mem_append.1 h with h | h
      · exact ⟨k, cs, hk, h⟩
      · exact blNames_mem h
    · exact blNames_mem h
theorem ops_bound (h : St0 D S N0 B w0 ρ σ a w) {xs : List Operand} {n : Nat} (hn : n ∈ namess (xs.map (ev σ))) : (blk σ n).isSome = true := by
  obtain ⟨i, x, hx, hn⟩ := namess_mem hn
  rw [List.getElem?_map] at hx
  obtain ⟨o, ho, rfl⟩ := Option.map_eq_some_iff.1 hx
  exact (h.ev o).2 n hn
theorem okN_bound (h : St0 D S N0 B w0 ρ σ a w) {xs : List Operand} {vs : List Nat} {op : Op} (hv : okN [] (namess (xs.map (ev σ))) (bsOf σ op (namess (xs.map (ev σ)))) vs = true) : ∀ n ∈ vs, (blk σ n).isSome = true := by
  intro n hn
  have := subs_mem hv hn
  simp only [List.nil_append, List.mem_append] at this
  rcases this with h1 | h1
  · exact ops_bound h h1
  · unfold bsOf at h1
    split at h1
    · cases h1
    obtain ⟨k, cs, hk, hm⟩ := blNames_mem h1
    exact h.hp.closed k cs (names_bl_snap hk) n hm

theorem freeze_nt (σ : AS) (ns : List Nat) : (freeze σ ns).nt = σ.nt := by cases ns <;> rfl
theorem Mak.fin {e : Eff} {v : Value} {w' : World} {dst : Option Nat} (h : Mak D S N0 B w0 σ a e v w') (hd : ∀ d, dst = some d → d < σ.nt) : St D S N0 B w0 (apply σ dst e) (a.put dst v) w' := by
  obtain ⟨ρ', h1, h2, h3⟩ := h
  cases dst with
  | none =>
    refine ⟨ρ', h1.congr ⟨?_, fun _ => rfl, fun _ => rfl⟩⟩
    exact (freeze_nt σ e.fr).symm
  | some d =>
    have := h1.put (d := d) (by show d < (freeze σ e.fr).nt; rw [freeze_nt]; exact hd d rfl) h2 h3
    refine ⟨ρ', this.congr ⟨(freeze_nt σ e.fr).symm, fun _ => rfl, fun _ => rfl⟩⟩

theorem get_tm_freeze_eq (σ : AS) (ns : List Nat) (t : Nat) : get t (freeze σ ns).tm = (get t σ.tm).map (if ns = [] then id else fz ns (blk σ)) := by
  cases ns with
  | nil => simp [freeze]
  | cons m ms => simp [freeze, get_mapT]

theorem wanted_of (h : St0 D S N0 B w0 ρ σ a w) {ops : Array Oper} {o : Oper} {g : Bool} (hg : guardOf σ ops o.guard = some (some g)) : Region.wanted o (yielded ops a.tmps) = g := by
  cases hgo : o.guard with
  | none => rw [hgo] at hg; simp [guardOf] at hg
  | some jw =>
    obtain ⟨j, want⟩ := jw
    rw [hgo] at hg
    simp only [guardOf] at hg
    split at hg
    case h_1 => cases hg
    rename_i t ht
    have hy : ∀ b, a.tmps.getD t undef = .bool b → yielded ops a.tmps j = some b := by
      intro b hb
      unfold yielded
      rw [ht]
      have : a.tmps[t]? = some (.bool b) := by
        rw [Array.getD_eq_getD_getElem?] at hb
        cases hq : a.tmps[t]? with
        | none => rw [hq] at hb; simp [undef] at hb
        | some v => rw [hq] at hb; simp at hb; rw [hb]
      simp [this]
    have hn : a.tmps.getD t undef = undef → yielded ops a.tmps j = none := by
      intro hb
      unfold yielded
      rw [ht]
      rw [Array.getD_eq_getD_getElem?] at hb
      cases hq : a.tmps[t]? with
      | none => simp [hq]
      | some v => rw [hq] at hb; simp at hb; subst hb; simp [hq, undef]
    have hlt : t < 65536 := by
      rcases Nat.lt_or_ge t 65536 with hlt | hge
      · exact hlt
      · rw [tmv, if_neg (by omega)] at hg
        cases hg
    rw [tmv, if_pos hlt] at hg
    cases hgt : get t σ.tm with
    | none => rw [hgt] at hg; simp at hg
    | some x =>
      have hrel := (h.tm t x hgt).1
      rw [vl, if_pos hlt] at hrel
      rw [hgt] at hg
      simp only [Option.getD_some] at hg
      split at hg
      · rename_i b
        have := hy b hrel.bool_
        simp only [Region.wanted, hgo, this]
        simp at hg
        subst hg
        cases b <;> cases want <;> rfl
      · rename_i g1 b
        simp at hg
        cases hrel with
        | opt g1 x v q1 q2 =>
        cases g1 with
        | true =>
          have := hy b (q1 rfl).bool_
          simp only [Region.wanted, hgo, this]
          simp at hg
          subst hg
          cases b <;> cases want <;> rfl
        | false =>
          have := hn (q2 rfl)
          simp only [Region.wanted, hgo, this]
          simp at hg
          subst hg
          rfl
      · cases hg

theorem op_sound (hT : TOk P D) (hG : GOk P D G) (h : St0 D S N0 B w0 ρ σ a w) {M : MCtr} {nb : Nat} {off : List (Nat × Bool)} {ops : Array Oper} {Q : Exit → Act → World → Prop} {i : Nat} {o : Oper} (ho : ops[i]? = some o) {e : Eff} (he : opEff D G M nb off ops σ o = some e)
    (hf : fresh σ o.dst e = true) (hp : e.pre) (hM : o.guard = none → mEff M σ o = some e → wpOp P ops Q i (fun a' w' => St D S N0 B w0 (apply σ o.dst e) a' w') a w) : wpOp P ops Q i (fun a' w' => St D S N0 B w0 (apply σ o.dst e) a' w') a w := by
  simp only [fresh, Bool.and_eq_true] at hf
  obtain ⟨hf1, hf2⟩ := hf
  have hd : ∀ d, o.dst = some d → d < σ.nt := by
    intro d hd
    rw [hd] at hf2
    simpa using hf2
  unfold opEff at he
  split at he
  · cases hg : guardOf σ ops o.guard with
    | none => rw [hg] at he; cases he
    | some g =>
      rw [hg] at he
      cases g with
      | none => cases he
      | some g =>
        simp only [skipE] at he
        cases he
        simp only at hp
        unfold wpOp
        simp only [ho]
        rw [wanted_of h hg, hp, if_neg (by simp)]
        cases hdst : o.dst with
        | none => exact ⟨ρ, h⟩
        | some d => exact ⟨ρ, h.put (hd d hdst) (.opt false _ undef (fun hh => by cases hh) fun _ => rfl) (by simp [names])⟩
  cases hg : guardOf σ ops o.guard with
  | none => rw [hg] at he; cases he
  | some g =>
    rw [hg] at he
    cases g with
    | none =>
      have hgd : o.guard = none := by
        cases hgo : o.guard with
        | none => rfl
        | some jw =>
          exfalso
          obtain ⟨j, want⟩ := jw
          rw [hgo] at hg
          simp only [guardOf] at hg
          split at hg
          · cases hg
          · split at hg <;> first | (cases hg; done) | (simp at hg)
      have hw : Region.wanted o (yielded ops a.tmps) = true := by simp [Region.wanted, hgd]
      cases hbe : baseE D G σ (nb + o.dst.getD 0) o.op (o.op.operands.toList.map (ev σ)) with
      | some e1 =>
        rw [hbe] at he
        cases he
        unfold wpOp
        simp only [ho]
        rw [if_pos hw]
        left
        exact base_sound hT hG h hbe hf1 hp fun v w' hm => hm.fin hd
      | none =>
        rw [hbe] at he
        cases hme : mEff M σ o with
        | none => rw [hme] at he; cases he
        | some e1 =>
          rw [hme] at he
          have : e1 = e := by
            simp only [orM] at he
            split at he
            · exact Option.some.inj he
            · cases he
          subst this
          exact hM hgd hme
    | some g =>
      unfold wpOp
      simp only [ho]
      cases hb : baseE D G σ (nb + o.dst.getD 0) o.op (o.op.operands.toList.map (ev σ)) with
      | none => rw [hb] at he; simp [guarded] at he
      | some e0 =>
        rw [hb] at he
        simp only [guarded] at he
        split at he
        case isFalse => cases he
        rename_i hemp
        obtain ⟨⟨h1, h2, h3⟩, h4, h5⟩ := hemp
        have h6 := okN_bound h h5
        cases he
        simp only at hp hf1
        have hwant : Region.wanted o (yielded ops a.tmps) = g := wanted_of h hg
        have hfz : ∀ x : AV, (∀ n ∈ names x, (blk σ n).isSome = true) → ∀ bl, fz (keys e0.nw) bl x = x := by
          intro x hx bl
          refine fz_id x fun n hn hk => ?_
          have h5 := hx n hn
          rw [unbound_mem h4 n hk] at h5
          cases h5
        have happ : ∀ v, apply σ o.dst { v := v, pre := g = true → e0.pre } = { nt := σ.nt, tm := putT o.dst v σ.tm, bl := σ.bl } := fun _ => rfl
        rw [hwant]
        rw [happ]
        have fin : ∀ (ρ1 : Env) (w1 : World) (x : AV) (u : Value), St0 D S N0 B w0 ρ1 σ a w1 → Rel w1 (Im S N0 B w1 ρ1 σ) ρ1 x u → (∀ n ∈ names x, (blk σ n).isSome = true) → St D S N0 B w0 { nt := σ.nt, tm := putT o.dst x σ.tm, bl := σ.bl } (a.put o.dst u) w1 := by
          intro ρ1 w1 x u k1 k2 k3
          cases hdst : o.dst with
          | none => exact ⟨ρ1, k1⟩
          | some d => exact ⟨ρ1, k1.put (hd d hdst) k2 k3⟩
        cases g with
        | false =>
          rw [if_neg (by simp)]
          refine fin ρ w _ undef h (.opt false _ undef (fun hh => by cases hh) fun _ => rfl) fun n hn => ?_
          rw [names] at hn
          exact h6 n hn
        | true =>
          rw [if_pos rfl]
          left
          refine base_sound hT hG h hb h4 (hp rfl) fun v w' hm => ?_
          obtain ⟨ρ1, k1, k2, k3⟩ := hm
          rw [h1, h2, h3] at k1 k2 k3
          have k4 := k1.freeze (keys e0.nw)
          have hbl : ∀ n, n ∈ keys e0.nw → blk (stepS (Ab.freeze σ []) [] e0.nw []) n = getN e0.nw n := by
            intro n hn
            obtain ⟨y, hy⟩ := mem_keys.1 hn
            rw [blk_step, hy]
            exact hy.symm
          have heq : Eqv (Ab.freeze (stepS (Ab.freeze σ []) [] e0.nw []) (keys e0.nw)) σ := by
            refine ⟨by rw [freeze_nt]; rfl, fun t => ?_, fun n => ?_⟩
            · rw [get_tm_freeze_eq]
              show get t σ.tm = Option.map _ (get t σ.tm)
              cases hgt : get t σ.tm with
              | none => rfl
              | some x =>
                simp only [Option.map_some]
                split
                · rfl
                · rw [hfz x (h.tm t x hgt).2]
            · rw [blk_freeze]
              by_cases hk : n ∈ keys e0.nw
              · rw [if_pos hk, unbound_mem h4 n hk]
              · rw [if_neg hk, blk_step, get_none.2 hk]
                simp only [get, List.not_mem_nil, if_false]
                rw [show blk (Ab.freeze σ []) n = blk σ n from rfl]
                cases hbn : blk σ n with
                | none => rfl
                | some y =>
                  cases y with
                  | rows e sz rs => rfl
                  | cells cs =>
                    have hid : ∀ x ∈ cs, fz (keys e0.nw) (blk (stepS (Ab.freeze σ []) [] e0.nw [])) (kl [] x) = x := fun x hx => by
                      rw [kl_nil]
                      refine fz_id x fun m hm hk => ?_
                      obtain ⟨j, hj⟩ := List.getElem?_of_mem hx
                      have := h.hp.closed n cs hbn m (mem_namess hj hm)
                      rw [unbound_mem h4 m hk] at this
                      cases this
                    have : (cs.map (kl [])).map (fz (keys e0.nw) (blk (stepS (Ab.freeze σ []) [] e0.nw []))) = cs := by
                      rw [List.map_map]
                      exact (List.map_congr_left (g := id) hid).trans (by simp)
                    simp only [Option.map_some, mapBlk, this]
          have k5 := k4.congr heq
          refine fin ρ1 w' _ v k5 (.opt true _ v (fun _ => ?_) (fun hh => by cases hh)) fun n hn => ?_
          · have hold : ∀ m y, blk σ m = some y → m ∉ keys e0.nw ∧ ∃ y', blk (stepS (Ab.freeze σ []) [] e0.nw []) m = some y' := by
              intro m y hm
              have hmk : m ∉ keys e0.nw := fun hk => by rw [unbound_mem h4 m hk] at hm; cases hm
              refine ⟨hmk, ?_⟩
              rw [blk_step, get_none.2 hmk]
              simp only [get, List.not_mem_nil, if_false]
              show ∃ y', (blk σ m).map _ = some y'
              rw [hm]
              exact ⟨_, rfl⟩
            refine Rel.fz (D := D) (fun n x hn hx => ?_) (fun b hb => ?_) (fun n x b hn hx hb => ?_) k2
            · exact k1.hp.blk n x (by rw [hbl n hn]; exact hx)
            · obtain ⟨q1, q2, q3⟩ := hb
              refine ⟨q1, q2, fun m y hm => ?_⟩
              obtain ⟨_, y', hy'⟩ := hold m y hm
              exact q3 m y' hy'
            · have hx' : blk (stepS (Ab.freeze σ []) [] e0.nw []) n = some x := by rw [hbl n hn]; exact hx
              refine ⟨k1.named_lt hx' hb, (k1.own n x b hx' hb).elim (fun q => .inr (.inl q)) (fun q => .inr (.inr q)), fun m y hm hmb => ?_⟩
              obtain ⟨hmk, y', hy'⟩ := hold m y hm
              exact hmk (k1.hp.inj n m b x y' hx' hy' hb hmb ▸ hn)
          · rw [names] at hn
            exact h6 n hn
end
end Go.Proofs.Ytcgdjdlcecnanaa.Ab
