/-
  Every operation of a region, guarded or not, does what the evaluator says.
  No condition.
-/
import Derived.Test.YtcgdjdlcecnanaaAbM
namespace Go.Proofs.Ytcgdjdlcecnanaa.Ab
open Go
set_option linter.unusedVariables false
set_option linter.unusedSimpArgs false

section
variable {P : Program} {D : Nat → TI} {G : Ctr} {S N0 : Nat → Prop} {B : Nat} {w0 : W0} {ρ : Env} {σ : AS} {a : Act} {w : World}

theorem Rels.append {im : Nat → Prop} {xs ys : List AV} {us vs : List Value} (h : Rels w im ρ xs us) (k : Rels w im ρ ys vs) : Rels w im ρ (xs ++ ys) (us ++ vs) := by
  refine ⟨by rw [List.length_append, List.length_append, h.1, k.1], fun i x v hx hv => ?_⟩
  by_cases hlt : i < xs.length
  · rw [List.getElem?_append_left hlt] at hx
    rw [List.getElem?_append_left (by rw [h.1]; exact hlt)] at hv
    exact h.2 i x v hx hv
  · rw [List.getElem?_append_right (by omega)] at hx
    rw [List.getElem?_append_right (by rw [h.1]; omega), h.1] at hv
    exact k.2 _ x v hx hv

/-- arguments, as the callee reads them -/
theorem St0.args (h : St0 D S N0 B w0 ρ σ a w) {ns : List Nat} {bl : Nat → Option Blk} (hbl : ∀ n x, bl n = some x → blk σ n = some x) {xs : List AV} {vs : List Value} (hr : Rels w (Im S N0 B w ρ σ) ρ xs vs) :
    Rels w (Im S N0 B w ρ (Ab.freeze σ ns)) ρ (fzs ns bl xs) vs := by
  have him : ∀ b, Im S N0 B w ρ σ b → Im S N0 B w ρ (Ab.freeze σ ns) b := by
    rintro b ⟨h1, h2, h3⟩
    refine ⟨h1, h2, fun n x hx => ?_⟩
    rw [blk_freeze] at hx
    split at hx
    · cases hx
    · obtain ⟨y, hy, _⟩ := mapBlk_some hx
      exact h3 n y hy
  refine ⟨by rw [fzs_eq]; simpa using hr.1, fun i x v hx hv => ?_⟩
  rw [fzs_eq, List.getElem?_map] at hx
  obtain ⟨y, hy, rfl⟩ := Option.map_eq_some_iff.1 hx
  refine Rel.fz (D := D) (fun n x hn hx => h.hp.blk n x (hbl n x hx)) him (fun n x b hn hx hb => ?_) (hr.2 i y v hy hv)
  have hx' := hbl n x hx
  refine ⟨h.named_lt hx' hb, .inr (h.own n x b hx' hb), fun m y hy hm => ?_⟩
  rw [blk_freeze] at hy
  split at hy
  · cases hy
  · rename_i hmn
    obtain ⟨y', hy', _⟩ := mapBlk_some hy
    exact hmn (h.hp.inj n m b x y' hx' hy' hb hm ▸ hn)

theorem call_sound (hG : GOk P D G) (h : St0 D S N0 B w0 ρ σ a w) {o : Oper} {e : Eff} {K : Act → World → Prop} {Q : Exit → Act → World → Prop} (hc : isCall o.op = true)
    (hug : (o.op.operands.toList.map (ev σ)).all ug = true) {dn : Nat} (he : eff D G (snap σ (namess (o.op.operands.toList.map (ev σ)))) dn o.op ((o.op.operands.toList.map (ev σ)).map uv) = some e)
    (hf : unbound σ (keys e.nw) = true) (hK : ∀ v w', Mak D S N0 B w0 σ a e v w' → K (a.put o.dst v) w') : o.wp P a w K Q := by
  obtain ⟨dst, op, ty, pos, af, gd⟩ := o
  cases op <;> simp only [isCall] at hc <;> try (cases hc; done)
  rename_i c
  obtain ⟨callee, args, types⟩ := c
  cases callee <;> simp only at hc <;> try (cases hc; done)
  rename_i f
  simp only at *
  obtain ⟨hR, hN⟩ := ops_uv h hug
  have hops : (Op.call ⟨.value f, args, types⟩).operands.toList = f :: args.toList := by simp [Op.operands, Call.operands]
  rw [hops] at he hR hN
  generalize hns : namess ((f :: args.toList).map (ev σ)) = ns at he
  have hbl : ∀ n x, snap σ ns n = some x → blk σ n = some x := fun n x hx => names_bl_snap hx
  simp only [List.map_cons] at he hR hN
  simp only [eff] at he
  generalize hX : uv (ev σ f) = X at *
  generalize hA : (args.toList.map (ev σ)).map uv = As at *
  have hRf := hR.2 0 _ _ rfl rfl
  have hRa : Rels w (Im S N0 B w ρ σ) ρ As (args.toList.map a.eval) := ⟨by have := hR.1; simpa using this, fun i x v hx hv => hR.2 (i + 1) x v (by simpa using hx) (by simpa using hv)⟩
  cases X <;> simp only [effCall] at he <;> try (cases he; done)
  rename_i g caps
  split at he
  case isFalse => cases he
  generalize hv : a.eval f = V at hRf
  cases hRf with
  | func g cs vs hl hval =>
  have hRc : Rels w (Im S N0 B w ρ σ) ρ (As ++ caps) (args.toList.map a.eval ++ vs.toList) := hRa.append ⟨by simpa using hl, fun i x v hx hv => hval i x v hx (by simpa using hv)⟩
  cases hg : G g (fzs (osIn (As ++ caps)) (snap σ ns) (As ++ caps)) with
  | none => rw [hg] at he; cases he
  | some r =>
    rw [hg] at he
    obtain ⟨⟨fn, hfn, hname, hbody⟩, hcon⟩ := hG g _ r hg
    have hcall := hcon w (Im S N0 B w ρ (freeze σ (osIn (As ++ caps)))) ρ (args.map a.eval ++ vs) (fun b hb => hb.1) (by
      have := h.args (ns := osIn (As ++ caps)) hbl hRc
      simpa using this)
    unfold Oper.wp
    have hex : (execOp a.eval ⟨dst, .call ⟨.value f, args, types⟩, ty, pos, af, gd⟩).run P w = .ok (.enter g (args.map a.eval ++ vs)) w := by
      have hn' : ¬ fn.name = "runtime.NumGoroutine" := by simpa using hname
      have hb' : ¬ fn.body = none := by rintro e; rw [e] at hbody; cases hbody
      simp [execOp, resolve, hv, Deferred.ofValue, invoke, callFunc, program, Sem.run, hfn, hn', hb']
    rw [hex, Oper.upon_enter]
    refine hcall.mono fun en w' hpost => ?_
    obtain ⟨v, rfl, hpost⟩ := hpost
    exact hK v w' (call_step h he hf hpost)

theorem base_sound (hT : TOk P D) (hG : GOk P D G) (h : St0 D S N0 B w0 ρ σ a w) {o : Oper} {e : Eff} {K : Act → World → Prop} {Q : Exit → Act → World → Prop}
    {dn : Nat} (he : baseE D G σ dn o.op (o.op.operands.toList.map (ev σ)) = some e) (hf : unbound σ (keys e.nw) = true) (hp : e.pre) (hK : ∀ v w', Mak D S N0 B w0 σ a e v w' → K (a.put o.dst v) w') : o.wp P a w K Q := by
  unfold baseE at he
  split at he
  · -- pick
    rename_i hpk
    obtain ⟨dst, op, ty, pos, af, gd⟩ := o
    cases op <;> simp only [isPick] at hpk <;> try (cases hpk; done)
    rename_i c x y
    simp only [Op.operands, List.map_cons, List.map_nil, pick3, pickE] at he
    have hc := h.ev c
    have hx := h.ev x
    have hy := h.ev y
    split at he
    case h_2 => cases he
    rename_i g p q hgc hgx hgy
    cases he
    simp only at hp
    obtain ⟨p1, p2, p3⟩ := hp
    have hcv : a.eval c = .bool g := by have := hc.1.uv p1; rw [hgc] at this; exact this.bool_
    have hval : (if g then a.eval x else a.eval y) = .bool (if g then p else q) := by
      cases g with
      | true => have := hx.1.uv (p2 rfl); rw [hgx] at this; simpa using this.bool_
      | false => have := hy.1.uv (p3 rfl); rw [hgy] at this; simpa using this.bool_
    obtain ⟨v, h1, h2⟩ := Yld.mak h (P := P) (s := pure (.bool (if g then p else q))) (e := { v := .bool (if g then p else q) }) (Yld.only ⟨rfl, rfl, rfl, rfl⟩ (v := .bool (if g then p else q)) rfl (.bool _) (by simp [names]))
    have hex : execOp a.eval ⟨dst, .pick c x y, ty, pos, af, gd⟩ = (do pure (.value (← (pure (.bool (if g then p else q)) : Sem Value)))) := by
      simp only [execOp, hcv, ← hval]; rfl
    exact wp_of_value hex h1 (hK _ _ h2)
  · cases heff : eff D G (snap σ (namess (o.op.operands.toList.map (ev σ)))) dn o.op ((o.op.operands.toList.map (ev σ)).map uv) with
    | none => rw [heff] at he; cases he
    | some e' =>
      rw [heff] at he
      simp only [asked] at he
      cases he
      simp only at hp hf
      obtain ⟨hug, hp⟩ := hp
      cases hc : isCall o.op with
      | true => exact call_sound hG h hc hug heff hf hK
      | false => exact eff_sound hT h hc hug heff hf hp hK
end
end Go.Proofs.Ytcgdjdlcecnanaa.Ab
