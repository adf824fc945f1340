/-
  From a body's walk in the evaluator to its contract; from a contract to a call.
  No condition.
-/
import Derived.Test.YtcgdjdlcecnanaaAbT
import Derived.Tactics
namespace Go.Proofs.Ytcgdjdlcecnanaa.Ab
open Go
set_option linter.unusedVariables false
set_option linter.unusedSimpArgs false

def num : Nat → List AV → List (Nat × AV)
  | _, [] => []
  | k, x :: r => (k, x) :: num (k + 1) r
def argS (n : Nat) (args : List AV) : AS := { nt := n, tm := num 0 args, bl := [] }
def ownS : Nat → List (Nat × Nat × List (List AV)) → List (Nat × Option Blk)
  | _, [] => []
  | k, (e, sz, rs) :: r => (k, some (.rows e sz rs)) :: ownS (k + 1) r
/-- a state that bears an answer -/
def resT : List Nat → AV → List (Nat × AV)
  | [t], v => [(t, v)]
  | t :: ts, .tup (v :: vs) => (t, v) :: resT' ts vs
  | _, _ => []
where resT' : List Nat → List AV → List (Nat × AV)
  | t :: ts, v :: vs => (t, v) :: resT' ts vs
  | _, _ => []
def resS (n : Nat) (ts : List Nat) (r : Res) : AS := { nt := n, tm := resT ts r.v, bl := ownS 0 r.own }
/-- the answer's form fits -/
def resFit : List Nat → AV → Bool
  | [t], _ => decide (t < 65536)
  | [], .tup [] => true
  | t :: ts, .tup vs => decide (vs.length = (t :: ts).length) && (t :: ts).all (fun t => decide (t < 65536))
  | _, _ => false

theorem get_num {t : Nat} {x : AV} : ∀ {l : List AV} {k : Nat}, get t (num k l) = some x → k ≤ t ∧ l[t - k]? = some x
  | [], k, h => by simp [num, get] at h
  | y :: r, k, h => by
    simp only [num, get] at h
    split at h
    · rename_i e; subst e; cases h; simp
    · obtain ⟨h1, h2⟩ := get_num h
      refine ⟨by omega, ?_⟩
      rw [show t - k = (t - (k + 1)) + 1 by omega]
      simpa using h2
theorem get_ownS {n : Nat} {b : Option Blk} : ∀ {l : List (Nat × Nat × List (List AV))} {k : Nat}, get n (ownS k l) = some b ↔ ∃ e sz rs, k ≤ n ∧ l[n - k]? = some (e, sz, rs) ∧ b = some (.rows e sz rs)
  | [], k => by simp [ownS, get]
  | (e, sz, rs) :: r, k => by
    simp only [ownS, get]
    split
    · rename_i h
      subst h
      simp only [Nat.sub_self, List.getElem?_cons_zero, Nat.le_refl, true_and, Option.some.injEq, Prod.mk.injEq]
      constructor
      · rintro rfl; exact ⟨e, sz, rs, ⟨rfl, rfl, rfl⟩, rfl⟩
      · rintro ⟨_, _, _, ⟨rfl, rfl, rfl⟩, rfl⟩; rfl
    · rename_i h
      rw [get_ownS (l := r)]
      constructor
      · rintro ⟨e', sz', rs', h1, h2, h3⟩
        refine ⟨e', sz', rs', by omega, ?_, h3⟩
        rw [show n - k = (n - (k + 1)) + 1 by omega]
        simpa using h2
      · rintro ⟨e', sz', rs', h1, h2, h3⟩
        refine ⟨e', sz', rs', by omega, ?_, h3⟩
        rw [show n - k = (n - (k + 1)) + 1 by omega] at h2
        simpa using h2

def resV (ts : List Nat) (tmps : Array Value) : Value := match ts with
  | [t] => tmps.getD t undef
  | ts => .tuple (ts.map fun t => tmps.getD t undef).toArray
/-- a result's place: a temporary, or a variable of a type whose address a temporary holds -/
def toRV : Nat × Option Nat → ResultVar
  | (t, none) => .tmp t
  | (t, some T) => .cell t T
/-- results that lie in variables, read -/
def unbox (D : Nat → TI) : List (Nat × Option Nat) → AS → Option AS
  | [], σ => some σ
  | (_, none) :: r, σ => unbox D r σ
  | (t, some T) :: r, σ => match tmv σ t with
    | .ptr n o => match blk σ n with
      | some (.cells cs) => match valOf (D T) (cs.drop o) with
        | some v => unbox D r { σ with tm := (t, v) :: σ.tm }
        | none => none
      | _ => none
    | _ => none
def resG (tmps : Array Value) : ResultVar → Sem Value
  | .tmp t => pure (tmps.getD t undef)
  | .cell a t => do loadVar t (← asAddr (tmps.getD a undef))
theorem resG_congr {tm tm' : Array Value} : ∀ (l : List (Nat × Option Nat)), (∀ p ∈ l, tm'.getD p.1 undef = tm.getD p.1 undef) → (l.map toRV).mapM (resG tm') = (l.map toRV).mapM (resG tm)
  | [], _ => rfl
  | (t, T) :: r, h => by
    have h1 := h (t, T) (List.mem_cons_self ..)
    have h2 : resG tm' (toRV (t, T)) = resG tm (toRV (t, T)) := by
      cases T with
      | none => simp only [toRV, resG, h1]
      | some T => simp only [toRV, resG, h1]
    rw [List.map_cons, List.mapM_cons, List.mapM_cons, h2, resG_congr r fun p hp => h p (List.mem_cons_of_mem _ hp)]
theorem unbox_ok {P : Program} {D : Nat → TI} (hT : TOk P D) {S N0 : Nat → Prop} {B : Nat} {w0 : W0} {w : World} {ρ : Env} : ∀ (rs : List (Nat × Option Nat)) (σ σ' : AS) (a : Act), (rs.map (·.1)).Nodup → St0 D S N0 B w0 ρ σ a w → unbox D rs σ = some σ' →
    ∃ a', St0 D S N0 B w0 ρ σ' a' w ∧ (∀ t, t ∉ rs.map (·.1) → a'.tmps.getD t undef = a.tmps.getD t undef) ∧ ((rs.map toRV).mapM (resG a.tmps)).run P w = .ok ((rs.map (·.1)).map fun t => a'.tmps.getD t undef) w
  | [], σ, σ', a, _, h, hu => by
    rw [unbox] at hu
    cases hu
    exact ⟨a, h, fun _ _ => rfl, rfl⟩
  | (t, none) :: r, σ, σ', a, hd, h, hu => by
    rw [unbox] at hu
    rw [List.map_cons, List.nodup_cons] at hd
    obtain ⟨a', h1, h2, h3⟩ := unbox_ok hT r σ σ' a hd.2 h hu
    refine ⟨a', h1, fun u hu => h2 u fun hm => hu (by rw [List.map_cons]; exact List.mem_cons_of_mem _ hm), ?_⟩
    rw [List.map_cons, List.mapM_cons]
    have e1 : resG a.tmps (toRV (t, none)) = pure (a'.tmps.getD t undef) := by rw [h2 t hd.1]; rfl
    rw [e1]
    simp only [pure_bind, Sem.run_bind, h3]
    rfl
  | (t, some T) :: r, σ, σ', a, hd, h, hu => by
    rw [unbox] at hu
    rw [List.map_cons, List.nodup_cons] at hd
    split at hu
    case h_2 => cases hu
    rename_i n o hg
    split at hu
    case h_2 => cases hu
    rename_i cs hb
    split at hu
    case h_2 => cases hu
    rename_i y hy
    have h6 : t < 65536 := by
      rcases Nat.lt_or_ge t 65536 with h' | h'
      · exact h'
      · rw [tmv, if_neg (by omega)] at hg; cases hg
    rw [tmv, if_pos h6] at hg
    have hg : get t σ.tm = some (.ptr n o) := by
      cases hq : get t σ.tm with
      | none => rw [hq] at hg; cases hg
      | some x => rw [hq] at hg; simp at hg; rw [hg]
    obtain ⟨hrel, hnm⟩ := h.tm t _ hg
    rw [vl, if_pos h6] at hrel
    generalize hv : a.tmps.getD t undef = v at hrel
    have he : effLoad D (blk σ) T (.ptr n o) = some { v := y } := by simp only [effLoad, hb, hy, Option.map_some]
    obtain ⟨_, _, _, u, hrun, hru, hnu⟩ := load_sound (P := P) hT h (fun _ _ h => h) hrel he
    have hlt : t < σ.nt := by
      rw [← h.nt.1]
      rcases Nat.lt_or_ge t a.tmps.size with h' | h'
      · exact h'
      · exfalso
        rw [Array.getD_eq_getD_getElem?, Array.getElem?_eq_none h'] at hv
        subst hv
        cases hrel
    have hs1 := h.put (d := t) (x := y) (v := u) hlt hru hnu
    obtain ⟨a', h1, h2, h3⟩ := unbox_ok hT r _ σ' (a.put (some t) u) hd.2 hs1 hu
    have hne : ∀ s, s ≠ t → (a.put (some t) u).tmps.getD s undef = a.tmps.getD s undef := fun s hs => by
      rw [Array.getD_eq_getD_getElem?, Array.getD_eq_getD_getElem?]
      simp [Act.put, Array.getElem?_setIfInBounds_ne (fun e => hs e.symm)]
    refine ⟨a', h1, fun s hs => ?_, ?_⟩
    · rw [List.map_cons, List.mem_cons] at hs
      rw [h2 s fun hm => hs (.inr hm)]
      exact hne s fun e => hs (.inl e)
    · rw [List.map_cons, List.mapM_cons]
      have e1 : (resG a.tmps (toRV (t, some T))).run P w = .ok (a'.tmps.getD t undef) w := by
        have : a'.tmps.getD t undef = u := by
          rw [h2 t hd.1, Array.getD_eq_getD_getElem?]
          simp [Act.put, Array.getElem?_setIfInBounds_self, h.nt.1, hlt]
        rw [this]
        simp only [toRV, resG, hv]
        cases hrel with
        | ptr n o b hb' => simpa [Instr.loadAt, Instr.sureAddr, asAddr] using hrun
      have e2 : ((r.map toRV).mapM (resG a.tmps)).run P w = .ok ((r.map (·.1)).map fun t => a'.tmps.getD t undef) w := by
        rw [resG_congr r (tm := (a.put (some t) u).tmps) (tm' := a.tmps)]
        · exact h3
        · intro p hp
          exact (hne p.1 fun e => hd.1 (by show t ∈ _; rw [← e]; exact List.mem_map_of_mem hp)).symm
      simp only [Sem.run_bind, e1, Result.andThen, e2]
      rfl
theorem results_rs {P : Program} {fn : Func} {rs : List (Nat × Option Nat)} (h : fn.results = (rs.map toRV).toArray) {tm tm' : Array Value} {w : World} (hr : ((rs.map toRV).mapM (resG tm)).run P w = .ok ((rs.map (·.1)).map fun t => tm'.getD t undef) w) : (results fn tm).run P w = .ok (resV (rs.map (·.1)) tm') w := by
  have e : results fn tm = (do let vs ← fn.results.mapM (resG tm); pure (if h : vs.size = 1 then vs[0] else .tuple vs)) := rfl
  rw [e, h, List.mapM_toArray]
  simp only [Sem.run_bind, Sem.run_map, hr]
  match rs with
  | [] => rfl
  | [_] => rfl
  | t :: u :: r => simp [resV, Sem.run, pure]

theorem resT'_get {t : Nat} : ∀ {ts : List Nat} {vs : List AV} {i : Nat}, ts.Nodup → ts[i]? = some t → vs.length = ts.length → get t (resT.resT' ts vs) = vs[i]?
  | [], _, i, _, h, _ => by simp at h
  | u :: ts, [], i, _, _, h => by simp at h
  | u :: ts, v :: vs, i, hd, h, hl => by
    simp only [resT.resT', get]
    cases i with
    | zero => simp at h; subst h; simp
    | succ i =>
      simp at h hl
      rw [List.nodup_cons] at hd
      rw [if_neg fun e => hd.1 (by rw [e]; exact List.mem_of_getElem? h)]
      simpa using resT'_get hd.2 h hl

theorem mEff_noM (σ : AS) (o : Oper) : mEff noM σ o = none := by
  unfold mEff
  split
  · split
    · unfold callM noM
      split <;> rfl
    · rfl
  · rfl
/-- a table of effects is right -/
def MOk (P : Program) (D : Nat → TI) (G : Ctr) (M : MCtr) : Prop := ∀ X : Cx, X.P = P → X.D = D → X.G = G → X.M = M → P.follows .mixedOrders = true → TOk P D → GOk P D G →
  ∀ (ops : Array Oper) (o : Oper) (σ : AS) (e : Eff), o.guard = none → mEff M σ o = some e → e.pre → fresh σ o.dst e = true → InlOp X ops o σ (fun σ' => Eqv (apply σ o.dst e) σ')
theorem MOk.none {P : Program} {D : Nat → TI} {G : Ctr} : MOk P D G noM := fun X _ _ _ _ _ _ _ ops o σ e _ h => by rw [mEff_noM] at h; cases h
theorem MOk.ok {X : Cx} {P : Program} {D : Nat → TI} {G : Ctr} {M : MCtr} (h : MOk P D G M) (h1 : X.P = P) (h2 : X.D = D) (h3 : X.G = G) (h4 : X.M = M) (hm : P.follows .mixedOrders = true) (hT : TOk P D) (hG : GOk P D G) : X.Ok := by
  subst h1 h2 h3 h4
  exact ⟨hm, hT, hG, h X rfl rfl rfl rfl hm hT hG⟩
/-- A BODY's CONTRACT -/
theorem con_ofM {P : Program} {D : Nat → TI} {G : Ctr} {M : MCtr} (hM : MOk P D G M) (hm : P.follows .mixedOrders = true) (hT : TOk P D) (hG : GOk P D G) {f : Nat} {fn : Func} {c : Code} {rs : List (Nat × Option Nat)} {args : List AV} {r : Res}
    (hf : P.funcs[f]? = some fn) (hb : fn.body = some c) (hname : (fn.name == "runtime.NumGoroutine") = false) (hres : fn.results = (rs.map toRV).toArray) (hd : (rs.map (·.1)).Nodup) (hfit : resFit (rs.map (·.1)) r.v = true)
    {n : Nat} (hn : fn.ntmps = n) (hlen : args.length ≤ n ∧ n ≤ 65536) (hnm : namess args = [])
    (h : ∀ X : Cx, X.P = P → X.D = D ∧ X.nb = 0 ∧ X.M = M → X.G = G → X.Ok → Tr X c (fun e σ' => (e = .normal ∨ e = .ret) ∧ ∃ σ1, unbox D rs σ' = some σ1 ∧ ∃ ns rl, Cover D (Ab.freeze σ1 ns) (resS n (rs.map (·.1)) r) rl) (argS n args)) : Con P D f args r := by
  refine ⟨⟨fn, hf, hname, by rw [hb]; rfl⟩, fun w im ρ vs him hvs => ?_⟩
  subst hn
  have hsz : vs.size = args.length := by have := hvs.1; simp at this; omega
  let X : Cx := ⟨P, D, G, im, fun _ => False, w.heap.size, w, 0, M⟩
  have hst : X.St (fun _ => undef) (argS fn.ntmps args) { tmps := vs ++ Array.replicate (fn.ntmps - vs.size) undef, defers := [] } w := by
    have hbl : blk (argS fn.ntmps args) = fun _ => none := rfl
    have hi : ∀ b, im b → imOf im (fun _ => False) w.heap.size w ρ (blk (argS fn.ntmps args)) b := fun b hb => ⟨him b hb, .inl hb, fun n x hx => by cases hx⟩
    refine ⟨ρ, fun t x hx => ?_, ⟨fun n x hx => (by rw [hbl] at hx; cases hx), fun n m b x y hx => (by rw [hbl] at hx; cases hx), fun n x b hx => (by rw [hbl] at hx; cases hx), fun b hb => hb.1, fun n cs hx => (by rw [hbl] at hx; cases hx)⟩, ⟨by simp [argS]; omega, hlen.2⟩, Nat.le_refl _, ⟨rfl, rfl, rfl, Nat.le_refl _, fun _ _ _ => rfl⟩, fun n x b hx => (by rw [hbl] at hx; cases hx), rfl⟩
    obtain ⟨_, hx'⟩ := get_num hx
    simp only [Nat.sub_zero] at hx'
    have hlt : t < args.length := (List.getElem?_eq_some_iff.1 hx').1
    have hnx : names x = [] := by
      rw [List.eq_nil_iff_forall_not_mem]
      intro k hk
      have := mem_namess hx' hk
      rw [hnm] at this
      cases this
    refine ⟨?_, fun k hk => by rw [hnx] at hk; cases hk⟩
    have hv : (vs ++ Array.replicate (fn.ntmps - vs.size) undef).getD t undef = vs[t]'(by omega) := by
      rw [Array.getD_eq_getD_getElem?, Array.getElem?_append_left (by omega)]
      simp [show t < vs.size by omega]
    rw [vl, if_pos (by omega)]
    simp only
    rw [hv]
    have := hvs.2 t x (vs[t]'(by omega)) hx' (by simp [show t < vs.size by omega])
    exact this.mono hi (fun _ _ => rfl) (fun _ _ => rfl)
  refine calls_of_wp hf hb (wp_mono (h X rfl ⟨rfl, rfl, rfl⟩ rfl (hM.ok rfl rfl rfl rfl hm hT hG) _ _ w hst) fun e a0 w' ⟨σ', ⟨he, σ1, hub, ns, rl, hcov⟩, hs⟩ => ?_)
  obtain ⟨ρ1, hs⟩ := hs
  have hdf := hs.defers
  obtain ⟨a, hs, _, hrun⟩ := unbox_ok hT rs σ' σ1 a0 hd hs hub
  have hrun := results_rs hres hrun
  generalize hts : rs.map (·.1) = ts at *
  obtain ⟨ρ2, hs⟩ := (hs.freeze ns).cover hcov
  have hblo : ∀ k e sz rs, r.own[k]? = some (e, sz, rs) → blk (resS fn.ntmps ts r) k = some (.rows e sz rs) := fun k e sz rs hk => blk_iff.2 (get_ownS.2 ⟨e, sz, rs, Nat.zero_le _, by simpa using hk, rfl⟩)
  have hbli : ∀ k x, blk (resS fn.ntmps ts r) k = some x → ∃ e sz rs, r.own[k]? = some (e, sz, rs) ∧ x = .rows e sz rs := fun k x hk => by
    obtain ⟨e, sz, rs, _, h1, h2⟩ := get_ownS.1 (blk_iff.1 hk)
    simp only [Nat.sub_zero] at h1
    cases h2
    exact ⟨e, sz, rs, h1, rfl⟩
  have himR : ∀ b, imOf im (fun _ => False) w.heap.size w' ρ2 (blk (resS fn.ntmps ts r)) b → imR w w' im ρ2 r.own.length b := by
    rintro b ⟨h1, h2, h3⟩
    refine ⟨h1, ?_, fun m hm => ?_⟩
    · rcases h2 with h2 | h2 | h2
      · exact .inl h2
      · exact .inr h2
      · exact h2.elim
    · have hlt : r.own[m]? = some (r.own[m]) := by simp [hm]
      exact h3 m _ (hblo m _ _ _ (by rw [hlt]))
  have hbound : ∀ n, (blk (resS fn.ntmps ts r) n).isSome = true → n < r.own.length := fun n hn => by
    obtain ⟨x, hx⟩ := Option.isSome_iff_exists.1 hn
    obtain ⟨e, sz, rs, h1, _⟩ := hbli n x hx
    exact (List.getElem?_eq_some_iff.1 h1).1
  have hval : Rel w' (imR w w' im ρ2 r.own.length) ρ2 r.v (resV ts a.tmps) ∧ ∀ n ∈ names r.v, n < r.own.length := by
    have one : ∀ t x, t < 65536 → get t (resT ts r.v) = some x → Rel w' (imR w w' im ρ2 r.own.length) ρ2 x (a.tmps.getD t undef) ∧ ∀ n ∈ names x, n < r.own.length := fun t x h6 hx => by
      have h7 := (hs.tm t x hx).1
      rw [vl, if_pos h6] at h7
      exact ⟨h7.mono himR (fun _ _ => rfl) (fun _ _ => rfl), fun n hn => hbound n ((hs.tm t x hx).2 n hn)⟩
    match ts, hd, hfit, one with
    | [t], _, hfit, one => exact one t r.v (by simpa [resFit] using hfit) (by simp [resT, get])
    | [], _, hfit, _ =>
      unfold resFit at hfit
      split at hfit
      · rename_i h1; exact absurd h1 (by simp)
      · rename_i hr; rw [hr]; exact ⟨.tup [] #[] rfl (by simp), by simp [names, namess]⟩
      · rename_i h1 _; exact absurd h1 (by simp)
      · cases hfit
    | t :: u :: ts, hd, hfit, one =>
      cases hrv : r.v <;> rw [hrv] at hfit <;> simp only [resFit] at hfit <;> try (cases hfit; done)
      rename_i vs'
      rw [Bool.and_eq_true] at hfit
      have hl : vs'.length = (t :: u :: ts).length := by simpa using hfit.1
      have h6 : ∀ (i : Nat) s, (t :: u :: ts)[i]? = some s → s < 65536 := fun i s hi => by simpa using List.all_eq_true.1 hfit.2 s (List.mem_of_getElem? hi)
      rw [hrv] at one
      have hget : ∀ (i : Nat) s, (t :: u :: ts)[i]? = some s → get s (resT (t :: u :: ts) (.tup vs')) = vs'[i]? := fun i s hi => by
        have := resT'_get hd hi hl
        cases vs' with
        | nil => simp at hl
        | cons v vs' => exact this
      refine ⟨.tup vs' _ (by simp [hl]) fun i x v hx hv => ?_, fun n hn => ?_⟩
      · have hi : i < (t :: u :: ts).length := by rw [← hl]; exact (List.getElem?_eq_some_iff.1 hx).1
        have hs1 : (t :: u :: ts)[i]? = some ((t :: u :: ts)[i]) := by simp [hi]
        have := (one _ x (h6 i _ hs1) (by rw [hget i _ hs1]; exact hx)).1
        have hv' : v = a.tmps.getD ((t :: u :: ts)[i]) undef := by
          rw [List.getElem?_toArray, List.getElem?_map, hs1] at hv
          simpa using hv.symm
        rw [hv']
        exact this
      · rw [names] at hn
        obtain ⟨i, x, hx, hn⟩ := namess_mem hn
        have hi : i < (t :: u :: ts).length := by rw [← hl]; exact (List.getElem?_eq_some_iff.1 hx).1
        have hs1 : (t :: u :: ts)[i]? = some ((t :: u :: ts)[i]) := by simp [hi]
        exact (one _ x (h6 i _ hs1) (by rw [hget i _ hs1]; exact hx)).2 n hn
  have hpost : ConPost D w im r (resV ts a.tmps) w' := by
    refine ⟨hs.frm, ρ2, fun k e sz rs hk => ⟨?_, fun b hb => ?_⟩, fun k l b hk hl hb hb' => ?_, hval.1, hval.2⟩
    · have := hs.hp.blk k _ (hblo k e sz rs hk)
      obtain ⟨q1, q2, q3, A, c, q4, q5, q6, q7⟩ := this
      refine ⟨q1, q2, q3, A, c, q4, q5, q6, q7.imp id ?_⟩
      rintro ⟨b, arr, r1, r2, r3, r4, r5⟩
      refine ⟨b, arr, r1, r2, r3, r4, fun i row hi => ⟨(r5 i row hi).1, fun j x hj => ?_⟩⟩
      obtain ⟨s1, v, s2, s3, s4⟩ := (r5 i row hi).2 j x hj
      exact ⟨s1, v, s2, s3, s4.mono himR (fun _ _ => rfl) (fun n hn => rfl)⟩
    · exact (hs.own k _ b (hblo k e sz rs hk) hb).resolve_right (fun h => h.elim)
    · have h1 : r.own[k]? = some (r.own[k]) := by simp [hk]
      have h2 : r.own[l]? = some (r.own[l]) := by simp [hl]
      exact hs.hp.inj k l b _ _ (hblo k _ _ _ (by rw [h1])) (hblo l _ _ _ (by rw [h2])) hb hb'
  rcases he with rfl | rfl
  · exact ⟨hdf, _, hrun, _, rfl, hpost⟩
  · exact ⟨hdf, _, hrun, _, rfl, hpost⟩

theorem con_of {P : Program} {D : Nat → TI} {G : Ctr} (hm : P.follows .mixedOrders = true) (hT : TOk P D) (hG : GOk P D G) {f : Nat} {fn : Func} {c : Code} {rs : List (Nat × Option Nat)} {args : List AV} {r : Res}
    (hf : P.funcs[f]? = some fn) (hb : fn.body = some c) (hname : (fn.name == "runtime.NumGoroutine") = false) (hres : fn.results = (rs.map toRV).toArray) (hd : (rs.map (·.1)).Nodup) (hfit : resFit (rs.map (·.1)) r.v = true)
    {n : Nat} (hn : fn.ntmps = n) (hlen : args.length ≤ n ∧ n ≤ 65536) (hnm : namess args = [])
    (h : ∀ X : Cx, X.P = P → X.D = D ∧ X.nb = 0 ∧ X.M = noM → X.G = G → X.Ok → Tr X c (fun e σ' => (e = .normal ∨ e = .ret) ∧ ∃ σ1, unbox D rs σ' = some σ1 ∧ ∃ ns rl, Cover D (Ab.freeze σ1 ns) (resS n (rs.map (·.1)) r) rl) (argS n args)) : Con P D f args r :=
  con_ofM MOk.none hm hT hG hf hb hname hres hd hfit hn hlen hnm h
theorem InlOp.wk {X : Cx} {ops : Array Oper} {o : Oper} {σ : AS} {R : AS → Prop} (h : InlOp X ops o σ (fun σ' => ∃ σ2, Wk X σ' σ2 ∧ R σ2)) : InlOp X ops o σ R :=
  ⟨fun γ a w i Qx hi hs => wpOp_mono (fun a' w' ⟨σ', ⟨σ2, h1, h2⟩, h3⟩ => ⟨σ2, h2, h1 γ a' w' h3⟩) (h.1 γ a w i Qx hi hs)⟩

/-! into a call -/
def shT : List (Nat × AV) → List (Nat × AV)
  | [] => []
  | (t, x) :: r => (t + 65536, x) :: shT r
def unT : List (Nat × AV) → List (Nat × AV)
  | [] => []
  | (t, x) :: r => if 65536 ≤ t then (t - 65536, x) :: unT r else unT r
def enterS (σ : AS) (n : Nat) (args : List AV) : AS := { nt := n, tm := num 0 args ++ shT σ.tm, bl := σ.bl }
def resA (σ : AS) : List Nat → AV
  | [t] => tmv σ t
  | ts => .tup (ts.map (tmv σ))
def leaveS (σ σ1 : AS) (d : Option Nat) (ts : List Nat) : AS := { nt := σ.nt, tm := putT d (resA σ1 ts) (unT σ1.tm), bl := σ1.bl }
theorem get_shT {t : Nat} {x : AV} : ∀ {l : List (Nat × AV)}, get t (shT l) = some x → 65536 ≤ t ∧ get (t - 65536) l = some x
  | [], h => by simp [shT, get] at h
  | (k, y) :: r, h => by
    simp only [shT, get] at h ⊢
    split at h
    · rename_i e
      cases h
      exact ⟨by omega, by rw [if_pos (by omega)]⟩
    · rename_i e
      obtain ⟨h1, h2⟩ := get_shT h
      exact ⟨h1, by rw [if_neg (by omega)]; exact h2⟩
theorem get_unT {t : Nat} : ∀ {l : List (Nat × AV)}, get t (unT l) = get (t + 65536) l
  | [] => rfl
  | (k, y) :: r => by
    simp only [unT, get]
    split
    · simp only [get]
      by_cases h : k = t + 65536
      · rw [if_pos (by omega), if_pos h]
      · rw [if_neg (by omega), if_neg h]
        exact get_unT
    · rw [if_neg (by omega)]
      exact get_unT

section
variable {X : Cx} {γ : Nat → Value} {ops : Array Oper} {σ : AS} {R : AS → Prop}
theorem St0.enter {D : Nat → TI} {S N0 : Nat → Prop} {B : Nat} {w0 w : World} {ρ : Env} {a : Act} (h : St0 D S N0 B ⟨w0, γ⟩ ρ σ a w) {args : List AV} {vs : Array Value} {n : Nat} (hvs : Rels w (Im S N0 B w ρ σ) ρ args vs.toList) (hnm : ∀ x ∈ args, ∀ k ∈ names x, (blk σ k).isSome = true)
    (hlen : args.length ≤ n ∧ n ≤ 65536) : St0 D S N0 B ⟨w0, vl γ a⟩ ρ (enterS σ n args) { tmps := vs ++ Array.replicate (n - vs.size) undef, defers := [] } w := by
  have hsz : vs.size = args.length := by have := hvs.1; simp at this; omega
  refine ⟨fun t x hx => ?_, h.hp, ⟨by simp [enterS]; omega, hlen.2⟩, h.base, h.frm, h.own, rfl⟩
  simp only [enterS, get_append] at hx
  cases hg : get t (num 0 args) with
  | some y =>
    rw [hg] at hx
    cases hx
    obtain ⟨_, hx'⟩ := get_num hg
    simp only [Nat.sub_zero] at hx'
    have hlt : t < args.length := (List.getElem?_eq_some_iff.1 hx').1
    refine ⟨?_, hnm x (List.mem_of_getElem? hx')⟩
    have hv : (vs ++ Array.replicate (n - vs.size) undef).getD t undef = vs[t]'(by omega) := by
      rw [Array.getD_eq_getD_getElem?, Array.getElem?_append_left (by omega)]
      simp [show t < vs.size by omega]
    rw [vl, if_pos (by omega)]
    simp only
    rw [hv]
    exact hvs.2 t x (vs[t]'(by omega)) hx' (by simp [show t < vs.size by omega])
  | none =>
    rw [hg] at hx
    obtain ⟨h1, h2⟩ := get_shT hx
    have h3 := h.tm (t - 65536) x h2
    have h4 : vl (vl γ a) { tmps := vs ++ Array.replicate (n - vs.size) undef, defers := [] } t = vl γ a (t - 65536) := if_neg (by omega)
    rw [h4]
    exact h3
theorem St0.leave {D : Nat → TI} {S N0 : Nat → Prop} {B : Nat} {w0 w w1 : World} {ρ ρ1 : Env} {a a1 : Act} {σ1 : AS} (h : St0 D S N0 B ⟨w0, γ⟩ ρ σ a w) (h1 : St0 D S N0 B ⟨w0, vl γ a⟩ ρ1 σ1 a1 w1) {d : Option Nat} (hd : ∀ k, d = some k → k < σ.nt) (ts : List Nat) :
    St0 D S N0 B ⟨w0, γ⟩ ρ1 (leaveS σ σ1 d ts) (a.put d (resV ts a1.tmps)) w1 := by
  have hres : Rel w1 (imOf S N0 B w1 ρ1 (blk σ1)) ρ1 (resA σ1 ts) (resV ts a1.tmps) ∧ ∀ n ∈ names (resA σ1 ts), (blk σ1 n).isSome = true := by
    match ts with
    | [t] => exact h1.ev (.tmp t)
    | [] => exact ⟨.tup _ _ rfl (by simp), by simp [resA, names, namess]⟩
    | t :: u :: ts =>
      refine ⟨.tup _ _ (by simp) fun i x v hx hv => ?_, fun n hn => ?_⟩
      · rw [List.getElem?_map] at hx
        obtain ⟨s, hs, rfl⟩ := Option.map_eq_some_iff.1 hx
        rw [List.getElem?_toArray, List.getElem?_map, hs] at hv
        cases hv
        exact (h1.ev (.tmp s)).1
      · simp only [resA, names] at hn
        obtain ⟨i, x, hx, hn⟩ := namess_mem hn
        rw [List.getElem?_map] at hx
        obtain ⟨s, hs, rfl⟩ := Option.map_eq_some_iff.1 hx
        exact (h1.ev (.tmp s)).2 n hn
  have hold : ∀ t x, get t (unT σ1.tm) = some x → Rel w1 (imOf S N0 B w1 ρ1 (blk σ1)) ρ1 x (vl γ a t) ∧ ∀ n ∈ names x, (blk σ1 n).isSome = true := fun t x hx => by
    rw [get_unT] at hx
    have := h1.tm _ x hx
    rw [vl, if_neg (by omega), Nat.add_sub_cancel] at this
    exact this
  refine ⟨fun t x hx => ?_, h1.hp, ?_, h1.base, h1.frm, h1.own, ?_⟩
  · simp only [leaveS, get_putT] at hx
    split at hx
    · rename_i e
      cases hx
      have : vl γ (a.put d (resV ts a1.tmps)) t = resV ts a1.tmps := by
        subst e
        rw [vl, if_pos (Nat.lt_of_lt_of_le (hd t rfl) h.nt.2), Array.getD_eq_getD_getElem?]
        simp [Act.put, Array.getElem?_setIfInBounds_self, h.nt.1, hd t rfl]
      rw [this]
      exact hres
    · rename_i e
      have : vl γ (a.put d (resV ts a1.tmps)) t = vl γ a t := by
        cases d with
        | none => rfl
        | some k =>
          have hne : k ≠ t := fun e' => e (by rw [e'])
          unfold vl
          split
          · rw [Array.getD_eq_getD_getElem?, Array.getD_eq_getD_getElem?]
            simp [Act.put, Array.getElem?_setIfInBounds_ne hne]
          · rfl
      rw [this]
      exact hold t x hx
  · cases d with
    | none => exact h.nt
    | some k => exact ⟨by simp [Act.put, h.nt.1, leaveS], h.nt.2⟩
  · cases d <;> exact h.defers

/-- INTO A CALL: the callee's body, in the caller's state -/
theorem inl_call (hT : TOk X.P X.D) {dst : Option Nat} {f : Operand} {args : Array Operand} {types : Array TypeId} {ty : Nat} {pos : String} {af : Array Edge} {g : Nat} {caps : List AV} (hf : ev σ f = .func g caps)
    {fn : Func} {c : Code} {rs : List (Nat × Option Nat)} {n : Nat} (hfn : X.P.funcs[g]? = some fn) (hb : fn.body = some c) (hname : (fn.name == "runtime.NumGoroutine") = false) (hres : fn.results = (rs.map toRV).toArray) (hd : (rs.map (·.1)).Nodup) (hn : fn.ntmps = n)
    (hlen : (args.toList.map (ev σ) ++ caps).length ≤ n ∧ n ≤ 65536) (hdst : ∀ k, dst = some k → k < σ.nt) (nb : Nat) (M : MCtr)
    (h : Tr { X with nb := nb, M := M } c (fun e σ' => (e = .normal ∨ e = .ret) ∧ ∃ σ1, unbox X.D rs σ' = some σ1 ∧ R (leaveS σ σ1 dst (rs.map (·.1)))) (enterS σ n (args.toList.map (ev σ) ++ caps))) :
    InlOp X ops ⟨dst, .call ⟨.value f, args, types⟩, ty, pos, af, none⟩ σ R := by
  refine ⟨fun γ a w i Qx hi hs => ?_⟩
  obtain ⟨ρ, hs⟩ := hs
  subst hn
  have hvf := hs.ev f
  rw [hf] at hvf
  obtain ⟨hrf, hnf⟩ := hvf
  generalize hV : a.eval f = V at hrf
  cases hrf with
  | func g cs vs hl hval =>
  have hra : Rels w (Im X.S X.N0 X.B w ρ σ) ρ (args.toList.map (ev σ)) (args.toList.map a.eval) := by
    refine ⟨by simp, fun k x v hx hv => ?_⟩
    rw [List.getElem?_map] at hx hv
    obtain ⟨y, hy, rfl⟩ := Option.map_eq_some_iff.1 hx
    rw [hy] at hv
    cases hv
    exact (hs.ev y).1
  have hrall : Rels w (Im X.S X.N0 X.B w ρ σ) ρ (args.toList.map (ev σ) ++ caps) (args.map a.eval ++ vs).toList := by
    have := hra.append (ys := caps) (vs := vs.toList) ⟨by simpa using hl, fun i x v hx hv => hval i x v hx (by simpa using hv)⟩
    simpa using this
  have hnm : ∀ x ∈ args.toList.map (ev σ) ++ caps, ∀ k ∈ names x, (blk σ k).isSome = true := fun x hx k hk => by
    rcases List.mem_append.1 hx with hx | hx
    · obtain ⟨y, _, rfl⟩ := List.mem_map.1 hx
      exact (hs.ev y).2 k hk
    · obtain ⟨i, hi⟩ := List.getElem?_of_mem hx
      exact hnf k (by rw [names]; exact mem_namess hi hk)
  have hst := hs.enter hrall hnm hlen
  have hcalls : Calls X.P g (args.map a.eval ++ vs) w fun e w' => ∃ v, e = .returned v ∧ ∃ σ', R σ' ∧ X.St γ σ' (a.put dst v) w' := by
    refine calls_of_wp hfn hb (wp_mono (h (vl γ a) _ w ⟨ρ, hst⟩) fun e a0 w' ⟨σ', ⟨he, σ1, hub, hR⟩, hs1⟩ => ?_)
    obtain ⟨ρ1, hs1⟩ := hs1
    have hdf := hs1.defers
    obtain ⟨a1, hs1, _, hrun⟩ := unbox_ok hT rs σ' σ1 a0 hd hs1 hub
    have hrun := results_rs hres hrun
    have hlv := hs.leave hs1 hdst (rs.map (·.1))
    rcases he with rfl | rfl
    · exact ⟨hdf, _, hrun, _, rfl, _, hR, ρ1, hlv⟩
    · exact ⟨hdf, _, hrun, _, rfl, _, hR, ρ1, hlv⟩
  unfold wpOp
  simp only [hi]
  rw [if_pos (by simp [Region.wanted])]
  left
  unfold Oper.wp
  have hex : (execOp a.eval ⟨dst, .call ⟨.value f, args, types⟩, ty, pos, af, none⟩).run X.P w = .ok (.enter g (args.map a.eval ++ vs)) w := by
    have hn' : ¬ fn.name = "runtime.NumGoroutine" := by simpa using hname
    have hb' : ¬ fn.body = none := by rintro e; rw [e] at hb; cases hb
    simp [execOp, resolve, hV, Deferred.ofValue, invoke, callFunc, program, Sem.run, hfn, hn', hb']
  rw [hex, Oper.upon_enter]
  refine hcalls.mono fun en w' hpost => ?_
  obtain ⟨v, rfl, hpost⟩ := hpost
  exact hpost
end
end Go.Proofs.Ytcgdjdlcecnanaa.Ab
