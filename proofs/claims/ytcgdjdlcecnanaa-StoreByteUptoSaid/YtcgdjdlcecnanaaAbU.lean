/-
  From a body's walk in the evaluator to its contract; from a contract to a call.
  No condition.
-/
import Derived.Test.YtcgdjdlcecnanaaAbT
import Derived.Tactics
namespace Go.Proofs.Ytcgdjdlcecnanaa.Ab
open Go
set_option linter.unusedVariables false
set_option linter.unusedSimpArgs false

def num : Nat → List AV → List (Nat × AV)
  | _, [] => []
  | k, x :: r => (k, x) :: num (k + 1) r
def argS (n : Nat) (args : List AV) : AS := { nt := n, tm := num 0 args, bl := [] }
def ownS : Nat → List (Nat × Nat × List (List AV)) → List (Nat × Option Blk)
  | _, [] => []
  | k, (e, sz, rs) :: r => (k, some (.rows e sz rs)) :: ownS (k + 1) r
/-- a state that bears an answer -/
def resT : List Nat → AV → List (Nat × AV)
  | [t], v => [(t, v)]
  | t :: ts, .tup (v :: vs) => (t, v) :: resT' ts vs
  | _, _ => []
where resT' : List Nat → List AV → List (Nat × AV)
  | t :: ts, v :: vs => (t, v) :: resT' ts vs
  | _, _ => []
def resS (n : Nat) (ts : List Nat) (r : Res) : AS := { nt := n, tm := resT ts r.v, bl := ownS 0 r.own }
/-- the answer's form fits -/
def resFit : List Nat → AV → Bool
  | [_], _ => true
  | [], .tup [] => true
  | t :: ts, .tup vs => decide (vs.length = (t :: ts).length)
  | _, _ => false

theorem get_num {t : Nat} {x : AV} : ∀ {l : List AV} {k : Nat}, get t (num k l) = some x → k ≤ t ∧ l[t - k]? = some x
  | [], k, h => by simp [num, get] at h
  | y :: r, k, h => by
    simp only [num, get] at h
    split at h
    · rename_i e; subst e; cases h; simp
    · obtain ⟨h1, h2⟩ := get_num h
      refine ⟨by omega, ?_⟩
      rw [show t - k = (t - (k + 1)) + 1 by omega]
      simpa using h2
theorem get_ownS {n : Nat} {b : Option Blk} : ∀ {l : List (Nat × Nat × List (List AV))} {k : Nat}, get n (ownS k l) = some b ↔ ∃ e sz rs, k ≤ n ∧ l[n - k]? = some (e, sz, rs) ∧ b = some (.rows e sz rs)
  | [], k => by simp [ownS, get]
  | (e, sz, rs) :: r, k => by
    simp only [ownS, get]
    split
    · rename_i h
      subst h
      simp only [Nat.sub_self, List.getElem?_cons_zero, Nat.le_refl, true_and, Option.some.injEq, Prod.mk.injEq]
      constructor
      · rintro rfl; exact ⟨e, sz, rs, ⟨rfl, rfl, rfl⟩, rfl⟩
      · rintro ⟨_, _, _, ⟨rfl, rfl, rfl⟩, rfl⟩; rfl
    · rename_i h
      rw [get_ownS (l := r)]
      constructor
      · rintro ⟨e', sz', rs', h1, h2, h3⟩
        refine ⟨e', sz', rs', by omega, ?_, h3⟩
        rw [show n - k = (n - (k + 1)) + 1 by omega]
        simpa using h2
      · rintro ⟨e', sz', rs', h1, h2, h3⟩
        refine ⟨e', sz', rs', by omega, ?_, h3⟩
        rw [show n - k = (n - (k + 1)) + 1 by omega] at h2
        simpa using h2

def resV (ts : List Nat) (tmps : Array Value) : Value := match ts with
  | [t] => tmps.getD t undef
  | ts => .tuple (ts.map fun t => tmps.getD t undef).toArray
/-- a result's place: a temporary, or a variable of a type whose address a temporary holds -/
def toRV : Nat × Option Nat → ResultVar
  | (t, none) => .tmp t
  | (t, some T) => .cell t T
/-- results that lie in variables, read -/
def unbox (D : Nat → TI) : List (Nat × Option Nat) → AS → Option AS
  | [], σ => some σ
  | (_, none) :: r, σ => unbox D r σ
  | (t, some T) :: r, σ => match get t σ.tm with
    | some (.ptr n o) => match blk σ n with
      | some (.cells cs) => match valOf (D T) (cs.drop o) with
        | some v => unbox D r { σ with tm := (t, v) :: σ.tm }
        | none => none
      | _ => none
    | _ => none
def resG (tmps : Array Value) : ResultVar → Sem Value
  | .tmp t => pure (tmps.getD t undef)
  | .cell a t => do loadVar t (← asAddr (tmps.getD a undef))
theorem resG_congr {tm tm' : Array Value} : ∀ (l : List (Nat × Option Nat)), (∀ p ∈ l, tm'.getD p.1 undef = tm.getD p.1 undef) → (l.map toRV).mapM (resG tm') = (l.map toRV).mapM (resG tm)
  | [], _ => rfl
  | (t, T) :: r, h => by
    have h1 := h (t, T) (List.mem_cons_self ..)
    have h2 : resG tm' (toRV (t, T)) = resG tm (toRV (t, T)) := by
      cases T with
      | none => simp only [toRV, resG, h1]
      | some T => simp only [toRV, resG, h1]
    rw [List.map_cons, List.mapM_cons, List.mapM_cons, h2, resG_congr r fun p hp => h p (List.mem_cons_of_mem _ hp)]
theorem unbox_ok {P : Program} {D : Nat → TI} (hT : TOk P D) {S N0 : Nat → Prop} {B : Nat} {w0 w : World} {ρ : Env} : ∀ (rs : List (Nat × Option Nat)) (σ σ' : AS) (a : Act), (rs.map (·.1)).Nodup → St0 D S N0 B w0 ρ σ a w → unbox D rs σ = some σ' →
    ∃ a', St0 D S N0 B w0 ρ σ' a' w ∧ (∀ t, t ∉ rs.map (·.1) → a'.tmps.getD t undef = a.tmps.getD t undef) ∧ ((rs.map toRV).mapM (resG a.tmps)).run P w = .ok ((rs.map (·.1)).map fun t => a'.tmps.getD t undef) w
  | [], σ, σ', a, _, h, hu => by
    rw [unbox] at hu
    cases hu
    exact ⟨a, h, fun _ _ => rfl, rfl⟩
  | (t, none) :: r, σ, σ', a, hd, h, hu => by
    rw [unbox] at hu
    rw [List.map_cons, List.nodup_cons] at hd
    obtain ⟨a', h1, h2, h3⟩ := unbox_ok hT r σ σ' a hd.2 h hu
    refine ⟨a', h1, fun u hu => h2 u fun hm => hu (by rw [List.map_cons]; exact List.mem_cons_of_mem _ hm), ?_⟩
    rw [List.map_cons, List.mapM_cons]
    have e1 : resG a.tmps (toRV (t, none)) = pure (a'.tmps.getD t undef) := by rw [h2 t hd.1]; rfl
    rw [e1]
    simp only [pure_bind, Sem.run_bind, h3]
    rfl
  | (t, some T) :: r, σ, σ', a, hd, h, hu => by
    rw [unbox] at hu
    rw [List.map_cons, List.nodup_cons] at hd
    split at hu
    case h_2 => cases hu
    rename_i n o hg
    split at hu
    case h_2 => cases hu
    rename_i cs hb
    split at hu
    case h_2 => cases hu
    rename_i y hy
    obtain ⟨hrel, hnm⟩ := h.tm t _ hg
    generalize hv : a.tmps.getD t undef = v at hrel
    have he : effLoad D (blk σ) T (.ptr n o) = some { v := y } := by simp only [effLoad, hb, hy, Option.map_some]
    obtain ⟨_, _, _, u, hrun, hru, hnu⟩ := load_sound (P := P) hT h (fun _ _ h => h) hrel he
    have hlt : t < σ.nt := by
      rw [← h.nt]
      rcases Nat.lt_or_ge t a.tmps.size with h' | h'
      · exact h'
      · exfalso
        rw [Array.getD_eq_getD_getElem?, Array.getElem?_eq_none h'] at hv
        subst hv
        cases hrel
    have hs1 := h.put (d := t) (x := y) (v := u) hlt hru hnu
    obtain ⟨a', h1, h2, h3⟩ := unbox_ok hT r _ σ' (a.put (some t) u) hd.2 hs1 hu
    have hne : ∀ s, s ≠ t → (a.put (some t) u).tmps.getD s undef = a.tmps.getD s undef := fun s hs => by
      rw [Array.getD_eq_getD_getElem?, Array.getD_eq_getD_getElem?]
      simp [Act.put, Array.getElem?_setIfInBounds_ne (fun e => hs e.symm)]
    refine ⟨a', h1, fun s hs => ?_, ?_⟩
    · rw [List.map_cons, List.mem_cons] at hs
      rw [h2 s fun hm => hs (.inr hm)]
      exact hne s fun e => hs (.inl e)
    · rw [List.map_cons, List.mapM_cons]
      have e1 : (resG a.tmps (toRV (t, some T))).run P w = .ok (a'.tmps.getD t undef) w := by
        have : a'.tmps.getD t undef = u := by
          rw [h2 t hd.1, Array.getD_eq_getD_getElem?]
          simp [Act.put, Array.getElem?_setIfInBounds_self, h.nt, hlt]
        rw [this]
        simp only [toRV, resG, hv]
        cases hrel with
        | ptr n o b hb' => simpa [Instr.loadAt, Instr.sureAddr, asAddr] using hrun
      have e2 : ((r.map toRV).mapM (resG a.tmps)).run P w = .ok ((r.map (·.1)).map fun t => a'.tmps.getD t undef) w := by
        rw [resG_congr r (tm := (a.put (some t) u).tmps) (tm' := a.tmps)]
        · exact h3
        · intro p hp
          exact (hne p.1 fun e => hd.1 (by show t ∈ _; rw [← e]; exact List.mem_map_of_mem hp)).symm
      simp only [Sem.run_bind, e1, Result.andThen, e2]
      rfl
theorem results_rs {P : Program} {fn : Func} {rs : List (Nat × Option Nat)} (h : fn.results = (rs.map toRV).toArray) {tm tm' : Array Value} {w : World} (hr : ((rs.map toRV).mapM (resG tm)).run P w = .ok ((rs.map (·.1)).map fun t => tm'.getD t undef) w) : (results fn tm).run P w = .ok (resV (rs.map (·.1)) tm') w := by
  have e : results fn tm = (do let vs ← fn.results.mapM (resG tm); pure (if h : vs.size = 1 then vs[0] else .tuple vs)) := rfl
  rw [e, h, List.mapM_toArray]
  simp only [Sem.run_bind, Sem.run_map, hr]
  match rs with
  | [] => rfl
  | [_] => rfl
  | t :: u :: r => simp [resV, Sem.run, pure]

theorem resT'_get {t : Nat} : ∀ {ts : List Nat} {vs : List AV} {i : Nat}, ts.Nodup → ts[i]? = some t → vs.length = ts.length → get t (resT.resT' ts vs) = vs[i]?
  | [], _, i, _, h, _ => by simp at h
  | u :: ts, [], i, _, _, h => by simp at h
  | u :: ts, v :: vs, i, hd, h, hl => by
    simp only [resT.resT', get]
    cases i with
    | zero => simp at h; subst h; simp
    | succ i =>
      simp at h hl
      rw [List.nodup_cons] at hd
      rw [if_neg fun e => hd.1 (by rw [e]; exact List.mem_of_getElem? h)]
      simpa using resT'_get hd.2 h hl

/-- A BODY's CONTRACT -/
theorem con_of {P : Program} {D : Nat → TI} {G : Ctr} (hm : P.follows .mixedOrders = true) (hT : TOk P D) (hG : GOk P D G) {f : Nat} {fn : Func} {c : Code} {rs : List (Nat × Option Nat)} {args : List AV} {r : Res}
    (hf : P.funcs[f]? = some fn) (hb : fn.body = some c) (hname : (fn.name == "runtime.NumGoroutine") = false) (hres : fn.results = (rs.map toRV).toArray) (hd : (rs.map (·.1)).Nodup) (hfit : resFit (rs.map (·.1)) r.v = true)
    {n : Nat} (hn : fn.ntmps = n) (hlen : args.length ≤ n) (hnm : namess args = [])
    (h : ∀ X : Cx, X.P = P → X.D = D → X.G = G → X.Ok → Tr X c (fun e σ' => (e = .normal ∨ e = .ret) ∧ ∃ σ1, unbox D rs σ' = some σ1 ∧ ∃ ns rl, Cover D (Ab.freeze σ1 ns) (resS n (rs.map (·.1)) r) rl) (argS n args)) : Con P D f args r := by
  refine ⟨⟨fn, hf, hname, by rw [hb]; rfl⟩, fun w im ρ vs him hvs => ?_⟩
  subst hn
  have hsz : vs.size = args.length := by have := hvs.1; simp at this; omega
  let X : Cx := ⟨P, D, G, im, fun _ => False, w.heap.size, w⟩
  have hst : X.St (argS fn.ntmps args) { tmps := vs ++ Array.replicate (fn.ntmps - vs.size) undef, defers := [] } w := by
    have hbl : blk (argS fn.ntmps args) = fun _ => none := rfl
    have hi : ∀ b, im b → imOf im (fun _ => False) w.heap.size w ρ (blk (argS fn.ntmps args)) b := fun b hb => ⟨him b hb, .inl hb, fun n x hx => by cases hx⟩
    refine ⟨ρ, fun t x hx => ?_, ⟨fun n x hx => (by rw [hbl] at hx; cases hx), fun n m b x y hx => (by rw [hbl] at hx; cases hx), fun n x b hx => (by rw [hbl] at hx; cases hx), fun b hb => hb.1, fun n cs hx => (by rw [hbl] at hx; cases hx)⟩, by simp [argS]; omega, Nat.le_refl _, ⟨rfl, rfl, rfl, Nat.le_refl _, fun _ _ _ => rfl⟩, fun n x b hx => (by rw [hbl] at hx; cases hx), rfl⟩
    obtain ⟨_, hx'⟩ := get_num hx
    simp only [Nat.sub_zero] at hx'
    have hlt : t < args.length := (List.getElem?_eq_some_iff.1 hx').1
    have hnx : names x = [] := by
      rw [List.eq_nil_iff_forall_not_mem]
      intro k hk
      have := mem_namess hx' hk
      rw [hnm] at this
      cases this
    refine ⟨?_, fun k hk => by rw [hnx] at hk; cases hk⟩
    have hv : (vs ++ Array.replicate (fn.ntmps - vs.size) undef).getD t undef = vs[t]'(by omega) := by
      rw [Array.getD_eq_getD_getElem?, Array.getElem?_append_left (by omega)]
      simp [show t < vs.size by omega]
    simp only
    rw [hv]
    have := hvs.2 t x (vs[t]'(by omega)) hx' (by simp [show t < vs.size by omega])
    exact this.mono hi (fun _ _ => rfl) (fun _ _ => rfl)
  refine calls_of_wp hf hb (wp_mono (h X rfl rfl rfl ⟨hm, hT, hG⟩ _ w hst) fun e a0 w' ⟨σ', ⟨he, σ1, hub, ns, rl, hcov⟩, hs⟩ => ?_)
  obtain ⟨ρ1, hs⟩ := hs
  have hdf := hs.defers
  obtain ⟨a, hs, _, hrun⟩ := unbox_ok hT rs σ' σ1 a0 hd hs hub
  have hrun := results_rs hres hrun
  generalize hts : rs.map (·.1) = ts at *
  obtain ⟨ρ2, hs⟩ := (hs.freeze ns).cover hcov
  have hblo : ∀ k e sz rs, r.own[k]? = some (e, sz, rs) → blk (resS fn.ntmps ts r) k = some (.rows e sz rs) := fun k e sz rs hk => blk_iff.2 (get_ownS.2 ⟨e, sz, rs, Nat.zero_le _, by simpa using hk, rfl⟩)
  have hbli : ∀ k x, blk (resS fn.ntmps ts r) k = some x → ∃ e sz rs, r.own[k]? = some (e, sz, rs) ∧ x = .rows e sz rs := fun k x hk => by
    obtain ⟨e, sz, rs, _, h1, h2⟩ := get_ownS.1 (blk_iff.1 hk)
    simp only [Nat.sub_zero] at h1
    cases h2
    exact ⟨e, sz, rs, h1, rfl⟩
  have himR : ∀ b, imOf im (fun _ => False) w.heap.size w' ρ2 (blk (resS fn.ntmps ts r)) b → imR w w' im ρ2 r.own.length b := by
    rintro b ⟨h1, h2, h3⟩
    refine ⟨h1, ?_, fun m hm => ?_⟩
    · rcases h2 with h2 | h2 | h2
      · exact .inl h2
      · exact .inr h2
      · exact h2.elim
    · have hlt : r.own[m]? = some (r.own[m]) := by simp [hm]
      exact h3 m _ (hblo m _ _ _ (by rw [hlt]))
  have hbound : ∀ n, (blk (resS fn.ntmps ts r) n).isSome = true → n < r.own.length := fun n hn => by
    obtain ⟨x, hx⟩ := Option.isSome_iff_exists.1 hn
    obtain ⟨e, sz, rs, h1, _⟩ := hbli n x hx
    exact (List.getElem?_eq_some_iff.1 h1).1
  have hval : Rel w' (imR w w' im ρ2 r.own.length) ρ2 r.v (resV ts a.tmps) ∧ ∀ n ∈ names r.v, n < r.own.length := by
    have one : ∀ t x, get t (resT ts r.v) = some x → Rel w' (imR w w' im ρ2 r.own.length) ρ2 x (a.tmps.getD t undef) ∧ ∀ n ∈ names x, n < r.own.length := fun t x hx =>
      ⟨((hs.tm t x hx).1).mono himR (fun _ _ => rfl) (fun _ _ => rfl), fun n hn => hbound n ((hs.tm t x hx).2 n hn)⟩
    match ts, hd, hfit, one with
    | [t], _, _, one => exact one t r.v (by simp [resT, get])
    | [], _, hfit, _ =>
      unfold resFit at hfit
      split at hfit
      · rename_i h1; exact absurd h1 (by simp)
      · rename_i hr; rw [hr]; exact ⟨.tup [] #[] rfl (by simp), by simp [names, namess]⟩
      · rename_i h1 _; exact absurd h1 (by simp)
      · cases hfit
    | t :: u :: ts, hd, hfit, one =>
      cases hrv : r.v <;> rw [hrv] at hfit <;> simp only [resFit] at hfit <;> try (cases hfit; done)
      rename_i vs'
      have hl : vs'.length = (t :: u :: ts).length := by simpa using hfit
      rw [hrv] at one
      have hget : ∀ (i : Nat) s, (t :: u :: ts)[i]? = some s → get s (resT (t :: u :: ts) (.tup vs')) = vs'[i]? := fun i s hi => by
        have := resT'_get hd hi hl
        cases vs' with
        | nil => simp at hl
        | cons v vs' => exact this
      refine ⟨.tup vs' _ (by simp [hl]) fun i x v hx hv => ?_, fun n hn => ?_⟩
      · have hi : i < (t :: u :: ts).length := by rw [← hl]; exact (List.getElem?_eq_some_iff.1 hx).1
        have hs1 : (t :: u :: ts)[i]? = some ((t :: u :: ts)[i]) := by simp [hi]
        have := (one _ x (by rw [hget i _ hs1]; exact hx)).1
        have hv' : v = a.tmps.getD ((t :: u :: ts)[i]) undef := by
          rw [List.getElem?_toArray, List.getElem?_map, hs1] at hv
          simpa using hv.symm
        rw [hv']
        exact this
      · rw [names] at hn
        obtain ⟨i, x, hx, hn⟩ := namess_mem hn
        have hi : i < (t :: u :: ts).length := by rw [← hl]; exact (List.getElem?_eq_some_iff.1 hx).1
        have hs1 : (t :: u :: ts)[i]? = some ((t :: u :: ts)[i]) := by simp [hi]
        exact (one _ x (by rw [hget i _ hs1]; exact hx)).2 n hn
  have hpost : ConPost D w im r (resV ts a.tmps) w' := by
    refine ⟨hs.frm, ρ2, fun k e sz rs hk => ⟨?_, fun b hb => ?_⟩, fun k l b hk hl hb hb' => ?_, hval.1, hval.2⟩
    · have := hs.hp.blk k _ (hblo k e sz rs hk)
      obtain ⟨q1, q2, q3, A, c, q4, q5, q6, q7⟩ := this
      refine ⟨q1, q2, q3, A, c, q4, q5, q6, q7.imp id ?_⟩
      rintro ⟨b, arr, r1, r2, r3, r4, r5⟩
      refine ⟨b, arr, r1, r2, r3, r4, fun i row hi => ⟨(r5 i row hi).1, fun j x hj => ?_⟩⟩
      obtain ⟨s1, v, s2, s3, s4⟩ := (r5 i row hi).2 j x hj
      exact ⟨s1, v, s2, s3, s4.mono himR (fun _ _ => rfl) (fun n hn => rfl)⟩
    · exact (hs.own k _ b (hblo k e sz rs hk) hb).resolve_right (fun h => h.elim)
    · have h1 : r.own[k]? = some (r.own[k]) := by simp [hk]
      have h2 : r.own[l]? = some (r.own[l]) := by simp [hl]
      exact hs.hp.inj k l b _ _ (hblo k _ _ _ (by rw [h1])) (hblo l _ _ _ (by rw [h2])) hb hb'
  rcases he with rfl | rfl
  · exact ⟨hdf, _, hrun, _, rfl, hpost⟩
  · exact ⟨hdf, _, hrun, _, rfl, hpost⟩
end Go.Proofs.Ytcgdjdlcecnanaa.Ab
