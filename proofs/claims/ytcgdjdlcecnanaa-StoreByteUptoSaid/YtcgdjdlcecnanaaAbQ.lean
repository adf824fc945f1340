/-
  Regions: in the text's order; in any order that the edges allow, where what is not ordered is apart and touches nothing that is there.
  No condition.
-/
import Derived.Test.YtcgdjdlcecnanaaAbP
import Derived.Orders
namespace Go.Proofs.Ytcgdjdlcecnanaa.Ab
open Go
set_option linter.unusedVariables false
set_option linter.unusedSimpArgs false

/-- an effect that touches nothing that is there -/
def quiet (e : Eff) : Bool := match e.fr, e.up, e.kl with
  | [], [], [] => true
  | _, _, _ => false
def okE (σ : AS) (ns : List Nat) (e : Eff) : Bool := okN (keys e.nw) ns (blNames (snap σ ns) ns) (names e.v ++ nwNames e.nw)
def still (lo : List Nat) (σ : AS) (i : Nat) (o : Oper) (e : Eff) : Bool := (quiet e && okE σ (opsNs σ o) e) || mem i lo
/-- a region, its operations numbered; lo: those that may touch what is there -/
def regP (D : Nat → TI) (G : Ctr) (off : List (Nat × Bool)) (ops : Array Oper) (lo : List Nat) : List (Nat × Oper) → (AS → Prop) → AS → Prop
  | [], Q, σ => Q σ
  | (i, o) :: r, Q, σ => match opEff D G off ops σ o with
    | none => False
    | some e => ((fresh σ o.dst e = true ∧ e.pre) ∧ still lo σ i o e = true) ∧ regP D G off ops lo r Q (apply σ o.dst e)
def pairs : Nat → List Oper → List (Nat × Oper)
  | _, [] => []
  | i, o :: r => (i, o) :: pairs (i + 1) r

/-- what comes ahead of each operation, as bits -/
def preOf (acc : List Nat) (es : List Edge) : Nat := es.foldl (fun s e => if Region.binds .any e then s ||| 2 ^ e.on ||| acc.getD e.on 0 else s) 0
def masks : List Oper → List Nat → List Nat
  | [], acc => acc
  | o :: r, acc => masks r (acc ++ [preOf acc o.after.toList])
def apartB (ops : Array Oper) (lo : List Nat) (j i : Nat) (oj oi : Oper) : Bool :=
  oj.apart ops oi && !mem i lo && !mem j lo && decide ((oj.dst.getD 0) % 4096 ≠ (oi.dst.getD 0) % 4096)
def backB (i : Nat) (es : List Edge) : Bool := es.all fun e => !Region.binds .any e || decide (e.on < i)
def rowB (ops : Array Oper) (lo : List Nat) (m i : Nat) (oi : Oper) : List (Nat × Oper) → Bool
  | [] => true
  | (j, oj) :: r => (decide (i ≤ j) || m.testBit j || apartB ops lo j i oj oi) && rowB ops lo m i oi r
def indepGo (ops : Array Oper) (lo : List Nat) (ms : List Nat) (ps : List (Nat × Oper)) : List (Nat × Oper) → Bool
  | [] => true
  | (i, o) :: r => backB i o.after.toList && rowB ops lo (ms.getD i 0) i o ps && indepGo ops lo ms ps r
/-- operations that no edge orders are apart, and none of them may touch what is there -/
def indep (ops : Array Oper) (lo : List Nat) : Bool := indepGo ops lo (masks ops.toList []) (pairs 0 ops.toList) (pairs 0 ops.toList)

section
variable {P : Program} {D : Nat → TI} {G : Ctr} {off : List (Nat × Bool)} {ops : Array Oper} {lo : List Nat} {σ σ' : AS}

theorem regP_cons {i : Nat} {o : Oper} {r : List (Nat × Oper)} {Q : AS → Prop} : regP D G off ops lo ((i, o) :: r) Q σ ↔ ∃ e, opEff D G off ops σ o = some e ∧ ((fresh σ o.dst e = true ∧ e.pre) ∧ still lo σ i o e = true) ∧ regP D G off ops lo r Q (apply σ o.dst e) := by
  rw [regP]
  cases opEff D G off ops σ o with
  | none => simp
  | some e => simp

/-- every name is bound -/
structure Wf (σ : AS) : Prop where
  tm : ∀ t x, get t σ.tm = some x → ∀ n ∈ names x, (blk σ n).isSome = true
  cl : ∀ n cs, blk σ n = some (.cells cs) → ∀ m ∈ namess cs, (blk σ m).isSome = true
theorem St0.wf {S N0 : Nat → Prop} {B : Nat} {w0 : World} {ρ : Env} {a : Act} {w : World} (h : St0 D S N0 B w0 ρ σ a w) : Wf σ := ⟨fun t x hx => (h.tm t x hx).2, h.hp.closed⟩

theorem Wf.opsB (h : Wf σ) {o : Oper} {n : Nat} (hn : n ∈ opsNs σ o) : (blk σ n).isSome = true := by
  obtain ⟨i, x, hx, hn⟩ := namess_mem hn
  rw [List.getElem?_map] at hx
  obtain ⟨y, hy, rfl⟩ := Option.map_eq_some_iff.1 hx
  cases y with
  | tmp t =>
    simp only [ev] at hn
    cases hg : get t σ.tm with
    | none => rw [hg] at hn; simp [names] at hn
    | some x => rw [hg] at hn; exact h.tm t x hg n hn
  | const v =>
    simp only [ev] at hn
    unfold cst at hn
    split at hn <;> simp [names] at hn
  | func f => simp [ev, names, namess] at hn
  | global g => simp [ev, names] at hn

theorem quiet_iff {e : Eff} : quiet e = true ↔ e.fr = [] ∧ e.up = [] ∧ e.kl = [] := by
  obtain ⟨v, nw, up, fr, kl, pre⟩ := e
  unfold quiet
  cases fr <;> cases up <;> cases kl <;> simp
theorem apply_quiet {d : Option Nat} {e : Eff} (h : quiet e = true) : (apply σ d e).tm = putT d e.v σ.tm ∧ (∀ n, blk (apply σ d e) n = match get n e.nw with | some y => some y | none => blk σ n) := by
  obtain ⟨h1, h2, h3⟩ := quiet_iff.1 h
  refine ⟨by simp only [apply, h1, h3, freeze, kill], fun n => ?_⟩
  rw [blk_apply, h1, h2, h3]
  rfl
theorem apply_mono {d : Option Nat} {e : Eff} (h : quiet e = true) {n : Nat} (hn : (blk σ n).isSome = true) : (blk (apply σ d e) n).isSome = true := by
  rw [(apply_quiet h).2]
  split
  · rfl
  · exact hn
theorem nwNames_mem {n k : Nat} {cs : List AV} : ∀ {l : List (Nat × Blk)}, get k l = some (.cells cs) → n ∈ namess cs → n ∈ nwNames l
  | [], h, _ => by simp [get] at h
  | (j, .cells ds) :: r, h, hn => by
    simp only [get] at h
    simp only [nwNames, List.mem_append]
    split at h
    · simp only [Option.some.injEq, Blk.cells.injEq] at h; subst h; exact .inl hn
    · exact .inr (nwNames_mem h hn)
  | (j, .rows _ _ _) :: r, h, hn => by
    simp only [get] at h
    simp only [nwNames]
    split at h
    · simp at h
    · exact nwNames_mem h hn
theorem okE_bound (hw : Wf σ) {o : Oper} {d : Option Nat} {e : Eff} (hq : quiet e = true) (h : okE σ (opsNs σ o) e = true) {n : Nat} (hn : n ∈ names e.v ++ nwNames e.nw) : (blk (apply σ d e) n).isSome = true := by
  have := subs_mem h hn
  simp only [List.mem_append] at this
  rcases this with h1 | h1 | h1
  · obtain ⟨y, hy⟩ := mem_keys.1 h1
    rw [(apply_quiet hq).2, hy]
    rfl
  · exact apply_mono hq (hw.opsB h1)
  · obtain ⟨k, cs, hk, hm⟩ := blNames_mem h1
    exact apply_mono hq (hw.cl k cs (names_bl_snap hk) n hm)
theorem Wf.apply (hw : Wf σ) {o : Oper} {d : Option Nat} {e : Eff} (hq : quiet e = true) (h : okE σ (opsNs σ o) e = true) : Wf (apply σ d e) := by
  refine ⟨fun t x hx n hn => ?_, fun n cs hc m hm => ?_⟩
  · rw [(apply_quiet hq).1, get_putT] at hx
    split at hx
    · cases hx
      exact okE_bound hw hq h (List.mem_append_left _ hn)
    · exact apply_mono hq (hw.tm t x hx n hn)
  · rw [(apply_quiet hq).2] at hc
    split at hc
    · rename_i y hy
      cases hc
      exact okE_bound hw hq h (List.mem_append_right _ (nwNames_mem hy hm))
    · exact apply_mono hq (hw.cl n cs hc m hm)

theorem okE_same {ns : List Nat} {e : Eff} (h : ∀ n ∈ ns, blk σ' n = blk σ n) : okE σ' ns e = okE σ ns e := by
  unfold okE
  rw [snap_same h]

/-- closed under what says the same -/
def Inv (Q : AS → Prop) : Prop := ∀ σ σ', Eqv σ σ' → Q σ → Q σ'
def clo (Q : AS → Prop) (σ : AS) : Prop := ∃ σ1, Eqv σ1 σ ∧ Q σ1
theorem clo_inv (Q : AS → Prop) : Inv (clo Q) := fun σ σ' h ⟨σ1, h1, h2⟩ => ⟨σ1, h1.trans h, h2⟩
theorem regP_mono {Q Q' : AS → Prop} (h : ∀ σ, Q σ → Q' σ) : ∀ {R : List (Nat × Oper)} {σ : AS}, regP D G off ops lo R Q σ → regP D G off ops lo R Q' σ
  | [], σ, hr => h σ hr
  | (i, o) :: r, σ, hr => by
    obtain ⟨e, h1, h2, h3⟩ := regP_cons.1 hr
    exact regP_cons.2 ⟨e, h1, h2, regP_mono h h3⟩
theorem Eqv.opsNs (h : Eqv σ σ') (o : Oper) : opsNs σ' o = Ab.opsNs σ o := by
  unfold Ab.opsNs
  rw [List.map_congr_left fun x _ => ev_same fun t _ => h.tm t]
theorem Eqv.still (h : Eqv σ σ') {i : Nat} {o : Oper} {e : Eff} : still lo σ' i o e = Ab.still lo σ i o e := by
  unfold Ab.still
  rw [h.opsNs, okE_same fun n _ => h.bl n]
theorem regP_eqv {Q : AS → Prop} (hQ : Inv Q) : ∀ {R : List (Nat × Oper)} {σ σ' : AS}, Eqv σ σ' → regP D G off ops lo R Q σ → regP D G off ops lo R Q σ'
  | [], σ, σ', h, hr => hQ σ σ' h hr
  | (i, o) :: r, σ, σ', h, hr => by
    obtain ⟨e, h1, ⟨⟨h2, h2'⟩, h2''⟩, h3⟩ := regP_cons.1 hr
    exact regP_cons.2 ⟨e, h.opEff h1, ⟨⟨h.fresh h2, h2'⟩, by rw [h.still]; exact h2''⟩, regP_eqv hQ (h.apply o.dst e) h3⟩

theorem looks_tmp {o : Oper} {x : Operand} {t : Nat} (hx : x ∈ o.op.operands) (e : x = .tmp t) : t ∈ o.looksAt ops := by
  subst e
  exact List.mem_append_left _ (List.mem_filterMap.2 ⟨.tmp t, by simpa using hx, rfl⟩)
theorem looks_guard {o : Oper} {j : Nat} {w : Bool} {t : Nat} (hg : o.guard = some (j, w)) (ht : (ops[j]?).bind (·.dst) = some t) : t ∈ o.looksAt ops := by
  unfold Oper.looksAt
  refine List.mem_append_right _ ?_
  rw [hg]
  simp [ht]

/-- two that are apart change places -/
theorem swap {Q : AS → Prop} (hQ : Inv Q) (hw : Wf σ) {j i : Nat} {oj oi : Oper} {r : List (Nat × Oper)} (hap : apartB ops lo j i oj oi = true) (h : regP D G off ops lo ((j, oj) :: (i, oi) :: r) Q σ) :
    regP D G off ops lo ((i, oi) :: (j, oj) :: r) Q σ := by
  simp only [apartB, Bool.and_eq_true, Bool.not_eq_true', decide_eq_true_eq] at hap
  obtain ⟨⟨⟨hap, hi⟩, hj⟩, hne⟩ := hap
  obtain ⟨a1, a2, a3⟩ := Oper.apart_spec hap
  obtain ⟨ej, j1, ⟨⟨j2, j3⟩, j4⟩, h⟩ := regP_cons.1 h
  obtain ⟨ei, i1, ⟨⟨i2, i3⟩, i4⟩, h⟩ := regP_cons.1 h
  simp only [still, hj, hi, Bool.or_false, Bool.and_eq_true] at j4 i4
  obtain ⟨jq, jo⟩ := j4
  obtain ⟨iq, io⟩ := i4
  simp only [fresh, Bool.and_eq_true] at j2 i2
  obtain ⟨j2, j2'⟩ := j2
  obtain ⟨i2, i2'⟩ := i2
  have jun := unbound_iff.1 j2
  have iun := unbound_iff.1 i2
  -- σ1: behind j
  have s1 : ∀ t, oj.dst ≠ some t → get t (apply σ oj.dst ej).tm = get t σ.tm := fun t ht => by
    rw [(apply_quiet jq).1, get_putT, if_neg ht]
  have b1 : ∀ n, (blk σ n).isSome = true → blk (apply σ oj.dst ej) n = blk σ n := fun n hn => by
    rw [(apply_quiet jq).2]
    cases hg : get n ej.nw with
    | none => rfl
    | some y =>
      have := jun n (mem_keys.2 ⟨y, hg⟩)
      rw [this] at hn
      cases hn
  have hev : ∀ x ∈ oi.op.operands, ev (apply σ oj.dst ej) x = ev σ x := fun x hx => ev_same fun t ht => s1 t fun hd => a1 t hd (looks_tmp hx ht)
  have hns : opsNs (apply σ oj.dst ej) oi = opsNs σ oi := by
    unfold opsNs
    rw [List.map_congr_left fun x hx => hev x (by simpa using hx)]
  have hun0 : ∀ n, blk (apply σ oj.dst ej) n = none → blk σ n = none := fun n hn => by
    cases hb : blk σ n with
    | none => rfl
    | some y => rw [b1 n (by rw [hb]; rfl), hb] at hn; cases hn
  have k1 : opEff D G off ops σ oi = some ei := by
    refine opEff_same (σ := apply σ oj.dst ej) (fun x hx => (hev x hx).symm) (guardOf_same fun jj ww t hg ht => (s1 t fun hd => a1 t hd (looks_guard hg ht)).symm) (fun n hn => ?_) (fun e0 _ hu => ?_) i1
    · rw [hns] at hn
      exact (b1 n (hw.opsB hn)).symm
    · exact unbound_iff.2 fun n hn => hun0 n (unbound_iff.1 hu n hn)
  have iun' : ∀ n ∈ keys ei.nw, blk σ n = none := fun n hn => hun0 n (iun n hn)
  have s2 : ∀ t, oi.dst ≠ some t → get t (apply σ oi.dst ei).tm = get t σ.tm := fun t ht => by
    rw [(apply_quiet iq).1, get_putT, if_neg ht]
  have b2 : ∀ n, (n ∉ keys ei.nw) → blk (apply σ oi.dst ei) n = blk σ n := fun n hn => by
    rw [(apply_quiet iq).2, get_none.2 hn]
  have hmod : ∀ n, n ∈ keys ei.nw → n % 4096 = (oj.dst.getD 0) % 4096 → False := fun n hn hm => hne (by rw [← hm, opEff_quiet_nw k1 n hn])
  have hbd : ∀ n, (blk σ n).isSome = true → n ∉ keys ei.nw := fun n hn hk => by rw [iun' n hk] at hn; cases hn
  have k2 : opEff D G off ops (apply σ oi.dst ei) oj = some ej := by
    refine opEff_same (σ := σ) (fun x hx => ev_same fun t ht => s2 t fun hd => a3 t hd (looks_tmp hx ht)) (guardOf_same fun jj ww t hg ht => s2 t fun hd => a3 t hd (looks_guard hg ht)) (fun n hn => b2 n (hbd n (hw.opsB hn))) (fun e0 h0 hu => ?_) j1
    refine unbound_iff.2 fun n hn => ?_
    rw [b2 n fun hk => hmod n hk (baseE_nw h0 n hn)]
    exact unbound_iff.1 hu n hn
  have hns2 : opsNs (apply σ oi.dst ei) oj = opsNs σ oj := by
    unfold opsNs
    rw [List.map_congr_left fun x hx => ev_same fun t ht => s2 t fun hd => a3 t hd (looks_tmp (by simpa using hx) ht)]
  refine regP_cons.2 ⟨ei, k1, ⟨⟨?_, i3⟩, ?_⟩, regP_cons.2 ⟨ej, k2, ⟨⟨?_, j3⟩, ?_⟩, regP_eqv hQ ?_ h⟩⟩
  · simp only [fresh, Bool.and_eq_true]
    exact ⟨unbound_iff.2 iun', i2'⟩
  · simp only [still, iq, Bool.true_and, hi, Bool.or_false]
    rw [hns] at io
    rw [← okE_same (σ := σ) (σ' := apply σ oj.dst ej) fun n hn => b1 n (hw.opsB hn)]
    exact io
  · simp only [fresh, Bool.and_eq_true]
    refine ⟨unbound_iff.2 fun n hn => ?_, j2'⟩
    rw [b2 n fun hk => hmod n hk (opEff_quiet_nw j1 n hn)]
    exact jun n hn
  · simp only [still, jq, Bool.true_and, hj, Bool.or_false]
    rw [hns2, okE_same (σ := σ) fun n hn => b2 n (hbd n (hw.opsB hn))]
    exact jo
  · refine ⟨rfl, fun t => ?_, fun n => ?_⟩
    · rw [(apply_quiet jq).1, (apply_quiet iq).1, (apply_quiet iq).1, (apply_quiet jq).1, get_putT, get_putT, get_putT, get_putT]
      by_cases h1 : oj.dst = some t
      · have h2 : oi.dst ≠ some t := a2 t h1
        rw [if_pos h1, if_neg h2, if_pos h1]
      · rw [if_neg h1, if_neg h1]
    · rw [(apply_quiet jq).2, (apply_quiet iq).2, (apply_quiet iq).2, (apply_quiet jq).2]
      cases hgj : get n ej.nw with
      | none => rfl
      | some y =>
        have hk : n ∉ keys ei.nw := fun hk => hmod n hk (opEff_quiet_nw j1 n (mem_keys.2 ⟨y, hgj⟩))
        rw [get_none.2 hk]

/-- one that nobody ahead of it hinders comes to the front -/
theorem front {Q : AS → Prop} (hQ : Inv Q) {i : Nat} {oi : Oper} {post : List (Nat × Oper)} : ∀ {pre : List (Nat × Oper)} {σ : AS}, Wf σ → (∀ p ∈ pre, apartB ops lo p.1 i p.2 oi = true) →
    regP D G off ops lo (pre ++ (i, oi) :: post) Q σ → regP D G off ops lo ((i, oi) :: (pre ++ post)) Q σ
  | [], σ, _, _, h => h
  | (j, oj) :: pre, σ, hw, hap, h => by
    have h1 := hap (j, oj) (List.mem_cons_self ..)
    obtain ⟨ej, j1, ⟨j2, j3⟩, h⟩ := regP_cons.1 h
    have hj : mem j lo = false := by
      simp only [apartB, Bool.and_eq_true, Bool.not_eq_true'] at h1
      exact h1.1.2
    have j3' := j3
    simp only [still, hj, Bool.or_false, Bool.and_eq_true] at j3'
    have := front hQ (hw.apply (d := oj.dst) j3'.1 j3'.2) (fun p hp => hap p (List.mem_cons_of_mem _ hp)) h
    exact swap hQ hw h1 (regP_cons.2 ⟨ej, j1, ⟨j2, j3⟩, this⟩)
end
end Go.Proofs.Ytcgdjdlcecnanaa.Ab
