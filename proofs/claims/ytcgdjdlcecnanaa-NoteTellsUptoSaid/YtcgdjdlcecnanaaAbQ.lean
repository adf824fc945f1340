/-
  Regions: in the text's order; in any order that the edges allow, where what is not ordered is apart and touches nothing that is there.
  No condition.
-/
import Derived.Test.YtcgdjdlcecnanaaAbP
import Derived.Orders
namespace Go.Proofs.Ytcgdjdlcecnanaa.Ab
open Go
set_option linter.unusedVariables false
set_option linter.unusedSimpArgs false

/-- how a region's operations may be ordered. lo: those that may do anything: all others are ordered with them; uo: those that may change what the blocks un hold; ex: those that are ordered with all of uo -/
structure Lo where
  lo : List Nat := []
  uo : List Nat := []
  un : List Nat := []
  ex : List Nat := []
  kn : List Nat := []
/-- an effect that freezes nothing -/
def fkE (e : Eff) : Bool := match e.fr with
  | [] => true
  | _ :: _ => false
def klNil (e : Eff) : Bool := match e.kl with
  | [] => true
  | _ :: _ => false
def upNil (e : Eff) : Bool := match e.up with
  | [] => true
  | _ :: _ => false
def disj : List Nat → List Nat → Bool
  | [], _ => true
  | n :: r, l => !mem n l && disj r l
def okE (σ : AS) (o : Oper) (e : Eff) : Bool := okN (keys e.nw) (opsNs σ o) (bsOf σ o.op (opsNs σ o)) (names e.v ++ (nwNames e.nw ++ nwNames e.up))
def bcl (bl : Nat → Option Blk) : List Nat → Bool
  | [] => true
  | n :: r => (match bl n with | some (.cells cs) => cleans cs | _ => true) && bcl bl r
def exB (lo : Lo) (σ : AS) (i : Nat) (o : Oper) (e : Eff) : Bool :=
  (isNil lo.un && isNil lo.kn) || (mem i lo.ex ||
    ((isNil lo.kn || (o.guard.isNone && (disj (opsNs σ o) lo.kn && (cleans (o.op.operands.toList.map (ev σ)) && (disj (keys e.nw) lo.kn && (blkFree o.op || (disj (bsOf σ o.op (opsNs σ o)) lo.kn && bcl (snap σ (opsNs σ o)) (opsNs σ o))))))))
    && (blkFree o.op || disj (opsNs σ o) lo.un)))
def upB (lo : Lo) (σ : AS) (o : Oper) (e : Eff) : Bool :=
  subs (keys e.up) lo.un && (subs (keys e.up) (opsNs σ o) && (subs e.kl lo.kn && (subs e.kl (opsNs σ o) && disj (names e.v ++ (nwNames e.nw ++ nwNames e.up)) e.kl)))
def still (lo : Lo) (σ : AS) (i : Nat) (o : Oper) (e : Eff) : Bool :=
  (fkE e && (okE σ o e && ((upNil e && (klNil e && exB lo σ i o e)) || (mem i lo.uo && upB lo σ o e)))) || mem i lo.lo
structure Cx where
  P : Program
  D : Nat → TI
  G : Ctr
  S : Nat → Prop
  N0 : Nat → Prop
  B : Nat
  w0 : World
  nb : Nat
  M : MCtr
abbrev Cx.St (X : Cx) (γ : Nat → Value) : AS → Act → World → Prop := Ab.St X.D X.S X.N0 X.B ⟨X.w0, γ⟩
/-- an operation that the table does not tell: a call into which one goes -/
inductive InlOp (X : Cx) (ops : Array Oper) (o : Oper) (σ : AS) (R : AS → Prop) : Prop
  | mk (h : ∀ (γ : Nat → Value) (a : Act) (w : World) (i : Nat) (Qx : Exit → Act → World → Prop), ops[i]? = some o → X.St γ σ a w → wpOp X.P ops Qx i (fun a' w' => ∃ σ', R σ' ∧ X.St γ σ' a' w') a w)
theorem InlOp.mono {X : Cx} {ops : Array Oper} {o : Oper} {σ : AS} {R R' : AS → Prop} (hr : ∀ σ, R σ → R' σ) (h : InlOp X ops o σ R) : InlOp X ops o σ R' :=
  ⟨fun γ a w i Qx hi hs => wpOp_mono (fun a' w' ⟨σ', h1, h2⟩ => ⟨σ', hr _ h1, h2⟩) (h.1 γ a w i Qx hi hs)⟩
theorem InlOp.eqv {X : Cx} {ops : Array Oper} {o : Oper} {σ σ' : AS} {R : AS → Prop} (he : Eqv σ σ') (h : InlOp X ops o σ R) : InlOp X ops o σ' R :=
  ⟨fun γ a w i Qx hi hs => h.1 γ a w i Qx hi (hs.congr he.symm)⟩
structure Cx.Ok (X : Cx) : Prop where
  mixed : X.P.follows .mixedOrders = true
  types : TOk X.P X.D
  calls : GOk X.P X.D X.G
  mok : ∀ (ops : Array Oper) (o : Oper) (σ : AS) (e : Eff), o.guard = none → mEff X.M σ o = some e → e.pre → fresh σ o.dst e = true → InlOp X ops o σ (fun σ' => Eqv (apply σ o.dst e) σ')
/-- a region, in the text's order -/
def regW (X : Cx) (off : List (Nat × Bool)) (ops : Array Oper) : List Oper → (AS → Prop) → AS → Prop
  | [], Q, σ => Q σ
  | o :: r, Q, σ => match opEff X.D X.G X.M X.nb off ops σ o with
    | none => InlOp X ops o σ (regW X off ops r Q)
    | some e => (fresh σ o.dst e = true ∧ e.pre) ∧ regW X off ops r Q (apply σ o.dst e)
/-- a region, its operations numbered; lo: those that may touch what is there -/
def regP (X : Cx) (off : List (Nat × Bool)) (ops : Array Oper) (lo : Lo) : List (Nat × Oper) → (AS → Prop) → AS → Prop
  | [], Q, σ => Q σ
  | (i, o) :: r, Q, σ => match opEff X.D X.G X.M X.nb off ops σ o with
    | none => mem i lo.lo = true ∧ InlOp X ops o σ (regP X off ops lo r Q)
    | some e => ((fresh σ o.dst e = true ∧ e.pre) ∧ still lo σ i o e = true) ∧ regP X off ops lo r Q (apply σ o.dst e)
def pairs : Nat → List Oper → List (Nat × Oper)
  | _, [] => []
  | i, o :: r => (i, o) :: pairs (i + 1) r

/-- what comes ahead of each operation, as bits -/
def preOf (acc : List Nat) (es : List Edge) : Nat := es.foldl (fun s e => if Region.binds .any e then s ||| 2 ^ e.on ||| acc.getD e.on 0 else s) 0
def masks : List Oper → List Nat → List Nat
  | [], acc => acc
  | o :: r, acc => masks r (acc ++ [preOf acc o.after.toList])
def apartB (ops : Array Oper) (lo : Lo) (j i : Nat) (oj oi : Oper) : Bool :=
  oj.apart ops oi && !mem i lo.lo && !mem j lo.lo && decide ((oj.dst.getD 0) % 4096 ≠ (oi.dst.getD 0) % 4096) && (!(mem i lo.uo) || (!mem j lo.ex && !mem j lo.uo)) && (!(mem j lo.uo) || (!mem i lo.ex && !mem i lo.uo))
def backB (i : Nat) (es : List Edge) : Bool := es.all fun e => !Region.binds .any e || decide (e.on < i)
def rowB (ops : Array Oper) (lo : Lo) (m i : Nat) (oi : Oper) : List (Nat × Oper) → Bool
  | [] => true
  | (j, oj) :: r => (decide (i ≤ j) || m.testBit j || apartB ops lo j i oj oi) && rowB ops lo m i oi r
def indepGo (ops : Array Oper) (lo : Lo) (ms : List Nat) (ps : List (Nat × Oper)) : List (Nat × Oper) → Bool
  | [] => true
  | (i, o) :: r => backB i o.after.toList && rowB ops lo (ms.getD i 0) i o ps && indepGo ops lo ms ps r
/-- operations that no edge orders are apart, and none of them may touch what is there -/
def indep (ops : Array Oper) (lo : Lo) : Bool := indepGo ops lo (masks ops.toList []) (pairs 0 ops.toList) (pairs 0 ops.toList)

section
variable {X : Cx} {off : List (Nat × Bool)} {ops : Array Oper} {lo : Lo} {σ σ' : AS}

theorem regP_cons {i : Nat} {o : Oper} {r : List (Nat × Oper)} {Q : AS → Prop} : regP X off ops lo ((i, o) :: r) Q σ ↔ (∃ e, opEff X.D X.G X.M X.nb off ops σ o = some e ∧ ((fresh σ o.dst e = true ∧ e.pre) ∧ still lo σ i o e = true) ∧ regP X off ops lo r Q (apply σ o.dst e)) ∨ (opEff X.D X.G X.M X.nb off ops σ o = none ∧ mem i lo.lo = true ∧ InlOp X ops o σ (regP X off ops lo r Q)) := by
  rw [regP]
  cases opEff X.D X.G X.M X.nb off ops σ o with
  | none => simp
  | some e => simp
theorem regP_some {i : Nat} {o : Oper} {r : List (Nat × Oper)} {Q : AS → Prop} (hi : mem i lo.lo = false) : regP X off ops lo ((i, o) :: r) Q σ ↔ ∃ e, opEff X.D X.G X.M X.nb off ops σ o = some e ∧ ((fresh σ o.dst e = true ∧ e.pre) ∧ still lo σ i o e = true) ∧ regP X off ops lo r Q (apply σ o.dst e) := by
  rw [regP_cons]
  constructor
  · rintro (h | ⟨_, h, _⟩)
    · exact h
    · rw [hi] at h; cases h
  · exact .inl

/-- every name is bound -/
structure Wf (σ : AS) : Prop where
  tm : ∀ t x, get t σ.tm = some x → ∀ n ∈ names x, (blk σ n).isSome = true
  cl : ∀ n cs, blk σ n = some (.cells cs) → ∀ m ∈ namess cs, (blk σ m).isSome = true
theorem St0.wf {D : Nat → TI} {S N0 : Nat → Prop} {B : Nat} {w0 : W0} {ρ : Env} {a : Act} {w : World} (h : St0 D S N0 B w0 ρ σ a w) : Wf σ := ⟨fun t x hx => (h.tm t x hx).2, h.hp.closed⟩

theorem Wf.opsB (h : Wf σ) {o : Oper} {n : Nat} (hn : n ∈ opsNs σ o) : (blk σ n).isSome = true := by
  obtain ⟨i, x, hx, hn⟩ := namess_mem hn
  rw [List.getElem?_map] at hx
  obtain ⟨y, hy, rfl⟩ := Option.map_eq_some_iff.1 hx
  cases y with
  | tmp t =>
    simp only [ev, tmv] at hn
    split at hn
    · cases hg : get t σ.tm with
      | none => rw [hg] at hn; simp [names] at hn
      | some x => rw [hg] at hn; exact h.tm t x hg n hn
    · simp [names] at hn
  | const v =>
    simp only [ev] at hn
    unfold cst at hn
    split at hn <;> simp [names] at hn
  | func f => simp [ev, names, namess] at hn
  | global g => simp [ev, names] at hn

theorem fkE_iff {e : Eff} : fkE e = true ↔ e.fr = [] := by
  unfold fkE
  cases e.fr <;> simp
theorem upNil_iff {e : Eff} : upNil e = true ↔ e.up = [] := by
  unfold upNil
  cases e.up <;> simp
theorem klNil_iff {e : Eff} : klNil e = true ↔ e.kl = [] := by
  unfold klNil
  cases e.kl <;> simp
theorem disj_mem {n : Nat} : ∀ {a b : List Nat}, disj a b = true → n ∈ a → n ∉ b
  | [], _, _, h => by cases h
  | k :: r, b, hs, h => by
    simp only [disj, Bool.and_eq_true, Bool.not_eq_true'] at hs
    rcases List.mem_cons.1 h with rfl | h
    · exact mem_false.1 hs.1
    · exact disj_mem hs.2 h
theorem get_tm_kl (σ : AS) (ns : List Nat) (t : Nat) : get t (kill σ ns).tm = (get t σ.tm).map (kl ns) := by
  rw [get_tm_kill_eq]
  split
  · rename_i h
    subst h
    rw [show (kl [] : AV → AV) = id from funext kl_nil]
  · rfl
theorem mapBlk_kl_nil (x : Blk) : mapBlk (kl []) x = x := by
  cases x with
  | rows e sz rs => rfl
  | cells cs => simp only [mapBlk]; rw [show (kl [] : AV → AV) = id from funext kl_nil]; simp
theorem mapBlk_id {ks : List Nat} {x : Blk} (h : ∀ cs, x = .cells cs → ∀ n ∈ namess cs, n ∉ ks) : mapBlk (kl ks) x = x := by
  cases x with
  | rows e sz rs => rfl
  | cells cs => simp only [mapBlk]; rw [← kls_eq, kls_id cs (h cs rfl)]
/-- behind an effect that freezes nothing -/
theorem apply_tm {d : Option Nat} {e : Eff} (h : fkE e = true) (t : Nat) : get t (apply σ d e).tm = if d = some t then some e.v else (get t σ.tm).map (kl e.kl) := by
  simp only [apply, fkE_iff.1 h, freeze, get_putT, get_tm_kl]
theorem apply_blk {d : Option Nat} {e : Eff} (h : fkE e = true) (n : Nat) : blk (apply σ d e) n = match get n e.nw with
    | some y => some y
    | none => match get n e.up with
      | some y => some y
      | none => if n ∈ e.kl then none else (blk σ n).map (mapBlk (kl e.kl)) := by
  rw [blk_apply, fkE_iff.1 h]
  simp only [freeze, blk_kill]
  cases get n e.nw with
  | some y => rfl
  | none =>
    cases get n e.up with
    | some y => rfl
    | none => rfl
theorem apply_mono {d : Option Nat} {e : Eff} (h : fkE e = true) {n : Nat} (hn : (blk σ n).isSome = true) (hk : n ∉ e.kl) : (blk (apply σ d e) n).isSome = true := by
  rw [apply_blk h]
  split
  · rfl
  · split
    · rfl
    · rw [if_neg hk]; simpa using hn
theorem nwNames_mem {n k : Nat} {cs : List AV} : ∀ {l : List (Nat × Blk)}, get k l = some (.cells cs) → n ∈ namess cs → n ∈ nwNames l
  | [], h, _ => by simp [get] at h
  | (j, .cells ds) :: r, h, hn => by
    simp only [get] at h
    simp only [nwNames, List.mem_append]
    split at h
    · simp only [Option.some.injEq, Blk.cells.injEq] at h; subst h; exact .inl hn
    · exact .inr (nwNames_mem h hn)
  | (j, .rows _ _ _) :: r, h, hn => by
    simp only [get] at h
    simp only [nwNames]
    split at h
    · simp at h
    · exact nwNames_mem h hn
theorem okE_bound (hw : Wf σ) {o : Oper} {d : Option Nat} {e : Eff} (hq : fkE e = true) (h : okE σ o e = true) (hkl : ∀ n ∈ names e.v ++ (nwNames e.nw ++ nwNames e.up), n ∉ e.kl) {n : Nat} (hn : n ∈ names e.v ++ (nwNames e.nw ++ nwNames e.up)) : (blk (apply σ d e) n).isSome = true := by
  have := subs_mem h hn
  have hnk := hkl n hn
  simp only [List.mem_append] at this
  rcases this with h1 | h1 | h1
  · obtain ⟨y, hy⟩ := mem_keys.1 h1
    rw [apply_blk hq, hy]
    rfl
  · exact apply_mono hq (hw.opsB h1) hnk
  · unfold bsOf at h1
    split at h1
    · cases h1
    obtain ⟨k, cs, hk, hm⟩ := blNames_mem h1
    exact apply_mono hq (hw.cl k cs (names_bl_snap hk) n hm) hnk
theorem Wf.apply (hw : Wf σ) {o : Oper} {d : Option Nat} {e : Eff} (hq : fkE e = true) (h : okE σ o e = true) (hkl : ∀ n ∈ names e.v ++ (nwNames e.nw ++ nwNames e.up), n ∉ e.kl) : Wf (apply σ d e) := by
  refine ⟨fun t x hx n hn => ?_, fun n cs hc m hm => ?_⟩
  · rw [apply_tm hq] at hx
    split at hx
    · cases hx
      exact okE_bound hw hq h hkl (List.mem_append_left _ hn)
    · obtain ⟨y, hy, rfl⟩ := Option.map_eq_some_iff.1 hx
      have := names_kl e.kl y n hn
      exact apply_mono hq (hw.tm t y hy n this.1) this.2
  · rw [apply_blk hq] at hc
    split at hc
    · rename_i y hy
      cases hc
      exact okE_bound hw hq h hkl (List.mem_append_right _ (List.mem_append_left _ (nwNames_mem hy hm)))
    · split at hc
      · rename_i y hy
        cases hc
        exact okE_bound hw hq h hkl (List.mem_append_right _ (List.mem_append_right _ (nwNames_mem hy hm)))
      · split at hc
        · cases hc
        · obtain ⟨y, hy, hyc⟩ := Option.map_eq_some_iff.1 hc
          cases y with
          | rows _ _ _ => cases hyc
          | cells ds =>
            simp only [mapBlk, Blk.cells.injEq] at hyc
            rw [← kls_eq] at hyc
            subst hyc
            have := namess_kls e.kl ds m hm
            exact apply_mono hq (hw.cl n ds hy m this.1) this.2

theorem opsNs_same {o : Oper} (hev : ∀ x ∈ o.op.operands, ev σ' x = ev σ x) : opsNs σ' o = opsNs σ o := by
  unfold opsNs
  rw [List.map_congr_left fun x hx => hev x (by simpa using hx)]
theorem okE_same {o : Oper} {e : Eff} (hns : opsNs σ' o = opsNs σ o) (h : Same σ σ' o) : okE σ' o e = okE σ o e := by
  unfold okE
  rw [hns, h.bs]
theorem upB_same {o : Oper} {e : Eff} (hns : opsNs σ' o = opsNs σ o) : upB lo σ' o e = upB lo σ o e := by
  unfold upB
  rw [hns]
theorem exB_same {i : Nat} {o : Oper} {e : Eff} (hev : ∀ x ∈ o.op.operands, ev σ' x = ev σ x) (h : Same σ σ' o) : exB lo σ' i o e = exB lo σ i o e := by
  have hns := opsNs_same hev
  have hm : o.op.operands.toList.map (ev σ') = o.op.operands.toList.map (ev σ) := List.map_congr_left fun x hx => hev x (by simpa using hx)
  unfold exB
  rw [hns, hm, h.bs]
  rcases h with h | h
  · rw [h]; simp
  · rw [snap_same h]
theorem still_same {i : Nat} {o : Oper} {e : Eff} (hev : ∀ x ∈ o.op.operands, ev σ' x = ev σ x) (h : Same σ σ' o) : still lo σ' i o e = still lo σ i o e := by
  unfold still
  rw [okE_same (opsNs_same hev) h, upB_same (opsNs_same hev), exB_same hev h]

/-- closed under what says the same -/
def Inv (Q : AS → Prop) : Prop := ∀ σ σ', Eqv σ σ' → Q σ → Q σ'
def clo (Q : AS → Prop) (σ : AS) : Prop := ∃ σ1, Eqv σ1 σ ∧ Q σ1
theorem clo_inv (Q : AS → Prop) : Inv (clo Q) := fun σ σ' h ⟨σ1, h1, h2⟩ => ⟨σ1, h1.trans h, h2⟩
theorem regP_mono {Q Q' : AS → Prop} (h : ∀ σ, Q σ → Q' σ) : ∀ {R : List (Nat × Oper)} {σ : AS}, regP X off ops lo R Q σ → regP X off ops lo R Q' σ
  | [], σ, hr => h σ hr
  | (i, o) :: r, σ, hr => by
    rcases regP_cons.1 hr with ⟨e, h1, h2, h3⟩ | ⟨h1, h2, h3⟩
    · exact regP_cons.2 (.inl ⟨e, h1, h2, regP_mono h h3⟩)
    · exact regP_cons.2 (.inr ⟨h1, h2, h3.mono fun σ => regP_mono h⟩)
theorem Eqv.opsNs (h : Eqv σ σ') (o : Oper) : opsNs σ' o = Ab.opsNs σ o := by
  unfold Ab.opsNs
  rw [List.map_congr_left fun x _ => ev_same fun t _ => h.tm t]
theorem Eqv.still (h : Eqv σ σ') {i : Nat} {o : Oper} {e : Eff} : still lo σ' i o e = Ab.still lo σ i o e :=
  still_same (fun x _ => ev_same fun t _ => h.tm t) (.inr fun n _ => h.bl n)
theorem regP_eqv {Q : AS → Prop} (hQ : Inv Q) : ∀ {R : List (Nat × Oper)} {σ σ' : AS}, Eqv σ σ' → regP X off ops lo R Q σ → regP X off ops lo R Q σ'
  | [], σ, σ', h, hr => hQ σ σ' h hr
  | (i, o) :: r, σ, σ', h, hr => by
    rcases regP_cons.1 hr with ⟨e, h1, ⟨⟨h2, h2'⟩, h2''⟩, h3⟩ | ⟨h1, h2, h3⟩
    · exact regP_cons.2 (.inl ⟨e, h.opEff h1, ⟨⟨h.fresh h2, h2'⟩, by rw [h.still]; exact h2''⟩, regP_eqv hQ (h.apply o.dst e) h3⟩)
    · refine regP_cons.2 (.inr ⟨?_, h2, h3.eqv h⟩)
      cases hq : opEff X.D X.G X.M X.nb off ops σ' o with
      | none => rfl
      | some e => rw [h.symm.opEff hq] at h1; cases h1

theorem looks_tmp {o : Oper} {x : Operand} {t : Nat} (hx : x ∈ o.op.operands) (e : x = .tmp t) : t ∈ o.looksAt ops := by
  subst e
  exact List.mem_append_left _ (List.mem_filterMap.2 ⟨.tmp t, by simpa using hx, rfl⟩)
theorem looks_guard {o : Oper} {j : Nat} {w : Bool} {t : Nat} (hg : o.guard = some (j, w)) (ht : (ops[j]?).bind (·.dst) = some t) : t ∈ o.looksAt ops := by
  unfold Oper.looksAt
  refine List.mem_append_right _ ?_
  rw [hg]
  simp [ht]

theorem mod_lem (a b c : Nat) (h : (c + a) % 4096 = (c + b) % 4096) : a % 4096 = b % 4096 := by omega
theorem ev_tmp (σ : AS) (t : Nat) : Ab.ev σ (.tmp t) = tmv σ t := rfl
/-- what is known of an operation that may do but little -/
theorem still_out {i : Nat} (hi : mem i lo.lo = false) {o : Oper} {e : Eff} (h : still lo σ i o e = true) : fkE e = true ∧ okE σ o e = true ∧ ((e.up = [] ∧ e.kl = [] ∧ exB lo σ i o e = true) ∨ (mem i lo.uo = true ∧ upB lo σ o e = true)) := by
  simp only [still, hi, Bool.or_false, Bool.and_eq_true, Bool.or_eq_true] at h
  obtain ⟨h1, h2, h3⟩ := h
  refine ⟨h1, h2, ?_⟩
  rcases h3 with ⟨h3, h4, h5⟩ | ⟨h3, h4⟩
  · exact .inl ⟨upNil_iff.1 h3, klNil_iff.1 h4, h5⟩
  · exact .inr ⟨h3, h4⟩
theorem upB_out {o : Oper} {e : Eff} (h : upB lo σ o e = true) : (∀ n ∈ keys e.up, n ∈ lo.un ∧ n ∈ opsNs σ o) ∧ (∀ n ∈ e.kl, n ∈ lo.kn ∧ n ∈ opsNs σ o) ∧ ∀ n ∈ names e.v ++ (nwNames e.nw ++ nwNames e.up), n ∉ e.kl := by
  simp only [upB, Bool.and_eq_true] at h
  obtain ⟨h1, h2, h3, h4, h5⟩ := h
  exact ⟨fun n hn => ⟨subs_mem h1 hn, subs_mem h2 hn⟩, fun n hn => ⟨subs_mem h3 hn, subs_mem h4 hn⟩, fun n hn => disj_mem h5 hn⟩
theorem still_kl {i : Nat} (hi : mem i lo.lo = false) {o : Oper} {e : Eff} (h : still lo σ i o e = true) : ∀ n ∈ names e.v ++ (nwNames e.nw ++ nwNames e.up), n ∉ e.kl := by
  obtain ⟨_, _, h3⟩ := still_out hi h
  rcases h3 with ⟨_, h3, _⟩ | ⟨_, h3⟩
  · rw [h3]; simp
  · exact (upB_out h3).2.2
theorem bcl_mem {bl : Nat → Option Blk} {n : Nat} {cs : List AV} : ∀ {l : List Nat}, bcl bl l = true → n ∈ l → bl n = some (.cells cs) → cleans cs = true
  | [], _, h, _ => by cases h
  | k :: r, hb, h, hn => by
    simp only [bcl, Bool.and_eq_true] at hb
    rcases List.mem_cons.1 h with rfl | h
    · have := hb.1; rw [hn] at this; exact this
    · exact bcl_mem hb.2 h hn
theorem blNames_of {bl : Nat → Option Blk} {n m : Nat} {cs : List AV} : ∀ {l : List Nat}, n ∈ l → bl n = some (.cells cs) → m ∈ namess cs → m ∈ blNames bl l
  | [], h, _, _ => by cases h
  | k :: r, h, hn, hm => by
    simp only [blNames]
    rcases List.mem_cons.1 h with rfl | h
    · rw [hn]; exact List.mem_append_left _ hm
    · split
      · exact List.mem_append_right _ (blNames_of h hn hm)
      · exact blNames_of h hn hm
theorem snap_mem {ns : List Nat} {n : Nat} (h : n ∈ ns) : snap σ ns n = blk σ n := by
  unfold snap
  rw [if_pos (mem_iff.2 h)]
theorem ne_nil_of {k : Nat} {l : List Nat} (h : k ∈ l) : isNil l = false := by
  cases l with
  | nil => cases h
  | cons _ _ => rfl
/-- what is known of a quiet operation that is not ordered with those that change something -/
theorem exB_out {i : Nat} {o : Oper} {e : Eff} (hx : mem i lo.ex = false) (h : exB lo σ i o e = true) :
    (∀ k ∈ lo.kn, o.guard = none ∧ (∀ n ∈ opsNs σ o, n ∉ lo.kn) ∧ cleans (o.op.operands.toList.map (ev σ)) = true ∧ (∀ n ∈ keys e.nw, n ∉ lo.kn) ∧ (blkFree o.op = true ∨ ((∀ n ∈ bsOf σ o.op (opsNs σ o), n ∉ lo.kn) ∧ bcl (snap σ (opsNs σ o)) (opsNs σ o) = true))) ∧
    (∀ k ∈ lo.un, blkFree o.op = true ∨ ∀ n ∈ opsNs σ o, n ∉ lo.un) := by
  simp only [exB, hx, Bool.false_or, Bool.or_eq_true, Bool.and_eq_true, Option.isNone_iff_eq_none] at h
  rcases h with ⟨h1, h2⟩ | ⟨h1, h2⟩
  · exact ⟨fun k hk => (by rw [ne_nil_of hk] at h2; cases h2), fun k hk => (by rw [ne_nil_of hk] at h1; cases h1)⟩
  · refine ⟨fun k hk => ?_, fun k hk => h2.imp id fun h => fun n hn => disj_mem h hn⟩
    rcases h1 with h1 | ⟨g1, g2, g3, g4, g5⟩
    · rw [ne_nil_of hk] at h1; cases h1
    · exact ⟨g1, fun n hn => disj_mem g2 hn, g3, fun n hn => disj_mem g4 hn, g5.imp id fun ⟨q1, q2⟩ => ⟨fun n hn => disj_mem q1 hn, q2⟩⟩
theorem tmv_apply {d : Option Nat} {e : Eff} (h : fkE e = true) {t : Nat} (ht : d ≠ some t) : tmv (apply σ d e) t = kl e.kl (tmv σ t) := by
  unfold tmv
  split
  · rw [apply_tm h, if_neg ht]
    cases get t σ.tm <;> simp [kl]
  · simp [kl]

/-- two that are apart change places -/
theorem swap {Q : AS → Prop} (hQ : Inv Q) (hw : Wf σ) {j i : Nat} {oj oi : Oper} {r : List (Nat × Oper)} (hap : apartB ops lo j i oj oi = true) (h : regP X off ops lo ((j, oj) :: (i, oi) :: r) Q σ) :
    regP X off ops lo ((i, oi) :: (j, oj) :: r) Q σ := by
  simp only [apartB, Bool.and_eq_true, Bool.or_eq_true, Bool.not_eq_true', decide_eq_true_eq] at hap
  obtain ⟨⟨⟨⟨⟨hap, hi⟩, hj⟩, hne⟩, hui⟩, huj⟩ := hap
  have hui' : mem i lo.uo = true → mem j lo.ex = false ∧ mem j lo.uo = false := fun e => hui.resolve_left (by rw [e]; simp)
  have huj' : mem j lo.uo = true → mem i lo.ex = false ∧ mem i lo.uo = false := fun e => huj.resolve_left (by rw [e]; simp)
  obtain ⟨a1, a2, a3⟩ := Oper.apart_spec hap
  obtain ⟨ej, j1, ⟨⟨j2, j3⟩, j4⟩, h⟩ := (regP_some hj).1 h
  obtain ⟨ei, i1, ⟨⟨i2, i3⟩, i4⟩, h⟩ := (regP_some hi).1 h
  have jkl := still_kl hj j4
  have ikl := still_kl hi i4
  obtain ⟨jq, jo, jc⟩ := still_out hj j4
  obtain ⟨iq, io, ic⟩ := still_out hi i4
  simp only [fresh, Bool.and_eq_true] at j2 i2
  obtain ⟨j2, j2'⟩ := j2
  obtain ⟨i2, i2'⟩ := i2
  have jun := unbound_iff.1 j2
  have iun := unbound_iff.1 i2
  -- j changes something: then i is quiet, and cares for it
  have jup : ∀ n ∈ keys ej.up, n ∈ lo.un ∧ n ∈ opsNs σ oj := fun n hn => by
    rcases jc with ⟨e, _⟩ | ⟨_, e⟩
    · rw [e] at hn; simp [keys] at hn
    · exact (upB_out e).1 n hn
  have jkn : ∀ n ∈ ej.kl, n ∈ lo.kn ∧ n ∈ opsNs σ oj := fun n hn => by
    rcases jc with ⟨_, e, _⟩ | ⟨_, e⟩
    · rw [e] at hn; cases hn
    · exact (upB_out e).2.1 n hn
  have jdo : (∃ n, n ∈ keys ej.up ∨ n ∈ ej.kl) → mem j lo.uo = true := fun ⟨n, hn⟩ => by
    rcases jc with ⟨e1, e2, _⟩ | ⟨e, _⟩
    · rw [e1, e2] at hn; simp [keys] at hn
    · exact e
  have iquiet : (∃ n, n ∈ keys ej.up ∨ n ∈ ej.kl) → ei.up = [] ∧ ei.kl = [] ∧ mem i lo.ex = false ∧ exB lo (apply σ oj.dst ej) i oi ei = true := fun hn => by
    have h1 := huj' (jdo hn)
    rcases ic with ⟨e1, e2, e3⟩ | ⟨e, _⟩
    · exact ⟨e1, e2, h1.1, e3⟩
    · rw [h1.2] at e; cases e
  -- what i sees
  have hev : ∀ x ∈ oi.op.operands, ev (apply σ oj.dst ej) x = ev σ x := fun x hx => by
    cases x with
    | tmp t =>
      have ht : oj.dst ≠ some t := fun hd => a1 t hd (looks_tmp hx rfl)
      rw [ev_tmp, ev_tmp, tmv_apply jq ht]
      by_cases hk : ej.kl = []
      · rw [hk, kl_nil]
      · obtain ⟨n, hn⟩ := List.exists_mem_of_ne_nil _ hk
        obtain ⟨_, _, h1, h2⟩ := iquiet ⟨n, .inr hn⟩
        have h3 := ((exB_out h1 h2).1 n (jkn n hn).1).2.2.1
        have h4 := cleans_mem h3 (List.mem_map_of_mem (f := ev (apply σ oj.dst ej)) (show Operand.tmp t ∈ oi.op.operands.toList by simpa using hx))
        rw [ev_tmp, tmv_apply jq ht] at h4
        exact clean_kl _ h4
    | _ => rfl
  have hns : opsNs (apply σ oj.dst ej) oi = opsNs σ oi := opsNs_same hev
  have hiK : ∀ n ∈ opsNs σ oi, n ∉ ej.kl := fun n hn hk => by
    obtain ⟨_, _, h1, h2⟩ := iquiet ⟨n, .inr hk⟩
    have h3 := ((exB_out h1 h2).1 n (jkn n hk).1).2.1 n (by rw [hns]; exact hn)
    exact h3 (jkn n hk).1
  have same1 : Same σ (apply σ oj.dst ej) oi := by
    by_cases hf : blkFree oi.op = true
    · exact .inl hf
    · refine .inr fun n hn => ?_
      have hb := hw.opsB hn
      rw [apply_blk jq]
      have h1 : get n ej.nw = none := get_none.2 fun hk => by rw [jun n hk] at hb; cases hb
      have h2 : get n ej.up = none := get_none.2 fun hk => by
        obtain ⟨_, _, g1, g2⟩ := iquiet ⟨n, .inl hk⟩
        rcases (exB_out g1 g2).2 n (jup n hk).1 with g3 | g3
        · exact hf g3
        · exact g3 n (by rw [hns]; exact hn) (jup n hk).1
      rw [h1, h2]
      simp only
      rw [if_neg (hiK n hn)]
      cases hbn : blk σ n with
      | none => rfl
      | some y =>
        simp only [Option.map_some]
        by_cases hk : ej.kl = []
        · rw [hk, mapBlk_kl_nil]
        · obtain ⟨k, hk⟩ := List.exists_mem_of_ne_nil _ hk
          obtain ⟨_, _, g1, g2⟩ := iquiet ⟨k, .inr hk⟩
          have g3 := (((exB_out g1 g2).1 k (jkn k hk).1).2.2.2.2).resolve_left hf
          cases y with
          | rows _ _ _ => rfl
          | cells cs =>
            have g4 : blk (apply σ oj.dst ej) n = some (.cells (kls ej.kl cs)) := by
              rw [apply_blk jq, h1, h2]
              simp only
              rw [if_neg (hiK n hn), hbn]
              simp only [Option.map_some, mapBlk, kls_eq]
            have g5 := bcl_mem g3.2 (n := n) (cs := kls ej.kl cs) (by rw [hns]; exact hn) (by rw [snap_mem (by rw [hns]; exact hn)]; exact g4)
            simp only [mapBlk]
            rw [← kls_eq, cleans_kls cs g5]
  have hun0 : ∀ n, n ∉ ej.kl → blk (apply σ oj.dst ej) n = none → blk σ n = none := fun n hk hn => by
    cases hb : blk σ n with
    | none => rfl
    | some y =>
      have := apply_mono (σ := σ) (d := oj.dst) jq (n := n) (by rw [hb]; rfl) hk
      rw [hn] at this
      cases this
  have hgi : guardOf (apply σ oj.dst ej) ops oi.guard = guardOf σ ops oi.guard := by
    by_cases hk : ej.kl = []
    · refine guardOf_same fun jj ww t hg ht => ?_
      rw [apply_tm jq, if_neg fun hd => a1 t hd (looks_guard hg ht), hk, show (kl [] : AV → AV) = id from funext kl_nil]
      simp
    · obtain ⟨k, hk⟩ := List.exists_mem_of_ne_nil _ hk
      obtain ⟨_, _, g1, g2⟩ := iquiet ⟨k, .inr hk⟩
      rw [((exB_out g1 g2).1 k (jkn k hk).1).1]
      rfl
  have k1 : opEff X.D X.G X.M X.nb off ops σ oi = some ei := by
    refine opEff_same (σ := apply σ oj.dst ej) (fun x hx => (hev x hx).symm) hgi.symm (same1.imp id fun hs n hn => by rw [hns] at hn; exact (hs n hn).symm) (fun hgn e0 _ hu => ?_) i1
    refine unbound_iff.2 fun n hn => hun0 n (fun hk => ?_) (unbound_iff.1 hu n hn)
    obtain ⟨_, _, g1, g2⟩ := iquiet ⟨n, .inr hk⟩
    exact hgn ((exB_out g1 g2).1 n (jkn n hk).1).1
  have iun' : ∀ n ∈ keys ei.nw, blk σ n = none := fun n hn => hun0 n (fun hk => by
    obtain ⟨_, _, g1, g2⟩ := iquiet ⟨n, .inr hk⟩
    exact ((exB_out g1 g2).1 n (jkn n hk).1).2.2.2.1 n hn (jkn n hk).1) (iun n hn)
  -- i changes something: then j is quiet
  have iup : ∀ n ∈ keys ei.up, n ∈ lo.un ∧ n ∈ opsNs σ oi := fun n hn => by
    rcases ic with ⟨e, _⟩ | ⟨_, e⟩
    · rw [e] at hn; simp [keys] at hn
    · have := (upB_out e).1 n hn; rw [hns] at this; exact this
  have ikn : ∀ n ∈ ei.kl, n ∈ lo.kn ∧ n ∈ opsNs σ oi := fun n hn => by
    rcases ic with ⟨_, e, _⟩ | ⟨_, e⟩
    · rw [e] at hn; cases hn
    · have := (upB_out e).2.1 n hn; rw [hns] at this; exact this
  have ido : (∃ n, n ∈ keys ei.up ∨ n ∈ ei.kl) → mem i lo.uo = true := fun ⟨n, hn⟩ => by
    rcases ic with ⟨e1, e2, _⟩ | ⟨e, _⟩
    · rw [e1, e2] at hn; simp [keys] at hn
    · exact e
  have jquiet : (∃ n, n ∈ keys ei.up ∨ n ∈ ei.kl) → ej.up = [] ∧ ej.kl = [] ∧ mem j lo.ex = false ∧ exB lo σ j oj ej = true := fun hn => by
    have h1 := hui' (ido hn)
    rcases jc with ⟨e1, e2, e3⟩ | ⟨e, _⟩
    · exact ⟨e1, e2, h1.1, e3⟩
    · rw [h1.2] at e; cases e
  have hbd : ∀ n, (blk σ n).isSome = true → n ∉ keys ei.nw := fun n hn hk => by rw [iun' n hk] at hn; cases hn
  have hjK : ∀ n ∈ opsNs σ oj, n ∉ ei.kl := fun n hn hk => by
    obtain ⟨_, _, h1, h2⟩ := jquiet ⟨n, .inr hk⟩
    exact ((exB_out h1 h2).1 n (ikn n hk).1).2.1 n hn (ikn n hk).1
  have hev2 : ∀ x ∈ oj.op.operands, ev (apply σ oi.dst ei) x = ev σ x := fun x hx => by
    cases x with
    | tmp t =>
      have ht : oi.dst ≠ some t := fun hd => a3 t hd (looks_tmp hx rfl)
      rw [ev_tmp, ev_tmp, tmv_apply iq ht]
      refine kl_id _ fun n hn => hjK n ?_
      obtain ⟨q, hq⟩ := List.getElem?_of_mem (show Operand.tmp t ∈ oj.op.operands.toList by simpa using hx)
      exact mem_namess (i := q) (x := ev σ (.tmp t)) (by rw [List.getElem?_map, hq]; rfl) hn
    | _ => rfl
  have hns2 : opsNs (apply σ oi.dst ei) oj = opsNs σ oj := opsNs_same hev2
  have hjbs : ∀ n ∈ bsOf σ oj.op (opsNs σ oj), n ∉ ei.kl := fun n hn hk => by
    obtain ⟨_, _, g1, g2⟩ := jquiet ⟨n, .inr hk⟩
    rcases ((exB_out g1 g2).1 n (ikn n hk).1).2.2.2.2 with g3 | g3
    · unfold bsOf at hn; rw [if_pos g3] at hn; cases hn
    · exact g3.1 n hn (ikn n hk).1
  have same2 : Same σ (apply σ oi.dst ei) oj := by
    by_cases hf : blkFree oj.op = true
    · exact .inl hf
    · refine .inr fun n hn => ?_
      have hb := hw.opsB hn
      rw [apply_blk iq]
      have h1 : get n ei.nw = none := get_none.2 (hbd n hb)
      have h2 : get n ei.up = none := get_none.2 fun hk => by
        obtain ⟨_, _, g1, g2⟩ := jquiet ⟨n, .inl hk⟩
        rcases (exB_out g1 g2).2 n (iup n hk).1 with g3 | g3
        · exact hf g3
        · exact g3 n hn (iup n hk).1
      rw [h1, h2]
      simp only
      rw [if_neg (hjK n hn)]
      cases hbn : blk σ n with
      | none => rfl
      | some y =>
        simp only [Option.map_some]
        rw [mapBlk_id]
        rintro cs rfl m hm
        refine hjbs m ?_
        unfold bsOf
        rw [if_neg hf]
        exact blNames_of hn (by rw [snap_mem hn]; exact hbn) hm
  have hmod : ∀ n, n ∈ keys ei.nw → n % 4096 = (X.nb + oj.dst.getD 0) % 4096 → False := fun n hn hm => hne (mod_lem _ _ _ (hm.symm.trans (opEff_quiet_nw k1 n hn)))
  have hub : ∀ n, blk σ n = none → n ∉ keys ei.up := fun n hn hk => by have := hw.opsB (iup n hk).2; rw [hn] at this; cases this
  have hkb : ∀ n, blk σ n = none → n ∉ ei.kl := fun n hn hk => by have := hw.opsB (ikn n hk).2; rw [hn] at this; cases this
  have hnone : ∀ n, n ∉ keys ei.nw → blk σ n = none → blk (apply σ oi.dst ei) n = none := fun n hn hb => by
    rw [apply_blk iq, get_none.2 hn, get_none.2 (hub n hb), hb]
    simp
  have hgj : guardOf (apply σ oi.dst ei) ops oj.guard = guardOf σ ops oj.guard := by
    by_cases hk : ei.kl = []
    · refine guardOf_same fun jj ww t hg ht => ?_
      rw [apply_tm iq, if_neg fun hd => a3 t hd (looks_guard hg ht), hk, show (kl [] : AV → AV) = id from funext kl_nil]
      simp
    · obtain ⟨k, hk⟩ := List.exists_mem_of_ne_nil _ hk
      obtain ⟨_, _, g1, g2⟩ := jquiet ⟨k, .inr hk⟩
      rw [((exB_out g1 g2).1 k (ikn k hk).1).1]
      rfl
  have k2 : opEff X.D X.G X.M X.nb off ops (apply σ oi.dst ei) oj = some ej := by
    refine opEff_same (σ := σ) hev2 hgj same2 (fun _ e0 h0 hu => ?_) j1
    exact unbound_iff.2 fun n hn => hnone n (fun hk => hmod n hk (baseE_nw h0 n hn)) (unbound_iff.1 hu n hn)
  have hij : ∀ n, n ∈ keys ej.nw → n ∉ keys ei.nw := fun n hn hk => hmod n hk (opEff_quiet_nw j1 n hn)
  refine (regP_some hi).2 ⟨ei, k1, ⟨⟨?_, i3⟩, ?_⟩, (regP_some hj).2 ⟨ej, k2, ⟨⟨?_, j3⟩, ?_⟩, regP_eqv hQ ?_ h⟩⟩
  · simp only [fresh, Bool.and_eq_true]
    exact ⟨unbound_iff.2 iun', i2'⟩
  · rw [← still_same hev same1]
    exact i4
  · simp only [fresh, Bool.and_eq_true]
    exact ⟨unbound_iff.2 fun n hn => hnone n (hij n hn) (jun n hn), j2'⟩
  · rw [still_same hev2 same2]
    exact j4
  · -- the same state in the end
    have hju : ∀ n, n ∈ keys ej.up → n ∉ keys ei.nw := fun n hn => hbd n (hw.opsB (jup n hn).2)
    have hjn : ∀ n, n ∈ keys ej.nw → n ∉ keys ei.up := fun n hn => hub n (jun n hn)
    have huu : ∀ n, n ∈ keys ej.up → n ∉ keys ei.up := fun n hn hk => by
      rw [(iquiet ⟨n, .inl hn⟩).1] at hk; simp [keys] at hk
    have hvj : ∀ n ∈ names ej.v ++ (nwNames ej.nw ++ nwNames ej.up), n ∉ ei.kl := fun n hn hk => by
      have := subs_mem jo hn
      simp only [List.mem_append] at this
      rcases this with h1 | h1 | h1
      · exact hkb n (jun n h1) hk
      · exact hjK n h1 hk
      · exact hjbs n h1 hk
    have hvi : ∀ n ∈ names ei.v ++ (nwNames ei.nw ++ nwNames ei.up), n ∉ ej.kl := fun n hn hk => by
      have := subs_mem io hn
      obtain ⟨_, _, g1, g2⟩ := iquiet ⟨n, .inr hk⟩
      have g3 := (exB_out g1 g2).1 n (jkn n hk).1
      simp only [List.mem_append] at this
      rcases this with h1 | h1 | h1
      · exact g3.2.2.2.1 n h1 (jkn n hk).1
      · exact g3.2.1 n h1 (jkn n hk).1
      · rcases g3.2.2.2.2 with g4 | g4
        · unfold bsOf at h1; rw [if_pos g4] at h1; cases h1
        · exact g4.1 n h1 (jkn n hk).1
    have hone : ej.kl = [] ∨ ei.kl = [] := by
      by_cases hk : ej.kl = []
      · exact .inl hk
      · obtain ⟨k, hk⟩ := List.exists_mem_of_ne_nil _ hk
        exact .inr (iquiet ⟨k, .inr hk⟩).2.1
    have hcomm : ∀ x : AV, kl ei.kl (kl ej.kl x) = kl ej.kl (kl ei.kl x) := fun x => by
      rcases hone with h1 | h1
      · rw [h1, kl_nil, kl_nil]
      · rw [h1, kl_nil, kl_nil]
    have hcommB : ∀ x : Blk, mapBlk (kl ei.kl) (mapBlk (kl ej.kl) x) = mapBlk (kl ej.kl) (mapBlk (kl ei.kl) x) := fun x => by
      rcases hone with h1 | h1
      · rw [h1, mapBlk_kl_nil, mapBlk_kl_nil]
      · rw [h1, mapBlk_kl_nil, mapBlk_kl_nil]
    refine ⟨rfl, fun t => ?_, fun n => ?_⟩
    · rw [apply_tm jq, apply_tm iq, apply_tm iq, apply_tm jq]
      by_cases h1 : oj.dst = some t
      · have h2 : oi.dst ≠ some t := a2 t h1
        rw [if_pos h1, if_neg h2, if_pos h1, Option.map_some, kl_id _ fun n hn => hvj n (List.mem_append_left _ hn)]
      · rw [if_neg h1, if_neg h1]
        by_cases h2 : oi.dst = some t
        · rw [if_pos h2, if_pos h2, Option.map_some, kl_id _ fun n hn => hvi n (List.mem_append_left _ hn)]
        · rw [if_neg h2, if_neg h2]
          cases get t σ.tm with
          | none => rfl
          | some x => simp only [Option.map_some]; rw [hcomm]
    · have bj : ∀ y, get n ej.nw = some y ∨ get n ej.up = some y → mapBlk (kl ei.kl) y = y := fun y hy => mapBlk_id (by
        rintro cs rfl m hm
        refine hvj m (List.mem_append_right _ (List.mem_append.2 ?_))
        exact hy.imp (fun h => nwNames_mem h hm) (fun h => nwNames_mem h hm))
      have bi : ∀ y, get n ei.nw = some y ∨ get n ei.up = some y → mapBlk (kl ej.kl) y = y := fun y hy => mapBlk_id (by
        rintro cs rfl m hm
        refine hvi m (List.mem_append_right _ (List.mem_append.2 ?_))
        exact hy.imp (fun h => nwNames_mem h hm) (fun h => nwNames_mem h hm))
      rw [apply_blk jq, apply_blk iq, apply_blk iq, apply_blk jq]
      cases c1 : get n ej.nw with
      | some y =>
        have hm := mem_keys.2 ⟨y, c1⟩
        rw [get_none.2 (hij n hm), get_none.2 (hjn n hm)]
        simp only
        rw [if_neg (hkb n (jun n hm)), Option.map_some, bj y (.inl c1)]
      | none =>
        simp only
        cases c2 : get n ej.up with
        | some y =>
          have hm := mem_keys.2 ⟨y, c2⟩
          rw [get_none.2 (hju n hm), get_none.2 (huu n hm)]
          simp only
          rw [if_neg (hjK n (jup n hm).2), Option.map_some, bj y (.inr c2)]
        | none =>
          simp only
          cases c3 : get n ei.nw with
          | some y =>
            have hm := mem_keys.2 ⟨y, c3⟩
            simp only
            have hnk : n ∉ ej.kl := fun hk => by
              have := hw.opsB (jkn n hk).2
              rw [iun' n hm] at this; cases this
            rw [if_neg hnk, Option.map_some, bi y (.inl c3)]
          | none =>
            simp only
            cases c4 : get n ei.up with
            | some y =>
              have hm := mem_keys.2 ⟨y, c4⟩
              simp only
              rw [if_neg (hiK n (iup n hm).2), Option.map_some, bi y (.inr c4)]
            | none =>
              simp only
              by_cases d1 : n ∈ ei.kl <;> by_cases d2 : n ∈ ej.kl <;> cases blk σ n <;> simp [d1, d2, hcommB]

/-- one that nobody ahead of it hinders comes to the front -/
theorem front {Q : AS → Prop} (hQ : Inv Q) {i : Nat} {oi : Oper} {post : List (Nat × Oper)} : ∀ {pre : List (Nat × Oper)} {σ : AS}, Wf σ → (∀ p ∈ pre, apartB ops lo p.1 i p.2 oi = true) →
    regP X off ops lo (pre ++ (i, oi) :: post) Q σ → regP X off ops lo ((i, oi) :: (pre ++ post)) Q σ
  | [], σ, _, _, h => h
  | (j, oj) :: pre, σ, hw, hap, h => by
    have h1 := hap (j, oj) (List.mem_cons_self ..)
    have hj : mem j lo.lo = false := by
      simp only [apartB, Bool.and_eq_true, Bool.not_eq_true'] at h1
      exact h1.1.1.1.2
    obtain ⟨ej, j1, ⟨j2, j3⟩, h⟩ := (regP_some hj).1 h
    have j3' := still_out hj j3
    have := front hQ (hw.apply (d := oj.dst) j3'.1 j3'.2.1 (still_kl hj j3)) (fun p hp => hap p (List.mem_cons_of_mem _ hp)) h
    exact swap hQ hw h1 ((regP_some hj).2 ⟨ej, j1, ⟨j2, j3⟩, this⟩)
end
end Go.Proofs.Ytcgdjdlcecnanaa.Ab
