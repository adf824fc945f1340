/-
  Texts of the proof, one behind the other: RwA RwU RwB RwC RwD.
  No condition but those that each theorem names.
-/
import Derived.Test.YtmlejhpeoiicpaaGreatDoorGU
import Derived.Test.YtmlejhpeoiicpaaGreatDoorGC
import Derived.Test.YtmlejhpeoiicpaaGreatDoorGI
import Derived.Test.YtmlejhpeoiicpaaGreatDoorGJ
import Derived.Test.YtmlejhpeoiicpaaGreatDoorGK
namespace Go.Proofs.YtmlejhpeoiicpaaGreatDoor.Ab
open Go Go.RowKit
set_option linter.unusedVariables false
set_option linter.unusedSimpArgs false

def flH (l : List LProp) : Wd := l.flatMap fun p => [13, 10, 112, 45] ++ p.key.data.toList ++ [58, 32] ++ valueS p
theorem flH_len : ∀ (l : List LProp), (∀ p ∈ l, VOk p ∧ p.key.size + (valueS p).length ≤ 1000000) → (flH l).length ≤ 1000006 * l.length
  | [], _ => by simp [flH]
  | p :: r, h => by
    have ih := flH_len r fun q hq => h q (List.mem_cons_of_mem p hq)
    have hp := (h p (List.mem_cons_self ..)).2
    have hk : p.key.data.toList.length = p.key.size := rfl
    unfold flH at *
    simp only [List.flatMap_cons, List.length_append, List.length_cons, List.length_nil]
    omega
theorem flH_take {l : List LProp} {i : Nat} (h : i < l.length) : flH (l.take (i + 1)) = flH (l.take i) ++ ([13, 10, 112, 45] ++ (l.getD i propD).key.data.toList ++ [58, 32] ++ valueS (l.getD i propD)) := by
  rw [take_prop h]
  simp [flH]
def rpageB (first : Wd) (n : LNote) : Wd := first ++ flH n.props ++ [13, 10] ++ clenW n.body.length ++ [13, 10, 13, 10] ++ n.body
def tailC (l : List Wd) : Wd := l.flatMap fun w => [13, 10] ++ w
theorem join_tailC (w : Wd) : ∀ l : List Wd, Lib.join (w :: l) [13, 10] = w ++ tailC l
  | [] => by rw [Lib.join_one]; simp [tailC]
  | v :: r => by
    rw [join_two, join_tailC v r]
    simp [tailC]
theorem rpage_same (first : Wd) (hs : List Wd) (n : LNote) : rpageB (Lib.join (first :: hs) [13, 10]) n = pageB first hs n := by
  unfold rpageB pageB pageL
  rw [join_tailC, List.cons_append, List.nil_append, List.cons_append, List.cons_append, join_tailC]
  have h : ∀ l : List LProp, tailC (pheads l) = flH l := fun l => by
    induction l with
    | nil => rfl
    | cons p r ih =>
      have e : tailC (pheads (p :: r)) = [13, 10] ++ phead p ++ tailC (pheads r) := by simp [tailC, pheads]
      rw [e, ih]
      simp [flH, phead]
  have e : ∀ a b : List Wd, tailC (a ++ b) = tailC a ++ tailC b := fun a b => by simp [tailC]
  rw [e, e, h]
  simp [tailC]
theorem rpage_one (first : Wd) (n : LNote) : rpageB first n = pageB first [] n := by
  have := rpage_same first [] n
  rwa [Lib.join_one] at this
def RPOk (first : Wd) (n : LNote) : Prop := first.length ≤ 16777216 ∧ WNOk n
set_option maxRecDepth 100000 in
theorem con_rpage (first : Wd) (n : LNote) (hf : first.length ≤ 16777216) (hn : WNOk n) : Con Tryz.prog D 70 [.str first, noteA n] ⟨.sl 1 ((rpageB first n).map byteRow), []⟩ := by
  have hok : GOk Tryz.prog D (tabG [eItoa, eRvalue]) := tabG_ok _
  have g1 := tabG_use (T := [eItoa, eRvalue]) (E := eItoa) (i := 0) rfl (by decide) ((n.body.length : Int)) (⟨by omega, by have := hn.2.1; omega⟩)
  have g2 := fun (p : LProp) (h : VOk p) => tabG_use (T := [eItoa, eRvalue]) (E := eRvalue) (i := 1) rfl (by decide) (p) (h)
  generalize tabG [eItoa, eRvalue] = G at *
  dsimp only [eItoa] at g1
  dsimp only [eRvalue] at g2
  obtain ⟨hn1, hn2, hn3⟩ := hn
  have hwl : ∀ i, (flH (n.props.take i)).length ≤ 1000006 * i := fun i => by
    have h1 := flH_len (n.props.take i) fun p hp => hn3 p (List.mem_of_mem_take hp)
    have h2 : (n.props.take i).length ≤ i := by rw [List.length_take]; omega
    have := Nat.mul_le_mul_left 1000006 h2
    omega
  have hil := Lib.itoa_length_le (n.body.length : Int) (by omega) (by omega)
  unfold rpageB clenW
  obtain ⟨ps, bs⟩ := n
  simp only at g1 hn1 hn2 hn3 hwl hil
  generalize Lib.itoa (bs.length : Int) = it at *
  refine conW (G := G) (rs := [(4, none)]) hok Tryz.func70 Tryz.results70 Tryz.ntmps70 (fun _ => {}) fun X hP hD hG' hX => ?_
  simp only [argS, num, noteA]
  simp (disch := omega) only [go_sem, hD, hG', unbox]
  refine Tr.loop (ι := Nat) (fun i => i ≤ ps.length) (fun i => { nt := 39, tm := [(3, .ptr 3 0), (5, .str (first ++ flH (ps.take i))), (10, .sl 4 (ps.map propRow)), (11, .int .i64 ps.length), (12, .int .i64 i)], bl := [(3, some (.cells [.sl 4 (ps.map propRow), .sl 1 (bs.map byteRow)]))] }) (fun i => ps.length - i) 0
    ⟨Nat.zero_le _, wk_of hD [(3, 3)] rfl rfl (by simp only [go_sem]; simp [flH]) (by simp only [go_sem])⟩ ?_
  intro i hi
  refine evC_sound hX (fun _ => {}) _ _ _ ?_
  simp (disch := omega) only [go_sem, hD, hG', unbox]
  refine condK_split (fun h => ?_) (fun h => ?_)
  · rw [decide_eq_true_eq] at h
    have hi1 : i < ps.length := by omega
    have hgx := propGet hi1
    have hti := flH_take hi1
    obtain ⟨hv, hk⟩ := hn3 _ (getD_in (d := propD) hi1)
    have hvl := hwl i
    have g2 := g2 _ hv
    generalize ps.getD i propD = p at *
    generalize flH (ps.take i) = acc at *
    have hkl : p.key.data.toList.length = p.key.size := rfl
    generalize valueS p = vs at *
    obtain ⟨p1, p2, p3, p4⟩ := p
    simp only at hkl hti hk
    simp only [propRow] at hgx g2
    simp (disch := omega) only [go_sem, hD, hG', hgx, g2, unbox]
    (repeat (with_reducible refine And.intro (by first | omega | decide | (simp; done) | (simp only [List.length_append, List.length_cons, List.length_nil, List.length_map]; omega)) ?_))
    refine ⟨i + 1, ⟨by omega, by omega⟩, wk_of hD [(3, 3)] rfl rfl ?_ ?_⟩ <;> simp only [go_sem]
    simp [hti]
  · rw [decide_eq_false_iff_not] at h
    have hie : i = ps.length := by omega
    subst hie
    have hvl := hwl ps.length
    rw [List.take_length] at *
    generalize flH ps = acc at *
    simp (disch := omega) only [go_sem, hD, hG', g1, unbox]
    (repeat (with_reducible refine And.intro (by first | omega | decide | (simp; done) | (simp only [List.length_append, List.length_cons, List.length_nil, List.length_map]; omega)) ?_))
    refine endW [] [] (by simp) rfl rfl rfl ?_ ?_ <;> simp only [go_sem]
    simp
def eRpage : Ent Tryz.prog D := ⟨70, Wd × LNote × Bool, fun x => [.str x.1, pgN x.2.2 x.2.1], fun x => RPOk x.1 x.2.1 ∧ (x.2.2 = true → x.2.1 = note0), fun x => ⟨.sl 1 ((rpageB x.1 x.2.1).map byteRow), []⟩, fun x y hx hy h => by
  obtain ⟨a, n, b⟩ := x
  obtain ⟨a', n', b'⟩ := y
  simp only [List.cons.injEq, AV.str.injEq, and_true] at h
  have this : n = n' := pgN_inj hx.2 hy.2 h.2
  simp only
  rw [h.1, this], fun x h => by
  obtain ⟨a, n, b⟩ := x
  obtain ⟨⟨h1, h2⟩, h3⟩ := h
  simp only at h1 h2 h3
  cases b
  · exact con_rpage a n h1 h2
  · have h3 := h3 rfl
    subst h3
    exact Con.weak (con_rpage a note0 h1 h2) (by simp [pgN, noteA, note0, covs, cov])⟩
end Go.Proofs.YtmlejhpeoiicpaaGreatDoor.Ab
namespace Go.Proofs.YtmlejhpeoiicpaaGreatDoor.Ab
open Go Go.RowKit
set_option linter.unusedVariables false
set_option linter.unusedSimpArgs false

section
variable {X : Cx} {γ : Nat → Value} {ops : Array Oper} {Qx : Exit → Act → World → Prop} {σ : AS} {ρ : Env} {wb : World}
variable {hv : List (Nat × Value)} {mp : Option (Nat × List MapEntry)} {a : Act} {w : World} {K : Act → World → Prop}
theorem mc_text (h : Mc X γ σ ρ wb hv mp a w) {i ad T T2 ty : Nat} {x y : Operand} {u it : List UInt8} {p : String} {af : Array Edge} (ho : ops[i]? = some ⟨some ad, .binOp .add T x y T2, ty, p, af, none⟩)
    (e1 : a.eval x = .string ⟨⟨u⟩⟩) (e2 : a.eval y = .string ⟨⟨it⟩⟩) (hl : u.length + it.length ≤ 1099511627776) (hm : ad < σ.nt) (hn : get ad σ.tm = none) (hp : ∀ p ∈ hv, ad ≠ p.1)
    (hK : ∀ a' w', Mc X γ σ ρ wb ((ad, .string ⟨⟨u ++ it⟩⟩) :: hv) mp a' w' → K a' w') : wpOp X.P ops Qx i K a w := by
  have hex : execOp a.eval ⟨some ad, .binOp .add T x y T2, ty, p, af, none⟩ = (do pure (.value (← (do eqGuard .add T x y (a.eval x) (a.eval y); binOp .add T (a.eval x) (a.eval y))))) := rfl
  refine wpOp_plain ho rfl (wp_of_value hex (v := .string ⟨⟨u ++ it⟩⟩) (w' := w) ?_ (hK _ _ (h.put hm hn hp _)))
  rw [e1, e2]
  have z1 : (⟨⟨u⟩⟩ : ByteArray).size = u.length := rfl
  have z2 : (⟨⟨it⟩⟩ : ByteArray).size = it.length := rfl
  have ha : (⟨⟨u⟩⟩ : ByteArray) ++ ⟨⟨it⟩⟩ = ⟨⟨u ++ it⟩⟩ := ByteArray.ext (by simp)
  simp [eqGuard, binOp, Op.stringOp, ha, z1, z2, IntKind.max, IntKind.signed, IntKind.bits]
  omega
/-- the map is there: the evaluator goes on -/
theorem mc_done {b m : Nat} {es : List MapEntry} (h : Mc X γ σ ρ wb hv (some (b, es)) a w) (hm : (m, Value.map (some b)) ∈ hv) (hmt : m < σ.nt) :
    X.St γ { σ with tm := (m, .imap (es.map fun e => (e.key, e.val))) :: σ.tm } a w := by
  obtain ⟨h1, h2, h3⟩ := h.mp b es rfl
  have hst := h.st.more h.fr
  have hme := h.hv _ hm
  simp only at hme
  have h4 := hst.put (d := m) (x := .imap (es.map fun e => (e.key, e.val))) (v := .map (some b)) hmt ?_ (by simp [names])
  · have e : a.put (some m) (.map (some b)) = a := by
      have hlt : m < a.tmps.size := by rw [h.st.nt.1]; exact hmt
      have hg : a.tmps[m] = .map (some b) := by
        have : a.tmps.getD m undef = .map (some b) := hme
        simpa [hlt] using this
      unfold Act.put
      rw [← hg]
      have e2 : a.tmps.setIfInBounds m a.tmps[m] = a.tmps := by
        apply Array.ext
        · simp
        · intro j h1 h2
          rw [Array.getElem_setIfInBounds (by simpa using h1)]
          split
          · rename_i e; subst e; rfl
          · rfl
      simp only [e2]
    rw [e] at h4
    exact ⟨ρ, h4⟩
  · refine .imap _ b es.length es.toArray ⟨h2, .inr (.inl ?_), fun n x hx hb => ?_⟩ h3 (by simp)
    · exact Nat.le_trans (Nat.le_trans h.st.base.1 h.st.frm.size) h1
    · have := h.st.owns_lt hx hb
      omega
theorem rest_sound (hX : X.Ok) {Q : Exit → AS → Prop} {r : List Oper} {k : Nat} {σ' : AS} (hl : ∀ j, r[j]? = ops[k + j]?) (hs : X.St γ σ' a w) (h : regW X [] ops r (Q .normal) σ') :
    wpOps X.P ops (fun e a w => ∃ σ', Q e σ' ∧ X.St γ σ' a w) (List.range' k r.length) a w := regW_sound hX (fun σ' a' w' h1 h2 => ⟨σ', h1, h2⟩) r k σ' a w hl hs h
def wpSeq (P : Program) (ops : Array Oper) (Qx : Exit → Act → World → Prop) : List Nat → (Act → World → Prop) → Act → World → Prop
  | [], K => K
  | i :: r, K => fun a w => wpOp P ops Qx i (wpSeq P ops Qx r K) a w
theorem wpSeq_ops : ∀ (l rest : List Nat) (a : Act) (w : World), wpSeq X.P ops Qx l (wpOps X.P ops Qx rest) a w → wpOps X.P ops Qx (l ++ rest) a w
  | [], rest, a, w, h => h
  | i :: r, rest, a, w, h => by
    rw [List.cons_append, wpOps_cons]
    exact wpOp_mono (fun a' w' h' => wpSeq_ops r rest a' w' h') h
theorem seq_step {k n : Nat} (h : wpOp X.P ops Qx k (wpSeq X.P ops Qx (List.range' (k + 1) n) K) a w) : wpSeq X.P ops Qx (List.range' k (n + 1)) K a w := h
theorem seq_frm {k n : Nat} (h : wpOp X.P ops Qx k (fun a' w' => Frm (fun _ => False) wb.heap.size wb w' ∧ wpSeq X.P ops Qx (List.range' (k + 1) n) K a' w') a w) : wpSeq X.P ops Qx (List.range' k (n + 1)) K a w :=
  wpOp_mono (fun _ _ h => h.2) h
/-- a region in the text's order: a map is written out by the first k operations; the evaluator does the others -/
theorem Tr.pend (hX : X.Ok) {id : Nat} {Q : Exit → AS → Prop} (k : Nat) {m : Nat} {kvs : List (Value × Value)} (hk : k ≤ ops.size) (hm : m < σ.nt)
    (hA : ∀ (γ : Nat → Value) (ρ : Env) (a : Act) (w : World) (Qx : Exit → Act → World → Prop) (K : Act → World → Prop), St0 X.D X.S X.N0 X.B ⟨X.w0, γ⟩ ρ σ a w →
      (∀ b es hv a' w', (es.map fun e : MapEntry => (e.key, e.val)) = kvs → (m, Value.map (some b)) ∈ hv → Mc X γ σ ρ w hv (some (b, es)) a' w' → K a' w') → wpSeq X.P ops Qx (List.range' 0 k) K a w)
    (hB : regW X [] ops (ops.toList.drop k) (Q .normal) { σ with tm := (m, .imap kvs) :: σ.tm }) : Tr X (.region id ops false) Q σ := by
  rintro γ a w ⟨ρ, hs⟩
  refine wp_region ?_
  rw [range_parts ops.size k hk]
  refine wpSeq_ops _ _ a w (hA γ ρ a w _ _ hs fun b es hv a' w' he hmm hmc => ?_)
  have hst := mc_done hmc hmm hm
  rw [he] at hst
  have hl : (ops.toList.drop k).length = ops.size - k := by simp
  rw [← hl]
  exact rest_sound hX (fun j => by simp) hst hB
end
end Go.Proofs.YtmlejhpeoiicpaaGreatDoor.Ab
namespace Go.Proofs.YtmlejhpeoiicpaaGreatDoor.Ab
open Go Go.RowKit
set_option linter.unusedVariables false
set_option linter.unusedSimpArgs false

def mapPg (qp it : Wd) : List (Value × Value) := [(.int .i64 1, .string ⟨⟨[71, 69, 84, 32, 47, 112, 105, 110, 103]⟩⟩), (.int .i64 2, .string ⟨⟨[80, 85, 84, 32] ++ qp ++ [47] ++ it⟩⟩), (.int .i64 3, .string ⟨⟨[68, 69, 76, 69, 84, 69, 32] ++ qp⟩⟩), (.int .i64 4, .string ⟨⟨[80, 79, 83, 84, 32] ++ qp⟩⟩), (.int .i64 5, .string ⟨⟨[71, 69, 84, 32] ++ qp⟩⟩), (.int .i64 6, .string ⟨⟨[71, 69, 84, 32] ++ qp ++ [47] ++ it⟩⟩), (.int .i64 7, .string ⟨⟨[68, 69, 76, 69, 84, 69, 32, 47, 116, 97, 103, 47] ++ it⟩⟩), (.int .i64 8, .string ⟨⟨[80, 79, 83, 84, 32, 47, 116, 97, 103, 47] ++ it⟩⟩), (.int .i64 9, .string ⟨⟨[68, 69, 76, 69, 84, 69, 32] ++ qp ++ [47, 105, 116, 101, 109, 115]⟩⟩)]
theorem mapPg_look (k : Int) (q it : Wd) (hk : 1 ≤ k ∧ k ≤ 9) : lookV (.int .i64) (.int .i64 k) (.string ⟨#[]⟩) (mapPg ([47, 113, 117, 101, 117, 101, 47] ++ q) it) = some (.string ⟨⟨(pathF k q it).1 ++ [32] ++ (pathF k q it).2⟩⟩) := by
  have : k = 1 ∨ k = 2 ∨ k = 3 ∨ k = 4 ∨ k = 5 ∨ k = 6 ∨ k = 7 ∨ k = 8 ∨ k = 9 := by omega
  rcases this with rfl | rfl | rfl | rfl | rfl | rfl | rfl | rfl | rfl <;> simp [mapPg, lookV, Instr.sameNow, pathF]
structure RAPOk (a : LAsk) : Prop where
  k : 1 ≤ a.kind ∧ a.kind ≤ 9
  q : a.queue.size ≤ 1048576
  n : -9223372036854775808 ≤ a.n ∧ a.n ≤ 9223372036854775807
  o : WNOk a.note
def rapLo : Nat → Lo := fun id => match id with | 3 => {hand := true} | _ => {}
set_option maxRecDepth 100000 in
set_option maxHeartbeats 4000000 in
theorem con_raskpage (a : LAsk) (ha : RAPOk a) : Con Tryz.prog D 31 [askA a] ⟨.sl 1 ((askPg a).map byteRow), []⟩ := by
  have hil := Lib.itoa_length_le a.n ha.n.1 ha.n.2
  have hq : a.queue.data.toList.length ≤ 1048576 := ha.q
  have hpl : (pathW a).1.length ≤ 6 ∧ (pathW a).2.length ≤ 1048616 := by
    unfold pathW pathF
    repeat' split
    all_goals (simp only [List.length_append, List.length_cons, List.length_nil]; omega)
  have hfl : (firstW a).length ≤ 16777216 := by
    unfold firstW
    simp only [List.length_append, List.length_cons, List.length_nil]
    omega
  have hok : GOk Tryz.prog D (tabG [eItoa, eRpage]) := tabG_ok _
  have g1 := tabG_use (T := [eItoa, eRpage]) (E := eItoa) (i := 0) rfl (by decide) (a.n) (ha.n)
  have g2 := tabG_use (T := [eItoa, eRpage]) (E := eRpage) (i := 1) rfl (by decide) ((firstW a, a.note, false)) (⟨⟨hfl, ha.o⟩, fun h => by cases h⟩)
  generalize tabG [eItoa, eRpage] = G at *
  dsimp only [eItoa] at g1
  dsimp only [eRpage] at g2
  have hlk := mapPg_look a.kind a.queue.data.toList (Lib.itoa a.n) ha.k
  have hpe : firstW a = (pathF a.kind a.queue.data.toList (Lib.itoa a.n)).1 ++ [32] ++ (pathF a.kind a.queue.data.toList (Lib.itoa a.n)).2 ++ [32, 72, 84, 84, 80, 47, 49, 46, 49] := rfl
  have hpl' : ((pathF a.kind a.queue.data.toList (Lib.itoa a.n)).1 ++ [32] ++ (pathF a.kind a.queue.data.toList (Lib.itoa a.n)).2).length ≤ 1048640 := by
    have h1 : (pathF a.kind a.queue.data.toList (Lib.itoa a.n)).1.length ≤ 6 := hpl.1
    have h2 : (pathF a.kind a.queue.data.toList (Lib.itoa a.n)).2.length ≤ 1048616 := hpl.2
    simp only [List.length_append, List.length_cons, List.length_nil]
    omega
  unfold askPg
  rw [← rpage_one]
  rw [hpe] at g2 ⊢
  clear hpl hfl ha hpe
  obtain ⟨k, q, n, ⟨ps, bs⟩⟩ := a
  simp only at hil hq g1 g2 hlk hpl'
  simp only [askA]
  generalize (pathF k q.data.toList (Lib.itoa n)).1 ++ [32] ++ (pathF k q.data.toList (Lib.itoa n)).2 = fw at *
  generalize Lib.itoa n = it at *
  generalize q.data.toList = qs at *
  simp only [noteA, pgN] at g2
  generalize rpageB _ _ = rr at *
  refine conW (G := G) (rs := [(2, none)]) hok Tryz.func31 Tryz.results31 Tryz.ntmps31 (rapLo) fun X hP hD hG' hX => ?_
  simp only [argS, num]
  simp (disch := omega) only [go_sem, hD, hG', rapLo, g1, unbox]
  (repeat (with_reducible refine And.intro (by first | omega | decide | (simp; done) | (simp only [List.length_append, List.length_cons, List.length_nil, List.length_map]; omega)) ?_))
  have hu : X.P.underlying 102 = some (.map 3 9) := by rw [hP]; exact Tryz.underlying102
  have hk : X.P.underlying 3 = some (.int .i64) := by rw [hP]; exact Tryz.underlying3
  have hql : ([47, 113, 117, 101, 117, 101, 47] ++ qs).length ≤ 1048590 := by simp only [List.length_append, List.length_cons, List.length_nil]; omega
  simp only [List.cons_append, List.nil_append] at hql hlk
  generalize hqp : (47 :: 113 :: 117 :: 101 :: 117 :: 101 :: 47 :: qs : Wd) = qp at *
  refine Tr.pend hX 33 (m := 12) (kvs := mapPg qp it) (by decide) (show 12 < 45 by decide) (fun γ ρ a w Qx K hst hK => ?_) ?_
  · have v4 : a.eval (.tmp 4) = .string ⟨⟨qp⟩⟩ := (hst.ev (.tmp 4)).1.str_
    have v3 : a.eval (.tmp 3) = .string ⟨⟨it⟩⟩ := (hst.ev (.tmp 3)).1.str_
    have hm : Mc X γ _ ρ w [(4, .string ⟨⟨qp⟩⟩), (3, .string ⟨⟨it⟩⟩)] none a w := ⟨hst, frm_refl w, fun p hp => by
      simp only [List.mem_cons, List.not_mem_nil, or_false] at hp
      rcases hp with rfl | rfl
      · exact v4
      · exact v3, fun b es e => by cases e⟩
    clear v3 v4 hst
    refine seq_frm (mc_make hm rfl (show 12 < 45 by decide) rfl (by simp) fun a w b hm => ?_)
    refine seq_frm (mc_ins (k := .int .i64 1) (v := .string ⟨⟨[71, 69, 84, 32, 47, 112, 105, 110, 103]⟩⟩) hm rfl rfl rfl hu hk (by simp) rfl rfl fun a w hm => ?_)
    refine seq_frm (mc_move (s := 4) (v := .string ⟨⟨qp⟩⟩) hm rfl (by simp) (show 13 < 45 by decide) rfl (by simp) fun a w hm => ?_)
    refine seq_step (mc_text (u := [80, 85, 84, 32]) (it := qp) hm rfl rfl (hm.hv (13, .string ⟨⟨qp⟩⟩) (by simp)) (by simp only [List.length_append, List.length_cons, List.length_nil]; omega) (show 14 < 45 by decide) rfl (by simp) fun a w hm => ?_)
    refine seq_step (mc_text (u := [80, 85, 84, 32] ++ qp) (it := [47]) hm rfl (hm.hv (14, .string ⟨⟨[80, 85, 84, 32] ++ qp⟩⟩) (by simp)) rfl (by simp only [List.length_append, List.length_cons, List.length_nil]; omega) (show 15 < 45 by decide) rfl (by simp) fun a w hm => ?_)
    refine seq_frm (mc_move (s := 3) (v := .string ⟨⟨it⟩⟩) hm rfl (by simp) (show 16 < 45 by decide) rfl (by simp) fun a w hm => ?_)
    refine seq_step (mc_text (u := [80, 85, 84, 32] ++ qp ++ [47]) (it := it) hm rfl (hm.hv (15, .string ⟨⟨[80, 85, 84, 32] ++ qp ++ [47]⟩⟩) (by simp)) (hm.hv (16, .string ⟨⟨it⟩⟩) (by simp)) (by simp only [List.length_append, List.length_cons, List.length_nil]; omega) (show 17 < 45 by decide) rfl (by simp) fun a w hm => ?_)
    refine seq_frm (mc_ins (k := .int .i64 2) (v := .string ⟨⟨[80, 85, 84, 32] ++ qp ++ [47] ++ it⟩⟩) hm rfl rfl (hm.hv (17, .string ⟨⟨[80, 85, 84, 32] ++ qp ++ [47] ++ it⟩⟩) (by simp)) hu hk (by simp) rfl rfl fun a w hm => ?_)
    refine seq_frm (mc_move (s := 4) (v := .string ⟨⟨qp⟩⟩) hm rfl (by simp) (show 18 < 45 by decide) rfl (by simp) fun a w hm => ?_)
    refine seq_step (mc_text (u := [68, 69, 76, 69, 84, 69, 32]) (it := qp) hm rfl rfl (hm.hv (18, .string ⟨⟨qp⟩⟩) (by simp)) (by simp only [List.length_append, List.length_cons, List.length_nil]; omega) (show 19 < 45 by decide) rfl (by simp) fun a w hm => ?_)
    refine seq_frm (mc_ins (k := .int .i64 3) (v := .string ⟨⟨[68, 69, 76, 69, 84, 69, 32] ++ qp⟩⟩) hm rfl rfl (hm.hv (19, .string ⟨⟨[68, 69, 76, 69, 84, 69, 32] ++ qp⟩⟩) (by simp)) hu hk (by simp) rfl rfl fun a w hm => ?_)
    refine seq_frm (mc_move (s := 4) (v := .string ⟨⟨qp⟩⟩) hm rfl (by simp) (show 20 < 45 by decide) rfl (by simp) fun a w hm => ?_)
    refine seq_step (mc_text (u := [80, 79, 83, 84, 32]) (it := qp) hm rfl rfl (hm.hv (20, .string ⟨⟨qp⟩⟩) (by simp)) (by simp only [List.length_append, List.length_cons, List.length_nil]; omega) (show 21 < 45 by decide) rfl (by simp) fun a w hm => ?_)
    refine seq_frm (mc_ins (k := .int .i64 4) (v := .string ⟨⟨[80, 79, 83, 84, 32] ++ qp⟩⟩) hm rfl rfl (hm.hv (21, .string ⟨⟨[80, 79, 83, 84, 32] ++ qp⟩⟩) (by simp)) hu hk (by simp) rfl rfl fun a w hm => ?_)
    refine seq_frm (mc_move (s := 4) (v := .string ⟨⟨qp⟩⟩) hm rfl (by simp) (show 22 < 45 by decide) rfl (by simp) fun a w hm => ?_)
    refine seq_step (mc_text (u := [71, 69, 84, 32]) (it := qp) hm rfl rfl (hm.hv (22, .string ⟨⟨qp⟩⟩) (by simp)) (by simp only [List.length_append, List.length_cons, List.length_nil]; omega) (show 23 < 45 by decide) rfl (by simp) fun a w hm => ?_)
    refine seq_frm (mc_ins (k := .int .i64 5) (v := .string ⟨⟨[71, 69, 84, 32] ++ qp⟩⟩) hm rfl rfl (hm.hv (23, .string ⟨⟨[71, 69, 84, 32] ++ qp⟩⟩) (by simp)) hu hk (by simp) rfl rfl fun a w hm => ?_)
    refine seq_frm (mc_move (s := 4) (v := .string ⟨⟨qp⟩⟩) hm rfl (by simp) (show 24 < 45 by decide) rfl (by simp) fun a w hm => ?_)
    refine seq_step (mc_text (u := [71, 69, 84, 32]) (it := qp) hm rfl rfl (hm.hv (24, .string ⟨⟨qp⟩⟩) (by simp)) (by simp only [List.length_append, List.length_cons, List.length_nil]; omega) (show 25 < 45 by decide) rfl (by simp) fun a w hm => ?_)
    refine seq_step (mc_text (u := [71, 69, 84, 32] ++ qp) (it := [47]) hm rfl (hm.hv (25, .string ⟨⟨[71, 69, 84, 32] ++ qp⟩⟩) (by simp)) rfl (by simp only [List.length_append, List.length_cons, List.length_nil]; omega) (show 26 < 45 by decide) rfl (by simp) fun a w hm => ?_)
    refine seq_frm (mc_move (s := 3) (v := .string ⟨⟨it⟩⟩) hm rfl (by simp) (show 27 < 45 by decide) rfl (by simp) fun a w hm => ?_)
    refine seq_step (mc_text (u := [71, 69, 84, 32] ++ qp ++ [47]) (it := it) hm rfl (hm.hv (26, .string ⟨⟨[71, 69, 84, 32] ++ qp ++ [47]⟩⟩) (by simp)) (hm.hv (27, .string ⟨⟨it⟩⟩) (by simp)) (by simp only [List.length_append, List.length_cons, List.length_nil]; omega) (show 28 < 45 by decide) rfl (by simp) fun a w hm => ?_)
    refine seq_frm (mc_ins (k := .int .i64 6) (v := .string ⟨⟨[71, 69, 84, 32] ++ qp ++ [47] ++ it⟩⟩) hm rfl rfl (hm.hv (28, .string ⟨⟨[71, 69, 84, 32] ++ qp ++ [47] ++ it⟩⟩) (by simp)) hu hk (by simp) rfl rfl fun a w hm => ?_)
    refine seq_frm (mc_move (s := 3) (v := .string ⟨⟨it⟩⟩) hm rfl (by simp) (show 29 < 45 by decide) rfl (by simp) fun a w hm => ?_)
    refine seq_step (mc_text (u := [68, 69, 76, 69, 84, 69, 32, 47, 116, 97, 103, 47]) (it := it) hm rfl rfl (hm.hv (29, .string ⟨⟨it⟩⟩) (by simp)) (by simp only [List.length_append, List.length_cons, List.length_nil]; omega) (show 30 < 45 by decide) rfl (by simp) fun a w hm => ?_)
    refine seq_frm (mc_ins (k := .int .i64 7) (v := .string ⟨⟨[68, 69, 76, 69, 84, 69, 32, 47, 116, 97, 103, 47] ++ it⟩⟩) hm rfl rfl (hm.hv (30, .string ⟨⟨[68, 69, 76, 69, 84, 69, 32, 47, 116, 97, 103, 47] ++ it⟩⟩) (by simp)) hu hk (by simp) rfl rfl fun a w hm => ?_)
    refine seq_frm (mc_move (s := 3) (v := .string ⟨⟨it⟩⟩) hm rfl (by simp) (show 31 < 45 by decide) rfl (by simp) fun a w hm => ?_)
    refine seq_step (mc_text (u := [80, 79, 83, 84, 32, 47, 116, 97, 103, 47]) (it := it) hm rfl rfl (hm.hv (31, .string ⟨⟨it⟩⟩) (by simp)) (by simp only [List.length_append, List.length_cons, List.length_nil]; omega) (show 32 < 45 by decide) rfl (by simp) fun a w hm => ?_)
    refine seq_frm (mc_ins (k := .int .i64 8) (v := .string ⟨⟨[80, 79, 83, 84, 32, 47, 116, 97, 103, 47] ++ it⟩⟩) hm rfl rfl (hm.hv (32, .string ⟨⟨[80, 79, 83, 84, 32, 47, 116, 97, 103, 47] ++ it⟩⟩) (by simp)) hu hk (by simp) rfl rfl fun a w hm => ?_)
    refine seq_frm (mc_move (s := 4) (v := .string ⟨⟨qp⟩⟩) hm rfl (by simp) (show 33 < 45 by decide) rfl (by simp) fun a w hm => ?_)
    refine seq_step (mc_text (u := [68, 69, 76, 69, 84, 69, 32]) (it := qp) hm rfl rfl (hm.hv (33, .string ⟨⟨qp⟩⟩) (by simp)) (by simp only [List.length_append, List.length_cons, List.length_nil]; omega) (show 34 < 45 by decide) rfl (by simp) fun a w hm => ?_)
    refine seq_step (mc_text (u := [68, 69, 76, 69, 84, 69, 32] ++ qp) (it := [47, 105, 116, 101, 109, 115]) hm rfl (hm.hv (34, .string ⟨⟨[68, 69, 76, 69, 84, 69, 32] ++ qp⟩⟩) (by simp)) rfl (by simp only [List.length_append, List.length_cons, List.length_nil]; omega) (show 35 < 45 by decide) rfl (by simp) fun a w hm => ?_)
    refine seq_frm (mc_ins (k := .int .i64 9) (v := .string ⟨⟨[68, 69, 76, 69, 84, 69, 32] ++ qp ++ [47, 105, 116, 101, 109, 115]⟩⟩) hm rfl rfl (hm.hv (35, .string ⟨⟨[68, 69, 76, 69, 84, 69, 32] ++ qp ++ [47, 105, 116, 101, 109, 115]⟩⟩) (by simp)) hu hk (by simp) rfl rfl fun a w hm => ?_)
    exact hK _ _ _ _ _ rfl (by simp) hm
  · generalize hmp : mapPg qp it = mp at *
    simp (disch := omega) only [go_sem, hD, hG', rapLo, unbox]
    (repeat (with_reducible refine And.intro (by first | omega | decide | (simp; done) | (simp only [List.length_append, List.length_cons, List.length_nil, List.length_map]; omega)) ?_))
    refine inl_look (dk := .int .i64) (key := .int .i64 k) (z := .string ⟨#[]⟩) (v := .string ⟨⟨fw⟩⟩) (av := .str fw) hu hk rfl rfl rfl (by rw [hP]; exact zero_str) (by simp [cst]) hlk (fun _ _ _ => .str _) rfl (by simp) ?_
    simp (disch := omega) only [go_sem, hD, hG', rapLo, g2, unbox]
    (repeat (with_reducible refine And.intro (by first | omega | decide | (simp; done) | (simp only [List.length_append, List.length_cons, List.length_nil, List.length_map]; omega)) ?_))
    refine endW [] [] (by simp) rfl rfl rfl ?_ ?_ <;> simp only [go_sem]
def eRaskpage : Ent Tryz.prog D := ⟨31, LAsk, fun a => [askA a], RAPOk, fun a => ⟨.sl 1 ((askPg a).map byteRow), []⟩, fun x y _ _ h => by
  simp only [List.cons.injEq, and_true] at h
  rw [askA_inj h], con_raskpage⟩
structure RSPOk (s : LSay) : Prop where
  n : -9223372036854775808 ≤ s.n ∧ s.n ≤ 9223372036854775807
  m : -9223372036854775808 ≤ s.m ∧ s.m ≤ 9223372036854775807
  e : -9223372036854775808 ≤ s.err ∧ s.err ≤ 9223372036854775807
  o : s.kind = 2 → WNOk s.note
theorem wn0 : WNOk note0 := ⟨Nat.zero_le _, Nat.zero_le _, fun p h => by cases h⟩
def first2 (s : LSay) : Wd := [72, 84, 84, 80, 47, 49, 46, 49, 32, 50, 48, 48, 32, 79, 75, 13, 10, 116, 97, 103, 58, 32] ++ Lib.itoa s.n ++ [13, 10, 116, 114, 105, 101, 115, 58, 32] ++ Lib.itoa s.m
def first4 (s : LSay) : Wd := [72, 84, 84, 80, 47, 49, 46, 49, 32, 52, 48, 48, 32, 87, 114, 111, 110, 103, 13, 10, 101, 114, 114, 111, 114, 58, 32] ++ Lib.itoa s.err
theorem sayPg_eq (s : LSay) : sayPg s = if s.kind = 2 then rpageB (first2 s) s.note else if s.kind = 3 then rpageB noneW note0 else if s.kind = 4 then rpageB (first4 s) note0 else rpageB okW note0 := by
  have e2 : first2 s = Lib.join [okW, tagH ++ Lib.itoa s.n, triesH ++ Lib.itoa s.m] [13, 10] := by
    rw [join_tailC]
    simp [first2, tailC, okW, tagH, triesH]
  have e4 : first4 s = Lib.join [wrongW, errorH ++ Lib.itoa s.err] [13, 10] := by
    rw [join_tailC]
    simp [first4, tailC, wrongW, errorH]
  unfold sayPg
  rw [e2, e4, rpage_same, rpage_same, rpage_one, rpage_one]
set_option maxRecDepth 100000 in
set_option maxHeartbeats 1000000 in
theorem con_rsaypage (s : LSay) (hs : RSPOk s) : Con Tryz.prog D 33 [sayA s] ⟨.sl 1 ((sayPg s).map byteRow), []⟩ := by
  have hi1 := Lib.itoa_length_le s.n hs.n.1 hs.n.2
  have hi2 := Lib.itoa_length_le s.m hs.m.1 hs.m.2
  have hi3 := Lib.itoa_length_le s.err hs.e.1 hs.e.2
  have hf2 : (first2 s).length ≤ 16777216 := by unfold first2; simp only [List.length_append, List.length_cons, List.length_nil]; omega
  have hf4 : (first4 s).length ≤ 16777216 := by unfold first4; simp only [List.length_append, List.length_cons, List.length_nil]; omega
  have hok : GOk Tryz.prog D (tabG [eItoa, eRpage]) := tabG_ok _
  have g1 := tabG_use (T := [eItoa, eRpage]) (E := eItoa) (i := 0) rfl (by decide) (s.n) (hs.n)
  have g2 := tabG_use (T := [eItoa, eRpage]) (E := eItoa) (i := 0) rfl (by decide) (s.m) (hs.m)
  have g3 := tabG_use (T := [eItoa, eRpage]) (E := eItoa) (i := 0) rfl (by decide) (s.err) (hs.e)
  have g4 := fun (h : s.kind = 2) => tabG_use (T := [eItoa, eRpage]) (E := eRpage) (i := 1) rfl (by decide) ((first2 s, s.note, false)) (⟨⟨hf2, hs.o h⟩, fun h => (by cases h)⟩)
  have g5 := tabG_use (T := [eItoa, eRpage]) (E := eRpage) (i := 1) rfl (by decide) ((first4 s, note0, true)) (⟨⟨hf4, wn0⟩, fun _ => rfl⟩)
  have g6 := tabG_use (T := [eItoa, eRpage]) (E := eRpage) (i := 1) rfl (by decide) ((noneW, note0, true)) (⟨⟨by decide, wn0⟩, fun _ => rfl⟩)
  have g7 := tabG_use (T := [eItoa, eRpage]) (E := eRpage) (i := 1) rfl (by decide) ((okW, note0, true)) (⟨⟨by decide, wn0⟩, fun _ => rfl⟩)
  generalize tabG [eItoa, eRpage] = G at *
  dsimp only [eItoa] at g1
  dsimp only [eItoa] at g2
  dsimp only [eItoa] at g3
  dsimp only [eRpage] at g4
  dsimp only [eRpage] at g5
  dsimp only [eRpage] at g6
  dsimp only [eRpage] at g7
  rw [sayPg_eq]
  clear hf2 hf4 hs
  obtain ⟨k, n, m, e, ⟨ps, bs⟩⟩ := s
  generalize rpageB _ ⟨ps, bs⟩ = r4 at *
  generalize rpageB (first4 _) _ = r5 at *
  generalize rpageB noneW _ = r6 at *
  generalize rpageB okW _ = r7 at *
  simp only [first2, first4, noneW, okW, pgN, noteA, List.cons_append, List.nil_append] at g1 g2 g3 g4 g5 g6 g7 hi1 hi2 hi3
  simp only [sayA]
  generalize Lib.itoa n = it at *
  generalize Lib.itoa m = jt at *
  generalize Lib.itoa e = et at *
  refine conW (G := G) (rs := [(2, none)]) hok Tryz.func33 Tryz.results33 Tryz.ntmps33 (fun _ => {}) fun X hP hD hG' hX => ?_
  simp only [argS, num]
  by_cases h2 : k = 2
  · have e2 : (k == 2) = true := by simp [h2]
    have g4 := g4 h2
    rw [if_pos h2]
    simp (disch := omega) only [go_sem, hD, hG', e2, g1, g2, g4, unbox]
    (repeat (with_reducible refine And.intro (by first | omega | decide | (simp; done) | (simp only [List.length_append, List.length_cons, List.length_nil, List.length_map]; omega)) ?_))
    refine endW [] [] (by simp) rfl rfl rfl ?_ ?_ <;> simp only [go_sem]
  have e2 : (k == 2) = false := by simp [h2]
  rw [if_neg h2]
  by_cases h3 : k = 3
  · have e3 : (k == 3) = true := by simp [h3]
    rw [if_pos h3]
    simp (disch := omega) only [go_sem, hD, hG', e2, e3, g6, unbox]
    (repeat (with_reducible refine And.intro (by first | omega | decide | (simp; done) | (simp only [List.length_append, List.length_cons, List.length_nil, List.length_map]; omega)) ?_))
    refine endW [] [] (by simp) rfl rfl rfl ?_ ?_ <;> simp only [go_sem]
  have e3 : (k == 3) = false := by simp [h3]
  rw [if_neg h3]
  by_cases h4 : k = 4
  · have e4 : (k == 4) = true := by simp [h4]
    rw [if_pos h4]
    simp (disch := omega) only [go_sem, hD, hG', e2, e3, e4, g3, g5, unbox]
    (repeat (with_reducible refine And.intro (by first | omega | decide | (simp; done) | (simp only [List.length_append, List.length_cons, List.length_nil, List.length_map]; omega)) ?_))
    refine endW [] [] (by simp) rfl rfl rfl ?_ ?_ <;> simp only [go_sem]
  have e4 : (k == 4) = false := by simp [h4]
  rw [if_neg h4]
  simp (disch := omega) only [go_sem, hD, hG', e2, e3, e4, g7, unbox]
  (repeat (with_reducible refine And.intro (by first | omega | decide | (simp; done) | (simp only [List.length_append, List.length_cons, List.length_nil, List.length_map]; omega)) ?_))
  refine endW [] [] (by simp) rfl rfl rfl ?_ ?_ <;> simp only [go_sem]
def eRsaypage : Ent Tryz.prog D := ⟨33, LSay, fun s => [sayA s], RSPOk, fun s => ⟨.sl 1 ((sayPg s).map byteRow), []⟩, fun x y _ _ h => by
  simp only [List.cons.injEq, and_true] at h
  rw [sayA_inj h], con_rsaypage⟩
end Go.Proofs.YtmlejhpeoiicpaaGreatDoor.Ab
namespace Go.Proofs.YtmlejhpeoiicpaaGreatDoor.Ab
open Go Go.RowKit
set_option linter.unusedVariables false
set_option linter.unusedSimpArgs false

def raskW (m p : Wd) : LAsk := if (askedS m p).2 = true then (askedS m p).1 else lask0
def rwLo : Nat → Lo := fun id => match id with | 8 => {hand := true} | 12 => {hand := true} | 18 => {hand := true} | _ => {}
set_option maxRecDepth 100000 in
set_option maxHeartbeats 16000000 in
theorem con_raskof (m p : Wd) (h : AdOk m p) : Con Tryz.prog D 78 [.str m, .str p] ⟨askA (raskW m p), []⟩ := by
  have hok : GOk Tryz.prog D (tabG [eRsplit, eRnumber]) := tabG_ok _
  have g1 := tabG_use (T := [eRsplit, eRnumber]) (E := eRsplit) (i := 0) rfl (by decide) ((p, [47])) (⟨by have := h.p; show p.length ≤ 16777216; omega, by show 1 ≤ ([47] : Wd).length; decide, by show ([47] : Wd).length ≤ 256; decide⟩)
  have g2 := fun (w : Wd) (h : w.length ≤ 1000) => tabG_use (T := [eRsplit, eRnumber]) (E := eRnumber) (i := 1) rfl (by decide) (w) (by show w.length ≤ 281474976710656; omega)
  generalize tabG [eRsplit, eRnumber] = G at *
  dsimp only [eRsplit] at g1
  dsimp only [eRnumber] at g2
  have hsp := split_ok p [47] (by decide) h.p
  clear h
  have z0 : (0 : Int).toNat = 0 := rfl
  have z1 : (1 : Int).toNat = 1 := rfl
  have z2 : (2 : Int).toNat = 2 := rfl
  have z3 : (3 : Int).toNat = 3 := rfl
  have n1 : ((1 : Nat) : Int) = 1 := rfl
  have n2 : ((2 : Nat) : Int) = 2 := rfl
  have n3 : ((3 : Nat) : Int) = 3 := rfl
  have n4 : ((4 : Nat) : Int) = 4 := rfl
  have i3 : (3 : Int) - 1 = 2 := rfl
  have i4 : (4 : Int) - 1 = 3 := rfl
  have hcon : ∀ r, r = raskW m p → Con Tryz.prog D 78 [.str m, .str p] ⟨askA r, []⟩ := by
    intro r hr
    unfold raskW askedS at hr
    refine conW (G := G) (rs := [(4, some 27)]) hok Tryz.func78 Tryz.results78 Tryz.ntmps78 (rwLo) fun X hP hD hG' hX => ?_
    have hu : X.P.underlying 133 = some (.map 9 3) := by rw [hP]; exact Tryz.underlying133
    have hku : X.P.underlying 9 = some .string := by rw [hP]; exact Tryz.underlying9
    simp only [argS, num]
    by_cases hping : m = getW ∧ p = pingW
    · rw [if_pos hping] at hr
      simp at hr
      obtain ⟨rfl, rfl⟩ := hping
      simp only [getW, pingW]
      iterate 7 ((try (refine RegT.mk [] ?_)); (try (simp (disch := omega) only [go_sem, hD, hG', rwLo, strRow, z0, z1, z2, z3, n1, n2, n3, n4, i3, i4, Int.reduceBEq, Int.reduceBNe, Int.reduceGT, Int.reduceSub, unbox])); (repeat (with_reducible refine And.intro (by first | omega | decide | (simp; done) | (simp only [List.length_append, List.length_cons, List.length_nil, List.length_map]; omega)) ?_)))
      refine endW [] [] (by simp) rfl rfl rfl ?_ ?_ <;> simp only [go_sem]
      simp [hr, askA, lask0, note0, bA, covs, cov, subs, names, namess]
    rw [if_neg hping] at hr
    have hpp : (if (m == [71, 69, 84]) = true then (p == [47, 112, 105, 110, 103]) else false) = false := by
      split
      · rename_i h1
        rw [beq_eq_false_iff_ne]
        exact fun h2 => hping ⟨eq_of_beq h1, h2⟩
      · rfl
    clear hping
    generalize Lib.split p [47] = l at *
    obtain ⟨hne, HL⟩ := hsp
    cases l with
    | nil => exact absurd rfl hne
    | cons a l =>
    cases l with
    | nil =>
      simp [askedL] at hr
      iterate 7 ((try (refine RegT.mk [] ?_)); (try (simp (disch := omega) only [go_sem, hD, hG', rwLo, strRow, z0, z1, z2, z3, n1, n2, n3, n4, i3, i4, Int.reduceBEq, Int.reduceBNe, Int.reduceGT, Int.reduceSub, hpp, g1, unbox])); (repeat (with_reducible refine And.intro (by first | omega | decide | (simp; done) | (simp only [List.length_append, List.length_cons, List.length_nil, List.length_map]; omega)) ?_)))
      refine endW [] [] (by simp) rfl rfl rfl ?_ ?_ <;> simp only [go_sem]
      simp [hr, askA, lask0, note0, bA, covs, cov, subs, names, namess]
    | cons b l =>
    cases l with
    | nil =>
      simp [askedL] at hr
      iterate 7 ((try (refine RegT.mk [] ?_)); (try (simp (disch := omega) only [go_sem, hD, hG', rwLo, strRow, z0, z1, z2, z3, n1, n2, n3, n4, i3, i4, Int.reduceBEq, Int.reduceBNe, Int.reduceGT, Int.reduceSub, hpp, g1, unbox])); (repeat (with_reducible refine And.intro (by first | omega | decide | (simp; done) | (simp only [List.length_append, List.length_cons, List.length_nil, List.length_map]; omega)) ?_)))
      refine endW [] [] (by simp) rfl rfl rfl ?_ ?_ <;> simp only [go_sem]
      simp [hr, askA, lask0, note0, bA, covs, cov, subs, names, namess]
    | cons c l =>
    have gc := g2 c HL.tail.tail.head
    cases l with
    | nil =>
      by_cases ha : a = []
      · subst ha
        by_cases hq : b = queueW
        · have bq : (b == [113, 117, 101, 117, 101]) = true := by simp [hq, queueW]
          have hr : r = if decide (0 < kindQ m) = true then ⟨kindQ m, bA c, 0, note0⟩ else lask0 := by rw [hr]; simp [askedL, hq]
          generalize numberS c = nc at *
          obtain ⟨nn, nb⟩ := nc
          simp only at gc
          iterate 7 ((try (refine RegT.mk [] ?_)); (try (simp (disch := omega) only [go_sem, hD, hG', rwLo, strRow, z0, z1, z2, z3, n1, n2, n3, n4, i3, i4, Int.reduceBEq, Int.reduceBNe, Int.reduceGT, Int.reduceSub, hpp, g1, gc, bq, unbox])); (repeat (with_reducible refine And.intro (by first | omega | decide | (simp; done) | (simp only [List.length_append, List.length_cons, List.length_nil, List.length_map]; omega)) ?_)))
          refine Tr.lit hX 0 (d := 55) mapQ hu hku (by decide) ⟨_, rfl, rfl, rfl, rfl⟩ (by decide) ?_ ?_ ?_
          · unfold mapQ litOps
            repeat (first | exact trivial | refine ⟨⟨_, rfl, _, _, rfl, rfl, rfl, fun _ => rfl, fun _ => rfl⟩, ?_⟩ | unfold litOps)
          · unfold mapQ litNew
            repeat (first | exact trivial | refine ⟨trivial, rfl, ?_⟩ | unfold litNew)
          have hlen : mapQ.length = 3 := rfl
          have hlook := mapQ_look m
          generalize hnm : mapQ = nm at hlen hlook ⊢
          simp (disch := omega) only [go_sem, hD, hG', rwLo, strRow, z0, z1, z2, z3, n1, n2, n3, n4, i3, i4, Int.reduceBEq, Int.reduceBNe, Int.reduceGT, Int.reduceSub, hlen, unbox]
          refine inl_look (dk := .string) (key := sv m) (z := .int .i64 0) (v := .int .i64 (kindQ m)) (av := .int .i64 (kindQ m)) hu hku rfl rfl trivial (by rw [hP]; exact zero_int) (by simp [cst, sv]) hlook (fun _ _ _ => .int _ _) rfl (by simp) ?_
          have hdk : decide (kindQ m > 0) = decide (0 < kindQ m) := rfl
          generalize kindQ m = kk at *
          by_cases hk : 0 < kk
          · have dk : decide (0 < kk) = true := by simp [hk]
            simp only [dk, if_true] at hr
            iterate 7 ((try (refine RegT.mk [] ?_)); (try (simp (disch := omega) only [go_sem, hD, hG', rwLo, strRow, z0, z1, z2, z3, n1, n2, n3, n4, i3, i4, Int.reduceBEq, Int.reduceBNe, Int.reduceGT, Int.reduceSub, hpp, g1, gc, bq, hlen, hdk, dk, unbox])); (repeat (with_reducible refine And.intro (by first | omega | decide | (simp; done) | (simp only [List.length_append, List.length_cons, List.length_nil, List.length_map]; omega)) ?_)))
            refine endW [] [] (by simp) rfl rfl rfl ?_ ?_ <;> simp only [go_sem]
            simp [hr, askA, lask0, note0, bA, covs, cov, subs, names, namess]
          · have dk : decide (0 < kk) = false := by simp [hk]
            simp only [dk, Bool.false_eq_true, if_false] at hr
            iterate 7 ((try (refine RegT.mk [] ?_)); (try (simp (disch := omega) only [go_sem, hD, hG', rwLo, strRow, z0, z1, z2, z3, n1, n2, n3, n4, i3, i4, Int.reduceBEq, Int.reduceBNe, Int.reduceGT, Int.reduceSub, hpp, g1, gc, bq, hlen, hdk, dk, unbox])); (repeat (with_reducible refine And.intro (by first | omega | decide | (simp; done) | (simp only [List.length_append, List.length_cons, List.length_nil, List.length_map]; omega)) ?_)))
            refine endW [] [] (by simp) rfl rfl rfl ?_ ?_ <;> simp only [go_sem]
            simp [hr, askA, lask0, note0, bA, covs, cov, subs, names, namess]
        have bq : (b == [113, 117, 101, 117, 101]) = false := by rw [beq_eq_false_iff_ne]; exact hq
        by_cases ht : b = tagW ∧ (numberS c).2 = true
        · have bt : (b == [116, 97, 103]) = true := by simp [ht.1, tagW]
          have hr : r = if decide (0 < kindT m) = true then ⟨kindT m, ⟨#[]⟩, (numberS c).1, note0⟩ else lask0 := by rw [hr]; simp [askedL, ht.1, ht.2, tagW, queueW]
          have hnt := ht.2
          generalize numberS c = nc at *
          obtain ⟨nn, nb⟩ := nc
          simp only at gc hnt
          subst hnt
          iterate 7 ((try (refine RegT.mk [] ?_)); (try (simp (disch := omega) only [go_sem, hD, hG', rwLo, strRow, z0, z1, z2, z3, n1, n2, n3, n4, i3, i4, Int.reduceBEq, Int.reduceBNe, Int.reduceGT, Int.reduceSub, hpp, g1, gc, bq, bt, unbox])); (repeat (with_reducible refine And.intro (by first | omega | decide | (simp; done) | (simp only [List.length_append, List.length_cons, List.length_nil, List.length_map]; omega)) ?_)))
          refine Tr.lit hX 0 (d := 79) mapG hu hku (by decide) ⟨_, rfl, rfl, rfl, rfl⟩ (by decide) ?_ ?_ ?_
          · unfold mapG litOps
            repeat (first | exact trivial | refine ⟨⟨_, rfl, _, _, rfl, rfl, rfl, fun _ => rfl, fun _ => rfl⟩, ?_⟩ | unfold litOps)
          · unfold mapG litNew
            repeat (first | exact trivial | refine ⟨trivial, rfl, ?_⟩ | unfold litNew)
          have hlen : mapG.length = 2 := rfl
          have hlook := mapG_look m
          generalize hnm : mapG = nm at hlen hlook ⊢
          simp (disch := omega) only [go_sem, hD, hG', rwLo, strRow, z0, z1, z2, z3, n1, n2, n3, n4, i3, i4, Int.reduceBEq, Int.reduceBNe, Int.reduceGT, Int.reduceSub, hlen, unbox]
          refine inl_look (dk := .string) (key := sv m) (z := .int .i64 0) (v := .int .i64 (kindT m)) (av := .int .i64 (kindT m)) hu hku rfl rfl trivial (by rw [hP]; exact zero_int) (by simp [cst, sv]) hlook (fun _ _ _ => .int _ _) rfl (by simp) ?_
          have hdk : decide (kindT m > 0) = decide (0 < kindT m) := rfl
          generalize kindT m = kk at *
          by_cases hk : 0 < kk
          · have dk : decide (0 < kk) = true := by simp [hk]
            simp only [dk, if_true] at hr
            iterate 7 ((try (refine RegT.mk [] ?_)); (try (simp (disch := omega) only [go_sem, hD, hG', rwLo, strRow, z0, z1, z2, z3, n1, n2, n3, n4, i3, i4, Int.reduceBEq, Int.reduceBNe, Int.reduceGT, Int.reduceSub, hpp, g1, gc, bq, bt, hlen, hdk, dk, unbox])); (repeat (with_reducible refine And.intro (by first | omega | decide | (simp; done) | (simp only [List.length_append, List.length_cons, List.length_nil, List.length_map]; omega)) ?_)))
            refine endW [] [] (by simp) rfl rfl rfl ?_ ?_ <;> simp only [go_sem]
            simp [hr, askA, lask0, note0, bA, covs, cov, subs, names, namess]
          · have dk : decide (0 < kk) = false := by simp [hk]
            simp only [dk, Bool.false_eq_true, if_false] at hr
            iterate 7 ((try (refine RegT.mk [] ?_)); (try (simp (disch := omega) only [go_sem, hD, hG', rwLo, strRow, z0, z1, z2, z3, n1, n2, n3, n4, i3, i4, Int.reduceBEq, Int.reduceBNe, Int.reduceGT, Int.reduceSub, hpp, g1, gc, bq, bt, hlen, hdk, dk, unbox])); (repeat (with_reducible refine And.intro (by first | omega | decide | (simp; done) | (simp only [List.length_append, List.length_cons, List.length_nil, List.length_map]; omega)) ?_)))
            refine endW [] [] (by simp) rfl rfl rfl ?_ ?_ <;> simp only [go_sem]
            simp [hr, askA, lask0, note0, bA, covs, cov, subs, names, namess]
        have hr : r = lask0 := by rw [hr]; simp [askedL, hq, ht]
        have btn : (if (b == [116, 97, 103]) = true then (numberS c).2 else false) = false := by
          split
          · rename_i h1
            have h2 : b = tagW := eq_of_beq h1
            simpa [h2] using ht
          · rfl
        generalize numberS c = nc at *
        obtain ⟨nn, nb⟩ := nc
        simp only at gc btn
        iterate 7 ((try (refine RegT.mk [(13, true)] ?_)); (try (simp (disch := omega) only [go_sem, hD, hG', rwLo, strRow, z0, z1, z2, z3, n1, n2, n3, n4, i3, i4, Int.reduceBEq, Int.reduceBNe, Int.reduceGT, Int.reduceSub, hpp, g1, gc, bq, btn, unbox])); (repeat (with_reducible refine And.intro (by first | omega | decide | (simp; done) | (simp only [List.length_append, List.length_cons, List.length_nil, List.length_map]; omega)) ?_)))
        refine endW [] [] (by simp) rfl rfl rfl ?_ ?_ <;> simp only [go_sem]
        simp [hr, askA, lask0, note0, bA, covs, cov, subs, names, namess]
      · have aa : (!(a == [])) = true := by simp [ha]
        have hr : r = lask0 := by rw [hr]; simp [askedL, ha]
        iterate 7 ((try (refine RegT.mk [] ?_)); (try (simp (disch := omega) only [go_sem, hD, hG', rwLo, strRow, z0, z1, z2, z3, n1, n2, n3, n4, i3, i4, Int.reduceBEq, Int.reduceBNe, Int.reduceGT, Int.reduceSub, hpp, g1, aa, unbox])); (repeat (with_reducible refine And.intro (by first | omega | decide | (simp; done) | (simp only [List.length_append, List.length_cons, List.length_nil, List.length_map]; omega)) ?_)))
        refine endW [] [] (by simp) rfl rfl rfl ?_ ?_ <;> simp only [go_sem]
        simp [hr, askA, lask0, note0, bA, covs, cov, subs, names, namess]
    | cons d l =>
    have gd := g2 d HL.tail.tail.tail.head
    cases l with
    | nil =>
      by_cases ha : a = []
      · subst ha
        by_cases hq : b = queueW
        · have bq : (b == [113, 117, 101, 117, 101]) = true := by simp [hq, queueW]
          by_cases hi : m = delW ∧ d = itemsW
          · have hr : r = ⟨9, bA c, 0, note0⟩ := by rw [hr]; simp [askedL, hq, hi.1, hi.2]
            have bm : (m == [68, 69, 76, 69, 84, 69]) = true := by simp [hi.1, delW]
            have bd : (d == [105, 116, 101, 109, 115]) = true := by simp [hi.2, itemsW]
            generalize numberS d = nc at *
            obtain ⟨nn, nb⟩ := nc
            simp only at gd
            iterate 7 ((try (refine RegT.mk [] ?_)); (try (simp (disch := omega) only [go_sem, hD, hG', rwLo, strRow, z0, z1, z2, z3, n1, n2, n3, n4, i3, i4, Int.reduceBEq, Int.reduceBNe, Int.reduceGT, Int.reduceSub, hpp, g1, gd, bq, bm, bd, unbox])); (repeat (with_reducible refine And.intro (by first | omega | decide | (simp; done) | (simp only [List.length_append, List.length_cons, List.length_nil, List.length_map]; omega)) ?_)))
            refine endW [] [] (by simp) rfl rfl rfl ?_ ?_ <;> simp only [go_sem]
            simp [hr, askA, lask0, note0, bA, covs, cov, subs, names, namess]
          have bi : (if (m == [68, 69, 76, 69, 84, 69]) = true then (d == [105, 116, 101, 109, 115]) else false) = false := by
            split
            · rename_i h1
              rw [beq_eq_false_iff_ne]
              exact fun h2 => hi ⟨eq_of_beq h1, h2⟩
            · rfl
          by_cases hn : (numberS d).2 = true
          · have hr : r = if decide (0 < kindN m) = true then ⟨kindN m, bA c, (numberS d).1, note0⟩ else lask0 := by rw [hr]; simp [askedL, hq, hi, hn]
            generalize numberS d = nc at *
            obtain ⟨nn, nb⟩ := nc
            simp only at gd hn
            subst hn
            iterate 7 ((try (refine RegT.mk [] ?_)); (try (simp (disch := omega) only [go_sem, hD, hG', rwLo, strRow, z0, z1, z2, z3, n1, n2, n3, n4, i3, i4, Int.reduceBEq, Int.reduceBNe, Int.reduceGT, Int.reduceSub, hpp, g1, gd, bq, bi, unbox])); (repeat (with_reducible refine And.intro (by first | omega | decide | (simp; done) | (simp only [List.length_append, List.length_cons, List.length_nil, List.length_map]; omega)) ?_)))
            refine Tr.lit hX 0 (d := 125) mapN hu hku (by decide) ⟨_, rfl, rfl, rfl, rfl⟩ (by decide) ?_ ?_ ?_
            · unfold mapN litOps
              repeat (first | exact trivial | refine ⟨⟨_, rfl, _, _, rfl, rfl, rfl, fun _ => rfl, fun _ => rfl⟩, ?_⟩ | unfold litOps)
            · unfold mapN litNew
              repeat (first | exact trivial | refine ⟨trivial, rfl, ?_⟩ | unfold litNew)
            have hlen : mapN.length = 2 := rfl
            have hlook := mapN_look m
            generalize hnm : mapN = nm at hlen hlook ⊢
            simp (disch := omega) only [go_sem, hD, hG', rwLo, strRow, z0, z1, z2, z3, n1, n2, n3, n4, i3, i4, Int.reduceBEq, Int.reduceBNe, Int.reduceGT, Int.reduceSub, hlen, unbox]
            refine inl_look (dk := .string) (key := sv m) (z := .int .i64 0) (v := .int .i64 (kindN m)) (av := .int .i64 (kindN m)) hu hku rfl rfl trivial (by rw [hP]; exact zero_int) (by simp [cst, sv]) hlook (fun _ _ _ => .int _ _) rfl (by simp) ?_
            have hdk : decide (kindN m > 0) = decide (0 < kindN m) := rfl
            generalize kindN m = kk at *
            by_cases hk : 0 < kk
            · have dk : decide (0 < kk) = true := by simp [hk]
              simp only [dk, if_true] at hr
              iterate 7 ((try (refine RegT.mk [] ?_)); (try (simp (disch := omega) only [go_sem, hD, hG', rwLo, strRow, z0, z1, z2, z3, n1, n2, n3, n4, i3, i4, Int.reduceBEq, Int.reduceBNe, Int.reduceGT, Int.reduceSub, hpp, g1, gd, bq, bi, hlen, hdk, dk, unbox])); (repeat (with_reducible refine And.intro (by first | omega | decide | (simp; done) | (simp only [List.length_append, List.length_cons, List.length_nil, List.length_map]; omega)) ?_)))
              refine endW [] [] (by simp) rfl rfl rfl ?_ ?_ <;> simp only [go_sem]
              simp [hr, askA, lask0, note0, bA, covs, cov, subs, names, namess]
            · have dk : decide (0 < kk) = false := by simp [hk]
              simp only [dk, Bool.false_eq_true, if_false] at hr
              iterate 7 ((try (refine RegT.mk [] ?_)); (try (simp (disch := omega) only [go_sem, hD, hG', rwLo, strRow, z0, z1, z2, z3, n1, n2, n3, n4, i3, i4, Int.reduceBEq, Int.reduceBNe, Int.reduceGT, Int.reduceSub, hpp, g1, gd, bq, bi, hlen, hdk, dk, unbox])); (repeat (with_reducible refine And.intro (by first | omega | decide | (simp; done) | (simp only [List.length_append, List.length_cons, List.length_nil, List.length_map]; omega)) ?_)))
              refine endW [] [] (by simp) rfl rfl rfl ?_ ?_ <;> simp only [go_sem]
              simp [hr, askA, lask0, note0, bA, covs, cov, subs, names, namess]
          have hr : r = lask0 := by rw [hr]; simp [askedL, hq, hi, hn]
          have hn : (numberS d).2 = false := by simpa using hn
          generalize numberS d = nc at *
          obtain ⟨nn, nb⟩ := nc
          simp only at gd hn
          subst hn
          iterate 7 ((try (refine RegT.mk [] ?_)); (try (simp (disch := omega) only [go_sem, hD, hG', rwLo, strRow, z0, z1, z2, z3, n1, n2, n3, n4, i3, i4, Int.reduceBEq, Int.reduceBNe, Int.reduceGT, Int.reduceSub, hpp, g1, gd, bq, bi, unbox])); (repeat (with_reducible refine And.intro (by first | omega | decide | (simp; done) | (simp only [List.length_append, List.length_cons, List.length_nil, List.length_map]; omega)) ?_)))
          refine endW [] [] (by simp) rfl rfl rfl ?_ ?_ <;> simp only [go_sem]
          simp [hr, askA, lask0, note0, bA, covs, cov, subs, names, namess]
        have bq : (b == [113, 117, 101, 117, 101]) = false := by rw [beq_eq_false_iff_ne]; exact hq
        have hr : r = lask0 := by rw [hr]; simp [askedL, hq]
        generalize numberS d = nc at *
        obtain ⟨nn, nb⟩ := nc
        simp only at gd
        iterate 7 ((try (refine RegT.mk [] ?_)); (try (simp (disch := omega) only [go_sem, hD, hG', rwLo, strRow, z0, z1, z2, z3, n1, n2, n3, n4, i3, i4, Int.reduceBEq, Int.reduceBNe, Int.reduceGT, Int.reduceSub, hpp, g1, gd, bq, unbox])); (repeat (with_reducible refine And.intro (by first | omega | decide | (simp; done) | (simp only [List.length_append, List.length_cons, List.length_nil, List.length_map]; omega)) ?_)))
        refine endW [] [] (by simp) rfl rfl rfl ?_ ?_ <;> simp only [go_sem]
        simp [hr, askA, lask0, note0, bA, covs, cov, subs, names, namess]
      · have aa : (!(a == [])) = true := by simp [ha]
        have hr : r = lask0 := by rw [hr]; simp [askedL, ha]
        iterate 7 ((try (refine RegT.mk [] ?_)); (try (simp (disch := omega) only [go_sem, hD, hG', rwLo, strRow, z0, z1, z2, z3, n1, n2, n3, n4, i3, i4, Int.reduceBEq, Int.reduceBNe, Int.reduceGT, Int.reduceSub, hpp, g1, aa, unbox])); (repeat (with_reducible refine And.intro (by first | omega | decide | (simp; done) | (simp only [List.length_append, List.length_cons, List.length_nil, List.length_map]; omega)) ?_)))
        refine endW [] [] (by simp) rfl rfl rfl ?_ ?_ <;> simp only [go_sem]
        simp [hr, askA, lask0, note0, bA, covs, cov, subs, names, namess]
    | cons e l =>
    have hr : r = lask0 := by rw [hr]; simp [askedL]
    have l5 : decide ((((l.length + 1 + 1 + 1 + 1 + 1 : Nat)) : Int) < 3) = false := by simp; omega
    have l6 : decide ((((l.length + 1 + 1 + 1 + 1 + 1 : Nat)) : Int) > 4) = true := by simp; omega
    iterate 7 ((try (refine RegT.mk [] ?_)); (try (simp (disch := omega) only [go_sem, hD, hG', rwLo, strRow, z0, z1, z2, z3, n1, n2, n3, n4, i3, i4, Int.reduceBEq, Int.reduceBNe, Int.reduceGT, Int.reduceSub, hpp, g1, l5, l6, unbox])); (repeat (with_reducible refine And.intro (by first | omega | decide | (simp; done) | (simp only [List.length_append, List.length_cons, List.length_nil, List.length_map]; omega)) ?_)))
    refine endW [] [] (by simp) rfl rfl rfl ?_ ?_ <;> simp only [go_sem]
    simp [hr, askA, lask0, note0, bA, covs, cov, subs, names, namess]
  exact hcon _ rfl
def eRaskof : Ent Tryz.prog D := ⟨78, Wd × Wd, fun x => [.str x.1, .str x.2], fun x => AdOk x.1 x.2, fun x => ⟨askA (raskW x.1 x.2), []⟩, fun x y _ _ h => by
  obtain ⟨a, b⟩ := x
  obtain ⟨a', b'⟩ := y
  simp only [List.cons.injEq, AV.str.injEq, and_true] at h
  rw [h.1, h.2], fun x h => con_raskof x.1 x.2 h⟩
end Go.Proofs.YtmlejhpeoiicpaaGreatDoor.Ab
namespace Go.Proofs.YtmlejhpeoiicpaaGreatDoor.Ab
open Go Go.RowKit
set_option linter.unusedVariables false
set_option linter.unusedSimpArgs false

def numRow (n : Int) : List AV := [.int .i64 n]
def hdP : List Int → List Wd → List Wd → List Int × Bool
  | acc, h :: hs, w :: ws => if (headN w h).2 = true then hdP (acc ++ [(headN w h).1]) hs ws else ([], false)
  | acc, _, _ => (acc, true)
def headedS (hs ws : List Wd) : List Int × Bool := if hs.length = ws.length then hdP [] hs ws else ([], false)
set_option maxRecDepth 100000 in
set_option maxHeartbeats 1000000 in
theorem con_rheaded (hs ws : List Wd) (h1 : hs.length ≤ 1000 ∧ ∀ w ∈ hs, w.length ≤ 1000) (h2 : ws.length ≤ 1000 ∧ ∀ w ∈ ws, w.length ≤ 1000) : Con Tryz.prog D 81 [.sl 1 (hs.map strRow), .sl 1 (ws.map strRow)] ⟨.tup [.sl 1 ((headedS hs ws).1.map numRow), .bool (headedS hs ws).2], []⟩ := by
  have hok : GOk Tryz.prog D (tabG [eRnumber]) := tabG_ok _
  have g1 := fun (w : Wd) (h : w.length ≤ 1000) => tabG_use (T := [eRnumber]) (E := eRnumber) (i := 0) rfl (by decide) (w) (by show w.length ≤ 281474976710656; omega)
  generalize tabG [eRnumber] = G at *
  dsimp only [eRnumber] at g1
  have hcon : ∀ r, r = headedS hs ws → Con Tryz.prog D 81 [.sl 1 (hs.map strRow), .sl 1 (ws.map strRow)] ⟨.tup [.sl 1 (r.1.map numRow), .bool r.2], []⟩ := by
    intro r hr
    unfold headedS at hr
    refine conW (G := G) (rs := [(4, none), (5, none)]) hok Tryz.func81 Tryz.results81 Tryz.ntmps81 (fun _ => {}) fun X hP hD hG' hX => ?_
    simp only [argS, num]
    by_cases hl : hs.length = ws.length
    · rw [if_pos hl] at hr
      have dl : ((hs.length : Int) != (ws.length : Int)) = false := by simp [hl]
      simp (disch := omega) only [go_sem, hD, hG', dl, unbox]
      refine Tr.loop (ι := Nat × List Int) (fun x => x.1 ≤ hs.length ∧ x.2.length ≤ x.1 ∧ r = hdP x.2 (hs.drop x.1) (ws.drop x.1)) (fun x => { nt := 64, tm := [(0, .sl 1 (hs.map strRow)), (1, .sl 1 (ws.map strRow)), (6, .os 5000), (16, .sl 1 (hs.map strRow)), (17, .int .i64 hs.length), (18, .int .i64 x.1)], bl := [(5000, some (.rows 3 1 (x.2.map numRow)))] }) (fun x => hs.length - x.1) (0, [])
        ⟨⟨Nat.zero_le _, by simp, by simpa using hr⟩, wk_of hD [] rfl rfl (by simp only [go_sem]; simp) (by simp only [go_sem])⟩ ?_
      rintro ⟨i, acc⟩ ⟨hi, hal, hinv⟩
      simp only at hi hal hinv
      refine evC_sound hX (fun _ => {}) _ _ _ ?_
      simp (disch := omega) only [go_sem, hD, hG', unbox]
      refine condK_split (fun h => ?_) (fun h => ?_)
      · rw [decide_eq_true_eq] at h
        have hi1 : i < hs.length := by omega
        have hi2 : i < ws.length := by omega
        have hgx := strGet hi1
        have hgy := strGet hi2
        have hd1 : hs.drop i = hs.getD i [] :: hs.drop (i + 1) := by
          rw [List.drop_eq_getElem_cons hi1]
          simp [hi1]
        have hd2 : ws.drop i = ws.getD i [] :: ws.drop (i + 1) := by
          rw [List.drop_eq_getElem_cons hi2]
          simp [hi2]
        have hx1 := h1.2 _ (getD_in (d := []) hi1)
        have hx2 := h2.2 _ (getD_in (d := []) hi2)
        rw [hd1, hd2, hdP] at hinv
        generalize hs.getD i [] = x at *
        generalize ws.getD i [] = y at *
        have hot := Lib.hasPrefix_of_take x y
        have htd : Lib.hasPrefix x y = true → Lib.trimPrefix x y = x.drop y.length := fun h => by
          unfold Lib.trimPrefix
          rw [if_pos h]
        have hdl : (y.length : Int).toNat = y.length := Int.toNat_natCast _
        have g1 := g1 (x.drop y.length) (by rw [List.length_drop]; omega)
        simp only [strRow] at hgx hgy
        unfold headN at hinv
        by_cases hc : x.length < y.length
        · have dc : decide ((x.length : Int) < (y.length : Int)) = true := by simp; omega
          rw [decide_eq_false (by omega), Bool.false_and] at hot
          rw [← hot] at hinv
          simp only [Bool.false_and, Bool.false_eq_true, if_false] at hinv
          simp (disch := omega) only [go_sem, hD, hG', hgx, hgy, dc, unbox]
          (repeat (with_reducible refine And.intro (by first | omega | decide | (simp; done) | (simp only [List.length_append, List.length_cons, List.length_nil, List.length_map]; omega)) ?_))
          refine RegA.mk [(8, false)] (by decide) ?_
          simp (disch := omega) only [go_sem, hD, hG', hgx, hgy, dc, unbox]
          (repeat (with_reducible refine And.intro (by first | omega | decide | (simp; done) | (simp only [List.length_append, List.length_cons, List.length_nil, List.length_map]; omega)) ?_))
          refine endW [] [] (by simp) rfl rfl rfl ?_ ?_ <;> simp only [go_sem]
          simp [hinv]
        have dc : decide ((x.length : Int) < (y.length : Int)) = false := by simp; omega
        rw [decide_eq_true (by omega), Bool.true_and] at hot
        cases hp : Lib.hasPrefix x y
        · rw [hp] at hot hinv
          simp only [Bool.false_and, Bool.false_eq_true, if_false] at hinv
          simp (disch := omega) only [go_sem, hD, hG', hgx, hgy, dc, unbox]
          (repeat (with_reducible refine And.intro (by first | omega | decide | (simp; done) | (simp only [List.length_append, List.length_cons, List.length_nil, List.length_map]; omega)) ?_))
          refine RegA.mk [] (by decide) ?_
          simp (disch := omega) only [go_sem, hD, hG', hgx, hgy, dc, hdl, hot, unbox]
          (repeat (with_reducible refine And.intro (by first | omega | decide | (simp; done) | (simp only [List.length_append, List.length_cons, List.length_nil, List.length_map]; omega)) ?_))
          refine endW [] [] (by simp) rfl rfl rfl ?_ ?_ <;> simp only [go_sem]
          simp [hinv]
        · rw [hp, htd hp] at hinv
          rw [hp] at hot
          generalize numberS (x.drop y.length) = nx at *
          obtain ⟨nn, nb⟩ := nx
          simp only [Bool.true_and] at g1 hinv
          cases nb
          · simp only [Bool.false_eq_true, if_false] at hinv
            simp (disch := omega) only [go_sem, hD, hG', hgx, hgy, dc, unbox]
            (repeat (with_reducible refine And.intro (by first | omega | decide | (simp; done) | (simp only [List.length_append, List.length_cons, List.length_nil, List.length_map]; omega)) ?_))
            refine RegA.mk [] (by decide) ?_
            simp (disch := omega) only [go_sem, hD, hG', hgx, hgy, dc, hdl, hot, List.take_length, g1, unbox]
            (repeat (with_reducible refine And.intro (by first | omega | decide | (simp; done) | (simp only [List.length_append, List.length_cons, List.length_nil, List.length_map]; omega)) ?_))
            refine endW [] [] (by simp) rfl rfl rfl ?_ ?_ <;> simp only [go_sem]
            simp [hinv]
          · simp only [if_true] at hinv
            simp (disch := omega) only [go_sem, hD, hG', hgx, hgy, dc, unbox]
            (repeat (with_reducible refine And.intro (by first | omega | decide | (simp; done) | (simp only [List.length_append, List.length_cons, List.length_nil, List.length_map]; omega)) ?_))
            refine RegA.mk [] (by decide) ?_
            simp (disch := omega) only [go_sem, hD, hG', hgx, hgy, dc, hdl, hot, List.take_length, g1, unbox]
            (repeat (with_reducible refine And.intro (by first | omega | decide | (simp; done) | (simp only [List.length_append, List.length_cons, List.length_nil, List.length_map]; omega)) ?_))
            refine ⟨(i + 1, acc ++ [nn]), ⟨⟨by omega, by simp; omega, hinv⟩, by simp only; omega⟩, wk_of hD [(5000, 61)] rfl rfl ?_ ?_⟩ <;> simp only [go_sem]
            · simp
            · simp [numRow]
      · rw [decide_eq_false_iff_not] at h
        have hd1 : hs.drop i = [] := List.drop_eq_nil_of_le (by omega)
        rw [hd1, hdP] at hinv
        simp (disch := omega) only [go_sem, hD, hG', unbox]
        (repeat (with_reducible refine And.intro (by first | omega | decide | (simp; done) | (simp only [List.length_append, List.length_cons, List.length_nil, List.length_map]; omega)) ?_))
        refine endW [5000] [] (by simp) rfl rfl rfl ?_ ?_ <;> simp only [go_sem]
        simp [hinv]
        all_goals (intro a b c; simp)
    · rw [if_neg hl] at hr
      have dl : ((hs.length : Int) != (ws.length : Int)) = true := by simp; omega
      simp (disch := omega) only [go_sem, hD, hG', dl, unbox]
      refine endW [] [] (by simp) rfl rfl rfl ?_ ?_ <;> simp only [go_sem]
      simp [hr]
  exact hcon _ rfl
def eRheaded : Ent Tryz.prog D := ⟨81, List Wd × List Wd, fun x => [.sl 1 (x.1.map strRow), .sl 1 (x.2.map strRow)], fun x => (x.1.length ≤ 1000 ∧ ∀ w ∈ x.1, w.length ≤ 1000) ∧ (x.2.length ≤ 1000 ∧ ∀ w ∈ x.2, w.length ≤ 1000), fun x => ⟨.tup [.sl 1 ((headedS x.1 x.2).1.map numRow), .bool (headedS x.1 x.2).2], []⟩, fun x y _ _ h => by
  obtain ⟨a, b⟩ := x
  obtain ⟨a', b'⟩ := y
  simp only [List.cons.injEq, AV.sl.injEq, true_and, and_true] at h
  rw [strs_inj h.1, strs_inj h.2], fun x h => con_rheaded x.1 x.2 h.1 h.2⟩
end Go.Proofs.YtmlejhpeoiicpaaGreatDoor.Ab
