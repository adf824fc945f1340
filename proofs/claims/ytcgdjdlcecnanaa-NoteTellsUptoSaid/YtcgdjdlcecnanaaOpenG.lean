/-
  Arguments opened, of any plain type: what the evaluator has of them.
  No condition.
-/
import Derived.Test.YtcgdjdlcecnanaaOpen
import Derived.Test.YtcgdjdlcecnanaaAbW
import Derived.Test.YtcgdjdlcecnanaaNtA
namespace Go.Proofs.Ytcgdjdlcecnanaa.Ab
open Go Go.RowKit Go.ChangeShapes Go.WideShapes
set_option linter.unusedVariables false
set_option linter.unusedSimpArgs false

def contB (D : Nat → TI) : List (Nat × Nat) → Nat → Nat → Bool
  | [], o, n => decide (o = n)
  | (o', t) :: r, o, n => decide (o' = o) && contB D r (o + (D t).n) n
def plainB (D : Nat → TI) : Nat → Nat → Bool
  | 0, _ => false
  | f + 1, t => match (D t).k with
    | .int _ => decide ((D t).n = 1)
    | .bool => decide ((D t).n = 1)
    | .str => decide ((D t).n = 1)
    | .slice e => decide ((D t).n = 1) && plainB D f e
    | .struct fs => contB D fs 0 (D t).n && fs.all (fun x => plainB D f x.2)
    | _ => false
def ShpF (S : Nat → List AV → Prop) : List (Nat × Nat) → List AV → Prop
  | [], cs => cs = []
  | (_, t) :: r, cs => ∃ a b, cs = a ++ b ∧ S t a ∧ ShpF S r b
/-- cells of a plain type; lists and texts no longer than B -/
def Shp (D : Nat → TI) (B : Nat) : Nat → Nat → List AV → Prop
  | 0, _, _ => False
  | f + 1, t, cs => match (D t).k with
    | .int k => ∃ n, cs = [.int k n] ∧ (Lit.int k n).wf = true
    | .bool => ∃ b, cs = [.bool b]
    | .str => ∃ l, cs = [.str l] ∧ l.length ≤ B
    | .slice e => ∃ rs, cs = [.sl (D e).n rs] ∧ rs.length ≤ B ∧ ∀ row ∈ rs, Shp D B f e row
    | .struct fs => ShpF (Shp D B f) fs cs
    | _ => False

theorem cellsOf_n {P : Program} {D : Nat → TI} (hT : TOk P D) {t : Nat} (h : isOther (D t).k = false) : P.cellsOf t = (D t).n := by
  obtain ⟨i, z, h1, h2, _⟩ := ty_info hT h
  simp [Program.cellsOf, h1, h2]
theorem plain_other {D : Nat → TI} {f t : Nat} (h : plainB D f t = true) : isOther (D t).k = false := by
  cases f with
  | zero => cases h
  | succ f =>
    unfold plainB at h
    cases hk : (D t).k <;> rw [hk] at h <;> first | rfl | cases h

section
variable {H : Type} {enc : TypeId × Value → H} {P : Program} {W : World} {D : Nat → TI} {B : Nat}
def GoodA (W : World) (us : List AV) (cs : List Value) : Prop := us.length = cs.length ∧ ∀ (i : Nat) a v, us[i]? = some a → cs[i]? = some v → Rel W (· < W.heap.size) ρ0 a v ∧ v.oneCell' = true ∧ names a = []
theorem GoodA.one {a : AV} {v : Value} (h : Rel W (· < W.heap.size) ρ0 a v) (h1 : v.oneCell' = true) (h2 : names a = []) : GoodA W [a] [v] := by
  refine ⟨rfl, fun i x u hx hu => ?_⟩
  cases i with
  | zero => simp at hx hu; subst hx hu; exact ⟨h, h1, h2⟩
  | succ i => simp at hx
theorem GoodA.append {us bs : List AV} {cs ds : List Value} (h : GoodA W us cs) (k : GoodA W bs ds) : GoodA W (us ++ bs) (cs ++ ds) := by
  refine ⟨by simp [h.1, k.1], fun i x u hx hu => ?_⟩
  by_cases hi : i < us.length
  · rw [List.getElem?_append_left hi] at hx
    rw [List.getElem?_append_left (by rw [← h.1]; exact hi)] at hu
    exact h.2 i x u hx hu
  · rw [List.getElem?_append_right (by omega)] at hx
    rw [List.getElem?_append_right (by rw [← h.1]; omega), ← h.1] at hu
    exact k.2 _ x u hx hu

theorem open_fields (hT : TOk P D) {S : Nat → List AV → Prop} {m N : Nat} {cs : List Value} (hN : cs.length = N)
    (hS : ∀ (t : Nat) (ds : List Value) (y : DataW H × List MemPlace), isOther (D t).k = false → plainB D m t = true → ∀ n, DataW.trod enc P W 0 (fun _ => true) true n t ds = some y → Rows.uptoBulk y.1 ≤ B → ∃ us, S t us ∧ us.length = (D t).n ∧ GoodA W us ds)
    {n : Nat} : ∀ (fs : List (Nat × Nat)) (flds : List Field) (xs : List (DataW H × List MemPlace)) (o : Nat), fieldsB P D fs flds = true → contB D fs o N = true → fs.all (fun x => plainB D m x.2) = true → o ≤ N → xs.length = flds.length →
      (∀ (i : Nat) (f : Field), flds[i]? = some f → DataW.trod enc P W 0 (fun _ => true) true n f.type ((cs.drop f.offset).take (P.cellsOf f.type)) = xs[i]?) → (∀ x ∈ xs, Rows.uptoBulk x.1 ≤ B) →
      ∃ us, ShpF S fs us ∧ o + us.length = N ∧ GoodA W us (cs.drop o)
  | [], [], xs, o, _, hc, _, ho, _, _, _ => by
    simp only [contB, decide_eq_true_eq] at hc
    refine ⟨[], rfl, by simpa using hc, by simp; omega, fun i a v ha => by simp at ha⟩
  | [], _ :: _, _, _, h, _, _, _, _, _, _ => by simp [fieldsB] at h
  | _ :: _, [], _, _, h, _, _, _, _, _, _ => by simp [fieldsB] at h
  | (o', t) :: r, f :: flds, xs, o, h, hc, hp, ho, hl, hf, hb => by
    simp only [fieldsB, Bool.and_eq_true, decide_eq_true_eq] at h
    obtain ⟨⟨⟨h1, h2⟩, h3⟩, h4⟩ := h
    simp only [contB, Bool.and_eq_true, decide_eq_true_eq] at hc
    obtain ⟨rfl, hc⟩ := hc
    rw [List.all_cons, Bool.and_eq_true] at hp
    match xs, hl with
    | x :: xs, hl =>
      have hot := plain_other hp.1
      have hx := hf 0 f rfl
      rw [h1, h2, cellsOf_n hT hot] at hx
      simp only [List.getElem?_cons_zero] at hx
      obtain ⟨us, a1, a2, a3⟩ := hS t _ x hot hp.1 n hx (hb x (by simp))
      have hlen : ((cs.drop o').take (D t).n).length = (D t).n := by rw [← a3.1, a2]
      rw [List.length_take, List.length_drop] at hlen
      obtain ⟨bs, b1, b2, b3⟩ := open_fields hT hN hS r flds xs (o' + (D t).n) h4 hc hp.2 (by omega) (by simpa using hl) (fun i f hi => by simpa using hf (i + 1) f (by simpa using hi)) (fun y hy => hb y (by simp [hy]))
      refine ⟨us ++ bs, ⟨us, bs, rfl, a1, b1⟩, by rw [List.length_append]; omega, ?_⟩
      have := a3.append b3
      rwa [← List.drop_drop, List.take_append_drop] at this

theorem open_any (hT : TOk P D) : ∀ (m t : Nat), plainB D m t = true → ∀ (n : Nat) (cs : List Value) (x : DataW H × List MemPlace), DataW.trod enc P W 0 (fun _ => true) true n t cs = some x → Rows.uptoBulk x.1 ≤ B →
    ∃ us, Shp D B m t us ∧ us.length = (D t).n ∧ GoodA W us cs
  | 0, t, hp, _, _, _, _, _ => by cases hp
  | m + 1, t, hp, n, cs, x, h, hb => by
    have hot := plain_other hp
    unfold plainB at hp
    unfold Shp
    cases hk : (D t).k with
    | int k =>
      rw [hk] at hp
      obtain ⟨z, rfl, rfl, hw⟩ := DataW.trod_int (ty_int hT hk) h
      exact ⟨[.int k z], ⟨z, rfl, hw⟩, by simpa using (of_decide_eq_true hp).symm, GoodA.one (.int _ _) rfl rfl⟩
    | bool =>
      rw [hk] at hp
      have hu : P.underlying t = some .bool := by
        have h1 := (ty_kind hT (T := t) hot).1
        rw [hk] at h1
        cases hu : P.underlying t with
        | none => rw [hu] at h1; cases h1
        | some u => rw [hu] at h1; cases u <;> simp [kindB] at h1; rfl
      obtain ⟨z, rfl, rfl⟩ := DataW.trod_bool hu h
      exact ⟨[.bool z], ⟨z, rfl⟩, by simpa using (of_decide_eq_true hp).symm, GoodA.one (.bool _) rfl rfl⟩
    | str =>
      rw [hk] at hp
      obtain ⟨s, rfl, rfl, hs⟩ := DataW.trod_string (ty_str hT hk) h
      refine ⟨[.str s.data.toList], ⟨_, rfl, ?_⟩, by simpa using (of_decide_eq_true hp).symm, GoodA.one (.str _) rfl rfl⟩
      simp only [Rows.uptoBulk] at hb
      omega
    | slice e =>
      rw [hk] at hp
      simp only [Bool.and_eq_true, decide_eq_true_eq] at hp
      obtain ⟨hu, he, hpos⟩ := ty_slice hT hk
      have hce := cellsOf_n hT he
      rcases Deep.open_slice hu h with ⟨rfl, rfl⟩ | ⟨a, len, cap, mm, n', Dd, Pl, rfl, _, h1, h2, h3, rfl, hc⟩
      · refine ⟨[.sl (D e).n []], ⟨[], rfl, Nat.zero_le _, by simp⟩, by simp [hp.1], GoodA.one (.sl _ [] none 0 0 0 (fun _ _ => .nilIface) (Nat.le_refl _) (Nat.zero_le _) (fun h => absurd h (by simp)) (by simp) (by simp) (by simp)) rfl rfl⟩
      · simp only [if_true] at h3
        subst h3
        simp only [Rows.uptoBulk] at hb
        have hbl := bulk_len ((List.range len).map Dd)
        rw [List.length_map, List.length_range] at hbl
        have each : ∀ i, i < len → ∃ y : List AV × List Value, Shp D B m e y.1 ∧ y.1.length = (D e).n ∧ GoodA W y.1 y.2 ∧ ∀ j v, y.2[j]? = some v → W.cell? ((a.add (i * (D e).n)).add j) = some v := fun i hi => by
          obtain ⟨cs', q1, q2⟩ := hc i (by omega)
          rw [hce] at q1
          obtain ⟨_, ql, qc⟩ := World.cells?_some q1
          have hm := bulk_mem (l := (List.range len).map Dd) (d := Dd i) (List.mem_map.2 ⟨i, List.mem_range.2 hi, rfl⟩)
          obtain ⟨us, p1, p2, p3⟩ := open_any hT m e hp.2 n' cs' (Dd i, Pl i) q2 (by simp only; omega)
          refine ⟨(us, cs'), p1, p2, p3, fun j v hj => ?_⟩
          have hj' := (List.getElem?_eq_some_iff.1 hj).1
          simp only at hj hj'
          rw [qc j (by omega), hj]
        obtain ⟨Y, hY⟩ := Deep.choose_lt each
        have hrow : ∀ {i : Nat} {row : List AV}, ((List.range len).map fun i => (Y i).1)[i]? = some row → i < len ∧ row = (Y i).1 := fun {i row} hi => by
          rw [List.getElem?_map] at hi
          obtain ⟨k, hk1, rfl⟩ := Option.map_eq_some_iff.1 hi
          obtain ⟨hlt, e1⟩ := List.getElem?_eq_some_iff.1 hk1
          simp at hlt e1
          subst e1
          exact ⟨hlt, rfl⟩
        have hadr : 0 < len → ∃ b o, a = ⟨b, o, none⟩ ∧ b < W.heap.size := fun hl => by
          obtain ⟨q1, q2, q3, q4⟩ := hY 0 hl
          have hpos' : 0 < (Y 0).2.length := by rw [← q3.1, q2]; exact hpos
          have hc0 := q4 0 _ (List.getElem?_eq_getElem hpos')
          obtain ⟨⟨b', o', e'⟩, hb'⟩ := cell_addr hc0
          obtain ⟨b, o, s⟩ := a
          rw [block_of_add, block_of_add] at hb'
          have hs : s = none := by
            cases s with
            | none => rfl
            | some k => simp [Addr.add] at e'
          subst hs
          exact ⟨b, o, rfl, hb'⟩
        refine ⟨[.sl (D e).n ((List.range len).map fun i => (Y i).1)], ⟨_, rfl, by rw [List.length_map, List.length_range]; omega, fun row hr => ?_⟩, by simp [hp.1], GoodA.one ?_ rfl rfl⟩
        · obtain ⟨i, hi, rfl⟩ := List.mem_map.1 hr
          exact (hY i (List.mem_range.1 hi)).1
        · have hll : ((List.range len).map fun i => (Y i).1).length = len := by simp
          by_cases hl : 0 < len
          · obtain ⟨b, o, rfl, hblt⟩ := hadr hl
            have := Rel.sl (w := W) (im := (· < W.heap.size)) (ρ := ρ0) (D e).n ((List.range len).map fun i => (Y i).1) (some ⟨b, o, none⟩) mm b o (fun i j => (Y i).2.getD j .nilIface) (by omega) h2 (fun _ => ⟨rfl, hblt⟩) (fun i row hi => ?_) (fun i j row x hi hj => ?_) (fun i j row x hi hj => ?_)
            · rw [hll] at this; exact this
            · obtain ⟨hlt, rfl⟩ := hrow hi
              exact (hY i hlt).2.1
            · obtain ⟨hlt, rfl⟩ := hrow hi
              obtain ⟨p1, p2, p3, p4⟩ := hY i hlt
              have hjl := (List.getElem?_eq_some_iff.1 hj).1
              have hj2 : j < (Y i).2.length := by rw [← p3.1]; exact hjl
              have hv : (Y i).2[j]? = some (Y i).2[j] := List.getElem?_eq_getElem hj2
              have hg : (Y i).2.getD j .nilIface = (Y i).2[j] := by simp [hj2]
              have hc1 := p4 j _ hv
              rw [add_flat, add_flat] at hc1
              simp only [hg]
              exact ⟨by rw [← Nat.add_assoc]; exact hc1, (p3.2 j x _ hj hv).2⟩
            · obtain ⟨hlt, rfl⟩ := hrow hi
              obtain ⟨p1, p2, p3, p4⟩ := hY i hlt
              have hjl := (List.getElem?_eq_some_iff.1 hj).1
              have hj2 : j < (Y i).2.length := by rw [← p3.1]; exact hjl
              have hv : (Y i).2[j]? = some (Y i).2[j] := List.getElem?_eq_getElem hj2
              have hg : (Y i).2.getD j .nilIface = (Y i).2[j] := by simp [hj2]
              simp only [hg]
              exact (p3.2 j x _ hj hv).1
          · have hl0 : len = 0 := by omega
            subst hl0
            exact .sl (D e).n [] (some a) mm 0 0 (fun _ _ => .nilIface) (Nat.zero_le _) h2 (fun h => absurd h (by simp)) (by simp) (by simp) (by simp)
    | struct fs =>
      rw [hk] at hp
      simp only [Bool.and_eq_true] at hp
      obtain ⟨flds, hu, hfb⟩ := ty_struct hT hk
      obtain ⟨xs, n', rfl, rfl, hl, hxl, hf⟩ := DataW.trod_struct hu h
      rw [cellsOf_n hT hot] at hl
      simp only [Rows.uptoBulk] at hb
      obtain ⟨us, a1, a2, a3⟩ := open_fields hT (S := Shp D B m) (m := m) (B := B) hl (fun t' ds y _ hpt n hy hyb => open_any hT m t' hpt n ds y hy hyb) fs flds.toList xs 0 hfb hp.1 hp.2 (Nat.zero_le _) (by simpa using hxl) (fun i f hi => hf i f (by simpa using hi))
        (fun y hy => by have := bulk_mem (l := xs.map (·.1)) (d := y.1) (List.mem_map.2 ⟨y, hy, rfl⟩); omega)
      rw [Nat.zero_add] at a2
      exact ⟨us, a1, a2, by simpa using a3⟩
    | ref => rw [hk] at hp; cases hp
    | other => rw [hk] at hp; cases hp
/-- an argument of a plain type -/
theorem open_arg (hT : TOk P D) {m t : Nat} (hp : plainB D m t = true) {r : Reach} {b0 : Nat} {v : Value} {d : DataW H} {ps : List MemPlace} (hval : Value.okWide P W r b0 t v) (h : DataW.Trod enc P W 0 (fun _ => true) true t v d ps) (hb : Rows.uptoBulk d ≤ B) :
    ∃ us, Shp D B m t us ∧ us.length = (D t).n ∧ Rel W (· < W.heap.size) ρ0 (match (D t).k with | .struct _ => .agg us | _ => us.headD .junk) v := by
  obtain ⟨n, hn⟩ := h
  obtain ⟨us, h1, h2, h3⟩ := open_any hT m t hp n _ _ hn hb
  refine ⟨us, h1, h2, ?_⟩
  have hot := plain_other hp
  have one : v.cells = #[v] → Rel W (· < W.heap.size) ρ0 (us.headD .junk) v := fun hc => by
    rw [hc] at h3
    match us, h3 with
    | [a], h3 => exact (h3.2 0 a v rfl rfl).1
    | [], h3 => have := h3.1; simp at this
    | _ :: _ :: _, h3 => have := h3.1; simp at this
  cases hk : (D t).k with
  | int k =>
    obtain ⟨z, rfl⟩ := okWide_int (ty_int hT hk) hval
    exact one rfl
  | bool =>
    have hu : P.underlying t = some .bool := by
      have h1 := (ty_kind hT (T := t) hot).1
      rw [hk] at h1
      cases hu : P.underlying t with
      | none => rw [hu] at h1; cases h1
      | some u => rw [hu] at h1; cases u <;> simp [kindB] at h1; rfl
    obtain ⟨z, rfl⟩ := okWide_bool hu hval
    exact one rfl
  | str =>
    obtain ⟨z, rfl⟩ := okWide_string (ty_str hT hk) hval
    exact one rfl
  | slice e =>
    obtain ⟨a, l, c, rfl⟩ := okWide_slice (ty_slice hT hk).1 hval
    exact one rfl
  | struct fs =>
    obtain ⟨flds, hu, _⟩ := ty_struct hT hk
    obtain ⟨vs, rfl, hsz⟩ := okWide_struct hu hval
    simp only [Value.cells] at h3
    exact .agg us vs (by have := h3.1; simp at this; omega) (fun i u hu => by
      have hi := (Array.getElem?_eq_some_iff.1 hu).1
      have hi2 : i < us.length := by have := h3.1; simp at this; omega
      exact (h3.2 i us[i] u (List.getElem?_eq_getElem hi2) (by simpa using hu)).2.1) (fun i a u ha hu => (h3.2 i a u ha (by simpa using hu)).1)
  | ref => unfold plainB at hp; cases m <;> simp [hk] at hp
  | other => rw [hk] at hot; cases hot
end
/-! texts, numbers, properties, notes -/
theorem shp_str {t : Nat} (hk : (D t).k = .str) {m : Nat} {B : Nat} {us : List AV} (h : Shp D B (m + 1) t us) : ∃ s : ByteArray, us = [.str s.data.toList] ∧ s.size ≤ B := by
  simp only [Shp, hk] at h
  obtain ⟨l, rfl, hl⟩ := h
  exact ⟨⟨⟨l⟩⟩, rfl, hl⟩
theorem shp_i64 {t : Nat} (hk : (D t).k = .int .i64) {m : Nat} {B : Nat} {us : List AV} (h : Shp D B (m + 1) t us) : ∃ n : Int, us = [.int .i64 n] ∧ -9223372036854775808 ≤ n ∧ n ≤ 9223372036854775807 := by
  simp only [Shp, hk] at h
  obtain ⟨n, rfl, hw⟩ := h
  exact ⟨n, rfl, by simpa [Lit.wf, IntKind.min, IntKind.max, IntKind.signed, IntKind.bits] using hw⟩
theorem shp_bool {t : Nat} (hk : (D t).k = .bool) {m : Nat} {B : Nat} {us : List AV} (h : Shp D B (m + 1) t us) : ∃ b : Bool, us = [.bool b] := by
  simp only [Shp, hk] at h
  exact h
theorem shp_slice {t e : Nat} (hk : (D t).k = .slice e) {m : Nat} {B : Nat} {us : List AV} (h : Shp D B (m + 1) t us) : ∃ rs, us = [.sl (D e).n rs] ∧ rs.length ≤ B ∧ ∀ row ∈ rs, Shp D B m e row := by
  unfold Shp at h
  rw [hk] at h
  exact h
theorem shp_struct {t : Nat} {fs : List (Nat × Nat)} (hk : (D t).k = .struct fs) {m : Nat} {B : Nat} {us : List AV} (h : Shp D B (m + 1) t us) : ShpF (Shp D B m) fs us := by
  unfold Shp at h
  rw [hk] at h
  exact h
theorem shp_rows {α : Type} {f : α → List AV} {Q : α → Prop} : ∀ {rs : List (List AV)}, (∀ row ∈ rs, ∃ x, row = f x ∧ Q x) → ∃ l : List α, rs = l.map f ∧ ∀ x ∈ l, Q x
  | [], _ => ⟨[], rfl, by simp⟩
  | r :: rs, h => by
    obtain ⟨x, rfl, hx⟩ := h r (by simp)
    obtain ⟨l, rfl, hl⟩ := shp_rows (rs := rs) (f := f) (Q := Q) fun row hrow => h row (by simp [hrow])
    refine ⟨x :: l, rfl, fun y hy => ?_⟩
    rcases List.mem_cons.1 hy with rfl | hy
    · exact hx
    · exact hl y hy
theorem shp_prop {m : Nat} {B : Nat} {us : List AV} (h : Shp D B (m + 2) 99 us) : ∃ p : LProp, us = propRow p ∧ p.key.size ≤ B ∧ p.text.size ≤ B := by
  simp only [Shp, ShpF, D_1, D_2, D_3, D_4, D_5, D_6, D_7, D_8, D_9, D_10, D_11, D_12, D_13, D_14, D_15, D_16, D_17, D_18, D_19, D_21, D_22, D_23, D_24, D_25, D_26, D_27, D_28, D_29, D_30, D_32, D_33, D_35, D_36, D_37, D_38, D_39, D_40, D_41, D_42, D_43, D_44, D_45, D_46, D_47, D_49, D_50, D_51, D_52, D_53, D_54, D_55, D_56, D_57, D_58, D_60, D_61, D_62, D_63, D_64, D_66, D_67, D_68, D_70, D_72, D_73, D_75, D_76, D_77, D_78, D_79, D_80, D_81, D_82, D_83, D_84, D_85, D_86, D_88, D_89, D_91, D_92, D_93, D_94, D_95, D_96, D_97, D_98, D_99, D_100, D_103, D_104, D_105, D_106, D_107, D_108, D_109, D_110, D_111, D_112, D_113, D_114, D_115, D_116, D_117, D_118, D_119, D_120, D_121, D_122, D_123, D_126, D_128, D_130, D_131, D_132, D_133, D_137, D_138, D_139, D_140, D_141, D_142, D_143, D_144, D_145] at h
  obtain ⟨_, _, rfl, ⟨k, rfl, hk⟩, _, _, rfl, ⟨a, rfl, ha⟩, _, _, rfl, ⟨b, rfl, hb⟩, _, _, rfl, ⟨t, rfl, ht⟩, rfl⟩ := h
  exact ⟨⟨⟨⟨k⟩⟩, a, b, ⟨⟨t⟩⟩⟩, rfl, hk, ht⟩
theorem shp_props {m : Nat} {B : Nat} {us : List AV} (h : Shp D B (m + 3) 40 us) : ∃ l : List LProp, us = [.sl 4 (l.map propRow)] ∧ l.length ≤ B ∧ ∀ p ∈ l, p.key.size ≤ B ∧ p.text.size ≤ B := by
  obtain ⟨rs, rfl, hl, hr⟩ := shp_slice (e := 99) (by simp only [D_1, D_2, D_3, D_4, D_5, D_6, D_7, D_8, D_9, D_10, D_11, D_12, D_13, D_14, D_15, D_16, D_17, D_18, D_19, D_21, D_22, D_23, D_24, D_25, D_26, D_27, D_28, D_29, D_30, D_32, D_33, D_35, D_36, D_37, D_38, D_39, D_40, D_41, D_42, D_43, D_44, D_45, D_46, D_47, D_49, D_50, D_51, D_52, D_53, D_54, D_55, D_56, D_57, D_58, D_60, D_61, D_62, D_63, D_64, D_66, D_67, D_68, D_70, D_72, D_73, D_75, D_76, D_77, D_78, D_79, D_80, D_81, D_82, D_83, D_84, D_85, D_86, D_88, D_89, D_91, D_92, D_93, D_94, D_95, D_96, D_97, D_98, D_99, D_100, D_103, D_104, D_105, D_106, D_107, D_108, D_109, D_110, D_111, D_112, D_113, D_114, D_115, D_116, D_117, D_118, D_119, D_120, D_121, D_122, D_123, D_126, D_128, D_130, D_131, D_132, D_133, D_137, D_138, D_139, D_140, D_141, D_142, D_143, D_144, D_145]) h
  obtain ⟨l, rfl, h2⟩ := shp_rows (f := propRow) (Q := fun p => p.key.size ≤ B ∧ p.text.size ≤ B) fun row hrow => shp_prop (hr row hrow)
  refine ⟨l, by simp only [D_1, D_2, D_3, D_4, D_5, D_6, D_7, D_8, D_9, D_10, D_11, D_12, D_13, D_14, D_15, D_16, D_17, D_18, D_19, D_21, D_22, D_23, D_24, D_25, D_26, D_27, D_28, D_29, D_30, D_32, D_33, D_35, D_36, D_37, D_38, D_39, D_40, D_41, D_42, D_43, D_44, D_45, D_46, D_47, D_49, D_50, D_51, D_52, D_53, D_54, D_55, D_56, D_57, D_58, D_60, D_61, D_62, D_63, D_64, D_66, D_67, D_68, D_70, D_72, D_73, D_75, D_76, D_77, D_78, D_79, D_80, D_81, D_82, D_83, D_84, D_85, D_86, D_88, D_89, D_91, D_92, D_93, D_94, D_95, D_96, D_97, D_98, D_99, D_100, D_103, D_104, D_105, D_106, D_107, D_108, D_109, D_110, D_111, D_112, D_113, D_114, D_115, D_116, D_117, D_118, D_119, D_120, D_121, D_122, D_123, D_126, D_128, D_130, D_131, D_132, D_133, D_137, D_138, D_139, D_140, D_141, D_142, D_143, D_144, D_145], by simpa using hl, h2⟩
/-! bytes -/
theorem shp_bytes {m : Nat} {B : Nat} {us : List AV} (h : Shp D B (m + 2) 22 us) : ∃ l : List UInt8, us = [.sl 1 (l.map byteRow)] ∧ l.length ≤ B := by
  simp only [Shp, D_1, D_2, D_3, D_4, D_5, D_6, D_7, D_8, D_9, D_10, D_11, D_12, D_13, D_14, D_15, D_16, D_17, D_18, D_19, D_21, D_22, D_23, D_24, D_25, D_26, D_27, D_28, D_29, D_30, D_32, D_33, D_35, D_36, D_37, D_38, D_39, D_40, D_41, D_42, D_43, D_44, D_45, D_46, D_47, D_49, D_50, D_51, D_52, D_53, D_54, D_55, D_56, D_57, D_58, D_60, D_61, D_62, D_63, D_64, D_66, D_67, D_68, D_70, D_72, D_73, D_75, D_76, D_77, D_78, D_79, D_80, D_81, D_82, D_83, D_84, D_85, D_86, D_88, D_89, D_91, D_92, D_93, D_94, D_95, D_96, D_97, D_98, D_99, D_100, D_103, D_104, D_105, D_106, D_107, D_108, D_109, D_110, D_111, D_112, D_113, D_114, D_115, D_116, D_117, D_118, D_119, D_120, D_121, D_122, D_123, D_126, D_128, D_130, D_131, D_132, D_133, D_137, D_138, D_139, D_140, D_141, D_142, D_143, D_144, D_145] at h
  obtain ⟨rs, rfl, hl, hr⟩ := h
  have hB : ∀ row ∈ rs, ∃ b : UInt8, row = byteRow b := fun row hrow => by
    obtain ⟨n, rfl, hw⟩ := hr row hrow
    have hx : 0 ≤ n ∧ n ≤ 255 := by simpa [Lit.wf, IntKind.min, IntKind.max, IntKind.signed, IntKind.bits] using hw
    refine ⟨UInt8.ofNat n.toNat, ?_⟩
    have e : ((UInt8.ofNat n.toNat).toNat : Int) = n := by
      rw [UInt8.toNat_ofNat']
      omega
    rw [byteRow, e]
  clear hr
  have : ∃ l : List UInt8, rs = l.map byteRow := by
    clear hl
    induction rs with
    | nil => exact ⟨[], rfl⟩
    | cons x r ih =>
      obtain ⟨b, rfl⟩ := hB x (by simp)
      obtain ⟨l, rfl⟩ := ih fun row hrow => hB row (by simp [hrow])
      exact ⟨b :: l, rfl⟩
  obtain ⟨l, rfl⟩ := this
  exact ⟨l, rfl, by simpa using hl⟩
theorem shp_note {m : Nat} {B : Nat} {us : List AV} (h : Shp D B (m + 4) 42 us) : ∃ n : LNote, AV.agg us = noteA n ∧ us = [.sl 4 (n.props.map propRow), .sl 1 (n.body.map byteRow)] ∧ n.props.length ≤ B ∧ n.body.length ≤ B ∧ ∀ p ∈ n.props, p.key.size ≤ B ∧ p.text.size ≤ B := by
  have h := shp_struct (fs := [(0, 40), (1, 22)]) (by simp only [D_1, D_2, D_3, D_4, D_5, D_6, D_7, D_8, D_9, D_10, D_11, D_12, D_13, D_14, D_15, D_16, D_17, D_18, D_19, D_21, D_22, D_23, D_24, D_25, D_26, D_27, D_28, D_29, D_30, D_32, D_33, D_35, D_36, D_37, D_38, D_39, D_40, D_41, D_42, D_43, D_44, D_45, D_46, D_47, D_49, D_50, D_51, D_52, D_53, D_54, D_55, D_56, D_57, D_58, D_60, D_61, D_62, D_63, D_64, D_66, D_67, D_68, D_70, D_72, D_73, D_75, D_76, D_77, D_78, D_79, D_80, D_81, D_82, D_83, D_84, D_85, D_86, D_88, D_89, D_91, D_92, D_93, D_94, D_95, D_96, D_97, D_98, D_99, D_100, D_103, D_104, D_105, D_106, D_107, D_108, D_109, D_110, D_111, D_112, D_113, D_114, D_115, D_116, D_117, D_118, D_119, D_120, D_121, D_122, D_123, D_126, D_128, D_130, D_131, D_132, D_133, D_137, D_138, D_139, D_140, D_141, D_142, D_143, D_144, D_145]) h
  simp only [ShpF] at h
  obtain ⟨_, _, rfl, h1, _, _, rfl, h2, rfl⟩ := h
  obtain ⟨l, rfl, q1, q2⟩ := shp_props h1
  obtain ⟨b, rfl, q3⟩ := shp_bytes h2
  exact ⟨⟨l, b⟩, rfl, rfl, q1, q3, q2⟩
end Go.Proofs.Ytcgdjdlcecnanaa.Ab
