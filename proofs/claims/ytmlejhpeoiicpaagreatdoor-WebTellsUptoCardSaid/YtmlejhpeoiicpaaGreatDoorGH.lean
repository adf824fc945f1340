/-
  Texts of the proof, one behind the other: FrS FrA FrB FrC SmA OpenF.
  No condition but those that each theorem names.
-/
import Derived.Test.YtmlejhpeoiicpaaGreatDoorGD
import Derived.Test.YtmlejhpeoiicpaaGreatDoorGC
namespace Go.Proofs.YtmlejhpeoiicpaaGreatDoor.Ab
open Go Go.RowKit
set_option linter.unusedVariables false
set_option linter.unusedSimpArgs false

structure LAsk where
  kind : Int
  queue : ByteArray
  n : Int
  note : LNote
structure LSay where
  kind : Int
  n : Int
  m : Int
  err : Int
  note : LNote
def LAsk.Fits (a : LAsk) : Prop := a.queue.size ≤ 1048576 ∧ a.note.Fits
def namedS (k : Int) : Bool := decide (k = 2 ∨ k = 3 ∨ k = 4 ∨ k = 5 ∨ k = 6 ∨ k = 9)
def lowS (k : Int) : Int := if k = 6 ∨ k = 7 ∨ k = 8 then 1 else 0
def highS (k : Int) : Int := if k = 2 ∨ k = 7 ∨ k = 8 then 1073741824 else if k = 6 then 9 else 0
def wrongAskS (a : LAsk) : Int :=
  if a.kind < 1 ∨ 9 < a.kind then 1
  else if (if namedS a.kind = true then keyS a.queue = false else a.queue.size ≠ 0) then 7
  else if a.n < lowS a.kind ∨ highS a.kind < a.n then 3
  else if a.kind ≠ 4 ∧ 0 < a.note.props.length + a.note.body.length then 2
  else wrongS a.note
def wrongSayS (s : LSay) : Int :=
  if s.kind < 1 ∨ 4 < s.kind then 1
  else if s.kind = 2 then (if s.n < 1 ∨ 1073741824 < s.n ∨ s.m < 0 ∨ 3 < s.m ∨ s.err ≠ 0 then 3 else wrongS s.note)
  else if s.n ≠ 0 ∨ s.m ≠ 0 ∨ (s.kind = 4 ∧ (s.err ≤ 0 ∨ 10 < s.err)) ∨ (s.kind ≠ 4 ∧ s.err ≠ 0) then 3
  else if 0 < s.note.props.length + s.note.body.length then 2
  else 0
def askA (a : LAsk) : AV := .agg [.int .i64 a.kind, .str a.queue.data.toList, .int .i64 a.n, .sl 4 (a.note.props.map propRow), .sl 1 (a.note.body.map byteRow)]
def sayA (s : LSay) : AV := .agg [.int .i64 s.kind, .int .i64 s.n, .int .i64 s.m, .int .i64 s.err, .sl 4 (s.note.props.map propRow), .sl 1 (s.note.body.map byteRow)]
theorem askA_inj {a b : LAsk} (h : askA a = askA b) : a = b := by
  obtain ⟨k, q, n, ⟨p, y⟩⟩ := a
  obtain ⟨k', q', n', ⟨p', y'⟩⟩ := b
  simp only [askA, AV.agg.injEq, List.cons.injEq, AV.int.injEq, AV.str.injEq, AV.sl.injEq, true_and, and_true] at h
  obtain ⟨rfl, h2, rfl, h4, h5⟩ := h
  rw [bytes_ext h2, props_inj h4, bytes_inj h5]
theorem sayA_inj {a b : LSay} (h : sayA a = sayA b) : a = b := by
  obtain ⟨k, n, m, e, ⟨p, y⟩⟩ := a
  obtain ⟨k', n', m', e', ⟨p', y'⟩⟩ := b
  simp only [sayA, AV.agg.injEq, List.cons.injEq, AV.int.injEq, AV.str.injEq, AV.sl.injEq, true_and, and_true] at h
  obtain ⟨rfl, rfl, rfl, rfl, h4, h5⟩ := h
  rw [props_inj h4, bytes_inj h5]
theorem names_ask (s : LAsk) : names (askA s) = [] := by simp [askA, names, namess]
theorem names_say (s : LSay) : names (sayA s) = [] := by simp [sayA, names, namess]
attribute [simp] names_ask names_say
theorem note_empty {n : LNote} (h : n.props.length + n.body.length = 0) : n = note0 := by
  obtain ⟨p, b⟩ := n
  simp only at h
  have h1 : p = [] := List.eq_nil_of_length_eq_zero (by omega)
  have h2 : b = [] := List.eq_nil_of_length_eq_zero (by omega)
  rw [h1, h2]
  rfl
def nakedA (a : LAsk) : AV := .agg [.int .i64 a.kind, .str a.queue.data.toList, .int .i64 a.n, .nils, .nils]
theorem naked_inj {a b : LAsk} (ha : a.note = note0) (hb : b.note = note0) (h : nakedA a = nakedA b) : a = b := by
  obtain ⟨k, q, n, m⟩ := a
  obtain ⟨k', q', n', m'⟩ := b
  simp only at ha hb
  subst ha hb
  simp only [nakedA, AV.agg.injEq, List.cons.injEq, AV.int.injEq, AV.str.injEq, true_and, and_true] at h
  rw [h.1, bytes_ext h.2.1, h.2.2]
end Go.Proofs.YtmlejhpeoiicpaaGreatDoor.Ab
namespace Go.Proofs.YtmlejhpeoiicpaaGreatDoor.Ab
open Go Go.RowKit
set_option linter.unusedVariables false
set_option linter.unusedSimpArgs false

set_option maxRecDepth 100000 in
set_option maxHeartbeats 2000000 in
theorem con_frwrong (s : LSay) (hs : s.note.Fits) : Con Tryz.prog D 79 [sayA s] ⟨.int .i64 (wrongSayS s), []⟩ := by
  obtain ⟨kind, n, m, err, ⟨ps, bs⟩⟩ := s
  have h1 := hs.2.1
  have h2 := hs.2.2
  simp only at h1 h2
  have g1 : tabG [eWrong] 104 [noteA ⟨ps, bs⟩] = some ⟨.int .i64 (wrongS ⟨ps, bs⟩), []⟩ := tabG_at (E := eWrong) (T := [eWrong]) (i := 0) rfl (by decide) _ hs rfl rfl
  have hok : GOk Tryz.prog D (tabG [eWrong]) := tabG_ok _
  generalize tabG [eWrong] = G at *
  simp only [noteA] at g1
  have hcon : ∀ r, r = wrongSayS ⟨kind, n, m, err, ⟨ps, bs⟩⟩ → Con Tryz.prog D 79 [sayA ⟨kind, n, m, err, ⟨ps, bs⟩⟩] ⟨.int .i64 r, []⟩ := by
    intro r hr
    refine con_of (G := G) (rs := [(2, none)]) mixed tok hok Tryz.func79 rfl (by decide) Tryz.results79 (by decide) rfl Tryz.ntmps79 (by simp) (by simp [sayA, namess, names]) fun X hP hD hG' hX => evC_sound hX (fun _ => {}) _ _ _ ?_
    simp only [argS, num, sayA]
    simp (disch := omega) only [go_sem, hD, hG', g1, unbox]
    have hz : ps.length + bs.length = 0 → wrongS ⟨ps, bs⟩ = 0 := fun h => by rw [note_empty (n := ⟨ps, bs⟩) h]; rfl
    iterate 24 (all_goals (try (first | (refine RegT.mk [] ?_; simp (disch := omega) only [go_sem, hD, hG', g1, unbox]) | (refine condK_split (fun h => ?_) (fun h => ?_) <;> simp (disch := omega) only [go_sem, hD, hG', g1, unbox]) | and_intros)))
    all_goals (try (refine ⟨[], [], rfl, rfl, ?_, ?_⟩ <;> simp only [go_sem]))
    all_goals clear g1 hok hP hD hG' hX
    all_goals try (first | (intro hk; refine ⟨hk, fun h2 => ?_⟩; first | (rw [hk, h2]; rfl) | (rw [hk, decide_eq_false h2]; rfl)) | (intro hk; rw [decide_eq_false hk]; rfl) | (intro hk; rw [hk]; rfl))
    all_goals (subst hr; unfold wrongSayS; simp only)
    all_goals grind
  exact hcon _ rfl
set_option maxRecDepth 100000 in
set_option maxHeartbeats 2000000 in
theorem con_refwrongsay (s : LSay) (hs : s.note.Fits) : Con Tryz.prog D 21 [sayA s] ⟨.int .i64 (wrongSayS s), []⟩ := by
  obtain ⟨kind, n, m, err, ⟨ps, bs⟩⟩ := s
  have h1 := hs.2.1
  have h2 := hs.2.2
  simp only at h1 h2
  have g1 : tabG [eRefwrong] 54 [noteA ⟨ps, bs⟩] = some ⟨.int .i64 (wrongS ⟨ps, bs⟩), []⟩ := tabG_at (E := eRefwrong) (T := [eRefwrong]) (i := 0) rfl (by decide) _ hs rfl rfl
  have hok : GOk Tryz.prog D (tabG [eRefwrong]) := tabG_ok _
  generalize tabG [eRefwrong] = G at *
  simp only [noteA] at g1
  have hcon : ∀ r, r = wrongSayS ⟨kind, n, m, err, ⟨ps, bs⟩⟩ → Con Tryz.prog D 21 [sayA ⟨kind, n, m, err, ⟨ps, bs⟩⟩] ⟨.int .i64 r, []⟩ := by
    intro r hr
    refine con_of (G := G) (rs := [(2, none)]) mixed tok hok Tryz.func21 rfl (by decide) Tryz.results21 (by decide) rfl Tryz.ntmps21 (by simp) (by simp [sayA, namess, names]) fun X hP hD hG' hX => evC_sound hX (fun _ => {}) _ _ _ ?_
    simp only [argS, num, sayA]
    simp (disch := omega) only [go_sem, hD, hG', g1, unbox]
    iterate 24 (all_goals (try (first | (refine RegT.mk [] ?_; simp (disch := omega) only [go_sem, hD, hG', g1, unbox]) | (refine condK_split (fun h => ?_) (fun h => ?_) <;> simp (disch := omega) only [go_sem, hD, hG', g1, unbox]) | and_intros)))
    all_goals (try (refine ⟨[], [], rfl, rfl, ?_, ?_⟩ <;> simp only [go_sem]))
    all_goals clear g1 hok hP hD hG' hX
    all_goals try (first | (intro hk; refine ⟨hk, fun h2 => ?_⟩; first | (rw [hk, h2]; rfl) | (rw [hk, decide_eq_false h2]; rfl)) | (intro hk; rw [decide_eq_false hk]; rfl) | (intro hk; rw [hk]; rfl))
    all_goals try ((try and_intros); all_goals (try first | omega | decide | (simp; done) | (simp only [List.length_append, List.length_cons, List.length_nil, List.length_map]; omega)))
    all_goals (subst hr; unfold wrongSayS; simp only)
    all_goals grind
  exact hcon _ rfl
end Go.Proofs.YtmlejhpeoiicpaaGreatDoor.Ab
namespace Go.Proofs.YtmlejhpeoiicpaaGreatDoor.Ab
open Go Go.RowKit
set_option linter.unusedVariables false
set_option linter.unusedSimpArgs false

set_option maxRecDepth 100000 in
set_option maxHeartbeats 4000000 in
theorem con_wrongask (s : LAsk) (hs : s.Fits) : Con Tryz.prog D 74 [askA s] ⟨.int .i64 (wrongAskS s), []⟩ := by
  obtain ⟨kind, q, n, ⟨ps, bs⟩⟩ := s
  obtain ⟨hq, hs⟩ := hs
  have h1 := hs.2.1
  have h2 := hs.2.2
  simp only at h1 h2 hq
  have g1 : tabG [eWrong, eKey] 104 [noteA ⟨ps, bs⟩] = some ⟨.int .i64 (wrongS ⟨ps, bs⟩), []⟩ := tabG_at (E := eWrong) (T := [eWrong, eKey]) (i := 0) rfl (by decide) _ hs rfl rfl
  have g2 : tabG [eWrong, eKey] 103 [.str q.data.toList] = some ⟨.bool (keyS q), []⟩ := tabG_at (E := eKey) (T := [eWrong, eKey]) (i := 1) rfl (by decide) q hq rfl rfl
  have hok : GOk Tryz.prog D (tabG [eWrong, eKey]) := tabG_ok _
  generalize tabG [eWrong, eKey] = G at *
  simp only [noteA] at g1
  have hl : q.data.toList.length = q.size := rfl
  have hcon : ∀ r, r = wrongAskS ⟨kind, q, n, ⟨ps, bs⟩⟩ → Con Tryz.prog D 74 [askA ⟨kind, q, n, ⟨ps, bs⟩⟩] ⟨.int .i64 r, []⟩ := by
    intro r hr
    refine con_of (G := G) (rs := [(2, none)]) mixed tok hok Tryz.func74 rfl (by decide) Tryz.results74 (by decide) rfl Tryz.ntmps74 (by simp) (by simp [askA, namess, names]) fun X hP hD hG' hX => evC_sound hX (fun _ => {}) _ _ _ ?_
    simp only [argS, num, askA]
    generalize q.data.toList = ql at *
    simp (disch := omega) only [go_sem, hD, hG', g1, g2, unbox]
    iterate 24 (all_goals (try (first | (refine RegT.mk [] ?_; simp (disch := omega) only [go_sem, hD, hG', g1, g2, unbox]) | (refine condK_split (fun h => ?_) (fun h => ?_) <;> simp (disch := omega) only [go_sem, hD, hG', g1, g2, unbox]) | and_intros)))
    all_goals (try (refine ⟨[], [], rfl, rfl, ?_, ?_⟩ <;> simp only [go_sem]))
    all_goals clear g1 g2 hok hP hD hG' hX
    all_goals try (first | (intro hk; refine ⟨hk, fun h2 => ?_⟩; first | (rw [hk, h2]; rfl) | (rw [hk, decide_eq_false h2]; rfl)) | (intro hk; rw [decide_eq_false hk]; rfl) | (intro hk; rw [hk]; rfl))
    all_goals (subst hr; unfold wrongAskS namedS lowS highS; simp only)
    all_goals grind
  exact hcon _ rfl
end Go.Proofs.YtmlejhpeoiicpaaGreatDoor.Ab
namespace Go.Proofs.YtmlejhpeoiicpaaGreatDoor.Ab
open Go Go.RowKit
set_option linter.unusedVariables false
set_option linter.unusedSimpArgs false

def namedM : List (Value × Value) := [(.int .i64 2, .bool true), (.int .i64 3, .bool true), (.int .i64 4, .bool true), (.int .i64 5, .bool true), (.int .i64 6, .bool true), (.int .i64 9, .bool true)]
theorem namedM_look (k : Int) : lookV (.int .i64) (.int .i64 k) (.bool false) namedM = some (.bool (namedS k)) := by
  unfold namedM namedS
  simp only [lookV, Instr.sameNow]
  grind
theorem zero_bool (W : World) : (zeroValue 4).run Tryz.prog W = .ok (.bool false) W := by kernel_rfl
set_option maxRecDepth 100000 in
set_option maxHeartbeats 4000000 in
theorem con_refwrongask (s : LAsk) (hs : s.Fits) : Con Tryz.prog D 18 [askA s] ⟨.int .i64 (wrongAskS s), []⟩ := by
  obtain ⟨kind, q, n, ⟨ps, bs⟩⟩ := s
  obtain ⟨hq, hs⟩ := hs
  have h1 := hs.2.1
  have h2 := hs.2.2
  simp only at h1 h2 hq
  have g1 : tabG [eRefwrong, eRefkey] 54 [noteA ⟨ps, bs⟩] = some ⟨.int .i64 (wrongS ⟨ps, bs⟩), []⟩ := tabG_at (E := eRefwrong) (T := [eRefwrong, eRefkey]) (i := 0) rfl (by decide) _ hs rfl rfl
  have g2 : tabG [eRefwrong, eRefkey] 53 [.str q.data.toList] = some ⟨.bool (keyS q), []⟩ := tabG_at (E := eRefkey) (T := [eRefwrong, eRefkey]) (i := 1) rfl (by decide) q hq rfl rfl
  have hok : GOk Tryz.prog D (tabG [eRefwrong, eRefkey]) := tabG_ok _
  generalize tabG [eRefwrong, eRefkey] = G at *
  simp only [noteA] at g1
  have hl : q.data.toList.length = q.size := rfl
  have hcon : ∀ r, r = wrongAskS ⟨kind, q, n, ⟨ps, bs⟩⟩ → Con Tryz.prog D 18 [askA ⟨kind, q, n, ⟨ps, bs⟩⟩] ⟨.int .i64 r, []⟩ := by
    intro r hr
    refine con_of (G := G) (rs := [(2, none)]) mixed tok hok Tryz.func18 rfl (by decide) Tryz.results18 (by decide) rfl Tryz.ntmps18 (by simp) (by simp [askA, namess, names]) fun X hP hD hG' hX => evC_sound hX (fun id => match id with | 3 => {hand := true} | _ => {}) _ _ _ ?_
    simp only [argS, num, askA]
    generalize q.data.toList = ql at *
    simp (disch := omega) only [go_sem, hD, hG', g1, g2, unbox]
    refine RegT.mk [] ?_
    simp (disch := omega) only [go_sem, hD, hG', g1, g2, unbox]
    and_intros
    · (first | (intro hk; refine ⟨hk, fun h2 => ?_⟩; first | (rw [hk, h2]; rfl) | (rw [hk, decide_eq_false h2]; rfl)) | (intro hk; rw [decide_eq_false hk]; rfl) | (intro hk; rw [hk]; rfl))
    refine condK_split (fun h => ?_) (fun h => ?_)
    · simp (disch := omega) only [go_sem, hD, hG', g1, g2, unbox]
      refine ⟨[], [], rfl, rfl, ?_, ?_⟩ <;> simp only [go_sem]
      subst hr
      unfold wrongAskS
      grind
    have hu : X.P.underlying 80 = some (.map 3 4) := by rw [hP]; exact Tryz.underlying80
    have hk : X.P.underlying 3 = some (.int .i64) := by rw [hP]; exact Tryz.underlying3
    simp (disch := omega) only [go_sem, hD, hG', g1, g2, unbox]
    refine Tr.lit hX 0 (d := 14) namedM hu hk (by decide) ⟨_, rfl, rfl, rfl, rfl⟩ (by decide) ?_ ?_ ?_
    · unfold namedM litOps
      repeat (first | exact trivial | refine ⟨⟨_, rfl, _, _, rfl, rfl, rfl, fun _ => rfl, fun _ => rfl⟩, ?_⟩ | unfold litOps)
    · unfold namedM litNew
      repeat (first | exact trivial | refine ⟨rfl, rfl, ?_⟩ | unfold litNew)
    have hlen : namedM.length = 6 := rfl
    generalize hnm : namedM = nm at hlen ⊢
    have hlook := namedM_look kind
    rw [hnm] at hlook
    generalize hnk : namedS kind = nk at hlook
    simp (disch := omega) only [go_sem, hD, hG', g1, g2, hlen, unbox]
    refine inl_look (dk := .int .i64) (key := .int .i64 kind) (z := .bool false) (v := .bool nk) (av := .bool nk) hu hk rfl rfl rfl (by rw [hP]; exact zero_bool) (by simp [cst]) hlook (fun _ _ _ => .bool _) rfl (by simp) ?_
    simp (disch := omega) only [go_sem, hD, hG', g1, g2, unbox]
    iterate 24 (all_goals (try (first | (refine RegT.mk [] ?_; simp (disch := omega) only [go_sem, hD, hG', g1, g2, unbox]) | (refine condK_split (fun h => ?_) (fun h => ?_) <;> simp (disch := omega) only [go_sem, hD, hG', g1, g2, unbox]) | and_intros)))
    all_goals (try (refine ⟨[], [], rfl, rfl, ?_, ?_⟩ <;> simp only [go_sem]))
    all_goals clear g1 g2 hok hP hD hG' hX hu hk hlook
    all_goals try (first | (intro hk; refine ⟨hk, fun h2 => ?_⟩; first | (rw [hk, h2]; rfl) | (rw [hk, decide_eq_false h2]; rfl)) | (intro hk; rw [decide_eq_false hk]; rfl) | (intro hk; rw [hk]; rfl))
    all_goals (subst hr; unfold wrongAskS lowS highS; simp only)
    all_goals grind
  exact hcon _ rfl
def eRefwrongask : Ent Tryz.prog D := ⟨18, LAsk, fun x => [askA x], LAsk.Fits, fun x => ⟨.int .i64 (wrongAskS x), []⟩, fun x y _ _ h => by
  simp only [List.cons.injEq, and_true] at h
  rw [askA_inj h], con_refwrongask⟩
end Go.Proofs.YtmlejhpeoiicpaaGreatDoor.Ab
namespace Go.Proofs.YtmlejhpeoiicpaaGreatDoor.Ab
open Go Go.RowKit
set_option linter.unusedVariables false
set_option linter.unusedSimpArgs false

def eNsame : Ent Tryz.prog D := ⟨65, LNote × LNote, fun n => [noteA n.1, noteA n.2], fun n => n.1.Fits ∧ n.2.Fits, fun n => ⟨.bool (decide (n.1 = n.2)), []⟩, fun x y _ _ h => by
  simp only [List.cons.injEq, and_true] at h
  rw [noteA_inj h.1, noteA_inj h.2], fun n h => con_refsame n.1 n.2 h.1 h.2⟩
instance : DecidableEq LAsk := fun a b => decidable_of_iff (a.kind = b.kind ∧ a.queue = b.queue ∧ a.n = b.n ∧ a.note = b.note) (by cases a; cases b; simp)
instance : DecidableEq LSay := fun a b => decidable_of_iff (a.kind = b.kind ∧ a.n = b.n ∧ a.m = b.m ∧ a.err = b.err ∧ a.note = b.note) (by cases a; cases b; simp)
theorem ask_dec (a b : LAsk) : decide (a = b) = (if a.kind = b.kind then (if a.queue.data.toList = b.queue.data.toList then (if a.n = b.n then decide (a.note = b.note) else false) else false) else false) := by
  obtain ⟨k, q, n, x⟩ := a
  obtain ⟨k', q', n', x'⟩ := b
  simp only [LAsk.mk.injEq]
  by_cases h1 : k = k'
  · by_cases h2 : q = q'
    · subst h2
      by_cases h3 : n = n'
      · simp [h1, h3]
      · simp [h1, h3]
    · have : ¬ q.data.toList = q'.data.toList := fun h => h2 (bytes_ext h)
      simp [h1, h2, this]
  · simp [h1]
theorem say_dec (a b : LSay) : decide (a = b) = (if a.kind = b.kind then (if a.n = b.n then (if a.m = b.m then (if a.err = b.err then decide (a.note = b.note) else false) else false) else false) else false) := by
  obtain ⟨k, n, m, e, x⟩ := a
  obtain ⟨k', n', m', e', x'⟩ := b
  simp only [LSay.mk.injEq]
  by_cases h1 : k = k'
  · by_cases h2 : n = n'
    · by_cases h3 : m = m'
      · by_cases h4 : e = e'
        · simp [h1, h2, h3, h4]
        · simp [h1, h2, h3, h4]
      · simp [h1, h2, h3]
    · simp [h1, h2]
  · simp [h1]
set_option maxRecDepth 100000 in
theorem con_sameask (a b : LAsk) (ha : a.Fits) (hb : b.Fits) : Con Tryz.prog D 26 [askA a, askA b] ⟨.bool (decide (a = b)), []⟩ := by
  have hok : GOk Tryz.prog D (tabG [eNsame]) := tabG_ok _
  have g1 : tabG [eNsame] 65 [noteA a.note, noteA b.note] = some ⟨.bool (decide (a.note = b.note)), []⟩ := tabG_at (E := eNsame) (T := [eNsame]) (i := 0) rfl (by decide) (a.note, b.note) ⟨ha.2, hb.2⟩ rfl rfl
  generalize tabG [eNsame] = G at *
  simp only [noteA] at g1
  refine con_of (G := G) (rs := [(4, none)]) mixed tok hok Tryz.func26 rfl (by decide) Tryz.results26 (by decide) rfl Tryz.ntmps26 (by simp) (by simp [askA, namess, names]) fun X hP hD hG' hX => evC_sound hX (fun _ => {}) _ _ _ ?_
  simp only [argS, num, askA]
  simp (disch := omega) only [go_sem, hD, hG', g1, unbox]
  refine RegT.mk [] ?_
  simp (disch := omega) only [go_sem, hD, hG', g1, unbox]
  ((try and_intros); all_goals (try first | omega | decide | (simp; done) | (simp only [List.length_append, List.length_cons, List.length_nil, List.length_map]; omega)))
  all_goals (try (first | (intro hk; refine ⟨hk, fun h2 => ?_⟩; first | (rw [hk, h2]; rfl) | (rw [hk, decide_eq_false h2]; rfl)) | (intro hk; rw [decide_eq_false hk]; rfl) | (intro hk; rw [hk]; rfl)))
  refine ⟨[], [], rfl, rfl, ?_, ?_⟩ <;> simp only [go_sem]
  rw [ask_dec]
  simp [Bool.and_assoc]
set_option maxRecDepth 100000 in
theorem con_samesay (a b : LSay) (ha : a.note.Fits) (hb : b.note.Fits) : Con Tryz.prog D 29 [sayA a, sayA b] ⟨.bool (decide (a = b)), []⟩ := by
  have hok : GOk Tryz.prog D (tabG [eNsame]) := tabG_ok _
  have g1 : tabG [eNsame] 65 [noteA a.note, noteA b.note] = some ⟨.bool (decide (a.note = b.note)), []⟩ := tabG_at (E := eNsame) (T := [eNsame]) (i := 0) rfl (by decide) (a.note, b.note) ⟨ha, hb⟩ rfl rfl
  generalize tabG [eNsame] = G at *
  simp only [noteA] at g1
  refine con_of (G := G) (rs := [(4, none)]) mixed tok hok Tryz.func29 rfl (by decide) Tryz.results29 (by decide) rfl Tryz.ntmps29 (by simp) (by simp [sayA, namess, names]) fun X hP hD hG' hX => evC_sound hX (fun _ => {}) _ _ _ ?_
  simp only [argS, num, sayA]
  simp (disch := omega) only [go_sem, hD, hG', g1, unbox]
  refine RegT.mk [] ?_
  simp (disch := omega) only [go_sem, hD, hG', g1, unbox]
  ((try and_intros); all_goals (try first | omega | decide | (simp; done) | (simp only [List.length_append, List.length_cons, List.length_nil, List.length_map]; omega)))
  all_goals (try (first | (intro hk; refine ⟨hk, fun h2 => ?_⟩; first | (rw [hk, h2]; rfl) | (rw [hk, decide_eq_false h2]; rfl)) | (intro hk; rw [decide_eq_false hk]; rfl) | (intro hk; rw [hk]; rfl)))
  refine ⟨[], [], rfl, rfl, ?_, ?_⟩ <;> simp only [go_sem]
  rw [say_dec]
  simp [Bool.and_assoc]
def eRefwrongsay : Ent Tryz.prog D := ⟨21, LSay, fun x => [sayA x], fun s => s.note.Fits, fun x => ⟨.int .i64 (wrongSayS x), []⟩, fun x y _ _ h => by
  simp only [List.cons.injEq, and_true] at h
  rw [sayA_inj h], con_refwrongsay⟩

def eSameask : Ent Tryz.prog D := ⟨26, LAsk × LAsk, fun x => [askA x.1, askA x.2], fun x => x.1.Fits ∧ x.2.Fits, fun x => ⟨.bool (decide (x.1 = x.2)), []⟩, fun x y _ _ h => by
  simp only [List.cons.injEq, and_true] at h
  rw [askA_inj h.1, askA_inj h.2], fun x h => con_sameask x.1 x.2 h.1 h.2⟩
def eSamesay : Ent Tryz.prog D := ⟨29, LSay × LSay, fun x => [sayA x.1, sayA x.2], fun x => x.1.note.Fits ∧ x.2.note.Fits, fun x => ⟨.bool (decide (x.1 = x.2)), []⟩, fun x y _ _ h => by
  simp only [List.cons.injEq, and_true] at h
  rw [sayA_inj h.1, sayA_inj h.2], fun x h => con_samesay x.1 x.2 h.1 h.2⟩
theorem wrongAsk_ok {a : LAsk} (h : wrongAskS a = 0) : 1 ≤ a.kind ∧ a.kind ≤ 9 ∧ a.queue.size ≤ 8 ∧ 0 ≤ a.n ∧ a.n ≤ 1073741824 ∧ wrongS a.note = 0 ∧ (a.kind ≠ 4 → a.note = note0) := by
  unfold wrongAskS at h
  have hk : keyS a.queue = true → a.queue.size ≤ 8 := fun hk => by
    unfold keyS at hk
    simp at hk
    omega
  have h0 := @note_empty a.note
  have h1 : wrongS note0 = 0 := rfl
  by_cases h9 : a.kind < 1 ∨ 9 < a.kind
  · rw [if_pos h9] at h; cases h
  rw [if_neg h9] at h
  have hlo : 0 ≤ lowS a.kind := by unfold lowS; split <;> omega
  have hhi : highS a.kind ≤ 1073741824 := by unfold highS; split <;> (try split) <;> omega
  by_cases hq : (if namedS a.kind = true then keyS a.queue = false else a.queue.size ≠ 0)
  · rw [if_pos hq] at h; cases h
  rw [if_neg hq] at h
  by_cases hn : a.n < lowS a.kind ∨ highS a.kind < a.n
  · rw [if_pos hn] at h; cases h
  rw [if_neg hn] at h
  by_cases hb : a.kind ≠ 4 ∧ 0 < a.note.props.length + a.note.body.length
  · rw [if_pos hb] at h; cases h
  rw [if_neg hb] at h
  refine ⟨by omega, by omega, ?_, by omega, by omega, h, fun h4 => h0 (by omega)⟩
  cases hnm : namedS a.kind
  · rw [hnm, if_neg (by simp)] at hq; omega
  · rw [hnm, if_pos rfl] at hq; exact hk (by simpa using hq)
theorem wrongSay_ok {s : LSay} (h : wrongSayS s = 0) : 1 ≤ s.kind ∧ s.kind ≤ 4 ∧ 0 ≤ s.n ∧ s.n ≤ 1073741824 ∧ 0 ≤ s.m ∧ s.m ≤ 3 ∧ 0 ≤ s.err ∧ s.err ≤ 10 ∧ wrongS s.note = 0 ∧ (s.kind ≠ 2 → s.note = note0) := by
  unfold wrongSayS at h
  have h0 := @note_empty s.note
  have h1 : wrongS note0 = 0 := rfl
  by_cases hk : s.kind < 1 ∨ 4 < s.kind
  · rw [if_pos hk] at h; cases h
  rw [if_neg hk] at h
  by_cases h2 : s.kind = 2
  · rw [if_pos h2] at h
    split at h
    · cases h
    · exact ⟨by omega, by omega, by omega, by omega, by omega, by omega, by omega, by omega, h, fun h => absurd h2 h⟩
  rw [if_neg h2] at h
  split at h
  · cases h
  split at h
  · cases h
  have h3 := h0 (by omega)
  exact ⟨by omega, by omega, by omega, by omega, by omega, by omega, by omega, by omega, by rw [h3]; rfl, fun _ => h3⟩
theorem ask_fits {a : LAsk} (h : wrongAskS a = 0) : a.Fits := by
  obtain ⟨_, _, h3, _, _, h6, _⟩ := wrongAsk_ok h
  exact ⟨by omega, fits_right h6⟩
theorem say_fits {s : LSay} (h : wrongSayS s = 0) : s.note.Fits := by
  obtain ⟨_, _, _, _, _, _, _, _, h6, _⟩ := wrongSay_ok h
  exact fits_right h6
end Go.Proofs.YtmlejhpeoiicpaaGreatDoor.Ab
namespace Go.Proofs.YtmlejhpeoiicpaaGreatDoor.Ab
open Go Go.RowKit
set_option linter.unusedVariables false
set_option linter.unusedSimpArgs false

theorem shp_ask {m : Nat} {B : Nat} {us : List AV} (h : Shp D B (m + 5) 27 us) : ∃ a : LAsk, AV.agg us = askA a ∧ a.queue.size ≤ B ∧ a.note.props.length ≤ B ∧ a.note.body.length ≤ B ∧ ∀ p ∈ a.note.props, p.key.size ≤ B ∧ p.text.size ≤ B := by
  have h := shp_struct (fs := [(0, 3), (1, 9), (2, 3), (3, 25)]) (by simp only [D_1, D_2, D_3, D_4, D_5, D_6, D_7, D_8, D_9, D_10, D_11, D_12, D_13, D_14, D_15, D_16, D_17, D_18, D_19, D_20, D_21, D_22, D_23, D_24, D_25, D_26, D_27, D_28, D_29, D_30, D_32, D_34, D_35, D_36, D_38, D_39, D_40, D_41, D_42, D_43, D_44, D_46, D_47, D_49, D_50, D_51, D_52, D_54, D_55, D_56, D_58, D_59, D_61, D_62, D_63, D_64, D_65, D_66, D_67, D_68, D_69, D_70, D_71, D_73, D_74, D_75, D_76, D_78, D_81, D_82, D_83, D_84, D_85, D_86, D_87, D_89, D_91, D_92, D_94, D_95, D_97, D_98, D_100, D_101, D_103, D_105, D_106, D_108, D_109, D_110, D_111, D_112, D_114, D_115, D_116, D_118, D_119, D_121, D_122, D_123, D_124, D_125, D_126, D_127, D_129, D_130, D_131, D_132, D_134, D_135, D_136, D_138, D_139, D_140, D_141, D_143, D_144, D_145, D_146, D_147, D_148, D_149, D_150, D_151, D_152, D_154, D_155, D_156, D_158, D_159, D_161, D_162, D_163, D_164, D_165, D_167, D_168, D_170, D_172, D_173, D_175, D_176, D_177, D_178, D_179, D_180, D_181, D_182, D_185, D_186, D_187, D_188, D_189, D_190, D_191, D_193, D_195, D_196, D_200, D_201, D_205, D_206, D_207, D_208, D_209, D_210, D_211, D_212]) h
  simp only [ShpF] at h
  obtain ⟨_, _, rfl, h1, _, _, rfl, h2, _, _, rfl, h3, _, _, rfl, h4, rfl⟩ := h
  obtain ⟨k, rfl, _⟩ := shp_i64 (t := 3) rfl h1
  obtain ⟨q, rfl, hq⟩ := shp_str (t := 9) rfl h2
  obtain ⟨n, rfl, _⟩ := shp_i64 (t := 3) rfl h3
  obtain ⟨x, _, rfl, q1, q2, q3⟩ := shp_note h4
  exact ⟨⟨k, q, n, x⟩, rfl, hq, q1, q2, q3⟩
theorem shp_say {m : Nat} {B : Nat} {us : List AV} (h : Shp D B (m + 5) 30 us) : ∃ a : LSay, AV.agg us = sayA a ∧ a.note.props.length ≤ B ∧ a.note.body.length ≤ B ∧ ∀ p ∈ a.note.props, p.key.size ≤ B ∧ p.text.size ≤ B := by
  have h := shp_struct (fs := [(0, 3), (1, 3), (2, 3), (3, 28), (4, 25)]) (by simp only [D_1, D_2, D_3, D_4, D_5, D_6, D_7, D_8, D_9, D_10, D_11, D_12, D_13, D_14, D_15, D_16, D_17, D_18, D_19, D_20, D_21, D_22, D_23, D_24, D_25, D_26, D_27, D_28, D_29, D_30, D_32, D_34, D_35, D_36, D_38, D_39, D_40, D_41, D_42, D_43, D_44, D_46, D_47, D_49, D_50, D_51, D_52, D_54, D_55, D_56, D_58, D_59, D_61, D_62, D_63, D_64, D_65, D_66, D_67, D_68, D_69, D_70, D_71, D_73, D_74, D_75, D_76, D_78, D_81, D_82, D_83, D_84, D_85, D_86, D_87, D_89, D_91, D_92, D_94, D_95, D_97, D_98, D_100, D_101, D_103, D_105, D_106, D_108, D_109, D_110, D_111, D_112, D_114, D_115, D_116, D_118, D_119, D_121, D_122, D_123, D_124, D_125, D_126, D_127, D_129, D_130, D_131, D_132, D_134, D_135, D_136, D_138, D_139, D_140, D_141, D_143, D_144, D_145, D_146, D_147, D_148, D_149, D_150, D_151, D_152, D_154, D_155, D_156, D_158, D_159, D_161, D_162, D_163, D_164, D_165, D_167, D_168, D_170, D_172, D_173, D_175, D_176, D_177, D_178, D_179, D_180, D_181, D_182, D_185, D_186, D_187, D_188, D_189, D_190, D_191, D_193, D_195, D_196, D_200, D_201, D_205, D_206, D_207, D_208, D_209, D_210, D_211, D_212]) h
  simp only [ShpF] at h
  obtain ⟨_, _, rfl, h1, _, _, rfl, h2, _, _, rfl, h3, _, _, rfl, h4, _, _, rfl, h5, rfl⟩ := h
  obtain ⟨k, rfl, _⟩ := shp_i64 (t := 3) rfl h1
  obtain ⟨n, rfl, _⟩ := shp_i64 (t := 3) rfl h2
  obtain ⟨m, rfl, _⟩ := shp_i64 (t := 3) rfl h3
  obtain ⟨e, rfl, _⟩ := shp_i64 (t := 28) rfl h4
  obtain ⟨x, _, rfl, q1, q2, q3⟩ := shp_note h5
  exact ⟨⟨k, n, m, e, x⟩, rfl, q1, q2, q3⟩
end Go.Proofs.YtmlejhpeoiicpaaGreatDoor.Ab
