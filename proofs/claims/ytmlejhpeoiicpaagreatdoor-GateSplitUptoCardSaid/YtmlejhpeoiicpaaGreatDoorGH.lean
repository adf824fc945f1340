/-
  Texts of the proof, one behind the other: FrS FrA FrB FrC SmA OpenF.
  No condition but those that each theorem names.
-/
import Derived.Test.YtmlejhpeoiicpaaGreatDoorGD
import Derived.Test.YtmlejhpeoiicpaaGreatDoorGC
namespace Go.Proofs.YtmlejhpeoiicpaaGreatDoor.Ab
open Go Go.RowKit
set_option linter.unusedVariables false
set_option linter.unusedSimpArgs false

structure LAsk where
  kind : Int
  queue : ByteArray
  n : Int
  note : LNote
structure LSay where
  kind : Int
  n : Int
  m : Int
  err : Int
  note : LNote
def LAsk.Fits (a : LAsk) : Prop := a.queue.size ≤ 1048576 ∧ a.note.Fits
def namedS (k : Int) : Bool := decide (k = 2 ∨ k = 3 ∨ k = 4 ∨ k = 5 ∨ k = 6 ∨ k = 9)
def lowS (k : Int) : Int := if k = 6 ∨ k = 7 ∨ k = 8 then 1 else 0
def highS (k : Int) : Int := if k = 2 ∨ k = 7 ∨ k = 8 then 1073741824 else if k = 6 then 9 else 0
def wrongAskS (a : LAsk) : Int :=
  if a.kind < 1 ∨ 9 < a.kind then 1
  else if (if namedS a.kind = true then keyS a.queue = false else a.queue.size ≠ 0) then 7
  else if a.n < lowS a.kind ∨ highS a.kind < a.n then 3
  else if a.kind ≠ 4 ∧ 0 < a.note.props.length + a.note.body.length then 2
  else wrongS a.note
def wrongSayS (s : LSay) : Int :=
  if s.kind < 1 ∨ 4 < s.kind then 1
  else if s.kind = 2 then (if s.n < 1 ∨ 1073741824 < s.n ∨ s.m < 0 ∨ 3 < s.m ∨ s.err ≠ 0 then 3 else wrongS s.note)
  else if s.n ≠ 0 ∨ s.m ≠ 0 ∨ (s.kind = 4 ∧ (s.err ≤ 0 ∨ 10 < s.err)) ∨ (s.kind ≠ 4 ∧ s.err ≠ 0) then 3
  else if 0 < s.note.props.length + s.note.body.length then 2
  else 0
def askA (a : LAsk) : AV := .agg [.int .i64 a.kind, .str a.queue.data.toList, .int .i64 a.n, .sl 4 (a.note.props.map propRow), .sl 1 (a.note.body.map byteRow)]
def sayA (s : LSay) : AV := .agg [.int .i64 s.kind, .int .i64 s.n, .int .i64 s.m, .int .i64 s.err, .sl 4 (s.note.props.map propRow), .sl 1 (s.note.body.map byteRow)]
theorem askA_inj {a b : LAsk} (h : askA a = askA b) : a = b := by
  obtain ⟨k, q, n, ⟨p, y⟩⟩ := a
  obtain ⟨k', q', n', ⟨p', y'⟩⟩ := b
  simp only [askA, AV.agg.injEq, List.cons.injEq, AV.int.injEq, AV.str.injEq, AV.sl.injEq, true_and, and_true] at h
  obtain ⟨rfl, h2, rfl, h4, h5⟩ := h
  rw [bytes_ext h2, props_inj h4, bytes_inj h5]
theorem sayA_inj {a b : LSay} (h : sayA a = sayA b) : a = b := by
  obtain ⟨k, n, m, e, ⟨p, y⟩⟩ := a
  obtain ⟨k', n', m', e', ⟨p', y'⟩⟩ := b
  simp only [sayA, AV.agg.injEq, List.cons.injEq, AV.int.injEq, AV.str.injEq, AV.sl.injEq, true_and, and_true] at h
  obtain ⟨rfl, rfl, rfl, rfl, h4, h5⟩ := h
  rw [props_inj h4, bytes_inj h5]
theorem names_ask (s : LAsk) : names (askA s) = [] := by simp [askA, names, namess]
theorem names_say (s : LSay) : names (sayA s) = [] := by simp [sayA, names, namess]
attribute [simp] names_ask names_say
theorem note_empty {n : LNote} (h : n.props.length + n.body.length = 0) : n = note0 := by
  obtain ⟨p, b⟩ := n
  simp only at h
  have h1 : p = [] := List.eq_nil_of_length_eq_zero (by omega)
  have h2 : b = [] := List.eq_nil_of_length_eq_zero (by omega)
  rw [h1, h2]
  rfl
def nakedA (a : LAsk) : AV := .agg [.int .i64 a.kind, .str a.queue.data.toList, .int .i64 a.n, .nils, .nils]
theorem naked_inj {a b : LAsk} (ha : a.note = note0) (hb : b.note = note0) (h : nakedA a = nakedA b) : a = b := by
  obtain ⟨k, q, n, m⟩ := a
  obtain ⟨k', q', n', m'⟩ := b
  simp only at ha hb
  subst ha hb
  simp only [nakedA, AV.agg.injEq, List.cons.injEq, AV.int.injEq, AV.str.injEq, true_and, and_true] at h
  rw [h.1, bytes_ext h.2.1, h.2.2]
end Go.Proofs.YtmlejhpeoiicpaaGreatDoor.Ab
namespace Go.Proofs.YtmlejhpeoiicpaaGreatDoor.Ab
open Go Go.RowKit
set_option linter.unusedVariables false
set_option linter.unusedSimpArgs false

set_option maxRecDepth 100000 in
set_option maxHeartbeats 2000000 in
theorem con_frwrong (s : LSay) (hs : s.note.Fits) : Con Tryz.prog D 79 [sayA s] ⟨.int .i64 (wrongSayS s), []⟩ := by
  obtain ⟨kind, n, m, err, ⟨ps, bs⟩⟩ := s
  have h1 := hs.2.1
  have h2 := hs.2.2
  simp only at h1 h2
  have g1 : tabG [eWrong] 104 [noteA ⟨ps, bs⟩] = some ⟨.int .i64 (wrongS ⟨ps, bs⟩), []⟩ := tabG_at (E := eWrong) (T := [eWrong]) (i := 0) rfl (by decide) _ hs rfl rfl
  have hok : GOk Tryz.prog D (tabG [eWrong]) := tabG_ok _
  generalize tabG [eWrong] = G at *
  simp only [noteA] at g1
  have hcon : ∀ r, r = wrongSayS ⟨kind, n, m, err, ⟨ps, bs⟩⟩ → Con Tryz.prog D 79 [sayA ⟨kind, n, m, err, ⟨ps, bs⟩⟩] ⟨.int .i64 r, []⟩ := by
    intro r hr
    refine con_of (G := G) (rs := [(2, none)]) mixed tok hok Tryz.func79 rfl (by decide) Tryz.results79 (by decide) rfl Tryz.ntmps79 (by simp) (by simp [sayA, namess, names]) fun X hP hD hG' hX => evC_sound hX (fun _ => {}) _ _ _ ?_
    simp only [argS, num, sayA]
    simp (disch := omega) only [go_sem, hD, hG', g1, unbox]
    have hz : ps.length + bs.length = 0 → wrongS ⟨ps, bs⟩ = 0 := fun h => by rw [note_empty (n := ⟨ps, bs⟩) h]; rfl
    iterate 24 (all_goals (try (first | (refine RegT.mk [] ?_; simp (disch := omega) only [go_sem, hD, hG', g1, unbox]) | (refine condK_split (fun h => ?_) (fun h => ?_) <;> simp (disch := omega) only [go_sem, hD, hG', g1, unbox]) | and_intros)))
    all_goals (try (refine ⟨[], [], rfl, rfl, ?_, ?_⟩ <;> simp only [go_sem]))
    all_goals clear g1 hok hP hD hG' hX
    all_goals try (first | (intro hk; refine ⟨hk, fun h2 => ?_⟩; first | (rw [hk, h2]; rfl) | (rw [hk, decide_eq_false h2]; rfl)) | (intro hk; rw [decide_eq_false hk]; rfl) | (intro hk; rw [hk]; rfl))
    all_goals (subst hr; unfold wrongSayS; simp only)
    all_goals grind
  exact hcon _ rfl
end Go.Proofs.YtmlejhpeoiicpaaGreatDoor.Ab
namespace Go.Proofs.YtmlejhpeoiicpaaGreatDoor.Ab
open Go Go.RowKit
set_option linter.unusedVariables false
set_option linter.unusedSimpArgs false

set_option maxRecDepth 100000 in
set_option maxHeartbeats 4000000 in
theorem con_wrongask (s : LAsk) (hs : s.Fits) : Con Tryz.prog D 74 [askA s] ⟨.int .i64 (wrongAskS s), []⟩ := by
  obtain ⟨kind, q, n, ⟨ps, bs⟩⟩ := s
  obtain ⟨hq, hs⟩ := hs
  have h1 := hs.2.1
  have h2 := hs.2.2
  simp only at h1 h2 hq
  have g1 : tabG [eWrong, eKey] 104 [noteA ⟨ps, bs⟩] = some ⟨.int .i64 (wrongS ⟨ps, bs⟩), []⟩ := tabG_at (E := eWrong) (T := [eWrong, eKey]) (i := 0) rfl (by decide) _ hs rfl rfl
  have g2 : tabG [eWrong, eKey] 103 [.str q.data.toList] = some ⟨.bool (keyS q), []⟩ := tabG_at (E := eKey) (T := [eWrong, eKey]) (i := 1) rfl (by decide) q hq rfl rfl
  have hok : GOk Tryz.prog D (tabG [eWrong, eKey]) := tabG_ok _
  generalize tabG [eWrong, eKey] = G at *
  simp only [noteA] at g1
  have hl : q.data.toList.length = q.size := rfl
  have hcon : ∀ r, r = wrongAskS ⟨kind, q, n, ⟨ps, bs⟩⟩ → Con Tryz.prog D 74 [askA ⟨kind, q, n, ⟨ps, bs⟩⟩] ⟨.int .i64 r, []⟩ := by
    intro r hr
    refine con_of (G := G) (rs := [(2, none)]) mixed tok hok Tryz.func74 rfl (by decide) Tryz.results74 (by decide) rfl Tryz.ntmps74 (by simp) (by simp [askA, namess, names]) fun X hP hD hG' hX => evC_sound hX (fun _ => {}) _ _ _ ?_
    simp only [argS, num, askA]
    generalize q.data.toList = ql at *
    simp (disch := omega) only [go_sem, hD, hG', g1, g2, unbox]
    iterate 24 (all_goals (try (first | (refine RegT.mk [] ?_; simp (disch := omega) only [go_sem, hD, hG', g1, g2, unbox]) | (refine condK_split (fun h => ?_) (fun h => ?_) <;> simp (disch := omega) only [go_sem, hD, hG', g1, g2, unbox]) | and_intros)))
    all_goals (try (refine ⟨[], [], rfl, rfl, ?_, ?_⟩ <;> simp only [go_sem]))
    all_goals clear g1 g2 hok hP hD hG' hX
    all_goals try (first | (intro hk; refine ⟨hk, fun h2 => ?_⟩; first | (rw [hk, h2]; rfl) | (rw [hk, decide_eq_false h2]; rfl)) | (intro hk; rw [decide_eq_false hk]; rfl) | (intro hk; rw [hk]; rfl))
    all_goals (subst hr; unfold wrongAskS namedS lowS highS; simp only)
    all_goals grind
  exact hcon _ rfl
end Go.Proofs.YtmlejhpeoiicpaaGreatDoor.Ab
namespace Go.Proofs.YtmlejhpeoiicpaaGreatDoor.Ab
open Go Go.RowKit
set_option linter.unusedVariables false
set_option linter.unusedSimpArgs false

def eWrongask : Ent Tryz.prog D := ⟨74, LAsk, fun x => [askA x], LAsk.Fits, fun x => ⟨.int .i64 (wrongAskS x), []⟩, fun x y _ _ h => by
  simp only [List.cons.injEq, and_true] at h
  rw [askA_inj h], con_wrongask⟩
end Go.Proofs.YtmlejhpeoiicpaaGreatDoor.Ab
namespace Go.Proofs.YtmlejhpeoiicpaaGreatDoor.Ab
open Go Go.RowKit
set_option linter.unusedVariables false
set_option linter.unusedSimpArgs false

def eNsame : Ent Tryz.prog D := ⟨65, LNote × LNote, fun n => [noteA n.1, noteA n.2], fun n => n.1.Fits ∧ n.2.Fits, fun n => ⟨.bool (decide (n.1 = n.2)), []⟩, fun x y _ _ h => by
  simp only [List.cons.injEq, and_true] at h
  rw [noteA_inj h.1, noteA_inj h.2], fun n h => con_refsame n.1 n.2 h.1 h.2⟩
instance : DecidableEq LAsk := fun a b => decidable_of_iff (a.kind = b.kind ∧ a.queue = b.queue ∧ a.n = b.n ∧ a.note = b.note) (by cases a; cases b; simp)
instance : DecidableEq LSay := fun a b => decidable_of_iff (a.kind = b.kind ∧ a.n = b.n ∧ a.m = b.m ∧ a.err = b.err ∧ a.note = b.note) (by cases a; cases b; simp)
theorem ask_dec (a b : LAsk) : decide (a = b) = (if a.kind = b.kind then (if a.queue.data.toList = b.queue.data.toList then (if a.n = b.n then decide (a.note = b.note) else false) else false) else false) := by
  obtain ⟨k, q, n, x⟩ := a
  obtain ⟨k', q', n', x'⟩ := b
  simp only [LAsk.mk.injEq]
  by_cases h1 : k = k'
  · by_cases h2 : q = q'
    · subst h2
      by_cases h3 : n = n'
      · simp [h1, h3]
      · simp [h1, h3]
    · have : ¬ q.data.toList = q'.data.toList := fun h => h2 (bytes_ext h)
      simp [h1, h2, this]
  · simp [h1]
set_option maxRecDepth 100000 in
theorem con_sameask (a b : LAsk) (ha : a.Fits) (hb : b.Fits) : Con Tryz.prog D 26 [askA a, askA b] ⟨.bool (decide (a = b)), []⟩ := by
  have hok : GOk Tryz.prog D (tabG [eNsame]) := tabG_ok _
  have g1 : tabG [eNsame] 65 [noteA a.note, noteA b.note] = some ⟨.bool (decide (a.note = b.note)), []⟩ := tabG_at (E := eNsame) (T := [eNsame]) (i := 0) rfl (by decide) (a.note, b.note) ⟨ha.2, hb.2⟩ rfl rfl
  generalize tabG [eNsame] = G at *
  simp only [noteA] at g1
  refine con_of (G := G) (rs := [(4, none)]) mixed tok hok Tryz.func26 rfl (by decide) Tryz.results26 (by decide) rfl Tryz.ntmps26 (by simp) (by simp [askA, namess, names]) fun X hP hD hG' hX => evC_sound hX (fun _ => {}) _ _ _ ?_
  simp only [argS, num, askA]
  simp (disch := omega) only [go_sem, hD, hG', g1, unbox]
  refine RegT.mk [] ?_
  simp (disch := omega) only [go_sem, hD, hG', g1, unbox]
  ((try and_intros); all_goals (try first | omega | decide | (simp; done) | (simp only [List.length_append, List.length_cons, List.length_nil, List.length_map]; omega)))
  all_goals (try (first | (intro hk; refine ⟨hk, fun h2 => ?_⟩; first | (rw [hk, h2]; rfl) | (rw [hk, decide_eq_false h2]; rfl)) | (intro hk; rw [decide_eq_false hk]; rfl) | (intro hk; rw [hk]; rfl)))
  refine ⟨[], [], rfl, rfl, ?_, ?_⟩ <;> simp only [go_sem]
  rw [ask_dec]
  simp [Bool.and_assoc]

def eSameask : Ent Tryz.prog D := ⟨26, LAsk × LAsk, fun x => [askA x.1, askA x.2], fun x => x.1.Fits ∧ x.2.Fits, fun x => ⟨.bool (decide (x.1 = x.2)), []⟩, fun x y _ _ h => by
  simp only [List.cons.injEq, and_true] at h
  rw [askA_inj h.1, askA_inj h.2], fun x h => con_sameask x.1 x.2 h.1 h.2⟩
theorem wrongAsk_ok {a : LAsk} (h : wrongAskS a = 0) : 1 ≤ a.kind ∧ a.kind ≤ 9 ∧ a.queue.size ≤ 8 ∧ 0 ≤ a.n ∧ a.n ≤ 1073741824 ∧ wrongS a.note = 0 ∧ (a.kind ≠ 4 → a.note = note0) := by
  unfold wrongAskS at h
  have hk : keyS a.queue = true → a.queue.size ≤ 8 := fun hk => by
    unfold keyS at hk
    simp at hk
    omega
  have h0 := @note_empty a.note
  have h1 : wrongS note0 = 0 := rfl
  by_cases h9 : a.kind < 1 ∨ 9 < a.kind
  · rw [if_pos h9] at h; cases h
  rw [if_neg h9] at h
  have hlo : 0 ≤ lowS a.kind := by unfold lowS; split <;> omega
  have hhi : highS a.kind ≤ 1073741824 := by unfold highS; split <;> (try split) <;> omega
  by_cases hq : (if namedS a.kind = true then keyS a.queue = false else a.queue.size ≠ 0)
  · rw [if_pos hq] at h; cases h
  rw [if_neg hq] at h
  by_cases hn : a.n < lowS a.kind ∨ highS a.kind < a.n
  · rw [if_pos hn] at h; cases h
  rw [if_neg hn] at h
  by_cases hb : a.kind ≠ 4 ∧ 0 < a.note.props.length + a.note.body.length
  · rw [if_pos hb] at h; cases h
  rw [if_neg hb] at h
  refine ⟨by omega, by omega, ?_, by omega, by omega, h, fun h4 => h0 (by omega)⟩
  cases hnm : namedS a.kind
  · rw [hnm, if_neg (by simp)] at hq; omega
  · rw [hnm, if_pos rfl] at hq; exact hk (by simpa using hq)
theorem wrongSay_ok {s : LSay} (h : wrongSayS s = 0) : 1 ≤ s.kind ∧ s.kind ≤ 4 ∧ 0 ≤ s.n ∧ s.n ≤ 1073741824 ∧ 0 ≤ s.m ∧ s.m ≤ 3 ∧ 0 ≤ s.err ∧ s.err ≤ 10 ∧ wrongS s.note = 0 ∧ (s.kind ≠ 2 → s.note = note0) := by
  unfold wrongSayS at h
  have h0 := @note_empty s.note
  have h1 : wrongS note0 = 0 := rfl
  by_cases hk : s.kind < 1 ∨ 4 < s.kind
  · rw [if_pos hk] at h; cases h
  rw [if_neg hk] at h
  by_cases h2 : s.kind = 2
  · rw [if_pos h2] at h
    split at h
    · cases h
    · exact ⟨by omega, by omega, by omega, by omega, by omega, by omega, by omega, by omega, h, fun h => absurd h2 h⟩
  rw [if_neg h2] at h
  split at h
  · cases h
  split at h
  · cases h
  have h3 := h0 (by omega)
  exact ⟨by omega, by omega, by omega, by omega, by omega, by omega, by omega, by omega, by rw [h3]; rfl, fun _ => h3⟩
theorem ask_fits {a : LAsk} (h : wrongAskS a = 0) : a.Fits := by
  obtain ⟨_, _, h3, _, _, h6, _⟩ := wrongAsk_ok h
  exact ⟨by omega, fits_right h6⟩
end Go.Proofs.YtmlejhpeoiicpaaGreatDoor.Ab
namespace Go.Proofs.YtmlejhpeoiicpaaGreatDoor.Ab
open Go Go.RowKit
set_option linter.unusedVariables false
set_option linter.unusedSimpArgs false

end Go.Proofs.YtmlejhpeoiicpaaGreatDoor.Ab
