/-
  Texts of the proof, one behind the other: NtU.
  No condition but those that each theorem names.
-/
import Derived.Test.YtcgdjdlcecnanaaGD
import Derived.Test.YtcgdjdlcecnanaaGC
namespace Go.Proofs.Ytcgdjdlcecnanaa.Ab
open Go Go.RowKit
set_option linter.unusedVariables false
set_option linter.unusedSimpArgs false

/-- of a slice of our own only the length is kept -/
theorem Wk.lsl {X : Cx} {σ : AS} (t m : Nat) {e sz : Nat} {rs : List (List AV)} (h : get t σ.tm = some (.os m)) (hb : blk σ m = some (.rows e sz rs)) : Wk X σ { σ with tm := (t, .lsl rs.length) :: σ.tm } := fun γ a w ⟨ρ, hs⟩ => by
  refine ⟨ρ, ⟨fun t' x hx => ?_, hs.hp, hs.nt, hs.base, hs.frm, hs.own, hs.defers⟩⟩
  simp only [get] at hx
  split at hx
  · rename_i ht
    subst ht
    cases hx
    refine ⟨?_, by simp [names]⟩
    have h1 := (hs.tm _ _ h).1
    obtain ⟨_, _, _, A, c, h4, h5, h6, _⟩ := hs.hp.blk m _ hb
    generalize vl γ a t = v at h1
    cases h1
    rw [h4]
    exact .lsl _ _ _ h5 h6
  · exact hs.tm t' x hx
theorem inl_len {X : Cx} {ops : Array Oper} {σ : AS} {R : AS → Prop} {d T el : Nat} {x : Operand} {ty : Nat} {pos : String} {af : Array Edge} {n : Nat} (hu : X.P.underlying T = some (.slice el)) (hx : ev σ x = .lsl n) (hd : d < σ.nt)
    (h : R { σ with tm := (d, .int .i64 n) :: σ.tm }) : InlOp X ops ⟨some d, .call ⟨.builtin .len, #[x], #[T]⟩, ty, pos, af, none⟩ σ R := by
  refine ⟨fun γ a w i Qx hi ⟨ρ, hs⟩ => ?_⟩
  have hvx := (hs.ev x).1
  rw [hx] at hvx
  generalize hv : a.eval x = v at hvx
  cases hvx with
  | lsl _ A c hc hm =>
  refine wpOp_plain hi rfl ?_
  have hex : execOp a.eval ⟨some d, .call ⟨.builtin .len, #[x], #[T]⟩, ty, pos, af, none⟩ = (do pure (.value (← Builtin.len_ #[T] ty #[a.eval x]))) := by
    have e : #[x].map a.eval = #[a.eval x] := by simp
    simp only [execOp, resolve, invoke, builtin, pure_bind, e]
  refine wp_of_value hex (v := .int .i64 n) (w' := w) ?_ ⟨_, h, ρ, hs.put hd (.int _ _) (by simp [names])⟩
  rw [hv]
  simp [Builtin.len_, run_underlying hu, goInt]
theorem wrong_one : wrongS ⟨[⟨⟨#[97]⟩, 1, -2, ⟨#[]⟩⟩], [120, 121]⟩ = 0 := by decide
theorem key_ab : keyS ⟨#[97, 98]⟩ = true := by decide
theorem bytes_one : bytesN ⟨[⟨⟨#[97]⟩, 1, -2, ⟨#[]⟩⟩], [120, 121]⟩ = [1, 1, 97, 1, 255, 255, 255, 254, 2, 120, 121] := by decide
theorem rowApp' (a b : List UInt8) : a.map byteRow ++ b.map byteRow = (a ++ b).map byteRow := List.map_append.symm
theorem key_bytes : ((97 : UInt8).toNat : Int) = 97 := rfl
set_option maxRecDepth 100000 in
set_option maxHeartbeats 1000000 in
theorem con_alive1 : Con Try.prog D 40 [] ⟨.bool true, []⟩ := by
  generalize hn : (⟨[⟨⟨#[97]⟩, 1, -2, ⟨#[]⟩⟩], [120, 121]⟩ : LNote) = n
  have hw : wrongS n = 0 := by rw [← hn]; exact wrong_one
  have hf := fits_right hw
  have hbo : bytesN n = [1, 1, 97, 1, 255, 255, 255, 254, 2, 120, 121] := by rw [← hn]; exact bytes_one
  have hp : parseS (bytesN n ++ [9]) = (n, 11, 0) := by
    rw [parse_bytes [9] hw, hbo]
    rfl
  have hrow : noteA n = .agg [.sl 4 [[.str [97], .int .i64 1, .int .i64 (-2), .str []]], .sl 1 [[.int .u8 120], [.int .u8 121]]] := by rw [← hn]; rfl
  have g1 : tabG noteT 29 [noteA n] = some ⟨.int .i64 (wrongS n), []⟩ := tabG_at (E := eWrong) (T := noteT) (i := 0) rfl (by decide) n hf rfl rfl
  have g3 : tabG noteT 31 [.str [97, 98]] = some ⟨.bool (keyS ⟨#[97, 98]⟩), []⟩ := tabG_at (E := eKey) (T := noteT) (i := 2) rfl (by decide) ⟨#[97, 98]⟩ (show (2 : Nat) ≤ 1048576 by decide) rfl rfl
  have g5 : tabG noteT 33 [noteA n, noteA n] = some ⟨.bool (decide (n = n)), []⟩ := tabG_at (E := eSame) (T := noteT) (i := 4) rfl (by decide) (n, n) ⟨hf, hf⟩ rfl rfl
  have g7 : tabG noteT 35 [noteA n] = some ⟨noteA n, []⟩ := tabG_at (E := eOwn1) (T := noteT) (i := 6) rfl (by decide) n hf rfl rfl
  have g8 : tabG noteT 36 [noteA n] = some ⟨.os 0, [(5, 1, (bytesN n).map byteRow)]⟩ := tabG_at (E := eBytes) (T := noteT) (i := 7) rfl (by decide) n ⟨hf, by rw [hbo]; decide⟩ rfl rfl
  have g10 : tabG noteT 38 [.sl 1 ((bytesN n ++ [9]).map byteRow)] = some ⟨.tup [noteA n, .int .i64 11, .int .i64 0], []⟩ := by
    refine tabG_at (E := eParse) (T := noteT) (i := 9) rfl (by decide) (bytesN n ++ [9]) (by show (bytesN n ++ [9]).length ≤ 4194304; rw [hbo]; decide) rfl ?_
    show Res.mk (.tup [noteA (parseS (bytesN n ++ [9])).1, .int .i64 (parseS (bytesN n ++ [9])).2.1, .int .i64 (parseS (bytesN n ++ [9])).2.2]) [] = _
    rw [hp]
    rfl
  have hok : GOk Try.prog D (tabG noteT) := tabG_ok _
  generalize tabG noteT = G at *
  rw [key_ab] at g3
  rw [hw] at g1
  have hr : ([1, 1, 97, 1, 255, 255, 255, 254, 2, 120, 121] : List UInt8).map byteRow = [[.int .u8 1], [.int .u8 1], [.int .u8 97], [.int .u8 1], [.int .u8 255], [.int .u8 255], [.int .u8 255], [.int .u8 254], [.int .u8 2], [.int .u8 120], [.int .u8 121]] := rfl
  have hr9 : (([1, 1, 97, 1, 255, 255, 255, 254, 2, 120, 121] : List UInt8) ++ [9]).map byteRow = [[.int .u8 1], [.int .u8 1], [.int .u8 97], [.int .u8 1], [.int .u8 255], [.int .u8 255], [.int .u8 255], [.int .u8 254], [.int .u8 2], [.int .u8 120], [.int .u8 121], [.int .u8 9]] := rfl
  rw [hbo, hr] at g8
  rw [hbo, hr9] at g10
  rw [hrow] at g1 g5 g7 g8 g10
  refine con_of (G := G) (rs := [(0, none)]) mixed tok hok Try.func40 rfl (by decide) Try.results40 (by decide) rfl Try.ntmps40 (by simp) (by simp [noteA, namess, names]) fun X hP hD hG' hX => evC_sound hX (fun id => match id with | 3 => {hand := true} | _ => {}) _ _ _ ?_
  simp only [argS, num, noteA]
  simp (disch := ((try simp only [List.length_drop, List.length_take, List.length_append, List.length_cons, List.length_nil, List.length_map]); omega)) only [go_sem, Nat.reduceLeDiff, reduceCtorEq, Nat.reduceAdd, Nat.reduceSub, Nat.reduceMul, Nat.reduceLT, Nat.reduceEqDiff, Int.reduceEq, Int.reduceLE, Int.reduceLT, Int.reducePow, Int.reduceMul, Int.reduceToNat, Int.reduceNeg, ↓reduceIte, ← List.map_take, ← List.map_drop, hD, hG', wrap64, wrap8, g8, g10, unbox, tmv, Option.some.injEq, exists_eq_left']
  refine ⟨by simp, Tr.split hX 1 (by decide) ?_⟩
  simp (disch := ((try simp only [List.length_drop, List.length_take, List.length_append, List.length_cons, List.length_nil, List.length_map]); omega)) only [go_sem, Nat.reduceLeDiff, reduceCtorEq, Nat.reduceAdd, Nat.reduceSub, Nat.reduceMul, Nat.reduceLT, Nat.reduceEqDiff, Int.reduceEq, Int.reduceLE, Int.reduceLT, Int.reducePow, Int.reduceMul, Int.reduceToNat, Int.reduceNeg, ↓reduceIte, ← List.map_take, ← List.map_drop, hD, hG', wrap64, wrap8, unbox, tmv, Option.some.injEq, exists_eq_left']
  refine ⟨_, Wk.lsl 2 4108 (e := 5) (sz := 1) (rs := [[.int .u8 1], [.int .u8 1], [.int .u8 97], [.int .u8 1], [.int .u8 255], [.int .u8 255], [.int .u8 255], [.int .u8 254], [.int .u8 2], [.int .u8 120], [.int .u8 121]]) rfl rfl, ?_⟩
  simp (disch := ((try simp only [List.length_drop, List.length_take, List.length_append, List.length_cons, List.length_nil, List.length_map]); omega)) only [go_sem, Nat.reduceLeDiff, reduceCtorEq, Nat.reduceAdd, Nat.reduceSub, Nat.reduceMul, Nat.reduceLT, Nat.reduceEqDiff, Int.reduceEq, Int.reduceLE, Int.reduceLT, Int.reducePow, Int.reduceMul, Int.reduceToNat, Int.reduceNeg, ↓reduceIte, ← List.map_take, ← List.map_drop, hD, hG', wrap64, wrap8, g8, g10, unbox, tmv, Option.some.injEq, exists_eq_left']
  refine RegT.mk [] ?_
  simp (disch := ((try simp only [List.length_drop, List.length_take, List.length_append, List.length_cons, List.length_nil, List.length_map]); omega)) only [go_sem, Nat.reduceLeDiff, reduceCtorEq, Nat.reduceAdd, Nat.reduceSub, Nat.reduceMul, Nat.reduceLT, Nat.reduceEqDiff, Int.reduceEq, Int.reduceLE, Int.reduceLT, Int.reducePow, Int.reduceMul, Int.reduceToNat, Int.reduceNeg, ↓reduceIte, ← List.map_take, ← List.map_drop, hD, hG', wrap64, wrap8, g1, g3, g5, g7, unbox, tmv, Option.some.injEq, exists_eq_left']
  refine inl_len (el := 5) (by rw [hP]; exact Try.underlying22) rfl (by decide) ?_
  simp (disch := ((try simp only [List.length_drop, List.length_take, List.length_append, List.length_cons, List.length_nil, List.length_map]); omega)) only [go_sem, Nat.reduceLeDiff, reduceCtorEq, Nat.reduceAdd, Nat.reduceSub, Nat.reduceMul, Nat.reduceLT, Nat.reduceEqDiff, Int.reduceEq, Int.reduceLE, Int.reduceLT, Int.reducePow, Int.reduceMul, Int.reduceToNat, Int.reduceNeg, ↓reduceIte, ← List.map_take, ← List.map_drop, hD, hG', wrap64, wrap8, g1, g3, g5, g7, unbox, tmv, Option.some.injEq, exists_eq_left']
  ((try and_intros); all_goals (try first | omega | decide | (simp; done) | (simp only [List.length_append, List.length_cons, List.length_nil, List.length_map]; omega)))
  refine ⟨[], [], rfl, rfl, ?_, ?_⟩ <;> simp only [freeze_nil, freeze_cons, mapT, mapB, mapL, gone, fz, fzs, plain, rowsAt, List.cons_append, List.nil_append, covT, covB, covBlk, cov, covs, keys, get, blk, jn, subs, mem, names, namess, Option.map_some, Option.map_none, Option.getD_some, Option.getD_none, resS, resT, resT.resT', ownS, Nat.reduceEqDiff, ↓reduceIte, if_true, if_false, and_true, true_and, and_self, Nat.reduceAdd, List.map_cons, List.map_nil, ite_true, ite_false, reduceCtorEq]
  all_goals rfl
def eAlive1 : Ent Try.prog D := ⟨40, Unit, fun _ => [], fun _ => True, fun _ => ⟨.bool true, []⟩, fun _ _ _ _ _ => rfl, fun _ _ => con_alive1⟩
def turnT : List (Ent Try.prog D) := [eWrong, eSame, eBytes, eParse, eAlive1]
set_option maxRecDepth 100000 in
set_option maxHeartbeats 1000000 in
theorem con_noteturns (n : LNote) (b : List UInt8) (hn : n.Fits) (hb : b.length ≤ 2097152) : Con Try.prog D 7 [noteA n, .sl 1 (b.map byteRow)] ⟨.bool true, []⟩ := by
  have g1 : tabG turnT 29 [noteA n] = some ⟨.int .i64 (wrongS n), []⟩ := tabG_at (E := eWrong) (T := turnT) (i := 0) rfl (by decide) n hn rfl rfl
  have g5 : tabG turnT 33 [noteA n, noteA n] = some ⟨.bool (decide (n = n)), []⟩ := tabG_at (E := eSame) (T := turnT) (i := 1) rfl (by decide) (n, n) ⟨hn, hn⟩ rfl rfl
  have g8 : ∀ m : LNote, wrongS m = 0 → tabG turnT 36 [noteA m] = some ⟨.os 0, [(5, 1, (bytesN m).map byteRow)]⟩ := fun m h => tabG_at (E := eBytes) (T := turnT) (i := 2) rfl (by decide) m ⟨fits_right h, by have := bytes_right h; omega⟩ rfl rfl
  have g10 : ∀ l : List UInt8, l.length ≤ 4194304 → tabG turnT 38 [.sl 1 (l.map byteRow)] = some ⟨.tup [noteA (parseS l).1, .int .i64 (parseS l).2.1, .int .i64 (parseS l).2.2], []⟩ := fun l hl => tabG_at (E := eParse) (T := turnT) (i := 3) rfl (by decide) l hl rfl rfl
  have g0 : tabG turnT 40 [] = some ⟨.bool true, []⟩ := tabG_at (E := eAlive1) (T := turnT) (i := 4) rfl (by decide) () trivial rfl rfl
  have hok : GOk Try.prog D (tabG turnT) := tabG_ok _
  generalize tabG turnT = G at *
  have hpc := parse_cases b
  have gp := g10 b (by omega)
  have g10' : wrongS n = 0 → G 38 [.sl 1 ((bytesN n ++ b).map byteRow)] = some ⟨.tup [noteA n, .int .i64 ((bytesN n).length : Int), .int .i64 0], []⟩ := fun h => by
    have hbl := bytes_right h
    have := g10 (bytesN n ++ b) (by rw [List.length_append]; omega)
    rw [parse_bytes b h] at this
    exact this
  have g8' := g8 n
  have hbl := @bytes_right n
  generalize parseS b = P at *
  obtain ⟨⟨xp, xb⟩, k, e⟩ := P
  simp only at hpc gp
  generalize hbn : bytesN n = bn at *
  generalize hwn : wrongS n = wn at *
  obtain ⟨np, nb⟩ := n
  have hcon : Con Try.prog D 7 [noteA ⟨np, nb⟩, .sl 1 (b.map byteRow)] ⟨.bool true, []⟩ := by
    refine con_of (G := G) (rs := [(4, none)]) mixed tok hok Try.func7 rfl (by decide) Try.results7 (by decide) rfl Try.ntmps7 (by simp) (by simp [noteA, namess, names]) fun X hP hD hG' hX => evC_sound hX (fun _ => {}) _ _ _ ?_
    rcases hpc with ⟨he, hx, hk⟩ | ⟨he, hw, hk2, hkl, hbx⟩
    · have he' : (e != 0) = true := by simpa using he
      simp only [note0, LNote.mk.injEq] at hx
      obtain ⟨rfl, rfl⟩ := hx
      subst hk
      simp only [noteA, List.map_nil, Int.natCast_zero] at g1 g5 gp g8' g10'
      simp only [argS, num, noteA]
      simp (disch := ((try simp only [List.length_drop, List.length_take, List.length_append, List.length_cons, List.length_nil, List.length_map]); omega)) only [go_sem, Nat.reduceLeDiff, reduceCtorEq, Nat.reduceAdd, Nat.reduceSub, Nat.reduceMul, Nat.reduceLT, Nat.reduceEqDiff, Int.reduceEq, Int.reduceLE, Int.reduceLT, Int.reducePow, Int.reduceMul, Int.reduceToNat, Int.reduceNeg, ↓reduceIte, ← List.map_take, ← List.map_drop, hD, hG', wrap64, wrap8, g0, g1, g5, g8', g10', gp, he', rowApp', unbox, tmv, Option.some.injEq, exists_eq_left']
      iterate 24 (all_goals (try (first | ((first | refine RegT.mk [] ?_ | refine RegA.mk [] (by decide) ?_); simp (disch := ((try simp only [List.length_drop, List.length_take, List.length_append, List.length_cons, List.length_nil, List.length_map]); omega)) only [go_sem, Nat.reduceLeDiff, reduceCtorEq, Nat.reduceAdd, Nat.reduceSub, Nat.reduceMul, Nat.reduceLT, Nat.reduceEqDiff, Int.reduceEq, Int.reduceLE, Int.reduceLT, Int.reducePow, Int.reduceMul, Int.reduceToNat, Int.reduceNeg, ↓reduceIte, ← List.map_take, ← List.map_drop, hD, hG', wrap64, wrap8, g0, g1, g5, g8', g10', gp, he', rowApp', unbox, tmv, Option.some.injEq, exists_eq_left']) | (refine condK_split (fun h => ?_) (fun h => ?_) <;> ((try simp at h); (try simp (disch := ((try simp only [List.length_drop, List.length_take, List.length_append, List.length_cons, List.length_nil, List.length_map]); omega)) only [go_sem, Nat.reduceLeDiff, reduceCtorEq, Nat.reduceAdd, Nat.reduceSub, Nat.reduceMul, Nat.reduceLT, Nat.reduceEqDiff, Int.reduceEq, Int.reduceLE, Int.reduceLT, Int.reducePow, Int.reduceMul, Int.reduceToNat, Int.reduceNeg, ↓reduceIte, ← List.map_take, ← List.map_drop, hD, hG', wrap64, wrap8, g0, g1, g5, g8', g10', gp, he', rowApp', unbox, tmv, Option.some.injEq, exists_eq_left']))) | and_intros)))
      all_goals (try (refine ⟨[], [], rfl, rfl, ?_, ?_⟩ <;> simp only [freeze_nil, freeze_cons, mapT, mapB, mapL, gone, fz, fzs, plain, rowsAt, List.cons_append, List.nil_append, covT, covB, covBlk, cov, covs, keys, get, blk, jn, subs, mem, names, namess, Option.map_some, Option.map_none, Option.getD_some, Option.getD_none, resS, resT, resT.resT', ownS, Nat.reduceEqDiff, ↓reduceIte, if_true, if_false, and_true, true_and, and_self, Nat.reduceAdd, List.map_cons, List.map_nil, ite_true, ite_false, reduceCtorEq]))
      all_goals (try (first | decide | omega | (first | (intro hk; refine ⟨hk, fun h2 => ?_⟩; first | (rw [hk, h2]; rfl) | (rw [hk, decide_eq_false h2]; rfl)) | (intro hk; rw [decide_eq_false hk]; rfl) | (intro hk; rw [hk]; rfl))))
      all_goals (clear g0 g1 g5 g8' g10' gp g8 g10 hok hP hD hG' hX; try grind)
    · subst he
      have gx := g8 ⟨xp, xb⟩ hw
      rw [hbx] at gx
      simp only [noteA] at g1 g5 gp g8' g10' gx
      simp only [argS, num, noteA]
      simp (disch := ((try simp only [List.length_drop, List.length_take, List.length_append, List.length_cons, List.length_nil, List.length_map]); omega)) only [go_sem, Nat.reduceLeDiff, reduceCtorEq, Nat.reduceAdd, Nat.reduceSub, Nat.reduceMul, Nat.reduceLT, Nat.reduceEqDiff, Int.reduceEq, Int.reduceLE, Int.reduceLT, Int.reducePow, Int.reduceMul, Int.reduceToNat, Int.reduceNeg, ↓reduceIte, ← List.map_take, ← List.map_drop, hD, hG', wrap64, wrap8, g0, g1, g5, g8', g10', gp, gx, rowApp', unbox, tmv, Option.some.injEq, exists_eq_left']
      have d1 : decide ((k : Int) ≥ 2) = true := by simp; omega
      have d2 : decide ((k : Int) ≤ (b.length : Int)) = true := by simp; omega
      iterate 24 (all_goals (try (first | ((first | refine RegT.mk [] ?_ | refine RegA.mk [] (by decide) ?_); simp (disch := ((try simp only [List.length_drop, List.length_take, List.length_append, List.length_cons, List.length_nil, List.length_map]); omega)) only [go_sem, Nat.reduceLeDiff, reduceCtorEq, Nat.reduceAdd, Nat.reduceSub, Nat.reduceMul, Nat.reduceLT, Nat.reduceEqDiff, Int.reduceEq, Int.reduceLE, Int.reduceLT, Int.reducePow, Int.reduceMul, Int.reduceToNat, Int.reduceNeg, ↓reduceIte, ← List.map_take, ← List.map_drop, hD, hG', wrap64, wrap8, g0, g1, g5, g8', g10', gp, gx, rowApp', d1, d2, unbox, tmv, Option.some.injEq, exists_eq_left']) | (refine condK_split (fun h => ?_) (fun h => ?_) <;> ((try simp at h); (try simp (disch := ((try simp only [List.length_drop, List.length_take, List.length_append, List.length_cons, List.length_nil, List.length_map]); omega)) only [go_sem, Nat.reduceLeDiff, reduceCtorEq, Nat.reduceAdd, Nat.reduceSub, Nat.reduceMul, Nat.reduceLT, Nat.reduceEqDiff, Int.reduceEq, Int.reduceLE, Int.reduceLT, Int.reducePow, Int.reduceMul, Int.reduceToNat, Int.reduceNeg, ↓reduceIte, ← List.map_take, ← List.map_drop, hD, hG', wrap64, wrap8, g0, g1, g5, g8', g10', gp, gx, rowApp', d1, d2, unbox, tmv, Option.some.injEq, exists_eq_left']))) | and_intros)))
      all_goals (try (refine ⟨[], [], rfl, rfl, ?_, ?_⟩ <;> simp only [freeze_nil, freeze_cons, mapT, mapB, mapL, gone, fz, fzs, plain, rowsAt, List.cons_append, List.nil_append, covT, covB, covBlk, cov, covs, keys, get, blk, jn, subs, mem, names, namess, Option.map_some, Option.map_none, Option.getD_some, Option.getD_none, resS, resT, resT.resT', ownS, Nat.reduceEqDiff, ↓reduceIte, if_true, if_false, and_true, true_and, and_self, Nat.reduceAdd, List.map_cons, List.map_nil, ite_true, ite_false, reduceCtorEq]))
      all_goals (try (first | decide | omega | (first | (intro hk; refine ⟨hk, fun h2 => ?_⟩; first | (rw [hk, h2]; rfl) | (rw [hk, decide_eq_false h2]; rfl)) | (intro hk; rw [decide_eq_false hk]; rfl) | (intro hk; rw [hk]; rfl))))
      all_goals (clear g0 g1 g5 g8' g10' gp gx g8 g10 hok hP hD hG' hX; try grind)
  exact hcon
end Go.Proofs.Ytcgdjdlcecnanaa.Ab
