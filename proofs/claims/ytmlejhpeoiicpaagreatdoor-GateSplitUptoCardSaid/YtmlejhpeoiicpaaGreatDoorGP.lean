/-
  Texts of the proof, one behind the other: FrD FrE FrF FrG FrH FrI FrJ FrK FrP.
  No condition but those that each theorem names.
-/
import Derived.Test.YtmlejhpeoiicpaaGreatDoorGH
import Derived.Test.YtmlejhpeoiicpaaGreatDoorGC
import Derived.Test.YtmlejhpeoiicpaaGreatDoorGD
namespace Go.Proofs.YtmlejhpeoiicpaaGreatDoor.Ab
open Go Go.RowKit
set_option linter.unusedVariables false
set_option linter.unusedSimpArgs false

theorem numS_flat (w : World) (im : Nat → Prop) (ρ : Env) (n : Int) : FlatRel w im ρ 1 ((numS n).map byteRow) ((numS n).map byteV) := by
  refine ⟨by simp, fun i row hi => ?_⟩
  rw [List.getElem?_map] at hi
  obtain ⟨b, hb, rfl⟩ := Option.map_eq_some_iff.1 hi
  refine ⟨rfl, fun j x hj => ?_⟩
  cases j with
  | succ j => simp [byteRow] at hj
  | zero =>
    simp [byteRow] at hj
    subst hj
    refine ⟨by simp [names], byteV b, ?_, rfl, .int _ _⟩
    rw [Nat.mul_one, Nat.add_zero, List.getElem?_map, hb]
    rfl
theorem numS_vals (n : Int) : (numS n).map byteV = [.int .u8 (n / 16777216 % 256), .int .u8 (n / 65536 % 256), .int .u8 (n / 256 % 256), .int .u8 (n % 256)] := by
  simp only [numS, List.map_cons, List.map_nil, byteV, byteI_nat]
set_option maxRecDepth 40000 in
set_option maxHeartbeats 400000 in
theorem frnum_calls (n : Int) (rs : List (List AV)) (hn : rs.length ≤ 8388608) (w : World) (im : Nat → Prop) (ρ : Env) (u : Value) (xs : List Value) (hown : w.ownsRow 0 5 1 u rs.length xs) (hf : FlatRel w im ρ 1 rs xs) :
    Calls Tryz.prog 135 #[u, .int .i64 n] w (RowsPost w im ρ 5 1 u (rs ++ (numS n).map byteRow)) := by
  obtain ⟨i0, hi0, hz0, hz1, hz2⟩ := info_parts info_u8
  have HO := Lib.hid hown
  have HF := Lib.hid hf
  clear hown hf
  go_enter Tryz.func135, Tryz.ntmps135
  have HN := Lib.hid (numS_vals n)
  go_wp2_with (at_builtin; refine wpList_append_any _ rfl (.tmp 5) (.tmp 17) _ rfl 0 5 i0 _ 1 1 Tryz.underlying23 hi0 hz0 hz1 hz2 rfl (by omega) u rs.length xs rfl (own_later HO.out (by repeat (first | exact Below.refl _ _ | apply below_alloc | apply Below.drew | apply below_drewN))) (· = w.heap.size) (some ⟨w.heap.size, 0, none⟩) 4 4 ((numS n).map byteV) rfl (by rw [HN.out]; exact reads_lit w _ 5 1 4 rfl) (one_bytes _) (by simp only [maxLen]; omega) (by omega) (by simp) ?_; intro v1 w1 hown1 hg1 hat1)
  go_ret
  have hlen : (rs ++ (numS n).map byteRow).length = rs.length + 4 := by simp [numS]
  refine ⟨v1, xs ++ (numS n).map byteV, rfl, ?_, HF.out.append (numS_flat w im ρ n), ?_, ?_⟩
  · rw [hlen]; exact hown1
  · exact ⟨hg1.os, hg1.tape, hg1.output, by have := hg1.size; simp at this; omega, fun g hg hne => by rw [hg1.block g (by simp; omega) hne]; exact Below.heap_alloc w _ g hg⟩
  · intro b hb
    rcases hat1 with h | h
    · rw [h] at hb; exact .inl hb
    · rw [h] at hb
      have : b = w.heap.size + 1 := by simpa using hb.symm
      exact .inr (by omega)
/-- what num does to bytes of our own -/
def frnumM : MCtr := fun dn f args bl => if f = 135 then
    match args with
    | [.os v, .int .i64 n] => match bl v with
      | some (.rows e sz rs) => some { v := .os dn, kl := [v], nw := [(dn, .rows e sz (rs ++ (numS n).map byteRow))], pre := (e = 5 ∧ sz = 1) ∧ rs.length ≤ 8388608 }
      | _ => none
    | _ => none
  else none
theorem mok_frnum {G : Ctr} : MOk Tryz.prog D G frnumM := by
  intro X hP hD hG hM hmx hT hok ops o σ e hgd he hpre hfr
  obtain ⟨dst, f, args, types, ty, pos, af, g, caps, rfl, hf, he⟩ := mEff_call he hgd
  unfold frnumM at he
  split at he
  case isFalse => cases he
  rename_i hg91
  subst hg91
  split at he
  case h_2 => cases he
  rename_i v n hargs
  split at he
  case h_2 => cases he
  rename_i e0 sz rs hbl
  have hbl := snap_some hbl
  injection he with he
  subst he
  obtain ⟨⟨rfl, rfl⟩, hl⟩ := hpre
  simp only [fresh, keys, unbound, Bool.and_eq_true, Option.isNone_iff_eq_none] at hfr
  refine inl_rows (by rw [hP, hD]; exact hT) hf hargs hbl (by rw [hP]; exact Tryz.func135) rfl (by decide) hfr.1.1 (fun k hk => ?_) (fun w im ρ u vs xs h1 h2 h3 h4 h5 => ?_)
  · have := hfr.2
    rw [hk] at this
    simpa using this
  · obtain ⟨h6, h7⟩ := h4
    match vs, h6 with
    | [y], _ =>
      have := h7 0 _ y rfl rfl
      rw [this.int_, hP]
      exact frnum_calls n rs hl w im ρ u xs h1 h2
end Go.Proofs.YtmlejhpeoiicpaaGreatDoor.Ab
namespace Go.Proofs.YtmlejhpeoiicpaaGreatDoor.Ab
open Go Go.RowKit
set_option linter.unusedVariables false
set_option linter.unusedSimpArgs false

theorem rowApp (a b : List UInt8) : a.map byteRow ++ b.map byteRow = (a ++ b).map byteRow := List.map_append.symm
theorem rowTail (a : List UInt8) (x y : UInt8) : a.map byteRow ++ [[AV.int .u8 (x.toNat : Int)], [AV.int .u8 (y.toNat : Int)]] = (a ++ [x, y]).map byteRow := by simp [byteRow]
def framedS (l : List UInt8) : List UInt8 := byteI (l.length / 256) :: byteI l.length :: l
def askB (a : LAsk) : List UInt8 := byteI a.kind :: (textS a.queue.data.toList ++ numS a.n ++ (if a.kind = 4 then bytesN a.note else []))
def sayB (s : LSay) : List UInt8 := byteI s.kind :: (numS s.n ++ [byteI s.m, byteI s.err] ++ (if s.kind = 2 then bytesN s.note else []))
theorem con_framed (l : List UInt8) (hl : l.length ≤ 8388608) : Con Tryz.prog D 137 [.sl 1 (l.map byteRow)] ⟨.os 0, [(5, 1, (framedS l).map byteRow)]⟩ := by
  have hok : GOk Tryz.prog D (tabG []) := tabG_ok _
  refine con_of (G := tabG []) (rs := [(2, none)]) mixed tok hok Tryz.func137 rfl (by decide) Tryz.results137 (by decide) rfl Tryz.ntmps137 (by simp) (by simp [namess, names]) fun X hP hD hG' hX => evC_sound hX (fun _ => {}) _ _ _ ?_
  simp only [argS, num]
  have hw : IntKind.wrap .i64 ((l.length : Int) / 256) = (l.length : Int) / 256 := wrap64 (by omega) (by omega)
  simp (disch := ((try simp only [List.length_drop, List.length_take, List.length_append, List.length_cons, List.length_nil, List.length_map]); omega)) only [go_sem, Nat.reduceLeDiff, reduceCtorEq, Nat.reduceAdd, Nat.reduceSub, Nat.reduceMul, Nat.reduceLT, Nat.reduceEqDiff, Int.reduceEq, Int.reduceLE, Int.reduceLT, Int.reducePow, Int.reduceMul, Int.reduceToNat, Int.reduceNeg, ↓reduceIte, ← List.map_take, ← List.map_drop, hD, hG', wrap8, shr8, hw, unbox]
  ((try and_intros); all_goals (try first | omega | decide | (simp; done) | (simp only [List.length_append, List.length_cons, List.length_nil, List.length_map]; omega)))
  refine ⟨[], [(0, 12)], rfl, rfl, ?_, ?_⟩ <;> simp only [freeze_nil, freeze_cons, mapT, mapB, mapL, gone, fz, fzs, plain, rowsAt, List.cons_append, List.nil_append, covT, covB, covBlk, cov, covs, keys, get, blk, jn, subs, mem, names, namess, Option.map_some, Option.map_none, Option.getD_some, Option.getD_none, resS, resT, resT.resT', ownS, Nat.reduceEqDiff, ↓reduceIte, if_true, if_false, and_true, true_and, and_self, Nat.reduceAdd, List.map_cons, List.map_nil, ite_true, ite_false, reduceCtorEq, D_3, D_5, D_9, D_22, D_23, D_25, D_27, D_36]
  all_goals simp [framedS, byteRow]
def eFramed : Ent Tryz.prog D := ⟨137, List UInt8, fun l => [.sl 1 (l.map byteRow)], fun l => l.length ≤ 8388608, fun l => ⟨.os 0, [(5, 1, (framedS l).map byteRow)]⟩, fun x y _ _ h => by
  simp only [List.cons.injEq, AV.sl.injEq, true_and, and_true] at h
  rw [bytes_inj h], con_framed⟩
theorem askB_len {a : LAsk} (h : wrongAskS a = 0) : (askB a).length ≤ 148 := by
  obtain ⟨_, _, h1, _, _, h2, _⟩ := wrongAsk_ok h
  have h3 := bytes_right h2
  have h4 := size_len a.queue
  simp only [askB, textS, numS, List.length_append, List.length_cons, List.length_nil]
  split
  · omega
  · simp only [List.length_nil]; omega
theorem sayB_len {s : LSay} (h : wrongSayS s = 0) : (sayB s).length ≤ 141 := by
  obtain ⟨_, _, _, _, _, _, _, _, h2, _⟩ := wrongSay_ok h
  have h3 := bytes_right h2
  simp only [sayB, numS, List.length_append, List.length_cons, List.length_nil]
  split
  · omega
  · simp only [List.length_nil]; omega
set_option maxRecDepth 100000 in
theorem con_askbytes (s : LAsk) (hs : wrongAskS s = 0) : Con Tryz.prog D 107 [askA s] ⟨.os 0, [(5, 1, (framedS (askB s)).map byteRow)]⟩ := by
  have hlen := askB_len hs
  obtain ⟨kind, q, n, ⟨ps, bs⟩⟩ := s
  obtain ⟨h1, h2, h3, h4, h5, h6, h7⟩ := wrongAsk_ok hs
  simp only at h1 h2 h3 h4 h5 h6 h7
  have hb := bytes_right h6
  have hl := size_len q
  have hn4 := num4 n
  have hok : GOk Tryz.prog D (tabG [eBytes, eFramed]) := tabG_ok _
  have g1 : tabG [eBytes, eFramed] 136 [noteA ⟨ps, bs⟩] = some ⟨.os 0, [(5, 1, (bytesN ⟨ps, bs⟩).map byteRow)]⟩ := tabG_at (E := eBytes) (T := [eBytes, eFramed]) (i := 0) rfl (by decide) _ ⟨fits_right h6, by omega⟩ rfl rfl
  have g2 : ∀ l : List UInt8, l.length ≤ 8388608 → tabG [eBytes, eFramed] 137 [.sl 1 (l.map byteRow)] = some ⟨.os 0, [(5, 1, (framedS l).map byteRow)]⟩ := fun l h => tabG_at (E := eFramed) (T := [eBytes, eFramed]) (i := 1) rfl (by decide) l h rfl rfl
  have g3 : ∀ (x y : UInt8) (l : List UInt8), l.length ≤ 8388600 → tabG [eBytes, eFramed] 137 [.sl 1 ([.int .u8 (x.toNat : Int)] :: [.int .u8 (y.toNat : Int)] :: l.map byteRow)] = some ⟨.os 0, [(5, 1, (framedS (x :: y :: l)).map byteRow)]⟩ := fun x y l h => g2 (x :: y :: l) (by simp only [List.length_cons]; omega)
  have gn : ∀ a, tabG [eBytes, eFramed] 135 a = none := fun a => rfl
  generalize tabG [eBytes, eFramed] = G at *
  simp only [noteA] at g1
  refine con_ofM mok_frnum (G := G) (rs := [(2, none)]) mixed tok hok Tryz.func107 rfl (by decide) Tryz.results107 (by decide) rfl Tryz.ntmps107 (by simp) (by simp [askA, namess, names]) fun X hP hD hG' hX => evC_sound hX (fun _ => {}) _ _ _ ?_
  simp only [argS, num, askA]
  simp (disch := ((try simp only [List.length_drop, List.length_take, List.length_append, List.length_cons, List.length_nil, List.length_map]); omega)) only [go_sem, Nat.reduceLeDiff, reduceCtorEq, Nat.reduceAdd, Nat.reduceSub, Nat.reduceMul, Nat.reduceLT, Nat.reduceEqDiff, Int.reduceEq, Int.reduceLE, Int.reduceLT, Int.reducePow, Int.reduceMul, Int.reduceToNat, Int.reduceNeg, ↓reduceIte, ← List.map_take, ← List.map_drop, hD, hG', wrap8, gn, asked_none, frnumM, g1, rowApp, unbox]
  ((try and_intros); all_goals (try first | omega | decide | (simp; done) | (simp only [List.length_append, List.length_cons, List.length_nil, List.length_map]; omega)))
  refine condK_split (fun h => ?_) (fun h => ?_)
  · have hk : kind = 4 := by simpa using h
    have he : askB ⟨kind, q, n, ⟨ps, bs⟩⟩ = byteI kind :: byteI q.data.toList.length :: (q.data.toList ++ numS n ++ bytesN ⟨ps, bs⟩) := by simp [askB, hk, textS]
    rw [he] at hlen
    rw [he]
    simp (disch := ((try simp only [List.length_drop, List.length_take, List.length_append, List.length_cons, List.length_nil, List.length_map]); omega)) only [go_sem, Nat.reduceLeDiff, reduceCtorEq, Nat.reduceAdd, Nat.reduceSub, Nat.reduceMul, Nat.reduceLT, Nat.reduceEqDiff, Int.reduceEq, Int.reduceLE, Int.reduceLT, Int.reducePow, Int.reduceMul, Int.reduceToNat, Int.reduceNeg, ↓reduceIte, ← List.map_take, ← List.map_drop, hD, hG', wrap8, gn, asked_none, frnumM, g1, g3, rowApp, unbox]
    ((try and_intros); all_goals (try first | omega | decide | (simp; done) | (simp only [List.length_append, List.length_cons, List.length_nil, List.length_map]; omega)))
    refine ⟨[], [(0, 4124)], rfl, rfl, ?_, ?_⟩ <;> simp only [freeze_nil, freeze_cons, mapT, mapB, mapL, gone, fz, fzs, plain, rowsAt, List.cons_append, List.nil_append, covT, covB, covBlk, cov, covs, keys, get, blk, jn, subs, mem, names, namess, Option.map_some, Option.map_none, Option.getD_some, Option.getD_none, resS, resT, resT.resT', ownS, Nat.reduceEqDiff, ↓reduceIte, if_true, if_false, and_true, true_and, and_self, Nat.reduceAdd, List.map_cons, List.map_nil, ite_true, ite_false, reduceCtorEq, D_3, D_5, D_9, D_22, D_23, D_25, D_27, D_36]
    all_goals rfl
  · have hk : ¬ kind = 4 := by simpa using h
    have he : askB ⟨kind, q, n, ⟨ps, bs⟩⟩ = byteI kind :: byteI q.data.toList.length :: (q.data.toList ++ numS n) := by simp [askB, hk, textS]
    rw [he] at hlen
    rw [he]
    simp (disch := ((try simp only [List.length_drop, List.length_take, List.length_append, List.length_cons, List.length_nil, List.length_map]); omega)) only [go_sem, Nat.reduceLeDiff, reduceCtorEq, Nat.reduceAdd, Nat.reduceSub, Nat.reduceMul, Nat.reduceLT, Nat.reduceEqDiff, Int.reduceEq, Int.reduceLE, Int.reduceLT, Int.reducePow, Int.reduceMul, Int.reduceToNat, Int.reduceNeg, ↓reduceIte, ← List.map_take, ← List.map_drop, hD, hG', wrap8, gn, asked_none, frnumM, g1, g3, rowApp, unbox]
    ((try and_intros); all_goals (try first | omega | decide | (simp; done) | (simp only [List.length_append, List.length_cons, List.length_nil, List.length_map]; omega)))
    refine ⟨[], [(0, 4124)], rfl, rfl, ?_, ?_⟩ <;> simp only [freeze_nil, freeze_cons, mapT, mapB, mapL, gone, fz, fzs, plain, rowsAt, List.cons_append, List.nil_append, covT, covB, covBlk, cov, covs, keys, get, blk, jn, subs, mem, names, namess, Option.map_some, Option.map_none, Option.getD_some, Option.getD_none, resS, resT, resT.resT', ownS, Nat.reduceEqDiff, ↓reduceIte, if_true, if_false, and_true, true_and, and_self, Nat.reduceAdd, List.map_cons, List.map_nil, ite_true, ite_false, reduceCtorEq, D_3, D_5, D_9, D_22, D_23, D_25, D_27, D_36]
    all_goals rfl
end Go.Proofs.YtmlejhpeoiicpaaGreatDoor.Ab
namespace Go.Proofs.YtmlejhpeoiicpaaGreatDoor.Ab
open Go Go.RowKit
set_option linter.unusedVariables false
set_option linter.unusedSimpArgs false

def saybytesLo : Nat → Lo := fun id => match id with | 1 => {uo := [6, 14], ex := [0, 1, 2, 3, 4, 5, 15], kn := [7, 10]} | _ => {}
set_option maxRecDepth 100000 in
theorem con_saybytes (s : LSay) (hs : wrongSayS s = 0) : Con Tryz.prog D 109 [sayA s] ⟨.os 0, [(5, 1, (framedS (sayB s)).map byteRow)]⟩ := by
  have hlen := sayB_len hs
  obtain ⟨kind, n, m, err, ⟨ps, bs⟩⟩ := s
  obtain ⟨_, _, _, _, _, _, _, _, h6, _⟩ := wrongSay_ok hs
  simp only at h6
  have hb := bytes_right h6
  have hn4 := num4 n
  have hok : GOk Tryz.prog D (tabG [eBytes, eFramed]) := tabG_ok _
  have g1 : tabG [eBytes, eFramed] 136 [noteA ⟨ps, bs⟩] = some ⟨.os 0, [(5, 1, (bytesN ⟨ps, bs⟩).map byteRow)]⟩ := tabG_at (E := eBytes) (T := [eBytes, eFramed]) (i := 0) rfl (by decide) _ ⟨fits_right h6, by omega⟩ rfl rfl
  have g2 : ∀ l : List UInt8, l.length ≤ 8388608 → tabG [eBytes, eFramed] 137 [.sl 1 (l.map byteRow)] = some ⟨.os 0, [(5, 1, (framedS l).map byteRow)]⟩ := fun l h => tabG_at (E := eFramed) (T := [eBytes, eFramed]) (i := 1) rfl (by decide) l h rfl rfl
  have g3 : ∀ (x : UInt8) (l : List UInt8), l.length ≤ 8388600 → tabG [eBytes, eFramed] 137 [.sl 1 ([.int .u8 (x.toNat : Int)] :: l.map byteRow)] = some ⟨.os 0, [(5, 1, (framedS (x :: l)).map byteRow)]⟩ := fun x l h => g2 (x :: l) (by simp only [List.length_cons]; omega)
  have gn : ∀ a, tabG [eBytes, eFramed] 135 a = none := fun a => rfl
  generalize tabG [eBytes, eFramed] = G at *
  simp only [noteA] at g1
  refine con_ofM mok_frnum (G := G) (rs := [(2, none)]) mixed tok hok Tryz.func109 rfl (by decide) Tryz.results109 (by decide) rfl Tryz.ntmps109 (by simp) (by simp [sayA, namess, names]) fun X hP hD hG' hX => evC_sound hX saybytesLo _ _ _ ?_
  simp only [argS, num, sayA]
  simp (disch := ((try simp only [List.length_drop, List.length_take, List.length_append, List.length_cons, List.length_nil, List.length_map]); omega)) only [go_sem, Nat.reduceLeDiff, reduceCtorEq, Nat.reduceAdd, Nat.reduceSub, Nat.reduceMul, Nat.reduceLT, Nat.reduceEqDiff, Int.reduceEq, Int.reduceLE, Int.reduceLT, Int.reducePow, Int.reduceMul, Int.reduceToNat, Int.reduceNeg, ↓reduceIte, ← List.map_take, ← List.map_drop, hD, hG', wrap8, gn, asked_none, frnumM, g1, rowApp, rowTail, saybytesLo, unbox]
  ((try and_intros); all_goals (try first | omega | decide | (simp; done) | (simp only [List.length_append, List.length_cons, List.length_nil, List.length_map]; omega)))
  refine condK_split (fun h => ?_) (fun h => ?_)
  · have hk : kind = 2 := by simpa using h
    have he : sayB ⟨kind, n, m, err, ⟨ps, bs⟩⟩ = byteI kind :: (numS n ++ [byteI m, byteI err] ++ bytesN ⟨ps, bs⟩) := by simp [sayB, hk]
    rw [he] at hlen
    rw [he]
    simp (disch := ((try simp only [List.length_drop, List.length_take, List.length_append, List.length_cons, List.length_nil, List.length_map]); omega)) only [go_sem, Nat.reduceLeDiff, reduceCtorEq, Nat.reduceAdd, Nat.reduceSub, Nat.reduceMul, Nat.reduceLT, Nat.reduceEqDiff, Int.reduceEq, Int.reduceLE, Int.reduceLT, Int.reducePow, Int.reduceMul, Int.reduceToNat, Int.reduceNeg, ↓reduceIte, ← List.map_take, ← List.map_drop, hD, hG', wrap8, gn, asked_none, frnumM, g1, g3, rowApp, rowTail, unbox]
    ((try and_intros); all_goals (try first | omega | decide | (simp; done) | (simp only [List.length_append, List.length_cons, List.length_nil, List.length_map]; omega)))
    refine ⟨[], [(0, 4124)], rfl, rfl, ?_, ?_⟩ <;> simp only [freeze_nil, freeze_cons, mapT, mapB, mapL, gone, fz, fzs, plain, rowsAt, List.cons_append, List.nil_append, covT, covB, covBlk, cov, covs, keys, get, blk, jn, subs, mem, names, namess, Option.map_some, Option.map_none, Option.getD_some, Option.getD_none, resS, resT, resT.resT', ownS, Nat.reduceEqDiff, ↓reduceIte, if_true, if_false, and_true, true_and, and_self, Nat.reduceAdd, List.map_cons, List.map_nil, ite_true, ite_false, reduceCtorEq, D_3, D_5, D_9, D_22, D_23, D_25, D_28, D_30, D_36]
    all_goals rfl
  · have hk : ¬ kind = 2 := by simpa using h
    have he : sayB ⟨kind, n, m, err, ⟨ps, bs⟩⟩ = byteI kind :: (numS n ++ [byteI m, byteI err]) := by simp [sayB, hk]
    rw [he] at hlen
    rw [he]
    simp (disch := ((try simp only [List.length_drop, List.length_take, List.length_append, List.length_cons, List.length_nil, List.length_map]); omega)) only [go_sem, Nat.reduceLeDiff, reduceCtorEq, Nat.reduceAdd, Nat.reduceSub, Nat.reduceMul, Nat.reduceLT, Nat.reduceEqDiff, Int.reduceEq, Int.reduceLE, Int.reduceLT, Int.reducePow, Int.reduceMul, Int.reduceToNat, Int.reduceNeg, ↓reduceIte, ← List.map_take, ← List.map_drop, hD, hG', wrap8, gn, asked_none, frnumM, g1, g3, rowApp, rowTail, unbox]
    ((try and_intros); all_goals (try first | omega | decide | (simp; done) | (simp only [List.length_append, List.length_cons, List.length_nil, List.length_map]; omega)))
    refine ⟨[], [(0, 4124)], rfl, rfl, ?_, ?_⟩ <;> simp only [freeze_nil, freeze_cons, mapT, mapB, mapL, gone, fz, fzs, plain, rowsAt, List.cons_append, List.nil_append, covT, covB, covBlk, cov, covs, keys, get, blk, jn, subs, mem, names, namess, Option.map_some, Option.map_none, Option.getD_some, Option.getD_none, resS, resT, resT.resT', ownS, Nat.reduceEqDiff, ↓reduceIte, if_true, if_false, and_true, true_and, and_self, Nat.reduceAdd, List.map_cons, List.map_nil, ite_true, ite_false, reduceCtorEq, D_3, D_5, D_9, D_22, D_23, D_25, D_28, D_30, D_36]
    all_goals rfl
end Go.Proofs.YtmlejhpeoiicpaaGreatDoor.Ab
namespace Go.Proofs.YtmlejhpeoiicpaaGreatDoor.Ab
open Go Go.RowKit
set_option linter.unusedVariables false
set_option linter.unusedSimpArgs false

theorem orN64 (i a b : Nat) (hb : b < 2 ^ i) (ha : 2 ^ i * a + b < 4294967296) : orI .i64 ((2 ^ i * a : Nat) : Int) (b : Int) = ((2 ^ i * a + b : Nat) : Int) := by
  unfold orI
  have e : ∀ n : Nat, BitVec.ofInt 64 (n : Int) = BitVec.ofNat 64 n := fun n => by
    apply BitVec.eq_of_toNat_eq
    simp [BitVec.toNat_ofInt]
  show IntKind.wrap .i64 ((BitVec.ofInt 64 _ ||| BitVec.ofInt 64 _).toNat : Int) = _
  rw [e, e, BitVec.toNat_or, BitVec.toNat_ofNat, BitVec.toNat_ofNat, Nat.mod_eq_of_lt (by omega), Nat.mod_eq_of_lt (by omega), ← Nat.two_pow_add_eq_or_of_lt hb]
  exact wrap64 (by omega) (by omega)
theorem orBytes' (x y : UInt8) : orI .i64 (shlI .i64 (x.toNat : Int) 8) (y.toNat : Int) = ((256 * x.toNat + y.toNat : Nat) : Int) := by
  have hx := x.toNat_lt
  have hy := y.toNat_lt
  rw [shl8, show IntKind.wrap .i64 ((x.toNat : Int) * 256) = ((2 ^ 8 * x.toNat : Nat) : Int) from by rw [wrap64 (by omega) (by omega)]; omega]
  exact orN64 8 x.toNat y.toNat (by omega) (by omega)
def frameS (l : List UInt8) : List UInt8 × Int × Int :=
  if l.length < 2 then ([], 0, 9)
  else if 398 < 256 * (l.getD 0 0).toNat + (l.getD 1 0).toNat then ([], 0, 4)
  else if l.length < 256 * (l.getD 0 0).toNat + (l.getD 1 0).toNat + 2 then ([], 0, 9)
  else ((l.take (256 * (l.getD 0 0).toNat + (l.getD 1 0).toNat + 2)).drop 2, 256 * (l.getD 0 0).toNat + (l.getD 1 0).toNat + 2, 0)
set_option maxRecDepth 100000 in
theorem con_frame (l : List UInt8) (hl : l.length ≤ 8388608) : Con Tryz.prog D 132 [.sl 1 (l.map byteRow)] ⟨.tup [.sl 1 ((frameS l).1.map byteRow), .int .i64 (frameS l).2.1, .int .i64 (frameS l).2.2], []⟩ := by
  have hok : GOk Tryz.prog D (tabG []) := tabG_ok _
  have hcon : ∀ r, r = frameS l → Con Tryz.prog D 132 [.sl 1 (l.map byteRow)] ⟨.tup [.sl 1 (r.1.map byteRow), .int .i64 r.2.1, .int .i64 r.2.2], []⟩ := by
    intro r hr
    refine con_of (G := tabG []) (rs := [(2, none), (3, none), (4, none)]) mixed tok hok Tryz.func132 rfl (by decide) Tryz.results132 (by decide) rfl Tryz.ntmps132 (by simp) (by simp [namess, names]) fun X hP hD hG' hX => evC_sound hX (fun _ => {}) _ _ _ ?_
    simp only [argS, num]
    have ha := (l.getD 0 0).toNat_lt
    have hb := (l.getD 1 0).toNat_lt
    have e : ∀ a b : Nat, (256 * (a : Int) + b + 2).toNat = 256 * a + b + 2 := fun a b => by omega
    simp (disch := omega) only [go_sem, hD, hG', wrap8, byteGet, wrap_byte, orBytes', unbox]
    iterate 24 (all_goals (try (first | (refine RegT.mk [] ?_; simp (disch := omega) only [go_sem, hD, hG', wrap8, byteGet, wrap_byte, orBytes', unbox]) | (refine condK_split (fun h => ?_) (fun h => ?_) <;> ((try simp only [decide_eq_true_eq, decide_eq_false_iff_not, Int.not_lt, Int.not_le, Bool.not_eq_true] at h); simp (disch := omega) only [go_sem, hD, hG', wrap8, byteGet, wrap_byte, orBytes', unbox])) | and_intros)))
    all_goals (try (first | decide | omega))
    all_goals (refine ⟨[], [], rfl, rfl, ?_, ?_⟩ <;> simp only [go_sem])
    all_goals (subst hr; simp only [frameS])
    all_goals (try (first | rw [if_pos (by omega)] | rw [if_neg (by omega), if_pos (by omega)] | rw [if_neg (by omega), if_neg (by omega), if_pos (by omega)] | rw [if_neg (by omega), if_neg (by omega), if_neg (by omega)]))
    all_goals simp [e]
  exact hcon _ rfl
set_option maxRecDepth 100000 in
theorem con_frget (l : List UInt8) (hl : 4 ≤ l.length) (hl2 : l.length ≤ 8388608) : Con Tryz.prog D 133 [.sl 1 (l.map byteRow)] ⟨.int .i64 (getS l), []⟩ := by
  have hok : GOk Tryz.prog D (tabG []) := tabG_ok _
  refine con_of (G := tabG []) (rs := [(2, none)]) mixed tok hok Tryz.func133 rfl (by decide) Tryz.results133 (by decide) rfl Tryz.ntmps133 (by simp) (by simp [namess, names]) fun X hP hD hG' hX => evC_sound hX (fun _ => {}) _ _ _ ?_
  simp only [argS, num]
  have hgs : IntKind.wrap .i64 (IntKind.wrap .i32 (numN l : Int)) = getS l := wrap64 (by have := getS_in l; unfold getS at this; omega) (by have := getS_in l; unfold getS at this; omega)
  simp (disch := omega) only [go_sem, hD, hG', wrap8, byteGet, wrap32_byte, orGet, hgs, unbox]
  ((try and_intros); all_goals (try first | omega | decide | (simp; done) | (simp only [List.length_append, List.length_cons, List.length_nil, List.length_map]; omega)))
  refine ⟨[], [], rfl, rfl, ?_, ?_⟩ <;> simp only [go_sem]
/-- the note that is all of bytes; none, if it must be none -/
def tailS (l : List UInt8) (must : Bool) : LNote × Int :=
  if must = false then (if 0 < l.length then (note0, 2) else (note0, 0))
  else if (parseS l).2.2 ≠ 0 ∨ (parseS l).2.1 ≠ l.length then (note0, 2) else ((parseS l).1, 0)
set_option maxRecDepth 100000 in
theorem con_tail (l : List UInt8) (must : Bool) (hl : l.length ≤ 4194304) : Con Tryz.prog D 134 [.sl 1 (l.map byteRow), .bool must] ⟨.tup [noteA (tailS l must).1, .int .i64 (tailS l must).2], []⟩ := by
  have hok : GOk Tryz.prog D (tabG [eParse]) := tabG_ok _
  have g1 : tabG [eParse] 152 [.sl 1 (l.map byteRow)] = some ⟨.tup [noteA (parseS l).1, .int .i64 (parseS l).2.1, .int .i64 (parseS l).2.2], []⟩ := tabG_at (E := eParse) (T := [eParse]) (i := 0) rfl (by decide) l hl rfl rfl
  generalize tabG [eParse] = G at *
  simp only [noteA] at g1
  have hcon : ∀ r, r = tailS l must → Con Tryz.prog D 134 [.sl 1 (l.map byteRow), .bool must] ⟨.tup [noteA r.1, .int .i64 r.2], []⟩ := by
    intro r hr
    refine con_of (G := G) (rs := [(4, some 25), (5, none)]) mixed tok hok Tryz.func134 rfl (by decide) Tryz.results134 (by decide) rfl Tryz.ntmps134 (by simp) (by simp [namess, names]) fun X hP hD hG' hX => evC_sound hX (fun _ => {}) _ _ _ ?_
    simp only [argS, num]
    simp (disch := omega) only [go_sem, hD, hG', g1]
    iterate 24 (all_goals (try (first | (refine RegT.mk [] ?_; simp (disch := omega) only [go_sem, hD, hG', g1]) | (refine condK_split (fun h => ?_) (fun h => ?_) <;> ((try simp only [decide_eq_true_eq, decide_eq_false_iff_not, Int.not_lt, Int.not_le, Bool.not_eq_true] at h); simp (disch := omega) only [go_sem, hD, hG', g1])) | and_intros)))
    all_goals (try (first | decide | omega | (first | (intro hk; refine ⟨hk, fun h2 => ?_⟩; first | (rw [hk, h2]; rfl) | (rw [hk, decide_eq_false h2]; rfl)) | (intro hk; rw [decide_eq_false hk]; rfl) | (intro hk; rw [hk]; rfl))))
    all_goals (simp (disch := omega) only [go_sem, hD, hG', g1, unbox])
    all_goals (refine ⟨[], [], rfl, rfl, ?_, ?_⟩ <;> simp only [go_sem, noteA])
    all_goals (subst hr; clear g1 hok hP hD hG' hX; unfold tailS)
    all_goals grind [note0]
  exact hcon _ rfl
end Go.Proofs.YtmlejhpeoiicpaaGreatDoor.Ab
namespace Go.Proofs.YtmlejhpeoiicpaaGreatDoor.Ab
open Go Go.RowKit
set_option linter.unusedVariables false
set_option linter.unusedSimpArgs false

def eFrame : Ent Tryz.prog D := ⟨132, List UInt8, fun l => [.sl 1 (l.map byteRow)], fun l => l.length ≤ 8388608, fun l => ⟨.tup [.sl 1 ((frameS l).1.map byteRow), .int .i64 (frameS l).2.1, .int .i64 (frameS l).2.2], []⟩, fun x y _ _ h => by
  simp only [List.cons.injEq, AV.sl.injEq, true_and, and_true] at h
  rw [bytes_inj h], con_frame⟩
def eFrget : Ent Tryz.prog D := ⟨133, List UInt8, fun l => [.sl 1 (l.map byteRow)], fun l => 4 ≤ l.length ∧ l.length ≤ 8388608, fun l => ⟨.int .i64 (getS l), []⟩, fun x y _ _ h => by
  simp only [List.cons.injEq, AV.sl.injEq, true_and, and_true] at h
  rw [bytes_inj h], fun l h => con_frget l h.1 h.2⟩
def eTail : Ent Tryz.prog D := ⟨134, List UInt8 × Bool, fun x => [.sl 1 (x.1.map byteRow), .bool x.2], fun x => x.1.length ≤ 4194304, fun x => ⟨.tup [noteA (tailS x.1 x.2).1, .int .i64 (tailS x.1 x.2).2], []⟩, fun x y _ _ h => by
  obtain ⟨a, b⟩ := x
  obtain ⟨c, d⟩ := y
  simp only [List.cons.injEq, AV.sl.injEq, AV.bool.injEq, true_and, and_true] at h
  rw [bytes_inj h.1, h.2], fun x h => con_tail x.1 x.2 h⟩
def eFrwrong : Ent Tryz.prog D := ⟨79, LSay, fun x => [sayA x], fun s => s.note.Fits, fun x => ⟨.int .i64 (wrongSayS x), []⟩, fun x y _ _ h => by
  simp only [List.cons.injEq, and_true] at h
  rw [sayA_inj h], con_frwrong⟩
def ask0 : LAsk := ⟨0, ⟨#[]⟩, 0, note0⟩
def say0 : LSay := ⟨0, 0, 0, 0, note0⟩
/-- the ask that stands in a frame -/
def askIn (i : List UInt8) : LAsk := ⟨(i.getD 0 0).toNat, ⟨⟨(i.take (2 + (i.getD 1 0).toNat)).drop 2⟩⟩, getS (i.drop (2 + (i.getD 1 0).toNat)), (tailS (i.drop (6 + (i.getD 1 0).toNat)) (decide ((i.getD 0 0).toNat = 4))).1⟩
def askP (l : List UInt8) : LAsk × Int × Int :=
  if (frameS l).2.2 ≠ 0 then (ask0, 0, (frameS l).2.2)
  else if (frameS l).1.length < 6 + ((frameS l).1.getD 1 0).toNat then (ask0, 0, 2)
  else if (tailS ((frameS l).1.drop (6 + ((frameS l).1.getD 1 0).toNat)) (decide (((frameS l).1.getD 0 0).toNat = 4))).2 ≠ 0 then (ask0, 0, 2)
  else if wrongAskS (askIn (frameS l).1) ≠ 0 then (ask0, 0, wrongAskS (askIn (frameS l).1))
  else (askIn (frameS l).1, (frameS l).2.1, 0)
theorem frameS_len (l : List UInt8) : (frameS l).1.length ≤ 398 := by
  unfold frameS
  split
  · simp
  split
  · simp
  split
  · simp
  · simp only [List.length_drop, List.length_take]; omega
theorem tail_two (l : List UInt8) (b : Bool) : (tailS l b).2 = 0 ∨ (tailS l b).2 = 2 := by
  unfold tailS
  split
  · split
    · exact .inr rfl
    · exact .inl rfl
  · split
    · exact .inr rfl
    · exact .inl rfl
theorem tail_fits (l : List UInt8) (b : Bool) : (tailS l b).1.Fits := by
  unfold tailS
  split
  · split <;> exact fits_zero
  · split
    · exact fits_zero
    · exact fits_parse l
theorem askIn_fits (i : List UInt8) (h : i.length ≤ 398) : (askIn i).Fits := by
  refine ⟨?_, tail_fits _ _⟩
  show ((i.take _).drop 2).toArray.size ≤ _
  simp only [List.size_toArray, List.length_drop, List.length_take]
  omega
def askLo : Nat → Lo := fun id => match id with | 7 => {uo := [14], un := [9], ex := [13]} | 8 => {uo := [12], un := [9], ex := [4, 5, 6, 7, 8, 9, 11]} | _ => {}
set_option maxRecDepth 100000 in
theorem con_ask (l : List UInt8) (hl : l.length ≤ 4194304) : Con Tryz.prog D 106 [.sl 1 (l.map byteRow)] ⟨.tup [askA (askP l).1, .int .i64 (askP l).2.1, .int .i64 (askP l).2.2], []⟩ := by
  have hok : GOk Tryz.prog D (tabG [eFrame, eFrget, eTail, eWrongask]) := tabG_ok _
  have g1 : tabG [eFrame, eFrget, eTail, eWrongask] 132 [.sl 1 (l.map byteRow)] = some ⟨.tup [.sl 1 ((frameS l).1.map byteRow), .int .i64 (frameS l).2.1, .int .i64 (frameS l).2.2], []⟩ := tabG_at (E := eFrame) (T := [eFrame, eFrget, eTail, eWrongask]) (i := 0) rfl (by decide) l (show l.length ≤ 8388608 by omega) rfl rfl
  have g2 : ∀ m : List UInt8, 4 ≤ m.length → m.length ≤ 8388608 → tabG [eFrame, eFrget, eTail, eWrongask] 133 [.sl 1 (m.map byteRow)] = some ⟨.int .i64 (getS m), []⟩ := fun m h h' => tabG_at (E := eFrget) (T := [eFrame, eFrget, eTail, eWrongask]) (i := 1) rfl (by decide) m ⟨h, h'⟩ rfl rfl
  have g3 : ∀ (m : List UInt8) (b : Bool), m.length ≤ 4194304 → tabG [eFrame, eFrget, eTail, eWrongask] 134 [.sl 1 (m.map byteRow), .bool b] = some ⟨.tup [noteA (tailS m b).1, .int .i64 (tailS m b).2], []⟩ := fun m b h => tabG_at (E := eTail) (T := [eFrame, eFrget, eTail, eWrongask]) (i := 2) rfl (by decide) (m, b) h rfl rfl
  have g4 : ∀ a : LAsk, a.Fits → tabG [eFrame, eFrget, eTail, eWrongask] 74 [askA a] = some ⟨.int .i64 (wrongAskS a), []⟩ := fun a h => tabG_at (E := eWrongask) (T := [eFrame, eFrget, eTail, eWrongask]) (i := 3) rfl (by decide) a h rfl rfl
  have hfl := frameS_len l
  have g5 := g4 _ (askIn_fits _ hfl)
  clear g4
  generalize tabG [eFrame, eFrget, eTail, eWrongask] = G at *
  simp only [noteA, askA, askIn] at g1 g2 g3 g5
  have hcon : ∀ r, r = askP l → Con Tryz.prog D 106 [.sl 1 (l.map byteRow)] ⟨.tup [askA r.1, .int .i64 r.2.1, .int .i64 r.2.2], []⟩ := by
    intro r hr
    refine con_of (G := G) (rs := [(2, some 27), (3, none), (4, none)]) mixed tok hok Tryz.func106 rfl (by decide) Tryz.results106 (by decide) rfl Tryz.ntmps106 (by simp) (by simp [namess, names]) fun X hP hD hG' hX => evC_sound hX askLo _ _ _ ?_
    simp only [argS, num]
    unfold askP at hr
    generalize frameS l = f at *
    obtain ⟨i, n, e⟩ := f
    simp only at hr g1 g5 hfl
    have ha := (i.getD 0 0).toNat_lt
    have hb := (i.getD 1 0).toNat_lt
    simp (disch := ((try simp only [List.length_drop, List.length_take, List.length_append, List.length_cons, List.length_nil, List.length_map]); omega)) only [go_sem, Nat.reduceLeDiff, reduceCtorEq, Nat.reduceAdd, Nat.reduceSub, Nat.reduceMul, Nat.reduceLT, Nat.reduceEqDiff, Int.reduceEq, Int.reduceLE, Int.reduceLT, Int.reducePow, Int.reduceMul, Int.reduceToNat, Int.reduceNeg, ↓reduceIte, ← List.map_take, ← List.map_drop, hD, hG', askLo, g1, g2, g3, g5]
    refine condK_split (fun h => ?_) (fun h => ?_)
    · simp (disch := ((try simp only [List.length_drop, List.length_take, List.length_append, List.length_cons, List.length_nil, List.length_map]); omega)) only [go_sem, Nat.reduceLeDiff, reduceCtorEq, Nat.reduceAdd, Nat.reduceSub, Nat.reduceMul, Nat.reduceLT, Nat.reduceEqDiff, Int.reduceEq, Int.reduceLE, Int.reduceLT, Int.reducePow, Int.reduceMul, Int.reduceToNat, Int.reduceNeg, ↓reduceIte, ← List.map_take, ← List.map_drop, hD, hG', askLo, g1, g2, g3, g5, unbox]
      refine ⟨[], [], rfl, rfl, ?_, ?_⟩ <;> simp only [freeze_nil, freeze_cons, mapT, mapB, mapL, gone, fz, fzs, plain, rowsAt, List.cons_append, List.nil_append, covT, covB, covBlk, cov, covs, keys, get, blk, jn, subs, mem, names, namess, Option.map_some, Option.map_none, Option.getD_some, Option.getD_none, resS, resT, resT.resT', ownS, Nat.reduceEqDiff, ↓reduceIte, if_true, if_false, and_true, true_and, and_self, Nat.reduceAdd, List.map_cons, List.map_nil, ite_true, ite_false, reduceCtorEq, noteA, askA]
      clear g1 g2 g3 g5 hok hP hD hG' hX
      grind [ask0, note0]
    have he : e = 0 := by simpa using h
    subst he
    by_cases h6 : i.length < 6
    · have hd6 : decide ((i.length : Int) < 6) = true := by simp; omega
      simp (disch := ((try simp only [List.length_drop, List.length_take, List.length_append, List.length_cons, List.length_nil, List.length_map]); omega)) only [go_sem, Nat.reduceLeDiff, reduceCtorEq, Nat.reduceAdd, Nat.reduceSub, Nat.reduceMul, Nat.reduceLT, Nat.reduceEqDiff, Int.reduceEq, Int.reduceLE, Int.reduceLT, Int.reducePow, Int.reduceMul, Int.reduceToNat, Int.reduceNeg, ↓reduceIte, ← List.map_take, ← List.map_drop, hD, hG', askLo, g1, hd6]
      refine RegT.mk [(3, false)] ?_
      simp (disch := ((try simp only [List.length_drop, List.length_take, List.length_append, List.length_cons, List.length_nil, List.length_map]); omega)) only [go_sem, Nat.reduceLeDiff, reduceCtorEq, Nat.reduceAdd, Nat.reduceSub, Nat.reduceMul, Nat.reduceLT, Nat.reduceEqDiff, Int.reduceEq, Int.reduceLE, Int.reduceLT, Int.reducePow, Int.reduceMul, Int.reduceToNat, Int.reduceNeg, ↓reduceIte, ← List.map_take, ← List.map_drop, hD, hG', askLo, g1, hd6, byteGet, wrap_byte, unbox]
      refine ⟨[], [], rfl, rfl, ?_, ?_⟩ <;> simp only [freeze_nil, freeze_cons, mapT, mapB, mapL, gone, fz, fzs, plain, rowsAt, List.cons_append, List.nil_append, covT, covB, covBlk, cov, covs, keys, get, blk, jn, subs, mem, names, namess, Option.map_some, Option.map_none, Option.getD_some, Option.getD_none, resS, resT, resT.resT', ownS, Nat.reduceEqDiff, ↓reduceIte, if_true, if_false, and_true, true_and, and_self, Nat.reduceAdd, List.map_cons, List.map_nil, ite_true, ite_false, reduceCtorEq, noteA, askA]
      clear g1 g2 g3 g5 hok hP hD hG' hX
      rw [hr, if_neg (by decide), if_pos (by omega)]
      simp [ask0, note0]
    have hd6 : decide ((i.length : Int) < 6) = false := by simp; omega
    have t2 : (2 + ((i.getD 1 0).toNat : Int)).toNat = 2 + (i.getD 1 0).toNat := by omega
    have t6 : (2 + ((i.getD 1 0).toNat : Int) + 4).toNat = 6 + (i.getD 1 0).toNat := by omega
    have hkb : (((i.getD 0 0).toNat : Int) == 4) = decide ((i.getD 0 0).toNat = 4) := by rw [Bool.eq_iff_iff]; simp; omega
    simp (disch := ((try simp only [List.length_drop, List.length_take, List.length_append, List.length_cons, List.length_nil, List.length_map]); omega)) only [go_sem, Nat.reduceLeDiff, reduceCtorEq, Nat.reduceAdd, Nat.reduceSub, Nat.reduceMul, Nat.reduceLT, Nat.reduceEqDiff, Int.reduceEq, Int.reduceLE, Int.reduceLT, Int.reducePow, Int.reduceMul, Int.reduceToNat, Int.reduceNeg, ↓reduceIte, ← List.map_take, ← List.map_drop, hD, hG', askLo, g1, hd6]
    refine RegT.mk [] ?_
    simp (disch := ((try simp only [List.length_drop, List.length_take, List.length_append, List.length_cons, List.length_nil, List.length_map]); omega)) only [go_sem, Nat.reduceLeDiff, reduceCtorEq, Nat.reduceAdd, Nat.reduceSub, Nat.reduceMul, Nat.reduceLT, Nat.reduceEqDiff, Int.reduceEq, Int.reduceLE, Int.reduceLT, Int.reducePow, Int.reduceMul, Int.reduceToNat, Int.reduceNeg, ↓reduceIte, ← List.map_take, ← List.map_drop, hD, hG', askLo, g1, hd6, byteGet, wrap_byte]
    refine ⟨by omega, condK_split (fun h => ?_) (fun h => ?_)⟩
    · simp (disch := ((try simp only [List.length_drop, List.length_take, List.length_append, List.length_cons, List.length_nil, List.length_map]); omega)) only [go_sem, Nat.reduceLeDiff, reduceCtorEq, Nat.reduceAdd, Nat.reduceSub, Nat.reduceMul, Nat.reduceLT, Nat.reduceEqDiff, Int.reduceEq, Int.reduceLE, Int.reduceLT, Int.reducePow, Int.reduceMul, Int.reduceToNat, Int.reduceNeg, ↓reduceIte, ← List.map_take, ← List.map_drop, hD, hG', askLo, g1, hd6, byteGet, wrap_byte, unbox]
      refine ⟨[], [], rfl, rfl, ?_, ?_⟩ <;> simp only [freeze_nil, freeze_cons, mapT, mapB, mapL, gone, fz, fzs, plain, rowsAt, List.cons_append, List.nil_append, covT, covB, covBlk, cov, covs, keys, get, blk, jn, subs, mem, names, namess, Option.map_some, Option.map_none, Option.getD_some, Option.getD_none, resS, resT, resT.resT', ownS, Nat.reduceEqDiff, ↓reduceIte, if_true, if_false, and_true, true_and, and_self, Nat.reduceAdd, List.map_cons, List.map_nil, ite_true, ite_false, reduceCtorEq, noteA, askA]
      clear g1 g2 g3 g5 hok hP hD hG' hX
      rw [decide_eq_true_eq] at h
      rw [hr, if_neg (by decide), if_pos (by omega)]
      simp [ask0, note0]
    rw [decide_eq_false_iff_not] at h
    simp (disch := ((try simp only [List.length_drop, List.length_take, List.length_append, List.length_cons, List.length_nil, List.length_map]); omega)) only [go_sem, Nat.reduceLeDiff, reduceCtorEq, Nat.reduceAdd, Nat.reduceSub, Nat.reduceMul, Nat.reduceLT, Nat.reduceEqDiff, Int.reduceEq, Int.reduceLE, Int.reduceLT, Int.reducePow, Int.reduceMul, Int.reduceToNat, Int.reduceNeg, ↓reduceIte, ← List.map_take, ← List.map_drop, hD, hG', askLo, g1, g2, g3, g5, byteGet, wrap_byte, t2, t6, hkb, List.take_length]
    ((try and_intros); all_goals (try first | omega | decide | (simp; done) | (simp only [List.length_append, List.length_cons, List.length_nil, List.length_map]; omega)))
    iterate 24 (all_goals (try (first | (refine RegT.mk [] ?_; simp (disch := ((try simp only [List.length_drop, List.length_take, List.length_append, List.length_cons, List.length_nil, List.length_map]); omega)) only [go_sem, Nat.reduceLeDiff, reduceCtorEq, Nat.reduceAdd, Nat.reduceSub, Nat.reduceMul, Nat.reduceLT, Nat.reduceEqDiff, Int.reduceEq, Int.reduceLE, Int.reduceLT, Int.reducePow, Int.reduceMul, Int.reduceToNat, Int.reduceNeg, ↓reduceIte, ← List.map_take, ← List.map_drop, hD, hG', askLo, g5]) | (refine condK_split (fun h => ?_) (fun h => ?_) <;> ((try simp only [decide_eq_true_eq, decide_eq_false_iff_not, Int.not_lt, Int.not_le, Bool.not_eq_true] at h); simp (disch := ((try simp only [List.length_drop, List.length_take, List.length_append, List.length_cons, List.length_nil, List.length_map]); omega)) only [go_sem, Nat.reduceLeDiff, reduceCtorEq, Nat.reduceAdd, Nat.reduceSub, Nat.reduceMul, Nat.reduceLT, Nat.reduceEqDiff, Int.reduceEq, Int.reduceLE, Int.reduceLT, Int.reducePow, Int.reduceMul, Int.reduceToNat, Int.reduceNeg, ↓reduceIte, ← List.map_take, ← List.map_drop, hD, hG', askLo, g5])) | and_intros)))
    all_goals (try (first | decide | omega | (first | (intro hk; refine ⟨hk, fun h2 => ?_⟩; first | (rw [hk, h2]; rfl) | (rw [hk, decide_eq_false h2]; rfl)) | (intro hk; rw [decide_eq_false hk]; rfl) | (intro hk; rw [hk]; rfl))))
    all_goals (simp (disch := ((try simp only [List.length_drop, List.length_take, List.length_append, List.length_cons, List.length_nil, List.length_map]); omega)) only [go_sem, Nat.reduceLeDiff, reduceCtorEq, Nat.reduceAdd, Nat.reduceSub, Nat.reduceMul, Nat.reduceLT, Nat.reduceEqDiff, Int.reduceEq, Int.reduceLE, Int.reduceLT, Int.reducePow, Int.reduceMul, Int.reduceToNat, Int.reduceNeg, ↓reduceIte, ← List.map_take, ← List.map_drop, hD, hG', askLo, g5, unbox])
    all_goals (refine ⟨[], [], rfl, rfl, ?_, ?_⟩ <;> simp only [freeze_nil, freeze_cons, mapT, mapB, mapL, gone, fz, fzs, plain, rowsAt, List.cons_append, List.nil_append, covT, covB, covBlk, cov, covs, keys, get, blk, jn, subs, mem, names, namess, Option.map_some, Option.map_none, Option.getD_some, Option.getD_none, resS, resT, resT.resT', ownS, Nat.reduceEqDiff, ↓reduceIte, if_true, if_false, and_true, true_and, and_self, Nat.reduceAdd, List.map_cons, List.map_nil, ite_true, ite_false, reduceCtorEq, noteA, askA])
    all_goals clear g1 g2 g3 g5 hok hP hD hG' hX
    all_goals (rw [if_neg (by decide), if_neg (by omega)] at hr)
    all_goals (have htl := tail_two (i.drop (6 + (i.getD 1 0).toNat)) (decide ((i.getD 0 0).toNat = 4)))
    all_goals (simp only [askIn] at hr)
    all_goals (clear t2 t6 hkb hd6 h6 hb ha hfl hl)
    all_goals grind [ask0, note0]
  exact hcon _ rfl
end Go.Proofs.YtmlejhpeoiicpaaGreatDoor.Ab
namespace Go.Proofs.YtmlejhpeoiicpaaGreatDoor.Ab
open Go Go.RowKit
set_option linter.unusedVariables false
set_option linter.unusedSimpArgs false

end Go.Proofs.YtmlejhpeoiicpaaGreatDoor.Ab
namespace Go.Proofs.YtmlejhpeoiicpaaGreatDoor.Ab
open Go Go.RowKit
set_option linter.unusedVariables false
set_option linter.unusedSimpArgs false

/-- the answer that stands in a frame -/
def sayIn (i : List UInt8) : LSay := ⟨(i.getD 0 0).toNat, getS (i.drop 1), (i.getD 5 0).toNat, (i.getD 6 0).toNat, (tailS (i.drop 7) (decide ((i.getD 0 0).toNat = 2))).1⟩
def sayP (l : List UInt8) : LSay × Int × Int :=
  if (frameS l).2.2 ≠ 0 then (say0, 0, (frameS l).2.2)
  else if (frameS l).1.length < 7 then (say0, 0, 2)
  else if (tailS ((frameS l).1.drop 7) (decide (((frameS l).1.getD 0 0).toNat = 2))).2 ≠ 0 then (say0, 0, 2)
  else if wrongSayS (sayIn (frameS l).1) ≠ 0 then (say0, 0, wrongSayS (sayIn (frameS l).1))
  else (sayIn (frameS l).1, (frameS l).2.1, 0)
def sayLo : Nat → Lo := fun id => match id with | 6 => {uo := [17], un := [8], ex := [16]} | 7 => {uo := [10], un := [8], ex := [2, 3, 4, 5, 6, 7, 9]} | _ => {}
set_option maxRecDepth 100000 in
theorem con_say (l : List UInt8) (hl : l.length ≤ 4194304) : Con Tryz.prog D 108 [.sl 1 (l.map byteRow)] ⟨.tup [sayA (sayP l).1, .int .i64 (sayP l).2.1, .int .i64 (sayP l).2.2], []⟩ := by
  have hok : GOk Tryz.prog D (tabG [eFrame, eFrget, eTail, eFrwrong]) := tabG_ok _
  have g1 : tabG [eFrame, eFrget, eTail, eFrwrong] 132 [.sl 1 (l.map byteRow)] = some ⟨.tup [.sl 1 ((frameS l).1.map byteRow), .int .i64 (frameS l).2.1, .int .i64 (frameS l).2.2], []⟩ := tabG_at (E := eFrame) (T := [eFrame, eFrget, eTail, eFrwrong]) (i := 0) rfl (by decide) l (show l.length ≤ 8388608 by omega) rfl rfl
  have g2 : ∀ m : List UInt8, 4 ≤ m.length → m.length ≤ 8388608 → tabG [eFrame, eFrget, eTail, eFrwrong] 133 [.sl 1 (m.map byteRow)] = some ⟨.int .i64 (getS m), []⟩ := fun m h h' => tabG_at (E := eFrget) (T := [eFrame, eFrget, eTail, eFrwrong]) (i := 1) rfl (by decide) m ⟨h, h'⟩ rfl rfl
  have g3 : ∀ (m : List UInt8) (b : Bool), m.length ≤ 4194304 → tabG [eFrame, eFrget, eTail, eFrwrong] 134 [.sl 1 (m.map byteRow), .bool b] = some ⟨.tup [noteA (tailS m b).1, .int .i64 (tailS m b).2], []⟩ := fun m b h => tabG_at (E := eTail) (T := [eFrame, eFrget, eTail, eFrwrong]) (i := 2) rfl (by decide) (m, b) h rfl rfl
  have g4 : ∀ a : LSay, a.note.Fits → tabG [eFrame, eFrget, eTail, eFrwrong] 79 [sayA a] = some ⟨.int .i64 (wrongSayS a), []⟩ := fun a h => tabG_at (E := eFrwrong) (T := [eFrame, eFrget, eTail, eFrwrong]) (i := 3) rfl (by decide) a h rfl rfl
  have hfl := frameS_len l
  have g5 := g4 (sayIn (frameS l).1) (tail_fits _ _)
  clear g4
  generalize tabG [eFrame, eFrget, eTail, eFrwrong] = G at *
  simp only [noteA, sayA, sayIn] at g1 g2 g3 g5
  have hcon : ∀ r, r = sayP l → Con Tryz.prog D 108 [.sl 1 (l.map byteRow)] ⟨.tup [sayA r.1, .int .i64 r.2.1, .int .i64 r.2.2], []⟩ := by
    intro r hr
    refine con_of (G := G) (rs := [(2, some 30), (3, none), (4, none)]) mixed tok hok Tryz.func108 rfl (by decide) Tryz.results108 (by decide) rfl Tryz.ntmps108 (by simp) (by simp [namess, names]) fun X hP hD hG' hX => evC_sound hX sayLo _ _ _ ?_
    simp only [argS, num]
    unfold sayP at hr
    generalize frameS l = f at *
    obtain ⟨i, n, e⟩ := f
    simp only at hr g1 g5 hfl
    have ha := (i.getD 0 0).toNat_lt
    have hb := (i.getD 1 0).toNat_lt
    simp (disch := ((try simp only [List.length_drop, List.length_take, List.length_append, List.length_cons, List.length_nil, List.length_map]); omega)) only [go_sem, Nat.reduceLeDiff, reduceCtorEq, Nat.reduceAdd, Nat.reduceSub, Nat.reduceMul, Nat.reduceLT, Nat.reduceEqDiff, Int.reduceEq, Int.reduceLE, Int.reduceLT, Int.reducePow, Int.reduceMul, Int.reduceToNat, Int.reduceNeg, ↓reduceIte, ← List.map_take, ← List.map_drop, hD, hG', sayLo, g1, g2, g3, g5]
    refine condK_split (fun h => ?_) (fun h => ?_)
    · simp (disch := ((try simp only [List.length_drop, List.length_take, List.length_append, List.length_cons, List.length_nil, List.length_map]); omega)) only [go_sem, Nat.reduceLeDiff, reduceCtorEq, Nat.reduceAdd, Nat.reduceSub, Nat.reduceMul, Nat.reduceLT, Nat.reduceEqDiff, Int.reduceEq, Int.reduceLE, Int.reduceLT, Int.reducePow, Int.reduceMul, Int.reduceToNat, Int.reduceNeg, ↓reduceIte, ← List.map_take, ← List.map_drop, hD, hG', sayLo, g1, g2, g3, g5, unbox]
      refine ⟨[], [], rfl, rfl, ?_, ?_⟩ <;> simp only [freeze_nil, freeze_cons, mapT, mapB, mapL, gone, fz, fzs, plain, rowsAt, List.cons_append, List.nil_append, covT, covB, covBlk, cov, covs, keys, get, blk, jn, subs, mem, names, namess, Option.map_some, Option.map_none, Option.getD_some, Option.getD_none, resS, resT, resT.resT', ownS, Nat.reduceEqDiff, ↓reduceIte, if_true, if_false, and_true, true_and, and_self, Nat.reduceAdd, List.map_cons, List.map_nil, ite_true, ite_false, reduceCtorEq, noteA, sayA]
      clear g1 g2 g3 g5 hok hP hD hG' hX
      grind [say0, note0]
    have he : e = 0 := by simpa using h
    subst he
    have hkb : (((i.getD 0 0).toNat : Int) == 2) = decide ((i.getD 0 0).toNat = 2) := by rw [Bool.eq_iff_iff]; simp; omega
    have t1 : (1 : Int).toNat = 1 := rfl
    have t7 : (7 : Int).toNat = 7 := rfl
    simp (disch := ((try simp only [List.length_drop, List.length_take, List.length_append, List.length_cons, List.length_nil, List.length_map]); omega)) only [go_sem, Nat.reduceLeDiff, reduceCtorEq, Nat.reduceAdd, Nat.reduceSub, Nat.reduceMul, Nat.reduceLT, Nat.reduceEqDiff, Int.reduceEq, Int.reduceLE, Int.reduceLT, Int.reducePow, Int.reduceMul, Int.reduceToNat, Int.reduceNeg, ↓reduceIte, ← List.map_take, ← List.map_drop, hD, hG', sayLo, g1, byteGet, wrap_byte]
    refine condK_split (fun h => ?_) (fun h => ?_)
    · simp (disch := ((try simp only [List.length_drop, List.length_take, List.length_append, List.length_cons, List.length_nil, List.length_map]); omega)) only [go_sem, Nat.reduceLeDiff, reduceCtorEq, Nat.reduceAdd, Nat.reduceSub, Nat.reduceMul, Nat.reduceLT, Nat.reduceEqDiff, Int.reduceEq, Int.reduceLE, Int.reduceLT, Int.reducePow, Int.reduceMul, Int.reduceToNat, Int.reduceNeg, ↓reduceIte, ← List.map_take, ← List.map_drop, hD, hG', sayLo, g1, byteGet, wrap_byte, unbox]
      refine ⟨[], [], rfl, rfl, ?_, ?_⟩ <;> simp only [freeze_nil, freeze_cons, mapT, mapB, mapL, gone, fz, fzs, plain, rowsAt, List.cons_append, List.nil_append, covT, covB, covBlk, cov, covs, keys, get, blk, jn, subs, mem, names, namess, Option.map_some, Option.map_none, Option.getD_some, Option.getD_none, resS, resT, resT.resT', ownS, Nat.reduceEqDiff, ↓reduceIte, if_true, if_false, and_true, true_and, and_self, Nat.reduceAdd, List.map_cons, List.map_nil, ite_true, ite_false, reduceCtorEq, noteA, sayA]
      clear g1 g2 g3 g5 hok hP hD hG' hX
      rw [decide_eq_true_eq] at h
      rw [hr, if_neg (by decide), if_pos (by omega)]
      simp [say0, note0]
    rw [decide_eq_false_iff_not] at h
    simp (disch := ((try simp only [List.length_drop, List.length_take, List.length_append, List.length_cons, List.length_nil, List.length_map]); omega)) only [go_sem, Nat.reduceLeDiff, reduceCtorEq, Nat.reduceAdd, Nat.reduceSub, Nat.reduceMul, Nat.reduceLT, Nat.reduceEqDiff, Int.reduceEq, Int.reduceLE, Int.reduceLT, Int.reducePow, Int.reduceMul, Int.reduceToNat, Int.reduceNeg, ↓reduceIte, ← List.map_take, ← List.map_drop, hD, hG', sayLo, g1, g2, g3, g5, byteGet, wrap_byte, t1, t7, hkb, List.take_length]
    ((try and_intros); all_goals (try first | omega | decide | (simp; done) | (simp only [List.length_append, List.length_cons, List.length_nil, List.length_map]; omega)))
    iterate 24 (all_goals (try (first | (refine RegT.mk [] ?_; simp (disch := ((try simp only [List.length_drop, List.length_take, List.length_append, List.length_cons, List.length_nil, List.length_map]); omega)) only [go_sem, Nat.reduceLeDiff, reduceCtorEq, Nat.reduceAdd, Nat.reduceSub, Nat.reduceMul, Nat.reduceLT, Nat.reduceEqDiff, Int.reduceEq, Int.reduceLE, Int.reduceLT, Int.reducePow, Int.reduceMul, Int.reduceToNat, Int.reduceNeg, ↓reduceIte, ← List.map_take, ← List.map_drop, hD, hG', sayLo, g5]) | (refine condK_split (fun h => ?_) (fun h => ?_) <;> ((try simp only [decide_eq_true_eq, decide_eq_false_iff_not, Int.not_lt, Int.not_le, Bool.not_eq_true] at h); simp (disch := ((try simp only [List.length_drop, List.length_take, List.length_append, List.length_cons, List.length_nil, List.length_map]); omega)) only [go_sem, Nat.reduceLeDiff, reduceCtorEq, Nat.reduceAdd, Nat.reduceSub, Nat.reduceMul, Nat.reduceLT, Nat.reduceEqDiff, Int.reduceEq, Int.reduceLE, Int.reduceLT, Int.reducePow, Int.reduceMul, Int.reduceToNat, Int.reduceNeg, ↓reduceIte, ← List.map_take, ← List.map_drop, hD, hG', sayLo, g5])) | and_intros)))
    all_goals (try (first | decide | omega | (first | (intro hk; refine ⟨hk, fun h2 => ?_⟩; first | (rw [hk, h2]; rfl) | (rw [hk, decide_eq_false h2]; rfl)) | (intro hk; rw [decide_eq_false hk]; rfl) | (intro hk; rw [hk]; rfl))))
    all_goals (simp (disch := ((try simp only [List.length_drop, List.length_take, List.length_append, List.length_cons, List.length_nil, List.length_map]); omega)) only [go_sem, Nat.reduceLeDiff, reduceCtorEq, Nat.reduceAdd, Nat.reduceSub, Nat.reduceMul, Nat.reduceLT, Nat.reduceEqDiff, Int.reduceEq, Int.reduceLE, Int.reduceLT, Int.reducePow, Int.reduceMul, Int.reduceToNat, Int.reduceNeg, ↓reduceIte, ← List.map_take, ← List.map_drop, hD, hG', sayLo, g5, unbox])
    all_goals (refine ⟨[], [], rfl, rfl, ?_, ?_⟩ <;> simp only [freeze_nil, freeze_cons, mapT, mapB, mapL, gone, fz, fzs, plain, rowsAt, List.cons_append, List.nil_append, covT, covB, covBlk, cov, covs, keys, get, blk, jn, subs, mem, names, namess, Option.map_some, Option.map_none, Option.getD_some, Option.getD_none, resS, resT, resT.resT', ownS, Nat.reduceEqDiff, ↓reduceIte, if_true, if_false, and_true, true_and, and_self, Nat.reduceAdd, List.map_cons, List.map_nil, ite_true, ite_false, reduceCtorEq, noteA, sayA])
    all_goals clear g1 g2 g3 g5 hok hP hD hG' hX
    all_goals (rw [if_neg (by decide), if_neg (by omega)] at hr)
    all_goals (have htl := tail_two (i.drop 7) (decide ((i.getD 0 0).toNat = 2)))
    all_goals (simp only [sayIn] at hr)
    all_goals (clear t1 t7 hkb hb ha hfl hl)
    all_goals grind [say0, note0]
  exact hcon _ rfl
end Go.Proofs.YtmlejhpeoiicpaaGreatDoor.Ab
namespace Go.Proofs.YtmlejhpeoiicpaaGreatDoor.Ab
open Go Go.RowKit
set_option linter.unusedVariables false
set_option linter.unusedSimpArgs false

def eAsk : Ent Tryz.prog D := ⟨106, List UInt8, fun l => [.sl 1 (l.map byteRow)], fun l => l.length ≤ 4194304, fun l => ⟨.tup [askA (askP l).1, .int .i64 (askP l).2.1, .int .i64 (askP l).2.2], []⟩, fun x y _ _ h => by
  simp only [List.cons.injEq, AV.sl.injEq, true_and, and_true] at h
  rw [bytes_inj h], con_ask⟩
def eSay : Ent Tryz.prog D := ⟨108, List UInt8, fun l => [.sl 1 (l.map byteRow)], fun l => l.length ≤ 4194304, fun l => ⟨.tup [sayA (sayP l).1, .int .i64 (sayP l).2.1, .int .i64 (sayP l).2.2], []⟩, fun x y _ _ h => by
  simp only [List.cons.injEq, AV.sl.injEq, true_and, and_true] at h
  rw [bytes_inj h], con_say⟩
def eAskbytes : Ent Tryz.prog D := ⟨107, LAsk, fun x => [askA x], fun x => wrongAskS x = 0, fun x => ⟨.os 0, [(5, 1, (framedS (askB x)).map byteRow)]⟩, fun x y _ _ h => by
  simp only [List.cons.injEq, and_true] at h
  rw [askA_inj h], con_askbytes⟩
def eSaybytes : Ent Tryz.prog D := ⟨109, LSay, fun x => [sayA x], fun x => wrongSayS x = 0, fun x => ⟨.os 0, [(5, 1, (framedS (sayB x)).map byteRow)]⟩, fun x y _ _ h => by
  simp only [List.cons.injEq, and_true] at h
  rw [sayA_inj h], con_saybytes⟩
end Go.Proofs.YtmlejhpeoiicpaaGreatDoor.Ab
namespace Go.Proofs.YtmlejhpeoiicpaaGreatDoor.Ab
open Go Go.RowKit
set_option linter.unusedVariables false
set_option linter.unusedSimpArgs false

theorem framed_len (l : List UInt8) : (framedS l).length = l.length + 2 := rfl
theorem framed_val {l : List UInt8} (h : l.length ≤ 398) : 256 * (byteI ((l.length : Int) / 256)).toNat + (byteI l.length).toNat = l.length := by
  have h1 := byteI_nat ((l.length : Int) / 256)
  have h2 := byteI_nat (l.length : Int)
  omega
theorem frame_turn {l : List UInt8} (m : List UInt8) (h : l.length ≤ 398) : frameS (framedS l ++ m) = (l, ((l.length : Int) + 2, 0)) := by
  have hv := framed_val h
  have e : framedS l ++ m = byteI ((l.length : Int) / 256) :: byteI l.length :: (l ++ m) := rfl
  rw [e]
  simp only [frameS, List.getD_cons_zero, List.getD_cons_succ, hv, List.length_cons, List.length_append]
  rw [if_neg (by omega), if_neg (by omega), if_neg (by omega)]
  have h3 : ((byteI ((l.length : Int) / 256) :: byteI l.length :: (l ++ m)).take (l.length + 2)).drop 2 = l := by simp
  rw [h3]
  congr 2
  omega
theorem frame_ok {l : List UInt8} (h : (frameS l).2.2 = 0) : 2 ≤ (frameS l).2.1 ∧ (frameS l).2.1 ≤ l.length ∧ (frameS l).2.1 ≤ 400 := by
  unfold frameS at h ⊢
  split at h
  · cases h
  split at h
  · cases h
  split at h
  · cases h
  rename_i h1 h2 h3
  rw [if_neg h1, if_neg h2, if_neg h3]
  simp only
  omega
theorem getS_app {a b : List UInt8} (h : a.length = 4) : getS (a ++ b) = getS a := by
  match a, h with
  | [x, y, z, u], _ => rfl
theorem tail_bytes {n : LNote} (h : wrongS n = 0) : tailS (bytesN n) true = (n, 0) := by
  have h1 := parse_bytes (n := n) [] h
  rw [List.append_nil] at h1
  unfold tailS
  rw [h1]
  simp
theorem say_parts {s : LSay} (h : wrongSayS s = 0) : sayIn (sayB s) = s ∧ 7 ≤ (sayB s).length ∧ (tailS ((sayB s).drop 7) (decide (((sayB s).getD 0 0).toNat = 2))).2 = 0 := by
  obtain ⟨kind, n, m, err, note⟩ := s
  obtain ⟨h1, h2, h3, h4, h5, h6, h7, h8, h9, h10⟩ := wrongSay_ok h
  simp only at h1 h2 h3 h4 h5 h6 h7 h8 h9 h10
  have hkb := byteI_nat kind
  have hmb := byteI_nat m
  have heb := byteI_nat err
  have hk0 : ((byteI kind).toNat : Int) = kind := by omega
  have hm0 : ((byteI m).toNat : Int) = m := by omega
  have he0 : ((byteI err).toNat : Int) = err := by omega
  have e2 : sayB ⟨kind, n, m, err, note⟩ = byteI kind :: (numS n ++ (byteI m :: byteI err :: (if kind = 2 then bytesN note else []))) := by simp [sayB]
  have e0 : (sayB ⟨kind, n, m, err, note⟩).getD 0 0 = byteI kind := rfl
  have e5 : (sayB ⟨kind, n, m, err, note⟩).getD 5 0 = byteI m := by rw [e2]; rfl
  have e6 : (sayB ⟨kind, n, m, err, note⟩).getD 6 0 = byteI err := by rw [e2]; rfl
  have hd : (sayB ⟨kind, n, m, err, note⟩).drop 7 = if kind = 2 then bytesN note else [] := by rw [e2]; rfl
  have ht : (sayB ⟨kind, n, m, err, note⟩).drop 1 = numS n ++ (byteI m :: byteI err :: (if kind = 2 then bytesN note else [])) := by rw [e2]; rfl
  have hk4 : decide ((byteI kind).toNat = 2) = decide (kind = 2) := by
    rw [Bool.eq_iff_iff]; simp; omega
  have htl : tailS (if kind = 2 then bytesN note else []) (decide (kind = 2)) = (note, 0) := by
    by_cases hk : kind = 2
    · simp only [hk, if_true, decide_true]; exact tail_bytes h9
    · simp only [hk, if_false, decide_false]; rw [h10 hk]; rfl
  refine ⟨?_, ?_, ?_⟩
  · unfold sayIn
    rw [e0, e5, e6, hd, ht, hk4, htl, getS_app (num4 n), getS_num (by omega) (by omega), hk0, hm0, he0]
  · rw [e2]
    simp [numS]
  · rw [e0, hd, hk4, htl]
theorem say_turn {s : LSay} (m : List UInt8) (h : wrongSayS s = 0) : sayP (framedS (sayB s) ++ m) = (s, ((framedS (sayB s)).length : Int), 0) := by
  obtain ⟨h1, h2, h3⟩ := say_parts h
  have hl := sayB_len h
  unfold sayP
  rw [frame_turn m (by omega)]
  simp only
  rw [if_neg (by decide), if_neg (by omega), if_neg (by rw [h3]; decide), h1, if_neg (by rw [h]; decide), framed_len]
  rfl
/-- what is read may be -/
theorem ask_right (l : List UInt8) : ((askP l).2.2 = 0 ∧ wrongAskS (askP l).1 = 0 ∧ 1 ≤ (askP l).2.1 ∧ (askP l).2.1 ≤ l.length ∧ (askP l).2.1 ≤ 400) ∨ ((askP l).2.2 ≠ 0 ∧ (askP l).2.1 = 0 ∧ (askP l).1 = ask0) := by
  unfold askP
  by_cases h1 : (frameS l).2.2 ≠ 0
  · rw [if_pos h1]; exact .inr ⟨h1, rfl, rfl⟩
  rw [if_neg h1]
  split
  · exact .inr ⟨by decide, rfl, rfl⟩
  split
  · exact .inr ⟨by decide, rfl, rfl⟩
  split
  · rename_i h4; exact .inr ⟨h4, rfl, rfl⟩
  · rename_i h4
    have := frame_ok (by omega : (frameS l).2.2 = 0)
    exact .inl ⟨rfl, by simpa using h4, by simp only; omega, this.2.1, this.2.2⟩
theorem say_right (l : List UInt8) : ((sayP l).2.2 = 0 ∧ wrongSayS (sayP l).1 = 0 ∧ 1 ≤ (sayP l).2.1 ∧ (sayP l).2.1 ≤ l.length ∧ (sayP l).2.1 ≤ 400) ∨ ((sayP l).2.2 ≠ 0 ∧ (sayP l).2.1 = 0 ∧ (sayP l).1 = say0) := by
  unfold sayP
  by_cases h1 : (frameS l).2.2 ≠ 0
  · rw [if_pos h1]; exact .inr ⟨h1, rfl, rfl⟩
  rw [if_neg h1]
  split
  · exact .inr ⟨by decide, rfl, rfl⟩
  split
  · exact .inr ⟨by decide, rfl, rfl⟩
  split
  · rename_i h4; exact .inr ⟨h4, rfl, rfl⟩
  · rename_i h4
    have := frame_ok (by omega : (frameS l).2.2 = 0)
    exact .inl ⟨rfl, by simpa using h4, by simp only; omega, this.2.1, this.2.2⟩
end Go.Proofs.YtmlejhpeoiicpaaGreatDoor.Ab
