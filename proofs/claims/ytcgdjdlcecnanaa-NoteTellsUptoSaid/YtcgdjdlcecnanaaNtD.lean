/-
  Chapter 1 in the evaluator: the reader of a note's bytes; what it does to its block.
  No condition but bounds on sizes.
-/
import Derived.Test.YtcgdjdlcecnanaaNtC
import Derived.Test.YtcgdjdlcecnanaaRec
namespace Go.Proofs.Ytcgdjdlcecnanaa.Ab
open Go Go.RowKit
set_option linter.unusedVariables false
set_option linter.unusedSimpArgs false

/-- n bytes off a reader: these, what is left, is it bad -/
def takeR (n : Nat) (l : List UInt8) (bad : Bool) : List UInt8 × List UInt8 × Bool :=
  if bad = true ∨ l.length < n then (List.replicate n 0, l, true) else (l.take n, l.drop n, false)
theorem takeR_len (n : Nat) (l : List UInt8) (bad : Bool) : (takeR n l bad).1.length = n := by
  unfold takeR
  split
  · simp
  · simp; omega
theorem takeR_le (n : Nat) (l : List UInt8) (bad : Bool) : (takeR n l bad).2.1.length ≤ l.length := by
  unfold takeR
  split <;> simp
def textR (l : List UInt8) (bad : Bool) : List UInt8 × List UInt8 × Bool :=
  takeR ((takeR 1 l bad).1.getD 0 0).toNat (takeR 1 l bad).2.1 (takeR 1 l bad).2.2
theorem textR_len (l : List UInt8) (bad : Bool) : (textR l bad).1.length ≤ 255 := by
  unfold textR
  rw [takeR_len]
  have := ((takeR 1 l bad).1.getD 0 0).toNat_lt
  omega
theorem textR_le (l : List UInt8) (bad : Bool) : (textR l bad).2.1.length ≤ l.length :=
  Nat.le_trans (takeR_le _ _ _) (takeR_le _ _ _)

/-- what take does -/
def takeM : MCtr := fun f args bl =>
  match args with
  | [.ptr v 0, .int .i64 n] => if f = 80 then
    match bl v with
    | some (.cells [.sl 1 rs, .bool bad]) => some { v := .sl 1 ((takeR n.toNat (bytesOf rs) bad).1.map byteRow), up := [(v, .cells [.sl 1 ((takeR n.toNat (bytesOf rs) bad).2.1.map byteRow), .bool (takeR n.toNat (bytesOf rs) bad).2.2])], pre := (0 ≤ n ∧ n ≤ 65536) ∧ isB rs ∧ rs.length ≤ 8388608 }
    | _ => none
    else none
  | _ => none
/-- what text does -/
def textM : MCtr := fun f args bl =>
  match args with
  | [.ptr v 0] => match bl v with
    | some (.cells [.sl 1 rs, .bool bad]) => some { v := .sl 1 ((textR (bytesOf rs) bad).1.map byteRow), up := [(v, .cells [.sl 1 ((textR (bytesOf rs) bad).2.1.map byteRow), .bool (textR (bytesOf rs) bad).2.2])], pre := isB rs ∧ rs.length ≤ 8388608 }
    | _ => none
  | _ => none
/-- what take and text do -/
def readerM : MCtr := fun f args bl => if f = 81 then textM f args bl else takeM f args bl

theorem unT_shT : ∀ (l : List (Nat × AV)), unT (shT l) = l
  | [] => rfl
  | (t, x) :: r => by simp [shT, unT, unT_shT r]
/-- a call of a table of effects -/
theorem mEff_call {M : MCtr} {σ : AS} {o : Oper} {e : Eff} (h : mEff M σ o = some e) (hg : o.guard = none) : ∃ dst f args types ty pos af g caps, o = ⟨dst, .call ⟨.value f, args, types⟩, ty, pos, af, none⟩ ∧ ev σ f = .func g caps ∧ M g (args.toList.map (ev σ) ++ caps) (snap σ (namess (o.op.operands.toList.map (ev σ)))) = some e := by
  obtain ⟨dst, op, ty, pos, af, gd⟩ := o
  simp only at hg
  subst hg
  unfold mEff at h
  simp only at h ⊢
  split at h
  · rename_i c
    obtain ⟨callee, args, types⟩ := c
    simp only at h ⊢
    split at h
    · rename_i f
      unfold callM at h
      split at h
      · rename_i g caps hf
        exact ⟨dst, f, args, types, ty, pos, af, g, caps, rfl, hf, h⟩
      · cases h
    · cases h
  · cases h
theorem snap_some {σ : AS} {ns : List Nat} {n : Nat} {b : Blk} (h : snap σ ns n = some b) : blk σ n = some b := by
  unfold snap at h
  split at h
  · exact h
  · cases h
set_option maxRecDepth 100000 in
theorem mok_take {G : Ctr} (hg : ∀ l : List UInt8, l.length ≤ 8388608 → G 72 [.sl 1 (l.map byteRow)] = some ⟨.sl 1 (l.map byteRow), []⟩) : MOk Try.prog D G takeM := by
  intro X hP hD hG hM hmx hT hok ops o σ e hgd he hpre hfr
  obtain ⟨dst, f, args, types, ty, pos, af, g, caps, rfl, hf, he⟩ := mEff_call he hgd
  unfold takeM at he
  split at he
  case h_2 => cases he
  rename_i v n hargs
  split at he
  case isFalse => cases he
  rename_i hg80
  subst hg80
  split at he
  case h_2 => cases he
  rename_i rs bad hbl
  have hbl := snap_some hbl
  injection he with he
  subst he
  obtain ⟨⟨hn0, hn1⟩, hB, hrl⟩ := hpre
  obtain ⟨n, rfl⟩ := Int.eq_ofNat_of_zero_le hn0
  unfold isB at hB
  rw [hB] at hbl
  generalize hl : bytesOf rs = l at *
  have hll : l.length ≤ 8388608 := by rw [← hl]; simpa [bytesOf] using hrl
  simp only [bytesOf_map, Int.toNat_natCast] at hfr ⊢
  have hX : ({ X with nb := 70000, M := noM } : Cx).Ok := MOk.ok MOk.none hP hD hG rfl hmx hT hok
  have hdst : ∀ k, dst = some k → k < σ.nt := fun k hk => by
    subst hk
    simpa [fresh, keys, unbound] using hfr
  refine inl_call (rs := [(4, none)]) (by rw [hP, hD]; exact hT) hf (by rw [hP]; exact Try.func80) rfl (by decide) Try.results80 (by decide) Try.ntmps80 (by rw [hargs]; simp) hdst 70000 noM ?_
  rw [hargs]
  refine evC_sound hX (fun _ => {}) _ _ _ ?_
  have hb0 : get v σ.bl = some (some (.cells [.sl 1 (l.map byteRow), .bool bad])) := blk_iff.1 hbl
  simp (disch := ((try simp only [List.length_drop, List.length_take, List.length_append, List.length_cons, List.length_nil, List.length_map]); omega)) only [evC_cond, evC_skip, evC_text, evC_any, evC_seq, evC_block, evC_loop, evC_exit, evC_ret, evC_label, condK_true, condK_false, thenA_normal, thenA_ret, thenA_exit, thenA_normal', inB_normal, inB_normal', inB_ret, inB_exit, regW_cons, regW_nil, stepI_some, stepI_none, regP_nil, regP_step, stepP_some, stepP_none, pairs, still, fkE, upNil, klNil, exB, upB, bcl, cleans, clean, disj, okE, opsNs, asked_some, opEff, isOff, memP, eqB, skipE, hasG, guardOf, baseE, orM, mEff, callM, noM, bsOf, blkFree, guarded, isPick, eff, ev, tmv, get, uv, ug, cellsOf, cst, jn, blk, apply, putT, freeze_nil, freeze_cons, kill_nil, kill_cons, here, gone, mapT, mapB, mapL, fresh, unbound, keys, mem, namess, names, snap, effLoad, effFieldAddr, effField, effIndexAddr, effStore, effCall, effRes, effBin, bin, effLen, effConvert, effSlice, effAppend, baseOf, tailOf, bound, osOf, isStr, isOther, good, splice, rowsOf, rowsAt, isNil, fz, fzs, osIn_nil, osIn_junk, osIn_int, osIn_bool, osIn_str, osIn_nils, osIn_sl, osIn_os, osIn_ptr, osIn_iptr, osIn_eptr, osIn_func, osIn_agg, osIn_tup, osIn_opt, ren, rens, ownBl, scalar, scalars, okRes, okRess, pick3, pickE, fillS, okN, subs, blNames, nwNames, getN, plain, valOf, isU8, goodRow, kl, kls, Op.operands, Call.operands, List.map_cons, List.map_nil, List.append_nil, List.nil_append, List.cons_append, Option.getD_some, Option.getD_none, Option.isSome_some, Option.isNone_none, Option.isSome_none, Option.isNone_some, Option.map_some, Option.map_none, Option.bind_some, Option.bind_none, Option.toList_some, Option.toList_none, Option.toArray_some, Option.toArray_none, Array.toList_append, List.toList_toArray, Nat.le_refl, Nat.reduceLeDiff, implies_true, imp_self, List.getElem?_toArray, List.getElem?_cons_zero, List.getElem?_cons_succ, List.size_toArray, Bool.and_true, Bool.true_and, Bool.and_false, Bool.false_and, Bool.or_true, Bool.true_or, Bool.or_false, Bool.false_or, Bool.not_true, Bool.not_false, and_true, true_and, and_false, false_and, and_self, eq_self, ite_self, bne_self_eq_false, beq_self_eq_true, or_true, true_or, or_false, false_or, ite_true, ite_false, ↓reduceIte, reduceCtorEq, Bool.false_eq_true, List.all_cons, List.all_nil, Nat.reduceAdd, Nat.zero_add, Nat.reduceSub, Nat.reduceMul, Nat.reduceLT, Nat.reduceEqDiff, decide_true, decide_false, List.drop_zero, List.drop_succ_cons, List.take_zero, List.take_succ_cons, List.head?_cons, List.length_cons, List.length_nil, forall_const, if_true, if_false, List.zip_cons_cons, List.zip_nil_right, List.zip_nil_left, List.getD_cons_zero, List.getD_cons_succ, List.drop_nil, List.take_nil, Int.reduceEq, Int.reduceLE, Int.reduceLT, Int.reducePow, Int.reduceMul, Int.toNat_natCast, Int.reduceToNat, Int.reduceNeg, List.length_map, decide_eq_true_eq, decide_eq_false_iff_not, bytesOf_map, isB_map, List.range_zero, range1, range2, range3, range4, range5, range6, range7, range8, ← List.map_take, ← List.map_drop, hD, hG, D_1, D_2, D_3, D_4, D_5, D_6, D_7, D_8, D_9, D_10, D_11, D_12, D_13, D_14, D_15, D_16, D_17, D_18, D_19, D_21, D_22, D_23, D_24, D_25, D_26, D_27, D_28, D_29, D_30, D_32, D_33, D_35, D_36, D_37, D_38, D_39, D_40, D_41, D_42, D_43, D_44, D_45, D_46, D_47, D_49, D_50, D_51, D_52, D_53, D_54, D_55, D_56, D_57, D_58, D_60, D_61, D_62, D_63, D_64, D_66, D_67, D_68, D_70, D_72, D_73, D_75, D_76, D_77, D_78, D_79, D_80, D_81, D_82, D_83, D_84, D_85, D_86, D_88, D_89, D_91, D_92, D_93, D_94, D_95, D_96, D_97, D_98, D_99, D_100, D_103, D_104, D_105, D_106, D_107, D_108, D_109, D_110, D_111, D_112, D_113, D_114, D_115, D_116, D_117, D_118, D_119, D_120, D_121, D_122, D_123, D_126, D_128, D_130, D_131, D_132, D_133, D_137, D_138, D_139, D_140, D_141, D_142, D_143, D_144, D_145, wrap64, wrap8, hg, hb0, enterS, leaveS, shT, unT, resA, num, unbox, Option.some.injEq, exists_eq_left', tmv]
  refine RegT.mk [] ?_
  simp (disch := ((try simp only [List.length_drop, List.length_take, List.length_append, List.length_cons, List.length_nil, List.length_map]); omega)) only [evC_cond, evC_skip, evC_text, evC_any, evC_seq, evC_block, evC_loop, evC_exit, evC_ret, evC_label, condK_true, condK_false, thenA_normal, thenA_ret, thenA_exit, thenA_normal', inB_normal, inB_normal', inB_ret, inB_exit, regW_cons, regW_nil, stepI_some, stepI_none, regP_nil, regP_step, stepP_some, stepP_none, pairs, still, fkE, upNil, klNil, exB, upB, bcl, cleans, clean, disj, okE, opsNs, asked_some, opEff, isOff, memP, eqB, skipE, hasG, guardOf, baseE, orM, mEff, callM, noM, bsOf, blkFree, guarded, isPick, eff, ev, tmv, get, uv, ug, cellsOf, cst, jn, blk, apply, putT, freeze_nil, freeze_cons, kill_nil, kill_cons, here, gone, mapT, mapB, mapL, fresh, unbound, keys, mem, namess, names, snap, effLoad, effFieldAddr, effField, effIndexAddr, effStore, effCall, effRes, effBin, bin, effLen, effConvert, effSlice, effAppend, baseOf, tailOf, bound, osOf, isStr, isOther, good, splice, rowsOf, rowsAt, isNil, fz, fzs, osIn_nil, osIn_junk, osIn_int, osIn_bool, osIn_str, osIn_nils, osIn_sl, osIn_os, osIn_ptr, osIn_iptr, osIn_eptr, osIn_func, osIn_agg, osIn_tup, osIn_opt, ren, rens, ownBl, scalar, scalars, okRes, okRess, pick3, pickE, fillS, okN, subs, blNames, nwNames, getN, plain, valOf, isU8, goodRow, kl, kls, Op.operands, Call.operands, List.map_cons, List.map_nil, List.append_nil, List.nil_append, List.cons_append, Option.getD_some, Option.getD_none, Option.isSome_some, Option.isNone_none, Option.isSome_none, Option.isNone_some, Option.map_some, Option.map_none, Option.bind_some, Option.bind_none, Option.toList_some, Option.toList_none, Option.toArray_some, Option.toArray_none, Array.toList_append, List.toList_toArray, Nat.le_refl, Nat.reduceLeDiff, implies_true, imp_self, List.getElem?_toArray, List.getElem?_cons_zero, List.getElem?_cons_succ, List.size_toArray, Bool.and_true, Bool.true_and, Bool.and_false, Bool.false_and, Bool.or_true, Bool.true_or, Bool.or_false, Bool.false_or, Bool.not_true, Bool.not_false, and_true, true_and, and_false, false_and, and_self, eq_self, ite_self, bne_self_eq_false, beq_self_eq_true, or_true, true_or, or_false, false_or, ite_true, ite_false, ↓reduceIte, reduceCtorEq, Bool.false_eq_true, List.all_cons, List.all_nil, Nat.reduceAdd, Nat.zero_add, Nat.reduceSub, Nat.reduceMul, Nat.reduceLT, Nat.reduceEqDiff, decide_true, decide_false, List.drop_zero, List.drop_succ_cons, List.take_zero, List.take_succ_cons, List.head?_cons, List.length_cons, List.length_nil, forall_const, if_true, if_false, List.zip_cons_cons, List.zip_nil_right, List.zip_nil_left, List.getD_cons_zero, List.getD_cons_succ, List.drop_nil, List.take_nil, Int.reduceEq, Int.reduceLE, Int.reduceLT, Int.reducePow, Int.reduceMul, Int.toNat_natCast, Int.reduceToNat, Int.reduceNeg, List.length_map, decide_eq_true_eq, decide_eq_false_iff_not, bytesOf_map, isB_map, List.range_zero, range1, range2, range3, range4, range5, range6, range7, range8, ← List.map_take, ← List.map_drop, hD, hG, D_1, D_2, D_3, D_4, D_5, D_6, D_7, D_8, D_9, D_10, D_11, D_12, D_13, D_14, D_15, D_16, D_17, D_18, D_19, D_21, D_22, D_23, D_24, D_25, D_26, D_27, D_28, D_29, D_30, D_32, D_33, D_35, D_36, D_37, D_38, D_39, D_40, D_41, D_42, D_43, D_44, D_45, D_46, D_47, D_49, D_50, D_51, D_52, D_53, D_54, D_55, D_56, D_57, D_58, D_60, D_61, D_62, D_63, D_64, D_66, D_67, D_68, D_70, D_72, D_73, D_75, D_76, D_77, D_78, D_79, D_80, D_81, D_82, D_83, D_84, D_85, D_86, D_88, D_89, D_91, D_92, D_93, D_94, D_95, D_96, D_97, D_98, D_99, D_100, D_103, D_104, D_105, D_106, D_107, D_108, D_109, D_110, D_111, D_112, D_113, D_114, D_115, D_116, D_117, D_118, D_119, D_120, D_121, D_122, D_123, D_126, D_128, D_130, D_131, D_132, D_133, D_137, D_138, D_139, D_140, D_141, D_142, D_143, D_144, D_145, wrap64, wrap8, hg, hb0, enterS, leaveS, shT, unT, resA, num, unbox, Option.some.injEq, exists_eq_left', tmv]
  ((try and_intros); all_goals (try first | omega | decide | (simp; done) | (simp only [List.length_append, List.length_cons, List.length_nil, List.length_map]; omega)))
  refine condK_split (fun h => ?_) (fun h => ?_)
  · simp (disch := ((try simp only [List.length_drop, List.length_take, List.length_append, List.length_cons, List.length_nil, List.length_map]); omega)) only [evC_cond, evC_skip, evC_text, evC_any, evC_seq, evC_block, evC_loop, evC_exit, evC_ret, evC_label, condK_true, condK_false, thenA_normal, thenA_ret, thenA_exit, thenA_normal', inB_normal, inB_normal', inB_ret, inB_exit, regW_cons, regW_nil, stepI_some, stepI_none, regP_nil, regP_step, stepP_some, stepP_none, pairs, still, fkE, upNil, klNil, exB, upB, bcl, cleans, clean, disj, okE, opsNs, asked_some, opEff, isOff, memP, eqB, skipE, hasG, guardOf, baseE, orM, mEff, callM, noM, bsOf, blkFree, guarded, isPick, eff, ev, tmv, get, uv, ug, cellsOf, cst, jn, blk, apply, putT, freeze_nil, freeze_cons, kill_nil, kill_cons, here, gone, mapT, mapB, mapL, fresh, unbound, keys, mem, namess, names, snap, effLoad, effFieldAddr, effField, effIndexAddr, effStore, effCall, effRes, effBin, bin, effLen, effConvert, effSlice, effAppend, baseOf, tailOf, bound, osOf, isStr, isOther, good, splice, rowsOf, rowsAt, isNil, fz, fzs, osIn_nil, osIn_junk, osIn_int, osIn_bool, osIn_str, osIn_nils, osIn_sl, osIn_os, osIn_ptr, osIn_iptr, osIn_eptr, osIn_func, osIn_agg, osIn_tup, osIn_opt, ren, rens, ownBl, scalar, scalars, okRes, okRess, pick3, pickE, fillS, okN, subs, blNames, nwNames, getN, plain, valOf, isU8, goodRow, kl, kls, Op.operands, Call.operands, List.map_cons, List.map_nil, List.append_nil, List.nil_append, List.cons_append, Option.getD_some, Option.getD_none, Option.isSome_some, Option.isNone_none, Option.isSome_none, Option.isNone_some, Option.map_some, Option.map_none, Option.bind_some, Option.bind_none, Option.toList_some, Option.toList_none, Option.toArray_some, Option.toArray_none, Array.toList_append, List.toList_toArray, Nat.le_refl, Nat.reduceLeDiff, implies_true, imp_self, List.getElem?_toArray, List.getElem?_cons_zero, List.getElem?_cons_succ, List.size_toArray, Bool.and_true, Bool.true_and, Bool.and_false, Bool.false_and, Bool.or_true, Bool.true_or, Bool.or_false, Bool.false_or, Bool.not_true, Bool.not_false, and_true, true_and, and_false, false_and, and_self, eq_self, ite_self, bne_self_eq_false, beq_self_eq_true, or_true, true_or, or_false, false_or, ite_true, ite_false, ↓reduceIte, reduceCtorEq, Bool.false_eq_true, List.all_cons, List.all_nil, Nat.reduceAdd, Nat.zero_add, Nat.reduceSub, Nat.reduceMul, Nat.reduceLT, Nat.reduceEqDiff, decide_true, decide_false, List.drop_zero, List.drop_succ_cons, List.take_zero, List.take_succ_cons, List.head?_cons, List.length_cons, List.length_nil, forall_const, if_true, if_false, List.zip_cons_cons, List.zip_nil_right, List.zip_nil_left, List.getD_cons_zero, List.getD_cons_succ, List.drop_nil, List.take_nil, Int.reduceEq, Int.reduceLE, Int.reduceLT, Int.reducePow, Int.reduceMul, Int.toNat_natCast, Int.reduceToNat, Int.reduceNeg, List.length_map, decide_eq_true_eq, decide_eq_false_iff_not, bytesOf_map, isB_map, List.range_zero, range1, range2, range3, range4, range5, range6, range7, range8, ← List.map_take, ← List.map_drop, hD, hG, D_1, D_2, D_3, D_4, D_5, D_6, D_7, D_8, D_9, D_10, D_11, D_12, D_13, D_14, D_15, D_16, D_17, D_18, D_19, D_21, D_22, D_23, D_24, D_25, D_26, D_27, D_28, D_29, D_30, D_32, D_33, D_35, D_36, D_37, D_38, D_39, D_40, D_41, D_42, D_43, D_44, D_45, D_46, D_47, D_49, D_50, D_51, D_52, D_53, D_54, D_55, D_56, D_57, D_58, D_60, D_61, D_62, D_63, D_64, D_66, D_67, D_68, D_70, D_72, D_73, D_75, D_76, D_77, D_78, D_79, D_80, D_81, D_82, D_83, D_84, D_85, D_86, D_88, D_89, D_91, D_92, D_93, D_94, D_95, D_96, D_97, D_98, D_99, D_100, D_103, D_104, D_105, D_106, D_107, D_108, D_109, D_110, D_111, D_112, D_113, D_114, D_115, D_116, D_117, D_118, D_119, D_120, D_121, D_122, D_123, D_126, D_128, D_130, D_131, D_132, D_133, D_137, D_138, D_139, D_140, D_141, D_142, D_143, D_144, D_145, wrap64, wrap8, hg, hb0, enterS, leaveS, shT, unT, resA, num, unbox, Option.some.injEq, exists_eq_left', tmv]
    have ht : takeR n l bad = (List.replicate n 0, l, true) := by
      unfold takeR
      cases bad <;> simp at h ⊢
      omega
    rw [ht, unT_shT]
    exact ⟨⟨by omega, by omega⟩, Eqv.refl _⟩
  · have hb : bad = false := by
      cases bad
      · rfl
      · simp at h
    subst hb
    have hn : n ≤ l.length := by simp at h; omega
    simp (disch := ((try simp only [List.length_drop, List.length_take, List.length_append, List.length_cons, List.length_nil, List.length_map]); omega)) only [evC_cond, evC_skip, evC_text, evC_any, evC_seq, evC_block, evC_loop, evC_exit, evC_ret, evC_label, condK_true, condK_false, thenA_normal, thenA_ret, thenA_exit, thenA_normal', inB_normal, inB_normal', inB_ret, inB_exit, regW_cons, regW_nil, stepI_some, stepI_none, regP_nil, regP_step, stepP_some, stepP_none, pairs, still, fkE, upNil, klNil, exB, upB, bcl, cleans, clean, disj, okE, opsNs, asked_some, opEff, isOff, memP, eqB, skipE, hasG, guardOf, baseE, orM, mEff, callM, noM, bsOf, blkFree, guarded, isPick, eff, ev, tmv, get, uv, ug, cellsOf, cst, jn, blk, apply, putT, freeze_nil, freeze_cons, kill_nil, kill_cons, here, gone, mapT, mapB, mapL, fresh, unbound, keys, mem, namess, names, snap, effLoad, effFieldAddr, effField, effIndexAddr, effStore, effCall, effRes, effBin, bin, effLen, effConvert, effSlice, effAppend, baseOf, tailOf, bound, osOf, isStr, isOther, good, splice, rowsOf, rowsAt, isNil, fz, fzs, osIn_nil, osIn_junk, osIn_int, osIn_bool, osIn_str, osIn_nils, osIn_sl, osIn_os, osIn_ptr, osIn_iptr, osIn_eptr, osIn_func, osIn_agg, osIn_tup, osIn_opt, ren, rens, ownBl, scalar, scalars, okRes, okRess, pick3, pickE, fillS, okN, subs, blNames, nwNames, getN, plain, valOf, isU8, goodRow, kl, kls, Op.operands, Call.operands, List.map_cons, List.map_nil, List.append_nil, List.nil_append, List.cons_append, Option.getD_some, Option.getD_none, Option.isSome_some, Option.isNone_none, Option.isSome_none, Option.isNone_some, Option.map_some, Option.map_none, Option.bind_some, Option.bind_none, Option.toList_some, Option.toList_none, Option.toArray_some, Option.toArray_none, Array.toList_append, List.toList_toArray, Nat.le_refl, Nat.reduceLeDiff, implies_true, imp_self, List.getElem?_toArray, List.getElem?_cons_zero, List.getElem?_cons_succ, List.size_toArray, Bool.and_true, Bool.true_and, Bool.and_false, Bool.false_and, Bool.or_true, Bool.true_or, Bool.or_false, Bool.false_or, Bool.not_true, Bool.not_false, and_true, true_and, and_false, false_and, and_self, eq_self, ite_self, bne_self_eq_false, beq_self_eq_true, or_true, true_or, or_false, false_or, ite_true, ite_false, ↓reduceIte, reduceCtorEq, Bool.false_eq_true, List.all_cons, List.all_nil, Nat.reduceAdd, Nat.zero_add, Nat.reduceSub, Nat.reduceMul, Nat.reduceLT, Nat.reduceEqDiff, decide_true, decide_false, List.drop_zero, List.drop_succ_cons, List.take_zero, List.take_succ_cons, List.head?_cons, List.length_cons, List.length_nil, forall_const, if_true, if_false, List.zip_cons_cons, List.zip_nil_right, List.zip_nil_left, List.getD_cons_zero, List.getD_cons_succ, List.drop_nil, List.take_nil, Int.reduceEq, Int.reduceLE, Int.reduceLT, Int.reducePow, Int.reduceMul, Int.toNat_natCast, Int.reduceToNat, Int.reduceNeg, List.length_map, decide_eq_true_eq, decide_eq_false_iff_not, bytesOf_map, isB_map, List.range_zero, range1, range2, range3, range4, range5, range6, range7, range8, ← List.map_take, ← List.map_drop, hD, hG, D_1, D_2, D_3, D_4, D_5, D_6, D_7, D_8, D_9, D_10, D_11, D_12, D_13, D_14, D_15, D_16, D_17, D_18, D_19, D_21, D_22, D_23, D_24, D_25, D_26, D_27, D_28, D_29, D_30, D_32, D_33, D_35, D_36, D_37, D_38, D_39, D_40, D_41, D_42, D_43, D_44, D_45, D_46, D_47, D_49, D_50, D_51, D_52, D_53, D_54, D_55, D_56, D_57, D_58, D_60, D_61, D_62, D_63, D_64, D_66, D_67, D_68, D_70, D_72, D_73, D_75, D_76, D_77, D_78, D_79, D_80, D_81, D_82, D_83, D_84, D_85, D_86, D_88, D_89, D_91, D_92, D_93, D_94, D_95, D_96, D_97, D_98, D_99, D_100, D_103, D_104, D_105, D_106, D_107, D_108, D_109, D_110, D_111, D_112, D_113, D_114, D_115, D_116, D_117, D_118, D_119, D_120, D_121, D_122, D_123, D_126, D_128, D_130, D_131, D_132, D_133, D_137, D_138, D_139, D_140, D_141, D_142, D_143, D_144, D_145, wrap64, wrap8, hg, hb0, enterS, leaveS, shT, unT, resA, num, unbox, Option.some.injEq, exists_eq_left', tmv]
    have ht : takeR n l false = (l.take n, l.drop n, false) := by
      unfold takeR
      rw [if_neg (by simp; omega)]
    refine ⟨⟨by omega, by omega⟩, ⟨by omega, by omega, by omega⟩, ?_⟩
    rw [ht, unT_shT, List.take_length]
    exact Eqv.refl _
set_option maxRecDepth 100000 in
theorem mok_reader {G : Ctr} (hg : ∀ l : List UInt8, l.length ≤ 8388608 → G 72 [.sl 1 (l.map byteRow)] = some ⟨.sl 1 (l.map byteRow), []⟩) (hg2 : ∀ a, G 80 a = none) : MOk Try.prog D G readerM := by
  intro X hP hD hG hM hmx hT hok ops o σ e hgd he hpre hfr
  obtain ⟨dst, f, args, types, ty, pos, af, g, caps, rfl, hf, he'⟩ := mEff_call he hgd
  unfold readerM at he'
  split at he'
  case isFalse =>
    have hin := mok_take hg { X with M := takeM } hP hD hG rfl hmx hT hok ops ⟨dst, .call ⟨.value f, args, types⟩, ty, pos, af, none⟩ σ e rfl ?_ hpre hfr
    exact ⟨fun γ a w i Qx hi hs => hin.1 γ a w i Qx hi hs⟩
    simp only [mEff, callM, hf]
    exact he'
  rename_i hg81
  subst hg81
  unfold textM at he'
  split at he'
  case h_2 => cases he'
  rename_i v hargs
  split at he'
  case h_2 => cases he'
  rename_i rs bad hbl
  have hbl := snap_some hbl
  injection he' with he'
  subst he'
  obtain ⟨hB, hrl⟩ := hpre
  unfold isB at hB
  rw [hB] at hbl
  generalize hl : bytesOf rs = l at *
  have hll : l.length ≤ 8388608 := by rw [← hl]; simpa [bytesOf] using hrl
  simp only [bytesOf_map] at hfr ⊢
  have hX : ({ X with nb := 70000, M := takeM } : Cx).Ok := MOk.ok (mok_take hg) hP hD hG rfl hmx hT hok
  have hdst : ∀ k, dst = some k → k < σ.nt := fun k hk => by
    subst hk
    simpa [fresh, keys, unbound] using hfr
  refine inl_call (rs := [(2, none)]) (by rw [hP, hD]; exact hT) hf (by rw [hP]; exact Try.func81) rfl (by decide) Try.results81 (by decide) Try.ntmps81 (by rw [hargs]; simp) hdst 70000 takeM ?_
  rw [hargs]
  refine evC_sound hX (fun _ => {}) _ _ _ ?_
  have hb0 : get v σ.bl = some (some (.cells [.sl 1 (l.map byteRow), .bool bad])) := blk_iff.1 hbl
  have t1 := takeR_len 1 l bad
  have t2 := takeR_le 1 l bad
  simp (disch := ((try simp only [List.length_drop, List.length_take, List.length_append, List.length_cons, List.length_nil, List.length_map]); omega)) only [evC_cond, evC_skip, evC_text, evC_any, evC_seq, evC_block, evC_loop, evC_exit, evC_ret, evC_label, condK_true, condK_false, thenA_normal, thenA_ret, thenA_exit, thenA_normal', inB_normal, inB_normal', inB_ret, inB_exit, regW_cons, regW_nil, stepI_some, stepI_none, regP_nil, regP_step, stepP_some, stepP_none, pairs, still, fkE, upNil, klNil, exB, upB, bcl, cleans, clean, disj, okE, opsNs, asked_some, opEff, isOff, memP, eqB, skipE, hasG, guardOf, baseE, orM, mEff, callM, noM, bsOf, blkFree, guarded, isPick, eff, ev, tmv, get, uv, ug, cellsOf, cst, jn, blk, apply, putT, freeze_nil, freeze_cons, kill_nil, kill_cons, here, gone, mapT, mapB, mapL, fresh, unbound, keys, mem, namess, names, snap, effLoad, effFieldAddr, effField, effIndexAddr, effStore, effCall, effRes, effBin, bin, effLen, effConvert, effSlice, effAppend, baseOf, tailOf, bound, osOf, isStr, isOther, good, splice, rowsOf, rowsAt, isNil, fz, fzs, osIn_nil, osIn_junk, osIn_int, osIn_bool, osIn_str, osIn_nils, osIn_sl, osIn_os, osIn_ptr, osIn_iptr, osIn_eptr, osIn_func, osIn_agg, osIn_tup, osIn_opt, ren, rens, ownBl, scalar, scalars, okRes, okRess, pick3, pickE, fillS, okN, subs, blNames, nwNames, getN, plain, valOf, isU8, goodRow, kl, kls, Op.operands, Call.operands, List.map_cons, List.map_nil, List.append_nil, List.nil_append, List.cons_append, Option.getD_some, Option.getD_none, Option.isSome_some, Option.isNone_none, Option.isSome_none, Option.isNone_some, Option.map_some, Option.map_none, Option.bind_some, Option.bind_none, Option.toList_some, Option.toList_none, Option.toArray_some, Option.toArray_none, Array.toList_append, List.toList_toArray, Nat.le_refl, Nat.reduceLeDiff, implies_true, imp_self, List.getElem?_toArray, List.getElem?_cons_zero, List.getElem?_cons_succ, List.size_toArray, Bool.and_true, Bool.true_and, Bool.and_false, Bool.false_and, Bool.or_true, Bool.true_or, Bool.or_false, Bool.false_or, Bool.not_true, Bool.not_false, and_true, true_and, and_false, false_and, and_self, eq_self, ite_self, bne_self_eq_false, beq_self_eq_true, or_true, true_or, or_false, false_or, ite_true, ite_false, ↓reduceIte, reduceCtorEq, Bool.false_eq_true, List.all_cons, List.all_nil, Nat.reduceAdd, Nat.zero_add, Nat.reduceSub, Nat.reduceMul, Nat.reduceLT, Nat.reduceEqDiff, decide_true, decide_false, List.drop_zero, List.drop_succ_cons, List.take_zero, List.take_succ_cons, List.head?_cons, List.length_cons, List.length_nil, forall_const, if_true, if_false, List.zip_cons_cons, List.zip_nil_right, List.zip_nil_left, List.getD_cons_zero, List.getD_cons_succ, List.drop_nil, List.take_nil, Int.reduceEq, Int.reduceLE, Int.reduceLT, Int.reducePow, Int.reduceMul, Int.toNat_natCast, Int.reduceToNat, Int.reduceNeg, List.length_map, decide_eq_true_eq, decide_eq_false_iff_not, bytesOf_map, isB_map, List.range_zero, range1, range2, range3, range4, range5, range6, range7, range8, ← List.map_take, ← List.map_drop, hD, hG, D_1, D_2, D_3, D_4, D_5, D_6, D_7, D_8, D_9, D_10, D_11, D_12, D_13, D_14, D_15, D_16, D_17, D_18, D_19, D_21, D_22, D_23, D_24, D_25, D_26, D_27, D_28, D_29, D_30, D_32, D_33, D_35, D_36, D_37, D_38, D_39, D_40, D_41, D_42, D_43, D_44, D_45, D_46, D_47, D_49, D_50, D_51, D_52, D_53, D_54, D_55, D_56, D_57, D_58, D_60, D_61, D_62, D_63, D_64, D_66, D_67, D_68, D_70, D_72, D_73, D_75, D_76, D_77, D_78, D_79, D_80, D_81, D_82, D_83, D_84, D_85, D_86, D_88, D_89, D_91, D_92, D_93, D_94, D_95, D_96, D_97, D_98, D_99, D_100, D_103, D_104, D_105, D_106, D_107, D_108, D_109, D_110, D_111, D_112, D_113, D_114, D_115, D_116, D_117, D_118, D_119, D_120, D_121, D_122, D_123, D_126, D_128, D_130, D_131, D_132, D_133, D_137, D_138, D_139, D_140, D_141, D_142, D_143, D_144, D_145, wrap64, wrap8, hg2, takeM, asked_none, hb0, byteGet, wrap_byte, enterS, leaveS, shT, unT, resA, num, unbox, Option.some.injEq, exists_eq_left', tmv]
  rw [unT_shT]
  refine ⟨by omega, by omega, ⟨⟨by omega, ?_⟩, by omega⟩, rfl, fun t => rfl, fun m => ?_⟩
  · have := ((takeR 1 l bad).1.getD 0 0).toNat_lt
    omega
  · simp only [blk, get]
    split <;> rfl
end Go.Proofs.Ytcgdjdlcecnanaa.Ab
