/-
  tglaw2.StoreByte returns true, where what it reads is of bulk at most 1048576; its arguments read as they did.
-/
import Derived.Test.YtcgdjdlcecnanaaSByte
import Derived.Test.YtcgdjdlcecnanaaAbW
import Derived.Test.YtcgdjdlcecnanaaLaw
import Derived.Test.YtcgdjdlcecnanaaOpen
import Derived.Lib.SmallJoins
namespace Go.Proofs.Ytcgdjdlcecnanaa.lawStoreByte
open Go.ChangeShapes Go.WideShapes Go.RowKit
set_option linter.unusedVariables false
set_option linter.unusedSimpArgs false

set_option maxRecDepth 100000 in
set_option maxHeartbeats 1000000 in
theorem contract (H : Type) (enc : TypeId × Value → H) (W : World) (base : Nat) (args : Array Value) (ds gs : List (DataW H)) (before : List MemPlace)
    (hval : ∀ (j : Nat) t v, Try.f5.params[j]? = some t → args[j]? = some v → Value.okWide Try.prog W .any base t v)
    (hW : DataW.Whole enc Try.prog Try.f5.params.toList Rows.storeByteSpec.vars false W args.toList ds gs before) (hk : Rows.uptoSmall H (ds ++ gs) = true) :
    Calls Try.prog 5 args W fun e W' => ∃ v, e = .returned v ∧ Rows.storeByteSpec.post enc Try.prog Try.f5 false true false false W args v W' := by
  have hW' := hW
  have hkb := of_decide_eq_true hk
  obtain ⟨p, q, hA0, hV, rfl, hfz, hnd⟩ := hW
  have hA : DataW.TrodAll enc Try.prog W 0 (fun _ => true) true Try.f5.params.toList args.toList ds p := hA0
  rw [Try.params5] at hA hval
  clear hA0 hk
  obtain ⟨v0, v1, v2, v3, d0, d1, d2, d3, p0, p1, p2, p3, rfl, rfl, rfl, h0, h1, h2, h3⟩ := trodAll_four hA
  obtain ⟨rfl, rfl⟩ := trodVars_none hV
  obtain ⟨a1, n1, m1, rfl⟩ := okWide_slice Try.underlying25 (hval 0 _ _ rfl rfl)
  obtain ⟨u1, g1⟩ := h0
  obtain ⟨ra, A', c', e2, b1, b2, r1, k1, k1'⟩ := trod_recs g1
  obtain ⟨k, rfl, _, _⟩ := open_int Try.underlying3 (hval 1 _ _ rfl rfl) h1
  obtain ⟨at_, rfl, _, _⟩ := open_int Try.underlying3 (hval 2 _ _ rfl rfl) h2
  obtain ⟨c, rfl, hc0, hc1⟩ := open_int Try.underlying5 (hval 3 _ _ rfl rfl) h3
  simp only [Value.cells, List.cons.injEq, Value.slice.injEq, and_true] at e2
  obtain ⟨rfl, rfl, rfl⟩ := e2
  simp only [Rows.uptoBulkAll, Rows.uptoBulk, List.append_nil] at hkb
  simp only at k1 k1'
  have hw : 0 ≤ c ∧ c < 256 := by
    have := hc1.2
    simp only [Lit.wf, Bool.and_eq_true, decide_eq_true_eq] at this
    have e1 : IntKind.min .u8 = 0 := by decide
    have e2 : IntKind.max .u8 = 255 := by decide
    omega
  have hc : c = ((UInt8.ofNat c.toNat).toNat : Int) := by simp; omega
  generalize UInt8.ofNat c.toNat = cb at hc
  subst hc
  refine (Ab.law_true (Ab.con_storebyte ra k at_ cb (by omega) (by omega)) (vs := #[.slice a1 ra.length m1, .int .i64 k, .int .i64 at_, .int .u8 cb.toNat])
    (Ab.rels_cons (Ab.recs_rel b1 b2 r1) (Ab.rels_cons (.int _ _) (Ab.rels_cons (.int _ _) (Ab.rels_cons (.int _ _) Ab.rels_nil))))).mono fun e W' ⟨he, hb⟩ => ?_
  subst he
  exact ⟨_, rfl, law_post rfl (by kernel_rfl) (by kernel_rfl) rfl hW' hb⟩

set_option maxRecDepth 100000 in
theorem lifted (os : Os) (started : os.Started) (H : Type) (enc : TypeId × Value → H) (F : Stop.Interp) :
    ReturnsInHanded {} Try.checked os 5 .any ((Rows.OpenSpec.upto Rows.storeByteSpec).pre6 enc Try.prog Try.f5 Rows.storeByteUptoRow.domain false) (((Rows.OpenSpec.upto Rows.storeByteSpec).at F).post enc Try.prog Try.f5 false true false false) := by
  refine returnsInHanded_of_cond (C := Try.checked) (s := Rows.OpenSpec.upto Rows.storeByteSpec) (k := Rows.uptoSmall) rfl ownsNone started (by kernel_rfl) Try.func5
    (OpenSpec.witness (enc := enc) (C := Try.checked) (s := Rows.OpenSpec.upto Rows.storeByteSpec) (k := Rows.uptoSmall) rfl false ⟨#[], #[.slice none 0 0, .int .i64 0, .int .i64 0, .int .u8 0], []⟩ 8 (by kernel_rfl) (by kernel_rfl) (by kernel_rfl)
      (x := ([.nil, .lit (.int .i64 0), .lit (.int .i64 0), .lit (.int .u8 0)], [], [])) (by kernel_rfl) rfl (by kernel_rfl)) ?_
  intro W base args ds gs before hval hW _ hk _
  exact contract H enc W base args ds gs before hval hW hk

theorem over : Rows.storeByteUptoRow.holds Try.pinned (Rows.OpenSpec.upto Rows.storeByteSpec) :=
  OpenClaim.holds_of_cond 5 Try.f5 rfl rfl rfl rfl rfl rfl rfl ⟨rfl, rfl, rfl, rfl, rfl⟩ rfl rfl rfl rfl rfl (by kernel_rfl) Try.func5 (by kernel_rfl)
    (of_decide_eq_true (by kernel_rfl)) (by unfold Func.isWrapper; first | (rw [if_pos (by decide +kernel)]; kernel_rfl) | (rw [if_neg (by decide +kernel)]; exact ⟨rfl, rfl⟩))
    (fun os started H enc _ F => lifted os started H enc F)

theorem proved : Rows.StoreByteUptoSaid :=
  over
end Go.Proofs.Ytcgdjdlcecnanaa.lawStoreByte
