/-
  tglaw6.SessionTags returns true, where what it reads is of bulk at most 1048576; its arguments read as they did.
-/
import Derived.Test.YthbejciebmkclaaGM
import Derived.Test.YthbejciebmkclaaGJ
import Derived.Test.YthbejciebmkclaaGL
import Derived.Test.YthbejciebmkclaaGC
import Derived.Test.YthbejciebmkclaaGA
import Derived.Test.YthbejciebmkclaaGD
import Derived.Lib.SmallJoins
namespace Go.Proofs.Ythbejciebmkclaa.lawSessionTags
open Go.ChangeShapes Go.WideShapes Go.RowKit
set_option linter.unusedVariables false

set_option maxRecDepth 100000 in
set_option maxHeartbeats 1000000 in
theorem contract (H : Type) (enc : TypeId × Value → H) (W : World) (base : Nat) (args : Array Value) (ds gs : List (DataW H)) (before : List MemPlace)
    (hval : ∀ (j : Nat) t v, Try.f11.params[j]? = some t → args[j]? = some v → Value.okWide Try.prog W .any base t v)
    (hW : DataW.Whole enc Try.prog Try.f11.params.toList Rows.sessionTagsSpec.vars false W args.toList ds gs before) (hk : Rows.uptoSmall H (ds ++ gs) = true) :
    Calls Try.prog 11 args W fun e W' => ∃ v, e = .returned v ∧ Rows.sessionTagsSpec.post enc Try.prog Try.f11 false true false false W args v W' := by
  have hW' := hW
  have hkb := of_decide_eq_true hk
  obtain ⟨p, q, hA0, hV, rfl, hfz, hnd⟩ := hW
  have hA : DataW.TrodAll enc Try.prog W 0 (fun _ => true) true Try.f11.params.toList args.toList ds p := hA0
  rw [Try.params11] at hA hval
  clear hA0 hk
  obtain ⟨v0, v1, v2, v3, d0, d1, d2, d3, p0, p1, p2, p3, rfl, rfl, rfl, h0, h1, h2, h3⟩ := trodAll_four hA
  obtain ⟨rfl, rfl⟩ := trodVars_none hV
  simp only [Rows.uptoBulkAll, List.append_nil] at hkb
  obtain ⟨u0, s0, l0, r0⟩ := Ab.open_arg Ab.tok (m := 12) (B := 1048576) (by decide) (hval 0 _ _ rfl rfl) h0 (by omega)
  obtain ⟨u1, s1, l1, r1⟩ := Ab.open_arg Ab.tok (m := 12) (B := 1048576) (by decide) (hval 1 _ _ rfl rfl) h1 (by omega)
  obtain ⟨u2, s2, l2, r2⟩ := Ab.open_arg Ab.tok (m := 12) (B := 1048576) (by decide) (hval 2 _ _ rfl rfl) h2 (by omega)
  obtain ⟨u3, s3, l3, r3⟩ := Ab.open_arg Ab.tok (m := 12) (B := 1048576) (by decide) (hval 3 _ _ rfl rfl) h3 (by omega)
  obtain ⟨x0, e0, f0⟩ := Ab.shp_hall s0
  have r0 : Ab.Rel W (· < W.heap.size) Ab.ρ0 (Ab.hallA x0) v0 := by rw [← e0]; exact r0
  obtain ⟨x1, e1, b1⟩ := Ab.shp_sess s1
  have r1 : Ab.Rel W (· < W.heap.size) Ab.ρ0 (Ab.sessA x1) v1 := by rw [← e1]; exact r1
  obtain ⟨x2, rfl, b2⟩ := Ab.shp_str (t := 9) rfl s2
  obtain ⟨x3, rfl, b3⟩ := Ab.shp_i64 (t := 3) rfl s3
  refine (Ab.law_true (Ab.con_sessiontags x0 x1 x2 x3 f0 b1 b2) (vs := #[v0, v1, v2, v3])
    (Ab.rels_cons r0 (Ab.rels_cons r1 (Ab.rels_cons r2 (Ab.rels_cons r3 Ab.rels_nil))))).mono fun e W' ⟨he, hb⟩ => ?_
  subst he
  exact ⟨_, rfl, law_post rfl (by kernel_rfl) (by kernel_rfl) rfl hW' hb⟩

set_option maxRecDepth 100000 in
theorem lifted (os : Os) (started : os.Started) (H : Type) (enc : TypeId × Value → H) (F : Stop.Interp) :
    ReturnsInHanded {} Try.checked os 11 .any ((Rows.OpenSpec.upto Rows.sessionTagsSpec).pre6 enc Try.prog Try.f11 Rows.sessionTagsUptoRow.domain false) (((Rows.OpenSpec.upto Rows.sessionTagsSpec).at F).post enc Try.prog Try.f11 false true false false) := by
  refine returnsInHanded_of_cond (C := Try.checked) (s := Rows.OpenSpec.upto Rows.sessionTagsSpec) (k := Rows.uptoSmall) rfl ownsNone started (by kernel_rfl) Try.func11
    (OpenSpec.witness (enc := enc) (C := Try.checked) (s := Rows.OpenSpec.upto Rows.sessionTagsSpec) (k := Rows.uptoSmall) rfl false ⟨#[], #[.agg #[.slice none 0 0, .int .i64 0], .agg #[.slice none 0 0, .int .i64 0], .string ⟨#[]⟩, .int .i64 0], []⟩ 8 (by kernel_rfl) (by kernel_rfl) (by kernel_rfl)
      (x := ([.agg [.nil, .lit (.int .i64 0)], .agg [.nil, .lit (.int .i64 0)], .lit (.string []), .lit (.int .i64 0)], [], [])) (by kernel_rfl) rfl (by kernel_rfl)) ?_
  intro W base args ds gs before hval hW _ hk _
  exact contract H enc W base args ds gs before hval hW hk

theorem over : Rows.sessionTagsUptoRow.holds Try.pinned (Rows.OpenSpec.upto Rows.sessionTagsSpec) :=
  OpenClaim.holds_of_cond 11 Try.f11 rfl rfl rfl rfl rfl rfl rfl ⟨rfl, rfl, rfl, rfl, rfl⟩ rfl rfl rfl rfl rfl (by kernel_rfl) Try.func11 (by kernel_rfl)
    (of_decide_eq_true (by kernel_rfl)) (by unfold Func.isWrapper; first | (rw [if_pos (by decide +kernel)]; kernel_rfl) | (rw [if_neg (by decide +kernel)]; exact ⟨rfl, rfl⟩))
    (fun os started H enc _ F => lifted os started H enc F)

theorem proved : Rows.SessionTagsUptoSaid :=
  over
end Go.Proofs.Ythbejciebmkclaa.lawSessionTags
