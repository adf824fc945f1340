/-
  tglaw6.SessionRefused returns true, where what it reads is of bulk at most 1048576; its arguments read as they did.
-/
import Derived.Test.YthbejciebmkclaaGM
import Derived.Test.YthbejciebmkclaaGJ
import Derived.Test.YthbejciebmkclaaGL
import Derived.Test.YthbejciebmkclaaGC
import Derived.Test.YthbejciebmkclaaGA
import Derived.Test.YthbejciebmkclaaGD
import Derived.Lib.SmallJoins
namespace Go.Proofs.Ythbejciebmkclaa.lawSessionRefused
open Go.ChangeShapes Go.WideShapes Go.RowKit
set_option linter.unusedVariables false

set_option maxRecDepth 100000 in
set_option maxHeartbeats 1000000 in
theorem contract (H : Type) (enc : TypeId × Value → H) (W : World) (base : Nat) (args : Array Value) (ds gs : List (DataW H)) (before : List MemPlace)
    (hval : ∀ (j : Nat) t v, Try.f10.params[j]? = some t → args[j]? = some v → Value.okWide Try.prog W .any base t v)
    (hW : DataW.Whole enc Try.prog Try.f10.params.toList Rows.sessionRefusedSpec.vars false W args.toList ds gs before) (hk : Rows.uptoSmall H (ds ++ gs) = true) :
    Calls Try.prog 10 args W fun e W' => ∃ v, e = .returned v ∧ Rows.sessionRefusedSpec.post enc Try.prog Try.f10 false true false false W args v W' := by
  have hW' := hW
  have hkb := of_decide_eq_true hk
  obtain ⟨p, q, hA0, hV, rfl, hfz, hnd⟩ := hW
  have hA : DataW.TrodAll enc Try.prog W 0 (fun _ => true) true Try.f10.params.toList args.toList ds p := hA0
  rw [Try.params10] at hA hval
  clear hA0 hk
  obtain ⟨v0, w0, d0, e0, p0, q0, hargs, rfl, rfl, h0, hA0⟩ := trodAll_cons hA
  obtain ⟨v1, w1, d1, e1, p1, q1, rfl, rfl, rfl, h1, hA1⟩ := trodAll_cons hA0
  obtain ⟨v2, w2, d2, e2, p2, q2, rfl, rfl, rfl, h2, hA2⟩ := trodAll_cons hA1
  obtain ⟨v3, w3, d3, e3, p3, q3, rfl, rfl, rfl, h3, hA3⟩ := trodAll_cons hA2
  obtain ⟨v4, w4, d4, e4, p4, q4, rfl, rfl, rfl, h4, hA4⟩ := trodAll_cons hA3
  obtain ⟨rfl, rfl, rfl⟩ := trodAll_nil hA4
  obtain rfl : args = #[v0, v1, v2, v3, v4] := by cases args; simp_all
  obtain ⟨rfl, rfl⟩ := trodVars_none hV
  simp only [Rows.uptoBulkAll, List.append_nil] at hkb
  obtain ⟨u0, s0, l0, r0⟩ := Ab.open_arg Ab.tok (m := 12) (B := 1048576) (by decide) (hval 0 _ _ rfl rfl) h0 (by omega)
  obtain ⟨u1, s1, l1, r1⟩ := Ab.open_arg Ab.tok (m := 12) (B := 1048576) (by decide) (hval 1 _ _ rfl rfl) h1 (by omega)
  obtain ⟨u2, s2, l2, r2⟩ := Ab.open_arg Ab.tok (m := 12) (B := 1048576) (by decide) (hval 2 _ _ rfl rfl) h2 (by omega)
  obtain ⟨u3, s3, l3, r3⟩ := Ab.open_arg Ab.tok (m := 12) (B := 1048576) (by decide) (hval 3 _ _ rfl rfl) h3 (by omega)
  obtain ⟨u4, s4, l4, r4⟩ := Ab.open_arg Ab.tok (m := 12) (B := 1048576) (by decide) (hval 4 _ _ rfl rfl) h4 (by omega)
  obtain ⟨x0, e0, f0⟩ := Ab.shp_hall s0
  have r0 : Ab.Rel W (· < W.heap.size) Ab.ρ0 (Ab.hallA x0) v0 := by rw [← e0]; exact r0
  obtain ⟨x1, y1, e1, b1⟩ := Ab.shp_log s1
  have r1 : Ab.Rel W (· < W.heap.size) Ab.ρ0 (.agg [.sl 1 (x1.map Ab.byteRow), .int .i64 y1]) v1 := by rw [← e1]; exact r1
  obtain ⟨x2, e2, b2⟩ := Ab.shp_sess s2
  have r2 : Ab.Rel W (· < W.heap.size) Ab.ρ0 (Ab.sessA x2) v2 := by rw [← e2]; exact r2
  obtain ⟨x3, e3, q3, a3, b3, c3⟩ := Ab.shp_ask s3
  have f3 : x3.Fits := ⟨q3, c3, a3, b3⟩
  have r3 : Ab.Rel W (· < W.heap.size) Ab.ρ0 (Ab.askA x3) v3 := by rw [← e3]; exact r3
  obtain ⟨x4, rfl, b4⟩ := Ab.shp_i64 (t := 3) rfl s4
  refine (Ab.law_true (Ab.con_sessionrefused ⟨x0, ⟨x1, y1⟩, x2⟩ x3 x4 f0 b1 b2 f3) (vs := #[v0, v1, v2, v3, v4])
    (Ab.rels_cons r0 (Ab.rels_cons r1 (Ab.rels_cons r2 (Ab.rels_cons r3 (Ab.rels_cons r4 Ab.rels_nil)))))).mono fun e W' ⟨he, hb⟩ => ?_
  subst he
  exact ⟨_, rfl, law_post rfl (by kernel_rfl) (by kernel_rfl) rfl hW' hb⟩

set_option maxRecDepth 100000 in
theorem lifted (os : Os) (started : os.Started) (H : Type) (enc : TypeId × Value → H) (F : Stop.Interp) :
    ReturnsInHanded {} Try.checked os 10 .any ((Rows.OpenSpec.upto Rows.sessionRefusedSpec).pre6 enc Try.prog Try.f10 Rows.sessionRefusedUptoRow.domain false) (((Rows.OpenSpec.upto Rows.sessionRefusedSpec).at F).post enc Try.prog Try.f10 false true false false) := by
  refine returnsInHanded_of_cond (C := Try.checked) (s := Rows.OpenSpec.upto Rows.sessionRefusedSpec) (k := Rows.uptoSmall) rfl ownsNone started (by kernel_rfl) Try.func10
    (OpenSpec.witness (enc := enc) (C := Try.checked) (s := Rows.OpenSpec.upto Rows.sessionRefusedSpec) (k := Rows.uptoSmall) rfl false ⟨#[], #[.agg #[.slice none 0 0, .int .i64 0], .agg #[.slice none 0 0, .int .i64 0], .agg #[.slice none 0 0, .int .i64 0], .agg #[.int .i64 0, .string ⟨#[]⟩, .int .i64 0, .slice none 0 0, .slice none 0 0], .int .i64 0], []⟩ 8 (by kernel_rfl) (by kernel_rfl) (by kernel_rfl)
      (x := ([.agg [.nil, .lit (.int .i64 0)], .agg [.nil, .lit (.int .i64 0)], .agg [.nil, .lit (.int .i64 0)], .agg [.lit (.int .i64 0), .lit (.string []), .lit (.int .i64 0), .agg [.nil, .nil]], .lit (.int .i64 0)], [], [])) (by kernel_rfl) rfl (by kernel_rfl)) ?_
  intro W base args ds gs before hval hW _ hk _
  exact contract H enc W base args ds gs before hval hW hk

theorem over : Rows.sessionRefusedUptoRow.holds Try.pinned (Rows.OpenSpec.upto Rows.sessionRefusedSpec) :=
  OpenClaim.holds_of_cond 10 Try.f10 rfl rfl rfl rfl rfl rfl rfl ⟨rfl, rfl, rfl, rfl, rfl⟩ rfl rfl rfl rfl rfl (by kernel_rfl) Try.func10 (by kernel_rfl)
    (of_decide_eq_true (by kernel_rfl)) (by unfold Func.isWrapper; first | (rw [if_pos (by decide +kernel)]; kernel_rfl) | (rw [if_neg (by decide +kernel)]; exact ⟨rfl, rfl⟩))
    (fun os started H enc _ F => lifted os started H enc F)

theorem proved : Rows.SessionRefusedUptoSaid :=
  over
end Go.Proofs.Ythbejciebmkclaa.lawSessionRefused
