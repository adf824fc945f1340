/-
  tglaw5.JournalTells returns true, where what it reads is of bulk at most 1048576; its arguments read as they did.
-/
import Derived.Test.YthbejciebmkclaaGL
import Derived.Test.YthbejciebmkclaaGC
import Derived.Test.YthbejciebmkclaaGA
import Derived.Test.YthbejciebmkclaaGD
import Derived.Lib.SmallJoins
namespace Go.Proofs.Ythbejciebmkclaa.lawJournalTells
open Go.ChangeShapes Go.WideShapes Go.RowKit
set_option linter.unusedVariables false

set_option maxRecDepth 100000 in
set_option maxHeartbeats 1000000 in
theorem contract (H : Type) (enc : TypeId × Value → H) (W : World) (base : Nat) (args : Array Value) (ds gs : List (DataW H)) (before : List MemPlace)
    (hval : ∀ (j : Nat) t v, Try.f3.params[j]? = some t → args[j]? = some v → Value.okWide Try.prog W .any base t v)
    (hW : DataW.Whole enc Try.prog Try.f3.params.toList Rows.journalTellsSpec.vars false W args.toList ds gs before) (hk : Rows.uptoSmall H (ds ++ gs) = true) :
    Calls Try.prog 3 args W fun e W' => ∃ v, e = .returned v ∧ Rows.journalTellsSpec.post enc Try.prog Try.f3 false true false false W args v W' := by
  have hW' := hW
  have hkb := of_decide_eq_true hk
  obtain ⟨p, q, hA0, hV, rfl, hfz, hnd⟩ := hW
  have hA : DataW.TrodAll enc Try.prog W 0 (fun _ => true) true Try.f3.params.toList args.toList ds p := hA0
  rw [Try.params3] at hA hval
  clear hA0 hk
  obtain ⟨v0, v1, v2, v3, d0, d1, d2, d3, p0, p1, p2, p3, rfl, rfl, rfl, h0, h1, h2, h3⟩ := trodAll_four hA
  obtain ⟨rfl, rfl⟩ := trodVars_none hV
  simp only [Rows.uptoBulkAll, List.append_nil] at hkb
  obtain ⟨u0, s0, l0, r0⟩ := Ab.open_arg Ab.tok (m := 12) (B := 1048575) (by decide) (hval 0 _ _ rfl rfl) h0 (by have := bulk_one d3; omega)
  obtain ⟨u1, s1, l1, r1⟩ := Ab.open_arg Ab.tok (m := 12) (B := 1048576) (by decide) (hval 1 _ _ rfl rfl) h1 (by omega)
  obtain ⟨u2, s2, l2, r2⟩ := Ab.open_arg Ab.tok (m := 12) (B := 1048576) (by decide) (hval 2 _ _ rfl rfl) h2 (by omega)
  obtain ⟨u3, s3, l3, r3⟩ := Ab.open_arg Ab.tok (m := 12) (B := 1048576) (by decide) (hval 3 _ _ rfl rfl) h3 (by omega)
  obtain ⟨x0, e0, f0⟩ := Ab.shp_hallB (by decide) s0
  have r0 : Ab.Rel W (· < W.heap.size) Ab.ρ0 (Ab.hallA x0) v0 := by rw [← e0]; exact r0
  obtain ⟨x1, _, e1, f1, b1⟩ := Ab.shp_entry s1
  have r1 : Ab.Rel W (· < W.heap.size) Ab.ρ0 (Ab.entryA x1) v1 := by rw [← e1]; exact r1
  obtain ⟨x2, rfl, b2⟩ := Ab.shp_bytes s2
  obtain ⟨x3, y3, e3, b3⟩ := Ab.shp_log s3
  have r3 : Ab.Rel W (· < W.heap.size) Ab.ρ0 (.agg [.sl 1 (x3.map Ab.byteRow), .int .i64 y3]) v3 := by rw [← e3]; exact r3
  refine (Ab.law_true (Ab.con_journaltells x0 x1 x2 x3 y3 f0 f1 b1 b2 b3) (vs := #[v0, v1, v2, v3])
    (Ab.rels_cons r0 (Ab.rels_cons r1 (Ab.rels_cons r2 (Ab.rels_cons r3 Ab.rels_nil))))).mono fun e W' ⟨he, hb⟩ => ?_
  subst he
  exact ⟨_, rfl, law_post rfl (by kernel_rfl) (by kernel_rfl) rfl hW' hb⟩

set_option maxRecDepth 100000 in
theorem lifted (os : Os) (started : os.Started) (H : Type) (enc : TypeId × Value → H) (F : Stop.Interp) :
    ReturnsInHanded {} Try.checked os 3 .any ((Rows.OpenSpec.upto Rows.journalTellsSpec).pre6 enc Try.prog Try.f3 Rows.journalTellsUptoRow.domain false) (((Rows.OpenSpec.upto Rows.journalTellsSpec).at F).post enc Try.prog Try.f3 false true false false) := by
  refine returnsInHanded_of_cond (C := Try.checked) (s := Rows.OpenSpec.upto Rows.journalTellsSpec) (k := Rows.uptoSmall) rfl ownsNone started (by kernel_rfl) Try.func3
    (OpenSpec.witness (enc := enc) (C := Try.checked) (s := Rows.OpenSpec.upto Rows.journalTellsSpec) (k := Rows.uptoSmall) rfl false ⟨#[], #[.agg #[.slice none 0 0, .int .i64 0], .agg #[.int .i64 0, .string ⟨#[]⟩, .int .i64 0, .int .i64 0, .slice none 0 0, .slice none 0 0], .slice none 0 0, .agg #[.slice none 0 0, .int .i64 0]], []⟩ 8 (by kernel_rfl) (by kernel_rfl) (by kernel_rfl)
      (x := ([.agg [.nil, .lit (.int .i64 0)], .agg [.lit (.int .i64 0), .lit (.string []), .lit (.int .i64 0), .lit (.int .i64 0), .agg [.nil, .nil]], .nil, .agg [.nil, .lit (.int .i64 0)]], [], [])) (by kernel_rfl) rfl (by kernel_rfl)) ?_
  intro W base args ds gs before hval hW _ hk _
  exact contract H enc W base args ds gs before hval hW hk

theorem over : Rows.journalTellsUptoRow.holds Try.pinned (Rows.OpenSpec.upto Rows.journalTellsSpec) :=
  OpenClaim.holds_of_cond 3 Try.f3 rfl rfl rfl rfl rfl rfl rfl ⟨rfl, rfl, rfl, rfl, rfl⟩ rfl rfl rfl rfl rfl (by kernel_rfl) Try.func3 (by kernel_rfl)
    (of_decide_eq_true (by kernel_rfl)) (by unfold Func.isWrapper; first | (rw [if_pos (by decide +kernel)]; kernel_rfl) | (rw [if_neg (by decide +kernel)]; exact ⟨rfl, rfl⟩))
    (fun os started H enc _ F => lifted os started H enc F)

theorem proved : Rows.JournalTellsUptoSaid :=
  over
end Go.Proofs.Ythbejciebmkclaa.lawJournalTells
