/-
  tglaw1.NoteTells returns true, where what it reads is of bulk at most 1048576; its arguments read as they did.
-/
import Derived.Test.YtcgdjdlcecnanaaNtT
import Derived.Test.YtcgdjdlcecnanaaAbW
import Derived.Test.YtcgdjdlcecnanaaLaw
import Derived.Test.YtcgdjdlcecnanaaOpenG
import Derived.Lib.SmallJoins
namespace Go.Proofs.Ytcgdjdlcecnanaa.lawNoteTells
open Go.ChangeShapes Go.WideShapes Go.RowKit
set_option linter.unusedVariables false

set_option maxRecDepth 100000 in
set_option maxHeartbeats 1000000 in
theorem contract (H : Type) (enc : TypeId × Value → H) (W : World) (base : Nat) (args : Array Value) (ds gs : List (DataW H)) (before : List MemPlace)
    (hval : ∀ (j : Nat) t v, Try.f6.params[j]? = some t → args[j]? = some v → Value.okWide Try.prog W .any base t v)
    (hW : DataW.Whole enc Try.prog Try.f6.params.toList Rows.noteTellsSpec.vars false W args.toList ds gs before) (hk : Rows.uptoSmall H (ds ++ gs) = true) :
    Calls Try.prog 6 args W fun e W' => ∃ v, e = .returned v ∧ Rows.noteTellsSpec.post enc Try.prog Try.f6 false true false false W args v W' := by
  have hW' := hW
  have hkb := of_decide_eq_true hk
  obtain ⟨p, q, hA0, hV, rfl, hfz, hnd⟩ := hW
  have hA : DataW.TrodAll enc Try.prog W 0 (fun _ => true) true Try.f6.params.toList args.toList ds p := hA0
  rw [Try.params6] at hA hval
  clear hA0 hk
  obtain ⟨v0, v1, v2, v3, d0, d1, d2, d3, p0, p1, p2, p3, rfl, rfl, rfl, h0, h1, h2, h3⟩ := trodAll_four hA
  obtain ⟨rfl, rfl⟩ := trodVars_none hV
  simp only [Rows.uptoBulkAll, List.append_nil] at hkb
  obtain ⟨u0, s0, l0, r0⟩ := Ab.open_arg Ab.tok (m := 6) (B := 1048576) (by decide) (hval 0 _ _ rfl rfl) h0 (by omega)
  obtain ⟨u1, s1, l1, r1⟩ := Ab.open_arg Ab.tok (m := 6) (B := 1048576) (by decide) (hval 1 _ _ rfl rfl) h1 (by omega)
  obtain ⟨u2, s2, l2, r2⟩ := Ab.open_arg Ab.tok (m := 6) (B := 1048576) (by decide) (hval 2 _ _ rfl rfl) h2 (by omega)
  obtain ⟨u3, s3, l3, r3⟩ := Ab.open_arg Ab.tok (m := 6) (B := 1048576) (by decide) (hval 3 _ _ rfl rfl) h3 (by omega)
  obtain ⟨n0, e0, _, a1, a2, a3⟩ := Ab.shp_note s0
  obtain ⟨n1, e1, _, b1, b2, b3⟩ := Ab.shp_note s1
  obtain ⟨k, rfl, c1⟩ := Ab.shp_str (t := 9) rfl s2
  obtain ⟨l, rfl, c2⟩ := Ab.shp_bytes s3
  have q0 : Ab.Rel W (· < W.heap.size) Ab.ρ0 (Ab.noteA n0) v0 := by rw [← e0]; exact r0
  have q1 : Ab.Rel W (· < W.heap.size) Ab.ρ0 (Ab.noteA n1) v1 := by rw [← e1]; exact r1
  refine (Ab.law_true (Ab.con_notetells n0 n1 k l ⟨a3, a1, a2⟩ ⟨b3, b1, b2⟩ c1 (by omega)) (vs := #[v0, v1, v2, v3])
    (Ab.rels_cons q0 (Ab.rels_cons q1 (Ab.rels_cons r2 (Ab.rels_cons r3 Ab.rels_nil))))).mono fun e W' ⟨he, hb⟩ => ?_
  subst he
  exact ⟨_, rfl, law_post rfl (by kernel_rfl) (by kernel_rfl) rfl hW' hb⟩

set_option maxRecDepth 100000 in
theorem lifted (os : Os) (started : os.Started) (H : Type) (enc : TypeId × Value → H) (F : Stop.Interp) :
    ReturnsInHanded {} Try.checked os 6 .any ((Rows.OpenSpec.upto Rows.noteTellsSpec).pre6 enc Try.prog Try.f6 Rows.noteTellsUptoRow.domain false) (((Rows.OpenSpec.upto Rows.noteTellsSpec).at F).post enc Try.prog Try.f6 false true false false) := by
  refine returnsInHanded_of_cond (C := Try.checked) (s := Rows.OpenSpec.upto Rows.noteTellsSpec) (k := Rows.uptoSmall) rfl ownsNone started (by kernel_rfl) Try.func6
    (OpenSpec.witness (enc := enc) (C := Try.checked) (s := Rows.OpenSpec.upto Rows.noteTellsSpec) (k := Rows.uptoSmall) rfl false ⟨#[], #[.agg #[.slice none 0 0, .slice none 0 0], .agg #[.slice none 0 0, .slice none 0 0], .string ⟨#[]⟩, .slice none 0 0], []⟩ 8 (by kernel_rfl) (by kernel_rfl) (by kernel_rfl)
      (x := ([.agg [.nil, .nil], .agg [.nil, .nil], .lit (.string []), .nil], [], [])) (by kernel_rfl) rfl (by kernel_rfl)) ?_
  intro W base args ds gs before hval hW _ hk _
  exact contract H enc W base args ds gs before hval hW hk

theorem over : Rows.noteTellsUptoRow.holds Try.pinned (Rows.OpenSpec.upto Rows.noteTellsSpec) :=
  OpenClaim.holds_of_cond 6 Try.f6 rfl rfl rfl rfl rfl rfl rfl ⟨rfl, rfl, rfl, rfl, rfl⟩ rfl rfl rfl rfl rfl (by kernel_rfl) Try.func6 (by kernel_rfl)
    (of_decide_eq_true (by kernel_rfl)) (by unfold Func.isWrapper; first | (rw [if_pos (by decide +kernel)]; kernel_rfl) | (rw [if_neg (by decide +kernel)]; exact ⟨rfl, rfl⟩))
    (fun os started H enc _ F => lifted os started H enc F)

theorem proved : Rows.NoteTellsUptoSaid :=
  over
end Go.Proofs.Ytcgdjdlcecnanaa.lawNoteTells
