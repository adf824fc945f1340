/-
  tglaw2.StoreTells returns true, where what it reads is of bulk at most 1048576; its arguments read as they did.
-/
import Derived.Test.YtcgdjdlcecnanaaSTells
import Derived.Test.YtcgdjdlcecnanaaAbW
import Derived.Test.YtcgdjdlcecnanaaLaw
import Derived.Test.YtcgdjdlcecnanaaOpen
import Derived.Lib.SmallJoins
namespace Go.Proofs.Ytcgdjdlcecnanaa.lawStoreTells
open Go.ChangeShapes Go.WideShapes Go.RowKit
set_option linter.unusedVariables false

set_option maxRecDepth 100000 in
set_option maxHeartbeats 1000000 in
theorem contract (H : Type) (enc : TypeId × Value → H) (W : World) (base : Nat) (args : Array Value) (ds gs : List (DataW H)) (before : List MemPlace)
    (hval : ∀ (j : Nat) t v, Try.f3.params[j]? = some t → args[j]? = some v → Value.okWide Try.prog W .any base t v)
    (hW : DataW.Whole enc Try.prog Try.f3.params.toList Rows.storeTellsSpec.vars false W args.toList ds gs before) (hk : Rows.uptoSmall H (ds ++ gs) = true) :
    Calls Try.prog 3 args W fun e W' => ∃ v, e = .returned v ∧ Rows.storeTellsSpec.post enc Try.prog Try.f3 false true false false W args v W' := by
  have hW' := hW
  have hkb := of_decide_eq_true hk
  obtain ⟨p, q, hA0, hV, rfl, hfz, hnd⟩ := hW
  have hA : DataW.TrodAll enc Try.prog W 0 (fun _ => true) true Try.f3.params.toList args.toList ds p := hA0
  rw [Try.params3] at hA hval
  clear hA0 hk
  obtain ⟨v0, v1, v2, v3, d0, d1, d2, d3, p0, p1, p2, p3, rfl, rfl, rfl, h0, h1, h2, h3⟩ := trodAll_four hA
  obtain ⟨rfl, rfl⟩ := trodVars_none hV
  obtain ⟨x0, x1, y0, y1, n, rfl, rfl, _, f0, f1⟩ := Go.Joins.open_agg2 Try.underlying24 (by kernel_rfl) (by kernel_rfl) (hval 0 _ _ rfl rfl) h0
  obtain ⟨l, A, c, e0, b1, b2, r0, k0⟩ := trod_bytes f0
  obtain ⟨s, e1, _, _⟩ := DataW.trod_int Try.underlying3 f1
  obtain ⟨a1, n1, m1, rfl⟩ := okWide_slice Try.underlying25 (hval 1 _ _ rfl rfl)
  obtain ⟨u1, g1⟩ := h1
  obtain ⟨rs, A', c', e2, b3, b4, r1, k1, k1'⟩ := trod_recs g1
  obtain ⟨a2, n2, m2, rfl⟩ := okWide_slice Try.underlying22 (hval 2 _ _ rfl rfl)
  obtain ⟨u2, g2⟩ := h2
  obtain ⟨b, A'', c'', e3, b5, b6, r2, k2⟩ := trod_bytes g2
  obtain ⟨keep, rfl, _, _⟩ := open_int Try.underlying3 (hval 3 _ _ rfl rfl) h3
  simp only [List.cons.injEq, and_true] at e0 e1
  simp only [Value.cells, List.cons.injEq, Value.slice.injEq, and_true] at e2 e3
  obtain ⟨rfl, rfl, rfl⟩ := e2
  obtain ⟨rfl, rfl, rfl⟩ := e3
  subst e0 e1
  simp only [Rows.uptoBulkAll, Rows.uptoBulk, List.append_nil] at hkb
  simp only at k1 k1' k2
  have hb1 : l.length ≤ 1048576 := by omega
  have hb2 : rs.length ≤ 1048576 := by omega
  have hb3 : b.length ≤ 1048576 := by omega
  have hb4 : (rs.map frameS).flatten.length ≤ 4194304 := by omega
  refine (Ab.law_true (Ab.con_storetells l s rs b keep hb1 hb2 hb4 hb3) (vs := #[.agg #[.slice A l.length c, .int .i64 s], .slice a1 rs.length m1, .slice a2 b.length m2, .int .i64 keep])
    (Ab.rels_cons (Ab.log_rel b1 b2 r0) (Ab.rels_cons (Ab.recs_rel b3 b4 r1) (Ab.rels_cons (Ab.bytes_rel b5 b6 r2) (Ab.rels_cons (.int _ _) Ab.rels_nil))))).mono fun e W' ⟨he, hb⟩ => ?_
  subst he
  exact ⟨_, rfl, law_post rfl (by kernel_rfl) (by kernel_rfl) rfl hW' hb⟩

set_option maxRecDepth 100000 in
theorem lifted (os : Os) (started : os.Started) (H : Type) (enc : TypeId × Value → H) (F : Stop.Interp) :
    ReturnsInHanded {} Try.checked os 3 .any ((Rows.OpenSpec.upto Rows.storeTellsSpec).pre6 enc Try.prog Try.f3 Rows.storeTellsUptoRow.domain false) (((Rows.OpenSpec.upto Rows.storeTellsSpec).at F).post enc Try.prog Try.f3 false true false false) := by
  refine returnsInHanded_of_cond (C := Try.checked) (s := Rows.OpenSpec.upto Rows.storeTellsSpec) (k := Rows.uptoSmall) rfl ownsNone started (by kernel_rfl) Try.func3
    (OpenSpec.witness (enc := enc) (C := Try.checked) (s := Rows.OpenSpec.upto Rows.storeTellsSpec) (k := Rows.uptoSmall) rfl false ⟨#[], #[.agg #[.slice none 0 0, .int .i64 0], .slice none 0 0, .slice none 0 0, .int .i64 0], []⟩ 8 (by kernel_rfl) (by kernel_rfl) (by kernel_rfl)
      (x := ([.agg [.nil, .lit (.int .i64 0)], .nil, .nil, .lit (.int .i64 0)], [], [])) (by kernel_rfl) rfl (by kernel_rfl)) ?_
  intro W base args ds gs before hval hW _ hk _
  exact contract H enc W base args ds gs before hval hW hk

theorem over : Rows.storeTellsUptoRow.holds Try.pinned (Rows.OpenSpec.upto Rows.storeTellsSpec) :=
  OpenClaim.holds_of_cond 3 Try.f3 rfl rfl rfl rfl rfl rfl rfl ⟨rfl, rfl, rfl, rfl, rfl⟩ rfl rfl rfl rfl rfl (by kernel_rfl) Try.func3 (by kernel_rfl)
    (of_decide_eq_true (by kernel_rfl)) (by unfold Func.isWrapper; first | (rw [if_pos (by decide +kernel)]; kernel_rfl) | (rw [if_neg (by decide +kernel)]; exact ⟨rfl, rfl⟩))
    (fun os started H enc _ F => lifted os started H enc F)

theorem proved : Rows.StoreTellsUptoSaid :=
  over
end Go.Proofs.Ytcgdjdlcecnanaa.lawStoreTells
