/-
  tglaw2.StoreKeeps returns true, where what it reads is of bulk at most 1048576; its arguments read as they did.
-/
import Derived.Test.YtcgdjdlcecnanaaSKeeps
import Derived.Test.YtcgdjdlcecnanaaAbW
import Derived.Test.YtcgdjdlcecnanaaLaw
import Derived.Test.YtcgdjdlcecnanaaOpen
import Derived.Lib.SmallJoins
namespace Go.Proofs.Ytcgdjdlcecnanaa.lawStoreKeeps
open Go.ChangeShapes Go.WideShapes Go.RowKit
set_option linter.unusedVariables false
set_option linter.unusedSimpArgs false

set_option maxRecDepth 100000 in
set_option maxHeartbeats 1000000 in
theorem contract (H : Type) (enc : TypeId × Value → H) (W : World) (base : Nat) (args : Array Value) (ds gs : List (DataW H)) (before : List MemPlace)
    (hval : ∀ (j : Nat) t v, Try.f4.params[j]? = some t → args[j]? = some v → Value.okWide Try.prog W .any base t v)
    (hW : DataW.Whole enc Try.prog Try.f4.params.toList Rows.storeKeepsSpec.vars false W args.toList ds gs before) (hk : Rows.uptoSmall H (ds ++ gs) = true) :
    Calls Try.prog 4 args W fun e W' => ∃ v, e = .returned v ∧ Rows.storeKeepsSpec.post enc Try.prog Try.f4 false true false false W args v W' := by
  have hW' := hW
  have hkb := of_decide_eq_true hk
  obtain ⟨p, q, hA0, hV, rfl, hfz, hnd⟩ := hW
  have hA : DataW.TrodAll enc Try.prog W 0 (fun _ => true) true Try.f4.params.toList args.toList ds p := hA0
  rw [Try.params4] at hA hval
  clear hA0 hk
  obtain ⟨v0, v1, v2, d0, d1, d2, p0, p1, p2, rfl, rfl, rfl, h0, h1, h2⟩ := trodAll_three hA
  obtain ⟨rfl, rfl⟩ := trodVars_none hV
  obtain ⟨a1, n1, m1, rfl⟩ := okWide_slice Try.underlying25 (hval 0 _ _ rfl rfl)
  obtain ⟨u1, g1⟩ := h0
  obtain ⟨ra, A', c', e2, b1, b2, r1, k1, k1'⟩ := trod_recs g1
  obtain ⟨a2, n2, m2, rfl⟩ := okWide_slice Try.underlying25 (hval 1 _ _ rfl rfl)
  obtain ⟨u2, g2⟩ := h1
  obtain ⟨rb, A'', c'', e3, b3, b4, r2, k2, k2'⟩ := trod_recs g2
  obtain ⟨keep, rfl, _, _⟩ := open_int Try.underlying3 (hval 2 _ _ rfl rfl) h2
  simp only [Value.cells, List.cons.injEq, Value.slice.injEq, and_true] at e2 e3
  obtain ⟨rfl, rfl, rfl⟩ := e2
  obtain ⟨rfl, rfl, rfl⟩ := e3
  simp only [Rows.uptoBulkAll, Rows.uptoBulk, List.append_nil] at hkb
  simp only at k1 k1' k2 k2'
  refine (Ab.law_true (Ab.con_storekeeps ra rb keep (by omega) (by omega) (by omega) (by omega)) (vs := #[.slice a1 ra.length m1, .slice a2 rb.length m2, .int .i64 keep])
    (Ab.rels_cons (Ab.recs_rel b1 b2 r1) (Ab.rels_cons (Ab.recs_rel b3 b4 r2) (Ab.rels_cons (.int _ _) Ab.rels_nil)))).mono fun e W' ⟨he, hb⟩ => ?_
  subst he
  exact ⟨_, rfl, law_post rfl (by kernel_rfl) (by kernel_rfl) rfl hW' hb⟩

set_option maxRecDepth 100000 in
theorem lifted (os : Os) (started : os.Started) (H : Type) (enc : TypeId × Value → H) (F : Stop.Interp) :
    ReturnsInHanded {} Try.checked os 4 .any ((Rows.OpenSpec.upto Rows.storeKeepsSpec).pre6 enc Try.prog Try.f4 Rows.storeKeepsUptoRow.domain false) (((Rows.OpenSpec.upto Rows.storeKeepsSpec).at F).post enc Try.prog Try.f4 false true false false) := by
  refine returnsInHanded_of_cond (C := Try.checked) (s := Rows.OpenSpec.upto Rows.storeKeepsSpec) (k := Rows.uptoSmall) rfl ownsNone started (by kernel_rfl) Try.func4
    (OpenSpec.witness (enc := enc) (C := Try.checked) (s := Rows.OpenSpec.upto Rows.storeKeepsSpec) (k := Rows.uptoSmall) rfl false ⟨#[], #[.slice none 0 0, .slice none 0 0, .int .i64 0], []⟩ 8 (by kernel_rfl) (by kernel_rfl) (by kernel_rfl)
      (x := ([.nil, .nil, .lit (.int .i64 0)], [], [])) (by kernel_rfl) rfl (by kernel_rfl)) ?_
  intro W base args ds gs before hval hW _ hk _
  exact contract H enc W base args ds gs before hval hW hk

theorem over : Rows.storeKeepsUptoRow.holds Try.pinned (Rows.OpenSpec.upto Rows.storeKeepsSpec) :=
  OpenClaim.holds_of_cond 4 Try.f4 rfl rfl rfl rfl rfl rfl rfl ⟨rfl, rfl, rfl, rfl, rfl⟩ rfl rfl rfl rfl rfl (by kernel_rfl) Try.func4 (by kernel_rfl)
    (of_decide_eq_true (by kernel_rfl)) (by unfold Func.isWrapper; first | (rw [if_pos (by decide +kernel)]; kernel_rfl) | (rw [if_neg (by decide +kernel)]; exact ⟨rfl, rfl⟩))
    (fun os started H enc _ F => lifted os started H enc F)

theorem proved : Rows.StoreKeepsUptoSaid :=
  over
end Go.Proofs.Ytcgdjdlcecnanaa.lawStoreKeeps
