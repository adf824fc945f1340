/-
  Laws for the walk: a map of a few entries that the call itself writes out, and asks.
  No condition but that the keys are of the map's kind.
-/
import Derived.Test.YtcgdjdlcecnanaaLaws
import Derived.MapKept
namespace Go.Proofs.Ytcgdjdlcecnanaa
open Go.RowKit
set_option linter.unusedSimpArgs false
set_option linter.unusedVariables false

section
variable {P : Program}
theorem setObj_alloc (W : World) (o o' : Obj) : ({ W.alloc o with heap := (W.alloc o).heap.setIfInBounds W.heap.size o' } : World) = W.alloc o' := by
  simp only [World.alloc]
  congr 1
  apply Array.ext
  · simp
  · intro i h1 h2
    rw [Array.getElem_setIfInBounds (by simpa using h1), Array.getElem_push, Array.getElem_push]
    by_cases h : W.heap.size = i
    · subst h; simp
    · have hi : i < W.heap.size := by simp at h1; omega
      simp [h, hi]

theorem run_insert_alloc (t kt et : TypeId) (hu : P.underlying t = some (.map kt et)) (d : TypeDesc) (hk : P.underlying kt = some d) (W : World) (es : Array MapEntry) (c : Nat) (k v : Value)
    (hik : MapKept.IsKey d k) (hf : Instr.findNow d k es.toList 0 = some none) :
    (Instr.mapUpdate t (.map (some W.heap.size)) k v).run P (W.alloc (.map es c)) = .ok () (W.alloc (.map (es.push ⟨k, v, c⟩) (c + 1))) := by
  have h0 : (W.alloc (.map es c)).heap[W.heap.size]? = some (.map es c) := heap_alloc_new W _
  simp [Instr.mapUpdate, run_underlying hu, MapKept.run_getObj_map h0, MapKept.run_checkKey hk hik, MapKept.run_findKey hk hf, MapKept.run_setObj_map _ h0, Result.andThen]
  exact setObj_alloc W _ _

theorem run_lookup_lit (t kt et : TypeId) (hu : P.underlying t = some (.map kt et)) (d : TypeDesc) (hk : P.underlying kt = some d) (W : World) (r : Nat) (es : Array MapEntry) (c : Nat) (k : Value) (ok : Bool)
    (hg : W.heap[r]? = some (.map es c)) (z : Value) (hz : (zeroValue et).run P W = .ok z W) (hik : MapKept.IsKey d k) (f : Option (Nat × Value)) (hf : Instr.findNow d k es.toList 0 = some f) :
    (Instr.lookup t (.map (some r)) k ok).run P W = .ok (if ok then .tuple #[(f.map (·.2)).getD z, .bool f.isSome] else (f.map (·.2)).getD z) W := by
  cases f with
  | none => simp [Instr.lookup, run_underlying hu, MapKept.run_getObj_map hg, MapKept.run_checkKey hk hik, MapKept.run_findKey hk hf, hz, Result.andThen]
  | some x => obtain ⟨i, v⟩ := x; simp [Instr.lookup, run_underlying hu, MapKept.run_getObj_map hg, MapKept.run_checkKey hk hik, MapKept.run_findKey hk hf, Result.andThen]

theorem lit_ins0 {t kt et : TypeId} (hu : P.underlying t = some (.map kt et)) (hk : P.underlying kt = some (.int .i64)) : ∀ (W : World) (k : Int) (v : Value),
    (Instr.mapUpdate t (.map (some W.heap.size)) (.int .i64 k) v).run P (W.alloc (.map #[] 0)) = .ok () (W.alloc (.map #[⟨.int .i64 k, v, 0⟩] 1)) :=
  fun W _ _ => run_insert_alloc t kt et hu _ hk W #[] 0 _ _ rfl rfl
theorem lit_ins1 {t kt et : TypeId} (hu : P.underlying t = some (.map kt et)) (hk : P.underlying kt = some (.int .i64)) : ∀ (W : World) (k0 : Int) (v0 : Value) (k : Int) (v : Value), (k == k0) = false →
    (Instr.mapUpdate t (.map (some W.heap.size)) (.int .i64 k) v).run P (W.alloc (.map #[⟨.int .i64 k0, v0, 0⟩] 1)) = .ok () (W.alloc (.map #[⟨.int .i64 k0, v0, 0⟩, ⟨.int .i64 k, v, 1⟩] 2)) :=
  fun W k0 v0 k _ h => run_insert_alloc t kt et hu _ hk W #[⟨.int .i64 k0, v0, 0⟩] 1 _ _ rfl (by simp [Instr.findNow, Instr.sameNow, h])
theorem lit_ins2 {t kt et : TypeId} (hu : P.underlying t = some (.map kt et)) (hk : P.underlying kt = some (.int .i64)) : ∀ (W : World) (k0 : Int) (v0 : Value) (k1 : Int) (v1 : Value) (k : Int) (v : Value), (k == k0) = false → (k == k1) = false →
    (Instr.mapUpdate t (.map (some W.heap.size)) (.int .i64 k) v).run P (W.alloc (.map #[⟨.int .i64 k0, v0, 0⟩, ⟨.int .i64 k1, v1, 1⟩] 2)) = .ok () (W.alloc (.map #[⟨.int .i64 k0, v0, 0⟩, ⟨.int .i64 k1, v1, 1⟩, ⟨.int .i64 k, v, 2⟩] 3)) :=
  fun W k0 v0 k1 v1 k _ h h' => run_insert_alloc t kt et hu _ hk W #[⟨.int .i64 k0, v0, 0⟩, ⟨.int .i64 k1, v1, 1⟩] 2 _ _ rfl (by simp [Instr.findNow, Instr.sameNow, h, h'])
theorem lit_look {t kt et : TypeId} (hu : P.underlying t = some (.map kt et)) (hk : P.underlying kt = some (.int .i64)) (es : Array MapEntry) (c : Nat) (k : Int) (ok : Bool) (z : Value) (hz : ∀ W, (zeroValue et).run P W = .ok z W)
    (f : Option (Nat × Value)) (hf : Instr.findNow (.int .i64) (.int .i64 k) es.toList 0 = some f) : ∀ (W : World),
    (Instr.lookup t (.map (some W.heap.size)) (.int .i64 k) ok).run P (W.alloc (.map es c)) = .ok (if ok then .tuple #[(f.map (·.2)).getD z, .bool f.isSome] else (f.map (·.2)).getD z) (W.alloc (.map es c)) :=
  fun W => run_lookup_lit t kt et hu _ hk _ _ es c (.int .i64 k) ok (heap_alloc_new W _) z (hz _) rfl f hf
end

end Go.Proofs.Ytcgdjdlcecnanaa
