/-
  Texts of the proof, one behind the other: Cw DeQ HaS HaP HaA HaB HaC HaD HaE HaF HaG.
  No condition but those that each theorem names.
-/
import Derived.Test.YthbejciebmkclaaGR
import Derived.Test.YthbejciebmkclaaGQ
import Derived.Test.YthbejciebmkclaaGC
namespace Go.Proofs.Ythbejciebmkclaa.Ab
open Go Go.RowKit
set_option linter.unusedVariables false
set_option linter.unusedSimpArgs false

/-! an empty slice inside an element may be nil -/
def cellNz (x y : AV) : Prop := x = y ∨ (x = .nils ∧ ∃ k, y = .sl k [])
def rowNz : List AV → List AV → Prop
  | [], [] => True
  | x :: r, y :: s => cellNz x y ∧ rowNz r s
  | _, _ => False
def rowsNz : List (List AV) → List (List AV) → Prop
  | [], [] => True
  | x :: r, y :: s => rowNz x y ∧ rowsNz r s
  | _, _ => False
theorem rowNz_refl : ∀ r : List AV, rowNz r r
  | [] => trivial
  | x :: r => ⟨.inl rfl, rowNz_refl r⟩
theorem rowsNz_refl : ∀ r : List (List AV), rowsNz r r
  | [] => trivial
  | x :: r => ⟨rowNz_refl x, rowsNz_refl r⟩
theorem rowsNz_append : ∀ {a a' b b' : List (List AV)}, rowsNz a a' → rowsNz b b' → rowsNz (a ++ b) (a' ++ b')
  | [], [], _, _, _, h => h
  | [], _ :: _, _, _, h, _ => h.elim
  | _ :: _, [], _, _, h, _ => h.elim
  | _ :: _, _ :: _, _, _, h, k => ⟨h.1, rowsNz_append h.2 k⟩
theorem rowNz_get : ∀ {r s : List AV}, rowNz r s → r.length = s.length ∧ ∀ (j : Nat) y, s[j]? = some y → ∃ x, r[j]? = some x ∧ cellNz x y
  | [], [], _ => ⟨rfl, by simp⟩
  | [], _ :: _, h => h.elim
  | _ :: _, [], h => h.elim
  | x :: r, y :: s, h => by
    obtain ⟨h1, h2⟩ := rowNz_get h.2
    refine ⟨by simp [h1], fun j z hj => ?_⟩
    cases j with
    | zero => simp at hj; subst hj; exact ⟨x, rfl, h.1⟩
    | succ j => exact h2 j z (by simpa using hj)
theorem rowsNz_get : ∀ {r s : List (List AV)}, rowsNz r s → r.length = s.length ∧ ∀ (j : Nat) y, s[j]? = some y → ∃ x, r[j]? = some x ∧ rowNz x y
  | [], [], _ => ⟨rfl, by simp⟩
  | [], _ :: _, h => h.elim
  | _ :: _, [], h => h.elim
  | x :: r, y :: s, h => by
    obtain ⟨h1, h2⟩ := rowsNz_get h.2
    refine ⟨by simp [h1], fun j z hj => ?_⟩
    cases j with
    | zero => simp at hj; subst hj; exact ⟨x, rfl, h.1⟩
    | succ j => exact h2 j z (by simpa using hj)
theorem cellNz_rel {w : World} {im : Nat → Prop} {ρ : Env} {x y : AV} {v : Value} (h : cellNz x y) (hr : Rel w im ρ x v) (hn : names x = []) : Rel w im ρ y v ∧ names y = [] := by
  rcases h with rfl | ⟨rfl, k, rfl⟩
  · exact ⟨hr, hn⟩
  · cases hr
    exact ⟨.sl k [] none 0 0 0 (fun _ _ => .nilIface) (Nat.le_refl _) (Nat.zero_le _) (fun h => absurd h (by simp)) (by simp) (by simp) (by simp), by simp [names]⟩
theorem Wk.nz {X : Cx} {σ : AS} (t : Nat) {e sz : Nat} {rs rs' : List (List AV)} (hb : blk σ t = some (.rows e sz rs)) (h : rowsNz rs rs') : Wk X σ { σ with bl := (t, some (.rows e sz rs')) :: σ.bl } := by
  intro γ a w ⟨ρ, hs⟩
  have hbk : ∀ n, blk { σ with bl := (t, some (.rows e sz rs')) :: σ.bl } n = if t = n then some (.rows e sz rs') else blk σ n := fun n => by
    simp only [blk, get]
    split <;> rfl
  have hk : ∀ n x, blk { σ with bl := (t, some (.rows e sz rs')) :: σ.bl } n = some x → ∃ y, blk σ n = some y ∧ ∀ b, owns ρ n x b → owns ρ n y b := fun n x hx => by
    rw [hbk] at hx
    split at hx
    · rename_i q; subst q; cases hx; exact ⟨_, hb, fun b h => h⟩
    · exact ⟨x, hx, fun b h => h⟩
  have hk' : ∀ n x, blk σ n = some x → ∃ y, blk { σ with bl := (t, some (.rows e sz rs')) :: σ.bl } n = some y ∧ ∀ b, owns ρ n x b → owns ρ n y b := fun n x hx => by
    rw [hbk]
    split
    · rename_i q; subst q; rw [hb] at hx; cases hx; exact ⟨_, rfl, fun b h => h⟩
    · exact ⟨x, hx, fun b h => h⟩
  have him : imOf X.S X.N0 X.B w ρ (blk { σ with bl := (t, some (.rows e sz rs')) :: σ.bl }) = imOf X.S X.N0 X.B w ρ (blk σ) := by
    funext b
    refine propext ⟨fun ⟨q1, q2, q3⟩ => ⟨q1, q2, fun n x hx => ?_⟩, fun ⟨q1, q2, q3⟩ => ⟨q1, q2, fun n x hx => ?_⟩⟩
    · obtain ⟨y, hy, ho⟩ := hk' n x hx
      exact fun hb => q3 n y hy (ho b hb)
    · obtain ⟨y, hy, ho⟩ := hk n x hx
      exact fun hb => q3 n y hy (ho b hb)
  have hsm : ∀ n, (blk σ n).isSome = true → (blk { σ with bl := (t, some (.rows e sz rs')) :: σ.bl } n).isSome = true := fun n hn => by
    obtain ⟨x, hx⟩ := Option.isSome_iff_exists.1 hn
    obtain ⟨y, hy, _⟩ := hk' n x hx
    rw [hy]; rfl
  refine ⟨ρ, fun u x hx => ?_, ⟨fun n x hx => ?_, fun n m b x y hx hy => ?_, fun n x b hx hnb => ?_, fun b hb => hb.1, fun n cs hx m hm => ?_⟩, hs.nt, hs.base, hs.frm, fun n x b hx hnb => ?_, hs.defers⟩
  · rw [him]
    obtain ⟨h1, h2⟩ := hs.tm u x hx
    exact ⟨h1, fun n hn => hsm n (h2 n hn)⟩
  · rw [him]
    rw [hbk] at hx
    split at hx
    · rename_i q
      subst q
      cases hx
      obtain ⟨q1, q2, q3, A, c, q4, q5, q6, q7⟩ := hs.hp.blk t _ hb
      obtain ⟨l1, l2⟩ := rowsNz_get h
      refine ⟨q1, q2, q3, A, c, by rw [← l1]; exact q4, by omega, q6, ?_⟩
      rcases q7 with ⟨z1, z2, z3, z4⟩ | ⟨b, arr, z1, z2, z3, z4, z5⟩
      · refine .inl ⟨?_, z2, z3, z4⟩
        rw [z1] at l1
        exact List.eq_nil_of_length_eq_zero l1.symm
      · refine .inr ⟨b, arr, z1, z2, z3, z4, fun i row hi => ?_⟩
        obtain ⟨row0, r1, r2⟩ := l2 i row hi
        obtain ⟨m1, m2⟩ := rowNz_get r2
        obtain ⟨y1, y2⟩ := z5 i row0 r1
        refine ⟨by rw [← m1]; exact y1, fun j x hj => ?_⟩
        obtain ⟨x0, x1, x2⟩ := m2 j x hj
        obtain ⟨u1, v, u2, u3, u4⟩ := y2 j x0 x1
        obtain ⟨w1, w2⟩ := cellNz_rel x2 u4 u1
        exact ⟨w2, v, u2, u3, w1⟩
    · exact hs.hp.blk n x hx
  · obtain ⟨x', hx', ho⟩ := hk n x hx
    obtain ⟨y', hy', ho'⟩ := hk m y hy
    exact fun h1 h2 => hs.hp.inj n m b x' y' hx' hy' (ho b h1) (ho' b h2)
  · rw [him]
    obtain ⟨x', hx', ho⟩ := hk n x hx
    exact hs.hp.off n x' b hx' (ho b hnb)
  · rw [hbk] at hx
    split at hx
    · cases hx; cases hm
    · exact hsm m (hs.hp.clos n cs hx m hm)
  · obtain ⟨x', hx', ho⟩ := hk n x hx
    exact hs.own n x' b hx' (ho b hnb)
/-! own slices of an answer, told as plain ones -/
/-- the end of a body's walk -/
def EndW (X : Cx) (n : Nat) (rs : List (Nat × Option Nat)) (r : Res) (e : Exit) (σ' : AS) : Prop := (e = .normal ∨ e = .ret) ∧ ∃ σ2, Wk X σ' σ2 ∧ ∃ σ1, unbox D rs σ2 = some σ1 ∧ ∃ ns rl, Cover D (Ab.freeze σ1 ns) (resS n (rs.map (·.1)) r) rl
theorem conM {G : Ctr} {M : MCtr} (hM : MOk Try.prog D G M) (hok : GOk Try.prog D G) {f : Nat} {fn : Func} {c : Code} {rs : List (Nat × Option Nat)} {args : List AV} {r : Res} {n : Nat} (hf : Try.prog.funcs[f]? = some fn) (hres : fn.results = (rs.map toRV).toArray) (hn : fn.ntmps = n) (lo : Nat → Lo)
    (h : ∀ X : Cx, X.P = Try.prog → X.D = D ∧ X.nb = 0 ∧ X.M = M → X.G = G → X.Ok → evC X lo c (EndW X n rs r) (argS n args))
    (hb : fn.body = some c := by rfl) (hname : (fn.name == "runtime.NumGoroutine") = false := by decide) (hd : (rs.map (·.1)).Nodup := by decide) (hfit : resFit (rs.map (·.1)) r.v = true := by rfl) (hlen : args.length ≤ n ∧ n ≤ 65536 := by simp) (hnm : namess args = [] := by simp [namess, names]) : Con Try.prog D f args r :=
  con_ofM hM mixed tok hok hf hb hname hres hd hfit hn hlen hnm fun X hP hD hG hX => fun γ a w hs => wp_mono (evC_sound hX lo _ _ _ (h X hP hD hG hX) γ a w hs) fun e a' w' ⟨σ', ⟨h1, σ2, h2, h3⟩, h4⟩ => ⟨σ2, ⟨h1, h3⟩, h2 γ a' w' h4⟩
theorem conW {G : Ctr} (hok : GOk Try.prog D G) {f : Nat} {fn : Func} {c : Code} {rs : List (Nat × Option Nat)} {args : List AV} {r : Res} {n : Nat} (hf : Try.prog.funcs[f]? = some fn) (hres : fn.results = (rs.map toRV).toArray) (hn : fn.ntmps = n) (lo : Nat → Lo)
    (h : ∀ X : Cx, X.P = Try.prog → X.D = D ∧ X.nb = 0 ∧ X.M = noM → X.G = G → X.Ok → evC X lo c (EndW X n rs r) (argS n args))
    (hb : fn.body = some c := by rfl) (hname : (fn.name == "runtime.NumGoroutine") = false := by decide) (hd : (rs.map (·.1)).Nodup := by decide) (hfit : resFit (rs.map (·.1)) r.v = true := by rfl) (hlen : args.length ≤ n ∧ n ≤ 65536 := by simp) (hnm : namess args = [] := by simp [namess, names]) : Con Try.prog D f args r :=
  conM MOk.none hok hf hres hn lo h hb hname hd hfit hlen hnm
/-- the end, plainly -/
theorem endW {X : Cx} {n : Nat} {rs : List (Nat × Option Nat)} {r : Res} {e : Exit} {σ' σ1 : AS} (ns : List Nat) (rl : List (Nat × Nat)) (he : e = .normal ∨ e = .ret) (hu : unbox D rs σ' = some σ1) (nt : (resS n (rs.map (·.1)) r).nt = (Ab.freeze σ1 ns).nt) (nd : nodupV rl = true)
    (tm : covT (Ab.freeze σ1 ns) (keys (resS n (rs.map (·.1)) r).bl) rl (resS n (rs.map (·.1)) r).tm) (bl : covB D (Ab.freeze σ1 ns) (keys (resS n (rs.map (·.1)) r).bl) rl (resS n (rs.map (·.1)) r).bl) : EndW X n rs r e σ' :=
  ⟨he, σ', Wk.refl, σ1, hu, ns, rl, nt, nd, tm, bl⟩
theorem endK {X : Cx} {n : Nat} {rs : List (Nat × Option Nat)} {r : Res} {e : Exit} {σ' σ2 σ1 : AS} (hw : Wk X σ' σ2) (ns : List Nat) (rl : List (Nat × Nat)) (he : e = .normal ∨ e = .ret) (hu : unbox D rs σ2 = some σ1) (nt : (resS n (rs.map (·.1)) r).nt = (Ab.freeze σ1 ns).nt) (nd : nodupV rl = true)
    (tm : covT (Ab.freeze σ1 ns) (keys (resS n (rs.map (·.1)) r).bl) rl (resS n (rs.map (·.1)) r).tm) (bl : covB D (Ab.freeze σ1 ns) (keys (resS n (rs.map (·.1)) r).bl) rl (resS n (rs.map (·.1)) r).bl) : EndW X n rs r e σ' :=
  ⟨he, σ2, hw, σ1, hu, ns, rl, nt, nd, tm, bl⟩
/-- a call is gone into -/
theorem inlW {X : Cx} {ops : Array Oper} {σ : AS} {R : AS → Prop} (hX : X.Ok) (hP : X.P = Try.prog) {dst : Option Nat} {f : Operand} {args : Array Operand} {types : Array TypeId} {ty : Nat} {pos : String} {af : Array Edge} {g : Nat} {caps : List AV}
    {fn : Func} {c : Code} {rs : List (Nat × Option Nat)} {n : Nat} (nb : Nat) (lo : Nat → Lo) (hfn : Try.prog.funcs[g]? = some fn) (hres : fn.results = (rs.map toRV).toArray) (hn : fn.ntmps = n)
    (h : ({ X with nb := nb, M := noM } : Cx).Ok → evC { X with nb := nb, M := noM } lo c (fun e σ' => (e = .normal ∨ e = .ret) ∧ ∃ σ1, unbox X.D rs σ' = some σ1 ∧ R (leaveS σ σ1 dst (rs.map (·.1)))) (enterS σ n (args.toList.map (ev σ) ++ caps)))
    (hf : ev σ f = .func g caps := by rfl) (hb : fn.body = some c := by rfl) (hname : (fn.name == "runtime.NumGoroutine") = false := by decide) (hd : (rs.map (·.1)).Nodup := by decide) (hlen : (args.toList.map (ev σ) ++ caps).length ≤ n ∧ n ≤ 65536 := by simp) (hdst : ∀ k, dst = some k → k < σ.nt := by simp) :
    InlOp X ops ⟨dst, .call ⟨.value f, args, types⟩, ty, pos, af, none⟩ σ R :=
  inl_call hX.types hf (by rw [hP]; exact hfn) hb hname hres hd hn hlen hdst nb noM (evC_sound (inl_ok hX nb MOk.none) lo _ _ _ (h (inl_ok hX nb MOk.none)))
attribute [go_sem] asked_none
end Go.Proofs.Ythbejciebmkclaa.Ab
namespace Go.Proofs.Ythbejciebmkclaa.Ab
open Go Go.RowKit
set_option linter.unusedVariables false
set_option linter.unusedSimpArgs false

theorem info_itemQ : (Try.prog.info? 71).map (fun i => (i.zero, i.size, i.bytes)) = some (some (.agg #[.string ⟨#[]⟩, .int .i64 0, .slice none 0 0]), 3, 48) := by kernel_rfl
def itemZQ : List Value := [.string ⟨#[]⟩, .int .i64 0, .slice none 0 0]
theorem zero_itemQ (w : World) : (zeroValue 71).run Try.prog w = .ok (.agg itemZQ.toArray) w := by kernel_rfl
theorem zcells_itemQ : (Builtin.zeroCells (Value.agg itemZQ.toArray).cells 1).toList = itemZQ := by kernel_rfl
set_option maxRecDepth 40000 in
set_option maxHeartbeats 1000000 in
theorem delete_callsQ (rs : List (List AV)) (k : Nat) (hk : k < rs.length) (w : World) (im : Nat → Prop) (ρ : Env) (u : Value) (xs : List Value) (hown : w.ownsRow 0 71 3 u rs.length xs) (hf : FlatRel w im ρ 3 rs xs) :
    Calls Try.prog 81 #[u, .int .i64 k, .int .i64 ((k + 1 : Nat) : Int)] w (RowsPost w im ρ 71 3 u (rs.eraseIdx k)) := by
  obtain ⟨i0, hi0, hz0, hz1, hz2⟩ := info_parts info_itemQ
  rcases hown.2 with ⟨_, h0⟩ | ⟨g, cap, cur, rfl, _, hg, hnc, hcm, hcs, hcx⟩
  · omega
  have hlen := hown.1
  have hcm' : cap ≤ 9223372036854775807 := by simpa [maxLen] using hcm
  have hB : Go.Proofs.Ythbejciebmkclaa.Blk w g 71 cur := hg
  have hfl := hf.one (by decide)
  generalize hnd : (cur.toList.drop ((k + 1) * 3)).take ((rs.length - (k + 1)) * 3) = news
  have hnl : news.length = (rs.length - (k + 1)) * 3 := by
    rw [← hnd, List.length_take, List.length_drop]
    have : cur.toList.length = cap * 3 := hcs
    omega
  have hng : ∀ t u, news[t]? = some u → cur[(k + 1) * 3 + t]? = some u := fun t u ht => by
    rw [← hnd, List.getElem?_take] at ht
    split at ht
    · rw [List.getElem?_drop, Array.getElem?_toList] at ht
      exact ht
    · cases ht
  have hxg : ∀ j, j < rs.length * 3 → xs[j]? = cur[j]? := fun j hj => by
    rw [← hcx, List.getElem?_take, if_pos hj, Array.getElem?_toList]
  obtain ⟨A, hA, hsrc⟩ : ∃ A : Addr, (if cap = k + 1 then some (⟨g, 0, none⟩ : Addr) else some ⟨g, (k + 1) * 3, none⟩) = some A ∧ Hid (∀ t u, news[t]? = some u → w.drew.cell? (A.add t) = some u) := by
    by_cases h : cap = k + 1
    · refine ⟨⟨g, 0, none⟩, by simp [h], fun t u hu => ?_⟩
      have h0 : news.length = 0 := by rw [hnl]; omega
      rw [List.length_eq_zero_iff.1 h0] at hu
      simp at hu
    · refine ⟨⟨g, (k + 1) * 3, none⟩, by simp [h], fun t u hu => ?_⟩
      have := hng t u hu
      rw [add_flat]
      exact hB.drew.cell _ |>.trans this
  have s1 : Hid (news.length = (rs.length - (k + 1)) * 3) := hnl
  have s2 : Hid (∀ u ∈ news, u.oneCell' = true) := by
    intro u hu
    obtain ⟨t, ht⟩ := List.getElem?_of_mem hu
    have h1 := hng t u ht
    have h2 := (List.getElem?_eq_some_iff.1 ht).1
    rw [hnl] at h2
    rw [← hxg _ (by omega)] at h1
    exact hfl u (List.mem_of_getElem? h1)
  have s3 : Hid (∀ t, t < news.length → (w.drew.cell? ⟨g, 0 + k * 3 + t, none⟩).isSome = true ∧ w.drew.frozen? ⟨g, 0 + k * 3 + t, none⟩ = false) := by
    intro t ht
    rw [hnl] at ht
    have hlt : 0 + k * 3 + t < cur.size := by rw [hcs]; omega
    refine ⟨?_, hB.drew.frozen _⟩
    rw [hB.drew.cell]
    simp only [Array.getElem?_eq_getElem hlt, Option.isSome_some]
  obtain ⟨W1, hW1⟩ : ∃ W1, W1 = w.drew.setCells g (0 + k * 3) news := ⟨_, rfl⟩
  have hB1 : Go.Proofs.Ythbejciebmkclaa.Blk W1 g 71 (putL cur (0 + k * 3) news) := by rw [hW1]; exact blk_setCells news _ hB.drew
  have hsz1 : (putL cur (0 + k * 3) news).size = cap * 3 := by rw [putL_size, hcs]
  have hm1 : k + (rs.length - (k + 1)) = rs.length - 1 := by omega
  have hcl : ∀ ty, (Builtin.clear_ #[22] ty #[.slice (some ⟨g, (k + (rs.length - (k + 1))) * 3, none⟩) (rs.length - (k + (rs.length - (k + 1)))) (cap - (k + (rs.length - (k + 1))))]).run Try.prog W1 = .ok (.tuple #[]) (W1.setCells g ((k + (rs.length - (k + 1))) * 3) itemZQ) := fun ty => by
    rw [show rs.length - (k + (rs.length - (k + 1))) = 1 by omega]
    refine run_clear_one W1 _ _ ty _ itemZQ Try.underlying22 zero_itemQ zcells_itemQ (by decide) g _ _ (fun t ht => ?_) (fun t ht => hB1.frozen _)
    have ht7 : t < 3 := ht
    rw [hB1.cell]
    have hlt : (k + (rs.length - (k + 1))) * 3 + t < (putL cur (0 + k * 3) news).size := by rw [hsz1]; omega
    simp only [Array.getElem?_eq_getElem hlt, Option.isSome_some]
  have hW : Hid (W1 = w.drew.setCells g (0 + k * 3) news) := hW1
  have HB1 := Lib.hid hB1
  have HXG := Lib.hid hxg
  have HNG := Lib.hid hng
  have HCS := Lib.hid hcs
  have HLEN := Lib.hid hlen
  have HNL := Lib.hid hnl
  have HF := Lib.hid hf
  have hic : k ≤ cap := by omega
  have hjc : k + 1 ≤ cap := by omega
  clear hW1 hB1 hsz1 hfl hxg hng hcs hcx hlen hnl hnd hf hB hg hown hm1
  generalize hn : rs.length = n at *
  have HN := Lib.hid hn
  clear hn
  have hjn : k + 1 ≤ n := by omega
  have hkj : k < k + 1 := by omega
  have HJ : Hid (∃ j, j = k + 1) := ⟨_, rfl⟩
  generalize hj : k + 1 = j at *
  have HJJ := Lib.hid hj
  clear hj hk
  go_enter Try.func81, Try.ntmps81
  go_wp2_with fail
  go_region_law (refine step_append_room rfl (.tmp 22) (.tmp 25) 22 rfl 71 i0 3 Try.underlying22 hi0 hz1 g 0 k cap (by simp [Act.eval, Act.put]) A (n - j) (cap - j) news (by simp [Act.eval, Act.put]) s1.out hsrc.out s2.out (by omega) s3.out ?_; rw [← hW.out])
  go_wp2
  go_ret
  have hj := HJJ.out
  subst hj
  have hn := HN.out
  have hcs := HCS.out
  have hlen := HLEN.out
  have hnl := HNL.out
  have hxg := HXG.out
  have hng := HNG.out
  have hlr : (rs.eraseIdx k).length = k + (n - (k + 1)) := by rw [List.length_eraseIdx, if_pos (by omega)]; omega
  refine ⟨.slice (some ⟨g, 0, none⟩) (k + (n - (k + 1))) cap, xs.take (k * 3) ++ xs.drop ((k + 1) * 3), rfl, ?_, ?_, ?_, fun b hb => .inl hb⟩
  · rw [hlr]
    refine ⟨by rw [List.length_append, List.length_take, List.length_drop, hlen]; omega, .inr ⟨g, cap, putL (putL cur (0 + k * 3) news) ((k + (n - (k + 1))) * 3) itemZQ, rfl, Nat.zero_le _, blk_setCells itemZQ _ HB1.out, by omega, hcm, by rw [putL_size, putL_size, hcs], ?_⟩⟩
    apply List.ext_getElem?
    intro i
    have hzl : itemZQ.length = 3 := rfl
    by_cases hi : i < (k + (n - (k + 1))) * 3
    · rw [List.getElem?_take, if_pos hi, Array.getElem?_toList, putL_get _ _ _ _ (by rw [putL_size, hcs, hzl]; omega), if_neg (by omega), putL_get _ _ _ _ (by rw [hcs, hnl]; omega)]
      by_cases hik : i < k * 3
      · rw [if_neg (by omega), List.getElem?_append_left (by rw [List.length_take, hlen]; omega), List.getElem?_take, if_pos hik, hxg _ (by omega)]
      · rw [if_pos (by rw [hnl]; omega), List.getElem?_append_right (by rw [List.length_take, hlen]; omega), List.length_take, hlen, List.getElem?_drop]
        have hin : i - (0 + k * 3) < news.length := by rw [hnl]; omega
        have h1 := hng _ _ (List.getElem?_eq_getElem hin)
        rw [List.getElem?_eq_getElem hin, ← h1, ← hxg _ (by omega)]
        congr 1
        omega
    · rw [List.getElem?_eq_none (by rw [List.length_take]; omega), List.getElem?_eq_none (by rw [List.length_append, List.length_take, List.length_drop, hlen]; omega)]
  · obtain ⟨f1, f2⟩ := HF.out
    refine ⟨by rw [hlr, List.length_append, List.length_take, List.length_drop, hlen]; omega, fun i row hi => ?_⟩
    have hil : i < k + (n - (k + 1)) := by rw [← hlr]; exact (List.getElem?_eq_some_iff.1 hi).1
    rw [List.getElem?_eraseIdx] at hi
    split at hi
    · rename_i hik
      obtain ⟨f3, f4⟩ := f2 i row hi
      refine ⟨f3, fun j x hj => ?_⟩
      have hj7 : j < 3 := by rw [← f3]; exact (List.getElem?_eq_some_iff.1 hj).1
      obtain ⟨f5, v, f6, f7⟩ := f4 j x hj
      refine ⟨f5, v, ?_, f7⟩
      rw [List.getElem?_append_left (by rw [List.length_take, hlen]; omega), List.getElem?_take, if_pos (by omega)]
      exact f6
    · rename_i hik
      obtain ⟨f3, f4⟩ := f2 (i + 1) row hi
      refine ⟨f3, fun j x hj => ?_⟩
      have hj7 : j < 3 := by rw [← f3]; exact (List.getElem?_eq_some_iff.1 hj).1
      obtain ⟨f5, v, f6, f7⟩ := f4 j x hj
      refine ⟨f5, v, ?_, f7⟩
      rw [List.getElem?_append_right (by rw [List.length_take, hlen]; omega), List.length_take, hlen, List.getElem?_drop]
      rw [← f6]
      congr 1
      omega
  · refine grown_setCells itemZQ _ ?_
    rw [hW.out]
    exact grown_setCells news _ ⟨rfl, rfl, rfl, Nat.le_refl _, fun _ _ _ => rfl⟩
/-- an item goes out of a slice of our own -/
def deleteMQ : MCtr := fun dn f args bl => if f = 81 then
    match args with
    | [.os v, .int .i64 k, .int .i64 k'] => match bl v with
      | some (.rows e sz rs) => some { v := .os dn, kl := [v], nw := [(dn, .rows e sz (rs.eraseIdx k.toNat))], pre := (e = 71 ∧ sz = 3) ∧ (0 ≤ k ∧ k < rs.length) ∧ k' = k + 1 }
      | _ => none
    | _ => none
  else none
theorem mok_deleteQ {G : Ctr} : MOk Try.prog D G deleteMQ := by
  intro X hP hD hG hM hmx hT hok ops o σ e hgd he hpre hfr
  obtain ⟨dst, f, args, types, ty, pos, af, g, caps, rfl, hf, he⟩ := mEff_call he hgd
  unfold deleteMQ at he
  split at he
  case isFalse => cases he
  rename_i hg91
  subst hg91
  split at he
  case h_2 => cases he
  rename_i v k k' hargs
  split at he
  case h_2 => cases he
  rename_i e0 sz rs hbl
  have hbl := snap_some hbl
  injection he with he
  subst he
  obtain ⟨⟨rfl, rfl⟩, ⟨hk0, hk1⟩, rfl⟩ := hpre
  simp only [fresh, keys, unbound, Bool.and_eq_true, Option.isNone_iff_eq_none] at hfr
  refine inl_rows (by rw [hP, hD]; exact hT) hf hargs hbl (by rw [hP]; exact Try.func81) rfl (by decide) hfr.1.1 (fun j hj => ?_) (fun w im ρ u vs xs h1 h2 h3 h4 h5 => ?_)
  · have := hfr.2
    rw [hj] at this
    simpa using this
  · obtain ⟨h6, h7⟩ := h4
    match vs, h6 with
    | [y, z], _ =>
      have hy := (h7 0 _ y rfl rfl).int_
      have hz := (h7 1 _ z rfl rfl).int_
      obtain ⟨k, rfl⟩ := Int.eq_ofNat_of_zero_le hk0
      rw [hy, hz, hP]
      exact delete_callsQ rs k (by omega) w im ρ u xs h1 h2
end Go.Proofs.Ythbejciebmkclaa.Ab
namespace Go.Proofs.Ythbejciebmkclaa.Ab
open Go Go.RowKit
set_option linter.unusedVariables false
set_option linter.unusedSimpArgs false

structure LEntry where
  kind : Int
  queue : ByteArray
  n : Int
  id : Int
  note : LNote
structure LTag where
  n : Int
  queue : ByteArray
  id : Int
  turn : Int
instance : DecidableEq LEntry := fun a b => decidable_of_iff (a.kind = b.kind ∧ a.queue = b.queue ∧ a.n = b.n ∧ a.id = b.id ∧ a.note = b.note) (by cases a; cases b; simp)
instance : DecidableEq LTag := fun a b => decidable_of_iff (a.n = b.n ∧ a.queue = b.queue ∧ a.id = b.id ∧ a.turn = b.turn) (by cases a; cases b; simp)
instance : DecidableEq LHall := fun a b => decidable_of_iff (a.queues = b.queues ∧ a.next = b.next) (by cases a; cases b; simp)
def entry0 : LEntry := ⟨0, ⟨#[]⟩, 0, 0, note0⟩
def hall0 : LHall := ⟨[], 0⟩
def entryRow (e : LEntry) : List AV := [.int .i64 e.kind, .str e.queue.data.toList, .int .i64 e.n, .int .i64 e.id, .sl 4 (e.note.props.map propRow), .sl 1 (e.note.body.map byteRow)]
def entryA (e : LEntry) : AV := .agg (entryRow e)
def tagRow (t : LTag) : List AV := [.int .i64 t.n, .str t.queue.data.toList, .int .i64 t.id, .int .i64 t.turn]
def tagA (t : LTag) : AV := .agg (tagRow t)
def entriesA (l : List LEntry) : AV := .sl 6 (l.map entryRow)
theorem entryRow_inj {a b : LEntry} (h : entryRow a = entryRow b) : a = b := by
  obtain ⟨i, t, r, o, ⟨p, y⟩⟩ := a
  obtain ⟨i', t', r', o', ⟨p', y'⟩⟩ := b
  simp only [entryRow, List.cons.injEq, AV.int.injEq, AV.str.injEq, AV.sl.injEq, true_and, and_true] at h
  obtain ⟨rfl, h2, rfl, rfl, h4, h5⟩ := h
  rw [bytes_ext h2, props_inj h4, bytes_inj h5]
theorem entries_inj {a b : List LEntry} (h : a.map entryRow = b.map entryRow) : a = b := (List.map_inj_right (fun _ _ h => entryRow_inj h)).1 h
theorem entryA_inj {a b : LEntry} (h : entryA a = entryA b) : a = b := entryRow_inj (AV.agg.inj h)
theorem names_note (n : LNote) : names (noteA n) = [] := by simp [noteA, names, namess]
theorem names_item (n : LItem) : names (itemA n) = [] := by simp [itemA, itemRow, names, namess]
theorem names_queue (n : LQueue) : names (queueA n) = [] := by simp [queueA, names, namess]
theorem names_hall (n : LHall) : names (hallA n) = [] := by simp [hallA, names, namess]
theorem names_entry (n : LEntry) : names (entryA n) = [] := by simp [entryA, entryRow, names, namess]
theorem names_tag (n : LTag) : names (tagA n) = [] := by simp [tagA, tagRow, names, namess]
theorem names_entries (n : List LEntry) : names (entriesA n) = [] := by simp [entriesA, names]
attribute [simp] names_note names_item names_queue names_hall names_entry names_tag names_entries
/-! what is done with halls -/
def nmL (b : ByteArray) : List UInt8 := b.data.toList
def qAt (h : LHall) (k : Nat) : LQueue := h.queues.getD k queue0
def plainI (i : LItem) : LItem := ⟨i.id, 0, 0, false, 0, i.note⟩
def plainQ (q : LQueue) : LQueue := { q with items := q.items.map plainI }
def plainS (h : LHall) : LHall := { h with queues := h.queues.map plainQ }
end Go.Proofs.Ythbejciebmkclaa.Ab
namespace Go.Proofs.Ythbejciebmkclaa.Ab
open Go Go.RowKit
set_option linter.unusedVariables false
set_option linter.unusedSimpArgs false

def itemFine (T : Int) (i : LItem) : Prop := wrongS i.note = 0 ∧ (0 ≤ i.turn ∧ i.turn ≤ T) ∧ 0 ≤ i.tries ∧ i.tries ≤ 2
def queueFine (T : Int) (q : LQueue) : Prop := keyS q.name = true ∧ q.limit ≤ 8 ∧ (q.items.length : Int) ≤ 8 ∧ ∀ i ∈ q.items, itemFine T i
/-- names are unlike -/
def namesOk (l : List LQueue) : Prop := ∀ k, k < l.length → findS l (nmL (l.getD k queue0).name) = (k : Int)
def hallFine (T : Int) (h : LHall) : Prop := namesOk h.queues ∧ ∀ q ∈ h.queues, queueFine T q
theorem keyS_size {s : ByteArray} (h : keyS s = true) : s.size ≤ 8 := by
  unfold keyS at h
  simp at h
  omega
theorem hallOk_fine {h : LHall} (ho : hallOk h) : hallFine 1000 h ∧ h.queues.length ≤ 4 ∧ 0 ≤ h.next ∧ h.next ≤ 1000000 := by
  refine ⟨⟨fun k hk => ((ho.2 k hk).1).2.1, fun q hq => ?_⟩, ho.1⟩
  obtain ⟨k, hk⟩ := List.getElem?_of_mem hq
  have hkl := (List.getElem?_eq_some_iff.1 hk).1
  have e : h.queues.getD k queue0 = q := by rw [List.getD_eq_getElem?_getD, hk]; rfl
  obtain ⟨⟨h1, _, h2, h3, h4⟩, h5⟩ := ho.2 k hkl
  rw [e] at h1 h2 h3 h4 h5
  refine ⟨h1, h3, by omega, fun i hi => ?_⟩
  have := itemsOk_all h5 i hi
  exact ⟨this.2.1, this.2.2.1, this.2.2.2.1⟩
theorem findS_range {l : List LQueue} {nm : List UInt8} : findS l nm = -1 ∨ (0 ≤ findS l nm ∧ findS l nm < l.length) := placeG_range
end Go.Proofs.Ythbejciebmkclaa.Ab
namespace Go.Proofs.Ythbejciebmkclaa.Ab
open Go Go.RowKit
set_option linter.unusedVariables false
set_option linter.unusedSimpArgs false

set_option maxRecDepth 100000 in
set_option maxHeartbeats 1000000 in
theorem con_hfind (l : List LQueue) (next : Int) (nm : List UInt8) (hl : l.length ≤ 1048576) : Con Try.prog D 40 [.agg [.sl 3 (l.map queueRow), .int .i64 next], .str nm] ⟨.int .i64 (findS l nm), []⟩ := by
  have hok : GOk Try.prog D (tabG []) := tabG_ok _
  have gn : ∀ f a, tabG ([] : List (Ent Try.prog D)) f a = none := fun f a => rfl
  generalize tabG [] = G at *
  have hcon : ∀ r, r = findS l nm → Con Try.prog D 40 [.agg [.sl 3 (l.map queueRow), .int .i64 next], .str nm] ⟨.int .i64 r, []⟩ := by
    intro r hr
    unfold findS at hr
    refine conW (G := G) (rs := [(4, none)]) hok Try.func40 Try.results40 Try.ntmps40 (fun _ => {}) fun X hP hD hG' hX => ?_
    simp only [argS, num]
    simp (disch := omega) only [go_sem, Nat.reduceLeDiff, reduceCtorEq, Nat.reduceAdd, Nat.reduceSub, Nat.reduceMul, Nat.reduceLT, Nat.reduceEqDiff, Int.reduceEq, Int.reduceLE, Int.reduceLT, Int.reducePow, Int.reduceMul, Int.reduceToNat, Int.reduceNeg, ↓reduceIte, hD, hG', wrap64, gn, unbox, tmv, Option.some.injEq, exists_eq_left']
    refine inlW (rs := [(4, none)]) hX hP 70000 (fun _ => {}) Try.func94 Try.results94 Try.ntmps94 fun hX1 => ?_
    rw [hD.1, hG'] at hX1
    have hD1 : ({ P := X.P, D := D, G := G, S := X.S, N0 := X.N0, B := X.B, w0 := X.w0, nb := 70000, M := noM } : Cx).D = D ∧ True := ⟨rfl, trivial⟩
    simp (disch := omega) only [go_sem, Nat.reduceLeDiff, reduceCtorEq, Nat.reduceAdd, Nat.reduceSub, Nat.reduceMul, Nat.reduceLT, Nat.reduceEqDiff, Int.reduceEq, Int.reduceLE, Int.reduceLT, Int.reducePow, Int.reduceMul, Int.reduceToNat, Int.reduceNeg, ↓reduceIte, hD, hG', wrap64, gn, enterS, leaveS, shT, unT, resA, num, unbox, Option.some.injEq, exists_eq_left', tmv, unbox, tmv, Option.some.injEq, exists_eq_left']
    refine Tr.loop (ι := Nat) (fun i => i ≤ l.length ∧ ∀ j, j < i → named nm (l.getD j queue0) = false) (fun i => { nt := 19, tm := [(0, .sl 3 (l.map queueRow)), (1, .func 95 [.ptr 3 0]), (7, .int .i64 l.length), (8, .int .i64 i)], bl := [(3, some (.cells [.str nm]))] }) (fun i => l.length - i) 0
      ⟨⟨Nat.zero_le _, fun j hj => absurd hj (Nat.not_lt_zero j)⟩, wk_of hD1 [(3, 3)] rfl rfl (by simp only [go_sem, Nat.reduceEqDiff]; simp) (by simp only [go_sem, Nat.reduceEqDiff])⟩ ?_
    rintro i ⟨hi, hnot⟩
    refine evC_sound hX1 (fun _ => {}) _ _ _ ?_
    simp (disch := omega) only [go_sem, Nat.reduceLeDiff, reduceCtorEq, Nat.reduceAdd, Nat.reduceSub, Nat.reduceMul, Nat.reduceLT, Nat.reduceEqDiff, Int.reduceEq, Int.reduceLE, Int.reduceLT, Int.reducePow, Int.reduceMul, Int.reduceToNat, Int.reduceNeg, ↓reduceIte, hD, hG', wrap64, gn, unbox, tmv, Option.some.injEq, exists_eq_left']
    refine condK_split (fun h => ?_) (fun h => ?_)
    · rw [decide_eq_true_eq] at h
      have hi1 : i < l.length := by omega
      have hgx := queueGet hi1
      have hit : ∀ x, l.getD i queue0 = x → named nm x = true → r = (i : Int) := fun x hx hp => by
        rw [hr, placeG_hit hi1 hnot (by rw [hx]; exact hp)]
        omega
      generalize hx : l.getD i queue0 = x at *
      have hit := hit x rfl
      obtain ⟨qn, ql, qi⟩ := x
      simp only [queueRow] at hgx
      simp (disch := omega) only [go_sem, Nat.reduceLeDiff, reduceCtorEq, Nat.reduceAdd, Nat.reduceSub, Nat.reduceMul, Nat.reduceLT, Nat.reduceEqDiff, Int.reduceEq, Int.reduceLE, Int.reduceLT, Int.reducePow, Int.reduceMul, Int.reduceToNat, Int.reduceNeg, ↓reduceIte, hD, hG', wrap64, gn, hgx, unbox, tmv, Option.some.injEq, exists_eq_left']
      refine ⟨by omega, inlW (rs := [(3, none)]) hX1 hP 140000 (fun _ => {}) Try.func95 Try.results95 Try.ntmps95 fun hX2 => ?_⟩
      simp (disch := omega) only [go_sem, Nat.reduceLeDiff, reduceCtorEq, Nat.reduceAdd, Nat.reduceSub, Nat.reduceMul, Nat.reduceLT, Nat.reduceEqDiff, Int.reduceEq, Int.reduceLE, Int.reduceLT, Int.reducePow, Int.reduceMul, Int.reduceToNat, Int.reduceNeg, ↓reduceIte, hD, hG', wrap64, gn, enterS, leaveS, shT, unT, resA, num, unbox, Option.some.injEq, exists_eq_left', tmv, unbox, tmv, Option.some.injEq, exists_eq_left']
      refine condK_split (fun h => ?_) (fun h => ?_)
      · have hp : named nm ⟨qn, ql, qi⟩ = true := h
        simp (disch := omega) only [go_sem, Nat.reduceLeDiff, reduceCtorEq, Nat.reduceAdd, Nat.reduceSub, Nat.reduceMul, Nat.reduceLT, Nat.reduceEqDiff, Int.reduceEq, Int.reduceLE, Int.reduceLT, Int.reducePow, Int.reduceMul, Int.reduceToNat, Int.reduceNeg, ↓reduceIte, hD, hG', wrap64, enterS, leaveS, shT, unT, resA, num, unbox, Option.some.injEq, exists_eq_left', tmv, unbox, tmv, Option.some.injEq, exists_eq_left']
        refine endW [] [] (by simp) rfl rfl rfl ?_ ?_ <;> simp only [go_sem, Nat.reduceEqDiff]
        rw [hit hp]
      · have hp : named nm ⟨qn, ql, qi⟩ = false := h
        simp (disch := omega) only [go_sem, Nat.reduceLeDiff, reduceCtorEq, Nat.reduceAdd, Nat.reduceSub, Nat.reduceMul, Nat.reduceLT, Nat.reduceEqDiff, Int.reduceEq, Int.reduceLE, Int.reduceLT, Int.reducePow, Int.reduceMul, Int.reduceToNat, Int.reduceNeg, ↓reduceIte, hD, hG', wrap64, enterS, leaveS, shT, unT, resA, num, unbox, Option.some.injEq, exists_eq_left', tmv, unbox, tmv, Option.some.injEq, exists_eq_left']
        refine ⟨i + 1, ⟨⟨by omega, fun j hj => ?_⟩, by omega⟩, wk_of hD1 [(3, 3)] rfl rfl ?_ ?_⟩
        · by_cases hji : j = i
          · rw [hji, hx]; exact hp
          · exact hnot j (by omega)
        all_goals simp only [go_sem, Nat.reduceEqDiff]
        simp
    · rw [decide_eq_false_iff_not] at h
      have hie : i = l.length := by omega
      subst hie
      simp (disch := omega) only [go_sem, Nat.reduceLeDiff, reduceCtorEq, Nat.reduceAdd, Nat.reduceSub, Nat.reduceMul, Nat.reduceLT, Nat.reduceEqDiff, Int.reduceEq, Int.reduceLE, Int.reduceLT, Int.reducePow, Int.reduceMul, Int.reduceToNat, Int.reduceNeg, ↓reduceIte, hD, hG', wrap64, enterS, leaveS, shT, unT, resA, num, unbox, Option.some.injEq, exists_eq_left', tmv, unbox, tmv, Option.some.injEq, exists_eq_left']
      refine endW [] [] (by simp) rfl rfl rfl ?_ ?_ <;> simp only [go_sem, Nat.reduceEqDiff]
      rw [hr, placeG_miss hnot]
  exact hcon _ rfl
end Go.Proofs.Ythbejciebmkclaa.Ab
namespace Go.Proofs.Ythbejciebmkclaa.Ab
open Go Go.RowKit
set_option linter.unusedVariables false
set_option linter.unusedSimpArgs false

def eHfind : Ent Try.prog D := ⟨40, LHall × List UInt8, fun x => [hallA x.1, .str x.2], fun x => x.1.queues.length ≤ 1048576, fun x => ⟨.int .i64 (findS x.1.queues x.2), []⟩, fun x y _ _ h => by
  simp only [List.cons.injEq, AV.str.injEq, and_true] at h
  have e : x = y := Prod.ext (hallA_inj h.1) h.2
  rw [e], fun x h => con_hfind x.1.queues x.1.next x.2 h⟩
theorem take_queue {l : List LQueue} {i : Nat} (h : i < l.length) : l.take (i + 1) = l.take i ++ [l.getD i queue0] := by
  rw [List.take_succ_eq_append_getElem h]
  simp [h]
def hres (r : LHall × List LEntry × Int) : AV := .tup [hallA r.1, entriesA r.2.1, .int .i64 r.2.2]
end Go.Proofs.Ythbejciebmkclaa.Ab
namespace Go.Proofs.Ythbejciebmkclaa.Ab
open Go Go.RowKit
set_option linter.unusedVariables false
set_option linter.unusedSimpArgs false

end Go.Proofs.Ythbejciebmkclaa.Ab
namespace Go.Proofs.Ythbejciebmkclaa.Ab
open Go Go.RowKit
set_option linter.unusedVariables false
set_option linter.unusedSimpArgs false

end Go.Proofs.Ythbejciebmkclaa.Ab
namespace Go.Proofs.Ythbejciebmkclaa.Ab
open Go Go.RowKit
set_option linter.unusedVariables false
set_option linter.unusedSimpArgs false

end Go.Proofs.Ythbejciebmkclaa.Ab
namespace Go.Proofs.Ythbejciebmkclaa.Ab
open Go Go.RowKit
set_option linter.unusedVariables false
set_option linter.unusedSimpArgs false

end Go.Proofs.Ythbejciebmkclaa.Ab
namespace Go.Proofs.Ythbejciebmkclaa.Ab
open Go Go.RowKit
set_option linter.unusedVariables false
set_option linter.unusedSimpArgs false

end Go.Proofs.Ythbejciebmkclaa.Ab
