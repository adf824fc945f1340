/-
  Texts of the proof, one behind the other: Cw DeQ HaS HaP HaA HaB HaC HaD HaE HaF HaG.
  No condition but those that each theorem names.
-/
import Derived.Test.YthbejciebmkclaaGR
import Derived.Test.YthbejciebmkclaaGQ
import Derived.Test.YthbejciebmkclaaGC
namespace Go.Proofs.Ythbejciebmkclaa.Ab
open Go Go.RowKit
set_option linter.unusedVariables false
set_option linter.unusedSimpArgs false

/-! an empty slice inside an element may be nil -/
def cellNz (x y : AV) : Prop := x = y ∨ (x = .nils ∧ ∃ k, y = .sl k [])
def rowNz : List AV → List AV → Prop
  | [], [] => True
  | x :: r, y :: s => cellNz x y ∧ rowNz r s
  | _, _ => False
def rowsNz : List (List AV) → List (List AV) → Prop
  | [], [] => True
  | x :: r, y :: s => rowNz x y ∧ rowsNz r s
  | _, _ => False
theorem rowNz_refl : ∀ r : List AV, rowNz r r
  | [] => trivial
  | x :: r => ⟨.inl rfl, rowNz_refl r⟩
theorem rowsNz_refl : ∀ r : List (List AV), rowsNz r r
  | [] => trivial
  | x :: r => ⟨rowNz_refl x, rowsNz_refl r⟩
theorem rowsNz_append : ∀ {a a' b b' : List (List AV)}, rowsNz a a' → rowsNz b b' → rowsNz (a ++ b) (a' ++ b')
  | [], [], _, _, _, h => h
  | [], _ :: _, _, _, h, _ => h.elim
  | _ :: _, [], _, _, h, _ => h.elim
  | _ :: _, _ :: _, _, _, h, k => ⟨h.1, rowsNz_append h.2 k⟩
theorem rowsNz_map {α : Type} {f g : α → List AV} (h : ∀ x, rowNz (f x) (g x)) : ∀ l : List α, rowsNz (l.map f) (l.map g)
  | [] => trivial
  | x :: r => ⟨h x, rowsNz_map h r⟩
theorem rowNz_get : ∀ {r s : List AV}, rowNz r s → r.length = s.length ∧ ∀ (j : Nat) y, s[j]? = some y → ∃ x, r[j]? = some x ∧ cellNz x y
  | [], [], _ => ⟨rfl, by simp⟩
  | [], _ :: _, h => h.elim
  | _ :: _, [], h => h.elim
  | x :: r, y :: s, h => by
    obtain ⟨h1, h2⟩ := rowNz_get h.2
    refine ⟨by simp [h1], fun j z hj => ?_⟩
    cases j with
    | zero => simp at hj; subst hj; exact ⟨x, rfl, h.1⟩
    | succ j => exact h2 j z (by simpa using hj)
theorem rowsNz_get : ∀ {r s : List (List AV)}, rowsNz r s → r.length = s.length ∧ ∀ (j : Nat) y, s[j]? = some y → ∃ x, r[j]? = some x ∧ rowNz x y
  | [], [], _ => ⟨rfl, by simp⟩
  | [], _ :: _, h => h.elim
  | _ :: _, [], h => h.elim
  | x :: r, y :: s, h => by
    obtain ⟨h1, h2⟩ := rowsNz_get h.2
    refine ⟨by simp [h1], fun j z hj => ?_⟩
    cases j with
    | zero => simp at hj; subst hj; exact ⟨x, rfl, h.1⟩
    | succ j => exact h2 j z (by simpa using hj)
theorem cellNz_rel {w : World} {im : Nat → Prop} {ρ : Env} {x y : AV} {v : Value} (h : cellNz x y) (hr : Rel w im ρ x v) (hn : names x = []) : Rel w im ρ y v ∧ names y = [] := by
  rcases h with rfl | ⟨rfl, k, rfl⟩
  · exact ⟨hr, hn⟩
  · cases hr
    exact ⟨.sl k [] none 0 0 0 (fun _ _ => .nilIface) (Nat.le_refl _) (Nat.zero_le _) (fun h => absurd h (by simp)) (by simp) (by simp) (by simp), by simp [names]⟩
theorem Wk.nz {X : Cx} {σ : AS} (t : Nat) {e sz : Nat} {rs rs' : List (List AV)} (hb : blk σ t = some (.rows e sz rs)) (h : rowsNz rs rs') : Wk X σ { σ with bl := (t, some (.rows e sz rs')) :: σ.bl } := by
  intro γ a w ⟨ρ, hs⟩
  have hbk : ∀ n, blk { σ with bl := (t, some (.rows e sz rs')) :: σ.bl } n = if t = n then some (.rows e sz rs') else blk σ n := fun n => by
    simp only [blk, get]
    split <;> rfl
  have hk : ∀ n x, blk { σ with bl := (t, some (.rows e sz rs')) :: σ.bl } n = some x → ∃ y, blk σ n = some y ∧ ∀ b, owns ρ n x b → owns ρ n y b := fun n x hx => by
    rw [hbk] at hx
    split at hx
    · rename_i q; subst q; cases hx; exact ⟨_, hb, fun b h => h⟩
    · exact ⟨x, hx, fun b h => h⟩
  have hk' : ∀ n x, blk σ n = some x → ∃ y, blk { σ with bl := (t, some (.rows e sz rs')) :: σ.bl } n = some y ∧ ∀ b, owns ρ n x b → owns ρ n y b := fun n x hx => by
    rw [hbk]
    split
    · rename_i q; subst q; rw [hb] at hx; cases hx; exact ⟨_, rfl, fun b h => h⟩
    · exact ⟨x, hx, fun b h => h⟩
  have him : imOf X.S X.N0 X.B w ρ (blk { σ with bl := (t, some (.rows e sz rs')) :: σ.bl }) = imOf X.S X.N0 X.B w ρ (blk σ) := by
    funext b
    refine propext ⟨fun ⟨q1, q2, q3⟩ => ⟨q1, q2, fun n x hx => ?_⟩, fun ⟨q1, q2, q3⟩ => ⟨q1, q2, fun n x hx => ?_⟩⟩
    · obtain ⟨y, hy, ho⟩ := hk' n x hx
      exact fun hb => q3 n y hy (ho b hb)
    · obtain ⟨y, hy, ho⟩ := hk n x hx
      exact fun hb => q3 n y hy (ho b hb)
  have hsm : ∀ n, (blk σ n).isSome = true → (blk { σ with bl := (t, some (.rows e sz rs')) :: σ.bl } n).isSome = true := fun n hn => by
    obtain ⟨x, hx⟩ := Option.isSome_iff_exists.1 hn
    obtain ⟨y, hy, _⟩ := hk' n x hx
    rw [hy]; rfl
  refine ⟨ρ, fun u x hx => ?_, ⟨fun n x hx => ?_, fun n m b x y hx hy => ?_, fun n x b hx hnb => ?_, fun b hb => hb.1, fun n cs hx m hm => ?_⟩, hs.nt, hs.base, hs.frm, fun n x b hx hnb => ?_, hs.defers⟩
  · rw [him]
    obtain ⟨h1, h2⟩ := hs.tm u x hx
    exact ⟨h1, fun n hn => hsm n (h2 n hn)⟩
  · rw [him]
    rw [hbk] at hx
    split at hx
    · rename_i q
      subst q
      cases hx
      obtain ⟨q1, q2, q3, A, c, q4, q5, q6, q7⟩ := hs.hp.blk t _ hb
      obtain ⟨l1, l2⟩ := rowsNz_get h
      refine ⟨q1, q2, q3, A, c, by rw [← l1]; exact q4, by omega, q6, ?_⟩
      rcases q7 with ⟨z1, z2, z3, z4⟩ | ⟨b, arr, z1, z2, z3, z4, z5⟩
      · refine .inl ⟨?_, z2, z3, z4⟩
        rw [z1] at l1
        exact List.eq_nil_of_length_eq_zero l1.symm
      · refine .inr ⟨b, arr, z1, z2, z3, z4, fun i row hi => ?_⟩
        obtain ⟨row0, r1, r2⟩ := l2 i row hi
        obtain ⟨m1, m2⟩ := rowNz_get r2
        obtain ⟨y1, y2⟩ := z5 i row0 r1
        refine ⟨by rw [← m1]; exact y1, fun j x hj => ?_⟩
        obtain ⟨x0, x1, x2⟩ := m2 j x hj
        obtain ⟨u1, v, u2, u3, u4⟩ := y2 j x0 x1
        obtain ⟨w1, w2⟩ := cellNz_rel x2 u4 u1
        exact ⟨w2, v, u2, u3, w1⟩
    · exact hs.hp.blk n x hx
  · obtain ⟨x', hx', ho⟩ := hk n x hx
    obtain ⟨y', hy', ho'⟩ := hk m y hy
    exact fun h1 h2 => hs.hp.inj n m b x' y' hx' hy' (ho b h1) (ho' b h2)
  · rw [him]
    obtain ⟨x', hx', ho⟩ := hk n x hx
    exact hs.hp.off n x' b hx' (ho b hnb)
  · rw [hbk] at hx
    split at hx
    · cases hx; cases hm
    · exact hsm m (hs.hp.clos n cs hx m hm)
  · obtain ⟨x', hx', ho⟩ := hk n x hx
    exact hs.own n x' b hx' (ho b hnb)
/-! own slices of an answer, told as plain ones -/
def ownF (own : List (Nat × Nat × List (List AV))) (n : Nat) : Option Blk := (own[n]?).map fun x => .rows x.1 x.2.1 x.2.2
theorem Con.plainR {P : Program} {D : Nat → TI} {f : Nat} {args : List AV} {v : AV} {own : List (Nat × Nat × List (List AV))} (h : Con P D f args ⟨v, own⟩) : Con P D f args ⟨fz (List.range own.length) (ownF own) v, []⟩ := by
  obtain ⟨h0, h⟩ := h
  refine ⟨h0, fun w im ρ vs him hvs => (h w im ρ vs him hvs).mono fun e w' ⟨u, he, hfrm, ρo, hown, hinj, hrel, hnm⟩ => ⟨u, he, hfrm, ρo, fun k e sz rs hk => by simp at hk, fun k l b hk => by simp at hk, ?_, fun n hn => ?_⟩⟩
  · refine Rel.fz (D := D) (w := w') (im := imR w w' im ρo own.length) (fun n x _ hx => ?_) (fun b hb => ⟨hb.1, hb.2.1, fun m hm => by simp at hm⟩) (fun n x b _ hx hb => ?_) hrel
    · simp only [ownF, Option.map_eq_some_iff] at hx
      obtain ⟨⟨e, sz, rs⟩, hx, rfl⟩ := hx
      exact (hown n e sz rs hx).1
    · simp only [ownF, Option.map_eq_some_iff] at hx
      obtain ⟨⟨e, sz, rs⟩, hx, rfl⟩ := hx
      obtain ⟨q1, q2⟩ := hown n e sz rs hx
      exact ⟨q1.lt hb, .inr (q2 b hb), fun m hm => by simp at hm⟩
  · obtain ⟨q1, q2⟩ := names_fz _ _ v n hn
    exact absurd (List.mem_range.2 (hnm n q1)) q2
/-- the end of a body's walk -/
def EndW (X : Cx) (n : Nat) (rs : List (Nat × Option Nat)) (r : Res) (e : Exit) (σ' : AS) : Prop := (e = .normal ∨ e = .ret) ∧ ∃ σ2, Wk X σ' σ2 ∧ ∃ σ1, unbox D rs σ2 = some σ1 ∧ ∃ ns rl, Cover D (Ab.freeze σ1 ns) (resS n (rs.map (·.1)) r) rl
theorem conM {G : Ctr} {M : MCtr} (hM : MOk Try.prog D G M) (hok : GOk Try.prog D G) {f : Nat} {fn : Func} {c : Code} {rs : List (Nat × Option Nat)} {args : List AV} {r : Res} {n : Nat} (hf : Try.prog.funcs[f]? = some fn) (hres : fn.results = (rs.map toRV).toArray) (hn : fn.ntmps = n) (lo : Nat → Lo)
    (h : ∀ X : Cx, X.P = Try.prog → X.D = D ∧ X.nb = 0 ∧ X.M = M → X.G = G → X.Ok → evC X lo c (EndW X n rs r) (argS n args))
    (hb : fn.body = some c := by rfl) (hname : (fn.name == "runtime.NumGoroutine") = false := by decide) (hd : (rs.map (·.1)).Nodup := by decide) (hfit : resFit (rs.map (·.1)) r.v = true := by rfl) (hlen : args.length ≤ n ∧ n ≤ 65536 := by simp) (hnm : namess args = [] := by simp [namess, names]) : Con Try.prog D f args r :=
  con_ofM hM mixed tok hok hf hb hname hres hd hfit hn hlen hnm fun X hP hD hG hX => fun γ a w hs => wp_mono (evC_sound hX lo _ _ _ (h X hP hD hG hX) γ a w hs) fun e a' w' ⟨σ', ⟨h1, σ2, h2, h3⟩, h4⟩ => ⟨σ2, ⟨h1, h3⟩, h2 γ a' w' h4⟩
theorem conW {G : Ctr} (hok : GOk Try.prog D G) {f : Nat} {fn : Func} {c : Code} {rs : List (Nat × Option Nat)} {args : List AV} {r : Res} {n : Nat} (hf : Try.prog.funcs[f]? = some fn) (hres : fn.results = (rs.map toRV).toArray) (hn : fn.ntmps = n) (lo : Nat → Lo)
    (h : ∀ X : Cx, X.P = Try.prog → X.D = D ∧ X.nb = 0 ∧ X.M = noM → X.G = G → X.Ok → evC X lo c (EndW X n rs r) (argS n args))
    (hb : fn.body = some c := by rfl) (hname : (fn.name == "runtime.NumGoroutine") = false := by decide) (hd : (rs.map (·.1)).Nodup := by decide) (hfit : resFit (rs.map (·.1)) r.v = true := by rfl) (hlen : args.length ≤ n ∧ n ≤ 65536 := by simp) (hnm : namess args = [] := by simp [namess, names]) : Con Try.prog D f args r :=
  conM MOk.none hok hf hres hn lo h hb hname hd hfit hlen hnm
/-- the end, plainly -/
theorem endW {X : Cx} {n : Nat} {rs : List (Nat × Option Nat)} {r : Res} {e : Exit} {σ' σ1 : AS} (ns : List Nat) (rl : List (Nat × Nat)) (he : e = .normal ∨ e = .ret) (hu : unbox D rs σ' = some σ1) (nt : (resS n (rs.map (·.1)) r).nt = (Ab.freeze σ1 ns).nt) (nd : nodupV rl = true)
    (tm : covT (Ab.freeze σ1 ns) (keys (resS n (rs.map (·.1)) r).bl) rl (resS n (rs.map (·.1)) r).tm) (bl : covB D (Ab.freeze σ1 ns) (keys (resS n (rs.map (·.1)) r).bl) rl (resS n (rs.map (·.1)) r).bl) : EndW X n rs r e σ' :=
  ⟨he, σ', Wk.refl, σ1, hu, ns, rl, nt, nd, tm, bl⟩
theorem endK {X : Cx} {n : Nat} {rs : List (Nat × Option Nat)} {r : Res} {e : Exit} {σ' σ2 σ1 : AS} (hw : Wk X σ' σ2) (ns : List Nat) (rl : List (Nat × Nat)) (he : e = .normal ∨ e = .ret) (hu : unbox D rs σ2 = some σ1) (nt : (resS n (rs.map (·.1)) r).nt = (Ab.freeze σ1 ns).nt) (nd : nodupV rl = true)
    (tm : covT (Ab.freeze σ1 ns) (keys (resS n (rs.map (·.1)) r).bl) rl (resS n (rs.map (·.1)) r).tm) (bl : covB D (Ab.freeze σ1 ns) (keys (resS n (rs.map (·.1)) r).bl) rl (resS n (rs.map (·.1)) r).bl) : EndW X n rs r e σ' :=
  ⟨he, σ2, hw, σ1, hu, ns, rl, nt, nd, tm, bl⟩
/-- a call is gone into -/
theorem inlW {X : Cx} {ops : Array Oper} {σ : AS} {R : AS → Prop} (hX : X.Ok) (hP : X.P = Try.prog) {dst : Option Nat} {f : Operand} {args : Array Operand} {types : Array TypeId} {ty : Nat} {pos : String} {af : Array Edge} {g : Nat} {caps : List AV}
    {fn : Func} {c : Code} {rs : List (Nat × Option Nat)} {n : Nat} (nb : Nat) (lo : Nat → Lo) (hfn : Try.prog.funcs[g]? = some fn) (hres : fn.results = (rs.map toRV).toArray) (hn : fn.ntmps = n)
    (h : ({ X with nb := nb, M := noM } : Cx).Ok → evC { X with nb := nb, M := noM } lo c (fun e σ' => (e = .normal ∨ e = .ret) ∧ ∃ σ1, unbox X.D rs σ' = some σ1 ∧ R (leaveS σ σ1 dst (rs.map (·.1)))) (enterS σ n (args.toList.map (ev σ) ++ caps)))
    (hf : ev σ f = .func g caps := by rfl) (hb : fn.body = some c := by rfl) (hname : (fn.name == "runtime.NumGoroutine") = false := by decide) (hd : (rs.map (·.1)).Nodup := by decide) (hlen : (args.toList.map (ev σ) ++ caps).length ≤ n ∧ n ≤ 65536 := by simp) (hdst : ∀ k, dst = some k → k < σ.nt := by simp) :
    InlOp X ops ⟨dst, .call ⟨.value f, args, types⟩, ty, pos, af, none⟩ σ R :=
  inl_call hX.types hf (by rw [hP]; exact hfn) hb hname hres hd hn hlen hdst nb noM (evC_sound (inl_ok hX nb MOk.none) lo _ _ _ (h (inl_ok hX nb MOk.none)))
attribute [go_sem] asked_none
end Go.Proofs.Ythbejciebmkclaa.Ab
namespace Go.Proofs.Ythbejciebmkclaa.Ab
open Go Go.RowKit
set_option linter.unusedVariables false
set_option linter.unusedSimpArgs false

theorem info_itemQ : (Try.prog.info? 71).map (fun i => (i.zero, i.size, i.bytes)) = some (some (.agg #[.string ⟨#[]⟩, .int .i64 0, .slice none 0 0]), 3, 48) := by kernel_rfl
def itemZQ : List Value := [.string ⟨#[]⟩, .int .i64 0, .slice none 0 0]
theorem zero_itemQ (w : World) : (zeroValue 71).run Try.prog w = .ok (.agg itemZQ.toArray) w := by kernel_rfl
theorem zcells_itemQ : (Builtin.zeroCells (Value.agg itemZQ.toArray).cells 1).toList = itemZQ := by kernel_rfl
set_option maxRecDepth 40000 in
set_option maxHeartbeats 1000000 in
theorem delete_callsQ (rs : List (List AV)) (k : Nat) (hk : k < rs.length) (w : World) (im : Nat → Prop) (ρ : Env) (u : Value) (xs : List Value) (hown : w.ownsRow 0 71 3 u rs.length xs) (hf : FlatRel w im ρ 3 rs xs) :
    Calls Try.prog 81 #[u, .int .i64 k, .int .i64 ((k + 1 : Nat) : Int)] w (RowsPost w im ρ 71 3 u (rs.eraseIdx k)) := by
  obtain ⟨i0, hi0, hz0, hz1, hz2⟩ := info_parts info_itemQ
  rcases hown.2 with ⟨_, h0⟩ | ⟨g, cap, cur, rfl, _, hg, hnc, hcm, hcs, hcx⟩
  · omega
  have hlen := hown.1
  have hcm' : cap ≤ 9223372036854775807 := by simpa [maxLen] using hcm
  have hB : Go.Proofs.Ythbejciebmkclaa.Blk w g 71 cur := hg
  have hfl := hf.one (by decide)
  generalize hnd : (cur.toList.drop ((k + 1) * 3)).take ((rs.length - (k + 1)) * 3) = news
  have hnl : news.length = (rs.length - (k + 1)) * 3 := by
    rw [← hnd, List.length_take, List.length_drop]
    have : cur.toList.length = cap * 3 := hcs
    omega
  have hng : ∀ t u, news[t]? = some u → cur[(k + 1) * 3 + t]? = some u := fun t u ht => by
    rw [← hnd, List.getElem?_take] at ht
    split at ht
    · rw [List.getElem?_drop, Array.getElem?_toList] at ht
      exact ht
    · cases ht
  have hxg : ∀ j, j < rs.length * 3 → xs[j]? = cur[j]? := fun j hj => by
    rw [← hcx, List.getElem?_take, if_pos hj, Array.getElem?_toList]
  obtain ⟨A, hA, hsrc⟩ : ∃ A : Addr, (if cap = k + 1 then some (⟨g, 0, none⟩ : Addr) else some ⟨g, (k + 1) * 3, none⟩) = some A ∧ Hid (∀ t u, news[t]? = some u → w.drew.cell? (A.add t) = some u) := by
    by_cases h : cap = k + 1
    · refine ⟨⟨g, 0, none⟩, by simp [h], fun t u hu => ?_⟩
      have h0 : news.length = 0 := by rw [hnl]; omega
      rw [List.length_eq_zero_iff.1 h0] at hu
      simp at hu
    · refine ⟨⟨g, (k + 1) * 3, none⟩, by simp [h], fun t u hu => ?_⟩
      have := hng t u hu
      rw [add_flat]
      exact hB.drew.cell _ |>.trans this
  have s1 : Hid (news.length = (rs.length - (k + 1)) * 3) := hnl
  have s2 : Hid (∀ u ∈ news, u.oneCell' = true) := by
    intro u hu
    obtain ⟨t, ht⟩ := List.getElem?_of_mem hu
    have h1 := hng t u ht
    have h2 := (List.getElem?_eq_some_iff.1 ht).1
    rw [hnl] at h2
    rw [← hxg _ (by omega)] at h1
    exact hfl u (List.mem_of_getElem? h1)
  have s3 : Hid (∀ t, t < news.length → (w.drew.cell? ⟨g, 0 + k * 3 + t, none⟩).isSome = true ∧ w.drew.frozen? ⟨g, 0 + k * 3 + t, none⟩ = false) := by
    intro t ht
    rw [hnl] at ht
    have hlt : 0 + k * 3 + t < cur.size := by rw [hcs]; omega
    refine ⟨?_, hB.drew.frozen _⟩
    rw [hB.drew.cell]
    simp only [Array.getElem?_eq_getElem hlt, Option.isSome_some]
  obtain ⟨W1, hW1⟩ : ∃ W1, W1 = w.drew.setCells g (0 + k * 3) news := ⟨_, rfl⟩
  have hB1 : Go.Proofs.Ythbejciebmkclaa.Blk W1 g 71 (putL cur (0 + k * 3) news) := by rw [hW1]; exact blk_setCells news _ hB.drew
  have hsz1 : (putL cur (0 + k * 3) news).size = cap * 3 := by rw [putL_size, hcs]
  have hm1 : k + (rs.length - (k + 1)) = rs.length - 1 := by omega
  have hcl : ∀ ty, (Builtin.clear_ #[22] ty #[.slice (some ⟨g, (k + (rs.length - (k + 1))) * 3, none⟩) (rs.length - (k + (rs.length - (k + 1)))) (cap - (k + (rs.length - (k + 1))))]).run Try.prog W1 = .ok (.tuple #[]) (W1.setCells g ((k + (rs.length - (k + 1))) * 3) itemZQ) := fun ty => by
    rw [show rs.length - (k + (rs.length - (k + 1))) = 1 by omega]
    refine run_clear_one W1 _ _ ty _ itemZQ Try.underlying22 zero_itemQ zcells_itemQ (by decide) g _ _ (fun t ht => ?_) (fun t ht => hB1.frozen _)
    have ht7 : t < 3 := ht
    rw [hB1.cell]
    have hlt : (k + (rs.length - (k + 1))) * 3 + t < (putL cur (0 + k * 3) news).size := by rw [hsz1]; omega
    simp only [Array.getElem?_eq_getElem hlt, Option.isSome_some]
  have hW : Hid (W1 = w.drew.setCells g (0 + k * 3) news) := hW1
  have HB1 := Lib.hid hB1
  have HXG := Lib.hid hxg
  have HNG := Lib.hid hng
  have HCS := Lib.hid hcs
  have HLEN := Lib.hid hlen
  have HNL := Lib.hid hnl
  have HF := Lib.hid hf
  have hic : k ≤ cap := by omega
  have hjc : k + 1 ≤ cap := by omega
  clear hW1 hB1 hsz1 hfl hxg hng hcs hcx hlen hnl hnd hf hB hg hown hm1
  generalize hn : rs.length = n at *
  have HN := Lib.hid hn
  clear hn
  have hjn : k + 1 ≤ n := by omega
  have hkj : k < k + 1 := by omega
  have HJ : Hid (∃ j, j = k + 1) := ⟨_, rfl⟩
  generalize hj : k + 1 = j at *
  have HJJ := Lib.hid hj
  clear hj hk
  go_enter Try.func81, Try.ntmps81
  go_wp2_with fail
  go_region_law (refine step_append_room rfl (.tmp 22) (.tmp 25) 22 rfl 71 i0 3 Try.underlying22 hi0 hz1 g 0 k cap (by simp [Act.eval, Act.put]) A (n - j) (cap - j) news (by simp [Act.eval, Act.put]) s1.out hsrc.out s2.out (by omega) s3.out ?_; rw [← hW.out])
  go_wp2
  go_ret
  have hj := HJJ.out
  subst hj
  have hn := HN.out
  have hcs := HCS.out
  have hlen := HLEN.out
  have hnl := HNL.out
  have hxg := HXG.out
  have hng := HNG.out
  have hlr : (rs.eraseIdx k).length = k + (n - (k + 1)) := by rw [List.length_eraseIdx, if_pos (by omega)]; omega
  refine ⟨.slice (some ⟨g, 0, none⟩) (k + (n - (k + 1))) cap, xs.take (k * 3) ++ xs.drop ((k + 1) * 3), rfl, ?_, ?_, ?_, fun b hb => .inl hb⟩
  · rw [hlr]
    refine ⟨by rw [List.length_append, List.length_take, List.length_drop, hlen]; omega, .inr ⟨g, cap, putL (putL cur (0 + k * 3) news) ((k + (n - (k + 1))) * 3) itemZQ, rfl, Nat.zero_le _, blk_setCells itemZQ _ HB1.out, by omega, hcm, by rw [putL_size, putL_size, hcs], ?_⟩⟩
    apply List.ext_getElem?
    intro i
    have hzl : itemZQ.length = 3 := rfl
    by_cases hi : i < (k + (n - (k + 1))) * 3
    · rw [List.getElem?_take, if_pos hi, Array.getElem?_toList, putL_get _ _ _ _ (by rw [putL_size, hcs, hzl]; omega), if_neg (by omega), putL_get _ _ _ _ (by rw [hcs, hnl]; omega)]
      by_cases hik : i < k * 3
      · rw [if_neg (by omega), List.getElem?_append_left (by rw [List.length_take, hlen]; omega), List.getElem?_take, if_pos hik, hxg _ (by omega)]
      · rw [if_pos (by rw [hnl]; omega), List.getElem?_append_right (by rw [List.length_take, hlen]; omega), List.length_take, hlen, List.getElem?_drop]
        have hin : i - (0 + k * 3) < news.length := by rw [hnl]; omega
        have h1 := hng _ _ (List.getElem?_eq_getElem hin)
        rw [List.getElem?_eq_getElem hin, ← h1, ← hxg _ (by omega)]
        congr 1
        omega
    · rw [List.getElem?_eq_none (by rw [List.length_take]; omega), List.getElem?_eq_none (by rw [List.length_append, List.length_take, List.length_drop, hlen]; omega)]
  · obtain ⟨f1, f2⟩ := HF.out
    refine ⟨by rw [hlr, List.length_append, List.length_take, List.length_drop, hlen]; omega, fun i row hi => ?_⟩
    have hil : i < k + (n - (k + 1)) := by rw [← hlr]; exact (List.getElem?_eq_some_iff.1 hi).1
    rw [List.getElem?_eraseIdx] at hi
    split at hi
    · rename_i hik
      obtain ⟨f3, f4⟩ := f2 i row hi
      refine ⟨f3, fun j x hj => ?_⟩
      have hj7 : j < 3 := by rw [← f3]; exact (List.getElem?_eq_some_iff.1 hj).1
      obtain ⟨f5, v, f6, f7⟩ := f4 j x hj
      refine ⟨f5, v, ?_, f7⟩
      rw [List.getElem?_append_left (by rw [List.length_take, hlen]; omega), List.getElem?_take, if_pos (by omega)]
      exact f6
    · rename_i hik
      obtain ⟨f3, f4⟩ := f2 (i + 1) row hi
      refine ⟨f3, fun j x hj => ?_⟩
      have hj7 : j < 3 := by rw [← f3]; exact (List.getElem?_eq_some_iff.1 hj).1
      obtain ⟨f5, v, f6, f7⟩ := f4 j x hj
      refine ⟨f5, v, ?_, f7⟩
      rw [List.getElem?_append_right (by rw [List.length_take, hlen]; omega), List.length_take, hlen, List.getElem?_drop]
      rw [← f6]
      congr 1
      omega
  · refine grown_setCells itemZQ _ ?_
    rw [hW.out]
    exact grown_setCells news _ ⟨rfl, rfl, rfl, Nat.le_refl _, fun _ _ _ => rfl⟩
/-- an item goes out of a slice of our own -/
def deleteMQ : MCtr := fun dn f args bl => if f = 81 then
    match args with
    | [.os v, .int .i64 k, .int .i64 k'] => match bl v with
      | some (.rows e sz rs) => some { v := .os dn, kl := [v], nw := [(dn, .rows e sz (rs.eraseIdx k.toNat))], pre := (e = 71 ∧ sz = 3) ∧ (0 ≤ k ∧ k < rs.length) ∧ k' = k + 1 }
      | _ => none
    | _ => none
  else none
theorem mok_deleteQ {G : Ctr} : MOk Try.prog D G deleteMQ := by
  intro X hP hD hG hM hmx hT hok ops o σ e hgd he hpre hfr
  obtain ⟨dst, f, args, types, ty, pos, af, g, caps, rfl, hf, he⟩ := mEff_call he hgd
  unfold deleteMQ at he
  split at he
  case isFalse => cases he
  rename_i hg91
  subst hg91
  split at he
  case h_2 => cases he
  rename_i v k k' hargs
  split at he
  case h_2 => cases he
  rename_i e0 sz rs hbl
  have hbl := snap_some hbl
  injection he with he
  subst he
  obtain ⟨⟨rfl, rfl⟩, ⟨hk0, hk1⟩, rfl⟩ := hpre
  simp only [fresh, keys, unbound, Bool.and_eq_true, Option.isNone_iff_eq_none] at hfr
  refine inl_rows (by rw [hP, hD]; exact hT) hf hargs hbl (by rw [hP]; exact Try.func81) rfl (by decide) hfr.1.1 (fun j hj => ?_) (fun w im ρ u vs xs h1 h2 h3 h4 h5 => ?_)
  · have := hfr.2
    rw [hj] at this
    simpa using this
  · obtain ⟨h6, h7⟩ := h4
    match vs, h6 with
    | [y, z], _ =>
      have hy := (h7 0 _ y rfl rfl).int_
      have hz := (h7 1 _ z rfl rfl).int_
      obtain ⟨k, rfl⟩ := Int.eq_ofNat_of_zero_le hk0
      rw [hy, hz, hP]
      exact delete_callsQ rs k (by omega) w im ρ u xs h1 h2
end Go.Proofs.Ythbejciebmkclaa.Ab
namespace Go.Proofs.Ythbejciebmkclaa.Ab
open Go Go.RowKit
set_option linter.unusedVariables false
set_option linter.unusedSimpArgs false

structure LEntry where
  kind : Int
  queue : ByteArray
  n : Int
  id : Int
  note : LNote
structure LTag where
  n : Int
  queue : ByteArray
  id : Int
  turn : Int
instance : DecidableEq LEntry := fun a b => decidable_of_iff (a.kind = b.kind ∧ a.queue = b.queue ∧ a.n = b.n ∧ a.id = b.id ∧ a.note = b.note) (by cases a; cases b; simp)
instance : DecidableEq LTag := fun a b => decidable_of_iff (a.n = b.n ∧ a.queue = b.queue ∧ a.id = b.id ∧ a.turn = b.turn) (by cases a; cases b; simp)
instance : DecidableEq LHall := fun a b => decidable_of_iff (a.queues = b.queues ∧ a.next = b.next) (by cases a; cases b; simp)
def entry0 : LEntry := ⟨0, ⟨#[]⟩, 0, 0, note0⟩
def tag0 : LTag := ⟨0, ⟨#[]⟩, 0, 0⟩
def hall0 : LHall := ⟨[], 0⟩
def entryRow (e : LEntry) : List AV := [.int .i64 e.kind, .str e.queue.data.toList, .int .i64 e.n, .int .i64 e.id, .sl 4 (e.note.props.map propRow), .sl 1 (e.note.body.map byteRow)]
def entryA (e : LEntry) : AV := .agg (entryRow e)
def tagRow (t : LTag) : List AV := [.int .i64 t.n, .str t.queue.data.toList, .int .i64 t.id, .int .i64 t.turn]
def tagA (t : LTag) : AV := .agg (tagRow t)
def entriesA (l : List LEntry) : AV := .sl 6 (l.map entryRow)
theorem entryRow_inj {a b : LEntry} (h : entryRow a = entryRow b) : a = b := by
  obtain ⟨i, t, r, o, ⟨p, y⟩⟩ := a
  obtain ⟨i', t', r', o', ⟨p', y'⟩⟩ := b
  simp only [entryRow, List.cons.injEq, AV.int.injEq, AV.str.injEq, AV.sl.injEq, true_and, and_true] at h
  obtain ⟨rfl, h2, rfl, rfl, h4, h5⟩ := h
  rw [bytes_ext h2, props_inj h4, bytes_inj h5]
theorem tagRow_inj {a b : LTag} (h : tagRow a = tagRow b) : a = b := by
  obtain ⟨i, t, r, o⟩ := a
  obtain ⟨i', t', r', o'⟩ := b
  simp only [tagRow, List.cons.injEq, AV.int.injEq, AV.str.injEq, true_and, and_true] at h
  obtain ⟨rfl, h2, rfl, rfl⟩ := h
  rw [bytes_ext h2]
theorem entries_inj {a b : List LEntry} (h : a.map entryRow = b.map entryRow) : a = b := (List.map_inj_right (fun _ _ h => entryRow_inj h)).1 h
theorem tags_inj {a b : List LTag} (h : a.map tagRow = b.map tagRow) : a = b := (List.map_inj_right (fun _ _ h => tagRow_inj h)).1 h
theorem tagA_inj {a b : LTag} (h : tagA a = tagA b) : a = b := tagRow_inj (AV.agg.inj h)
theorem entryA_inj {a b : LEntry} (h : entryA a = entryA b) : a = b := entryRow_inj (AV.agg.inj h)
theorem names_note (n : LNote) : names (noteA n) = [] := by simp [noteA, names, namess]
theorem names_item (n : LItem) : names (itemA n) = [] := by simp [itemA, itemRow, names, namess]
theorem names_queue (n : LQueue) : names (queueA n) = [] := by simp [queueA, names, namess]
theorem names_hall (n : LHall) : names (hallA n) = [] := by simp [hallA, names, namess]
theorem names_entry (n : LEntry) : names (entryA n) = [] := by simp [entryA, entryRow, names, namess]
theorem names_tag (n : LTag) : names (tagA n) = [] := by simp [tagA, tagRow, names, namess]
theorem names_entries (n : List LEntry) : names (entriesA n) = [] := by simp [entriesA, names]
attribute [simp] names_note names_item names_queue names_hall names_entry names_tag names_entries
/-! what is done with halls -/
def nmL (b : ByteArray) : List UInt8 := b.data.toList
def qAt (h : LHall) (k : Nat) : LQueue := h.queues.getD k queue0
def setQ (h : LHall) (k : Nat) (q : LQueue) : LHall := { h with queues := h.queues.set k q }
def makeS (h : LHall) (nm : ByteArray) (n : Int) : LHall × List LEntry × Int :=
  if keyS nm = false ∨ 0 ≤ findS h.queues (nmL nm) then (hall0, [], 7)
  else if n < 1 ∨ 8 < n then (hall0, [], 3)
  else if 4 ≤ h.queues.length then (hall0, [], 5)
  else (⟨h.queues ++ [⟨nm, n, []⟩], h.next⟩, [⟨1, nm, n, 0, note0⟩], 0)
def dropS (h : LHall) (nm : ByteArray) : LHall × List LEntry × Int :=
  if findS h.queues (nmL nm) < 0 then (hall0, [], 6)
  else ({ h with queues := h.queues.eraseIdx (findS h.queues (nmL nm)).toNat }, [⟨2, nm, 0, 0, note0⟩], 0)
/-- a note is put into the queue at k -/
def putAt (h : LHall) (k : Nat) (n : LNote) : LHall × List LEntry × Int :=
  if (putS (qAt h k) h.next n).2 ≠ 0 then (h, [], (putS (qAt h k) h.next n).2)
  else ({ queues := h.queues.set k (putS (qAt h k) h.next n).1, next := h.next + 1 }, [⟨3, (qAt h k).name, 0, h.next, n⟩], 0)
def hputS (h : LHall) (nm : ByteArray) (n : LNote) : LHall × List LEntry × Int :=
  if wrongS n ≠ 0 then (hall0, [], wrongS n)
  else if findS h.queues (nmL nm) < 0 then (hall0, [], 6)
  else if (putAt h (findS h.queues (nmL nm)).toNat n).2.2 ≠ 0 then (hall0, [], (putAt h (findS h.queues (nmL nm)).toNat n).2.2)
  else putAt h (findS h.queues (nmL nm)).toNat n
def htakeS (h : LHall) (nm : ByteArray) (now : Int) : LHall × LItem × Int :=
  if findS h.queues (nmL nm) < 0 then (hall0, item0, 6)
  else if (takeS (qAt h (findS h.queues (nmL nm)).toNat) now).2.2 ≠ 0 then (hall0, item0, 9)
  else (setQ h (findS h.queues (nmL nm)).toNat (takeS (qAt h (findS h.queues (nmL nm)).toNat) now).1, (takeS (qAt h (findS h.queues (nmL nm)).toNat) now).2.1, 0)
def hdoneS (h : LHall) (t : LTag) : LHall × List LEntry × Int :=
  if findS h.queues (nmL t.queue) < 0 then (hall0, [], 6)
  else if (doneS (qAt h (findS h.queues (nmL t.queue)).toNat) t.id t.turn).2 ≠ 0 then (hall0, [], (doneS (qAt h (findS h.queues (nmL t.queue)).toNat) t.id t.turn).2)
  else (setQ h (findS h.queues (nmL t.queue)).toNat (doneS (qAt h (findS h.queues (nmL t.queue)).toNat) t.id t.turn).1, [⟨4, t.queue, 0, t.id, note0⟩], 0)
def deadB : ByteArray := ⟨#[100, 101, 97, 100]⟩
/-- an item that came back too often goes to the queue "dead", if that is another one -/
def deadS (h : LHall) (k : Int) (n : LNote) : LHall × List LEntry :=
  if 0 ≤ findS h.queues (nmL deadB) ∧ findS h.queues (nmL deadB) ≠ k then ((putAt h (findS h.queues (nmL deadB)).toNat n).1, (putAt h (findS h.queues (nmL deadB)).toNat n).2.1) else (h, [])
def hbackS (h : LHall) (t : LTag) : LHall × List LEntry × Int :=
  if findS h.queues (nmL t.queue) < 0 then (hall0, [], 6)
  else match backS (qAt h (findS h.queues (nmL t.queue)).toNat) t.id t.turn with
    | (q, i, d, e) =>
      if e ≠ 0 then (hall0, [], e)
      else if d = false then (setQ h (findS h.queues (nmL t.queue)).toNat q, [], 0)
      else match deadS (setQ h (findS h.queues (nmL t.queue)).toNat q) (findS h.queues (nmL t.queue)) i.note with
        | (x, es) => (x, ⟨4, t.queue, 0, t.id, note0⟩ :: es, 0)
def hpurgeS (h : LHall) (nm : ByteArray) : LHall × List LEntry × Int :=
  if findS h.queues (nmL nm) < 0 then (hall0, [], 6)
  else (setQ h (findS h.queues (nmL nm)).toNat (purgeS (qAt h (findS h.queues (nmL nm)).toNat)).1, (purgeS (qAt h (findS h.queues (nmL nm)).toNat)).2.map fun i => ⟨4, nm, 0, i, note0⟩, 0)
def plainI (i : LItem) : LItem := ⟨i.id, 0, 0, false, 0, i.note⟩
def plainQ (q : LQueue) : LQueue := { q with items := q.items.map plainI }
def plainS (h : LHall) : LHall := { h with queues := h.queues.map plainQ }
end Go.Proofs.Ythbejciebmkclaa.Ab
namespace Go.Proofs.Ythbejciebmkclaa.Ab
open Go Go.RowKit
set_option linter.unusedVariables false
set_option linter.unusedSimpArgs false

def itemFine (T : Int) (i : LItem) : Prop := wrongS i.note = 0 ∧ (0 ≤ i.turn ∧ i.turn ≤ T) ∧ 0 ≤ i.tries ∧ i.tries ≤ 2
def queueFine (T : Int) (q : LQueue) : Prop := keyS q.name = true ∧ q.limit ≤ 8 ∧ (q.items.length : Int) ≤ 8 ∧ ∀ i ∈ q.items, itemFine T i
/-- names are unlike -/
def namesOk (l : List LQueue) : Prop := ∀ k, k < l.length → findS l (nmL (l.getD k queue0).name) = (k : Int)
def hallFine (T : Int) (h : LHall) : Prop := namesOk h.queues ∧ ∀ q ∈ h.queues, queueFine T q
theorem keyS_size {s : ByteArray} (h : keyS s = true) : s.size ≤ 8 := by
  unfold keyS at h
  simp at h
  omega
theorem itemFine_fits {T : Int} {i : LItem} (h : itemFine T i) : i.note.Fits := fits_right h.1
theorem queueFine_ok {T : Int} {q : LQueue} (h : queueFine T q) (hT : T ≤ 1000000) : q.Ok :=
  ⟨⟨by have := h.2.2.1; omega, fun i hi => itemFine_fits (h.2.2.2 i hi)⟩, fun i hi => by obtain ⟨_, h1, h2⟩ := h.2.2.2 i hi; omega⟩
theorem hallFine_fits {T : Int} {h : LHall} (hf : hallFine T h) (hT : T ≤ 1000000) (hl : h.queues.length ≤ 1048576) : h.Fits :=
  ⟨hl, fun q hq => ⟨(queueFine_ok (hf.2 q hq) hT).1, by have := keyS_size (hf.2 q hq).1; omega⟩⟩
theorem hallOk_fine {h : LHall} (ho : hallOk h) : hallFine 1000 h ∧ h.queues.length ≤ 4 ∧ 0 ≤ h.next ∧ h.next ≤ 1000000 := by
  refine ⟨⟨fun k hk => ((ho.2 k hk).1).2.1, fun q hq => ?_⟩, ho.1⟩
  obtain ⟨k, hk⟩ := List.getElem?_of_mem hq
  have hkl := (List.getElem?_eq_some_iff.1 hk).1
  have e : h.queues.getD k queue0 = q := by rw [List.getD_eq_getElem?_getD, hk]; rfl
  obtain ⟨⟨h1, _, h2, h3, h4⟩, h5⟩ := ho.2 k hkl
  rw [e] at h1 h2 h3 h4 h5
  refine ⟨h1, h3, by omega, fun i hi => ?_⟩
  have := itemsOk_all h5 i hi
  exact ⟨this.2.1, this.2.2.1, this.2.2.2.1⟩
theorem findS_range {l : List LQueue} {nm : List UInt8} : findS l nm = -1 ∨ (0 ≤ findS l nm ∧ findS l nm < l.length) := placeG_range
theorem find_lt {l : List LQueue} {nm : List UInt8} (h : ¬ findS l nm < 0) : (findS l nm).toNat < l.length := by
  have := @findS_range l nm
  omega
/-- finding asks for names alone -/
theorem placeG_congr {α : Type} {p : α → Bool} : ∀ {l m : List α} {s : Int}, l.map p = m.map p → placeG p l s = placeG p m s
  | [], [], _, _ => rfl
  | [], _ :: _, _, h => by simp at h
  | _ :: _, [], _, h => by simp at h
  | a :: l, b :: m, s, h => by
    simp only [List.map_cons, List.cons.injEq] at h
    simp only [placeG, h.1]
    rw [placeG_congr h.2]
theorem findS_congr {l m : List LQueue} {nm : List UInt8} (h : l.map (·.name) = m.map (·.name)) : findS l nm = findS m nm := by
  refine placeG_congr ?_
  have : ∀ k : List LQueue, k.map (named nm) = (k.map (·.name)).map (fun b => b.data.toList == nm) := fun k => by rw [List.map_map]; rfl
  rw [this, this, h]
theorem set_names {l : List LQueue} {k : Nat} {q : LQueue} (h : q.name = (l.getD k queue0).name) : (l.set k q).map (·.name) = l.map (·.name) := by
  by_cases hk : k < l.length
  · rw [List.map_set]
    apply List.ext_getElem?
    intro i
    rw [List.getElem?_set]
    split
    · rename_i e
      subst e
      have : l.getD k queue0 = l[k] := by simp [hk]
      rw [this] at h
      simp [hk, h]
    · rfl
  · rw [List.set_eq_of_length_le (by omega)]
theorem findS_set {l : List LQueue} {k : Nat} {q : LQueue} {nm : List UInt8} (h : q.name = (l.getD k queue0).name) : findS (l.set k q) nm = findS l nm := findS_congr (set_names h)
theorem getD_set {α : Type} {l : List α} {k j : Nat} {x d : α} (hk : k < l.length) : (l.set k x).getD j d = if j = k then x else l.getD j d := by
  by_cases h : j = k
  · subst h; rw [if_pos rfl]; simp [hk]
  · rw [if_neg h]
    simp [List.getElem?_set, Ne.symm h]
/-- what is found has the name -/
theorem find_name {l : List LQueue} {nm : ByteArray} (h : ¬ findS l (nmL nm) < 0) : (l.getD (findS l (nmL nm)).toNat queue0).name = nm := by
  have key : ∀ (l : List LQueue) (s : Int), placeG (named (nmL nm)) l s = -1 ∨ ∃ k, k < l.length ∧ placeG (named (nmL nm)) l s = s + k ∧ named (nmL nm) (l.getD k queue0) = true := by
    intro l
    induction l with
    | nil => intro s; exact .inl rfl
    | cons a r ih =>
      intro s
      simp only [placeG]
      split
      · rename_i ha
        exact .inr ⟨0, by simp, by simp, by simpa using ha⟩
      · rcases ih (s + 1) with h | ⟨k, h1, h2, h3⟩
        · exact .inl h
        · exact .inr ⟨k + 1, by simpa using h1, by rw [h2]; push_cast; omega, by rw [List.getD_cons_succ]; exact h3⟩
  rcases key l 0 with h1 | ⟨k, h1, h2, h3⟩
  · exact absurd h (by unfold findS; rw [h1]; decide)
  · have e : findS l (nmL nm) = (k : Int) := by unfold findS; rw [h2]; omega
    rw [e, Int.toNat_natCast]
    simp only [named, nmL, beq_iff_eq] at h3
    exact bytes_ext h3
end Go.Proofs.Ythbejciebmkclaa.Ab
namespace Go.Proofs.Ythbejciebmkclaa.Ab
open Go Go.RowKit
set_option linter.unusedVariables false
set_option linter.unusedSimpArgs false

set_option maxRecDepth 100000 in
set_option maxHeartbeats 1000000 in
theorem con_hfind (l : List LQueue) (next : Int) (nm : List UInt8) (hl : l.length ≤ 1048576) : Con Try.prog D 40 [.agg [.sl 3 (l.map queueRow), .int .i64 next], .str nm] ⟨.int .i64 (findS l nm), []⟩ := by
  have hok : GOk Try.prog D (tabG []) := tabG_ok _
  have gn : ∀ f a, tabG ([] : List (Ent Try.prog D)) f a = none := fun f a => rfl
  generalize tabG [] = G at *
  have hcon : ∀ r, r = findS l nm → Con Try.prog D 40 [.agg [.sl 3 (l.map queueRow), .int .i64 next], .str nm] ⟨.int .i64 r, []⟩ := by
    intro r hr
    unfold findS at hr
    refine conW (G := G) (rs := [(4, none)]) hok Try.func40 Try.results40 Try.ntmps40 (fun _ => {}) fun X hP hD hG' hX => ?_
    simp only [argS, num]
    simp (disch := omega) only [go_sem, Nat.reduceLeDiff, reduceCtorEq, Nat.reduceAdd, Nat.reduceSub, Nat.reduceMul, Nat.reduceLT, Nat.reduceEqDiff, Int.reduceEq, Int.reduceLE, Int.reduceLT, Int.reducePow, Int.reduceMul, Int.reduceToNat, Int.reduceNeg, ↓reduceIte, hD, hG', wrap64, gn, unbox, tmv, Option.some.injEq, exists_eq_left']
    refine inlW (rs := [(4, none)]) hX hP 70000 (fun _ => {}) Try.func94 Try.results94 Try.ntmps94 fun hX1 => ?_
    rw [hD.1, hG'] at hX1
    have hD1 : ({ P := X.P, D := D, G := G, S := X.S, N0 := X.N0, B := X.B, w0 := X.w0, nb := 70000, M := noM } : Cx).D = D ∧ True := ⟨rfl, trivial⟩
    simp (disch := omega) only [go_sem, Nat.reduceLeDiff, reduceCtorEq, Nat.reduceAdd, Nat.reduceSub, Nat.reduceMul, Nat.reduceLT, Nat.reduceEqDiff, Int.reduceEq, Int.reduceLE, Int.reduceLT, Int.reducePow, Int.reduceMul, Int.reduceToNat, Int.reduceNeg, ↓reduceIte, hD, hG', wrap64, gn, enterS, leaveS, shT, unT, resA, num, unbox, Option.some.injEq, exists_eq_left', tmv, unbox, tmv, Option.some.injEq, exists_eq_left']
    refine Tr.loop (ι := Nat) (fun i => i ≤ l.length ∧ ∀ j, j < i → named nm (l.getD j queue0) = false) (fun i => { nt := 19, tm := [(0, .sl 3 (l.map queueRow)), (1, .func 95 [.ptr 3 0]), (7, .int .i64 l.length), (8, .int .i64 i)], bl := [(3, some (.cells [.str nm]))] }) (fun i => l.length - i) 0
      ⟨⟨Nat.zero_le _, fun j hj => absurd hj (Nat.not_lt_zero j)⟩, wk_of hD1 [(3, 3)] rfl rfl (by simp only [go_sem, Nat.reduceEqDiff]; simp) (by simp only [go_sem, Nat.reduceEqDiff])⟩ ?_
    rintro i ⟨hi, hnot⟩
    refine evC_sound hX1 (fun _ => {}) _ _ _ ?_
    simp (disch := omega) only [go_sem, Nat.reduceLeDiff, reduceCtorEq, Nat.reduceAdd, Nat.reduceSub, Nat.reduceMul, Nat.reduceLT, Nat.reduceEqDiff, Int.reduceEq, Int.reduceLE, Int.reduceLT, Int.reducePow, Int.reduceMul, Int.reduceToNat, Int.reduceNeg, ↓reduceIte, hD, hG', wrap64, gn, unbox, tmv, Option.some.injEq, exists_eq_left']
    refine condK_split (fun h => ?_) (fun h => ?_)
    · rw [decide_eq_true_eq] at h
      have hi1 : i < l.length := by omega
      have hgx := queueGet hi1
      have hit : ∀ x, l.getD i queue0 = x → named nm x = true → r = (i : Int) := fun x hx hp => by
        rw [hr, placeG_hit hi1 hnot (by rw [hx]; exact hp)]
        omega
      generalize hx : l.getD i queue0 = x at *
      have hit := hit x rfl
      obtain ⟨qn, ql, qi⟩ := x
      simp only [queueRow] at hgx
      simp (disch := omega) only [go_sem, Nat.reduceLeDiff, reduceCtorEq, Nat.reduceAdd, Nat.reduceSub, Nat.reduceMul, Nat.reduceLT, Nat.reduceEqDiff, Int.reduceEq, Int.reduceLE, Int.reduceLT, Int.reducePow, Int.reduceMul, Int.reduceToNat, Int.reduceNeg, ↓reduceIte, hD, hG', wrap64, gn, hgx, unbox, tmv, Option.some.injEq, exists_eq_left']
      refine ⟨by omega, inlW (rs := [(3, none)]) hX1 hP 140000 (fun _ => {}) Try.func95 Try.results95 Try.ntmps95 fun hX2 => ?_⟩
      simp (disch := omega) only [go_sem, Nat.reduceLeDiff, reduceCtorEq, Nat.reduceAdd, Nat.reduceSub, Nat.reduceMul, Nat.reduceLT, Nat.reduceEqDiff, Int.reduceEq, Int.reduceLE, Int.reduceLT, Int.reducePow, Int.reduceMul, Int.reduceToNat, Int.reduceNeg, ↓reduceIte, hD, hG', wrap64, gn, enterS, leaveS, shT, unT, resA, num, unbox, Option.some.injEq, exists_eq_left', tmv, unbox, tmv, Option.some.injEq, exists_eq_left']
      refine condK_split (fun h => ?_) (fun h => ?_)
      · have hp : named nm ⟨qn, ql, qi⟩ = true := h
        simp (disch := omega) only [go_sem, Nat.reduceLeDiff, reduceCtorEq, Nat.reduceAdd, Nat.reduceSub, Nat.reduceMul, Nat.reduceLT, Nat.reduceEqDiff, Int.reduceEq, Int.reduceLE, Int.reduceLT, Int.reducePow, Int.reduceMul, Int.reduceToNat, Int.reduceNeg, ↓reduceIte, hD, hG', wrap64, enterS, leaveS, shT, unT, resA, num, unbox, Option.some.injEq, exists_eq_left', tmv, unbox, tmv, Option.some.injEq, exists_eq_left']
        refine endW [] [] (by simp) rfl rfl rfl ?_ ?_ <;> simp only [go_sem, Nat.reduceEqDiff]
        rw [hit hp]
      · have hp : named nm ⟨qn, ql, qi⟩ = false := h
        simp (disch := omega) only [go_sem, Nat.reduceLeDiff, reduceCtorEq, Nat.reduceAdd, Nat.reduceSub, Nat.reduceMul, Nat.reduceLT, Nat.reduceEqDiff, Int.reduceEq, Int.reduceLE, Int.reduceLT, Int.reducePow, Int.reduceMul, Int.reduceToNat, Int.reduceNeg, ↓reduceIte, hD, hG', wrap64, enterS, leaveS, shT, unT, resA, num, unbox, Option.some.injEq, exists_eq_left', tmv, unbox, tmv, Option.some.injEq, exists_eq_left']
        refine ⟨i + 1, ⟨⟨by omega, fun j hj => ?_⟩, by omega⟩, wk_of hD1 [(3, 3)] rfl rfl ?_ ?_⟩
        · by_cases hji : j = i
          · rw [hji, hx]; exact hp
          · exact hnot j (by omega)
        all_goals simp only [go_sem, Nat.reduceEqDiff]
        simp
    · rw [decide_eq_false_iff_not] at h
      have hie : i = l.length := by omega
      subst hie
      simp (disch := omega) only [go_sem, Nat.reduceLeDiff, reduceCtorEq, Nat.reduceAdd, Nat.reduceSub, Nat.reduceMul, Nat.reduceLT, Nat.reduceEqDiff, Int.reduceEq, Int.reduceLE, Int.reduceLT, Int.reducePow, Int.reduceMul, Int.reduceToNat, Int.reduceNeg, ↓reduceIte, hD, hG', wrap64, enterS, leaveS, shT, unT, resA, num, unbox, Option.some.injEq, exists_eq_left', tmv, unbox, tmv, Option.some.injEq, exists_eq_left']
      refine endW [] [] (by simp) rfl rfl rfl ?_ ?_ <;> simp only [go_sem, Nat.reduceEqDiff]
      rw [hr, placeG_miss hnot]
  exact hcon _ rfl
end Go.Proofs.Ythbejciebmkclaa.Ab
namespace Go.Proofs.Ythbejciebmkclaa.Ab
open Go Go.RowKit
set_option linter.unusedVariables false
set_option linter.unusedSimpArgs false

def eOwnqP : Ent Try.prog D := ⟨93, LQueue, fun q => [queueA q], LQueue.Fits, fun q => ⟨queueA q, []⟩, fun x y _ _ h => by
  simp only [List.cons.injEq, and_true] at h
  rw [queueA_inj h], fun q h => (con_ownq q h).plainR⟩
def eHfind : Ent Try.prog D := ⟨40, LHall × List UInt8, fun x => [hallA x.1, .str x.2], fun x => x.1.queues.length ≤ 1048576, fun x => ⟨.int .i64 (findS x.1.queues x.2), []⟩, fun x y _ _ h => by
  simp only [List.cons.injEq, AV.str.injEq, and_true] at h
  have e : x = y := Prod.ext (hallA_inj h.1) h.2
  rw [e], fun x h => con_hfind x.1.queues x.1.next x.2 h⟩
theorem take_queue {l : List LQueue} {i : Nat} (h : i < l.length) : l.take (i + 1) = l.take i ++ [l.getD i queue0] := by
  rw [List.take_succ_eq_append_getElem h]
  simp [h]
def hownLo : Nat → Lo := fun id => match id with | 5 => {uo := [5, 7], un := [3], kn := [5000], ex := [1]} | _ => {}
set_option maxRecDepth 100000 in
set_option maxHeartbeats 1000000 in
theorem con_hown (h : LHall) (hh : h.Fits) : Con Try.prog D 39 [hallA h] ⟨.agg [.os 0, .int .i64 h.next], [(71, 3, h.queues.map queueRow)]⟩ := by
  have hok : GOk Try.prog D (tabG [eOwnqP]) := tabG_ok _
  have g1 := fun (q : LQueue) (h : q.Fits) => tabG_use (T := [eOwnqP]) (E := eOwnqP) (i := 0) rfl (by decide) (q) (h)
  generalize tabG [eOwnqP] = G at *
  dsimp only [eOwnqP] at g1
  have hl := hh.1
  have hfq := fun i hi => queue_fits (i := i) hh hi
  obtain ⟨l, next⟩ := h
  simp only at hl hfq
  refine conW (G := G) (rs := [(2, some 24)]) hok Try.func39 Try.results39 Try.ntmps39 (hownLo) fun X hP hD hG' hX => ?_
  simp only [argS, num, hallA]
  simp (disch := omega) only [go_sem, Nat.reduceLeDiff, reduceCtorEq, Nat.reduceAdd, Nat.reduceSub, Nat.reduceMul, Nat.reduceLT, Nat.reduceEqDiff, Int.reduceEq, Int.reduceLE, Int.reduceLT, Int.reducePow, Int.reduceMul, Int.reduceToNat, Int.reduceNeg, ↓reduceIte, hD, hG', wrap64, unbox, tmv, Option.some.injEq, exists_eq_left']
  refine Tr.loop (ι := Nat) (fun i => i ≤ l.length) (fun i => { nt := 25, tm := [(2, .ptr 2 0), (3, .ptr 3 0), (10, .sl 3 (l.map queueRow)), (11, .int .i64 l.length), (12, .int .i64 i)], bl := [(2, some (.cells [.nils, .int .i64 0])), (3, some (.cells [.os 5000, .int .i64 next])), (5000, some (.rows 71 3 ((l.take i).map queueRow)))] }) (fun i => l.length - i) 0
    ⟨Nat.zero_le _, wk_of hD [(2, 2), (3, 3)] rfl rfl (by simp only [go_sem, Nat.reduceEqDiff]; simp) (by simp only [go_sem, Nat.reduceEqDiff, D_1, D_2, D_3, D_4, D_5, D_6, D_7, D_8, D_9, D_10, D_11, D_12, D_13, D_14, D_15, D_16, D_17, D_18, D_19, D_21, D_22, D_23, D_24, D_25, D_26, D_27, D_28, D_29, D_30, D_31, D_32, D_33, D_35, D_36, D_37, D_38, D_39, D_40, D_41, D_42, D_43, D_45, D_46, D_47, D_48, D_49, D_50, D_51, D_52, D_53, D_55, D_56, D_57, D_58, D_60, D_61, D_62, D_63, D_64, D_65, D_67, D_68, D_69, D_70, D_71, D_72, D_73, D_74, D_75, D_76, D_77, D_78, D_79, D_80, D_81, D_82, D_83, D_84, D_85, D_86, D_87, D_88, D_89, D_91, D_93, D_94, D_95, D_97, D_98, D_99, D_101, D_103, D_104, D_105, D_106, D_108, D_109, D_110, D_111, D_113, D_114, D_115, D_116, D_117, D_118, D_119, D_120, D_121, D_122, D_124, D_125, D_127, D_128, D_130, D_132, D_133, D_134, D_135, D_136, D_138, D_139, D_141, D_143, D_144, D_145, D_147, D_148, D_149, D_150, D_151, D_153, D_154, D_155, D_156, D_157, D_158, D_159, D_160, D_161, D_162, D_163, D_164, D_165, D_166, D_167, D_168, D_169, D_170, D_171, D_172, D_173, D_174, D_178, D_179, D_180, D_181, D_182, D_183, D_184, D_185, D_186]; simp)⟩ ?_
  intro i hi
  refine evC_sound hX hownLo _ _ _ ?_
  simp (disch := omega) only [go_sem, Nat.reduceLeDiff, reduceCtorEq, Nat.reduceAdd, Nat.reduceSub, Nat.reduceMul, Nat.reduceLT, Nat.reduceEqDiff, Int.reduceEq, Int.reduceLE, Int.reduceLT, Int.reducePow, Int.reduceMul, Int.reduceToNat, Int.reduceNeg, ↓reduceIte, hD, hG', wrap64, unbox, tmv, Option.some.injEq, exists_eq_left']
  refine condK_split (fun h => ?_) (fun h => ?_)
  · rw [decide_eq_true_eq] at h
    have hi1 : i < l.length := by omega
    have hgx := queueGet hi1
    have hti := take_queue hi1
    have g1 := g1 _ (hfq i hi1).1
    have htl : (l.take i).length ≤ l.length := by rw [List.length_take]; omega
    generalize l.getD i queue0 = x at *
    obtain ⟨qn, ql, qi⟩ := x
    simp only [queueRow] at hgx
    simp only [queueA] at g1
    simp (disch := omega) only [go_sem, Nat.reduceLeDiff, reduceCtorEq, Nat.reduceAdd, Nat.reduceSub, Nat.reduceMul, Nat.reduceLT, Nat.reduceEqDiff, Int.reduceEq, Int.reduceLE, Int.reduceLT, Int.reducePow, Int.reduceMul, Int.reduceToNat, Int.reduceNeg, ↓reduceIte, hD, hG', wrap64, hgx, g1, hownLo, unbox, tmv, Option.some.injEq, exists_eq_left']
    ((try and_intros); all_goals (try first | omega | decide | (simp; done) | (simp only [List.length_append, List.length_cons, List.length_nil, List.length_map]; omega)))
    refine ⟨i + 1, ⟨by omega, by omega⟩, wk_of hD [(2, 2), (3, 3), (5000, 21)] rfl rfl ?_ ?_⟩ <;> simp only [go_sem, Nat.reduceEqDiff]
    · simp
    · simp [hti, queueRow]
  · rw [decide_eq_false_iff_not] at h
    have hie : i = l.length := by omega
    subst hie
    rw [List.take_length] at *
    simp (disch := omega) only [go_sem, Nat.reduceLeDiff, reduceCtorEq, Nat.reduceAdd, Nat.reduceSub, Nat.reduceMul, Nat.reduceLT, Nat.reduceEqDiff, Int.reduceEq, Int.reduceLE, Int.reduceLT, Int.reducePow, Int.reduceMul, Int.reduceToNat, Int.reduceNeg, ↓reduceIte, hD, hG', wrap64, unbox, tmv, Option.some.injEq, exists_eq_left']
    refine endW [] [(0, 5000)] (by simp) rfl rfl rfl ?_ ?_ <;> simp only [go_sem, Nat.reduceEqDiff]
def eHown : Ent Try.prog D := ⟨39, LHall, fun h => [hallA h], LHall.Fits, fun h => ⟨.agg [.os 0, .int .i64 h.next], [(71, 3, h.queues.map queueRow)]⟩, fun x y _ _ h => by
  simp only [List.cons.injEq, and_true] at h
  rw [hallA_inj h], con_hown⟩
def hres (r : LHall × List LEntry × Int) : AV := .tup [hallA r.1, entriesA r.2.1, .int .i64 r.2.2]
set_option maxRecDepth 100000 in
set_option maxHeartbeats 1000000 in
theorem con_hmake (h : LHall) (nm : ByteArray) (n : Int) (hh : h.Fits) (hn : nm.size ≤ 1048576) : Con Try.prog D 45 [hallA h, .str nm.data.toList, .int .i64 n] ⟨hres (makeS h nm n), []⟩ := by
  have hok : GOk Try.prog D (tabG [eHfind, eHown, eKey]) := tabG_ok _
  have g1 := tabG_use (T := [eHfind, eHown, eKey]) (E := eHfind) (i := 0) rfl (by decide) ((h, nmL nm)) (hh.1)
  have g2 := tabG_use (T := [eHfind, eHown, eKey]) (E := eHown) (i := 1) rfl (by decide) (h) (hh)
  have g3 := tabG_use (T := [eHfind, eHown, eKey]) (E := eKey) (i := 2) rfl (by decide) (nm) (hn)
  generalize tabG [eHfind, eHown, eKey] = G at *
  dsimp only [eHfind] at g1
  dsimp only [eHown] at g2
  dsimp only [eKey] at g3
  have hl := hh.1
  obtain ⟨l, next⟩ := h
  simp only [hallA, nmL] at g1 g2 hl
  have hcon : ∀ r, r = makeS ⟨l, next⟩ nm n → Con Try.prog D 45 [hallA ⟨l, next⟩, .str nm.data.toList, .int .i64 n] ⟨.tup [hallA r.1, entriesA r.2.1, .int .i64 r.2.2], []⟩ := by
    intro r hr
    unfold makeS at hr
    simp only [nmL] at hr
    refine conW (G := G) (rs := [(6, some 24), (7, none), (8, none)]) hok Try.func45 Try.results45 Try.ntmps45 (fun _ => {}) fun X hP hD hG' hX => ?_
    simp only [argS, num, hallA]
    generalize hnm : nm.data.toList = ns at *
    simp (disch := omega) only [go_sem, Nat.reduceLeDiff, reduceCtorEq, Nat.reduceAdd, Nat.reduceSub, Nat.reduceMul, Nat.reduceLT, Nat.reduceEqDiff, Int.reduceEq, Int.reduceLE, Int.reduceLT, Int.reducePow, Int.reduceMul, Int.reduceToNat, Int.reduceNeg, ↓reduceIte, hD, hG', wrap64, g1, g2, g3, unbox, tmv, Option.some.injEq, exists_eq_left']
    refine RegT.mk [] ?_
    simp (disch := omega) only [go_sem, Nat.reduceLeDiff, reduceCtorEq, Nat.reduceAdd, Nat.reduceSub, Nat.reduceMul, Nat.reduceLT, Nat.reduceEqDiff, Int.reduceEq, Int.reduceLE, Int.reduceLT, Int.reducePow, Int.reduceMul, Int.reduceToNat, Int.reduceNeg, ↓reduceIte, hD, hG', wrap64, g1, g2, g3, unbox, tmv, Option.some.injEq, exists_eq_left']
    and_intros
    all_goals (try (first | (intro hk; refine ⟨hk, fun h2 => ?_⟩; first | (rw [hk, h2]; rfl) | (rw [hk, decide_eq_false h2]; rfl)) | (intro hk; rw [decide_eq_false hk]; rfl) | (intro hk; rw [hk]; rfl)))
    refine condK_split (fun h1 => ?_) (fun h1 => ?_)
    · have e : r = (hall0, [], 7) := by rw [hr, if_pos (by grind)]
      simp (disch := omega) only [go_sem, Nat.reduceLeDiff, reduceCtorEq, Nat.reduceAdd, Nat.reduceSub, Nat.reduceMul, Nat.reduceLT, Nat.reduceEqDiff, Int.reduceEq, Int.reduceLE, Int.reduceLT, Int.reducePow, Int.reduceMul, Int.reduceToNat, Int.reduceNeg, ↓reduceIte, hD, hG', wrap64, unbox, tmv, Option.some.injEq, exists_eq_left']
      refine endW [] [] (by simp) rfl rfl rfl ?_ ?_ <;> simp only [go_sem, Nat.reduceEqDiff]
      rw [e]
      simp [hallA, entriesA, hall0, cov, covs, subs, names, namess]
    have h1' : ¬ (keyS nm = false ∨ 0 ≤ findS l ns) := by grind
    rw [if_neg h1'] at hr
    simp (disch := omega) only [go_sem, Nat.reduceLeDiff, reduceCtorEq, Nat.reduceAdd, Nat.reduceSub, Nat.reduceMul, Nat.reduceLT, Nat.reduceEqDiff, Int.reduceEq, Int.reduceLE, Int.reduceLT, Int.reducePow, Int.reduceMul, Int.reduceToNat, Int.reduceNeg, ↓reduceIte, hD, hG', wrap64, unbox, tmv, Option.some.injEq, exists_eq_left']
    refine RegT.mk [] ?_
    simp (disch := omega) only [go_sem, Nat.reduceLeDiff, reduceCtorEq, Nat.reduceAdd, Nat.reduceSub, Nat.reduceMul, Nat.reduceLT, Nat.reduceEqDiff, Int.reduceEq, Int.reduceLE, Int.reduceLT, Int.reducePow, Int.reduceMul, Int.reduceToNat, Int.reduceNeg, ↓reduceIte, hD, hG', wrap64, unbox, tmv, Option.some.injEq, exists_eq_left']
    and_intros
    all_goals (try (first | (intro hk; refine ⟨hk, fun h2 => ?_⟩; first | (rw [hk, h2]; rfl) | (rw [hk, decide_eq_false h2]; rfl)) | (intro hk; rw [decide_eq_false hk]; rfl) | (intro hk; rw [hk]; rfl)))
    refine condK_split (fun h2 => ?_) (fun h2 => ?_)
    · have e : r = (hall0, [], 3) := by rw [hr, if_pos (by grind)]
      simp (disch := omega) only [go_sem, Nat.reduceLeDiff, reduceCtorEq, Nat.reduceAdd, Nat.reduceSub, Nat.reduceMul, Nat.reduceLT, Nat.reduceEqDiff, Int.reduceEq, Int.reduceLE, Int.reduceLT, Int.reducePow, Int.reduceMul, Int.reduceToNat, Int.reduceNeg, ↓reduceIte, hD, hG', wrap64, unbox, tmv, Option.some.injEq, exists_eq_left']
      refine endW [] [] (by simp) rfl rfl rfl ?_ ?_ <;> simp only [go_sem, Nat.reduceEqDiff]
      rw [e]
      simp [hallA, entriesA, hall0, cov, covs, subs, names, namess]
    have h2' : ¬ (n < 1 ∨ 8 < n) := by grind
    rw [if_neg h2'] at hr
    simp (disch := omega) only [go_sem, Nat.reduceLeDiff, reduceCtorEq, Nat.reduceAdd, Nat.reduceSub, Nat.reduceMul, Nat.reduceLT, Nat.reduceEqDiff, Int.reduceEq, Int.reduceLE, Int.reduceLT, Int.reducePow, Int.reduceMul, Int.reduceToNat, Int.reduceNeg, ↓reduceIte, hD, hG', wrap64, unbox, tmv, Option.some.injEq, exists_eq_left']
    refine condK_split (fun h3 => ?_) (fun h3 => ?_)
    · rw [decide_eq_true_eq] at h3
      have e : r = (hall0, [], 5) := by rw [hr, if_pos (by omega)]
      simp (disch := omega) only [go_sem, Nat.reduceLeDiff, reduceCtorEq, Nat.reduceAdd, Nat.reduceSub, Nat.reduceMul, Nat.reduceLT, Nat.reduceEqDiff, Int.reduceEq, Int.reduceLE, Int.reduceLT, Int.reducePow, Int.reduceMul, Int.reduceToNat, Int.reduceNeg, ↓reduceIte, hD, hG', wrap64, unbox, tmv, Option.some.injEq, exists_eq_left']
      refine endW [] [] (by simp) rfl rfl rfl ?_ ?_ <;> simp only [go_sem, Nat.reduceEqDiff]
      rw [e]
      simp [hallA, entriesA, hall0, cov, covs, subs, names, namess]
    rw [decide_eq_false_iff_not] at h3
    rw [if_neg (show ¬ 4 ≤ l.length by omega)] at hr
    simp (disch := omega) only [go_sem, Nat.reduceLeDiff, reduceCtorEq, Nat.reduceAdd, Nat.reduceSub, Nat.reduceMul, Nat.reduceLT, Nat.reduceEqDiff, Int.reduceEq, Int.reduceLE, Int.reduceLT, Int.reducePow, Int.reduceMul, Int.reduceToNat, Int.reduceNeg, ↓reduceIte, hD, hG', wrap64, g2, unbox, tmv, Option.some.injEq, exists_eq_left']
    refine ⟨by omega, ?_⟩
    have w1 : rowsNz (l.map queueRow ++ [[.str ns, .int .i64 n, .nils]]) ((l ++ [(⟨nm, n, []⟩ : LQueue)]).map queueRow) := by
      rw [List.map_append]
      exact rowsNz_append (rowsNz_refl _) (by simp [rowsNz, rowNz, cellNz, queueRow, hnm])
    refine endK ((Wk.nz 43 rfl w1).trans (Wk.nz 49 (rs' := [entryRow ⟨1, nm, n, 0, note0⟩]) rfl (by simp [rowsNz, rowNz, cellNz, entryRow, note0, hnm]))) [43, 49] [] (by simp) rfl rfl rfl ?_ ?_ <;> simp only [go_sem, Nat.reduceEqDiff]
    rw [hr]
    simp [hallA, entriesA, cov, covs, subs, names, namess]
  exact hcon _ rfl
end Go.Proofs.Ythbejciebmkclaa.Ab
namespace Go.Proofs.Ythbejciebmkclaa.Ab
open Go Go.RowKit
set_option linter.unusedVariables false
set_option linter.unusedSimpArgs false

theorem nz_gone (nm : ByteArray) (k i : Int) {ns : List UInt8} (h : nm.data.toList = ns) (n : Int) : rowNz [.int .i64 k, .str ns, .int .i64 n, .int .i64 i, .nils, .nils] (entryRow ⟨k, nm, n, i, note0⟩) := by
  simp [rowNz, cellNz, entryRow, note0, h]
set_option maxRecDepth 100000 in
set_option maxHeartbeats 1000000 in
theorem con_hdrop (h : LHall) (nm : ByteArray) (hh : h.Fits) : Con Try.prog D 46 [hallA h, .str nm.data.toList] ⟨hres (dropS h nm), []⟩ := by
  have hok : GOk Try.prog D (tabG [eHfind, eHown]) := tabG_ok _
  have g1 := tabG_use (T := [eHfind, eHown]) (E := eHfind) (i := 0) rfl (by decide) ((h, nmL nm)) (hh.1)
  have g2 := tabG_use (T := [eHfind, eHown]) (E := eHown) (i := 1) rfl (by decide) (h) (hh)
  have gd : ∀ a, tabG [eHfind, eHown] 81 a = none := fun a => rfl
  generalize tabG [eHfind, eHown] = G at *
  dsimp only [eHfind] at g1
  dsimp only [eHown] at g2
  have hl := hh.1
  have hpl := @findS_range h.queues (nmL nm)
  obtain ⟨l, next⟩ := h
  simp only [hallA, nmL] at g1 g2 hl hpl
  have hcon : ∀ ns, nm.data.toList = ns → ∀ r, r = dropS ⟨l, next⟩ nm → Con Try.prog D 46 [hallA ⟨l, next⟩, .str ns] ⟨.tup [hallA r.1, entriesA r.2.1, .int .i64 r.2.2], []⟩ := by
    intro ns hnm r hr
    unfold dropS at hr
    simp only [nmL, hnm] at hr g1 hpl
    generalize findS l ns = k at *
    refine conM mok_deleteQ (G := G) (rs := [(4, some 24), (5, none), (6, none)]) hok Try.func46 Try.results46 Try.ntmps46 (fun _ => {}) fun X hP hD hG' hX => ?_
    simp only [argS, num, hallA]
    simp (disch := omega) only [go_sem, Nat.reduceLeDiff, reduceCtorEq, Nat.reduceAdd, Nat.reduceSub, Nat.reduceMul, Nat.reduceLT, Nat.reduceEqDiff, Int.reduceEq, Int.reduceLE, Int.reduceLT, Int.reducePow, Int.reduceMul, Int.reduceToNat, Int.reduceNeg, ↓reduceIte, hD, hG', wrap64, g1, unbox, tmv, Option.some.injEq, exists_eq_left']
    refine condK_split (fun h => ?_) (fun h => ?_)
    · rw [decide_eq_true_eq] at h
      simp (disch := omega) only [go_sem, Nat.reduceLeDiff, reduceCtorEq, Nat.reduceAdd, Nat.reduceSub, Nat.reduceMul, Nat.reduceLT, Nat.reduceEqDiff, Int.reduceEq, Int.reduceLE, Int.reduceLT, Int.reducePow, Int.reduceMul, Int.reduceToNat, Int.reduceNeg, ↓reduceIte, hD, hG', wrap64, unbox, tmv, Option.some.injEq, exists_eq_left']
      refine endW [] [] (by simp) rfl rfl rfl ?_ ?_ <;> simp only [go_sem, Nat.reduceEqDiff]
      rw [hr, if_pos h]
      simp [hallA, entriesA, hall0, cov, covs, subs, names, namess]
    · rw [decide_eq_false_iff_not] at h
      obtain ⟨k, rfl⟩ := Int.eq_ofNat_of_zero_le (show 0 ≤ k by omega)
      have h1 : k < l.length := by omega
      rw [if_neg h, Int.toNat_natCast] at hr
      simp (disch := omega) only [go_sem, Nat.reduceLeDiff, reduceCtorEq, Nat.reduceAdd, Nat.reduceSub, Nat.reduceMul, Nat.reduceLT, Nat.reduceEqDiff, Int.reduceEq, Int.reduceLE, Int.reduceLT, Int.reducePow, Int.reduceMul, Int.reduceToNat, Int.reduceNeg, ↓reduceIte, hD, hG', wrap64, g2, gd, deleteMQ, unbox, tmv, Option.some.injEq, exists_eq_left']
      refine ⟨by simpa using h1, ?_⟩
      refine endK (Wk.nz 27 (rs' := [entryRow ⟨2, nm, 0, 0, note0⟩]) rfl ⟨nz_gone _ _ _ hnm _, trivial⟩) [27, 22] [] (by simp) rfl rfl rfl ?_ ?_ <;> simp only [go_sem, Nat.reduceEqDiff]
      rw [hr]
      simp [hallA, entriesA, cov, covs, subs, names, namess, erase_map]
  exact hcon _ rfl _ rfl
def htakeLo : Nat → Lo := fun id => match id with | 9 => {uo := [2, 3], un := [6, 7]} | _ => {}
theorem queueGet' {l : List LQueue} {k : Nat} (h : k < l.length) : ∃ q, l.getD k queue0 = q ∧ (l.map queueRow).getD k [] = [.str q.name.data.toList, .int .i64 q.limit, .sl 7 (q.items.map itemRow)] := ⟨_, rfl, queueGet h⟩
set_option maxRecDepth 100000 in
set_option maxHeartbeats 1000000 in
theorem con_htake (h : LHall) (nm : ByteArray) (now : Int) (hh : h.Fits) (ho : ∀ q ∈ h.queues, q.Ok) (hnow : -1000000 ≤ now ∧ now ≤ 1000000) : Con Try.prog D 52 [hallA h, .str nm.data.toList, .int .i64 now] ⟨.tup [hallA (htakeS h nm now).1, itemA (htakeS h nm now).2.1, .int .i64 (htakeS h nm now).2.2], []⟩ := by
  have hok : GOk Try.prog D (tabG [eHfind, eHown, eTakeq]) := tabG_ok _
  have g1 := tabG_use (T := [eHfind, eHown, eTakeq]) (E := eHfind) (i := 0) rfl (by decide) ((h, nmL nm)) (hh.1)
  have g2 := tabG_use (T := [eHfind, eHown, eTakeq]) (E := eHown) (i := 1) rfl (by decide) (h) (hh)
  have g3 := fun (q : LQueue) (h : q.Ok) => tabG_use (T := [eHfind, eHown, eTakeq]) (E := eTakeq) (i := 2) rfl (by decide) ((q, now)) (⟨h, hnow⟩)
  generalize tabG [eHfind, eHown, eTakeq] = G at *
  dsimp only [eHfind] at g1
  dsimp only [eHown] at g2
  dsimp only [eTakeq] at g3
  have hl := hh.1
  have hpl := @findS_range h.queues (nmL nm)
  obtain ⟨l, next⟩ := h
  simp only [hallA, nmL] at g1 g2 hl hpl ho
  have hcon : ∀ ns, nm.data.toList = ns → ∀ r, r = htakeS ⟨l, next⟩ nm now → Con Try.prog D 52 [hallA ⟨l, next⟩, .str ns, .int .i64 now] ⟨.tup [hallA r.1, itemA r.2.1, .int .i64 r.2.2], []⟩ := by
    intro ns hnm r hr
    unfold htakeS at hr
    simp only [nmL, qAt, setQ, hnm] at hr g1 hpl
    generalize findS l ns = k at *
    refine conW (G := G) (rs := [(6, some 24), (7, some 65), (8, none)]) hok Try.func52 Try.results52 Try.ntmps52 (htakeLo) fun X hP hD hG' hX => ?_
    simp only [argS, num, hallA]
    simp (disch := omega) only [go_sem, Nat.reduceLeDiff, reduceCtorEq, Nat.reduceAdd, Nat.reduceSub, Nat.reduceMul, Nat.reduceLT, Nat.reduceEqDiff, Int.reduceEq, Int.reduceLE, Int.reduceLT, Int.reducePow, Int.reduceMul, Int.reduceToNat, Int.reduceNeg, ↓reduceIte, hD, hG', wrap64, g1, unbox, tmv, Option.some.injEq, exists_eq_left']
    refine condK_split (fun h => ?_) (fun h => ?_)
    · rw [decide_eq_true_eq] at h
      simp (disch := omega) only [go_sem, Nat.reduceLeDiff, reduceCtorEq, Nat.reduceAdd, Nat.reduceSub, Nat.reduceMul, Nat.reduceLT, Nat.reduceEqDiff, Int.reduceEq, Int.reduceLE, Int.reduceLT, Int.reducePow, Int.reduceMul, Int.reduceToNat, Int.reduceNeg, ↓reduceIte, hD, hG', wrap64, unbox, tmv, Option.some.injEq, exists_eq_left']
      refine endW [] [] (by simp) rfl rfl rfl ?_ ?_ <;> simp only [go_sem, Nat.reduceEqDiff]
      rw [hr, if_pos h]
      simp [hallA, itemA, itemRow, item0, note0, hall0, cov, covs, subs, names, namess]
    · rw [decide_eq_false_iff_not] at h
      obtain ⟨k, rfl⟩ := Int.eq_ofNat_of_zero_le (show 0 ≤ k by omega)
      have h1 : k < l.length := by omega
      rw [if_neg h, Int.toNat_natCast] at hr
      have g3 := g3 _ (ho _ (getD_mem (d := queue0) h1))
      obtain ⟨q, hq, hgx⟩ := queueGet' h1
      rw [hq] at hr g3
      obtain ⟨q1, q2, q3⟩ := q
      simp only at hgx
      generalize takeS ⟨q1, q2, q3⟩ now = rt at *
      obtain ⟨⟨t1, t2, t3⟩, ⟨t4, t5, t6, t7, t8, ⟨t9, t10⟩⟩, t11⟩ := rt
      simp only [queueA, itemA, itemRow] at g3
      simp (disch := omega) only [go_sem, Nat.reduceLeDiff, reduceCtorEq, Nat.reduceAdd, Nat.reduceSub, Nat.reduceMul, Nat.reduceLT, Nat.reduceEqDiff, Int.reduceEq, Int.reduceLE, Int.reduceLT, Int.reducePow, Int.reduceMul, Int.reduceToNat, Int.reduceNeg, ↓reduceIte, hD, hG', wrap64, hgx, g3, unbox, tmv, Option.some.injEq, exists_eq_left']
      refine ⟨by omega, condK_split (fun h2 => ?_) (fun h2 => ?_)⟩
      · have e : t11 ≠ 0 := by simpa using h2
        simp (disch := omega) only [go_sem, Nat.reduceLeDiff, reduceCtorEq, Nat.reduceAdd, Nat.reduceSub, Nat.reduceMul, Nat.reduceLT, Nat.reduceEqDiff, Int.reduceEq, Int.reduceLE, Int.reduceLT, Int.reducePow, Int.reduceMul, Int.reduceToNat, Int.reduceNeg, ↓reduceIte, hD, hG', wrap64, unbox, tmv, Option.some.injEq, exists_eq_left']
        refine endW [] [] (by simp) rfl rfl rfl ?_ ?_ <;> simp only [go_sem, Nat.reduceEqDiff]
        rw [hr, if_pos e]
        simp [hallA, itemA, itemRow, item0, note0, hall0, cov, covs, subs, names, namess]
      · have e : t11 = 0 := by simpa using h2
        simp (disch := omega) only [go_sem, Nat.reduceLeDiff, reduceCtorEq, Nat.reduceAdd, Nat.reduceSub, Nat.reduceMul, Nat.reduceLT, Nat.reduceEqDiff, Int.reduceEq, Int.reduceLE, Int.reduceLT, Int.reducePow, Int.reduceMul, Int.reduceToNat, Int.reduceNeg, ↓reduceIte, hD, hG', wrap64, g2, htakeLo, hgx, unbox, tmv, Option.some.injEq, exists_eq_left']
        refine ⟨by omega, by simpa using h1, by decide, ?_⟩
        refine endW [4133] [] (by simp) rfl rfl rfl ?_ ?_ <;> simp only [go_sem, Nat.reduceEqDiff]
        rw [hr, if_neg (by simpa using e)]
        simp [hallA, itemA, itemRow, queueRow, cov, covs, subs, names, namess]
  exact hcon _ rfl _ rfl
def hdoneLo : Nat → Lo := fun id => match id with | 4 => {uo := [14], un := [8]} | 9 => {uo := [7], un := [4]} | _ => {}
set_option maxRecDepth 100000 in
set_option maxHeartbeats 1000000 in
theorem con_hdone (h : LHall) (t : LTag) (hh : h.Fits) : Con Try.prog D 48 [hallA h, tagA t] ⟨hres (hdoneS h t), []⟩ := by
  have hok : GOk Try.prog D (tabG [eHfind, eHown, eDoneq]) := tabG_ok _
  have g1 := tabG_use (T := [eHfind, eHown, eDoneq]) (E := eHfind) (i := 0) rfl (by decide) ((h, nmL t.queue)) (hh.1)
  have g2 := tabG_use (T := [eHfind, eHown, eDoneq]) (E := eHown) (i := 1) rfl (by decide) (h) (hh)
  have g3 := fun (q : LQueue) (h : q.Fits) => tabG_use (T := [eHfind, eHown, eDoneq]) (E := eDoneq) (i := 2) rfl (by decide) ((q, t.id, t.turn)) (h)
  generalize tabG [eHfind, eHown, eDoneq] = G at *
  dsimp only [eHfind] at g1
  dsimp only [eHown] at g2
  dsimp only [eDoneq] at g3
  have hl := hh.1
  have hfq := fun i hi => queue_fits (i := i) hh hi
  have hpl := @findS_range h.queues (nmL t.queue)
  obtain ⟨l, next⟩ := h
  obtain ⟨tn, tq, ti, tt⟩ := t
  simp only [hallA, nmL] at g1 g2 hl hpl hfq g3
  have hcon : ∀ ns, tq.data.toList = ns → ∀ r, r = hdoneS ⟨l, next⟩ ⟨tn, tq, ti, tt⟩ → Con Try.prog D 48 [hallA ⟨l, next⟩, .agg [.int .i64 tn, .str ns, .int .i64 ti, .int .i64 tt]] ⟨.tup [hallA r.1, entriesA r.2.1, .int .i64 r.2.2], []⟩ := by
    intro ns hnm r hr
    unfold hdoneS at hr
    simp only [nmL, qAt, setQ, hnm] at hr g1 hpl
    generalize findS l ns = k at *
    refine conW (G := G) (rs := [(4, some 24), (5, none), (6, none)]) hok Try.func48 Try.results48 Try.ntmps48 (hdoneLo) fun X hP hD hG' hX => ?_
    simp only [argS, num, hallA]
    simp (disch := omega) only [go_sem, Nat.reduceLeDiff, reduceCtorEq, Nat.reduceAdd, Nat.reduceSub, Nat.reduceMul, Nat.reduceLT, Nat.reduceEqDiff, Int.reduceEq, Int.reduceLE, Int.reduceLT, Int.reducePow, Int.reduceMul, Int.reduceToNat, Int.reduceNeg, ↓reduceIte, hD, hG', wrap64, g1, unbox, tmv, Option.some.injEq, exists_eq_left']
    refine condK_split (fun h => ?_) (fun h => ?_)
    · rw [decide_eq_true_eq] at h
      simp (disch := omega) only [go_sem, Nat.reduceLeDiff, reduceCtorEq, Nat.reduceAdd, Nat.reduceSub, Nat.reduceMul, Nat.reduceLT, Nat.reduceEqDiff, Int.reduceEq, Int.reduceLE, Int.reduceLT, Int.reducePow, Int.reduceMul, Int.reduceToNat, Int.reduceNeg, ↓reduceIte, hD, hG', wrap64, unbox, tmv, Option.some.injEq, exists_eq_left']
      refine endW [] [] (by simp) rfl rfl rfl ?_ ?_ <;> simp only [go_sem, Nat.reduceEqDiff]
      rw [hr, if_pos h]
      simp [hallA, entriesA, hall0, cov, covs, subs, names, namess]
    · rw [decide_eq_false_iff_not] at h
      obtain ⟨k, rfl⟩ := Int.eq_ofNat_of_zero_le (show 0 ≤ k by omega)
      have h1 : k < l.length := by omega
      rw [if_neg h, Int.toNat_natCast] at hr
      have g3 := g3 _ (hfq k h1).1
      obtain ⟨q, hq, hgx⟩ := queueGet' h1
      rw [hq] at hr g3
      obtain ⟨q1, q2, q3⟩ := q
      simp only at hgx
      generalize doneS ⟨q1, q2, q3⟩ ti tt = rt at *
      obtain ⟨⟨t1, t2, t3⟩, t4⟩ := rt
      simp only [queueA] at g3
      simp (disch := omega) only [go_sem, Nat.reduceLeDiff, reduceCtorEq, Nat.reduceAdd, Nat.reduceSub, Nat.reduceMul, Nat.reduceLT, Nat.reduceEqDiff, Int.reduceEq, Int.reduceLE, Int.reduceLT, Int.reducePow, Int.reduceMul, Int.reduceToNat, Int.reduceNeg, ↓reduceIte, hD, hG', wrap64, hgx, g3, hdoneLo, unbox, tmv, Option.some.injEq, exists_eq_left']
      refine ⟨by decide, by omega, condK_split (fun h2 => ?_) (fun h2 => ?_)⟩
      · have e : t4 ≠ 0 := by simpa using h2
        simp (disch := omega) only [go_sem, Nat.reduceLeDiff, reduceCtorEq, Nat.reduceAdd, Nat.reduceSub, Nat.reduceMul, Nat.reduceLT, Nat.reduceEqDiff, Int.reduceEq, Int.reduceLE, Int.reduceLT, Int.reducePow, Int.reduceMul, Int.reduceToNat, Int.reduceNeg, ↓reduceIte, hD, hG', wrap64, unbox, tmv, Option.some.injEq, exists_eq_left']
        refine endW [] [] (by simp) rfl rfl rfl ?_ ?_ <;> simp only [go_sem, Nat.reduceEqDiff]
        rw [hr, if_pos e]
        simp [hallA, entriesA, hall0, cov, covs, subs, names, namess]
      · have e : t4 = 0 := by simpa using h2
        simp (disch := omega) only [go_sem, Nat.reduceLeDiff, reduceCtorEq, Nat.reduceAdd, Nat.reduceSub, Nat.reduceMul, Nat.reduceLT, Nat.reduceEqDiff, Int.reduceEq, Int.reduceLE, Int.reduceLT, Int.reducePow, Int.reduceMul, Int.reduceToNat, Int.reduceNeg, ↓reduceIte, hD, hG', wrap64, g2, hdoneLo, hgx, unbox, tmv, Option.some.injEq, exists_eq_left']
        refine ⟨by omega, by simpa using h1, by decide, ?_⟩
        refine endK (Wk.nz 48 (rs' := [entryRow ⟨4, tq, 0, ti, note0⟩]) rfl ⟨nz_gone _ _ _ hnm _, trivial⟩) [4132, 48] [] (by simp) rfl rfl rfl ?_ ?_ <;> simp only [go_sem, Nat.reduceEqDiff]
        rw [hr, if_neg (by simpa using e)]
        simp [hallA, entriesA, queueRow, cov, covs, subs, names, namess]
  exact hcon _ rfl _ rfl
theorem goneGet {l : List Int} {i : Nat} (h : i < l.length) : (l.map intRow).getD i [] = [.int .i64 (l.getD i 0)] := intGet h
def goneE (nm : ByteArray) (i : Int) : LEntry := ⟨4, nm, 0, i, note0⟩
def goneR (ns : List UInt8) (i : Int) : List AV := [.int .i64 4, .str ns, .int .i64 0, .int .i64 i, .nils, .nils]
set_option maxRecDepth 100000 in
set_option maxHeartbeats 1000000 in
theorem con_hpurge (h : LHall) (nm : ByteArray) (hh : h.Fits) : Con Try.prog D 50 [hallA h, .str nm.data.toList] ⟨hres (hpurgeS h nm), []⟩ := by
  have hok : GOk Try.prog D (tabG [eHfind, eHown, ePurgeq]) := tabG_ok _
  have g1 := tabG_use (T := [eHfind, eHown, ePurgeq]) (E := eHfind) (i := 0) rfl (by decide) ((h, nmL nm)) (hh.1)
  have g2 := tabG_use (T := [eHfind, eHown, ePurgeq]) (E := eHown) (i := 1) rfl (by decide) (h) (hh)
  have g3 := fun (q : LQueue) (h : q.Fits) => tabG_use (T := [eHfind, eHown, ePurgeq]) (E := ePurgeq) (i := 2) rfl (by decide) (q) (h)
  generalize tabG [eHfind, eHown, ePurgeq] = G at *
  dsimp only [eHfind] at g1
  dsimp only [eHown] at g2
  dsimp only [ePurgeq] at g3
  have hl := hh.1
  have hfq := fun i hi => queue_fits (i := i) hh hi
  have hpl := @findS_range h.queues (nmL nm)
  obtain ⟨l, next⟩ := h
  simp only [hallA, nmL] at g1 g2 hl hpl hfq
  have hcon : ∀ ns, nm.data.toList = ns → ∀ r, r = hpurgeS ⟨l, next⟩ nm → Con Try.prog D 50 [hallA ⟨l, next⟩, .str ns] ⟨.tup [hallA r.1, entriesA r.2.1, .int .i64 r.2.2], []⟩ := by
    intro ns hnm r hr
    unfold hpurgeS at hr
    simp only [nmL, qAt, setQ, hnm] at hr g1 hpl
    generalize findS l ns = k at *
    refine conW (G := G) (rs := [(4, some 24), (5, none), (6, none)]) hok Try.func50 Try.results50 Try.ntmps50 (fun _ => {}) fun X hP hD hG' hX => ?_
    simp only [argS, num, hallA]
    simp (disch := omega) only [go_sem, Nat.reduceLeDiff, reduceCtorEq, Nat.reduceAdd, Nat.reduceSub, Nat.reduceMul, Nat.reduceLT, Nat.reduceEqDiff, Int.reduceEq, Int.reduceLE, Int.reduceLT, Int.reducePow, Int.reduceMul, Int.reduceToNat, Int.reduceNeg, ↓reduceIte, hD, hG', wrap64, g1, unbox, tmv, Option.some.injEq, exists_eq_left']
    refine condK_split (fun h => ?_) (fun h => ?_)
    · rw [decide_eq_true_eq] at h
      simp (disch := omega) only [go_sem, Nat.reduceLeDiff, reduceCtorEq, Nat.reduceAdd, Nat.reduceSub, Nat.reduceMul, Nat.reduceLT, Nat.reduceEqDiff, Int.reduceEq, Int.reduceLE, Int.reduceLT, Int.reducePow, Int.reduceMul, Int.reduceToNat, Int.reduceNeg, ↓reduceIte, hD, hG', wrap64, unbox, tmv, Option.some.injEq, exists_eq_left']
      refine endW [] [] (by simp) rfl rfl rfl ?_ ?_ <;> simp only [go_sem, Nat.reduceEqDiff]
      rw [hr, if_pos h]
      simp [hallA, entriesA, hall0, cov, covs, subs, names, namess]
    · rw [decide_eq_false_iff_not] at h
      obtain ⟨k, rfl⟩ := Int.eq_ofNat_of_zero_le (show 0 ≤ k by omega)
      have h1 : k < l.length := by omega
      rw [if_neg h, Int.toNat_natCast] at hr
      have g3 := g3 _ (hfq k h1).1
      have hgl := gone_len (l.getD k queue0).items
      have hql := (hfq k h1).1.1
      obtain ⟨q, hq, hgx⟩ := queueGet' h1
      rw [hq] at hr g3 hgl hql
      obtain ⟨q1, q2, q3⟩ := q
      simp only at hgx
      have hgl : (purgeS ⟨q1, q2, q3⟩).2.length ≤ 1048576 := Nat.le_trans hgl hql
      generalize purgeS ⟨q1, q2, q3⟩ = rt at *
      obtain ⟨⟨t1, t2, t3⟩, t4⟩ := rt
      simp only [queueA] at g3 hgl
      simp (disch := omega) only [go_sem, Nat.reduceLeDiff, reduceCtorEq, Nat.reduceAdd, Nat.reduceSub, Nat.reduceMul, Nat.reduceLT, Nat.reduceEqDiff, Int.reduceEq, Int.reduceLE, Int.reduceLT, Int.reducePow, Int.reduceMul, Int.reduceToNat, Int.reduceNeg, ↓reduceIte, hD, hG', wrap64, hgx, g3, g2, unbox, tmv, Option.some.injEq, exists_eq_left']
      refine ⟨by omega, by omega, by simpa using h1, ?_⟩
      refine Tr.loop (ι := Nat) (fun i => i ≤ t4.length) (fun i => { nt := 51, tm := [(1, .str ns), (4, .ptr 4 0), (10, .ptr 10 0), (11, .os 5000), (36, .sl 1 (t4.map intRow)), (37, .int .i64 t4.length), (38, .int .i64 i)], bl := [(4, some (.cells [.nils, .int .i64 0])), (10, some (.cells [.sl 3 ((l.set k ⟨t1, t2, t3⟩).map queueRow), .int .i64 next])), (5000, some (.rows 30 6 ((t4.take i).map (goneR ns))))] }) (fun i => t4.length - i) 0
        ⟨Nat.zero_le _, (wkf_of hD [4126] [(4, 4), (10, 10)] rfl rfl (by simp only [go_sem, Nat.reduceEqDiff]; simp) (by simp only [go_sem, Nat.reduceEqDiff, D_3, D_4, D_5, D_9, D_22, D_24, D_25, D_26, D_28, D_30, D_33, D_37, D_65, D_69, D_71, D_110]; simp [queueRow]))⟩ ?_
      intro i hi
      refine evC_sound hX (fun _ => {}) _ _ _ ?_
      simp (disch := omega) only [go_sem, Nat.reduceLeDiff, reduceCtorEq, Nat.reduceAdd, Nat.reduceSub, Nat.reduceMul, Nat.reduceLT, Nat.reduceEqDiff, Int.reduceEq, Int.reduceLE, Int.reduceLT, Int.reducePow, Int.reduceMul, Int.reduceToNat, Int.reduceNeg, ↓reduceIte, hD, hG', wrap64, unbox, tmv, Option.some.injEq, exists_eq_left']
      refine condK_split (fun h => ?_) (fun h => ?_)
      · rw [decide_eq_true_eq] at h
        have hi1 : i < t4.length := by omega
        have hgx := goneGet hi1
        have htk : t4.take (i + 1) = t4.take i ++ [t4.getD i 0] := by rw [List.take_succ_eq_append_getElem hi1]; simp [hi1]
        have htl : (t4.take i).length ≤ t4.length := by rw [List.length_take]; omega
        simp (disch := omega) only [go_sem, Nat.reduceLeDiff, reduceCtorEq, Nat.reduceAdd, Nat.reduceSub, Nat.reduceMul, Nat.reduceLT, Nat.reduceEqDiff, Int.reduceEq, Int.reduceLE, Int.reduceLT, Int.reducePow, Int.reduceMul, Int.reduceToNat, Int.reduceNeg, ↓reduceIte, hD, hG', wrap64, hgx, unbox, tmv, Option.some.injEq, exists_eq_left']
        ((try and_intros); all_goals (try first | omega | decide | (simp; done) | (simp only [List.length_append, List.length_cons, List.length_nil, List.length_map]; omega)))
        refine ⟨i + 1, ⟨by omega, by omega⟩, wk_of hD [(4, 4), (10, 10), (5000, 47)] rfl rfl ?_ ?_⟩ <;> simp only [go_sem, Nat.reduceEqDiff]
        · simp
        · simp [htk, goneR]
      · rw [decide_eq_false_iff_not] at h
        have hie : i = t4.length := by omega
        subst hie
        rw [List.take_length]
        simp (disch := omega) only [go_sem, Nat.reduceLeDiff, reduceCtorEq, Nat.reduceAdd, Nat.reduceSub, Nat.reduceMul, Nat.reduceLT, Nat.reduceEqDiff, Int.reduceEq, Int.reduceLE, Int.reduceLT, Int.reducePow, Int.reduceMul, Int.reduceToNat, Int.reduceNeg, ↓reduceIte, hD, hG', wrap64, unbox, tmv, Option.some.injEq, exists_eq_left']
        refine endK (Wk.nz 5000 (rs' := (t4.map (goneE nm)).map entryRow) rfl (by rw [List.map_map]; exact rowsNz_map (fun i => nz_gone nm 4 i hnm 0) _)) [5000] [] (by simp) rfl rfl rfl ?_ ?_ <;> simp only [go_sem, Nat.reduceEqDiff]
        rw [hr]
        simp [hallA, entriesA, cov, covs, subs, names, namess, goneE]
  exact hcon _ rfl _ rfl
end Go.Proofs.Ythbejciebmkclaa.Ab
namespace Go.Proofs.Ythbejciebmkclaa.Ab
open Go Go.RowKit
set_option linter.unusedVariables false
set_option linter.unusedSimpArgs false

theorem putS_name {q : LQueue} {id : Int} {n : LNote} (h : (putS q id n).2 = 0) : (putS q id n).1.name = q.name := by
  unfold putS at *
  by_cases hc : q.limit ≤ q.items.length
  · simp [hc] at h
  · simp [hc]
def hputLo : Nat → Lo := fun id => match id with | 1 => {uo := [17], un := [70008]} | 4 => {uo := [7], un := [4123], ex := [6]} | _ => {}
set_option maxRecDepth 100000 in
set_option maxHeartbeats 1000000 in
theorem con_hput (h : LHall) (nm : ByteArray) (n : LNote) (hh : h.Fits) (hn : n.Fits) (hx : -1000000000 ≤ h.next ∧ h.next ≤ 1000000000) : Con Try.prog D 47 [hallA h, .str nm.data.toList, noteA n] ⟨hres (hputS h nm n), []⟩ := by
  have hok : GOk Try.prog D (tabG [eHfind, eHown, ePutq, eWrong, eOwn1]) := tabG_ok _
  have g1 := tabG_use (T := [eHfind, eHown, ePutq, eWrong, eOwn1]) (E := eHfind) (i := 0) rfl (by decide) ((h, nmL nm)) (hh.1)
  have g2 := tabG_use (T := [eHfind, eHown, ePutq, eWrong, eOwn1]) (E := eHown) (i := 1) rfl (by decide) (h) (hh)
  have g3 := fun (q : LQueue) (h2 : q.Fits) => tabG_use (T := [eHfind, eHown, ePutq, eWrong, eOwn1]) (E := ePutq) (i := 2) rfl (by decide) ((q, h.next, n)) (⟨h2, hn⟩)
  have g4 := tabG_use (T := [eHfind, eHown, ePutq, eWrong, eOwn1]) (E := eWrong) (i := 3) rfl (by decide) (n) (hn)
  have g5 := tabG_use (T := [eHfind, eHown, ePutq, eWrong, eOwn1]) (E := eOwn1) (i := 4) rfl (by decide) (n) (hn)
  have gn : ∀ a, tabG [eHfind, eHown, ePutq, eWrong, eOwn1] 98 a = none := fun a => rfl
  generalize tabG [eHfind, eHown, ePutq, eWrong, eOwn1] = G at *
  dsimp only [eHfind] at g1
  dsimp only [eHown] at g2
  dsimp only [ePutq] at g3
  dsimp only [eWrong] at g4
  dsimp only [eOwn1] at g5
  have hl := hh.1
  have hfq := fun i hi => queue_fits (i := i) hh hi
  have hpl := @findS_range h.queues (nmL nm)
  obtain ⟨l, next⟩ := h
  obtain ⟨np, nb⟩ := n
  simp only [hallA, nmL, noteA] at g1 g2 g3 g4 g5 hl hpl hfq hx
  have hcon : ∀ ns, nm.data.toList = ns → ∀ r, r = hputS ⟨l, next⟩ nm ⟨np, nb⟩ → Con Try.prog D 47 [hallA ⟨l, next⟩, .str ns, .agg [.sl 4 (np.map propRow), .sl 1 (nb.map byteRow)]] ⟨.tup [hallA r.1, entriesA r.2.1, .int .i64 r.2.2], []⟩ := by
    intro ns hnm r hr
    unfold hputS at hr
    simp only [nmL, qAt, hnm] at hr g1 hpl
    generalize wrongS ⟨np, nb⟩ = wn at *
    generalize findS l ns = k at *
    refine conW (G := G) (rs := [(6, some 24), (7, none), (8, none)]) hok Try.func47 Try.results47 Try.ntmps47 (fun _ => {}) fun X hP hD hG' hX => ?_
    simp only [argS, num, hallA]
    simp (disch := omega) only [go_sem, Nat.reduceLeDiff, reduceCtorEq, Nat.reduceAdd, Nat.reduceSub, Nat.reduceMul, Nat.reduceLT, Nat.reduceEqDiff, Int.reduceEq, Int.reduceLE, Int.reduceLT, Int.reducePow, Int.reduceMul, Int.reduceToNat, Int.reduceNeg, ↓reduceIte, hD, hG', wrap64, g1, g4, unbox, tmv, Option.some.injEq, exists_eq_left']
    refine condK_split (fun h => ?_) (fun h => ?_)
    · have e : wn ≠ 0 := by simpa using h
      simp (disch := omega) only [go_sem, Nat.reduceLeDiff, reduceCtorEq, Nat.reduceAdd, Nat.reduceSub, Nat.reduceMul, Nat.reduceLT, Nat.reduceEqDiff, Int.reduceEq, Int.reduceLE, Int.reduceLT, Int.reducePow, Int.reduceMul, Int.reduceToNat, Int.reduceNeg, ↓reduceIte, hD, hG', wrap64, unbox, tmv, Option.some.injEq, exists_eq_left']
      refine endW [] [] (by simp) rfl rfl rfl ?_ ?_ <;> simp only [go_sem, Nat.reduceEqDiff]
      rw [hr, if_pos e]
      simp [hallA, entriesA, hall0, cov, covs, subs, names, namess]
    have e0 : ¬ wn ≠ 0 := by simpa using h
    rw [if_neg e0] at hr
    simp (disch := omega) only [go_sem, Nat.reduceLeDiff, reduceCtorEq, Nat.reduceAdd, Nat.reduceSub, Nat.reduceMul, Nat.reduceLT, Nat.reduceEqDiff, Int.reduceEq, Int.reduceLE, Int.reduceLT, Int.reducePow, Int.reduceMul, Int.reduceToNat, Int.reduceNeg, ↓reduceIte, hD, hG', wrap64, g1, g4, unbox, tmv, Option.some.injEq, exists_eq_left']
    refine condK_split (fun h => ?_) (fun h => ?_)
    · rw [decide_eq_true_eq] at h
      simp (disch := omega) only [go_sem, Nat.reduceLeDiff, reduceCtorEq, Nat.reduceAdd, Nat.reduceSub, Nat.reduceMul, Nat.reduceLT, Nat.reduceEqDiff, Int.reduceEq, Int.reduceLE, Int.reduceLT, Int.reducePow, Int.reduceMul, Int.reduceToNat, Int.reduceNeg, ↓reduceIte, hD, hG', wrap64, unbox, tmv, Option.some.injEq, exists_eq_left']
      refine endW [] [] (by simp) rfl rfl rfl ?_ ?_ <;> simp only [go_sem, Nat.reduceEqDiff]
      rw [hr, if_pos h]
      simp [hallA, entriesA, hall0, cov, covs, subs, names, namess]
    rw [decide_eq_false_iff_not] at h
    obtain ⟨k, rfl⟩ := Int.eq_ofNat_of_zero_le (show 0 ≤ k by omega)
    have h1 : k < l.length := by omega
    rw [if_neg h, Int.toNat_natCast] at hr
    have g3 := g3 _ (hfq k h1).1
    have hpn := @putS_name (l.getD k queue0) next ⟨np, nb⟩
    obtain ⟨q, hq, hgx⟩ := queueGet' h1
    simp only [putAt, qAt, hq] at hr
    rw [hq] at g3 hpn
    obtain ⟨q1, q2, q3⟩ := q
    simp only at hgx hpn
    generalize putS ⟨q1, q2, q3⟩ next ⟨np, nb⟩ = rt at *
    obtain ⟨⟨t1, t2, t3⟩, t4⟩ := rt
    simp only [queueA] at g3
    simp only at hpn
    simp (disch := omega) only [go_sem, Nat.reduceLeDiff, reduceCtorEq, Nat.reduceAdd, Nat.reduceSub, Nat.reduceMul, Nat.reduceLT, Nat.reduceEqDiff, Int.reduceEq, Int.reduceLE, Int.reduceLT, Int.reducePow, Int.reduceMul, Int.reduceToNat, Int.reduceNeg, ↓reduceIte, hD, hG', wrap64, g2, gn, unbox, tmv, Option.some.injEq, exists_eq_left']
    refine inlW (rs := [(6, none), (7, none)]) hX hP 70000 hputLo Try.func98 Try.results98 Try.ntmps98 fun hX1 => ?_
    simp (disch := omega) only [go_sem, Nat.reduceLeDiff, reduceCtorEq, Nat.reduceAdd, Nat.reduceSub, Nat.reduceMul, Nat.reduceLT, Nat.reduceEqDiff, Int.reduceEq, Int.reduceLE, Int.reduceLT, Int.reducePow, Int.reduceMul, Int.reduceToNat, Int.reduceNeg, ↓reduceIte, hD, hG', wrap64, enterS, leaveS, shT, unT, resA, num, unbox, Option.some.injEq, exists_eq_left', tmv, hputLo, hgx, g3, unbox, tmv, Option.some.injEq, exists_eq_left']
    refine ⟨by decide, by omega, condK_split (fun h2 => ?_) (fun h2 => ?_)⟩
    · have e : t4 ≠ 0 := by simpa using h2
      have h2' : (t4 != 0) = true := h2
      simp (disch := omega) only [go_sem, Nat.reduceLeDiff, reduceCtorEq, Nat.reduceAdd, Nat.reduceSub, Nat.reduceMul, Nat.reduceLT, Nat.reduceEqDiff, Int.reduceEq, Int.reduceLE, Int.reduceLT, Int.reducePow, Int.reduceMul, Int.reduceToNat, Int.reduceNeg, ↓reduceIte, hD, hG', wrap64, enterS, leaveS, shT, unT, resA, num, unbox, Option.some.injEq, exists_eq_left', tmv, unbox, tmv, Option.some.injEq, exists_eq_left']
      simp (disch := omega) only [go_sem, Nat.reduceLeDiff, reduceCtorEq, Nat.reduceAdd, Nat.reduceSub, Nat.reduceMul, Nat.reduceLT, Nat.reduceEqDiff, Int.reduceEq, Int.reduceLE, Int.reduceLT, Int.reducePow, Int.reduceMul, Int.reduceToNat, Int.reduceNeg, ↓reduceIte, hD, hG', wrap64, h2', unbox, tmv, Option.some.injEq, exists_eq_left']
      refine endW [] [] (by simp) rfl rfl rfl ?_ ?_ <;> simp only [go_sem, Nat.reduceEqDiff]
      rw [hr]
      simp [e, hallA, entriesA, hall0, cov, covs, subs, names, namess]
    · have e : t4 = 0 := by simpa using h2
      have h2' : (t4 != 0) = false := h2
      have hnx : next + 1 - 1 = next := by omega
      subst e
      rw [hpn rfl] at *
      simp (disch := omega) only [go_sem, Nat.reduceLeDiff, reduceCtorEq, Nat.reduceAdd, Nat.reduceSub, Nat.reduceMul, Nat.reduceLT, Nat.reduceEqDiff, Int.reduceEq, Int.reduceLE, Int.reduceLT, Int.reducePow, Int.reduceMul, Int.reduceToNat, Int.reduceNeg, ↓reduceIte, hD, hG', wrap64, enterS, leaveS, shT, unT, resA, num, unbox, Option.some.injEq, exists_eq_left', tmv, hputLo, hgx, g5, hnx, unbox, tmv, Option.some.injEq, exists_eq_left']
      refine ⟨by decide, ⟨by omega, by omega⟩, h1, by decide, ?_⟩
      refine endW [4123, 70053] [] (by simp) rfl rfl rfl ?_ ?_ <;> simp only [go_sem, Nat.reduceEqDiff]
      rw [hr]
      simp [hallA, entriesA, hall0, cov, covs, subs, names, namess, entryRow, queueRow]
  exact hcon _ rfl _ rfl
end Go.Proofs.Ythbejciebmkclaa.Ab
namespace Go.Proofs.Ythbejciebmkclaa.Ab
open Go Go.RowKit
set_option linter.unusedVariables false
set_option linter.unusedSimpArgs false

theorem backS_name {q : LQueue} {id turn : Int} (h : (backS q id turn).2.2.2 = 0) : (backS q id turn).1.name = q.name := by
  unfold backS at *
  by_cases h1 : placeS (isIt id turn) q.items 0 < 0
  · simp [h1] at h
  · rw [if_neg h1]
    split <;> rfl
def hbackLo : Nat → Lo := fun id => match id with | 4 => {uo := [17, 18], un := [8, 9]} | _ => {}
def hbputLo : Nat → Lo := fun id => match id with | 1 => {uo := [17], un := [70008]} | 4 => {uo := [7], un := [4140], ex := [6]} | _ => {}
set_option maxRecDepth 100000 in
set_option maxHeartbeats 1000000 in
theorem con_hback (h : LHall) (t : LTag) (hh : h.Fits) (ho : ∀ q ∈ h.queues, q.Ok) (hx : -1000000000 ≤ h.next ∧ h.next ≤ 1000000000) : Con Try.prog D 49 [hallA h, tagA t] ⟨hres (hbackS h t), []⟩ := by
  have hok : GOk Try.prog D (tabG [eHfind, eHown, ePutq, eBackq, eOwn1]) := tabG_ok _
  have g1 := tabG_use (T := [eHfind, eHown, ePutq, eBackq, eOwn1]) (E := eHfind) (i := 0) rfl (by decide) ((h, nmL t.queue)) (hh.1)
  have g2 := tabG_use (T := [eHfind, eHown, ePutq, eBackq, eOwn1]) (E := eHown) (i := 1) rfl (by decide) (h) (hh)
  have g3 := fun (q : LQueue) (n : LNote) (h2 : q.Fits ∧ n.Fits) => tabG_use (T := [eHfind, eHown, ePutq, eBackq, eOwn1]) (E := ePutq) (i := 2) rfl (by decide) ((q, h.next, n)) (h2)
  have g4 := fun (q : LQueue) (h : q.Ok) => tabG_use (T := [eHfind, eHown, ePutq, eBackq, eOwn1]) (E := eBackq) (i := 3) rfl (by decide) ((q, t.id, t.turn)) (h)
  have g5 := tabG_use (T := [eHfind, eHown, ePutq, eBackq, eOwn1]) (E := eHfind) (i := 0) rfl (by decide) ((h, nmL deadB)) (hh.1)
  have g6 := fun (n : LNote) (h : n.Fits) => tabG_use (T := [eHfind, eHown, ePutq, eBackq, eOwn1]) (E := eOwn1) (i := 4) rfl (by decide) (n) (h)
  have gn : ∀ a, tabG [eHfind, eHown, ePutq, eBackq, eOwn1] 98 a = none := fun a => rfl
  generalize tabG [eHfind, eHown, ePutq, eBackq, eOwn1] = G at *
  dsimp only [eHfind] at g1
  dsimp only [eHown] at g2
  dsimp only [ePutq] at g3
  dsimp only [eBackq] at g4
  dsimp only [eHfind] at g5
  dsimp only [eOwn1] at g6
  have hl := hh.1
  have hfq := fun i hi => queue_fits (i := i) hh hi
  have hpl := @findS_range h.queues (nmL t.queue)
  have hpd := @findS_range h.queues (nmL deadB)
  obtain ⟨l, next⟩ := h
  obtain ⟨tn, tq, ti, tt⟩ := t
  simp only [hallA, nmL] at g1 g2 g3 g4 g5 hl hpl hpd hfq hx ho
  have hcon : ∀ ns, tq.data.toList = ns → ∀ r, r = hbackS ⟨l, next⟩ ⟨tn, tq, ti, tt⟩ → Con Try.prog D 49 [hallA ⟨l, next⟩, .agg [.int .i64 tn, .str ns, .int .i64 ti, .int .i64 tt]] ⟨.tup [hallA r.1, entriesA r.2.1, .int .i64 r.2.2], []⟩ := by
    intro ns hnm r hr
    unfold hbackS at hr
    simp only [nmL, qAt, setQ, hnm] at hr g1 hpl
    generalize findS l ns = k at *
    refine conW (G := G) (rs := [(4, some 24), (5, none), (6, none)]) hok Try.func49 Try.results49 Try.ntmps49 (hbackLo) fun X hP hD hG' hX => ?_
    simp only [argS, num, hallA]
    simp (disch := omega) only [go_sem, Nat.reduceLeDiff, reduceCtorEq, Nat.reduceAdd, Nat.reduceSub, Nat.reduceMul, Nat.reduceLT, Nat.reduceEqDiff, Int.reduceEq, Int.reduceLE, Int.reduceLT, Int.reducePow, Int.reduceMul, Int.reduceToNat, Int.reduceNeg, ↓reduceIte, hD, hG', wrap64, g1, unbox, tmv, Option.some.injEq, exists_eq_left']
    refine condK_split (fun h => ?_) (fun h => ?_)
    · rw [decide_eq_true_eq] at h
      simp (disch := omega) only [go_sem, Nat.reduceLeDiff, reduceCtorEq, Nat.reduceAdd, Nat.reduceSub, Nat.reduceMul, Nat.reduceLT, Nat.reduceEqDiff, Int.reduceEq, Int.reduceLE, Int.reduceLT, Int.reducePow, Int.reduceMul, Int.reduceToNat, Int.reduceNeg, ↓reduceIte, hD, hG', wrap64, unbox, tmv, Option.some.injEq, exists_eq_left']
      refine endW [] [] (by simp) rfl rfl rfl ?_ ?_ <;> simp only [go_sem, Nat.reduceEqDiff]
      rw [hr, if_pos h]
      simp [hallA, entriesA, hall0, cov, covs, subs, names, namess]
    rw [decide_eq_false_iff_not] at h
    obtain ⟨k, rfl⟩ := Int.eq_ofNat_of_zero_le (show 0 ≤ k by omega)
    have h1 : k < l.length := by omega
    rw [if_neg h, Int.toNat_natCast] at hr
    have g4 := g4 _ (ho _ (getD_mem (d := queue0) h1))
    have hbn := @backS_name (l.getD k queue0) ti tt
    have hbf := @fits_back (l.getD k queue0) ti tt (hfq k h1).1
    obtain ⟨q, hq, hgx⟩ := queueGet' h1
    rw [hq] at hr g4 hbn hbf
    obtain ⟨q1, q2, q3⟩ := q
    simp only at hgx hbn
    generalize backS ⟨q1, q2, q3⟩ ti tt = rt at *
    obtain ⟨⟨t1, t2, t3⟩, ⟨i1, i2, i3, i4, i5, ⟨i6, i7⟩⟩, t4, t5⟩ := rt
    simp only [queueA, itemA, itemRow] at g4
    simp only at hbn hr hbf
    simp (disch := omega) only [go_sem, Nat.reduceLeDiff, reduceCtorEq, Nat.reduceAdd, Nat.reduceSub, Nat.reduceMul, Nat.reduceLT, Nat.reduceEqDiff, Int.reduceEq, Int.reduceLE, Int.reduceLT, Int.reducePow, Int.reduceMul, Int.reduceToNat, Int.reduceNeg, ↓reduceIte, hD, hG', wrap64, hgx, g4, hbackLo, unbox, tmv, Option.some.injEq, exists_eq_left']
    refine ⟨by decide, by omega, condK_split (fun h2 => ?_) (fun h2 => ?_)⟩
    · have e : t5 ≠ 0 := by simpa using h2
      simp (disch := omega) only [go_sem, Nat.reduceLeDiff, reduceCtorEq, Nat.reduceAdd, Nat.reduceSub, Nat.reduceMul, Nat.reduceLT, Nat.reduceEqDiff, Int.reduceEq, Int.reduceLE, Int.reduceLT, Int.reducePow, Int.reduceMul, Int.reduceToNat, Int.reduceNeg, ↓reduceIte, hD, hG', wrap64, unbox, tmv, Option.some.injEq, exists_eq_left']
      refine endW [] [] (by simp) rfl rfl rfl ?_ ?_ <;> simp only [go_sem, Nat.reduceEqDiff]
      rw [hr, if_pos e]
      simp [hallA, entriesA, hall0, cov, covs, subs, names, namess]
    have e : t5 = 0 := by simpa using h2
    rw [if_neg (by simpa using e)] at hr
    have hbn := hbn e
    subst hbn
    have hfs : findS (l.set k ⟨t1, t2, t3⟩) (nmL deadB) = findS l (nmL deadB) := findS_set (by rw [hq])
    have hd1 : 0 ≤ findS l (nmL deadB) → findS l (nmL deadB) ≠ k → deadS ⟨l.set k ⟨t1, t2, t3⟩, next⟩ k ⟨i6, i7⟩ = ((putAt ⟨l.set k ⟨t1, t2, t3⟩, next⟩ (findS l (nmL deadB)).toNat ⟨i6, i7⟩).1, (putAt ⟨l.set k ⟨t1, t2, t3⟩, next⟩ (findS l (nmL deadB)).toNat ⟨i6, i7⟩).2.1) := fun h1 h2 => by
      unfold deadS
      simp only [hfs]
      rw [if_pos ⟨h1, h2⟩]
    have hd2 : ¬ (0 ≤ findS l (nmL deadB) ∧ findS l (nmL deadB) ≠ k) → deadS ⟨l.set k ⟨t1, t2, t3⟩, next⟩ k ⟨i6, i7⟩ = (⟨l.set k ⟨t1, t2, t3⟩, next⟩, []) := fun h => by
      unfold deadS
      simp only [hfs]
      rw [if_neg h]
    generalize deadS ⟨l.set k ⟨t1, t2, t3⟩, next⟩ k ⟨i6, i7⟩ = dd at hr hd1 hd2
    clear hfs
    simp only [nmL, show deadB.data.toList = [100, 101, 97, 100] from rfl] at hd1 hd2 hpd g5
    have hdn : ∀ j, j < l.length → j ≠ k → (l.set k (⟨t1, t2, t3⟩ : LQueue)).getD j queue0 = l.getD j queue0 ∧ ((l.map queueRow).set k (queueRow ⟨t1, t2, t3⟩)).getD j [] = (l.map queueRow).getD j [] := fun j hj hjk => ⟨by rw [getD_set h1, if_neg hjk], by rw [getD_set (by simpa using h1), if_neg hjk]⟩
    generalize findS l [100, 101, 97, 100] = d at *
    simp (disch := omega) only [go_sem, Nat.reduceLeDiff, reduceCtorEq, Nat.reduceAdd, Nat.reduceSub, Nat.reduceMul, Nat.reduceLT, Nat.reduceEqDiff, Int.reduceEq, Int.reduceLE, Int.reduceLT, Int.reducePow, Int.reduceMul, Int.reduceToNat, Int.reduceNeg, ↓reduceIte, hD, hG', wrap64, g2, hgx, unbox, tmv, Option.some.injEq, exists_eq_left']
    refine ⟨by omega, by simpa using h1, condK_split (fun h3 => ?_) (fun h3 => ?_)⟩
    · have e3 : t4 = false := by simpa using h3
      simp (disch := omega) only [go_sem, Nat.reduceLeDiff, reduceCtorEq, Nat.reduceAdd, Nat.reduceSub, Nat.reduceMul, Nat.reduceLT, Nat.reduceEqDiff, Int.reduceEq, Int.reduceLE, Int.reduceLT, Int.reducePow, Int.reduceMul, Int.reduceToNat, Int.reduceNeg, ↓reduceIte, hD, hG', wrap64, unbox, tmv, Option.some.injEq, exists_eq_left']
      refine endW [4140] [] (by simp) rfl rfl rfl ?_ ?_ <;> simp only [go_sem, Nat.reduceEqDiff]
      rw [hr, if_pos e3]
      simp [hallA, entriesA, hall0, cov, covs, subs, names, namess, queueRow]
    have e3 : ¬ t4 = false := by simpa using h3
    rw [if_neg e3] at hr
    simp (disch := omega) only [go_sem, Nat.reduceLeDiff, reduceCtorEq, Nat.reduceAdd, Nat.reduceSub, Nat.reduceMul, Nat.reduceLT, Nat.reduceEqDiff, Int.reduceEq, Int.reduceLE, Int.reduceLT, Int.reducePow, Int.reduceMul, Int.reduceToNat, Int.reduceNeg, ↓reduceIte, hD, hG', wrap64, g5, hbackLo, unbox, tmv, Option.some.injEq, exists_eq_left']
    refine RegT.mk [] ?_
    simp (disch := omega) only [go_sem, Nat.reduceLeDiff, reduceCtorEq, Nat.reduceAdd, Nat.reduceSub, Nat.reduceMul, Nat.reduceLT, Nat.reduceEqDiff, Int.reduceEq, Int.reduceLE, Int.reduceLT, Int.reducePow, Int.reduceMul, Int.reduceToNat, Int.reduceNeg, ↓reduceIte, hD, hG', wrap64, g5, hbackLo, unbox, tmv, Option.some.injEq, exists_eq_left']
    and_intros
    all_goals (try (first | (intro hk; refine ⟨hk, fun h2 => ?_⟩; first | (rw [hk, h2]; rfl) | (rw [hk, decide_eq_false h2]; rfl)) | (intro hk; rw [decide_eq_false hk]; rfl) | (intro hk; rw [hk]; rfl)))
    all_goals (try (intro hh0; simpa using hh0))
    refine condK_split (fun h4 => ?_) (fun h4 => ?_)
    · have h4' : 0 ≤ d ∧ d ≠ (k : Int) := by
        have : d ≥ 0 := by
          by_cases h : d ≥ 0
          · exact h
          · rw [if_neg h] at h4; cases h4
        rw [if_pos this] at h4
        exact ⟨this, by simpa using h4⟩
      have hd1 := hd1 h4'.1 h4'.2
      clear hd2
      obtain ⟨j, rfl⟩ := Int.eq_ofNat_of_zero_le h4'.1
      have hj : j < l.length := by omega
      have hjk : j ≠ k := by omega
      obtain ⟨e1, e2⟩ := hdn j hj hjk
      have g3 := g3 _ ⟨i6, i7⟩ ⟨(hfq j hj).1, hbf.2⟩
      have g6 := g6 _ hbf.2
      simp only [noteA] at g3 g6
      have hpn := @putS_name (l.getD j queue0) next ⟨i6, i7⟩
      obtain ⟨q', hq', hgx'⟩ := queueGet' hj
      rw [Int.toNat_natCast] at hd1
      simp only [putAt, qAt, e1, hq'] at hd1
      rw [hq'] at g3 hpn
      rw [hgx'] at e2
      obtain ⟨q'1, q'2, q'3⟩ := q'
      simp only [queueRow] at e2 hpn
      generalize putS ⟨q'1, q'2, q'3⟩ next ⟨i6, i7⟩ = rp at *
      obtain ⟨⟨p1, p2, p3⟩, p4⟩ := rp
      simp only [queueA] at g3
      simp only at hpn
      simp (disch := omega) only [go_sem, Nat.reduceLeDiff, reduceCtorEq, Nat.reduceAdd, Nat.reduceSub, Nat.reduceMul, Nat.reduceLT, Nat.reduceEqDiff, Int.reduceEq, Int.reduceLE, Int.reduceLT, Int.reducePow, Int.reduceMul, Int.reduceToNat, Int.reduceNeg, ↓reduceIte, hD, hG', wrap64, gn, unbox, tmv, Option.some.injEq, exists_eq_left']
      refine inlW (rs := [(6, none), (7, none)]) hX hP 70000 hbputLo Try.func98 Try.results98 Try.ntmps98 fun hX1 => ?_
      simp (disch := omega) only [go_sem, Nat.reduceLeDiff, reduceCtorEq, Nat.reduceAdd, Nat.reduceSub, Nat.reduceMul, Nat.reduceLT, Nat.reduceEqDiff, Int.reduceEq, Int.reduceLE, Int.reduceLT, Int.reducePow, Int.reduceMul, Int.reduceToNat, Int.reduceNeg, ↓reduceIte, hD, hG', wrap64, enterS, leaveS, shT, unT, resA, num, unbox, Option.some.injEq, exists_eq_left', tmv, hbputLo, e2, g3, unbox, tmv, Option.some.injEq, exists_eq_left']
      have hln : ((l.map queueRow).set k [AV.str t1.data.toList, AV.int IntKind.i64 t2, AV.sl 7 (List.map itemRow t3)]).length = l.length := by simp
      refine ⟨by decide, by rw [hln]; omega, condK_split (fun h2 => ?_) (fun h2 => ?_)⟩
      · have e : p4 ≠ 0 := by simpa using h2
        have h2' : (p4 != 0) = true := h2
        simp (disch := omega) only [go_sem, Nat.reduceLeDiff, reduceCtorEq, Nat.reduceAdd, Nat.reduceSub, Nat.reduceMul, Nat.reduceLT, Nat.reduceEqDiff, Int.reduceEq, Int.reduceLE, Int.reduceLT, Int.reducePow, Int.reduceMul, Int.reduceToNat, Int.reduceNeg, ↓reduceIte, hD, hG', wrap64, enterS, leaveS, shT, unT, resA, num, unbox, Option.some.injEq, exists_eq_left', tmv, h2', hbputLo, hbackLo, unbox, tmv, Option.some.injEq, exists_eq_left']
        refine endK (Wk.nz 77 (rs' := [entryRow ⟨4, tq, 0, ti, note0⟩]) rfl ⟨nz_gone _ _ _ hnm _, trivial⟩) [4140, 77] [] (by simp) rfl rfl rfl ?_ ?_ <;> simp only [go_sem, Nat.reduceEqDiff]
        rw [hr, hd1, if_pos e]
        simp [hallA, entriesA, queueRow, cov, covs, subs, names, namess]
      · have e : p4 = 0 := by simpa using h2
        have hnx : next + 1 - 1 = next := by omega
        subst e
        rw [hpn rfl] at *
        simp (disch := omega) only [go_sem, Nat.reduceLeDiff, reduceCtorEq, Nat.reduceAdd, Nat.reduceSub, Nat.reduceMul, Nat.reduceLT, Nat.reduceEqDiff, Int.reduceEq, Int.reduceLE, Int.reduceLT, Int.reducePow, Int.reduceMul, Int.reduceToNat, Int.reduceNeg, ↓reduceIte, hD, hG', wrap64, enterS, leaveS, shT, unT, resA, num, unbox, Option.some.injEq, exists_eq_left', tmv, hbputLo, e2, g6, hnx, hbackLo, unbox, tmv, Option.some.injEq, exists_eq_left']
        refine ⟨by decide, by rw [hln]; omega, by rw [hln]; omega, by decide, ?_⟩
        refine endK (Wk.nz 77 (rs' := [entryRow ⟨4, tq, 0, ti, note0⟩, entryRow ⟨3, q'1, 0, next, ⟨i6, i7⟩⟩]) rfl ⟨nz_gone _ _ _ hnm _, rowNz_refl _, trivial⟩) [4140, 77] [] (by simp) rfl rfl rfl ?_ ?_ <;> simp only [go_sem, Nat.reduceEqDiff]
        rw [hr, hd1]
        simp [hallA, entriesA, queueRow, cov, covs, subs, names, namess]
    · have hd2 := hd2 (fun h5 => by rw [if_pos h5.1] at h4; exact h5.2 (by simpa using h4))
      simp (disch := omega) only [go_sem, Nat.reduceLeDiff, reduceCtorEq, Nat.reduceAdd, Nat.reduceSub, Nat.reduceMul, Nat.reduceLT, Nat.reduceEqDiff, Int.reduceEq, Int.reduceLE, Int.reduceLT, Int.reducePow, Int.reduceMul, Int.reduceToNat, Int.reduceNeg, ↓reduceIte, hD, hG', wrap64, hbackLo, unbox, tmv, Option.some.injEq, exists_eq_left']
      refine endK (Wk.nz 58 (rs' := [entryRow ⟨4, tq, 0, ti, note0⟩]) rfl ⟨nz_gone _ _ _ hnm _, trivial⟩) [4140, 58] [] (by simp) rfl rfl rfl ?_ ?_ <;> simp only [go_sem, Nat.reduceEqDiff]
      rw [hr, hd2]
      simp [hallA, entriesA, queueRow, cov, covs, subs, names, namess]
  exact hcon _ rfl _ rfl
end Go.Proofs.Ythbejciebmkclaa.Ab
namespace Go.Proofs.Ythbejciebmkclaa.Ab
open Go Go.RowKit
set_option linter.unusedVariables false
set_option linter.unusedSimpArgs false

theorem sum_set {α : Type} {f : α → Nat} {d : α} : ∀ {l : List α} {k : Nat} {x : α}, k < l.length → ((l.set k x).map f).sum + f (l.getD k d) = (l.map f).sum + f x
  | [], k, x, h => by simp at h
  | a :: l, 0, x, h => by simp; omega
  | a :: l, k + 1, x, h => by
    have := sum_set (f := f) (d := d) (l := l) (k := k) (x := x) (by simpa using h)
    simp at this ⊢
    omega
theorem sum_erase {α : Type} {f : α → Nat} {d : α} : ∀ {l : List α} {k : Nat}, k < l.length → ((l.eraseIdx k).map f).sum + f (l.getD k d) = (l.map f).sum
  | [], k, h => by simp at h
  | a :: l, 0, h => by simp; omega
  | a :: l, k + 1, h => by
    have := sum_erase (f := f) (d := d) (l := l) (k := k) (by simpa using h)
    simp at this ⊢
    omega
def outI (i : LItem) : Nat := if i.out = true then 1 else 0
def outQ (q : LQueue) : Nat := (q.items.map outI).sum
def outs (h : LHall) : Nat := (h.queues.map outQ).sum
theorem placeS_found {p : LItem → Bool} {l : List LItem} (h : ¬ placeS p l 0 < 0) : ∃ k : Nat, k < l.length ∧ placeS p l 0 = k ∧ p (l.getD k item0) = true := by
  have key : ∀ (l : List LItem) (s : Int), placeS p l s = -1 ∨ ∃ k, k < l.length ∧ placeS p l s = s + k ∧ p (l.getD k item0) = true := by
    intro l
    induction l with
    | nil => intro s; exact .inl rfl
    | cons a r ih =>
      intro s
      simp only [placeS]
      split
      · rename_i ha
        exact .inr ⟨0, by simp, by simp, by simpa using ha⟩
      · rcases ih (s + 1) with h | ⟨k, h1, h2, h3⟩
        · exact .inl h
        · exact .inr ⟨k + 1, by simpa using h1, by rw [h2]; push_cast; omega, by rw [List.getD_cons_succ]; exact h3⟩
  rcases key l 0 with h1 | ⟨k, h1, h2, h3⟩
  · exact absurd h (by rw [h1]; decide)
  · exact ⟨k, h1, by rw [h2]; omega, h3⟩
theorem placeS_some {p : LItem → Bool} : ∀ {l : List LItem} {k : Nat} {s : Int}, 0 ≤ s → k < l.length → p (l.getD k item0) = true → ¬ placeS p l s < 0
  | [], k, s, _, h, _ => by simp at h
  | a :: l, k, s, hs, h, hp => by
    rw [placeS]
    split
    · omega
    · rename_i ha
      cases k with
      | zero => exact absurd (by simpa using hp) ha
      | succ k => exact placeS_some (k := k) (by omega) (by simpa using h) (by simpa using hp)
/-- how a hall is while items come back -/
def hallP (T M : Int) (n : Nat) (g : LHall) : Prop := hallFine T g ∧ g.queues.length = n ∧ 0 ≤ g.next ∧ g.next + outs g ≤ M
theorem fine_set {T : Int} {l : List LQueue} {next x : Int} {k : Nat} {q : LQueue} (h : hallFine T ⟨l, next⟩) (hk : k < l.length) (hn : q.name = (l.getD k queue0).name) (hq : queueFine T q) : hallFine T ⟨l.set k q, x⟩ := by
  refine ⟨fun j hj => ?_, fun p hp => ?_⟩
  · simp only [List.length_set] at hj
    simp only [findS_set hn]
    rw [getD_set hk]
    split
    · rename_i e
      rw [hn, ← e]
      exact h.1 j hj
    · exact h.1 j hj
  · rcases List.mem_or_eq_of_mem_set hp with hp | hp
    · exact h.2 p hp
    · rw [hp]; exact hq
theorem fine_get {T : Int} {h : LHall} (hf : hallFine T h) {k : Nat} (hk : k < h.queues.length) : queueFine T (qAt h k) := hf.2 _ (getD_mem (d := queue0) hk)
theorem fine_back {T : Int} {q : LQueue} {k : Nat} (h : queueFine T q) (hk : k < q.items.length) (ht : (q.items.getD k item0).tries + 1 < 3) : queueFine T { q with items := q.items.set k (backI (q.items.getD k item0)) } := by
  refine ⟨h.1, h.2.1, by simpa using h.2.2.1, fun i hi => ?_⟩
  rcases List.mem_or_eq_of_mem_set hi with hi | hi
  · exact h.2.2.2 i hi
  · have := h.2.2.2 _ (getD_mem (d := item0) hk)
    rw [hi]
    refine ⟨this.1, this.2.1, ?_⟩
    have := this.2.2
    simp only [backI]
    omega
theorem fine_gone {T : Int} {q : LQueue} {k : Nat} (h : queueFine T q) (hk : k < q.items.length) : queueFine T { q with items := q.items.eraseIdx k } := by
  refine ⟨h.1, h.2.1, ?_, fun i hi => h.2.2.2 i (List.mem_of_mem_eraseIdx hi)⟩
  have := h.2.2.1
  simp only [List.length_eraseIdx, hk, if_true]
  omega
theorem fine_put {T : Int} {q : LQueue} {id : Int} {n : LNote} (h : queueFine T q) (hT : 0 ≤ T) (hn : wrongS n = 0) (hp : (putS q id n).2 = 0) : queueFine T (putS q id n).1 ∧ (putS q id n).1.name = q.name ∧ outQ (putS q id n).1 = outQ q := by
  unfold putS at *
  by_cases hc : q.limit ≤ q.items.length
  · simp [hc] at hp
  · rw [if_neg hc]
    refine ⟨⟨h.1, h.2.1, ?_, fun i hi => ?_⟩, rfl, ?_⟩
    · have := h.2.1
      simp only [List.length_append, List.length_singleton]
      omega
    · rcases List.mem_append.1 hi with hi | hi
      · exact h.2.2.2 i hi
      · have : i = ⟨id, 0, 0, false, 0, n⟩ := by simpa using hi
        subst this
        exact ⟨hn, by simp; omega, by simp⟩
    · simp [outQ, outI]
theorem put_fine {T : Int} {h : LHall} {k : Nat} {n : LNote} (hf : hallFine T h) (hT : 0 ≤ T) (hn : wrongS n = 0) (hk : k < h.queues.length) : hallFine T (putAt h k n).1 ∧ (putAt h k n).1.queues.length = h.queues.length ∧ outs (putAt h k n).1 = outs h ∧ h.next ≤ (putAt h k n).1.next ∧ (putAt h k n).1.next ≤ h.next + 1 := by
  unfold putAt
  by_cases hp : (putS (qAt h k) h.next n).2 ≠ 0
  · rw [if_pos hp]
    refine ⟨hf, rfl, rfl, ?_, ?_⟩
    · exact Int.le_refl _
    · show h.next ≤ h.next + 1
      omega
  · rw [if_neg hp]
    have hp : (putS (qAt h k) h.next n).2 = 0 := by simpa using hp
    obtain ⟨h1, h2, h3⟩ := fine_put (fine_get hf hk) hT hn hp
    refine ⟨fine_set (next := h.next) hf hk h2 h1, by simp, ?_, ?_, ?_⟩
    · have := sum_set (f := outQ) (d := queue0) (x := (putS (qAt h k) h.next n).1) hk
      rw [h3] at this
      unfold outs qAt at *
      simp only at this ⊢
      omega
    · show h.next ≤ h.next + 1
      omega
    · exact Int.le_refl _
end Go.Proofs.Ythbejciebmkclaa.Ab
namespace Go.Proofs.Ythbejciebmkclaa.Ab
open Go Go.RowKit
set_option linter.unusedVariables false
set_option linter.unusedSimpArgs false

def HallIn (x : LHall) : Prop := x.Fits ∧ (∀ q ∈ x.queues, q.Ok) ∧ -1000000000 ≤ x.next ∧ x.next ≤ 1000000000
def eHback : Ent Try.prog D := ⟨49, LHall × LTag, fun x => [hallA x.1, tagA x.2], fun x => HallIn x.1, fun x => ⟨hres (hbackS x.1 x.2), []⟩, fun x y _ _ h => by
  obtain ⟨a, b⟩ := x
  obtain ⟨a', b'⟩ := y
  simp only [List.cons.injEq, and_true] at h
  rw [hallA_inj h.1, tagA_inj h.2], fun x h => con_hback _ _ h.1 h.2.1 h.2.2⟩
theorem hallP_in {T M : Int} {n : Nat} {g : LHall} (h : hallP T M n g) (hT : T ≤ 1000000) (hM : M ≤ 1000000000) (hn : n ≤ 1048576) : HallIn g := by
  obtain ⟨h1, h2, h3, h4⟩ := h
  exact ⟨hallFine_fits h1 hT (by omega), fun q hq => queueFine_ok (h1.2 q hq) hT, by omega, by omega⟩
theorem put_len (h : LHall) (k : Nat) (n : LNote) : (putAt h k n).2.1.length ≤ 1 := by
  unfold putAt
  split <;> simp
end Go.Proofs.Ythbejciebmkclaa.Ab
