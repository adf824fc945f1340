/-
  States that say the same; where a new block's name comes from; what an operation looks at.
  No condition.
-/
import Derived.Test.YtcgdjdlcecnanaaAbO
namespace Go.Proofs.Ytcgdjdlcecnanaa.Ab
open Go
set_option linter.unusedVariables false
set_option linter.unusedSimpArgs false

/-! names of new blocks -/
def Nw (dst : Nat) (e : Eff) : Prop := ∀ k ∈ keys e.nw, k % 4096 = dst % 4096
theorem Nw.nil {dst : Nat} {e : Eff} (h : e.nw = []) : Nw dst e := by intro k hk; rw [h] at hk; cases hk
theorem Nw.one {dst : Nat} {e : Eff} {b : Blk} (h : e.nw = [(dst, b)]) : Nw dst e := by
  intro k hk
  rw [h] at hk
  simp [keys] at hk
  rw [hk]
theorem ownBl_keys {dst : Nat} : ∀ {l : List (Nat × Nat × List (List AV))} {k : Nat}, ∀ n ∈ keys (ownBl dst k l), n % 4096 = dst % 4096
  | [], _, n, h => by simp [ownBl, keys] at h
  | (e, sz, rs) :: r, k, n, h => by
    simp only [ownBl, keys, List.mem_cons] at h
    rcases h with rfl | h
    · omega
    · exact ownBl_keys n h
theorem map_nw {α : Type} {o : Option α} {f : α → AV} {e : Eff} (h : o.map (fun x => ({ v := f x } : Eff)) = some e) : e.nw = [] := by
  obtain ⟨x, _, rfl⟩ := Option.map_eq_some_iff.1 h
  rfl
theorem map_nw' {α : Type} {o : Option α} {f : α → AV} {g : α → Prop} {e : Eff} (h : o.map (fun x => ({ v := f x, pre := g x } : Eff)) = some e) : e.nw = [] := by
  obtain ⟨x, _, rfl⟩ := Option.map_eq_some_iff.1 h
  rfl
theorem bin_nw {op x y e} (h : bin op x y = some e) : e.nw = [] := by
  unfold bin at h
  split at h <;> (try split at h) <;> first | (cases h; rfl) | cases h
theorem effBin_nw {D T op x y e} (h : effBin D T op x y = some e) : e.nw = [] := by
  unfold effBin at h
  split at h
  · split at h <;> first | (cases h; rfl) | cases h
  · exact bin_nw h
theorem effSlice_nw {D bl T lo hi xs e} (h : effSlice D bl T lo hi xs = some e) : e.nw = [] := by
  unfold effSlice at h
  simp only at h
  split at h
  · split at h
    · split at h <;> first | (cases h; rfl) | cases h
    · cases h
  · split at h
    · split at h <;> first | (cases h; rfl) | cases h
    · cases h
  · cases h
theorem effLoad_nw {D bl T x e} (h : effLoad D bl T x = some e) : e.nw = [] := by
  unfold effLoad at h
  split at h
  · split at h
    · exact map_nw h
    · cases h
  · exact map_nw h
  · split at h
    · exact map_nw h
    · cases h
  · cases h
theorem effStore_nw {D bl T x y e} (h : effStore D bl T x y = some e) : e.nw = [] := by
  unfold effStore at h
  split at h
  · split at h <;> first | (cases h; rfl) | cases h
  · split at h <;> first | (cases h; rfl) | cases h
  · cases h
theorem effFieldAddr_nw {D T f x e} (h : effFieldAddr D T f x = some e) : e.nw = [] := by
  unfold effFieldAddr at h
  split at h
  · split at h
    · split at h <;> first | (cases h; rfl) | cases h
    · cases h
  · cases h
theorem effField_nw {D T f x e} (h : effField D T f x = some e) : e.nw = [] := by
  unfold effField at h
  split at h
  · split at h
    · split at h
      · exact map_nw h
      · cases h
    · cases h
  · cases h
theorem effIndexAddr_nw {D bl T x i e} (h : effIndexAddr D bl T x i = some e) : e.nw = [] := by
  unfold effIndexAddr at h
  split at h
  · split at h
    · split at h
      · split at h <;> first | (cases h; rfl) | cases h
      · split at h
        · split at h <;> first | (cases h; rfl) | cases h
        · cases h
      · cases h
    · cases h
  · cases h
theorem effConvert_nw {D bl S T x e} (h : effConvert D bl S T x = some e) : e.nw = [] := by
  unfold effConvert at h
  split at h
  · split at h <;> first | (cases h; rfl) | cases h
  · split at h <;> first | (cases h; rfl) | cases h
  · split at h
    · exact map_nw' h
    · cases h
  · split at h
    · split at h <;> first | (cases h; rfl) | cases h
    · cases h
  · split at h
    · split at h
      · split at h <;> first | (cases h; rfl) | cases h
      · cases h
    · cases h
  · cases h
theorem effAppend_nw {D bl dst T U x y e} (h : effAppend D bl dst T U x y = some e) : Nw dst e := by
  unfold effAppend at h
  split at h
  · split at h
    · split at h
      · cases h; exact .one rfl
      · cases h
    · cases h
  · cases h
theorem effCall_nw {G bl dst args x e} (h : effCall G bl dst args x = some e) : Nw dst e := by
  unfold effCall at h
  split at h
  · split at h
    · unfold effRes at h
      split at h
      · split at h
        · cases h; exact .nil rfl
        · split at h <;> first | (cases h; exact .nil rfl) | cases h
      · split at h
        · cases h; exact ownBl_keys
        · cases h
      · cases h
    · cases h
  · cases h
theorem effLen_nw {D bl T x e} (h : effLen D bl T x = some e) : e.nw = [] := by
  unfold effLen at h
  split at h
  · split at h <;> first | (cases h; rfl) | cases h
  · exact map_nw h
  · cases h
theorem eff_nw {D G bl dst op xs e} (h : eff D G bl dst op xs = some e) : Nw dst e := by
  cases op <;> simp only [eff] at h <;> try (cases h; done)
  case move => split at h <;> first | (cases h; exact .nil rfl) | cases h
  case assign => split at h <;> first | (cases h; exact .nil rfl) | cases h
  case alloc => split at h <;> first | (cases h; exact .one rfl) | cases h
  case box => split at h <;> first | (cases h; exact .one rfl) | cases h
  case build =>
    split at h
    · exact .nil (map_nw h)
    · cases h
  case buildSlice =>
    split at h
    · split at h <;> first | (cases h; exact .one rfl) | cases h
    · cases h
  case load => split at h <;> first | exact .nil (effLoad_nw h) | cases h
  case store =>
    split at h
    · split at h <;> first | exact .nil (effStore_nw h) | cases h
    · cases h
  case nilCheck => split at h <;> first | (cases h; exact .nil rfl) | cases h
  case binOp => split at h <;> first | exact .nil (effBin_nw h) | cases h
  case unOp => split at h <;> first | (cases h; exact .nil rfl) | cases h
  case convert => split at h <;> first | exact .nil (effConvert_nw h) | cases h
  case slice => split at h <;> first | exact .nil (effSlice_nw h) | cases h
  case fieldAddr => split at h <;> first | exact .nil (effFieldAddr_nw h) | cases h
  case field => split at h <;> first | exact .nil (effField_nw h) | cases h
  case indexAddr => split at h <;> first | exact .nil (effIndexAddr_nw h) | cases h
  case index => split at h <;> first | (cases h; exact .nil rfl) | cases h
  case makeSlice =>
    split at h
    · split at h
      · split at h <;> first | (cases h; exact .nil rfl) | cases h
      · cases h
    · cases h
  case extract =>
    split at h
    · exact .nil (map_nw h)
    · cases h
  case makeFunc =>
    split at h
    · split at h <;> first | (cases h; exact .nil rfl) | cases h
    · cases h
  case call c =>
    split at h
    · split at h
      · split at h
        · split at h <;> first | exact .nil (effLen_nw h) | cases h
        · cases h
      · split at h
        · split at h <;> first | exact effAppend_nw h | cases h
        · cases h
      · split at h
        · split at h <;> first | (cases h; exact .nil rfl) | cases h
        · cases h
      · split at h
        · split at h <;> first | (cases h; exact .nil rfl) | cases h
        · cases h
      · cases h
    · split at h <;> first | exact effCall_nw h | cases h
    · cases h
theorem baseE_nw {D G σ dst op ys e} (h : baseE D G σ dst op ys = some e) : Nw dst e := by
  unfold baseE at h
  split at h
  · unfold pick3 at h
    split at h
    · unfold pickE at h
      split at h <;> first | (cases h; exact .nil rfl) | cases h
    · cases h
  · cases he : eff D G (snap σ (namess ys)) dst op (ys.map uv) with
    | none => rw [he] at h; cases h
    | some e' =>
      rw [he] at h
      simp only [asked] at h
      cases h
      exact (show Nw dst e' from eff_nw he)

section
variable {P : Program} {D : Nat → TI} {G : Ctr} {M : MCtr} {nb : Nat} {off : List (Nat × Bool)} {ops : Array Oper} {σ σ' : AS}

/-- what an operation's operands name -/
def opsNs (σ : AS) (o : Oper) : List Nat := namess (o.op.operands.toList.map (ev σ))

theorem snap_same {ns : List Nat} (h : ∀ n ∈ ns, blk σ' n = blk σ n) : snap σ' ns = snap σ ns := by
  funext n
  unfold snap
  split
  · exact h n (mem_iff.1 ‹_›)
  · rfl
theorem blNames_same {bl : Nat → Option Blk} (ns : List Nat) : blNames bl ns = blNames bl ns := rfl

theorem eff_free {op : Op} (h : blkFree op = true) {bl bl' : Nat → Option Blk} {dst : Nat} {xs : List AV} : eff D G bl dst op xs = eff D G bl' dst op xs := by
  cases op <;> simp only [blkFree] at h <;> first | rfl | cases h
theorem mEff_free {o : Oper} (h : blkFree o.op = true) : mEff M σ o = none := by
  unfold mEff
  split
  · rename_i c hc
    rw [hc] at h
    cases h
  · rfl
/-- what an operation looks at is the same -/
def Same (σ σ' : AS) (o : Oper) : Prop := blkFree o.op = true ∨ ∀ n ∈ opsNs σ o, blk σ' n = blk σ n
theorem Same.base {o : Oper} (h : Same σ σ' o) (dn : Nat) : baseE D G σ' dn o.op (o.op.operands.toList.map (ev σ)) = baseE D G σ dn o.op (o.op.operands.toList.map (ev σ)) := by
  unfold baseE
  rcases h with h | h
  · rw [eff_free h (bl := snap σ' (namess (o.op.operands.toList.map (ev σ)))) (bl' := snap σ (namess (o.op.operands.toList.map (ev σ))))]
  · have hs := snap_same h
    simp only [opsNs] at hs
    rw [hs]
theorem Same.bs {o : Oper} (h : Same σ σ' o) : bsOf σ' o.op (opsNs σ o) = bsOf σ o.op (opsNs σ o) := by
  unfold bsOf
  split
  · rfl
  · rename_i hf
    rcases h with h | h
    · exact absurd h hf
    · rw [snap_same h]
theorem Same.m {o : Oper} (h : Same σ σ' o) (hev : ∀ x ∈ o.op.operands, ev σ' x = ev σ x) : mEff M σ' o = mEff M σ o := by
  rcases h with h | h
  · rw [mEff_free h, mEff_free h]
  · have hys : o.op.operands.toList.map (ev σ') = o.op.operands.toList.map (ev σ) := List.map_congr_left fun x hx => hev x (by simpa using hx)
    have hs := snap_same h
    simp only [opsNs] at hs
    unfold mEff
    rw [hys, hs]
    split
    · rename_i c hc
      split
      · rename_i f hcf
        rw [hc] at hev
        have h1 : ev σ' f = ev σ f := hev f (by simp [Op.operands, Call.operands, hcf])
        have h2 : c.args.toList.map (ev σ') = c.args.toList.map (ev σ) := List.map_congr_left fun x hx => hev x (by simp only [Op.operands, Call.operands, hcf]; exact Array.mem_append.2 (.inr (by simpa using hx)))
        rw [h1, h2]
      · rfl
    · rfl
/-- an operation does the same where what it looks at is the same -/
theorem opEff_same {o : Oper} {e : Eff} (hev : ∀ x ∈ o.op.operands, ev σ' x = ev σ x) (hg : guardOf σ' ops o.guard = guardOf σ ops o.guard) (hsn : Same σ σ' o)
    (hun : o.guard ≠ none → ∀ e0, baseE D G σ (nb + o.dst.getD 0) o.op (o.op.operands.toList.map (ev σ)) = some e0 → unbound σ (keys e0.nw) = true → unbound σ' (keys e0.nw) = true) (he : opEff D G M nb off ops σ o = some e) : opEff D G M nb off ops σ' o = some e := by
  have hys : o.op.operands.toList.map (ev σ') = o.op.operands.toList.map (ev σ) := List.map_congr_left fun x hx => hev x (by simpa using hx)
  unfold opEff at he ⊢
  rw [hg, hys]
  split at he
  · rename_i ho
    rw [if_pos ho]
    exact he
  rename_i ho
  rw [if_neg ho]
  rw [hsn.base, hsn.m hev]
  cases hgo : guardOf σ ops o.guard with
  | none => rw [hgo] at he; cases he
  | some g =>
    rw [hgo] at he
    cases g with
    | none => exact he
    | some g =>
      have hbs := hsn.bs
      simp only [opsNs] at hbs
      cases h0 : baseE D G σ (nb + o.dst.getD 0) o.op (o.op.operands.toList.map (ev σ)) with
      | none => rw [h0] at he; exact he
      | some e0 =>
        rw [h0] at he
        simp only [guarded, hbs] at he ⊢
        split at he
        · rename_i hc
          have hgn : o.guard ≠ none := fun e => by rw [e] at hgo; simp [guardOf] at hgo
          rw [if_pos ⟨hc.1, hun hgn e0 h0 hc.2.1, hc.2.2⟩]
          exact he
        · cases he

theorem opEff_quiet_nw {o : Oper} {e : Eff} (he : opEff D G M nb off ops σ o = some e) : Nw (nb + o.dst.getD 0) e := by
  unfold opEff at he
  split at he
  · unfold skipE at he
    split at he
    · cases he; exact .nil rfl
    · cases he
  cases hgo : guardOf σ ops o.guard with
  | none => rw [hgo] at he; cases he
  | some g =>
    rw [hgo] at he
    cases g with
    | none =>
      cases hbe : baseE D G σ (nb + o.dst.getD 0) o.op (o.op.operands.toList.map (ev σ)) with
      | some e1 => rw [hbe] at he; cases he; exact baseE_nw hbe
      | none =>
        rw [hbe] at he
        cases hme : mEff M σ o with
        | none => rw [hme] at he; cases he
        | some e1 =>
          rw [hme] at he
          simp only [orM] at he
          split at he
          · rename_i hn; cases he; exact .nil hn
          · cases he
    | some g =>
      cases h0 : baseE D G σ (nb + o.dst.getD 0) o.op (o.op.operands.toList.map (ev σ)) with
      | none => rw [h0] at he; simp [guarded] at he
      | some e0 =>
        rw [h0] at he
        simp only [guarded] at he
        split at he
        · cases he; exact .nil rfl
        · cases he

mutual
/-- nothing in it is junk -/
def clean : AV → Bool
  | .junk => false
  | .agg cs => cleans cs
  | .tup cs => cleans cs
  | .func _ cs => cleans cs
  | .opt _ v => clean v
  | _ => true
def cleans : List AV → Bool
  | [] => true
  | v :: r => clean v && cleans r
end
mutual
theorem clean_kl {ks : List Nat} : ∀ (x : AV), clean (kl ks x) = true → kl ks x = x
  | .os t, h => by
    simp only [kl] at h ⊢
    split
    · rename_i e; rw [if_pos e] at h; simp [clean] at h
    · rfl
  | .ptr v o, h => by
    simp only [kl] at h ⊢
    split
    · rename_i e; rw [if_pos e] at h; simp [clean] at h
    · rfl
  | .eptr v i o, h => by
    simp only [kl] at h ⊢
    split
    · rename_i e; rw [if_pos e] at h; simp [clean] at h
    · rfl
  | .agg cs, h => by simp only [kl, clean] at h ⊢; rw [cleans_kls cs h]
  | .tup cs, h => by simp only [kl, clean] at h ⊢; rw [cleans_kls cs h]
  | .func f cs, h => by simp only [kl, clean] at h ⊢; rw [cleans_kls cs h]
  | .opt g v, h => by simp only [kl, clean] at h ⊢; rw [clean_kl v h]
  | .junk, _ => by simp [kl]
  | .int _ _, _ => by simp [kl]
  | .bool _, _ => by simp [kl]
  | .str _, _ => by simp [kl]
  | .nils, _ => by simp [kl]
  | .sl _ _, _ => by simp [kl]
  | .iptr _, _ => by simp [kl]
theorem cleans_kls {ks : List Nat} : ∀ (cs : List AV), cleans (kls ks cs) = true → kls ks cs = cs
  | [], _ => by simp [kls]
  | c :: r, h => by
    simp only [kls, cleans, Bool.and_eq_true] at h ⊢
    rw [clean_kl c h.1, cleans_kls r h.2]
end
mutual
theorem kl_id {ks : List Nat} : ∀ (x : AV), (∀ n ∈ names x, n ∉ ks) → kl ks x = x
  | .os t, h => by simp only [kl]; rw [if_neg]; simp [mem_false.2 (h t (by simp [names]))]
  | .ptr v o, h => by simp only [kl]; rw [if_neg]; simp [mem_false.2 (h v (by simp [names]))]
  | .eptr v i o, h => by simp only [kl]; rw [if_neg]; simp [mem_false.2 (h v (by simp [names]))]
  | .agg cs, h => by rw [names] at h; simp only [kl]; rw [kls_id cs h]
  | .tup cs, h => by rw [names] at h; simp only [kl]; rw [kls_id cs h]
  | .func f cs, h => by rw [names] at h; simp only [kl]; rw [kls_id cs h]
  | .opt g v, h => by rw [names] at h; simp only [kl]; rw [kl_id v h]
  | .junk, _ => by simp [kl]
  | .int _ _, _ => by simp [kl]
  | .bool _, _ => by simp [kl]
  | .str _, _ => by simp [kl]
  | .nils, _ => by simp [kl]
  | .sl _ _, _ => by simp [kl]
  | .iptr _, _ => by simp [kl]
theorem kls_id {ks : List Nat} : ∀ (cs : List AV), (∀ n ∈ namess cs, n ∉ ks) → kls ks cs = cs
  | [], _ => by simp [kls]
  | c :: r, h => by
    rw [namess] at h
    simp only [kls]
    rw [kl_id c fun n hn => h n (List.mem_append_left _ hn), kls_id r fun n hn => h n (List.mem_append_right _ hn)]
end
theorem cleans_mem : ∀ {cs : List AV} {x : AV}, cleans cs = true → x ∈ cs → clean x = true
  | [], _, _, h => by cases h
  | c :: r, x, hc, h => by
    simp only [cleans, Bool.and_eq_true] at hc
    rcases List.mem_cons.1 h with rfl | h
    · exact hc.1
    · exact cleans_mem hc.2 h

theorem ev_same {x : Operand} (h : ∀ t, x = .tmp t → get t σ'.tm = get t σ.tm) : ev σ' x = ev σ x := by
  cases x with
  | tmp t => simp only [ev, tmv]; rw [h t rfl]
  | _ => rfl
theorem guardOf_same {g : Option (Nat × Bool)} (h : ∀ j w t, g = some (j, w) → (ops[j]?).bind (·.dst) = some t → get t σ'.tm = get t σ.tm) : guardOf σ' ops g = guardOf σ ops g := by
  cases g with
  | none => rfl
  | some jw =>
    obtain ⟨j, w⟩ := jw
    simp only [guardOf]
    cases ht : (ops[j]?).bind (·.dst) with
    | none => rfl
    | some t => simp only [tmv]; rw [h j w t rfl ht]

theorem unbound_iff : ∀ {l : List Nat}, unbound σ l = true ↔ ∀ n ∈ l, blk σ n = none
  | [] => by simp [unbound]
  | k :: r => by
    simp only [unbound, Bool.and_eq_true, Option.isNone_iff_eq_none, unbound_iff (l := r), List.mem_cons]
    constructor
    · rintro ⟨h1, h2⟩ n (rfl | hn)
      · exact h1
      · exact h2 n hn
    · intro h
      exact ⟨h k (.inl rfl), fun n hn => h n (.inr hn)⟩

theorem Eqv.blk_eq (h : Eqv σ σ') : blk σ' = blk σ := funext h.bl
theorem Eqv.opEff (h : Eqv σ σ') {o : Oper} {e : Eff} (he : opEff D G M nb off ops σ o = some e) : Ab.opEff D G M nb off ops σ' o = some e :=
  opEff_same (fun x _ => ev_same fun t _ => h.tm t) (guardOf_same fun _ _ t _ _ => h.tm t) (.inr fun n _ => h.bl n)
    (fun _ e0 _ hu => unbound_iff.2 fun n hn => by rw [h.bl]; exact unbound_iff.1 hu n hn) he
theorem Eqv.fresh (h : Eqv σ σ') {d : Option Nat} {e : Eff} (hf : fresh σ d e = true) : Ab.fresh σ' d e = true := by
  simp only [Ab.fresh, Bool.and_eq_true] at hf ⊢
  refine ⟨unbound_iff.2 fun n hn => by rw [h.bl]; exact unbound_iff.1 hf.1 n hn, ?_⟩
  rw [h.nt]
  exact hf.2

theorem get_tm_kill_eq (σ : AS) (ns : List Nat) (t : Nat) : get t (kill σ ns).tm = (get t σ.tm).map (if ns = [] then id else kl ns) := by
  cases ns with
  | nil => simp [kill]
  | cons m ms => simp [kill, get_mapT]
theorem Eqv.freeze (h : Eqv σ σ') (ns : List Nat) : Eqv (Ab.freeze σ ns) (Ab.freeze σ' ns) := by
  refine ⟨by rw [freeze_nt, freeze_nt]; exact h.nt, fun t => ?_, fun n => ?_⟩
  · rw [get_tm_freeze_eq, get_tm_freeze_eq, h.tm, h.blk_eq]
  · rw [blk_freeze, blk_freeze, h.blk_eq]
theorem kill_nt (σ : AS) (ns : List Nat) : (kill σ ns).nt = σ.nt := by cases ns <;> rfl
theorem Eqv.kill (h : Eqv σ σ') (ns : List Nat) : Eqv (Ab.kill σ ns) (Ab.kill σ' ns) := by
  refine ⟨by rw [kill_nt, kill_nt]; exact h.nt, fun t => ?_, fun n => ?_⟩
  · rw [get_tm_kill_eq, get_tm_kill_eq, h.tm]
  · rw [blk_kill, blk_kill, h.blk_eq]
theorem get_putT (t : Nat) (d : Option Nat) (v : AV) (tm : List (Nat × AV)) : get t (putT d v tm) = if d = some t then some v else get t tm := by
  cases d with
  | none => simp [putT]
  | some d => simp [putT, get]
theorem blk_apply (σ : AS) (d : Option Nat) (e : Eff) (n : Nat) : blk (apply σ d e) n = match get n e.nw with
    | some y => some y
    | none => match get n e.up with
      | some y => some y
      | none => blk (kill (freeze σ e.fr) e.kl) n := by
  simp only [apply, blk, get_append, get_here]
  cases get n e.nw with
  | some y => rfl
  | none =>
    simp only [Option.map_none]
    cases get n e.up with
    | some y => rfl
    | none => simp only [Option.map_none]
theorem Eqv.apply (h : Eqv σ σ') (d : Option Nat) (e : Eff) : Eqv (apply σ d e) (Ab.apply σ' d e) := by
  have h1 := (h.freeze e.fr).kill e.kl
  refine ⟨h.nt, fun t => ?_, fun n => ?_⟩
  · simp only [Ab.apply, get_putT, h1.tm]
  · rw [blk_apply, blk_apply, h1.bl]
end
end Go.Proofs.Ytcgdjdlcecnanaa.Ab
