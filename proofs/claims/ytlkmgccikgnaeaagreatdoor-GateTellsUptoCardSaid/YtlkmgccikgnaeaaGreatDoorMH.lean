/-
  Texts of the proof, one behind the other: FrS FrA FrB FrC SmA OpenF.
  No condition but those that each theorem names.
-/
import Derived.Test.YtlkmgccikgnaeaaGreatDoorMD
import Derived.Test.YtlkmgccikgnaeaaGreatDoorMC
set_option linter.unusedVariables false
set_option linter.unusedSimpArgs false
set_option maxRecDepth 100000
set_option maxHeartbeats 16000000
namespace Go.Proofs.YtlkmgccikgnaeaaGreatDoor.Ab
open Go Go.RowKit
structure AX where
 kind:Int
 queue:ByteArray
 n:Int
 note:AP
structure A0 where
 kind:Int
 n:Int
 m:Int
 err:Int
 note:AP
def AX.Fits (a:AX):Prop:=a.queue.size≤1048576∧a.note.Fits
def FV (k:Int):Bool:=decide (k=2∨k=3∨k=4∨k=5∨k=6∨k=9)
def QI (k:Int):Int:=if k=6∨k=7∨k=8 then 1 else 0
def Jp (k:Int):Int:=if k=2∨k=7∨k=8 then 1073741824 else if k=6 then 9 else 0
def Ap (a:AX):Int:=
 if a.kind < 1∨9 < a.kind then 1
 else if (if FV a.kind=true then DT a.queue=false else a.queue.size≠0) then 7
 else if a.n < QI a.kind∨Jp a.kind < a.n then 3
 else if a.kind≠4∧0 < a.note.props.length+a.note.body.length then 2
 else AZ a.note
def Am (s:A0):Int:=
 if s.kind < 1∨4 < s.kind then 1
 else if s.kind=2 then (if s.n < 1∨1073741824 < s.n∨s.m < 0∨3 < s.m∨s.err≠0 then 3 else AZ s.note)
 else if s.n≠0∨s.m≠0∨(s.kind=4∧(s.err≤0∨10 < s.err))∨(s.kind≠4∧s.err≠0) then 3
 else if 0 < s.note.props.length+s.note.body.length then 2
 else 0
def askA (a:AX):AV:=.agg [.int .i64 a.kind,.str a.queue.data.toList,.int .i64 a.n,.sl 4 (a.note.props.map Aq),.sl 1 (a.note.body.map Ac)]
def sayA (s:A0):AV:=.agg [.int .i64 s.kind,.int .i64 s.n,.int .i64 s.m,.int .i64 s.err,.sl 4 (s.note.props.map Aq),.sl 1 (s.note.body.map Ac)]
theorem Cv {a b:AX} (h:askA a=askA b):a=b:=by
 obtain ⟨k,q,n,⟨p,y⟩⟩:=a
 obtain ⟨k',q',n',⟨p',y'⟩⟩:=b
 simp only[askA,AV.agg.injEq,List.cons.injEq,AV.int.injEq,AV.str.injEq,AV.sl.injEq,true_and,and_true] at h
 obtain ⟨rfl,h2,rfl,h4,h5⟩:=h
 rw[EW h2,JU h4,AN h5]
theorem CJ {a b:A0} (h:sayA a=sayA b):a=b:=by
 obtain ⟨k,n,m,e,⟨p,y⟩⟩:=a
 obtain ⟨k',n',m',e',⟨p',y'⟩⟩:=b
 simp only[sayA,AV.agg.injEq,List.cons.injEq,AV.int.injEq,AV.str.injEq,AV.sl.injEq,true_and,and_true] at h
 obtain ⟨rfl,rfl,rfl,rfl,h4,h5⟩:=h
 rw[JU h4,AN h5]
theorem YH (s:AX):Ad (askA s)=[]:=by simp[askA,Ad,Af]
theorem YJ (s:A0):Ad (sayA s)=[]:=by simp[sayA,Ad,Af]
attribute [simp] YH YJ
theorem Hb {n:AP} (h:n.props.length+n.body.length=0):n=Ah:=by
 obtain ⟨p,b⟩:=n
 simp only at h
 have h1:p=[]:=List.eq_nil_of_length_eq_zero (by omega)
 have h2:b=[]:=List.eq_nil_of_length_eq_zero (by omega)
 rw[h1,h2]
 rfl
def C9 (a:AX):AV:=.agg [.int .i64 a.kind,.str a.queue.data.toList,.int .i64 a.n,.nils,.nils]
theorem R2 {a b:AX} (ha:a.note=Ah) (hb:b.note=Ah) (h:C9 a=C9 b):a=b:=by
 obtain ⟨k,q,n,m⟩:=a
 obtain ⟨k',q',n',m'⟩:=b
 simp only at ha hb
 subst ha hb
 simp only[C9,AV.agg.injEq,List.cons.injEq,AV.int.injEq,AV.str.injEq,true_and,and_true] at h
 rw[h.1,EW h.2.1,h.2.2]
theorem Jj (s:A0) (hs:s.note.Fits):A8 Tryz.prog D 79 [sayA s] ⟨.int .i64 (Am s),[]⟩:=by
 obtain ⟨kind,n,m,err,⟨ps,bs⟩⟩:=s
 have h1:=hs.2.1
 have h2:=hs.2.2
 simp only at h1 h2
 have g1:Ao [Fd] 132 [An ⟨ps,bs⟩]=some ⟨.int .i64 (AZ ⟨ps,bs⟩),[]⟩:=AQ (E:=Fd) (T:=[Fd]) (i:=0) rfl (by decide) _ hs rfl rfl
 have hok:Cl Tryz.prog D (Ao [Fd]):=Ar _
 generalize Ao [Fd]=G at *
 simp only[An] at g1
 have hcon:∀r,r=Am ⟨kind,n,m,err,⟨ps,bs⟩⟩→A8 Tryz.prog D 79 [sayA ⟨kind,n,m,err,⟨ps,bs⟩⟩] ⟨.int .i64 r,[]⟩:=by
  intro r hr
  refine Ch (G:=G) (rs:=[(2,none)]) mixed tok hok Tryz.func79 rfl (by decide) Tryz.results79 (by decide) rfl Tryz.ntmps79 (by simp) (by simp[sayA,Af,Ad]) fun X hP hD hG' hX=> Al hX (fun _=> {}) _ _ _ ?_
  simp only[AU,Bz,sayA]
  simp (disch:=omega) only[go_sem,hD,hG',g1,Aa]
  have hz:ps.length+bs.length=0→AZ ⟨ps,bs⟩=0:=fun h=> by rw[Hb (n:=⟨ps,bs⟩) h];rfl
  iterate 24 (all_goals (try (first | (refine Au.mk [] ?_;simp (disch:=omega) only[go_sem,hD,hG',g1,Aa]) | (refine Ai (fun h=> ?_) (fun h=> ?_) <;> simp (disch:=omega) only[go_sem,hD,hG',g1,Aa]) | and_intros)))
  all_goals (try (refine ⟨[],[],rfl,rfl,?_,?_⟩ <;> simp only[go_sem]))
  all_goals clear g1 hok hP hD hG' hX
  all_goals try (first | (intro hk;refine ⟨hk,fun h2=> ?_⟩;first | (rw[hk,h2];rfl) | (rw[hk,decide_eq_false h2];rfl)) | (intro hk;rw[decide_eq_false hk];rfl) | (intro hk;rw[hk];rfl))
  all_goals (subst hr;unfold Am;simp only)
  all_goals grind
 exact hcon _ rfl
theorem Gv (s:A0) (hs:s.note.Fits):A8 Tryz.prog D 40 [sayA s] ⟨.int .i64 (Am s),[]⟩:=by
 obtain ⟨kind,n,m,err,⟨ps,bs⟩⟩:=s
 have h1:=hs.2.1
 have h2:=hs.2.2
 simp only at h1 h2
 have g1:Ao [Cn] 17 [An ⟨ps,bs⟩]=some ⟨.int .i64 (AZ ⟨ps,bs⟩),[]⟩:=AQ (E:=Cn) (T:=[Cn]) (i:=0) rfl (by decide) _ hs rfl rfl
 have hok:Cl Tryz.prog D (Ao [Cn]):=Ar _
 generalize Ao [Cn]=G at *
 simp only[An] at g1
 have hcon:∀r,r=Am ⟨kind,n,m,err,⟨ps,bs⟩⟩→A8 Tryz.prog D 40 [sayA ⟨kind,n,m,err,⟨ps,bs⟩⟩] ⟨.int .i64 r,[]⟩:=by
  intro r hr
  refine Ch (G:=G) (rs:=[(2,none)]) mixed tok hok Tryz.func40 rfl (by decide) Tryz.results40 (by decide) rfl Tryz.ntmps40 (by simp) (by simp[sayA,Af,Ad]) fun X hP hD hG' hX=> Al hX (fun _=> {}) _ _ _ ?_
  simp only[AU,Bz,sayA]
  simp (disch:=omega) only[go_sem,hD,hG',g1,Aa]
  iterate 24 (all_goals (try (first | (refine Au.mk [] ?_;simp (disch:=omega) only[go_sem,hD,hG',g1,Aa]) | (refine Ai (fun h=> ?_) (fun h=> ?_) <;> simp (disch:=omega) only[go_sem,hD,hG',g1,Aa]) | and_intros)))
  all_goals (try (refine ⟨[],[],rfl,rfl,?_,?_⟩ <;> simp only[go_sem]))
  all_goals clear g1 hok hP hD hG' hX
  all_goals try (first | (intro hk;refine ⟨hk,fun h2=> ?_⟩;first | (rw[hk,h2];rfl) | (rw[hk,decide_eq_false h2];rfl)) | (intro hk;rw[decide_eq_false hk];rfl) | (intro hk;rw[hk];rfl))
  all_goals try ((try and_intros);all_goals (try first | omega | decide | (simp;done) | (simp only[List.length_append,List.length_cons,List.length_nil,List.length_map];omega)))
  all_goals (subst hr;unfold Am;simp only)
  all_goals grind
 exact hcon _ rfl
theorem IG (s:AX) (hs:s.Fits):A8 Tryz.prog D 78 [askA s] ⟨.int .i64 (Ap s),[]⟩:=by
 obtain ⟨kind,q,n,⟨ps,bs⟩⟩:=s
 obtain ⟨hq,hs⟩:=hs
 have h1:=hs.2.1
 have h2:=hs.2.2
 simp only at h1 h2 hq
 have g1:Ao [Fd,Wv] 132 [An ⟨ps,bs⟩]=some ⟨.int .i64 (AZ ⟨ps,bs⟩),[]⟩:=AQ (E:=Fd) (T:=[Fd,Wv]) (i:=0) rfl (by decide) _ hs rfl rfl
 have g2:Ao [Fd,Wv] 131 [.str q.data.toList]=some ⟨.bool (DT q),[]⟩:=AQ (E:=Wv) (T:=[Fd,Wv]) (i:=1) rfl (by decide) q hq rfl rfl
 have hok:Cl Tryz.prog D (Ao [Fd,Wv]):=Ar _
 generalize Ao [Fd,Wv]=G at *
 simp only[An] at g1
 have hl:q.data.toList.length=q.size:=rfl
 have hcon:∀r,r=Ap ⟨kind,q,n,⟨ps,bs⟩⟩→A8 Tryz.prog D 78 [askA ⟨kind,q,n,⟨ps,bs⟩⟩] ⟨.int .i64 r,[]⟩:=by
  intro r hr
  refine Ch (G:=G) (rs:=[(2,none)]) mixed tok hok Tryz.func78 rfl (by decide) Tryz.results78 (by decide) rfl Tryz.ntmps78 (by simp) (by simp[askA,Af,Ad]) fun X hP hD hG' hX=> Al hX (fun _=> {}) _ _ _ ?_
  simp only[AU,Bz,askA]
  generalize q.data.toList=ql at *
  simp (disch:=omega) only[go_sem,hD,hG',g1,g2,Aa]
  iterate 24 (all_goals (try (first | (refine Au.mk [] ?_;simp (disch:=omega) only[go_sem,hD,hG',g1,g2,Aa]) | (refine Ai (fun h=> ?_) (fun h=> ?_) <;> simp (disch:=omega) only[go_sem,hD,hG',g1,g2,Aa]) | and_intros)))
  all_goals (try (refine ⟨[],[],rfl,rfl,?_,?_⟩ <;> simp only[go_sem]))
  all_goals clear g1 g2 hok hP hD hG' hX
  all_goals try (first | (intro hk;refine ⟨hk,fun h2=> ?_⟩;first | (rw[hk,h2];rfl) | (rw[hk,decide_eq_false h2];rfl)) | (intro hk;rw[decide_eq_false hk];rfl) | (intro hk;rw[hk];rfl))
  all_goals (subst hr;unfold Ap FV QI Jp;simp only)
  all_goals grind
 exact hcon _ rfl
def Kt:List (Value×Value):=[(.int .i64 2,.bool true),(.int .i64 3,.bool true),(.int .i64 4,.bool true),(.int .i64 5,.bool true),(.int .i64 6,.bool true),(.int .i64 9,.bool true)]
theorem Vw (k:Int):Ey (.int .i64) (.int .i64 k) (.bool false) Kt=some (.bool (FV k)):=by
 unfold Kt FV
 simp only[Ey,Instr.sameNow]
 grind
theorem Zo (W:World):(zeroValue 4).run Tryz.prog W=.ok (.bool false) W:=by kernel_rfl
theorem Gu (s:AX) (hs:s.Fits):A8 Tryz.prog D 41 [askA s] ⟨.int .i64 (Ap s),[]⟩:=by
 obtain ⟨kind,q,n,⟨ps,bs⟩⟩:=s
 obtain ⟨hq,hs⟩:=hs
 have h1:=hs.2.1
 have h2:=hs.2.2
 simp only at h1 h2 hq
 have g1:Ao [Cn,IH] 17 [An ⟨ps,bs⟩]=some ⟨.int .i64 (AZ ⟨ps,bs⟩),[]⟩:=AQ (E:=Cn) (T:=[Cn,IH]) (i:=0) rfl (by decide) _ hs rfl rfl
 have g2:Ao [Cn,IH] 52 [.str q.data.toList]=some ⟨.bool (DT q),[]⟩:=AQ (E:=IH) (T:=[Cn,IH]) (i:=1) rfl (by decide) q hq rfl rfl
 have hok:Cl Tryz.prog D (Ao [Cn,IH]):=Ar _
 generalize Ao [Cn,IH]=G at *
 simp only[An] at g1
 have hl:q.data.toList.length=q.size:=rfl
 have hcon:∀r,r=Ap ⟨kind,q,n,⟨ps,bs⟩⟩→A8 Tryz.prog D 41 [askA ⟨kind,q,n,⟨ps,bs⟩⟩] ⟨.int .i64 r,[]⟩:=by
  intro r hr
  refine Ch (G:=G) (rs:=[(2,none)]) mixed tok hok Tryz.func41 rfl (by decide) Tryz.results41 (by decide) rfl Tryz.ntmps41 (by simp) (by simp[askA,Af,Ad]) fun X hP hD hG' hX=> Al hX (fun id=> match id with | 3=> {hand:=true} | _=> {}) _ _ _ ?_
  simp only[AU,Bz,askA]
  generalize q.data.toList=ql at *
  simp (disch:=omega) only[go_sem,hD,hG',g1,g2,Aa]
  refine Au.mk [] ?_
  simp (disch:=omega) only[go_sem,hD,hG',g1,g2,Aa]
  and_intros
  ·(first | (intro hk;refine ⟨hk,fun h2=> ?_⟩;first | (rw[hk,h2];rfl) | (rw[hk,decide_eq_false h2];rfl)) | (intro hk;rw[decide_eq_false hk];rfl) | (intro hk;rw[hk];rfl))
  refine Ai (fun h=> ?_) (fun h=> ?_)
  ·simp (disch:=omega) only[go_sem,hD,hG',g1,g2,Aa]
   refine ⟨[],[],rfl,rfl,?_,?_⟩ <;> simp only[go_sem]
   subst hr
   unfold Ap
   grind
  have hu:X.P.underlying 140=some (.map 3 4):=by rw[hP];exact Tryz.underlying140
  have hk:X.P.underlying 3=some (.int .i64):=by rw[hP];exact Tryz.underlying3
  simp (disch:=omega) only[go_sem,hD,hG',g1,g2,Aa]
  refine Tr.lit hX 0 (d:=14) Kt hu hk (by decide) ⟨_,rfl,rfl,rfl,rfl⟩ (by decide) ?_ ?_ ?_
  ·unfold Kt DW
   repeat (first | exact trivial | refine ⟨⟨_,rfl,_,_,rfl,rfl,rfl,fun _=> rfl,fun _=> rfl⟩,?_⟩ | unfold DW)
  ·unfold Kt DV
   repeat (first | exact trivial | refine ⟨rfl,rfl,?_⟩ | unfold DV)
  have hlen:Kt.length=6:=rfl
  generalize hnm:Kt=nm at hlen ⊢
  have hlook:=Vw kind
  rw[hnm] at hlook
  generalize hnk:FV kind=nk at hlook
  simp (disch:=omega) only[go_sem,hD,hG',g1,g2,hlen,Aa]
  refine Gi (dk:=.int .i64) (key:=.int .i64 kind) (z:=.bool false) (v:=.bool nk) (av:=.bool nk) hu hk rfl rfl rfl (by rw[hP];exact Zo) (by simp[cst]) hlook (fun _ _ _=> .bool _) rfl (by simp) ?_
  simp (disch:=omega) only[go_sem,hD,hG',g1,g2,Aa]
  iterate 24 (all_goals (try (first | (refine Au.mk [] ?_;simp (disch:=omega) only[go_sem,hD,hG',g1,g2,Aa]) | (refine Ai (fun h=> ?_) (fun h=> ?_) <;> simp (disch:=omega) only[go_sem,hD,hG',g1,g2,Aa]) | and_intros)))
  all_goals (try (refine ⟨[],[],rfl,rfl,?_,?_⟩ <;> simp only[go_sem]))
  all_goals clear g1 g2 hok hP hD hG' hX hu hk hlook
  all_goals try (first | (intro hk;refine ⟨hk,fun h2=> ?_⟩;first | (rw[hk,h2];rfl) | (rw[hk,decide_eq_false h2];rfl)) | (intro hk;rw[decide_eq_false hk];rfl) | (intro hk;rw[hk];rfl))
  all_goals (subst hr;unfold Ap QI Jp;simp only)
  all_goals grind
 exact hcon _ rfl
def Bq:BH Tryz.prog D:=⟨78,AX,fun x=> [askA x],AX.Fits,fun x=> ⟨.int .i64 (Ap x),[]⟩,fun x y _ _ h=> by
 simp only[List.cons.injEq,and_true] at h
 rw[Cv h],IG⟩
def AK:BH Tryz.prog D:=⟨41,AX,fun x=> [askA x],AX.Fits,fun x=> ⟨.int .i64 (Ap x),[]⟩,fun x y _ _ h=> by
 simp only[List.cons.injEq,and_true] at h
 rw[Cv h],Gu⟩
def H5:BH Tryz.prog D:=⟨23,AP×AP,fun n=> [An n.1,An n.2],fun n=> n.1.Fits∧n.2.Fits,fun n=> ⟨.bool (decide (n.1=n.2)),[]⟩,fun x y _ _ h=> by
 simp only[List.cons.injEq,and_true] at h
 rw[Ec h.1,Ec h.2],fun n h=> UW n.1 n.2 h.1 h.2⟩
instance:DecidableEq AX:=fun a b=> decidable_of_iff (a.kind=b.kind∧a.queue=b.queue∧a.n=b.n∧a.note=b.note) (by cases a;cases b;simp)
instance:DecidableEq A0:=fun a b=> decidable_of_iff (a.kind=b.kind∧a.n=b.n∧a.m=b.m∧a.err=b.err∧a.note=b.note) (by cases a;cases b;simp)
theorem Abk (a b:AX):decide (a=b)=(if a.kind=b.kind then (if a.queue.data.toList=b.queue.data.toList then (if a.n=b.n then decide (a.note=b.note) else false) else false) else false):=by
 obtain ⟨k,q,n,x⟩:=a
 obtain ⟨k',q',n',x'⟩:=b
 simp only[AX.mk.injEq]
 by_cases h1:k=k'
 ·by_cases h2:q=q'
  ·subst h2
   by_cases h3:n=n'
   ·simp[h1,h3]
   ·simp[h1,h3]
  ·have:¬q.data.toList=q'.data.toList:=fun h=> h2 (EW h)
   simp[h1,h2,this]
 ·simp[h1]
theorem AbT (a b:A0):decide (a=b)=(if a.kind=b.kind then (if a.n=b.n then (if a.m=b.m then (if a.err=b.err then decide (a.note=b.note) else false) else false) else false) else false):=by
 obtain ⟨k,n,m,e,x⟩:=a
 obtain ⟨k',n',m',e',x'⟩:=b
 simp only[A0.mk.injEq]
 by_cases h1:k=k'
 ·by_cases h2:n=n'
  ·by_cases h3:m=m'
   ·by_cases h4:e=e'
    ·simp[h1,h2,h3,h4]
    ·simp[h1,h2,h3,h4]
   ·simp[h1,h2,h3]
  ·simp[h1,h2]
 ·simp[h1]
theorem U0 (a b:AX) (ha:a.Fits) (hb:b.Fits):A8 Tryz.prog D 89 [askA a,askA b] ⟨.bool (decide (a=b)),[]⟩:=by
 have hok:Cl Tryz.prog D (Ao [H5]):=Ar _
 have g1:Ao [H5] 23 [An a.note,An b.note]=some ⟨.bool (decide (a.note=b.note)),[]⟩:=AQ (E:=H5) (T:=[H5]) (i:=0) rfl (by decide) (a.note,b.note) ⟨ha.2,hb.2⟩ rfl rfl
 generalize Ao [H5]=G at *
 simp only[An] at g1
 refine Ch (G:=G) (rs:=[(4,none)]) mixed tok hok Tryz.func89 rfl (by decide) Tryz.results89 (by decide) rfl Tryz.ntmps89 (by simp) (by simp[askA,Af,Ad]) fun X hP hD hG' hX=> Al hX (fun _=> {}) _ _ _ ?_
 simp only[AU,Bz,askA]
 simp (disch:=omega) only[go_sem,hD,hG',g1,Aa]
 refine Au.mk [] ?_
 simp (disch:=omega) only[go_sem,hD,hG',g1,Aa]
 ((try and_intros);all_goals (try first | omega | decide | (simp;done) | (simp only[List.length_append,List.length_cons,List.length_nil,List.length_map];omega)))
 all_goals (try (first | (intro hk;refine ⟨hk,fun h2=> ?_⟩;first | (rw[hk,h2];rfl) | (rw[hk,decide_eq_false h2];rfl)) | (intro hk;rw[decide_eq_false hk];rfl) | (intro hk;rw[hk];rfl)))
 refine ⟨[],[],rfl,rfl,?_,?_⟩ <;> simp only[go_sem]
 rw[Abk]
 simp[Bool.and_assoc]
theorem U1 (a b:A0) (ha:a.note.Fits) (hb:b.note.Fits):A8 Tryz.prog D 75 [sayA a,sayA b] ⟨.bool (decide (a=b)),[]⟩:=by
 have hok:Cl Tryz.prog D (Ao [H5]):=Ar _
 have g1:Ao [H5] 23 [An a.note,An b.note]=some ⟨.bool (decide (a.note=b.note)),[]⟩:=AQ (E:=H5) (T:=[H5]) (i:=0) rfl (by decide) (a.note,b.note) ⟨ha,hb⟩ rfl rfl
 generalize Ao [H5]=G at *
 simp only[An] at g1
 refine Ch (G:=G) (rs:=[(4,none)]) mixed tok hok Tryz.func75 rfl (by decide) Tryz.results75 (by decide) rfl Tryz.ntmps75 (by simp) (by simp[sayA,Af,Ad]) fun X hP hD hG' hX=> Al hX (fun _=> {}) _ _ _ ?_
 simp only[AU,Bz,sayA]
 simp (disch:=omega) only[go_sem,hD,hG',g1,Aa]
 refine Au.mk [] ?_
 simp (disch:=omega) only[go_sem,hD,hG',g1,Aa]
 ((try and_intros);all_goals (try first | omega | decide | (simp;done) | (simp only[List.length_append,List.length_cons,List.length_nil,List.length_map];omega)))
 all_goals (try (first | (intro hk;refine ⟨hk,fun h2=> ?_⟩;first | (rw[hk,h2];rfl) | (rw[hk,decide_eq_false h2];rfl)) | (intro hk;rw[decide_eq_false hk];rfl) | (intro hk;rw[hk];rfl)))
 refine ⟨[],[],rfl,rfl,?_,?_⟩ <;> simp only[go_sem]
 rw[AbT]
 simp[Bool.and_assoc]
def AL:BH Tryz.prog D:=⟨40,A0,fun x=> [sayA x],fun s=> s.note.Fits,fun x=> ⟨.int .i64 (Am x),[]⟩,fun x y _ _ h=> by
 simp only[List.cons.injEq,and_true] at h
 rw[CJ h],Gv⟩
def Jl:BH Tryz.prog D:=⟨89,AX×AX,fun x=> [askA x.1,askA x.2],fun x=> x.1.Fits∧x.2.Fits,fun x=> ⟨.bool (decide (x.1=x.2)),[]⟩,fun x y _ _ h=> by
 simp only[List.cons.injEq,and_true] at h
 rw[Cv h.1,Cv h.2],fun x h=> U0 x.1 x.2 h.1 h.2⟩
def Jm:BH Tryz.prog D:=⟨75,A0×A0,fun x=> [sayA x.1,sayA x.2],fun x=> x.1.note.Fits∧x.2.note.Fits,fun x=> ⟨.bool (decide (x.1=x.2)),[]⟩,fun x y _ _ h=> by
 simp only[List.cons.injEq,and_true] at h
 rw[CJ h.1,CJ h.2],fun x h=> U1 x.1 x.2 h.1 h.2⟩
theorem D4 {a:AX} (h:Ap a=0):1≤a.kind∧a.kind≤9∧a.queue.size≤8∧0≤a.n∧a.n≤1073741824∧AZ a.note=0∧(a.kind≠4→a.note=Ah):=by
 unfold Ap at h
 have hk:DT a.queue=true→a.queue.size≤8:=fun hk=> by
  unfold DT at hk
  simp at hk
  omega
 have h0:=@Hb a.note
 have h1:AZ Ah=0:=rfl
 by_cases h9:a.kind < 1∨9 < a.kind
 ·rw[if_pos h9] at h;cases h
 rw[if_neg h9] at h
 have hlo:0≤QI a.kind:=by unfold QI;split <;> omega
 have hhi:Jp a.kind≤1073741824:=by unfold Jp;split <;> (try split) <;> omega
 by_cases hq:(if FV a.kind=true then DT a.queue=false else a.queue.size≠0)
 ·rw[if_pos hq] at h;cases h
 rw[if_neg hq] at h
 by_cases hn:a.n < QI a.kind∨Jp a.kind < a.n
 ·rw[if_pos hn] at h;cases h
 rw[if_neg hn] at h
 by_cases hb:a.kind≠4∧0 < a.note.props.length+a.note.body.length
 ·rw[if_pos hb] at h;cases h
 rw[if_neg hb] at h
 refine ⟨by omega,by omega,?_,by omega,by omega,h,fun h4=> h0 (by omega)⟩
 cases hnm:FV a.kind
 ·rw[hnm,if_neg (by simp)] at hq;omega
 ·rw[hnm,if_pos rfl] at hq;exact hk (by simpa using hq)
theorem Dk {s:A0} (h:Am s=0):1≤s.kind∧s.kind≤4∧0≤s.n∧s.n≤1073741824∧0≤s.m∧s.m≤3∧0≤s.err∧s.err≤10∧AZ s.note=0∧(s.kind≠2→s.note=Ah):=by
 unfold Am at h
 have h0:=@Hb s.note
 have h1:AZ Ah=0:=rfl
 by_cases hk:s.kind < 1∨4 < s.kind
 ·rw[if_pos hk] at h;cases h
 rw[if_neg hk] at h
 by_cases h2:s.kind=2
 ·rw[if_pos h2] at h
  split at h
  ·cases h
  ·exact ⟨by omega,by omega,by omega,by omega,by omega,by omega,by omega,by omega,h,fun h=> absurd h2 h⟩
 rw[if_neg h2] at h
 split at h
 ·cases h
 split at h
 ·cases h
 have h3:=h0 (by omega)
 exact ⟨by omega,by omega,by omega,by omega,by omega,by omega,by omega,by omega,by rw[h3];rfl,fun _=> h3⟩
theorem ZA {a:AX} (h:Ap a=0):a.Fits:=by
 obtain ⟨_,_,h3,_,_,h6,_⟩:=D4 h
 exact ⟨by omega,EQ h6⟩
theorem Aa2 {s:A0} (h:Am s=0):s.note.Fits:=by
 obtain ⟨_,_,_,_,_,_,_,_,h6,_⟩:=Dk h
 exact EQ h6
theorem shp_ask {m:Nat} {B:Nat} {us:List AV} (h:PL D B (m+5) 48 us):∃a:AX,AV.agg us=askA a∧a.queue.size≤B∧a.note.props.length≤B∧a.note.body.length≤B∧∀p∈a.note.props,p.key.size≤B∧p.text.size≤B:=by
 have h:=KE (fs:=[(0,3),(1,9),(2,3),(3,25)]) (by simp only[D_1,D_2,Kf,Xj,Kg,D_6,D_7,D_8,Kh,Tp,Tq,Ts,Tt,Tu,Tv,Tw,Tx,Ty,Tz,TA,P4,EN,EO,TB,EP,TC,I9,TD,TE,TF,TG,TH,TJ,TK,TL,TM,TN,TO,TP,TQ,TR,TS,TT,TU,TV,KL,TW,TX,TY,TZ,PJ,T0,T1,T4,T5,T6,T7,T8,T9,Ua,Ub,Uc,Ud,Ue,Uf,Ug,Uh,Ui,Uj,Uk,Ul,Um,Un,Uo,Up,Uq,Ur,Us,Ut,Uu,Uv,Uw,Ux,Uy,Uz,UA,UB,UC,UD,UE,UF,LR,CH,LS,LT,LU,LV,LW,LX,LY,LZ,L0,L1,L2,L3,L4,L5,L6,L7,L8,L9,Ma,Mb,Md,Me,Mf,Mg,Mh,Mi,Mj,Mk,Ml,Mm,Mn,Mo,Mp,Mq,Mr,Ms,Mt,Mu,Mv,Mx,My,Mz,MA,MB,MC,MD,ME,MF,MG,MH,MI,MJ,MK,ML,MM,MN,MO,MP,Jb,MQ,MR,MS,MT,MU,MV,MW,MX,MY,MZ,M0,M1,M2,M3,M4,M5,M6,M7,M8,M9,Na,Nb,Nc,Nd,Nf,Ng,Nh,Ni,Nj,Nk,Nl,Nm,Nn,No,Np,Nq,Nr,Ns,Nt,Nu,Nv,Nx,Ny,Nz,NA,NB,NC,ND,NE,NF,NG,NH,NJ,NK,NL,NM,NN,NO,NP,NQ,NR,NS,NT,NU,NV,NW,NX,NY,NZ,N1,N2,N3,N4,N5,N6,N7,N8,N9,Oa,Ob,Oc,Od,Oe,Of,Og,Oh,Oi,Oj,Ol,Om,Jc,On,Jd,Oo,Oq,Ot,Ou,Ov,Ow,Ox,Oy,Oz,OA,OB,OC,OD,OE,OF,OG,OH,OI,OJ,OK,OL,OM,ON,OO,OP,OQ,OR,OS,OT,OU,OV,OW,OX,OY,OZ,O0,O1,O2,O3,O4,O5,O6,O7,O8,O9,Pa,Pb,Pc,Pd,Pe,Pf,Pg]) h
 simp only[UJ] at h
 obtain ⟨_,_,rfl,h1,_,_,rfl,h2,_,_,rfl,h3,_,_,rfl,h4,rfl⟩:=h
 obtain ⟨k,rfl,_⟩:=shp_i64 (t:=3) rfl h1
 obtain ⟨q,rfl,hq⟩:=AbU (t:=9) rfl h2
 obtain ⟨n,rfl,_⟩:=shp_i64 (t:=3) rfl h3
 obtain ⟨x,_,rfl,q1,q2,q3⟩:=VQ h4
 exact ⟨⟨k,q,n,x⟩,rfl,hq,q1,q2,q3⟩
theorem shp_say {m:Nat} {B:Nat} {us:List AV} (h:PL D B (m+5) 53 us):∃a:A0,AV.agg us=sayA a∧a.note.props.length≤B∧a.note.body.length≤B∧∀p∈a.note.props,p.key.size≤B∧p.text.size≤B:=by
 have h:=KE (fs:=[(0,3),(1,3),(2,3),(3,27),(4,25)]) (by simp only[D_1,D_2,Kf,Xj,Kg,D_6,D_7,D_8,Kh,Tp,Tq,Ts,Tt,Tu,Tv,Tw,Tx,Ty,Tz,TA,P4,EN,EO,TB,EP,TC,I9,TD,TE,TF,TG,TH,TJ,TK,TL,TM,TN,TO,TP,TQ,TR,TS,TT,TU,TV,KL,TW,TX,TY,TZ,PJ,T0,T1,T4,T5,T6,T7,T8,T9,Ua,Ub,Uc,Ud,Ue,Uf,Ug,Uh,Ui,Uj,Uk,Ul,Um,Un,Uo,Up,Uq,Ur,Us,Ut,Uu,Uv,Uw,Ux,Uy,Uz,UA,UB,UC,UD,UE,UF,LR,CH,LS,LT,LU,LV,LW,LX,LY,LZ,L0,L1,L2,L3,L4,L5,L6,L7,L8,L9,Ma,Mb,Md,Me,Mf,Mg,Mh,Mi,Mj,Mk,Ml,Mm,Mn,Mo,Mp,Mq,Mr,Ms,Mt,Mu,Mv,Mx,My,Mz,MA,MB,MC,MD,ME,MF,MG,MH,MI,MJ,MK,ML,MM,MN,MO,MP,Jb,MQ,MR,MS,MT,MU,MV,MW,MX,MY,MZ,M0,M1,M2,M3,M4,M5,M6,M7,M8,M9,Na,Nb,Nc,Nd,Nf,Ng,Nh,Ni,Nj,Nk,Nl,Nm,Nn,No,Np,Nq,Nr,Ns,Nt,Nu,Nv,Nx,Ny,Nz,NA,NB,NC,ND,NE,NF,NG,NH,NJ,NK,NL,NM,NN,NO,NP,NQ,NR,NS,NT,NU,NV,NW,NX,NY,NZ,N1,N2,N3,N4,N5,N6,N7,N8,N9,Oa,Ob,Oc,Od,Oe,Of,Og,Oh,Oi,Oj,Ol,Om,Jc,On,Jd,Oo,Oq,Ot,Ou,Ov,Ow,Ox,Oy,Oz,OA,OB,OC,OD,OE,OF,OG,OH,OI,OJ,OK,OL,OM,ON,OO,OP,OQ,OR,OS,OT,OU,OV,OW,OX,OY,OZ,O0,O1,O2,O3,O4,O5,O6,O7,O8,O9,Pa,Pb,Pc,Pd,Pe,Pf,Pg]) h
 simp only[UJ] at h
 obtain ⟨_,_,rfl,h1,_,_,rfl,h2,_,_,rfl,h3,_,_,rfl,h4,_,_,rfl,h5,rfl⟩:=h
 obtain ⟨k,rfl,_⟩:=shp_i64 (t:=3) rfl h1
 obtain ⟨n,rfl,_⟩:=shp_i64 (t:=3) rfl h2
 obtain ⟨m,rfl,_⟩:=shp_i64 (t:=3) rfl h3
 obtain ⟨e,rfl,_⟩:=shp_i64 (t:=27) rfl h4
 obtain ⟨x,_,rfl,q1,q2,q3⟩:=VQ h5
 exact ⟨⟨k,n,m,e,x⟩,rfl,q1,q2,q3⟩
end Go.Proofs.YtlkmgccikgnaeaaGreatDoor.Ab
