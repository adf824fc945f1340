/-
  Texts of the proof, one behind the other: GtS GtA GtB.
  No condition but those that each theorem names.
-/
import Derived.Test.YtlkmgccikgnaeaaGreatDoorML
import Derived.Test.YtlkmgccikgnaeaaGreatDoorMP
import Derived.Test.YtlkmgccikgnaeaaGreatDoorMC
set_option linter.unusedVariables false
set_option linter.unusedSimpArgs false
set_option maxRecDepth 100000
set_option maxHeartbeats 16000000
namespace Go.Proofs.YtlkmgccikgnaeaaGreatDoor.Ab
open Go Go.RowKit
def Fl (n:Int) (b:Wd):AX×Int×Int:=if n=1 then Gd b else if n=2 then Dw b else DL b
def Fm (n:Int) (b:Wd):A0×Int×Int:=if n=1 then Gp b else if n=2 then Dx b else DM b
def Rb (n:Int) (a:AX):Wd:=if n=1 then Br (Jf a) else if n=2 then GH (GX a) else KO a
def Rc (n:Int) (s:A0):Wd:=if n=1 then Br (JG s) else if n=2 then GH (Ht s) else Kd s
def isT (n:Int):Prop:=n=1∨n=2∨n=3
instance (n:Int):Decidable (isT n):=by unfold isT;infer_instance
def J7 (n:Int) (a:AX):Wd×Int:=if isT n then (if Ap a=0 then (Rb n a,0) else ([],Ap a)) else ([],1)
def J8 (n:Int) (s:A0):Wd×Int:=if isT n then (if Am s=0 then (Rc n s,0) else ([],Am s)) else ([],1)
def DN {α:Type} (T:Wd→α×Int×Int):Nat→Int→Wd→List α×Wd×Int
 | 0,_,b=> ([],b,0)
 | f+1,most,b=>
  if most≤0 then ([],b,0)
  else if (T b).2.2=9 then ([],b,0)
  else if (T b).2.2≠0 then ([],b,(T b).2.2)
  else ((T b).1::(DN T f (most - 1) (b.drop (T b).2.1.toNat)).1,(DN T f (most - 1) (b.drop (T b).2.1.toNat)).2)
def C4 (n:Int) (b:Wd) (most:Int):List AX×Wd×Int:=if isT n then DN (Fl n) (b.length+1) most b else ([],[],1)
def C8 (n:Int) (b:Wd):List A0×Wd×Int:=if isT n then DN (Fm n) (b.length+1) (b.length+1) b else ([],[],1)
theorem AcV {a:AX} (h:Ap a=0):Ach a:=by
 obtain ⟨h1,h2,h3,h4,h5,h6,_⟩:=D4 h
 obtain ⟨_,_,l1,l2⟩:=Abj h
 exact ⟨⟨h1,h2⟩,by omega,fun _=> AcA h6,by omega⟩
theorem Ac6 {s:A0} (h:Am s=0):Acn s:=by
 obtain ⟨_,_,h3,h4,h5,h6,h7,h8,h9,_⟩:=Dk h
 obtain ⟨_,_,l1,l2⟩:=AbS h
 exact ⟨by omega,by omega,by omega,fun _=> AcA h9,by omega⟩
theorem Rp (n:Int) (a:AX) (fa:a.Fits):A8 Tryz.prog D 43 [.int .i64 n,askA a] ⟨.tup [.sl 1 ((J7 n a).1.map Ac),.int .i64 (J7 n a).2],[]⟩:=by
 have hok:Cl Tryz.prog D (Ao [Bq,D5,Dl,Dp]):=Ar _
 have g1:=Ag (T:=[Bq,D5,Dl,Dp]) (E:=Bq) (i:=0) rfl (by decide) (a) (fa)
 have g2:=fun (h:Ap a=0)=> Ag (T:=[Bq,D5,Dl,Dp]) (E:=D5) (i:=1) rfl (by decide) (a) (h)
 have g3:=fun (h:Ap a=0)=> Ag (T:=[Bq,D5,Dl,Dp]) (E:=Dl) (i:=2) rfl (by decide) (a) (AcV h)
 have g4:=fun (h:Ap a=0)=> Ag (T:=[Bq,D5,Dl,Dp]) (E:=Dp) (i:=3) rfl (by decide) (a) (AcO h)
 have gn:∀x,Ao [Bq,D5,Dl,Dp] 77 x=none:=fun x=> rfl
 generalize Ao [Bq,D5,Dl,Dp]=G at *
 dsimp only[Bq] at g1
 dsimp only[D5] at g2
 dsimp only[Dl] at g3
 dsimp only[Dp] at g4
 have hcon:∀r,r=J7 n a→A8 Tryz.prog D 43 [.int .i64 n,askA a] ⟨.tup [.sl 1 (r.1.map Ac),.int .i64 r.2],[]⟩:=by
  intro r hr
  unfold J7 Rb at hr
  generalize Ap a=wa at *
  generalize Br (Jf a)=b1 at *
  generalize GH (GX a)=b2 at *
  generalize KO a=b3 at *
  obtain ⟨ak,aq,an,⟨ap,ab⟩⟩:=a
  simp only[askA] at g1 g2 g3 g4
  refine Bx (G:=G) (rs:=[(4,none),(5,none)]) hok Tryz.func43 Tryz.results43 Tryz.ntmps43 (fun _=> {}) fun X hP hD hG' hX=> ?_
  simp only[AU,Bz,askA]
  by_cases h1:n=1
  ·have e1:(n==1)=true:=by simp[h1]
   rw[if_pos (.inl h1),if_pos h1] at hr
   by_cases hw:wa=0
   ·have d:(wa !=0)=false:=by simp[hw]
    have g2:=g2 hw
    rw[if_pos hw] at hr
    subst hr
    simp (disch:=omega) only[go_sem,hD,hG',gn,Aa]
    refine Hs (rs:=[(2,some 146),(3,none)]) hX hP 70000 (fun _=> {}) Tryz.func77 Tryz.results77 Tryz.ntmps77 fun hX1=> ?_
    simp (disch:=omega) only[go_sem,hD,hG',Bf,Bg,IB,Iy,Dy,Bz,Aa,Option.some.injEq,exists_eq_left',Fq,e1,Aa]
    simp (disch:=omega) only[go_sem,hD,hG',g1,d,g2,Aa]
    (repeat (with_reducible refine aI ?_))
    refine Aj [4120] [] (by simp) rfl rfl rfl ?_ ?_ <;> simp only[go_sem]
   ·have d:(wa !=0)=true:=by simp[hw]
    rw[if_neg hw] at hr
    subst hr
    simp (disch:=omega) only[go_sem,hD,hG',gn,Aa]
    refine Hs (rs:=[(2,some 146),(3,none)]) hX hP 70000 (fun _=> {}) Tryz.func77 Tryz.results77 Tryz.ntmps77 fun hX1=> ?_
    simp (disch:=omega) only[go_sem,hD,hG',Bf,Bg,IB,Iy,Dy,Bz,Aa,Option.some.injEq,exists_eq_left',Fq,e1,Aa]
    simp (disch:=omega) only[go_sem,hD,hG',g1,d,Aa]
    (repeat (with_reducible refine aI ?_))
    refine Aj [] [] (by simp) rfl rfl rfl ?_ ?_ <;> simp only[go_sem]
  have e1:(n==1)=false:=by simp[h1]
  by_cases h2:n=2
  ·have e2:(n==2)=true:=by simp[h2]
   rw[if_pos (.inr (.inl h2)),if_neg h1,if_pos h2] at hr
   by_cases hw:wa=0
   ·have d:(wa !=0)=false:=by simp[hw]
    have g3:=g3 hw
    rw[if_pos hw] at hr
    subst hr
    simp (disch:=omega) only[go_sem,hD,hG',gn,Aa]
    refine Hs (rs:=[(2,some 146),(3,none)]) hX hP 70000 (fun _=> {}) Tryz.func77 Tryz.results77 Tryz.ntmps77 fun hX1=> ?_
    simp (disch:=omega) only[go_sem,hD,hG',Bf,Bg,IB,Iy,Dy,Bz,Aa,Option.some.injEq,exists_eq_left',Fq,e1,e2,Aa]
    simp (disch:=omega) only[go_sem,hD,hG',g1,d,g3,Aa]
    (repeat (with_reducible refine aI ?_))
    refine Aj [] [] (by simp) rfl rfl rfl ?_ ?_ <;> simp only[go_sem]
   ·have d:(wa !=0)=true:=by simp[hw]
    rw[if_neg hw] at hr
    subst hr
    simp (disch:=omega) only[go_sem,hD,hG',gn,Aa]
    refine Hs (rs:=[(2,some 146),(3,none)]) hX hP 70000 (fun _=> {}) Tryz.func77 Tryz.results77 Tryz.ntmps77 fun hX1=> ?_
    simp (disch:=omega) only[go_sem,hD,hG',Bf,Bg,IB,Iy,Dy,Bz,Aa,Option.some.injEq,exists_eq_left',Fq,e1,e2,Aa]
    simp (disch:=omega) only[go_sem,hD,hG',g1,d,Aa]
    (repeat (with_reducible refine aI ?_))
    refine Aj [] [] (by simp) rfl rfl rfl ?_ ?_ <;> simp only[go_sem]
  have e2:(n==2)=false:=by simp[h2]
  by_cases h3:n=3
  ·have e3:(n==3)=true:=by simp[h3]
   rw[if_pos (.inr (.inr h3)),if_neg h1,if_neg h2] at hr
   by_cases hw:wa=0
   ·have d:(wa !=0)=false:=by simp[hw]
    have g4:=g4 hw
    rw[if_pos hw] at hr
    subst hr
    simp (disch:=omega) only[go_sem,hD,hG',gn,Aa]
    refine Hs (rs:=[(2,some 146),(3,none)]) hX hP 70000 (fun _=> {}) Tryz.func77 Tryz.results77 Tryz.ntmps77 fun hX1=> ?_
    simp (disch:=omega) only[go_sem,hD,hG',Bf,Bg,IB,Iy,Dy,Bz,Aa,Option.some.injEq,exists_eq_left',Fq,e1,e2,e3,Aa]
    simp (disch:=omega) only[go_sem,hD,hG',g1,d,g4,Aa]
    (repeat (with_reducible refine aI ?_))
    refine Aj [] [] (by simp) rfl rfl rfl ?_ ?_ <;> simp only[go_sem]
   ·have d:(wa !=0)=true:=by simp[hw]
    rw[if_neg hw] at hr
    subst hr
    simp (disch:=omega) only[go_sem,hD,hG',gn,Aa]
    refine Hs (rs:=[(2,some 146),(3,none)]) hX hP 70000 (fun _=> {}) Tryz.func77 Tryz.results77 Tryz.ntmps77 fun hX1=> ?_
    simp (disch:=omega) only[go_sem,hD,hG',Bf,Bg,IB,Iy,Dy,Bz,Aa,Option.some.injEq,exists_eq_left',Fq,e1,e2,e3,Aa]
    simp (disch:=omega) only[go_sem,hD,hG',g1,d,Aa]
    (repeat (with_reducible refine aI ?_))
    refine Aj [] [] (by simp) rfl rfl rfl ?_ ?_ <;> simp only[go_sem]
  have e3:(n==3)=false:=by simp[h3]
  rw[if_neg (fun h=> h.elim h1 fun h=> h.elim h2 h3)] at hr
  subst hr
  simp (disch:=omega) only[go_sem,hD,hG',gn,Aa]
  refine Hs (rs:=[(2,some 146),(3,none)]) hX hP 70000 (fun _=> {}) Tryz.func77 Tryz.results77 Tryz.ntmps77 fun hX1=> ?_
  simp (disch:=omega) only[go_sem,hD,hG',Bf,Bg,IB,Iy,Dy,Bz,Aa,Option.some.injEq,exists_eq_left',Fq,e1,e2,e3,Aa]
  try (simp (disch:=omega) only[go_sem,hD,hG',Aa])
  (repeat (with_reducible refine aI ?_))
  refine Aj [] [] (by simp) rfl rfl rfl ?_ ?_ <;> simp only[go_sem]
 exact hcon _ rfl
theorem Rq (n:Int) (a:A0) (fa:a.note.Fits):A8 Tryz.prog D 44 [.int .i64 n,sayA a] ⟨.tup [.sl 1 ((J8 n a).1.map Ac),.int .i64 (J8 n a).2],[]⟩:=by
 have hok:Cl Tryz.prog D (Ao [BX,D6,Dn,Dq]):=Ar _
 have g1:=Ag (T:=[BX,D6,Dn,Dq]) (E:=BX) (i:=0) rfl (by decide) (a) (fa)
 have g2:=fun (h:Am a=0)=> Ag (T:=[BX,D6,Dn,Dq]) (E:=D6) (i:=1) rfl (by decide) (a) (h)
 have g3:=fun (h:Am a=0)=> Ag (T:=[BX,D6,Dn,Dq]) (E:=Dn) (i:=2) rfl (by decide) (a) (Ac6 h)
 have g4:=fun (h:Am a=0)=> Ag (T:=[BX,D6,Dn,Dq]) (E:=Dq) (i:=3) rfl (by decide) (a) (AcQ h)
 have gn:∀x,Ao [BX,D6,Dn,Dq] 77 x=none:=fun x=> rfl
 generalize Ao [BX,D6,Dn,Dq]=G at *
 dsimp only[BX] at g1
 dsimp only[D6] at g2
 dsimp only[Dn] at g3
 dsimp only[Dq] at g4
 have hcon:∀r,r=J8 n a→A8 Tryz.prog D 44 [.int .i64 n,sayA a] ⟨.tup [.sl 1 (r.1.map Ac),.int .i64 r.2],[]⟩:=by
  intro r hr
  unfold J8 Rc at hr
  generalize Am a=wa at *
  generalize Br (JG a)=b1 at *
  generalize GH (Ht a)=b2 at *
  generalize Kd a=b3 at *
  obtain ⟨ak,an,am,ae,⟨ap,ab⟩⟩:=a
  simp only[sayA] at g1 g2 g3 g4
  refine Bx (G:=G) (rs:=[(4,none),(5,none)]) hok Tryz.func44 Tryz.results44 Tryz.ntmps44 (fun _=> {}) fun X hP hD hG' hX=> ?_
  simp only[AU,Bz,sayA]
  by_cases h1:n=1
  ·have e1:(n==1)=true:=by simp[h1]
   rw[if_pos (.inl h1),if_pos h1] at hr
   by_cases hw:wa=0
   ·have d:(wa !=0)=false:=by simp[hw]
    have g2:=g2 hw
    rw[if_pos hw] at hr
    subst hr
    simp (disch:=omega) only[go_sem,hD,hG',gn,Aa]
    refine Hs (rs:=[(2,some 146),(3,none)]) hX hP 70000 (fun _=> {}) Tryz.func77 Tryz.results77 Tryz.ntmps77 fun hX1=> ?_
    simp (disch:=omega) only[go_sem,hD,hG',Bf,Bg,IB,Iy,Dy,Bz,Aa,Option.some.injEq,exists_eq_left',Fq,e1,Aa]
    simp (disch:=omega) only[go_sem,hD,hG',g1,d,g2,Aa]
    (repeat (with_reducible refine aI ?_))
    refine Aj [4120] [] (by simp) rfl rfl rfl ?_ ?_ <;> simp only[go_sem]
   ·have d:(wa !=0)=true:=by simp[hw]
    rw[if_neg hw] at hr
    subst hr
    simp (disch:=omega) only[go_sem,hD,hG',gn,Aa]
    refine Hs (rs:=[(2,some 146),(3,none)]) hX hP 70000 (fun _=> {}) Tryz.func77 Tryz.results77 Tryz.ntmps77 fun hX1=> ?_
    simp (disch:=omega) only[go_sem,hD,hG',Bf,Bg,IB,Iy,Dy,Bz,Aa,Option.some.injEq,exists_eq_left',Fq,e1,Aa]
    simp (disch:=omega) only[go_sem,hD,hG',g1,d,Aa]
    (repeat (with_reducible refine aI ?_))
    refine Aj [] [] (by simp) rfl rfl rfl ?_ ?_ <;> simp only[go_sem]
  have e1:(n==1)=false:=by simp[h1]
  by_cases h2:n=2
  ·have e2:(n==2)=true:=by simp[h2]
   rw[if_pos (.inr (.inl h2)),if_neg h1,if_pos h2] at hr
   by_cases hw:wa=0
   ·have d:(wa !=0)=false:=by simp[hw]
    have g3:=g3 hw
    rw[if_pos hw] at hr
    subst hr
    simp (disch:=omega) only[go_sem,hD,hG',gn,Aa]
    refine Hs (rs:=[(2,some 146),(3,none)]) hX hP 70000 (fun _=> {}) Tryz.func77 Tryz.results77 Tryz.ntmps77 fun hX1=> ?_
    simp (disch:=omega) only[go_sem,hD,hG',Bf,Bg,IB,Iy,Dy,Bz,Aa,Option.some.injEq,exists_eq_left',Fq,e1,e2,Aa]
    simp (disch:=omega) only[go_sem,hD,hG',g1,d,g3,Aa]
    (repeat (with_reducible refine aI ?_))
    refine Aj [] [] (by simp) rfl rfl rfl ?_ ?_ <;> simp only[go_sem]
   ·have d:(wa !=0)=true:=by simp[hw]
    rw[if_neg hw] at hr
    subst hr
    simp (disch:=omega) only[go_sem,hD,hG',gn,Aa]
    refine Hs (rs:=[(2,some 146),(3,none)]) hX hP 70000 (fun _=> {}) Tryz.func77 Tryz.results77 Tryz.ntmps77 fun hX1=> ?_
    simp (disch:=omega) only[go_sem,hD,hG',Bf,Bg,IB,Iy,Dy,Bz,Aa,Option.some.injEq,exists_eq_left',Fq,e1,e2,Aa]
    simp (disch:=omega) only[go_sem,hD,hG',g1,d,Aa]
    (repeat (with_reducible refine aI ?_))
    refine Aj [] [] (by simp) rfl rfl rfl ?_ ?_ <;> simp only[go_sem]
  have e2:(n==2)=false:=by simp[h2]
  by_cases h3:n=3
  ·have e3:(n==3)=true:=by simp[h3]
   rw[if_pos (.inr (.inr h3)),if_neg h1,if_neg h2] at hr
   by_cases hw:wa=0
   ·have d:(wa !=0)=false:=by simp[hw]
    have g4:=g4 hw
    rw[if_pos hw] at hr
    subst hr
    simp (disch:=omega) only[go_sem,hD,hG',gn,Aa]
    refine Hs (rs:=[(2,some 146),(3,none)]) hX hP 70000 (fun _=> {}) Tryz.func77 Tryz.results77 Tryz.ntmps77 fun hX1=> ?_
    simp (disch:=omega) only[go_sem,hD,hG',Bf,Bg,IB,Iy,Dy,Bz,Aa,Option.some.injEq,exists_eq_left',Fq,e1,e2,e3,Aa]
    simp (disch:=omega) only[go_sem,hD,hG',g1,d,g4,Aa]
    (repeat (with_reducible refine aI ?_))
    refine Aj [] [] (by simp) rfl rfl rfl ?_ ?_ <;> simp only[go_sem]
   ·have d:(wa !=0)=true:=by simp[hw]
    rw[if_neg hw] at hr
    subst hr
    simp (disch:=omega) only[go_sem,hD,hG',gn,Aa]
    refine Hs (rs:=[(2,some 146),(3,none)]) hX hP 70000 (fun _=> {}) Tryz.func77 Tryz.results77 Tryz.ntmps77 fun hX1=> ?_
    simp (disch:=omega) only[go_sem,hD,hG',Bf,Bg,IB,Iy,Dy,Bz,Aa,Option.some.injEq,exists_eq_left',Fq,e1,e2,e3,Aa]
    simp (disch:=omega) only[go_sem,hD,hG',g1,d,Aa]
    (repeat (with_reducible refine aI ?_))
    refine Aj [] [] (by simp) rfl rfl rfl ?_ ?_ <;> simp only[go_sem]
  have e3:(n==3)=false:=by simp[h3]
  rw[if_neg (fun h=> h.elim h1 fun h=> h.elim h2 h3)] at hr
  subst hr
  simp (disch:=omega) only[go_sem,hD,hG',gn,Aa]
  refine Hs (rs:=[(2,some 146),(3,none)]) hX hP 70000 (fun _=> {}) Tryz.func77 Tryz.results77 Tryz.ntmps77 fun hX1=> ?_
  simp (disch:=omega) only[go_sem,hD,hG',Bf,Bg,IB,Iy,Dy,Bz,Aa,Option.some.injEq,exists_eq_left',Fq,e1,e2,e3,Aa]
  try (simp (disch:=omega) only[go_sem,hD,hG',Aa])
  (repeat (with_reducible refine aI ?_))
  refine Aj [] [] (by simp) rfl rfl rfl ?_ ?_ <;> simp only[go_sem]
 exact hcon _ rfl
def BE:BH Tryz.prog D:=⟨43,Int×AX,fun x=> [.int .i64 x.1,askA x.2],fun x=> x.2.Fits,fun x=> ⟨.tup [.sl 1 ((J7 x.1 x.2).1.map Ac),.int .i64 (J7 x.1 x.2).2],[]⟩,fun x y _ _ h=> by
 obtain ⟨n,a⟩:=x
 obtain ⟨n',a'⟩:=y
 simp only[List.cons.injEq,AV.int.injEq,true_and,and_true] at h
 rw[h.1,Cv h.2],fun x h=> Rp x.1 x.2 h⟩
def BF:BH Tryz.prog D:=⟨44,Int×A0,fun x=> [.int .i64 x.1,sayA x.2],fun x=> x.2.note.Fits,fun x=> ⟨.tup [.sl 1 ((J8 x.1 x.2).1.map Ac),.int .i64 (J8 x.1 x.2).2],[]⟩,fun x y _ _ h=> by
 obtain ⟨n,a⟩:=x
 obtain ⟨n',a'⟩:=y
 simp only[List.cons.injEq,AV.int.injEq,true_and,and_true] at h
 rw[h.1,CJ h.2],fun x h=> Rq x.1 x.2 h⟩
def Cm (a:AX):List AV:=[.int .i64 a.kind,.str a.queue.data.toList,.int .i64 a.n,.sl 4 (a.note.props.map Aq),.sl 1 (a.note.body.map Ac)]
def Cp (s:A0):List AV:=[.int .i64 s.kind,.int .i64 s.n,.int .i64 s.m,.int .i64 s.err,.sl 4 (s.note.props.map Aq),.sl 1 (s.note.body.map Ac)]
theorem Xm (a:AX):askA a=.agg (Cm a):=rfl
theorem XQ (s:A0):sayA s=.agg (Cp s):=rfl
theorem WP (a:AX):Af (Cm a)=[]:=by simp[Cm,Ad,Af]
theorem WR (s:A0):Af (Cp s)=[]:=by simp[Cp,Ad,Af]
def fA (n:Int):Nat:=if n=1 then 119 else if n=2 then 123 else 127
def fB (n:Int):Nat:=if n=1 then 120 else if n=2 then 124 else 128
def fC (n:Int):Nat:=if n=1 then 121 else if n=2 then 125 else 129
def fD (n:Int):Nat:=if n=1 then 122 else if n=2 then 126 else 130
theorem KH (n:Int) (b:Wd):((Fl n b).2.2=0∧Ap (Fl n b).1=0∧1≤(Fl n b).2.1∧(Fl n b).2.1≤b.length)∨((Fl n b).2.2≠0∧(Fl n b).2.1=0):=by
 unfold Fl
 split
 ·rcases XY b with h | h
  ·exact .inl ⟨h.1,h.2.1,h.2.2.1,h.2.2.2.1⟩
  ·exact .inr ⟨h.1,h.2.1⟩
 ·split
  ·rcases WJ b with h | h
   ·exact .inl ⟨h.1,h.2.1,h.2.2.1,h.2.2.2.1⟩
   ·exact .inr ⟨h.1,h.2.1⟩
  ·rcases Xh b with h | h
   ·exact .inl ⟨h.1,h.2.1,h.2.2.1,h.2.2.2.1⟩
   ·exact .inr ⟨h.1,h.2.1⟩
theorem KI (n:Int) (b:Wd):((Fm n b).2.2=0∧Am (Fm n b).1=0∧1≤(Fm n b).2.1∧(Fm n b).2.1≤b.length)∨((Fm n b).2.2≠0∧(Fm n b).2.1=0):=by
 unfold Fm
 split
 ·rcases Zd b with h | h
  ·exact .inl ⟨h.1,h.2.1,h.2.2.1,h.2.2.2.1⟩
  ·exact .inr ⟨h.1,h.2.1⟩
 ·split
  ·rcases WK b with h | h
   ·exact .inl ⟨h.1,h.2.1,h.2.2.1,h.2.2.2.1⟩
   ·exact .inr ⟨h.1,h.2.1⟩
  ·rcases Xi b with h | h
   ·exact .inl ⟨h.1,h.2.1,h.2.2.1,h.2.2.2.1⟩
   ·exact .inr ⟨h.1,h.2.1⟩
def Ff:Nat→Lo:=fun id=> match id with | 10=> {uo:=[3],kn:=[5000],ex:=[0]} | _=> {}
theorem X9 (n:Int) (b:Wd) (most:Int) (hb:b.length≤4194304):A8 Tryz.prog D 45 [.int .i64 n,.sl 1 (b.map Ac),.int .i64 most] ⟨.tup [.sl 5 ((C4 n b most).1.map Cm),.sl 1 ((C4 n b most).2.1.map Ac),.int .i64 (C4 n b most).2.2],[]⟩:=by
 have hok:Cl Tryz.prog D (Ao [U9,Gf,Pm]):=Ar _
 have g1:=fun (c:Wd) (h:c.length≤4194304)=> Ag (T:=[U9,Gf,Pm]) (E:=U9) (i:=0) rfl (by decide) (c) (h)
 have g2:=fun (c:Wd) (h:c.length≤4194304)=> Ag (T:=[U9,Gf,Pm]) (E:=Gf) (i:=1) rfl (by decide) (c) (by show c.length≤16777216;omega)
 have g3:=fun (c:Wd) (h:c.length≤4194304)=> Ag (T:=[U9,Gf,Pm]) (E:=Pm) (i:=2) rfl (by decide) (c) (by show c.length≤16777216;omega)
 have gn:∀x,Ao [U9,Gf,Pm] 77 x=none:=fun x=> rfl
 generalize Ao [U9,Gf,Pm]=G at *
 dsimp only[U9] at g1
 dsimp only[Gf] at g2
 dsimp only[Pm] at g3
 have hcon:∀r,r=C4 n b most→A8 Tryz.prog D 45 [.int .i64 n,.sl 1 (b.map Ac),.int .i64 most] ⟨.tup [.sl 5 (r.1.map Cm),.sl 1 (r.2.1.map Ac),.int .i64 r.2.2],[]⟩:=by
  intro r hr
  refine Bx (G:=G) (rs:=[(6,none),(7,none),(8,none)]) hok Tryz.func45 Tryz.results45 Tryz.ntmps45 (Ff) fun X hP hD hG' hX=> ?_
  simp only[AU,Bz]
  by_cases hn:isT n
  case neg=>
   have e1:(n==1)=false:=by rw[beq_eq_false_iff_ne];exact fun h=> hn (.inl h)
   have e2:(n==2)=false:=by rw[beq_eq_false_iff_ne];exact fun h=> hn (.inr (.inl h))
   have e3:(n==3)=false:=by rw[beq_eq_false_iff_ne];exact fun h=> hn (.inr (.inr h))
   have hr:r=([],[],1):=by rw[hr];unfold C4;rw[if_neg hn]
   subst hr
   simp only[List.map_nil]
   simp (disch:=omega) only[go_sem,hD,hG',gn,Ff,Aa]
   refine Hs (rs:=[(2,some 146),(3,none)]) hX hP 70000 (fun _=> {}) Tryz.func77 Tryz.results77 Tryz.ntmps77 fun hX1=> ?_
   simp (disch:=omega) only[go_sem,hD,hG',Bf,Bg,IB,Iy,Dy,Bz,Aa,Option.some.injEq,exists_eq_left',Fq,e1,e2,e3,Aa]
   try (simp (disch:=omega) only[go_sem,hD,hG',Ff,Aa])
   (repeat (with_reducible refine aI ?_))
   refine Aj [] [] (by simp) rfl rfl rfl ?_ ?_ <;> simp only[go_sem]
  have gT:∀c:Wd,c.length≤4194304→G (fA n) [.sl 1 (c.map Ac)]=some ⟨.tup [.agg (Cm (Fl n c).1),.int .i64 (Fl n c).2.1,.int .i64 (Fl n c).2.2],[]⟩:=fun c h=> by
   unfold fA Fl
   rcases hn with rfl | rfl | rfl
   ·exact g1 c h
   ·exact g2 c h
   ·exact g3 c h
  have hTr:=KH n
  have hr:r=DN (Fl n) (b.length+1) (most) b:=by rw[hr];unfold C4;rw[if_pos hn]
  clear g1 g2 g3
  have hns:∀a,Af (Cm a)=[]:=WP
  rcases (show n=1∨n=2∨n=3 from hn) with h1 | h1 | h1
  have e1:(n==1)=true:=by simp[h1]
  simp (disch:=omega) only[go_sem,hD,hG',gn,Ff,Aa]
  refine Hs (rs:=[(2,some 146),(3,none)]) hX hP 70000 (fun _=> {}) Tryz.func77 Tryz.results77 Tryz.ntmps77 fun hX1=> ?_
  simp (disch:=omega) only[go_sem,hD,hG',Bf,Bg,IB,Iy,Dy,Bz,Aa,Option.some.injEq,exists_eq_left',Fq,e1,Aa]
  simp (disch:=omega) only[go_sem,hD,hG',Ff,Aa]
  refine Tr.loop (ι:=Nat×List AX×Wd) (fun x=> x.2.2.length≤4194304∧x.2.2.length < x.1∧x.2.1.length+x.2.2.length≤b.length∧r=(x.2.1++(DN (Fl n) x.1 (most - x.2.1.length) x.2.2).1,(DN (Fl n) x.1 (most - x.2.1.length) x.2.2).2)) (fun x=> {nt:=52,tm:=[(1,.sl 1 (x.2.2.map Ac)),(2,.int .i64 most),(9,.ptr 9 0),(11,.os 5000)],bl:=[(9,some (.cells [.func (fA n) [],.func (fB n) [],.func (fC n) [],.func (fD n) []])),(5000,some (.rows 48 5 (x.2.1.map Cm)))]}) (fun x=> x.2.2.length) (b.length+1,[],b)
    ⟨⟨hb,by simp,by simp,by simp[hr]⟩,AG hD [(9,9)] rfl rfl (by simp only[go_sem];try simp) (by simp only[go_sem];try simp[fA,fB,fC,fD,h1])⟩ ?_
  rotate_left
  have e1:(n==1)=false:=by simp[h1]
  have e2:(n==2)=true:=by simp[h1]
  simp (disch:=omega) only[go_sem,hD,hG',gn,Ff,Aa]
  refine Hs (rs:=[(2,some 146),(3,none)]) hX hP 70000 (fun _=> {}) Tryz.func77 Tryz.results77 Tryz.ntmps77 fun hX1=> ?_
  simp (disch:=omega) only[go_sem,hD,hG',Bf,Bg,IB,Iy,Dy,Bz,Aa,Option.some.injEq,exists_eq_left',Fq,e1,e2,Aa]
  simp (disch:=omega) only[go_sem,hD,hG',Ff,Aa]
  refine Tr.loop (ι:=Nat×List AX×Wd) (fun x=> x.2.2.length≤4194304∧x.2.2.length < x.1∧x.2.1.length+x.2.2.length≤b.length∧r=(x.2.1++(DN (Fl n) x.1 (most - x.2.1.length) x.2.2).1,(DN (Fl n) x.1 (most - x.2.1.length) x.2.2).2)) (fun x=> {nt:=52,tm:=[(1,.sl 1 (x.2.2.map Ac)),(2,.int .i64 most),(9,.ptr 9 0),(11,.os 5000)],bl:=[(9,some (.cells [.func (fA n) [],.func (fB n) [],.func (fC n) [],.func (fD n) []])),(5000,some (.rows 48 5 (x.2.1.map Cm)))]}) (fun x=> x.2.2.length) (b.length+1,[],b)
    ⟨⟨hb,by simp,by simp,by simp[hr]⟩,AG hD [(9,9)] rfl rfl (by simp only[go_sem];try simp) (by simp only[go_sem];try simp[fA,fB,fC,fD,h1])⟩ ?_
  rotate_left
  have e1:(n==1)=false:=by simp[h1]
  have e2:(n==2)=false:=by simp[h1]
  have e3:(n==3)=true:=by simp[h1]
  simp (disch:=omega) only[go_sem,hD,hG',gn,Ff,Aa]
  refine Hs (rs:=[(2,some 146),(3,none)]) hX hP 70000 (fun _=> {}) Tryz.func77 Tryz.results77 Tryz.ntmps77 fun hX1=> ?_
  simp (disch:=omega) only[go_sem,hD,hG',Bf,Bg,IB,Iy,Dy,Bz,Aa,Option.some.injEq,exists_eq_left',Fq,e1,e2,e3,Aa]
  simp (disch:=omega) only[go_sem,hD,hG',Ff,Aa]
  refine Tr.loop (ι:=Nat×List AX×Wd) (fun x=> x.2.2.length≤4194304∧x.2.2.length < x.1∧x.2.1.length+x.2.2.length≤b.length∧r=(x.2.1++(DN (Fl n) x.1 (most - x.2.1.length) x.2.2).1,(DN (Fl n) x.1 (most - x.2.1.length) x.2.2).2)) (fun x=> {nt:=52,tm:=[(1,.sl 1 (x.2.2.map Ac)),(2,.int .i64 most),(9,.ptr 9 0),(11,.os 5000)],bl:=[(9,some (.cells [.func (fA n) [],.func (fB n) [],.func (fC n) [],.func (fD n) []])),(5000,some (.rows 48 5 (x.2.1.map Cm)))]}) (fun x=> x.2.2.length) (b.length+1,[],b)
    ⟨⟨hb,by simp,by simp,by simp[hr]⟩,AG hD [(9,9)] rfl rfl (by simp only[go_sem];try simp) (by simp only[go_sem];try simp[fA,fB,fC,fD,h1])⟩ ?_
  rotate_left
  all_goals (
   rintro ⟨f,os,c⟩ ⟨hc,hf,ho,hinv⟩
   simp only at hc hf ho hinv
   clear hr
   refine Al hX Ff _ _ _ ?_
   obtain ⟨f,rfl⟩:∃k,f=k+1:=⟨f - 1,by omega⟩
   rw[DN] at hinv
   have gc:=gT c hc
   have hrt:=hTr c
   generalize Fl n c=t at *
   obtain ⟨⟨t1,t2,t3,⟨t4,t5⟩⟩,tk,te⟩:=t
   simp only at hinv gc hrt
   simp only[Cm] at gc
   have htk:List.drop tk.toNat (List.take ((c.length:Nat):Int).toNat c)=c.drop tk.toNat:=by rw[Int.toNat_natCast,List.take_length]
   simp (disch:=omega) only[go_sem,hD,hG',Ff,Aa]
   refine Ai (fun h=> ?_) (fun h=> ?_)
   ·rw[decide_eq_true_eq] at h
    rw[if_neg (by omega)] at hinv
    by_cases h9:te=9
    ·have d9:(te==9)=true:=by simp[h9]
     rw[if_pos h9] at hinv
     subst hinv
     simp only[List.append_nil]
     simp (disch:=omega) only[go_sem,hD,hG',gc,d9,Ff,Aa]
     (repeat (with_reducible refine aI ?_))
     refine Aj [5000,51] [] (by simp) rfl rfl rfl ?_ ?_ <;> simp only[go_sem]
    have d9:(te==9)=false:=by simp[h9]
    rw[if_neg h9] at hinv
    by_cases h0:te=0
    ·have d0:(te !=0)=false:=by simp[h0]
     rw[if_neg (by simpa using h0)] at hinv
     obtain ⟨_,_,k1,k2⟩ | hk:=hrt
     ·simp (disch:=omega) only[go_sem,hD,hG',gc,d9,d0,htk,Ff,Aa]
      (repeat (with_reducible refine aI ?_))
      refine ⟨(f,os++[⟨t1,t2,t3,⟨t4,t5⟩⟩],c.drop tk.toNat),⟨⟨?_,?_,?_,?_⟩,?_⟩,AG hD [(9,9),(5000,45)] rfl rfl ?_ ?_⟩
      ·simp only[List.length_drop];omega
      ·simp only[List.length_drop];omega
      ·simp only[List.length_drop,List.length_append,List.length_cons,List.length_nil];omega
      ·rw[hinv]
       simp only[List.length_append,List.length_cons,List.length_nil,List.append_assoc,List.cons_append,List.nil_append]
       rw[show most - ((os.length+(0+1):Nat):Int)=most - (os.length:Int) - 1 by omega]
      ·simp only[List.length_drop];omega
      ·simp only[go_sem]
       try simp
      ·simp only[go_sem]
       try simp[Cm]
     ·exact absurd h0 hk.1
    ·have d0:(te !=0)=true:=by simp[h0]
     rw[if_pos (by simpa using h0)] at hinv
     subst hinv
     simp only[List.append_nil]
     simp (disch:=omega) only[go_sem,hD,hG',gc,d9,d0,Ff,Aa]
     (repeat (with_reducible refine aI ?_))
     refine Aj [5000,40] [] (by simp) rfl rfl rfl ?_ ?_ <;> simp only[go_sem]
   ·rw[decide_eq_false_iff_not] at h
    rw[if_pos (by omega)] at hinv
    subst hinv
    simp only[List.append_nil]
    simp (disch:=omega) only[go_sem,hD,hG',Ff,Aa]
    (repeat (with_reducible refine aI ?_))
    refine Aj [5000,51] [] (by simp) rfl rfl rfl ?_ ?_ <;> simp only[go_sem])
 exact hcon _ rfl
theorem Ya (n:Int) (b:Wd) (hb:b.length≤4194304):A8 Tryz.prog D 46 [.int .i64 n,.sl 1 (b.map Ac)] ⟨.tup [.sl 6 ((C8 n b).1.map Cp),.sl 1 ((C8 n b).2.1.map Ac),.int .i64 (C8 n b).2.2],[]⟩:=by
 have hok:Cl Tryz.prog D (Ao [Va,Gg,Pn]):=Ar _
 have g1:=fun (c:Wd) (h:c.length≤4194304)=> Ag (T:=[Va,Gg,Pn]) (E:=Va) (i:=0) rfl (by decide) (c) (h)
 have g2:=fun (c:Wd) (h:c.length≤4194304)=> Ag (T:=[Va,Gg,Pn]) (E:=Gg) (i:=1) rfl (by decide) (c) (by show c.length≤16777216;omega)
 have g3:=fun (c:Wd) (h:c.length≤4194304)=> Ag (T:=[Va,Gg,Pn]) (E:=Pn) (i:=2) rfl (by decide) (c) (by show c.length≤16777216;omega)
 have gn:∀x,Ao [Va,Gg,Pn] 77 x=none:=fun x=> rfl
 generalize Ao [Va,Gg,Pn]=G at *
 dsimp only[Va] at g1
 dsimp only[Gg] at g2
 dsimp only[Pn] at g3
 have hcon:∀r,r=C8 n b→A8 Tryz.prog D 46 [.int .i64 n,.sl 1 (b.map Ac)] ⟨.tup [.sl 6 (r.1.map Cp),.sl 1 (r.2.1.map Ac),.int .i64 r.2.2],[]⟩:=by
  intro r hr
  refine Bx (G:=G) (rs:=[(4,none),(5,none),(6,none)]) hok Tryz.func46 Tryz.results46 Tryz.ntmps46 (Ff) fun X hP hD hG' hX=> ?_
  simp only[AU,Bz]
  by_cases hn:isT n
  case neg=>
   have e1:(n==1)=false:=by rw[beq_eq_false_iff_ne];exact fun h=> hn (.inl h)
   have e2:(n==2)=false:=by rw[beq_eq_false_iff_ne];exact fun h=> hn (.inr (.inl h))
   have e3:(n==3)=false:=by rw[beq_eq_false_iff_ne];exact fun h=> hn (.inr (.inr h))
   have hr:r=([],[],1):=by rw[hr];unfold C8;rw[if_neg hn]
   subst hr
   simp only[List.map_nil]
   simp (disch:=omega) only[go_sem,hD,hG',gn,Ff,Aa]
   refine Hs (rs:=[(2,some 146),(3,none)]) hX hP 70000 (fun _=> {}) Tryz.func77 Tryz.results77 Tryz.ntmps77 fun hX1=> ?_
   simp (disch:=omega) only[go_sem,hD,hG',Bf,Bg,IB,Iy,Dy,Bz,Aa,Option.some.injEq,exists_eq_left',Fq,e1,e2,e3,Aa]
   try (simp (disch:=omega) only[go_sem,hD,hG',Ff,Aa])
   (repeat (with_reducible refine aI ?_))
   refine Aj [] [] (by simp) rfl rfl rfl ?_ ?_ <;> simp only[go_sem]
  have gT:∀c:Wd,c.length≤4194304→G (fC n) [.sl 1 (c.map Ac)]=some ⟨.tup [.agg (Cp (Fm n c).1),.int .i64 (Fm n c).2.1,.int .i64 (Fm n c).2.2],[]⟩:=fun c h=> by
   unfold fC Fm
   rcases hn with rfl | rfl | rfl
   ·exact g1 c h
   ·exact g2 c h
   ·exact g3 c h
  have hTr:=KI n
  have hr:r=DN (Fm n) (b.length+1) ((b.length+1:Int)) b:=by rw[hr];unfold C8;rw[if_pos hn]
  clear g1 g2 g3
  have hns:∀a,Af (Cp a)=[]:=WR
  rcases (show n=1∨n=2∨n=3 from hn) with h1 | h1 | h1
  have e1:(n==1)=true:=by simp[h1]
  simp (disch:=omega) only[go_sem,hD,hG',gn,Ff,Aa]
  refine Hs (rs:=[(2,some 146),(3,none)]) hX hP 70000 (fun _=> {}) Tryz.func77 Tryz.results77 Tryz.ntmps77 fun hX1=> ?_
  simp (disch:=omega) only[go_sem,hD,hG',Bf,Bg,IB,Iy,Dy,Bz,Aa,Option.some.injEq,exists_eq_left',Fq,e1,Aa]
  simp (disch:=omega) only[go_sem,hD,hG',Ff,Aa]
  refine Tr.loop (ι:=Nat×List A0×Wd) (fun x=> x.2.2.length≤4194304∧x.2.2.length < x.1∧x.2.1.length+x.2.2.length≤b.length∧r=(x.2.1++(DN (Fm n) x.1 ((b.length+1:Int) - x.2.1.length) x.2.2).1,(DN (Fm n) x.1 ((b.length+1:Int) - x.2.1.length) x.2.2).2)) (fun x=> {nt:=46,tm:=[(1,.sl 1 (x.2.2.map Ac)),(7,.ptr 7 0),(9,.os 5000)],bl:=[(7,some (.cells [.func (fA n) [],.func (fB n) [],.func (fC n) [],.func (fD n) []])),(5000,some (.rows 53 6 (x.2.1.map Cp)))]}) (fun x=> x.2.2.length) (b.length+1,[],b)
    ⟨⟨hb,by simp,by simp,by simp[hr]⟩,AG hD [(7,7)] rfl rfl (by simp only[go_sem];try simp) (by simp only[go_sem];try simp[fA,fB,fC,fD,h1])⟩ ?_
  rotate_left
  have e1:(n==1)=false:=by simp[h1]
  have e2:(n==2)=true:=by simp[h1]
  simp (disch:=omega) only[go_sem,hD,hG',gn,Ff,Aa]
  refine Hs (rs:=[(2,some 146),(3,none)]) hX hP 70000 (fun _=> {}) Tryz.func77 Tryz.results77 Tryz.ntmps77 fun hX1=> ?_
  simp (disch:=omega) only[go_sem,hD,hG',Bf,Bg,IB,Iy,Dy,Bz,Aa,Option.some.injEq,exists_eq_left',Fq,e1,e2,Aa]
  simp (disch:=omega) only[go_sem,hD,hG',Ff,Aa]
  refine Tr.loop (ι:=Nat×List A0×Wd) (fun x=> x.2.2.length≤4194304∧x.2.2.length < x.1∧x.2.1.length+x.2.2.length≤b.length∧r=(x.2.1++(DN (Fm n) x.1 ((b.length+1:Int) - x.2.1.length) x.2.2).1,(DN (Fm n) x.1 ((b.length+1:Int) - x.2.1.length) x.2.2).2)) (fun x=> {nt:=46,tm:=[(1,.sl 1 (x.2.2.map Ac)),(7,.ptr 7 0),(9,.os 5000)],bl:=[(7,some (.cells [.func (fA n) [],.func (fB n) [],.func (fC n) [],.func (fD n) []])),(5000,some (.rows 53 6 (x.2.1.map Cp)))]}) (fun x=> x.2.2.length) (b.length+1,[],b)
    ⟨⟨hb,by simp,by simp,by simp[hr]⟩,AG hD [(7,7)] rfl rfl (by simp only[go_sem];try simp) (by simp only[go_sem];try simp[fA,fB,fC,fD,h1])⟩ ?_
  rotate_left
  have e1:(n==1)=false:=by simp[h1]
  have e2:(n==2)=false:=by simp[h1]
  have e3:(n==3)=true:=by simp[h1]
  simp (disch:=omega) only[go_sem,hD,hG',gn,Ff,Aa]
  refine Hs (rs:=[(2,some 146),(3,none)]) hX hP 70000 (fun _=> {}) Tryz.func77 Tryz.results77 Tryz.ntmps77 fun hX1=> ?_
  simp (disch:=omega) only[go_sem,hD,hG',Bf,Bg,IB,Iy,Dy,Bz,Aa,Option.some.injEq,exists_eq_left',Fq,e1,e2,e3,Aa]
  simp (disch:=omega) only[go_sem,hD,hG',Ff,Aa]
  refine Tr.loop (ι:=Nat×List A0×Wd) (fun x=> x.2.2.length≤4194304∧x.2.2.length < x.1∧x.2.1.length+x.2.2.length≤b.length∧r=(x.2.1++(DN (Fm n) x.1 ((b.length+1:Int) - x.2.1.length) x.2.2).1,(DN (Fm n) x.1 ((b.length+1:Int) - x.2.1.length) x.2.2).2)) (fun x=> {nt:=46,tm:=[(1,.sl 1 (x.2.2.map Ac)),(7,.ptr 7 0),(9,.os 5000)],bl:=[(7,some (.cells [.func (fA n) [],.func (fB n) [],.func (fC n) [],.func (fD n) []])),(5000,some (.rows 53 6 (x.2.1.map Cp)))]}) (fun x=> x.2.2.length) (b.length+1,[],b)
    ⟨⟨hb,by simp,by simp,by simp[hr]⟩,AG hD [(7,7)] rfl rfl (by simp only[go_sem];try simp) (by simp only[go_sem];try simp[fA,fB,fC,fD,h1])⟩ ?_
  rotate_left
  all_goals (
   rintro ⟨f,os,c⟩ ⟨hc,hf,ho,hinv⟩
   simp only at hc hf ho hinv
   clear hr
   refine Al hX Ff _ _ _ ?_
   obtain ⟨f,rfl⟩:∃k,f=k+1:=⟨f - 1,by omega⟩
   rw[DN] at hinv
   have gc:=gT c hc
   have hrt:=hTr c
   generalize Fm n c=t at *
   obtain ⟨⟨t1,t2,t3,t6,⟨t4,t5⟩⟩,tk,te⟩:=t
   simp only at hinv gc hrt
   simp only[Cp] at gc
   have htk:List.drop tk.toNat (List.take ((c.length:Nat):Int).toNat c)=c.drop tk.toNat:=by rw[Int.toNat_natCast,List.take_length]
   simp (disch:=omega) only[go_sem,hD,hG',Ff,Aa]
   rw[if_neg (by omega)] at hinv
   by_cases h9:te=9
   ·have d9:(te==9)=true:=by simp[h9]
    rw[if_pos h9] at hinv
    subst hinv
    simp only[List.append_nil]
    simp (disch:=omega) only[go_sem,hD,hG',gc,d9,Ff,Aa]
    (repeat (with_reducible refine aI ?_))
    refine Aj [5000,32] [] (by simp) rfl rfl rfl ?_ ?_ <;> simp only[go_sem]
   have d9:(te==9)=false:=by simp[h9]
   rw[if_neg h9] at hinv
   by_cases h0:te=0
   ·have d0:(te !=0)=false:=by simp[h0]
    rw[if_neg (by simpa using h0)] at hinv
    obtain ⟨_,_,k1,k2⟩ | hk:=hrt
    ·simp (disch:=omega) only[go_sem,hD,hG',gc,d9,d0,htk,Ff,Aa]
     (repeat (with_reducible refine aI ?_))
     refine ⟨(f,os++[⟨t1,t2,t3,t6,⟨t4,t5⟩⟩],c.drop tk.toNat),⟨⟨?_,?_,?_,?_⟩,?_⟩,AG hD [(7,7),(5000,42)] rfl rfl ?_ ?_⟩
     ·simp only[List.length_drop];omega
     ·simp only[List.length_drop];omega
     ·simp only[List.length_drop,List.length_append,List.length_cons,List.length_nil];omega
     ·rw[hinv]
      simp only[List.length_append,List.length_cons,List.length_nil,List.append_assoc,List.cons_append,List.nil_append]
      rw[show ((b.length:Int)+1) - ((os.length+(0+1):Nat):Int)=((b.length:Int)+1) - (os.length:Int) - 1 by omega]
     ·simp only[List.length_drop];omega
     ·simp only[go_sem]
      try simp
     ·simp only[go_sem]
      try simp[Cp]
    ·exact absurd h0 hk.1
   ·have d0:(te !=0)=true:=by simp[h0]
    rw[if_pos (by simpa using h0)] at hinv
    subst hinv
    simp only[List.append_nil]
    simp (disch:=omega) only[go_sem,hD,hG',gc,d9,d0,Ff,Aa]
    (repeat (with_reducible refine aI ?_))
    refine Aj [5000,37] [] (by simp) rfl rfl rfl ?_ ?_ <;> simp only[go_sem])
 exact hcon _ rfl
def Ep:BH Tryz.prog D:=⟨45,Int×Wd×Int,fun x=> [.int .i64 x.1,.sl 1 (x.2.1.map Ac),.int .i64 x.2.2],fun x=> x.2.1.length≤4194304,fun x=> ⟨.tup [.sl 5 ((C4 x.1 x.2.1 x.2.2).1.map Cm),.sl 1 ((C4 x.1 x.2.1 x.2.2).2.1.map Ac),.int .i64 (C4 x.1 x.2.1 x.2.2).2.2],[]⟩,fun x y _ _ h=> by
 obtain ⟨n,b,m⟩:=x
 obtain ⟨n',b',m'⟩:=y
 simp only[List.cons.injEq,AV.int.injEq,AV.sl.injEq,true_and,and_true] at h
 rw[h.1,AN h.2.1,h.2.2],fun x h=> X9 x.1 x.2.1 x.2.2 h⟩
def Er:BH Tryz.prog D:=⟨46,Int×Wd,fun x=> [.int .i64 x.1,.sl 1 (x.2.map Ac)],fun x=> x.2.length≤4194304,fun x=> ⟨.tup [.sl 6 ((C8 x.1 x.2).1.map Cp),.sl 1 ((C8 x.1 x.2).2.1.map Ac),.int .i64 (C8 x.1 x.2).2.2],[]⟩,fun x y _ _ h=> by
 obtain ⟨n,b⟩:=x
 obtain ⟨n',b'⟩:=y
 simp only[List.cons.injEq,AV.int.injEq,AV.sl.injEq,true_and,and_true] at h
 rw[h.1,AN h.2],fun x h=> Ya x.1 x.2 h⟩
end Go.Proofs.YtlkmgccikgnaeaaGreatDoor.Ab
