/-
  Texts of the proof, one behind the other: RgA RgB RgC.
  No condition but those that each theorem names.
-/
import Derived.Test.YtlkmgccikgnaeaaGreatDoorMX
import Derived.Test.YtlkmgccikgnaeaaGreatDoorMC
import Derived.Test.YtlkmgccikgnaeaaGreatDoorMO
import Derived.Test.YtlkmgccikgnaeaaGreatDoorMP
import Derived.Test.YtlkmgccikgnaeaaGreatDoorMT
set_option linter.unusedVariables false
set_option linter.unusedSimpArgs false
set_option maxRecDepth 100000
set_option maxHeartbeats 16000000
namespace Go.Proofs.YtlkmgccikgnaeaaGreatDoor.Ab
open Go Go.RowKit
theorem Wc (n:Int) (a:AX) (h:Ap a=0):A8 Tryz.prog D 47 [.int .i64 n,askA a] ⟨.sl 1 ((Rb n a).map Ac),[]⟩:=by
 have hok:Cl Tryz.prog D (Ao [Fz,FC,FD]):=Ar _
 have g1:=Ag (T:=[Fz,FC,FD]) (E:=Fz) (i:=0) rfl (by decide) (a) (h)
 have g2:=Ag (T:=[Fz,FC,FD]) (E:=FC) (i:=1) rfl (by decide) (a) (Ac2 h)
 have g3:=Ag (T:=[Fz,FC,FD]) (E:=FD) (i:=2) rfl (by decide) (a) (Ac3 h)
 generalize Ao [Fz,FC,FD]=G at *
 dsimp only[Fz] at g1
 dsimp only[FC] at g2
 dsimp only[FD] at g3
 rw[Y7 h] at g2
 unfold Rb
 clear h
 generalize Br (Jf a)=x1 at *
 generalize GH (GX a)=x2 at *
 generalize KO a=x3 at *
 obtain ⟨ak,aq,an,⟨ap,ab⟩⟩:=a
 simp only[askA] at g1 g2 g3
 simp only[askA]
 refine Bx (G:=G) (rs:=[(4,none)]) hok Tryz.func47 Tryz.results47 Tryz.ntmps47 (fun _=> {}) fun X hP hD hG' hX=> ?_
 simp only[AU,Bz]
 by_cases h1:n=1
 ·have e1:(n==1)=true:=by simp[h1]
  rw[if_pos h1]
  simp (disch:=omega) only[go_sem,hD,hG',e1,g1,Aa]
  (repeat (with_reducible refine aI ?_))
  refine Aj [4105] [] (by simp) rfl rfl rfl ?_ ?_ <;> simp only[go_sem]
 have e1:(n==1)=false:=by simp[h1]
 rw[if_neg h1]
 by_cases h2:n=2
 ·have e2:(n==2)=true:=by simp[h2]
  rw[if_pos h2]
  simp (disch:=omega) only[go_sem,hD,hG',e1,e2,g2,Aa]
  (repeat (with_reducible refine aI ?_))
  refine Aj [] [] (by simp) rfl rfl rfl ?_ ?_ <;> simp only[go_sem]
 have e2:(n==2)=false:=by simp[h2]
 rw[if_neg h2]
 simp (disch:=omega) only[go_sem,hD,hG',e1,e2,g3,Aa]
 (repeat (with_reducible refine aI ?_))
 refine Aj [] [] (by simp) rfl rfl rfl ?_ ?_ <;> simp only[go_sem]
def C5:BH Tryz.prog D:=⟨47,Int×AX,fun x=> [.int .i64 x.1,askA x.2],fun x=> Ap x.2=0,fun x=> ⟨.sl 1 ((Rb x.1 x.2).map Ac),[]⟩,fun x y _ _ h=> by
 obtain ⟨a,b⟩:=x
 obtain ⟨a',b'⟩:=y
 simp only[List.cons.injEq,AV.int.injEq,true_and,and_true] at h
 rw[h.1,Cv h.2],fun x h=> Wc x.1 x.2 h⟩
theorem Wj (n:Int) (a:A0) (h:Am a=0):A8 Tryz.prog D 48 [.int .i64 n,sayA a] ⟨.sl 1 ((Rc n a).map Ac),[]⟩:=by
 have hok:Cl Tryz.prog D (Ao [FK,FI,FJ]):=Ar _
 have g1:=Ag (T:=[FK,FI,FJ]) (E:=FK) (i:=0) rfl (by decide) (a) (h)
 have g2:=Ag (T:=[FK,FI,FJ]) (E:=FI) (i:=1) rfl (by decide) (a) (Ac4 h)
 have g3:=Ag (T:=[FK,FI,FJ]) (E:=FJ) (i:=2) rfl (by decide) (a) (Ac5 h)
 generalize Ao [FK,FI,FJ]=G at *
 dsimp only[FK] at g1
 dsimp only[FI] at g2
 dsimp only[FJ] at g3
 rw[Zc h] at g2
 unfold Rc
 clear h
 generalize Br (JG a)=x1 at *
 generalize GH (Ht a)=x2 at *
 generalize Kd a=x3 at *
 obtain ⟨sk,sn,sm,se,⟨ap,ab⟩⟩:=a
 simp only[sayA] at g1 g2 g3
 simp only[sayA]
 refine Bx (G:=G) (rs:=[(4,none)]) hok Tryz.func48 Tryz.results48 Tryz.ntmps48 (fun _=> {}) fun X hP hD hG' hX=> ?_
 simp only[AU,Bz]
 by_cases h1:n=1
 ·have e1:(n==1)=true:=by simp[h1]
  rw[if_pos h1]
  simp (disch:=omega) only[go_sem,hD,hG',e1,g1,Aa]
  (repeat (with_reducible refine aI ?_))
  refine Aj [4105] [] (by simp) rfl rfl rfl ?_ ?_ <;> simp only[go_sem]
 have e1:(n==1)=false:=by simp[h1]
 rw[if_neg h1]
 by_cases h2:n=2
 ·have e2:(n==2)=true:=by simp[h2]
  rw[if_pos h2]
  simp (disch:=omega) only[go_sem,hD,hG',e1,e2,g2,Aa]
  (repeat (with_reducible refine aI ?_))
  refine Aj [] [] (by simp) rfl rfl rfl ?_ ?_ <;> simp only[go_sem]
 have e2:(n==2)=false:=by simp[h2]
 rw[if_neg h2]
 simp (disch:=omega) only[go_sem,hD,hG',e1,e2,g3,Aa]
 (repeat (with_reducible refine aI ?_))
 refine Aj [] [] (by simp) rfl rfl rfl ?_ ?_ <;> simp only[go_sem]
def C6:BH Tryz.prog D:=⟨48,Int×A0,fun x=> [.int .i64 x.1,sayA x.2],fun x=> Am x.2=0,fun x=> ⟨.sl 1 ((Rc x.1 x.2).map Ac),[]⟩,fun x y _ _ h=> by
 obtain ⟨a,b⟩:=x
 obtain ⟨a',b'⟩:=y
 simp only[List.cons.injEq,AV.int.injEq,true_and,and_true] at h
 rw[h.1,CJ h.2],fun x h=> Wj x.1 x.2 h⟩
def fE (n:Int):Nat:=if n=1 then 86 else if n=2 then 87 else 88
def fS (n:Int):Nat:=if n=1 then 90 else if n=2 then 91 else 92
theorem Yf (n:Int) (b:Wd) (most:Int) (hb:b.length≤4194304):A8 Tryz.prog D 49 [.int .i64 n,.sl 1 (b.map Ac),.int .i64 most] ⟨.tup [.sl 5 ((C4 n b most).1.map Cm),.sl 1 ((C4 n b most).2.1.map Ac),.int .i64 (C4 n b most).2.2],[]⟩:=by
 have hok:Cl Tryz.prog D (Ao [FA,FE,FG]):=Ar _
 have g1:=fun (c:Wd) (h:c.length≤4194304)=> Ag (T:=[FA,FE,FG]) (E:=FA) (i:=0) rfl (by decide) (c) (h)
 have g2:=fun (c:Wd) (h:c.length≤4194304)=> Ag (T:=[FA,FE,FG]) (E:=FE) (i:=1) rfl (by decide) (c) (by show c.length≤16777216;omega)
 have g3:=fun (c:Wd) (h:c.length≤4194304)=> Ag (T:=[FA,FE,FG]) (E:=FG) (i:=2) rfl (by decide) (c) (by show c.length≤16777216;omega)
 generalize Ao [FA,FE,FG]=G at *
 dsimp only[FA] at g1
 dsimp only[FE] at g2
 dsimp only[FG] at g3
 have hcon:∀r,r=C4 n b most→A8 Tryz.prog D 49 [.int .i64 n,.sl 1 (b.map Ac),.int .i64 most] ⟨.tup [.sl 5 (r.1.map Cm),.sl 1 (r.2.1.map Ac),.int .i64 r.2.2],[]⟩:=by
  intro r hr
  refine Bx (G:=G) (rs:=[(6,none),(7,none),(8,none)]) hok Tryz.func49 Tryz.results49 Tryz.ntmps49 (fun _=> {}) fun X hP hD hG' hX=> ?_
  simp only[AU,Bz]
  by_cases hn:isT n
  case neg=>
   have e1:(n==1)=false:=by rw[beq_eq_false_iff_ne];exact fun h=> hn (.inl h)
   have e2:(n==2)=false:=by rw[beq_eq_false_iff_ne];exact fun h=> hn (.inr (.inl h))
   have e3:(n==3)=false:=by rw[beq_eq_false_iff_ne];exact fun h=> hn (.inr (.inr h))
   have hr:r=([],[],1):=by rw[hr];unfold C4;rw[if_neg hn]
   have h13:n < 1∨3 < n:=by
    have a1:n≠1:=fun h=> hn (.inl h)
    have a2:n≠2:=fun h=> hn (.inr (.inl h))
    have a3:n≠3:=fun h=> hn (.inr (.inr h))
    omega
   have dn:(if n < 1 then true else decide (n > 3))=true:=by
    split
    ·rfl
    ·exact decide_eq_true (by omega)
   subst hr
   simp only[List.map_nil]
   simp (disch:=omega) only[go_sem,hD,hG',Aa]
   refine Tr.loop (ι:=Unit) (fun _=> True) (fun _=> {nt:=65,tm:=[(0,.int .i64 n),(2,.int .i64 most),(9,.nils)],bl:=[]}) (fun _=> 0) ()
    ⟨trivial,AG hD [] rfl rfl (by simp only[go_sem]) (by simp only[go_sem])⟩ ?_
   rintro _ _
   refine Al hX (fun _=> {}) _ _ _ ?_
   simp (disch:=omega) only[go_sem,hD,hG',Aa]
   refine Ai (fun h=> ?_) (fun h=> ?_)
   ·simp (disch:=omega) only[go_sem,hD,hG',e1,e2,e3,Aa]
    (repeat (with_reducible refine aI ?_))
    refine Aj [] [] (by simp) rfl rfl rfl ?_ ?_ <;> simp only[go_sem]
   ·simp (disch:=omega) only[go_sem,hD,hG',Aa]
    refine Au.mk [] ?_
    simp (disch:=omega) only[go_sem,hD,hG',dn,Aa]
    (repeat (with_reducible refine aI ?_))
    refine Aj [] [] (by simp) rfl rfl rfl ?_ ?_ <;> simp only[go_sem]
  have gT:∀c:Wd,c.length≤4194304→G (fE n) [.sl 1 (c.map Ac)]=some ⟨.tup [.agg (Cm (Fl n c).1),.int .i64 (Fl n c).2.1,.int .i64 (Fl n c).2.2],[]⟩:=fun c h=> by
   unfold fE Fl
   rcases hn with rfl | rfl | rfl
   ·exact g1 c h
   ·exact g2 c h
   ·exact g3 c h
  have hTr:=KH n
  have hr:r=DN (Fl n) (b.length+1) (most) b:=by rw[hr];unfold C4;rw[if_pos hn]
  clear g1 g2 g3
  have dn1:decide (n < 1)=false:=by rcases hn with h | h | h <;> simp[h]
  have dn3:decide (n > 3)=false:=by rcases hn with h | h | h <;> simp[h]
  simp (disch:=omega) only[go_sem,hD,hG',Aa]
  refine Tr.loop (ι:=Nat×List AX×Wd) (fun x=> x.2.2.length≤4194304∧x.2.2.length < x.1∧x.2.1.length+x.2.2.length≤b.length∧r=(x.2.1++(DN (Fl n) x.1 (most - x.2.1.length) x.2.2).1,(DN (Fl n) x.1 (most - x.2.1.length) x.2.2).2)) (fun x=> {nt:=65,tm:=[(0,.int .i64 n),(1,.sl 1 (x.2.2.map Ac)),(2,.int .i64 most),(9,.os 5000)],bl:=[(5000,some (.rows 48 5 (x.2.1.map Cm)))]}) (fun x=> x.1) (b.length+1,[],b)
   ⟨⟨hb,by simp,by simp,by simp[hr]⟩,AG hD [] rfl rfl (by simp only[go_sem];try simp) (by simp only[go_sem];try simp)⟩ ?_
  rintro ⟨f,os,c⟩ ⟨hc,hf,ho,hinv⟩
  simp only at hc hf ho hinv
  clear hr
  refine Al hX (fun _=> {}) _ _ _ ?_
  obtain ⟨f,rfl⟩:∃k,f=k+1:=⟨f - 1,by omega⟩
  rw[DN] at hinv
  have gc:=gT c hc
  have hrt:=hTr c
  generalize Fl n c=t at *
  obtain ⟨⟨t1,t2,t3,⟨t4,t5⟩⟩,tk,te⟩:=t
  simp only at hinv gc hrt
  simp only[Cm] at gc
  have htk:List.drop tk.toNat (List.take ((c.length:Nat):Int).toNat c)=c.drop tk.toNat:=by rw[Int.toNat_natCast,List.take_length]
  simp (disch:=omega) only[go_sem,hD,hG',Aa]
  refine Ai (fun h=> ?_) (fun h=> ?_)
  ·rw[decide_eq_true_eq] at h
   rw[if_neg (by omega)] at hinv
   rcases (show n=1∨n=2∨n=3 from hn) with h1 | h1 | h1
   all_goals
    subst h1
    simp only[fE,reduceIte,Int.reduceEq] at gc
    by_cases h9:te=9
    ·have d9:(te==9)=true:=by simp[h9]
     rw[if_pos h9] at hinv
     subst hinv
     simp only[List.append_nil]
     simp (disch:=omega) only[go_sem,hD,hG',gc,d9,Int.reduceBEq,Aa]
     (repeat (with_reducible refine aI ?_))
     refine Au.mk [] ?_
     simp (disch:=omega) only[go_sem,hD,hG',Int.reduceLT,Int.reduceGT,Aa]
     (repeat (with_reducible refine aI ?_))
     refine Aj [5000] [] (by simp) rfl rfl rfl ?_ ?_ <;> simp only[go_sem]
    have d9:(te==9)=false:=by simp[h9]
    rw[if_neg h9] at hinv
    by_cases h0:te=0
    ·have d0:(te !=0)=false:=by simp[h0]
     rw[if_neg (by simpa using h0)] at hinv
     obtain ⟨_,_,k1,k2⟩ | hk:=hrt
     ·simp (disch:=omega) only[go_sem,hD,hG',gc,d9,d0,htk,Int.reduceBEq,Aa]
      (repeat (with_reducible refine aI ?_))
      refine ⟨(f,os++[⟨t1,t2,t3,⟨t4,t5⟩⟩],c.drop tk.toNat),⟨⟨?_,?_,?_,?_⟩,?_⟩,AG hD [(5000,53)] rfl rfl ?_ ?_⟩
      ·simp only[List.length_drop];omega
      ·simp only[List.length_drop];omega
      ·simp only[List.length_drop,List.length_append,List.length_cons,List.length_nil];omega
      ·rw[hinv]
       simp only[List.length_append,List.length_cons,List.length_nil,List.append_assoc,List.cons_append,List.nil_append]
       rw[show most - ((os.length+(0+1):Nat):Int)=most - (os.length:Int) - 1 by omega]
      ·simp only[List.length_drop];omega
      ·simp only[go_sem]
       try simp
      ·simp only[go_sem]
       try simp[Cm]
     ·exact absurd h0 hk.1
    ·have d0:(te !=0)=true:=by simp[h0]
     rw[if_pos (by simpa using h0)] at hinv
     subst hinv
     simp only[List.append_nil]
     simp (disch:=omega) only[go_sem,hD,hG',gc,d9,d0,Int.reduceBEq,Aa]
     (repeat (with_reducible refine aI ?_))
     refine Aj [5000] [] (by simp) rfl rfl rfl ?_ ?_ <;> simp only[go_sem]
  ·rw[decide_eq_false_iff_not] at h
   rw[if_pos (by omega)] at hinv
   subst hinv
   simp only[List.append_nil]
   simp (disch:=omega) only[go_sem,hD,hG',Aa]
   (repeat (with_reducible refine aI ?_))
   refine Au.mk [] ?_
   simp (disch:=omega) only[go_sem,hD,hG',dn1,dn3,Aa]
   (repeat (with_reducible refine aI ?_))
   refine Aj [5000] [] (by simp) rfl rfl rfl ?_ ?_ <;> simp only[go_sem]
 exact hcon _ rfl
def Es:BH Tryz.prog D:=⟨49,Int×Wd×Int,fun x=> [.int .i64 x.1,.sl 1 (x.2.1.map Ac),.int .i64 x.2.2],fun x=> x.2.1.length≤4194304,fun x=> ⟨.tup [.sl 5 ((C4 x.1 x.2.1 x.2.2).1.map Cm),.sl 1 ((C4 x.1 x.2.1 x.2.2).2.1.map Ac),.int .i64 (C4 x.1 x.2.1 x.2.2).2.2],[]⟩,fun x y _ _ h=> by
 obtain ⟨n,b,m⟩:=x
 obtain ⟨n',b',m'⟩:=y
 simp only[List.cons.injEq,AV.int.injEq,AV.sl.injEq,true_and,and_true] at h
 rw[h.1,AN h.2.1,h.2.2],fun x h=> Yf x.1 x.2.1 x.2.2 h⟩
theorem Ym (n:Int) (b:Wd) (hb:b.length≤4194304):A8 Tryz.prog D 51 [.int .i64 n,.sl 1 (b.map Ac)] ⟨.tup [.sl 6 ((C8 n b).1.map Cp),.sl 1 ((C8 n b).2.1.map Ac),.int .i64 (C8 n b).2.2],[]⟩:=by
 have hok:Cl Tryz.prog D (Ao [FB,FF,FH]):=Ar _
 have g1:=fun (c:Wd) (h:c.length≤4194304)=> Ag (T:=[FB,FF,FH]) (E:=FB) (i:=0) rfl (by decide) (c) (h)
 have g2:=fun (c:Wd) (h:c.length≤4194304)=> Ag (T:=[FB,FF,FH]) (E:=FF) (i:=1) rfl (by decide) (c) (by show c.length≤16777216;omega)
 have g3:=fun (c:Wd) (h:c.length≤4194304)=> Ag (T:=[FB,FF,FH]) (E:=FH) (i:=2) rfl (by decide) (c) (by show c.length≤16777216;omega)
 generalize Ao [FB,FF,FH]=G at *
 dsimp only[FB] at g1
 dsimp only[FF] at g2
 dsimp only[FH] at g3
 have hcon:∀r,r=C8 n b→A8 Tryz.prog D 51 [.int .i64 n,.sl 1 (b.map Ac)] ⟨.tup [.sl 6 (r.1.map Cp),.sl 1 (r.2.1.map Ac),.int .i64 r.2.2],[]⟩:=by
  intro r hr
  refine Bx (G:=G) (rs:=[(4,none),(5,none),(6,none)]) hok Tryz.func51 Tryz.results51 Tryz.ntmps51 (fun _=> {}) fun X hP hD hG' hX=> ?_
  simp only[AU,Bz]
  by_cases hn:isT n
  case neg=>
   have e1:(n==1)=false:=by rw[beq_eq_false_iff_ne];exact fun h=> hn (.inl h)
   have e2:(n==2)=false:=by rw[beq_eq_false_iff_ne];exact fun h=> hn (.inr (.inl h))
   have e3:(n==3)=false:=by rw[beq_eq_false_iff_ne];exact fun h=> hn (.inr (.inr h))
   have hr:r=([],[],1):=by rw[hr];unfold C8;rw[if_neg hn]
   subst hr
   simp only[List.map_nil]
   simp (disch:=omega) only[go_sem,hD,hG',Aa]
   refine Tr.loop (ι:=Unit) (fun _=> True) (fun _=> {nt:=53,tm:=[(0,.int .i64 n),(7,.nils)],bl:=[]}) (fun _=> 0) ()
    ⟨trivial,AG hD [] rfl rfl (by simp only[go_sem]) (by simp only[go_sem])⟩ ?_
   rintro _ _
   refine Al hX (fun _=> {}) _ _ _ ?_
   simp (disch:=omega) only[go_sem,hD,hG',e1,e2,e3,Aa]
   (repeat (with_reducible refine aI ?_))
   refine Aj [] [] (by simp) rfl rfl rfl ?_ ?_ <;> simp only[go_sem]
  have gT:∀c:Wd,c.length≤4194304→G (fS n) [.sl 1 (c.map Ac)]=some ⟨.tup [.agg (Cp (Fm n c).1),.int .i64 (Fm n c).2.1,.int .i64 (Fm n c).2.2],[]⟩:=fun c h=> by
   unfold fS Fm
   rcases hn with rfl | rfl | rfl
   ·exact g1 c h
   ·exact g2 c h
   ·exact g3 c h
  have hTr:=KI n
  have hr:r=DN (Fm n) (b.length+1) ((b.length+1:Int)) b:=by rw[hr];unfold C8;rw[if_pos hn]
  clear g1 g2 g3
  simp (disch:=omega) only[go_sem,hD,hG',Aa]
  refine Tr.loop (ι:=Nat×List A0×Wd) (fun x=> x.2.2.length≤4194304∧x.2.2.length < x.1∧x.2.1.length+x.2.2.length≤b.length∧r=(x.2.1++(DN (Fm n) x.1 ((b.length+1:Int) - x.2.1.length) x.2.2).1,(DN (Fm n) x.1 ((b.length+1:Int) - x.2.1.length) x.2.2).2)) (fun x=> {nt:=53,tm:=[(0,.int .i64 n),(1,.sl 1 (x.2.2.map Ac)),(7,.os 5000)],bl:=[(5000,some (.rows 53 6 (x.2.1.map Cp)))]}) (fun x=> x.1) (b.length+1,[],b)
   ⟨⟨hb,by simp,by simp,by simp[hr]⟩,AG hD [] rfl rfl (by simp only[go_sem];try simp) (by simp only[go_sem];try simp)⟩ ?_
  rintro ⟨f,os,c⟩ ⟨hc,hf,ho,hinv⟩
  simp only at hc hf ho hinv
  clear hr
  refine Al hX (fun _=> {}) _ _ _ ?_
  obtain ⟨f,rfl⟩:∃k,f=k+1:=⟨f - 1,by omega⟩
  rw[DN] at hinv
  have gc:=gT c hc
  have hrt:=hTr c
  generalize Fm n c=t at *
  obtain ⟨⟨t1,t2,t3,t6,⟨t4,t5⟩⟩,tk,te⟩:=t
  simp only at hinv gc hrt
  simp only[Cp] at gc
  have htk:List.drop tk.toNat (List.take ((c.length:Nat):Int).toNat c)=c.drop tk.toNat:=by rw[Int.toNat_natCast,List.take_length]
  rw[if_neg (by omega)] at hinv
  rcases (show n=1∨n=2∨n=3 from hn) with h1 | h1 | h1
  all_goals
   subst h1
   simp only[fS,reduceIte,Int.reduceEq] at gc
   by_cases h9:te=9
   ·have d9:(te==9)=true:=by simp[h9]
    rw[if_pos h9] at hinv
    subst hinv
    simp only[List.append_nil]
    simp (disch:=omega) only[go_sem,hD,hG',gc,d9,Int.reduceBEq,Aa]
    (repeat (with_reducible refine aI ?_))
    refine Aj [5000] [] (by simp) rfl rfl rfl ?_ ?_ <;> simp only[go_sem]
   have d9:(te==9)=false:=by simp[h9]
   rw[if_neg h9] at hinv
   by_cases h0:te=0
   ·have d0:(te !=0)=false:=by simp[h0]
    rw[if_neg (by simpa using h0)] at hinv
    obtain ⟨_,_,k1,k2⟩ | hk:=hrt
    ·simp (disch:=omega) only[go_sem,hD,hG',gc,d9,d0,htk,Int.reduceBEq,Aa]
     (repeat (with_reducible refine aI ?_))
     refine ⟨(f,os++[⟨t1,t2,t3,t6,⟨t4,t5⟩⟩],c.drop tk.toNat),⟨⟨?_,?_,?_,?_⟩,?_⟩,AG hD [(5000,49)] rfl rfl ?_ ?_⟩
     ·simp only[List.length_drop];omega
     ·simp only[List.length_drop];omega
     ·simp only[List.length_drop,List.length_append,List.length_cons,List.length_nil];omega
     ·rw[hinv]
      simp only[List.length_append,List.length_cons,List.length_nil,List.append_assoc,List.cons_append,List.nil_append]
      rw[show ((b.length:Int)+1) - ((os.length+(0+1):Nat):Int)=((b.length:Int)+1) - (os.length:Int) - 1 by omega]
     ·simp only[List.length_drop];omega
     ·simp only[go_sem]
      try simp
     ·simp only[go_sem]
      try simp[Cp]
    ·exact absurd h0 hk.1
   ·have d0:(te !=0)=true:=by simp[h0]
    rw[if_pos (by simpa using h0)] at hinv
    subst hinv
    simp only[List.append_nil]
    simp (disch:=omega) only[go_sem,hD,hG',gc,d9,d0,Int.reduceBEq,Aa]
    (repeat (with_reducible refine aI ?_))
    refine Aj [5000] [] (by simp) rfl rfl rfl ?_ ?_ <;> simp only[go_sem]
 exact hcon _ rfl
def Eu:BH Tryz.prog D:=⟨51,Int×Wd,fun x=> [.int .i64 x.1,.sl 1 (x.2.map Ac)],fun x=> x.2.length≤4194304,fun x=> ⟨.tup [.sl 6 ((C8 x.1 x.2).1.map Cp),.sl 1 ((C8 x.1 x.2).2.1.map Ac),.int .i64 (C8 x.1 x.2).2.2],[]⟩,fun x y _ _ h=> by
 obtain ⟨n,b⟩:=x
 obtain ⟨n',b'⟩:=y
 simp only[List.cons.injEq,AV.int.injEq,AV.sl.injEq,true_and,and_true] at h
 rw[h.1,AN h.2],fun x h=> Ym x.1 x.2 h⟩
theorem Aa0 {l:List A0} {i:Nat} (h:i < l.length):(l.map Cp).getD i []=Cp (l.getD i AE):=by
 simp[List.getD_eq_getElem?_getD,h]
theorem ST (l m:List A0) (hl:l.length≤16777216) (fl:∀a∈l,a.note.Fits) (fm:∀a∈m,a.note.Fits):A8 Tryz.prog D 37 [.sl 6 (l.map Cp),.sl 6 (m.map Cp)] ⟨.bool (decide (l=m)),[]⟩:=by
 have hok:Cl Tryz.prog D (Ao [Jm]):=Ar _
 have g1:=fun (a b:A0) (h1:a.note.Fits) (h2:b.note.Fits)=> Ag (T:=[Jm]) (E:=Jm) (i:=0) rfl (by decide) ((a,b)) (⟨h1,h2⟩)
 generalize Ao [Jm]=G at *
 dsimp only[Jm] at g1
 have hcon:∀r,r=decide (l=m)→A8 Tryz.prog D 37 [.sl 6 (l.map Cp),.sl 6 (m.map Cp)] ⟨.bool r,[]⟩:=by
  intro r hr
  refine Bx (G:=G) (rs:=[(4,none)]) hok Tryz.func37 Tryz.results37 Tryz.ntmps37 (fun _=> {}) fun X hP hD hG' hX=> ?_
  simp only[AU,Bz]
  by_cases hlm:l.length=m.length
  case neg=>
   have d:(((l.length:Nat):Int) !=((m.length:Nat):Int))=true:=by simp;omega
   have hr:r=false:=by rw[hr];exact decide_eq_false fun h=> hlm (by rw[h])
   subst hr
   simp (disch:=omega) only[go_sem,hD,hG',d,Aa]
   (repeat (with_reducible refine aI ?_))
   refine Aj [] [] (by simp) rfl rfl rfl ?_ ?_ <;> simp only[go_sem]
  have d:(((l.length:Nat):Int) !=((m.length:Nat):Int))=false:=by simp[hlm]
  simp (disch:=omega) only[go_sem,hD,hG',d,Aa]
  refine Tr.loop (ι:=Nat) (fun i=> i≤l.length∧l.take i=m.take i) (fun i=> {nt:=27,tm:=[(0,.sl 6 (l.map Cp)),(1,.sl 6 (m.map Cp)),(12,.int .i64 l.length),(13,.int .i64 i)],bl:=[]}) (fun i=> l.length - i) 0
   ⟨⟨Nat.zero_le _,by simp⟩,AG hD [] rfl rfl (by simp only[go_sem];try simp) (by simp only[go_sem])⟩ ?_
  rintro i ⟨hi,hit⟩
  refine Al hX (fun _=> {}) _ _ _ ?_
  simp (disch:=omega) only[go_sem,hD,hG',Aa]
  refine Ai (fun h=> ?_) (fun h=> ?_)
  ·rw[decide_eq_true_eq] at h
   have hi1:i < l.length:=by omega
   have hi2:i < m.length:=by omega
   have h1:=Aa0 hi1
   have h2:=Aa0 hi2
   have gg:=g1 (l.getD i AE) (m.getD i AE) (fl _ (Dr hi1)) (fm _ (Dr hi2))
   have ht:l.take (i+1)=l.take i++[l.getD i AE]:=by
    rw[List.take_succ_eq_append_getElem hi1]
    simp[hi1]
   have ht2:m.take (i+1)=m.take i++[m.getD i AE]:=by
    rw[List.take_succ_eq_append_getElem hi2]
    simp[hi2]
   have hne:¬l.getD i AE=m.getD i AE→r=false:=fun hn=> by
    rw[hr]
    exact decide_eq_false fun h=> hn (by rw[h])
   generalize l.getD i AE=a at *
   generalize m.getD i AE=c at *
   by_cases hac:a=c
   ·subst hac
    rw[decide_eq_true rfl] at gg
    obtain ⟨k,q,n,e,⟨ps,bs⟩⟩:=a
    simp only[Cp,sayA] at h1 h2 gg
    simp (disch:=omega) only[go_sem,hD,hG',h1,h2,gg,Aa]
    (repeat (with_reducible refine aI ?_))
    refine ⟨i+1,⟨⟨by omega,by rw[ht,ht2,hit]⟩,by omega⟩,AG hD [] rfl rfl ?_ ?_⟩ <;> simp only[go_sem]
    all_goals (try simp)
   ·rw[decide_eq_false hac] at gg
    have hr:=hne hac
    subst hr
    obtain ⟨k,q,n,e,⟨ps,bs⟩⟩:=a
    obtain ⟨k',q',n',e',⟨ps',bs'⟩⟩:=c
    simp only[Cp,sayA] at h1 h2 gg
    simp (disch:=omega) only[go_sem,hD,hG',h1,h2,gg,Aa]
    (repeat (with_reducible refine aI ?_))
    refine Aj [] [] (by simp) rfl rfl rfl ?_ ?_ <;> simp only[go_sem]
  ·rw[decide_eq_false_iff_not] at h
   have hie:i=l.length:=by omega
   subst hie
   rw[List.take_length,hlm,List.take_length] at hit
   have hr:r=true:=by rw[hr];exact decide_eq_true hit
   subst hr
   simp (disch:=omega) only[go_sem,hD,hG',Aa]
   (repeat (with_reducible refine aI ?_))
   refine Aj [] [] (by simp) rfl rfl rfl ?_ ?_ <;> simp only[go_sem]
 exact hcon _ rfl
def B8:BH Tryz.prog D:=⟨37,List A0×List A0,fun x=> [.sl 6 (x.1.map Cp),.sl 6 (x.2.map Cp)],fun x=> x.1.length≤16777216∧(∀a∈x.1,a.note.Fits)∧∀a∈x.2,a.note.Fits,fun x=> ⟨.bool (decide (x.1=x.2)),[]⟩,fun x y _ _ h=> by
 obtain ⟨a,b⟩:=x
 obtain ⟨a',b'⟩:=y
 have hinj:∀(u v:List A0),u.map Cp=v.map Cp→u=v:=fun u v h=> List.map_inj_right (fun p q h=> CJ (by rw[XQ,XQ,h])) |>.1 h
 simp only[List.cons.injEq,AV.sl.injEq,true_and,and_true] at h
 rw[hinj _ _ h.1,hinj _ _ h.2],fun x h=> ST x.1 x.2 h.1 h.2.1 h.2.2⟩
theorem P8 {T:Wd→A0×Int×Int} (hT:∀b,(T b).2.2=0→Am (T b).1=0):∀(f:Nat) (most:Int) (b:Wd),(∀a∈(DN T f most b).1,Am a=0)∧(DN T f most b).1.length≤f
 | 0,_,b=> ⟨fun a h=> (by cases h),Nat.le_refl _⟩
 | f+1,most,b=> by
  rw[DN]
  split
  ·exact ⟨fun a h=> (by cases h),Nat.zero_le _⟩
  ·split
   ·exact ⟨fun a h=> (by cases h),Nat.zero_le _⟩
   ·split
    ·exact ⟨fun a h=> (by cases h),Nat.zero_le _⟩
    ·rename_i h3
     obtain ⟨i1,i2⟩:=P8 hT f (most - 1) (b.drop (T b).2.1.toNat)
     refine ⟨fun a ha=> ?_,?_⟩
     ·rcases List.mem_cons.1 ha with rfl | ha
      ·exact hT b (by simpa using h3)
      ·exact i1 a ha
     ·simp only[List.length_cons];omega
theorem WA (n:Int) (b:Wd):(∀a∈(C8 n b).1,a.note.Fits)∧(C8 n b).1.length≤b.length+1:=by
 unfold C8
 split
 ·obtain ⟨h1,h2⟩:=P8 (T:=Fm n) (fun b h=> by
   rcases KI n b with hr | hr
   ·exact hr.2.1
   ·exact absurd h hr.1) (b.length+1) (b.length+1) b
  exact ⟨fun a ha=> Aa2 (h1 a ha),h2⟩
 ·exact ⟨fun a h=> (by cases h),Nat.zero_le _⟩
theorem con_gatetells (n:Int) (a:AX) (s:A0) (b:Wd) (most:Int) (fa:a.Fits) (fs:s.note.Fits) (hb:b.length≤4194304):A8 Tryz.prog D 15 [.int .i64 n,askA a,sayA s,.sl 1 (b.map Ac),.int .i64 most] ⟨.bool true,[]⟩:=by
 have ga:=Wz n b most
 have gs:=WA n b
 have hok:Cl Tryz.prog D (Ao [BE,BF,Ep,Er,AK,C5,AL,C6,Es,B7,Eu,B8]):=Ar _
 have g1:=Ag (T:=[BE,BF,Ep,Er,AK,C5,AL,C6,Es,B7,Eu,B8]) (E:=BE) (i:=0) rfl (by decide) ((n,a)) (fa)
 have g2:=Ag (T:=[BE,BF,Ep,Er,AK,C5,AL,C6,Es,B7,Eu,B8]) (E:=BF) (i:=1) rfl (by decide) ((n,s)) (fs)
 have g3:=Ag (T:=[BE,BF,Ep,Er,AK,C5,AL,C6,Es,B7,Eu,B8]) (E:=Ep) (i:=2) rfl (by decide) ((n,b,most)) (hb)
 have g4:=Ag (T:=[BE,BF,Ep,Er,AK,C5,AL,C6,Es,B7,Eu,B8]) (E:=Er) (i:=3) rfl (by decide) ((n,b)) (hb)
 have g5:=Ag (T:=[BE,BF,Ep,Er,AK,C5,AL,C6,Es,B7,Eu,B8]) (E:=AK) (i:=4) rfl (by decide) (a) (fa)
 have g6:=fun (h:Ap a=0)=> Ag (T:=[BE,BF,Ep,Er,AK,C5,AL,C6,Es,B7,Eu,B8]) (E:=C5) (i:=5) rfl (by decide) ((n,a)) (h)
 have g7:=Ag (T:=[BE,BF,Ep,Er,AK,C5,AL,C6,Es,B7,Eu,B8]) (E:=AL) (i:=6) rfl (by decide) (s) (fs)
 have g8:=fun (h:Am s=0)=> Ag (T:=[BE,BF,Ep,Er,AK,C5,AL,C6,Es,B7,Eu,B8]) (E:=C6) (i:=7) rfl (by decide) ((n,s)) (h)
 have g9:=Ag (T:=[BE,BF,Ep,Er,AK,C5,AL,C6,Es,B7,Eu,B8]) (E:=Es) (i:=8) rfl (by decide) ((n,b,most)) (hb)
 have g10:=Ag (T:=[BE,BF,Ep,Er,AK,C5,AL,C6,Es,B7,Eu,B8]) (E:=B7) (i:=9) rfl (by decide) (((C4 n b most).1,(C4 n b most).1)) (⟨by have:=ga.2.1;show (C4 n b most).1.length≤_;omega,ga.1,ga.1⟩)
 have g11:=Ag (T:=[BE,BF,Ep,Er,AK,C5,AL,C6,Es,B7,Eu,B8]) (E:=Eu) (i:=10) rfl (by decide) ((n,b)) (hb)
 have g12:=Ag (T:=[BE,BF,Ep,Er,AK,C5,AL,C6,Es,B7,Eu,B8]) (E:=B8) (i:=11) rfl (by decide) (((C8 n b).1,(C8 n b).1)) (⟨by have:=gs.2;show (C8 n b).1.length≤_;omega,gs.1,gs.1⟩)
 generalize Ao [BE,BF,Ep,Er,AK,C5,AL,C6,Es,B7,Eu,B8]=G at *
 dsimp only[BE] at g1
 dsimp only[BF] at g2
 dsimp only[Ep] at g3
 dsimp only[Er] at g4
 dsimp only[AK] at g5
 dsimp only[C5] at g6
 dsimp only[AL] at g7
 dsimp only[C6] at g8
 dsimp only[Es] at g9
 dsimp only[B7] at g10
 dsimp only[Eu] at g11
 dsimp only[B8] at g12
 simp only[decide_true] at g10 g12
 clear ga gs fa fs
 have hcon:∀r,r=true→A8 Tryz.prog D 15 [.int .i64 n,askA a,sayA s,.sl 1 (b.map Ac),.int .i64 most] ⟨.bool r,[]⟩:=by
  intro r hr
  subst hr
  by_cases hn:isT n
  case neg=>
   have h13:n < 1∨3 < n:=by
    have a1:n≠1:=fun h=> hn (.inl h)
    have a2:n≠2:=fun h=> hn (.inr (.inl h))
    have a3:n≠3:=fun h=> hn (.inr (.inr h))
    omega
   have dn:(if n < 1 then true else decide (n > 3))=true:=by
    split
    ·rfl
    ·exact decide_eq_true (by omega)
   have e1:J7 n a=([],1):=by unfold J7;rw[if_neg hn]
   have e2:J8 n s=([],1):=by unfold J8;rw[if_neg hn]
   have e3:C4 n b most=([],[],1):=by unfold C4;rw[if_neg hn]
   have e4:C8 n b=([],[],1):=by unfold C8;rw[if_neg hn]
   rw[e1] at g1
   rw[e2] at g2
   rw[e3] at g3
   rw[e4] at g4
   obtain ⟨ak,aq,an,⟨ap,ab⟩⟩:=a
   obtain ⟨sk,sn,sm,se,⟨sp,sb⟩⟩:=s
   simp only[askA,sayA,List.map_nil] at g1 g2 g3 g4
   have n0:((0:Nat):Int)=0:=rfl
   refine Bx (G:=G) (rs:=[(10,none)]) hok Tryz.func15 Tryz.results15 Tryz.ntmps15 (fun _=> {}) fun X hP hD hG' hX=> ?_
   simp only[AU,Bz,askA,sayA]
   simp (disch:=omega) only[go_sem,hD,hG',g1,g2,Aa]
   (repeat (with_reducible refine aI ?_))
   refine Au.mk [] ?_
   simp (disch:=omega) only[go_sem,hD,hG',dn,g3,g4,Aa]
   (repeat (with_reducible refine aI ?_))
   refine Au.mk [] ?_
   simp (disch:=omega) only[go_sem,hD,hG',Int.reduceBEq,n0,Int.reduceAdd,Aa]
   (repeat (with_reducible refine aI ?_))
   refine Aj [] [] (by simp) rfl rfl rfl ?_ ?_ <;> simp only[go_sem]
  have dn:(if n < 1 then true else decide (n > 3))=false:=by rcases hn with h | h | h <;> simp[h]
  have ea:J7 n a=if Ap a=0 then (Rb n a,0) else ([],Ap a):=by unfold J7;rw[if_pos hn]
  have es:J8 n s=if Am s=0 then (Rc n s,0) else ([],Am s):=by unfold J8;rw[if_pos hn]
  generalize C4 n b most=pa at *
  generalize C8 n b=ps at *
  obtain ⟨p1,p2,p3⟩:=pa
  obtain ⟨q1,q2,q3⟩:=ps
  simp only at g3 g4 g9 g10 g11 g12
  rw[ea] at g1
  rw[es] at g2
  clear ea es
  generalize Rb n a=xa at *
  generalize Rc n s=xs at *
  generalize Ap a=wa at *
  generalize Am s=ws at *
  obtain ⟨ak,aq,an,⟨ap,ab⟩⟩:=a
  obtain ⟨sk,sn,sm,se,⟨sp,sb⟩⟩:=s
  simp only[askA,sayA] at g1 g2 g5 g6 g7 g8
  have n0:((0:Nat):Int)=0:=rfl
  have i0:decide ((0:Int) > 0)=false:=rfl
  by_cases hA:wa=0 <;> by_cases hS:ws=0
  ·have hA1:(wa==0)=true:=by simp[hA]
   have hA2:(wa !=0)=false:=by simp[hA]
   have hS1:(ws==0)=true:=by simp[hS]
   have hS2:(ws !=0)=false:=by simp[hS]
   have g6:=g6 hA
   rw[if_pos hA] at g1
   subst hA
   have g8:=g8 hS
   rw[if_pos hS] at g2
   subst hS
   simp only[List.map_nil] at g1 g2
   refine Bx (G:=G) (rs:=[(10,none)]) hok Tryz.func15 Tryz.results15 Tryz.ntmps15 (fun _=> {}) fun X hP hD hG' hX=> ?_
   simp only[AU,Bz,askA,sayA]
   simp (disch:=omega) only[go_sem,hD,hG',g1,g2,Aa]
   (repeat (with_reducible refine aI ?_))
   refine Au.mk [] ?_
   simp (disch:=omega) only[go_sem,hD,hG',dn,g3,g4,g5,g7,g9,g10,g11,g12,hA1,hA2,hS1,hS2,n0,i0,Int.reduceBEq,Int.reduceBNe,g6,g8,Aa]
   (repeat (with_reducible refine aI ?_))
   refine CP.mk [] (by decide) ?_
   simp (disch:=omega) only[go_sem,hD,hG',g3,g4,g5,g7,g9,g10,g11,g12,hA1,hA2,hS1,hS2,n0,i0,Int.reduceBEq,Int.reduceBNe,g6,g8,Aa]
   (repeat (with_reducible refine aI ?_))
   refine CP.mk [] (by decide) ?_
   simp (disch:=omega) only[go_sem,hD,hG',g3,g4,g5,g7,g9,g10,g11,g12,hA1,hA2,hS1,hS2,n0,i0,Int.reduceBEq,Int.reduceBNe,g6,g8,Aa]
   (repeat (with_reducible refine aI ?_))
   iterate 4 ((try (refine Au.mk [] ?_));(try (simp (disch:=omega) only[go_sem,hD,hG',g3,g4,g5,g7,g9,g10,g11,g12,hA1,hA2,hS1,hS2,n0,i0,Int.reduceBEq,Int.reduceBNe,g6,g8,Aa]));(repeat (with_reducible refine aI ?_)))
   refine Aj [] [] (by simp) rfl rfl rfl ?_ ?_ <;> simp only[go_sem]
  ·have hA1:(wa==0)=true:=by simp[hA]
   have hA2:(wa !=0)=false:=by simp[hA]
   have hS1:(ws==0)=false:=by simp[hS]
   have hS2:(ws !=0)=true:=by simp[hS]
   have g6:=g6 hA
   rw[if_pos hA] at g1
   subst hA
   rw[if_neg hS] at g2
   simp only[List.map_nil] at g1 g2
   refine Bx (G:=G) (rs:=[(10,none)]) hok Tryz.func15 Tryz.results15 Tryz.ntmps15 (fun _=> {}) fun X hP hD hG' hX=> ?_
   simp only[AU,Bz,askA,sayA]
   simp (disch:=omega) only[go_sem,hD,hG',g1,g2,Aa]
   (repeat (with_reducible refine aI ?_))
   refine Au.mk [] ?_
   simp (disch:=omega) only[go_sem,hD,hG',dn,g3,g4,g5,g7,g9,g10,g11,g12,hA1,hA2,hS1,hS2,n0,i0,Int.reduceBEq,Int.reduceBNe,g6,Aa]
   (repeat (with_reducible refine aI ?_))
   refine CP.mk [] (by decide) ?_
   simp (disch:=omega) only[go_sem,hD,hG',g3,g4,g5,g7,g9,g10,g11,g12,hA1,hA2,hS1,hS2,n0,i0,Int.reduceBEq,Int.reduceBNe,g6,Aa]
   (repeat (with_reducible refine aI ?_))
   refine CP.mk [(6,true)] (by decide) ?_
   simp (disch:=omega) only[go_sem,hD,hG',g3,g4,g5,g7,g9,g10,g11,g12,hA1,hA2,hS1,hS2,n0,i0,Int.reduceBEq,Int.reduceBNe,g6,Aa]
   (repeat (with_reducible refine aI ?_))
   iterate 4 ((try (refine Au.mk [] ?_));(try (simp (disch:=omega) only[go_sem,hD,hG',g3,g4,g5,g7,g9,g10,g11,g12,hA1,hA2,hS1,hS2,n0,i0,Int.reduceBEq,Int.reduceBNe,g6,Aa]));(repeat (with_reducible refine aI ?_)))
   refine Aj [] [] (by simp) rfl rfl rfl ?_ ?_ <;> simp only[go_sem]
  ·have hA1:(wa==0)=false:=by simp[hA]
   have hA2:(wa !=0)=true:=by simp[hA]
   have hS1:(ws==0)=true:=by simp[hS]
   have hS2:(ws !=0)=false:=by simp[hS]
   rw[if_neg hA] at g1
   have g8:=g8 hS
   rw[if_pos hS] at g2
   subst hS
   simp only[List.map_nil] at g1 g2
   refine Bx (G:=G) (rs:=[(10,none)]) hok Tryz.func15 Tryz.results15 Tryz.ntmps15 (fun _=> {}) fun X hP hD hG' hX=> ?_
   simp only[AU,Bz,askA,sayA]
   simp (disch:=omega) only[go_sem,hD,hG',g1,g2,Aa]
   (repeat (with_reducible refine aI ?_))
   refine Au.mk [] ?_
   simp (disch:=omega) only[go_sem,hD,hG',dn,g3,g4,g5,g7,g9,g10,g11,g12,hA1,hA2,hS1,hS2,n0,i0,Int.reduceBEq,Int.reduceBNe,g8,Aa]
   (repeat (with_reducible refine aI ?_))
   refine CP.mk [(6,true)] (by decide) ?_
   simp (disch:=omega) only[go_sem,hD,hG',g3,g4,g5,g7,g9,g10,g11,g12,hA1,hA2,hS1,hS2,n0,i0,Int.reduceBEq,Int.reduceBNe,g8,Aa]
   (repeat (with_reducible refine aI ?_))
   refine CP.mk [] (by decide) ?_
   simp (disch:=omega) only[go_sem,hD,hG',g3,g4,g5,g7,g9,g10,g11,g12,hA1,hA2,hS1,hS2,n0,i0,Int.reduceBEq,Int.reduceBNe,g8,Aa]
   (repeat (with_reducible refine aI ?_))
   iterate 4 ((try (refine Au.mk [] ?_));(try (simp (disch:=omega) only[go_sem,hD,hG',g3,g4,g5,g7,g9,g10,g11,g12,hA1,hA2,hS1,hS2,n0,i0,Int.reduceBEq,Int.reduceBNe,g8,Aa]));(repeat (with_reducible refine aI ?_)))
   refine Aj [] [] (by simp) rfl rfl rfl ?_ ?_ <;> simp only[go_sem]
  ·have hA1:(wa==0)=false:=by simp[hA]
   have hA2:(wa !=0)=true:=by simp[hA]
   have hS1:(ws==0)=false:=by simp[hS]
   have hS2:(ws !=0)=true:=by simp[hS]
   rw[if_neg hA] at g1
   rw[if_neg hS] at g2
   simp only[List.map_nil] at g1 g2
   refine Bx (G:=G) (rs:=[(10,none)]) hok Tryz.func15 Tryz.results15 Tryz.ntmps15 (fun _=> {}) fun X hP hD hG' hX=> ?_
   simp only[AU,Bz,askA,sayA]
   simp (disch:=omega) only[go_sem,hD,hG',g1,g2,Aa]
   (repeat (with_reducible refine aI ?_))
   refine Au.mk [] ?_
   simp (disch:=omega) only[go_sem,hD,hG',dn,g3,g4,g5,g7,g9,g10,g11,g12,hA1,hA2,hS1,hS2,n0,i0,Int.reduceBEq,Int.reduceBNe,Aa]
   (repeat (with_reducible refine aI ?_))
   refine CP.mk [(6,true)] (by decide) ?_
   simp (disch:=omega) only[go_sem,hD,hG',g3,g4,g5,g7,g9,g10,g11,g12,hA1,hA2,hS1,hS2,n0,i0,Int.reduceBEq,Int.reduceBNe,Aa]
   (repeat (with_reducible refine aI ?_))
   refine CP.mk [(6,true)] (by decide) ?_
   simp (disch:=omega) only[go_sem,hD,hG',g3,g4,g5,g7,g9,g10,g11,g12,hA1,hA2,hS1,hS2,n0,i0,Int.reduceBEq,Int.reduceBNe,Aa]
   (repeat (with_reducible refine aI ?_))
   iterate 4 ((try (refine Au.mk [] ?_));(try (simp (disch:=omega) only[go_sem,hD,hG',g3,g4,g5,g7,g9,g10,g11,g12,hA1,hA2,hS1,hS2,n0,i0,Int.reduceBEq,Int.reduceBNe,Aa]));(repeat (with_reducible refine aI ?_)))
   refine Aj [] [] (by simp) rfl rfl rfl ?_ ?_ <;> simp only[go_sem]
 exact hcon _ rfl
end Go.Proofs.YtlkmgccikgnaeaaGreatDoor.Ab
