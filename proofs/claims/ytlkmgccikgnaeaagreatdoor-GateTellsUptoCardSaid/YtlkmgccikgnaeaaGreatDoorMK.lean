/-
  Texts of the proof, one behind the other: WbF WbG.
  No condition but those that each theorem names.
-/
import Derived.Test.YtlkmgccikgnaeaaGreatDoorMJ
import Derived.Test.YtlkmgccikgnaeaaGreatDoorMC
import Derived.Test.YtlkmgccikgnaeaaGreatDoorMF
set_option linter.unusedVariables false
set_option linter.unusedSimpArgs false
set_option maxRecDepth 100000
set_option maxHeartbeats 16000000
namespace Go.Proofs.YtlkmgccikgnaeaaGreatDoor.Ab
open Go Go.RowKit
def C7:BH Tryz.prog D:=⟨185,Wd,fun b=> [.sl 1 (b.map Ac)],fun b=> b.length≤16777216,fun b=> ⟨BN (Ca b),[]⟩,fun x y _ _ h=> by
 simp only[List.cons.injEq,AV.sl.injEq,true_and,and_true] at h
 rw[AN h],Wr⟩
theorem IM:∀(l:List Wd) (ps:List AI) (hs:List Wd) (n:Int),(∀w∈l,w.length≤400)→(∀p∈ps,Abf p)→∀x,Ci ps hs n l=some x→(∀p∈x.1,Abf p)∧x.1.length≤ps.length+l.length∧x.2.1.length≤hs.length+l.length
 | [],ps,hs,n,_,hp,x,h=> by
  rw[Ci] at h
  cases h
  exact ⟨hp,by simp,by simp⟩
 | w::r,ps,hs,n,hw,hp,x,h=> by
  have hwl:=hw w (List.mem_cons_self ..)
  have hr:=fun v hv=> hw v (List.mem_cons_of_mem w hv)
  have hc:=Hw w [58,32]
  have ht:=BP (Lib.cut w [58,32]).1 [112,45]
  rw[Ci] at h
  split at h
  ·cases h
  ·split at h
   ·split at h
    ·cases h
    ·have ih:=IM r _ hs n hr (fun p hm=> by
      rcases List.mem_append.1 hm with hm | hm
      ·exact hp p hm
      ·rw[List.mem_singleton.1 hm]
       exact Se _ _ (by omega) (by omega)) x h
     refine ⟨ih.1,?_,?_⟩
     ·have:=ih.2.1
      simp only[List.length_append,List.length_cons,List.length_nil] at this ⊢
      omega
     ·have:=ih.2.2
      simp only[List.length_cons]
      omega
   ·split at h
    ·split at h
     ·cases h
     ·have ih:=IM r ps hs _ hr hp x h
      simp only[List.length_cons]
      exact ⟨ih.1,by omega,by omega⟩
    ·have ih:=IM r ps _ n hr hp x h
     simp only[List.length_append,List.length_cons,List.length_nil] at ih ⊢
     exact ⟨ih.1,by omega,by omega⟩
structure Ab3 (x:P6):Prop where
 n:x.note.Fits
 f:x.first.length≤400
 h:x.heads.length≤401
 w:∀w∈x.heads,w.length≤400
theorem Gl (e:Int):Ab3 (Bn e):=⟨CV,by simp[Bn],by simp[Bn],fun w h=> by cases h⟩
theorem HG:∀(l:List Wd) (ps:List AI) (hs:List Wd) (n:Int),(∀w∈l,w.length≤400)→(∀w∈hs,w.length≤400)→∀x,Ci ps hs n l=some x→∀w∈x.2.1,w.length≤400
 | [],ps,hs,n,_,hh,x,h=> by
  rw[Ci] at h
  cases h
  exact hh
 | w::r,ps,hs,n,hw,hh,x,h=> by
  have hwl:=hw w (List.mem_cons_self ..)
  have hr:=fun v hv=> hw v (List.mem_cons_of_mem w hv)
  rw[Ci] at h
  split at h
  ·cases h
  ·split at h
   ·split at h
    ·cases h
    ·exact HG r _ hs n hr hh x h
   ·split at h
    ·split at h
     ·cases h
     ·exact HG r ps hs _ hr hh x h
    ·exact HG r ps _ n hr (fun v hv=> by
      rcases List.mem_append.1 hv with hv | hv
      ·exact hh v hv
      ·rw[List.mem_singleton.1 hv];exact hwl) x h
theorem JT (b:Wd):Ab3 (Ca b):=by
 obtain ⟨hpne,hpl,hpw⟩:=LH (b:=b)
 unfold Ca
 split
 ·split <;> exact Gl _
 ·generalize FZ b=ls at *
  cases ls with
  | nil=> exact absurd rfl hpne
  | cons w rest=>
   simp only[List.getD_cons_zero,List.tail_cons]
   have hw:=hpw w (List.mem_cons_self ..)
   have hr:=fun v hv=> hpw v (List.mem_cons_of_mem w hv)
   have hf:=IM rest [] [] (-1) hr (by simp)
   have hv:=HG rest [] [] (-1) hr (by simp)
   cases hh:Ci [] [] (-1) rest with
   | none=> exact Gl _
   | some x=>
    have hf:=hf x hh
    have hv:=hv x hh
    obtain ⟨ps,hs,n⟩:=x
    simp only[Cs]
    split
    ·exact Gl _
    ·split
     ·exact Gl _
     ·split
      ·exact Gl _
      ·simp only[List.length_cons,List.length_nil] at hf hpl
       refine ⟨⟨hf.1,?_,?_⟩,hw,?_,hv⟩
       ·simp only;omega
       ·simp only[List.length_drop,List.length_take];omega
       ·simp only;omega
theorem V3 (m:Wd) (N:Nat):∀l:List Wd,(∀w∈l,w.length≤N)→(B2 m l).1.queue.data.toList.length≤N
 | [],_=> Nat.zero_le _
 | [_],_=> Nat.zero_le _
 | [_,_],_=> Nat.zero_le _
 | [a,b,c],h=> by
  have hc:c.length≤N:=h c (by simp)
  simp only[B2]
  split
  ·exact hc
  ·split
   ·exact Nat.zero_le _
   ·exact Nat.zero_le _
 | [a,b,c,d],h=> by
  have hc:c.length≤N:=h c (by simp)
  simp only[B2]
  split
  ·split
   ·exact hc
   ·split
    ·exact hc
    ·exact Nat.zero_le _
  ·exact Nat.zero_le _
 | _::_::_::_::_::_,_=> Nat.zero_le _
theorem P9 (m p:Wd):(Bl m p).1.queue.data.toList.length≤p.length:=by
 unfold Bl
 split
 ·exact Nat.zero_le _
 ·exact V3 m _ _ (E6 [47] (Lib.count p [47]) p)
def Lg:Nat→Lo:=fun id=> match id with | 7=> {uo:=[11],un:=[11],ex:=[10]} | _=> {}
theorem ZV (b:Wd) (hb:b.length≤16777216):A8 Tryz.prog D 127 [.sl 1 (b.map Ac)] ⟨.tup [askA (DL b).1,.int .i64 (DL b).2.1,.int .i64 (DL b).2.2],[]⟩:=by
 have hfit:=JT b
 have hok:Cl Tryz.prog D (Ao [C7,BK,Hy,Co]):=Ar _
 have g1:=Ag (T:=[C7,BK,Hy,Co]) (E:=C7) (i:=0) rfl (by decide) (b) (hb)
 have g2:=fun (w:Wd) (h:w.length≤400)=> Ag (T:=[C7,BK,Hy,Co]) (E:=BK) (i:=1) rfl (by decide) ((w,[32])) (⟨by show w.length < 4294967281;omega,by show 1≤([32]:Wd).length;decide⟩)
 have g3:=fun (m p:Wd) (h1:m.length≤400) (h2:p.length≤400)=> Ag (T:=[C7,BK,Hy,Co]) (E:=Hy) (i:=2) rfl (by decide) ((m,p)) (⟨by show m.length≤1000;omega,by show p.length≤999;omega⟩)
 have g4:=fun (a:AX) (h:a.Fits)=> Ag (T:=[C7,BK,Hy,Co]) (E:=Co) (i:=3) rfl (by decide) ((a,false)) (⟨h,fun h=> (by cases h)⟩)
 generalize Ao [C7,BK,Hy,Co]=G at *
 dsimp only[C7] at g1
 dsimp only[BK] at g2
 dsimp only[Hy] at g3
 dsimp only[Co] at g4
 unfold DL
 generalize Ca b=x at *
 obtain ⟨f,hs,⟨ps,bs⟩,all,err⟩:=x
 obtain ⟨hf1,hf2,hf3,hf4⟩:=hfit
 simp only at hf1 hf2 hf3 hf4
 have g2:=g2 f hf2
 have hsp:=E6 [32] (Lib.count f [32]) f
 have hsp:∀w∈Lib.split f [32],w.length≤400:=fun w hw=> by
  have:=hsp w hw
  omega
 simp only[BN,An] at g1
 have hcon:∀r,r=Ss ⟨f,hs,⟨ps,bs⟩,all,err⟩→A8 Tryz.prog D 127 [.sl 1 (b.map Ac)] ⟨.tup [askA r.1,.int .i64 r.2.1,.int .i64 r.2.2],[]⟩:=by
  intro r hr
  simp only[Ss] at hr
  generalize Lib.split f [32]=l at *
  refine Bx (G:=G) (rs:=[(2,some 48),(3,none),(4,none)]) hok Tryz.func127 Tryz.results127 Tryz.ntmps127 (Lg) fun X hP hD hG' hX=> ?_
  simp only[AU,Bz]
  by_cases he:err=0
  ·have de:(err !=0)=false:=by simp[he]
   rw[if_neg (by simpa using he)] at hr
   by_cases h3:l.length=3
   ·match l,h3,hsp,hr with
    | [m,p,v],_,hsp,hr=>
    have g3:=g3 m p (hsp m (by simp)) (hsp p (by simp))
    have n3:((3:Nat):Int)=3:=rfl
    have n0:((0:Nat):Int)=0:=rfl
    have z0:(0:Int).toNat=0:=rfl
    have z1:(1:Int).toNat=1:=rfl
    have z2:(2:Int).toNat=2:=rfl
    by_cases hv:v=Aah
    ·have dv:(v==[72,84,84,80,47,49,46,49])=true:=by rw[hv];rfl
     cases hs with
     | cons h t=>
      have hw:EI (h::t) ⟨ps,bs⟩ [m,p,v]=(At,2):=by rw[EI,if_neg (fun h=> by cases h.2)]
      rw[hw,if_pos (by simp)] at hr
      subst hr
      have d0:decide (((t.length+1:Nat):Int) > 0)=true:=by simp only[decide_eq_true_eq];omega
      simp only[askA,At,Ah,List.map_nil]
      simp (disch:=omega) only[go_sem,hD,hG',g1,g2,de,Lg,Ae,n3,z0,z1,z2,Aa]
      (repeat (with_reducible refine aI ?_))
      refine Au.mk [] ?_
      simp (disch:=omega) only[go_sem,hD,hG',n3,dv,d0,Lg,Aa]
      (repeat (with_reducible refine aI ?_))
      refine Aj [] [] (by simp) rfl rfl rfl ?_ ?_ <;> simp only[go_sem]
     | nil=>
      have hw:EI [] ⟨ps,bs⟩ [m,p,v]=if (Bl m p).2=true then (⟨(Bl m p).1.kind,(Bl m p).1.queue,(Bl m p).1.n,⟨ps,bs⟩⟩,Ap ⟨(Bl m p).1.kind,(Bl m p).1.queue,(Bl m p).1.n,⟨ps,bs⟩⟩) else (At,1):=by rw[EI,if_pos ⟨hv,rfl⟩]
      rw[hw] at hr
      clear hw
      have hql:=P9 m p
      have hpl:=hsp p (by simp)
      generalize Bl m p=y at *
      obtain ⟨⟨k,q,n,⟨ps',bs'⟩⟩,ok⟩:=y
      simp only[askA] at g3
      simp only at hr hql
      have d0:decide ((0:Int) > 0)=false:=rfl
      cases ok
      ·simp only[Bool.false_eq_true,if_false] at hr
       rw[if_pos (by simp)] at hr
       subst hr
       simp only[askA,At,Ah,List.map_nil]
       simp (disch:=omega) only[go_sem,hD,hG',g1,g2,de,Lg,Ae,n3,z0,z1,z2,Aa]
       (repeat (with_reducible refine aI ?_))
       refine Au.mk [] ?_
       simp (disch:=omega) only[go_sem,hD,hG',n3,dv,d0,n0,g3,Ae,z0,z1,z2,Lg,Aa]
       (repeat (with_reducible refine aI ?_))
       refine Aj [] [] (by simp) rfl rfl rfl ?_ ?_ <;> simp only[go_sem]
      ·simp only[if_true] at hr
       have g4:=g4 ⟨k,q,n,⟨ps,bs⟩⟩ ⟨by show q.data.toList.length≤1048576;omega,hf1⟩
       simp only[askA,Sr] at g4
       generalize Ap ⟨k,q,n,⟨ps,bs⟩⟩=wr at *
       by_cases hwr:wr=0
       ·have dw:(wr !=0)=false:=by simp[hwr]
        rw[if_neg (by simp[hwr])] at hr
        subst hr
        simp only[askA]
        simp (disch:=omega) only[go_sem,hD,hG',g1,g2,de,Lg,Ae,n3,z0,z1,z2,Aa]
        (repeat (with_reducible refine aI ?_))
        refine Au.mk [] ?_
        simp (disch:=omega) only[go_sem,hD,hG',n3,dv,d0,n0,g3,g4,dw,Ae,z0,z1,z2,Lg,Aa]
        (repeat (with_reducible refine aI ?_))
        refine Aj [] [] (by simp) rfl rfl rfl ?_ ?_ <;> simp only[go_sem]
       ·have dw:(wr !=0)=true:=by simp[hwr]
        rw[if_pos (by simpa using hwr)] at hr
        subst hr
        simp only[askA,At,Ah,List.map_nil]
        simp (disch:=omega) only[go_sem,hD,hG',g1,g2,de,Lg,Ae,n3,z0,z1,z2,Aa]
        (repeat (with_reducible refine aI ?_))
        refine Au.mk [] ?_
        simp (disch:=omega) only[go_sem,hD,hG',n3,dv,d0,n0,g3,g4,dw,Ae,z0,z1,z2,Lg,Aa]
        (repeat (with_reducible refine aI ?_))
        refine Aj [] [] (by simp) rfl rfl rfl ?_ ?_ <;> simp only[go_sem]
    ·have dv:(v==[72,84,84,80,47,49,46,49])=false:=by rw[beq_eq_false_iff_ne];exact hv
     have hw:EI hs ⟨ps,bs⟩ [m,p,v]=(At,2):=by rw[EI,if_neg (fun h=> hv h.1)]
     rw[hw,if_pos (by simp)] at hr
     subst hr
     simp only[askA,At,Ah,List.map_nil]
     simp (disch:=omega) only[go_sem,hD,hG',g1,g2,de,Lg,Ae,n3,z0,z1,z2,Aa]
     (repeat (with_reducible refine aI ?_))
     refine Au.mk [(9,false)] ?_
     simp (disch:=omega) only[go_sem,hD,hG',n3,dv,Lg,Aa]
     (repeat (with_reducible refine aI ?_))
     refine Aj [] [] (by simp) rfl rfl rfl ?_ ?_ <;> simp only[go_sem]
   ·have d3:(((l.length:Nat):Int) !=3)=true:=by simp;omega
    have hw:EI hs ⟨ps,bs⟩ l=(At,2):=by
     match l,h3 with
     | [],_=> rfl
     | [_],_=> rfl
     | [_,_],_=> rfl
     | _::_::_::_::_,_=> rfl
     | [_,_,_],h=> exact absurd rfl h
    rw[hw,if_pos (by simp)] at hr
    subst hr
    simp only[askA,At,Ah,List.map_nil]
    simp (disch:=omega) only[go_sem,hD,hG',g1,g2,de,Lg,Aa]
    (repeat (with_reducible refine aI ?_))
    refine Au.mk [(3,false),(9,false)] ?_
    simp (disch:=omega) only[go_sem,hD,hG',d3,Lg,Aa]
    (repeat (with_reducible refine aI ?_))
    refine Aj [] [] (by simp) rfl rfl rfl ?_ ?_ <;> simp only[go_sem]
  ·have de:(err !=0)=true:=by simp[he]
   rw[if_pos (by simpa using he)] at hr
   subst hr
   simp only[askA,At,Ah,List.map_nil]
   simp (disch:=omega) only[go_sem,hD,hG',g1,de,Lg,Aa]
   (repeat (with_reducible refine aI ?_))
   refine Aj [] [] (by simp) rfl rfl rfl ?_ ?_ <;> simp only[go_sem]
 exact hcon _ rfl
def Pm:BH Tryz.prog D:=⟨127,Wd,fun b=> [.sl 1 (b.map Ac)],fun b=> b.length≤16777216,fun b=> ⟨.tup [askA (DL b).1,.int .i64 (DL b).2.1,.int .i64 (DL b).2.2],[]⟩,fun x y _ _ h=> by
 simp only[List.cons.injEq,AV.sl.injEq,true_and,and_true] at h
 rw[AN h],ZV⟩
def Cd:Nat→Lo:=fun id=> match id with | 22=> {} | _=> {}
theorem ZW (b:Wd) (hb:b.length≤16777216):A8 Tryz.prog D 129 [.sl 1 (b.map Ac)] ⟨.tup [sayA (DM b).1,.int .i64 (DM b).2.1,.int .i64 (DM b).2.2],[]⟩:=by
 have hfit:=JT b
 have hok:Cl Tryz.prog D (Ao [C7,Bp,AJ,By]):=Ar _
 have g1:=Ag (T:=[C7,Bp,AJ,By]) (E:=C7) (i:=0) rfl (by decide) (b) (hb)
 have g3:=fun (w p:Wd)=> Ag (T:=[C7,Bp,AJ,By]) (E:=Bp) (i:=1) rfl (by decide) ((w,p)) (trivial)
 have g4:=fun (w:Wd) (h:w.length≤400)=> Ag (T:=[C7,Bp,AJ,By]) (E:=AJ) (i:=2) rfl (by decide) (w) (by show w.length≤281474976710656;omega)
 have g5:=fun (s:A0) (h:s.note.Fits)=> Ag (T:=[C7,Bp,AJ,By]) (E:=By) (i:=3) rfl (by decide) ((s,false)) (⟨h,fun h=> (by cases h)⟩)
 generalize Ao [C7,Bp,AJ,By]=G at *
 dsimp only[C7] at g1
 dsimp only[Bp] at g3
 dsimp only[AJ] at g4
 dsimp only[By] at g5
 unfold DM
 generalize Ca b=x at *
 obtain ⟨f,hs,⟨ps,bs⟩,all,err⟩:=x
 obtain ⟨hf1,hf2,hf3,hf4⟩:=hfit
 simp only at hf1 hf2 hf3 hf4
 simp only[BN,An] at g1
 have n0:((0:Nat):Int)=0:=rfl
 have n1:((1:Nat):Int)=1:=rfl
 have n2:((2:Nat):Int)=2:=rfl
 have z0:(0:Int).toNat=0:=rfl
 have z1:(1:Int).toNat=1:=rfl
 have g00:decide ((0:Int) > 0)=false:=rfl
 have g20:decide ((2:Int) > 0)=true:=rfl
 have hcon:∀r,r=Sv ⟨f,hs,⟨ps,bs⟩,all,err⟩→A8 Tryz.prog D 129 [.sl 1 (b.map Ac)] ⟨.tup [sayA r.1,.int .i64 r.2.1,.int .i64 r.2.2],[]⟩:=by
  intro r hr
  simp only[Sv] at hr
  refine Bx (G:=G) (rs:=[(2,some 53),(3,none),(4,none)]) hok Tryz.func129 Tryz.results129 Tryz.ntmps129 (Cd) fun X hP hD hG' hX=> ?_
  simp only[AU,Bz]
  by_cases he:err=0
  case neg=>
   have de:(err !=0)=true:=by simp[he]
   rw[if_pos (by simpa using he)] at hr
   subst hr
   simp only[sayA,AE,Ah,List.map_nil]
   simp (disch:=omega) only[go_sem,hD,hG',g1,de,Cd,Ae,z0,z1,n0,n1,n2,List.getD_nil,g00,g20,Aa]
   (repeat (with_reducible refine aI ?_))
   refine Aj [] [] (by simp) rfl rfl rfl ?_ ?_ <;> simp only[go_sem]
  have de:(err !=0)=false:=by simp[he]
  rw[if_neg (by simpa using he)] at hr
  by_cases hok:f=KK
  ·subst hok
   simp only[KK] at g1
   cases hs with
   | nil=>
    have hw:B6 KK [] ⟨ps,bs⟩=(⟨1,0,0,0,⟨ps,bs⟩⟩,Am ⟨1,0,0,0,⟨ps,bs⟩⟩):=by simp[B6]
    simp (disch:=omega) only[go_sem,hD,hG',g1,de,Cd,Ae,z0,z1,n0,n1,n2,List.getD_nil,g00,g20,Aa]
    (repeat (with_reducible refine aI ?_))
    refine Au.mk [] ?_
    simp (disch:=omega) only[go_sem,hD,hG',Cd,Ae,z0,z1,n0,n1,n2,List.getD_nil,g00,g20,Aa]
    (repeat (with_reducible refine aI ?_))
    refine Tr.loop (ι:=Unit) (fun _=> True) (fun _=> {nt:=117,tm:=[(2,.ptr 2 0),(3,.int .i64 0),(4,.int .i64 0),(6,.sl 1 ([])),(7,.ptr 7 0),(8,.int .i64 all),(10,.ptr 10 0),(11,.os 35),(12,.os 36),(13,.ptr 13 0),(14,.bool (true)),(71,.int .i64 0),(72,.int .i64 (0))],bl:=[(2,some (.cells [.int .i64 0,.int .i64 0,.int .i64 0,.int .i64 0,.nils,.nils])),(7,some (.cells [.sl 4 (ps.map Aq),.sl 1 (bs.map Ac)])),(10,some (.cells [.int .i64 1,.int .i64 (0),.int .i64 (0),.int .i64 0,.sl 4 (ps.map Aq),.sl 1 (bs.map Ac)])),(13,some (.cells [.int .i64 (0)])),(35,some (.rows 9 1 [])),(36,some (.rows 238 1 []))]}) (fun _=> 0) () ⟨trivial,AG hD [(2,2),(7,7),(10,10),(13,13),(35,35),(36,36)] rfl rfl (by simp only[go_sem];try simp[Ae]) (by simp only[go_sem];try simp[Ae])⟩ ?_
    rintro ⟨⟩ _
    refine Al hX Cd _ _ _ ?_
    simp (disch:=omega) only[go_sem,hD,hG',Cd,Ae,z0,z1,n0,n1,n2,List.getD_nil,g00,g20,Aa]
    (repeat (with_reducible refine aI ?_))
    have g5:=g5 ⟨1,0,0,0,⟨ps,bs⟩⟩ hf1
    simp only[sayA,Rl] at g5
    generalize Am ⟨1,0,0,0,⟨ps,bs⟩⟩=wr at *
    rw[hw] at hr
    by_cases hwr:wr=0
    ·have dw:(wr !=0)=false:=by simp[hwr]
     rw[if_neg (by simp[hwr])] at hr
     subst hr
     simp only[sayA]
     simp (disch:=omega) only[go_sem,hD,hG',g5,dw,Cd,Ae,z0,z1,n0,n1,n2,List.getD_nil,g00,g20,Aa]
     (repeat (with_reducible refine aI ?_))
     refine Aj [] [] (by simp) rfl rfl rfl ?_ ?_ <;> simp only[go_sem]
    ·have dw:(wr !=0)=true:=by simp[hwr]
     rw[if_pos (by simpa using hwr)] at hr
     subst hr
     simp only[sayA,AE,Ah,List.map_nil]
     simp (disch:=omega) only[go_sem,hD,hG',g5,dw,Cd,Ae,z0,z1,n0,n1,n2,List.getD_nil,g00,g20,Aa]
     (repeat (with_reducible refine aI ?_))
     refine Aj [] [] (by simp) rfl rfl rfl ?_ ?_ <;> simp only[go_sem]
   | cons a t=>
    have d0:decide (((t.length+1:Nat):Int) > 0)=true:=by simp only[decide_eq_true_eq];omega
    by_cases h2:t.length=1
    ·match t,h2,hr,hf4,g1,d0 with
     | [c],_,hr,hf4,g1,d0=>
     have hal:=hf4 a (by simp)
     have hcl:=hf4 c (by simp)
     have g3a:=g3 a [116,97,103,58,32]
     have g3c:=g3 c [116,114,105,101,115,58,32]
     have hta:=BP a [116,97,103,58,32]
     have htc:=BP c [116,114,105,101,115,58,32]
     have g4a:=g4 (Lib.trimPrefix a [116,97,103,58,32]) (by omega)
     have g4c:=g4 (Lib.trimPrefix c [116,114,105,101,115,58,32]) (by omega)
     have hw:B6 KK [a,c] ⟨ps,bs⟩=if (BD EH a).2=true∧(BD BO c).2=true then (⟨2,(BD EH a).1,(BD BO c).1,0,⟨ps,bs⟩⟩,Am ⟨2,(BD EH a).1,(BD BO c).1,0,⟨ps,bs⟩⟩) else (AE,2):=by simp[B6]
     have e1:BD EH a=((Ak (Lib.trimPrefix a [116,97,103,58,32])).1,Lib.hasPrefix a [116,97,103,58,32]&&(Ak (Lib.trimPrefix a [116,97,103,58,32])).2):=rfl
     have e2:BD BO c=((Ak (Lib.trimPrefix c [116,114,105,101,115,58,32])).1,Lib.hasPrefix c [116,114,105,101,115,58,32]&&(Ak (Lib.trimPrefix c [116,114,105,101,115,58,32])).2):=rfl
     generalize Lib.trimPrefix a [116,97,103,58,32]=ta at *
     generalize Lib.hasPrefix a [116,97,103,58,32]=ba at *
     generalize Lib.trimPrefix c [116,114,105,101,115,58,32]=tc at *
     generalize Lib.hasPrefix c [116,114,105,101,115,58,32]=bc at *
     generalize Ak ta=na at *
     generalize Ak tc=nc at *
     obtain ⟨na,ka⟩:=na
     obtain ⟨nc,kc⟩:=nc
     simp only at g4a g4c e1 e2
     rw[e1,e2] at hw
     clear e1 e2
     simp (disch:=omega) only[go_sem,hD,hG',g1,de,d0,Cd,Ae,z0,z1,n0,n1,n2,List.getD_nil,g00,g20,Aa]
     (repeat (with_reducible refine aI ?_))
     refine Au.mk [] ?_
     simp (disch:=omega) only[go_sem,hD,hG',Cd,Ae,z0,z1,n0,n1,n2,List.getD_nil,g00,g20,d0,Aa]
     (repeat (with_reducible refine aI ?_))
     generalize hA:(ba&&ka)=A at *
     generalize hB:(bc&&kc)=B at *
     refine Tr.loop (ι:=Nat) (fun i=> i≤2) (fun i=> {nt:=117,tm:=[(2,.ptr 2 0),(3,.int .i64 0),(4,.int .i64 0),(6,.sl 1 ([Ae a,Ae c])),(7,.ptr 7 0),(8,.int .i64 all),(10,.ptr 10 0),(11,.os 46),(12,.psl 49 2),(13,.ptr 13 0),(14,.bool (match i with | 0=> true | 1=> A | _=> (A&&B))),(71,.int .i64 2),(72,.int .i64 (i))],bl:=[(2,some (.cells [.int .i64 0,.int .i64 0,.int .i64 0,.int .i64 0,.nils,.nils])),(7,some (.cells [.sl 4 (ps.map Aq),.sl 1 (bs.map Ac)])),(10,some (.cells [.int .i64 2,.int .i64 (match i with | 0=> 0 | 1=> na | _=> na),.int .i64 (match i with | 0=> 0 | 1=> 0 | _=> (if A=true then nc else 0)),.int .i64 0,.sl 4 (ps.map Aq),.sl 1 (bs.map Ac)])),(13,some (.cells [.int .i64 (0)])),(46,some (.rows 9 1 [[.str [116,97,103,58,32]],[.str [116,114,105,101,115,58,32]]])),(49,some (.cells [.ptr 10 1,.ptr 10 2]))]}) (fun i=> 2 - i) 0 ⟨Nat.zero_le _,AG hD [(2,2),(7,7),(10,10),(13,13),(46,46),(49,49)] rfl rfl (by simp only[go_sem];try simp[Ae]) (by simp only[go_sem];try simp[Ae])⟩ ?_
     intro i hi
     refine Al hX Cd _ _ _ ?_
     have hi:i=0∨i=1∨i=2:=by omega
     rcases hi with rfl | rfl | rfl
     ·simp only
      simp (disch:=omega) only[go_sem,hD,hG',g3a,g4a,g3c,g4c,Cd,Ae,z0,z1,n0,n1,n2,List.getD_nil,g00,g20,Aa]
      (repeat (with_reducible refine aI ?_))
      cases ba
      ·simp only[Bool.false_and,Bool.true_and] at hA
       subst hA
       refine Au.mk [(6,true)] ?_
       simp (disch:=omega) only[go_sem,hD,hG',g3a,g4a,g3c,g4c,Cd,Ae,z0,z1,n0,n1,n2,List.getD_nil,g00,g20,Aa]
       (repeat (with_reducible refine aI ?_))
       refine ⟨1,⟨by omega,by omega⟩,AG hD [(2,2),(7,7),(10,10),(13,13),(46,46),(49,49)] rfl rfl ?_ ?_⟩ <;> simp only[go_sem]
       all_goals (try simp[Ae])
      ·simp only[Bool.false_and,Bool.true_and] at hA
       subst hA
       refine Au.mk [] ?_
       simp (disch:=omega) only[go_sem,hD,hG',g3a,g4a,g3c,g4c,Cd,Ae,z0,z1,n0,n1,n2,List.getD_nil,g00,g20,Aa]
       (repeat (with_reducible refine aI ?_))
       refine ⟨1,⟨by omega,by omega⟩,AG hD [(2,2),(7,7),(10,10),(13,13),(46,46),(49,49)] rfl rfl ?_ ?_⟩ <;> simp only[go_sem]
       all_goals (try simp[Ae])
     ·simp only
      cases A
      ·skip
       simp (disch:=omega) only[go_sem,hD,hG',g3a,g4a,g3c,g4c,Cd,Ae,z0,z1,n0,n1,n2,List.getD_nil,g00,g20,Aa]
       (repeat (with_reducible refine aI ?_))
       refine ⟨2,⟨by omega,by omega⟩,AG hD [(2,2),(7,7),(10,10),(13,13),(46,46),(49,49)] rfl rfl ?_ ?_⟩ <;> simp only[go_sem]
       all_goals (try simp[Ae])
      ·skip
       simp (disch:=omega) only[go_sem,hD,hG',g3a,g4a,g3c,g4c,Cd,Ae,z0,z1,n0,n1,n2,List.getD_nil,g00,g20,Aa]
       (repeat (with_reducible refine aI ?_))
       cases bc
       ·simp only[Bool.false_and,Bool.true_and] at hB
        subst hB
        refine Au.mk [(6,true)] ?_
        simp (disch:=omega) only[go_sem,hD,hG',g3a,g4a,g3c,g4c,Cd,Ae,z0,z1,n0,n1,n2,List.getD_nil,g00,g20,Aa]
        (repeat (with_reducible refine aI ?_))
        refine ⟨2,⟨by omega,by omega⟩,AG hD [(2,2),(7,7),(10,10),(13,13),(46,46),(49,49)] rfl rfl ?_ ?_⟩ <;> simp only[go_sem]
        all_goals (try simp[Ae])
       ·simp only[Bool.false_and,Bool.true_and] at hB
        subst hB
        refine Au.mk [] ?_
        simp (disch:=omega) only[go_sem,hD,hG',g3a,g4a,g3c,g4c,Cd,Ae,z0,z1,n0,n1,n2,List.getD_nil,g00,g20,Aa]
        (repeat (with_reducible refine aI ?_))
        refine ⟨2,⟨by omega,by omega⟩,AG hD [(2,2),(7,7),(10,10),(13,13),(46,46),(49,49)] rfl rfl ?_ ?_⟩ <;> simp only[go_sem]
        all_goals (try simp[Ae])
     ·simp only
      cases A
      ·rw[if_neg (by simp)] at hw
       rw[hw,if_pos (by simp)] at hr
       subst hr
       simp only[sayA,AE,Ah,List.map_nil]
       try (simp (disch:=omega) only[go_sem,hD,hG',Cd,Ae,z0,z1,n0,n1,n2,List.getD_nil,g00,g20,Aa])
       (repeat (with_reducible refine aI ?_))
       refine Aj [] [] (by simp) rfl rfl rfl ?_ ?_ <;> simp only[go_sem]
      ·cases B
       ·rw[if_neg (by simp)] at hw
        rw[hw,if_pos (by simp)] at hr
        subst hr
        simp only[sayA,AE,Ah,List.map_nil]
        try (simp (disch:=omega) only[go_sem,hD,hG',Cd,Ae,z0,z1,n0,n1,n2,List.getD_nil,g00,g20,Aa])
        (repeat (with_reducible refine aI ?_))
        refine Aj [] [] (by simp) rfl rfl rfl ?_ ?_ <;> simp only[go_sem]
       ·rw[if_pos ⟨rfl,rfl⟩] at hw
        simp only[if_true] at *
        have g5:=g5 ⟨2,na,nc,0,⟨ps,bs⟩⟩ hf1
        simp only[sayA,Rl] at g5
        generalize Am ⟨2,na,nc,0,⟨ps,bs⟩⟩=wr at *
        rw[hw] at hr
        by_cases hwr:wr=0
        ·have dw:(wr !=0)=false:=by simp[hwr]
         rw[if_neg (by simp[hwr])] at hr
         subst hr
         simp only[sayA]
         simp (disch:=omega) only[go_sem,hD,hG',g5,dw,Cd,Ae,z0,z1,n0,n1,n2,List.getD_nil,g00,g20,Aa]
         (repeat (with_reducible refine aI ?_))
         refine Aj [] [] (by simp) rfl rfl rfl ?_ ?_ <;> simp only[go_sem]
        ·have dw:(wr !=0)=true:=by simp[hwr]
         rw[if_pos (by simpa using hwr)] at hr
         subst hr
         simp only[sayA,AE,Ah,List.map_nil]
         simp (disch:=omega) only[go_sem,hD,hG',g5,dw,Cd,Ae,z0,z1,n0,n1,n2,List.getD_nil,g00,g20,Aa]
         (repeat (with_reducible refine aI ?_))
         refine Aj [] [] (by simp) rfl rfl rfl ?_ ?_ <;> simp only[go_sem]
    ·have e2:(((t.length+1:Nat):Int)==2)=false:=by rw[beq_eq_false_iff_ne];omega
     have hw:B6 KK (a::t) ⟨ps,bs⟩=(AE,2):=by
      match t,h2 with
      | [],_=> simp[B6]
      | _::_::_,_=> simp[B6]
      | [_],h=> exact absurd rfl h
     simp (disch:=omega) only[go_sem,hD,hG',g1,de,d0,e2,Cd,Ae,z0,z1,n0,n1,n2,List.getD_nil,g00,g20,Aa]
     (repeat (with_reducible refine aI ?_))
     refine Au.mk [] ?_
     simp (disch:=omega) only[go_sem,hD,hG',Cd,Ae,z0,z1,n0,n1,n2,List.getD_nil,g00,g20,d0,e2,Aa]
     (repeat (with_reducible refine aI ?_))
     refine Tr.loop (ι:=Nat) (fun i=> i≤2) (fun i=> {nt:=117,tm:=[(2,.ptr 2 0),(3,.int .i64 0),(4,.int .i64 0),(6,.sl 1 ((Ae a::t.map Ae))),(7,.ptr 7 0),(8,.int .i64 all),(10,.ptr 10 0),(11,.os 46),(12,.psl 49 2),(13,.ptr 13 0),(14,.bool (false)),(71,.int .i64 2),(72,.int .i64 (i))],bl:=[(2,some (.cells [.int .i64 0,.int .i64 0,.int .i64 0,.int .i64 0,.nils,.nils])),(7,some (.cells [.sl 4 (ps.map Aq),.sl 1 (bs.map Ac)])),(10,some (.cells [.int .i64 2,.int .i64 (0),.int .i64 (0),.int .i64 0,.sl 4 (ps.map Aq),.sl 1 (bs.map Ac)])),(13,some (.cells [.int .i64 (0)])),(46,some (.rows 9 1 [[.str [116,97,103,58,32]],[.str [116,114,105,101,115,58,32]]])),(49,some (.cells [.ptr 10 1,.ptr 10 2]))]}) (fun i=> 2 - i) 0 ⟨Nat.zero_le _,AG hD [(2,2),(7,7),(10,10),(13,13),(46,46),(49,49)] rfl rfl (by simp only[go_sem];try simp[Ae]) (by simp only[go_sem];try simp[Ae])⟩ ?_
     intro i hi
     refine Al hX Cd _ _ _ ?_
     simp (disch:=omega) only[go_sem,hD,hG',Cd,Ae,z0,z1,n0,n1,n2,List.getD_nil,g00,g20,Aa]
     (repeat (with_reducible refine aI ?_))
     refine Ai (fun h=> ?_) (fun h=> ?_)
     ·rw[decide_eq_true_eq] at h
      simp (disch:=omega) only[go_sem,hD,hG',Cd,Ae,z0,z1,n0,n1,n2,List.getD_nil,g00,g20,Aa]
      (repeat (with_reducible refine aI ?_))
      refine ⟨i+1,⟨by omega,by omega⟩,AG hD [(2,2),(7,7),(10,10),(13,13),(46,46),(49,49)] rfl rfl ?_ ?_⟩ <;> simp only[go_sem]
      all_goals (try simp[Ae])
     ·skip
      rw[hw,if_pos (by simp)] at hr
      subst hr
      simp only[sayA,AE,Ah,List.map_nil]
      try (simp (disch:=omega) only[go_sem,hD,hG',Cd,Ae,z0,z1,n0,n1,n2,List.getD_nil,g00,g20,Aa])
      (repeat (with_reducible refine aI ?_))
      refine Aj [] [] (by simp) rfl rfl rfl ?_ ?_ <;> simp only[go_sem]
  have dk:(f==[72,84,84,80,47,49,46,49,32,50,48,48,32,79,75])=false:=by rw[beq_eq_false_iff_ne];exact hok
  by_cases hno:f=EB
  ·subst hno
   simp only[EB] at g1 dk
   cases hs with
   | nil=>
    have hw:B6 EB [] ⟨ps,bs⟩=(⟨3,0,0,0,⟨ps,bs⟩⟩,Am ⟨3,0,0,0,⟨ps,bs⟩⟩):=by simp[B6,EB,KK]
    simp (disch:=omega) only[go_sem,hD,hG',g1,de,Cd,Ae,z0,z1,n0,n1,n2,List.getD_nil,g00,g20,dk,Aa]
    (repeat (with_reducible refine aI ?_))
    refine Au.mk [(2,true)] ?_
    simp (disch:=omega) only[go_sem,hD,hG',Cd,Ae,z0,z1,n0,n1,n2,List.getD_nil,g00,g20,dk,Aa]
    (repeat (with_reducible refine aI ?_))
    refine Tr.loop (ι:=Unit) (fun _=> True) (fun _=> {nt:=117,tm:=[(2,.ptr 2 0),(3,.int .i64 0),(4,.int .i64 0),(6,.sl 1 ([])),(7,.ptr 7 0),(8,.int .i64 all),(10,.ptr 10 0),(11,.os 35),(12,.os 36),(13,.ptr 13 0),(14,.bool (true)),(71,.int .i64 0),(72,.int .i64 (0))],bl:=[(2,some (.cells [.int .i64 0,.int .i64 0,.int .i64 0,.int .i64 0,.nils,.nils])),(7,some (.cells [.sl 4 (ps.map Aq),.sl 1 (bs.map Ac)])),(10,some (.cells [.int .i64 3,.int .i64 (0),.int .i64 (0),.int .i64 0,.sl 4 (ps.map Aq),.sl 1 (bs.map Ac)])),(13,some (.cells [.int .i64 (0)])),(35,some (.rows 9 1 [])),(36,some (.rows 238 1 []))]}) (fun _=> 0) () ⟨trivial,AG hD [(2,2),(7,7),(10,10),(13,13),(35,35),(36,36)] rfl rfl (by simp only[go_sem];try simp[Ae]) (by simp only[go_sem];try simp[Ae])⟩ ?_
    rintro ⟨⟩ _
    refine Al hX Cd _ _ _ ?_
    simp (disch:=omega) only[go_sem,hD,hG',Cd,Ae,z0,z1,n0,n1,n2,List.getD_nil,g00,g20,dk,Aa]
    (repeat (with_reducible refine aI ?_))
    have g5:=g5 ⟨3,0,0,0,⟨ps,bs⟩⟩ hf1
    simp only[sayA,Rl] at g5
    generalize Am ⟨3,0,0,0,⟨ps,bs⟩⟩=wr at *
    rw[hw] at hr
    by_cases hwr:wr=0
    ·have dw:(wr !=0)=false:=by simp[hwr]
     rw[if_neg (by simp[hwr])] at hr
     subst hr
     simp only[sayA]
     simp (disch:=omega) only[go_sem,hD,hG',g5,dw,Cd,Ae,z0,z1,n0,n1,n2,List.getD_nil,g00,g20,dk,Aa]
     (repeat (with_reducible refine aI ?_))
     refine Aj [] [] (by simp) rfl rfl rfl ?_ ?_ <;> simp only[go_sem]
    ·have dw:(wr !=0)=true:=by simp[hwr]
     rw[if_pos (by simpa using hwr)] at hr
     subst hr
     simp only[sayA,AE,Ah,List.map_nil]
     simp (disch:=omega) only[go_sem,hD,hG',g5,dw,Cd,Ae,z0,z1,n0,n1,n2,List.getD_nil,g00,g20,dk,Aa]
     (repeat (with_reducible refine aI ?_))
     refine Aj [] [] (by simp) rfl rfl rfl ?_ ?_ <;> simp only[go_sem]
   | cons a t=>
    have hw:B6 EB (a::t) ⟨ps,bs⟩=(AE,2):=by simp[B6,EB,KK]
    have e0:(((t.length+1:Nat):Int)==0)=false:=by rw[beq_eq_false_iff_ne];omega
    simp (disch:=omega) only[go_sem,hD,hG',g1,de,Cd,Ae,z0,z1,n0,n1,n2,List.getD_nil,g00,g20,dk,Aa]
    (repeat (with_reducible refine aI ?_))
    refine Au.mk [(2,true)] ?_
    simp (disch:=omega) only[go_sem,hD,hG',Cd,Ae,z0,z1,n0,n1,n2,List.getD_nil,g00,g20,dk,e0,Aa]
    (repeat (with_reducible refine aI ?_))
    refine Tr.loop (ι:=Unit) (fun _=> True) (fun _=> {nt:=117,tm:=[(2,.ptr 2 0),(3,.int .i64 0),(4,.int .i64 0),(6,.sl 1 ((Ae a::t.map Ae))),(7,.ptr 7 0),(8,.int .i64 all),(10,.ptr 10 0),(11,.os 35),(12,.os 36),(13,.ptr 13 0),(14,.bool (false)),(71,.int .i64 0),(72,.int .i64 (0))],bl:=[(2,some (.cells [.int .i64 0,.int .i64 0,.int .i64 0,.int .i64 0,.nils,.nils])),(7,some (.cells [.sl 4 (ps.map Aq),.sl 1 (bs.map Ac)])),(10,some (.cells [.int .i64 3,.int .i64 (0),.int .i64 (0),.int .i64 0,.sl 4 (ps.map Aq),.sl 1 (bs.map Ac)])),(13,some (.cells [.int .i64 (0)])),(35,some (.rows 9 1 [])),(36,some (.rows 238 1 []))]}) (fun _=> 0) () ⟨trivial,AG hD [(2,2),(7,7),(10,10),(13,13),(35,35),(36,36)] rfl rfl (by simp only[go_sem];try simp[Ae]) (by simp only[go_sem];try simp[Ae])⟩ ?_
    rintro ⟨⟩ _
    refine Al hX Cd _ _ _ ?_
    simp (disch:=omega) only[go_sem,hD,hG',Cd,Ae,z0,z1,n0,n1,n2,List.getD_nil,g00,g20,dk,Aa]
    (repeat (with_reducible refine aI ?_))
    rw[hw,if_pos (by simp)] at hr
    subst hr
    simp only[sayA,AE,Ah,List.map_nil]
    try (simp (disch:=omega) only[go_sem,hD,hG',Cd,Ae,z0,z1,n0,n1,n2,List.getD_nil,g00,g20,dk,Aa])
    (repeat (with_reducible refine aI ?_))
    refine Aj [] [] (by simp) rfl rfl rfl ?_ ?_ <;> simp only[go_sem]
  have dn:(f==[72,84,84,80,47,49,46,49,32,50,48,52,32,78,111,110,101])=false:=by rw[beq_eq_false_iff_ne];exact hno
  by_cases hwg:f=DE
  ·subst hwg
   simp only[DE] at g1 dk dn
   by_cases h1:hs.length=1
   ·match hs,h1,hr,hf4,g1 with
    | [a],_,hr,hf4,g1=>
    have hal:=hf4 a (by simp)
    have g3a:=g3 a [101,114,114,111,114,58,32]
    have hta:=BP a [101,114,114,111,114,58,32]
    have g4a:=g4 (Lib.trimPrefix a [101,114,114,111,114,58,32]) (by omega)
    have hw:B6 DE [a] ⟨ps,bs⟩=if (BD BL a).2=true then (⟨4,0,0,(BD BL a).1,⟨ps,bs⟩⟩,Am ⟨4,0,0,(BD BL a).1,⟨ps,bs⟩⟩) else (AE,2):=by simp[B6,DE,KK,EB]
    have e1:BD BL a=((Ak (Lib.trimPrefix a [101,114,114,111,114,58,32])).1,Lib.hasPrefix a [101,114,114,111,114,58,32]&&(Ak (Lib.trimPrefix a [101,114,114,111,114,58,32])).2):=rfl
    generalize Lib.trimPrefix a [101,114,114,111,114,58,32]=ta at *
    generalize Lib.hasPrefix a [101,114,114,111,114,58,32]=ba at *
    generalize Ak ta=na at *
    obtain ⟨na,ka⟩:=na
    simp only at g4a e1
    rw[e1] at hw
    clear e1
    simp (disch:=omega) only[go_sem,hD,hG',g1,de,Cd,Ae,z0,z1,n0,n1,n2,List.getD_nil,g00,g20,dk,dn,Aa]
    (repeat (with_reducible refine aI ?_))
    refine Au.mk [(2,true)] ?_
    simp (disch:=omega) only[go_sem,hD,hG',Cd,Ae,z0,z1,n0,n1,n2,List.getD_nil,g00,g20,dk,dn,Aa]
    (repeat (with_reducible refine aI ?_))
    generalize hA:(ba&&ka)=A at *
    refine Tr.loop (ι:=Nat) (fun i=> i≤1) (fun i=> {nt:=117,tm:=[(2,.ptr 2 0),(3,.int .i64 0),(4,.int .i64 0),(6,.sl 1 ([Ae a])),(7,.ptr 7 0),(8,.int .i64 all),(10,.ptr 10 0),(11,.os 62),(12,.psl 63 1),(13,.ptr 13 0),(14,.bool (match i with | 0=> true | _=> A)),(71,.int .i64 1),(72,.int .i64 (i))],bl:=[(2,some (.cells [.int .i64 0,.int .i64 0,.int .i64 0,.int .i64 0,.nils,.nils])),(7,some (.cells [.sl 4 (ps.map Aq),.sl 1 (bs.map Ac)])),(10,some (.cells [.int .i64 4,.int .i64 (0),.int .i64 (0),.int .i64 0,.sl 4 (ps.map Aq),.sl 1 (bs.map Ac)])),(13,some (.cells [.int .i64 (match i with | 0=> 0 | _=> na)])),(62,some (.rows 9 1 [[.str [101,114,114,111,114,58,32]]])),(63,some (.cells [.ptr 13 0]))]}) (fun i=> 1 - i) 0 ⟨Nat.zero_le _,AG hD [(2,2),(7,7),(10,10),(13,13),(62,62),(63,63)] rfl rfl (by simp only[go_sem];try simp[Ae]) (by simp only[go_sem];try simp[Ae])⟩ ?_
    intro i hi
    refine Al hX Cd _ _ _ ?_
    have hi:i=0∨i=1:=by omega
    rcases hi with rfl | rfl
    ·simp only
     simp (disch:=omega) only[go_sem,hD,hG',g3a,g4a,Cd,Ae,z0,z1,n0,n1,n2,List.getD_nil,g00,g20,dk,dn,Aa]
     (repeat (with_reducible refine aI ?_))
     cases ba
     ·simp only[Bool.false_and,Bool.true_and] at hA
      subst hA
      refine Au.mk [(6,true)] ?_
      simp (disch:=omega) only[go_sem,hD,hG',g3a,g4a,Cd,Ae,z0,z1,n0,n1,n2,List.getD_nil,g00,g20,dk,dn,Aa]
      (repeat (with_reducible refine aI ?_))
      refine ⟨1,⟨by omega,by omega⟩,AG hD [(2,2),(7,7),(10,10),(13,13),(62,62),(63,63)] rfl rfl ?_ ?_⟩ <;> simp only[go_sem]
      all_goals (try simp[Ae])
     ·simp only[Bool.false_and,Bool.true_and] at hA
      subst hA
      refine Au.mk [] ?_
      simp (disch:=omega) only[go_sem,hD,hG',g3a,g4a,Cd,Ae,z0,z1,n0,n1,n2,List.getD_nil,g00,g20,dk,dn,Aa]
      (repeat (with_reducible refine aI ?_))
      refine ⟨1,⟨by omega,by omega⟩,AG hD [(2,2),(7,7),(10,10),(13,13),(62,62),(63,63)] rfl rfl ?_ ?_⟩ <;> simp only[go_sem]
      all_goals (try simp[Ae])
    ·simp only
     cases A
     ·rw[if_neg (by simp)] at hw
      rw[hw,if_pos (by simp)] at hr
      subst hr
      simp only[sayA,AE,Ah,List.map_nil]
      try (simp (disch:=omega) only[go_sem,hD,hG',Cd,Ae,z0,z1,n0,n1,n2,List.getD_nil,g00,g20,dk,dn,Aa])
      (repeat (with_reducible refine aI ?_))
      refine Aj [] [] (by simp) rfl rfl rfl ?_ ?_ <;> simp only[go_sem]
     ·rw[if_pos (by simp)] at hw
      have g5:=g5 ⟨4,0,0,na,⟨ps,bs⟩⟩ hf1
      simp only[sayA,Rl] at g5
      generalize Am ⟨4,0,0,na,⟨ps,bs⟩⟩=wr at *
      rw[hw] at hr
      by_cases hwr:wr=0
      ·have dw:(wr !=0)=false:=by simp[hwr]
       rw[if_neg (by simp[hwr])] at hr
       subst hr
       simp only[sayA]
       simp (disch:=omega) only[go_sem,hD,hG',g5,dw,Cd,Ae,z0,z1,n0,n1,n2,List.getD_nil,g00,g20,dk,dn,Aa]
       (repeat (with_reducible refine aI ?_))
       refine Aj [] [] (by simp) rfl rfl rfl ?_ ?_ <;> simp only[go_sem]
      ·have dw:(wr !=0)=true:=by simp[hwr]
       rw[if_pos (by simpa using hwr)] at hr
       subst hr
       simp only[sayA,AE,Ah,List.map_nil]
       simp (disch:=omega) only[go_sem,hD,hG',g5,dw,Cd,Ae,z0,z1,n0,n1,n2,List.getD_nil,g00,g20,dk,dn,Aa]
       (repeat (with_reducible refine aI ?_))
       refine Aj [] [] (by simp) rfl rfl rfl ?_ ?_ <;> simp only[go_sem]
   ·have e1:(((hs.length:Nat):Int)==1)=false:=by rw[beq_eq_false_iff_ne];omega
    have hw:B6 DE hs ⟨ps,bs⟩=(AE,2):=by
     match hs,h1 with
     | [],_=> simp[B6,DE,KK,EB]
     | _::_::_,_=> simp[B6,DE,KK,EB]
     | [_],h=> exact absurd rfl h
    simp (disch:=omega) only[go_sem,hD,hG',g1,de,e1,Cd,Ae,z0,z1,n0,n1,n2,List.getD_nil,g00,g20,dk,dn,Aa]
    (repeat (with_reducible refine aI ?_))
    refine Au.mk [(2,true)] ?_
    simp (disch:=omega) only[go_sem,hD,hG',Cd,Ae,z0,z1,n0,n1,n2,List.getD_nil,g00,g20,dk,dn,e1,Aa]
    (repeat (with_reducible refine aI ?_))
    refine Tr.loop (ι:=Nat) (fun i=> i≤1) (fun i=> {nt:=117,tm:=[(2,.ptr 2 0),(3,.int .i64 0),(4,.int .i64 0),(6,.sl 1 (hs.map Ae)),(7,.ptr 7 0),(8,.int .i64 all),(10,.ptr 10 0),(11,.os 62),(12,.psl 63 1),(13,.ptr 13 0),(14,.bool (false)),(71,.int .i64 1),(72,.int .i64 (i))],bl:=[(2,some (.cells [.int .i64 0,.int .i64 0,.int .i64 0,.int .i64 0,.nils,.nils])),(7,some (.cells [.sl 4 (ps.map Aq),.sl 1 (bs.map Ac)])),(10,some (.cells [.int .i64 4,.int .i64 (0),.int .i64 (0),.int .i64 0,.sl 4 (ps.map Aq),.sl 1 (bs.map Ac)])),(13,some (.cells [.int .i64 (0)])),(62,some (.rows 9 1 [[.str [101,114,114,111,114,58,32]]])),(63,some (.cells [.ptr 13 0]))]}) (fun i=> 1 - i) 0 ⟨Nat.zero_le _,AG hD [(2,2),(7,7),(10,10),(13,13),(62,62),(63,63)] rfl rfl (by simp only[go_sem];try simp[Ae]) (by simp only[go_sem];try simp[Ae])⟩ ?_
    intro i hi
    refine Al hX Cd _ _ _ ?_
    simp (disch:=omega) only[go_sem,hD,hG',Cd,Ae,z0,z1,n0,n1,n2,List.getD_nil,g00,g20,dk,dn,Aa]
    (repeat (with_reducible refine aI ?_))
    refine Ai (fun h=> ?_) (fun h=> ?_)
    ·rw[decide_eq_true_eq] at h
     simp (disch:=omega) only[go_sem,hD,hG',Cd,Ae,z0,z1,n0,n1,n2,List.getD_nil,g00,g20,dk,dn,Aa]
     (repeat (with_reducible refine aI ?_))
     refine ⟨i+1,⟨by omega,by omega⟩,AG hD [(2,2),(7,7),(10,10),(13,13),(62,62),(63,63)] rfl rfl ?_ ?_⟩ <;> simp only[go_sem]
     all_goals (try simp[Ae])
    ·skip
     rw[hw,if_pos (by simp)] at hr
     subst hr
     simp only[sayA,AE,Ah,List.map_nil]
     try (simp (disch:=omega) only[go_sem,hD,hG',Cd,Ae,z0,z1,n0,n1,n2,List.getD_nil,g00,g20,dk,dn,Aa])
     (repeat (with_reducible refine aI ?_))
     refine Aj [] [] (by simp) rfl rfl rfl ?_ ?_ <;> simp only[go_sem]
  have dg:(f==[72,84,84,80,47,49,46,49,32,52,48,48,32,87,114,111,110,103])=false:=by rw[beq_eq_false_iff_ne];exact hwg
  have hw:B6 f hs ⟨ps,bs⟩=(AE,1):=by simp[B6,hok,hno,hwg]
  rw[hw,if_pos (by simp)] at hr
  subst hr
  simp only[sayA,AE,Ah,List.map_nil]
  simp (disch:=omega) only[go_sem,hD,hG',g1,de,Cd,Ae,z0,z1,n0,n1,n2,List.getD_nil,g00,g20,Aa]
  (repeat (with_reducible refine aI ?_))
  refine Au.mk [(2,true)] ?_
  simp (disch:=omega) only[go_sem,hD,hG',dk,dn,dg,Cd,Ae,z0,z1,n0,n1,n2,List.getD_nil,g00,g20,Aa]
  (repeat (with_reducible refine aI ?_))
  refine Aj [] [] (by simp) rfl rfl rfl ?_ ?_ <;> simp only[go_sem]
 exact hcon _ rfl
def Pn:BH Tryz.prog D:=⟨129,Wd,fun b=> [.sl 1 (b.map Ac)],fun b=> b.length≤16777216,fun b=> ⟨.tup [sayA (DM b).1,.int .i64 (DM b).2.1,.int .i64 (DM b).2.2],[]⟩,fun x y _ _ h=> by
 simp only[List.cons.injEq,AV.sl.injEq,true_and,and_true] at h
 rw[AN h],ZW⟩
end Go.Proofs.YtlkmgccikgnaeaaGreatDoor.Ab
