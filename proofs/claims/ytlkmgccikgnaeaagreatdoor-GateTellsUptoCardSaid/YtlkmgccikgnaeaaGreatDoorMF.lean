/-
  Texts of the proof, one behind the other: LnE LnF.
  No condition but those that each theorem names.
-/
import Derived.Test.YtlkmgccikgnaeaaGreatDoorME
import Derived.Test.YtlkmgccikgnaeaaGreatDoorMC
set_option linter.unusedVariables false
set_option linter.unusedSimpArgs false
set_option maxRecDepth 100000
set_option maxHeartbeats 16000000
namespace Go.Proofs.YtlkmgccikgnaeaaGreatDoor.Ab
open Go Go.RowKit
attribute [go_sem] Int.reduceBEq Int.reduceBNe
theorem RS (x:Wd): -1≤IA x∧IA x < 9:=by
 have:=@IS _ (fun w=> x==w) Cj
 have e:Cj.length=9:=rfl
 unfold IA
 omega
def Ja (l:List Wd):Prop:=l.length≤1000∧∀w∈l,w.length≤1000
theorem Ja.tail {w:Wd} {l:List Wd} (h:Ja (w::l)):Ja l:=⟨by have:=h.1;simp at this;omega,fun x hx=> h.2 x (List.mem_cons_of_mem _ hx)⟩
theorem Ja.head {w:Wd} {l:List Wd} (h:Ja (w::l)):w.length≤1000:=h.2 w (List.mem_cons_self ..)
theorem Ja.big {l:List Wd} (h:Ja l):l.length≤1048576∧∀w∈l,w.length≤8388608:=⟨by have:=h.1;omega,fun w hw=> by have:=h.2 w hw;omega⟩
def Abf (p:AI):Prop:=p.key.size≤1048576∧p.text.size≤1048576
theorem Se (k s:Wd) (hk:k.length≤1000) (hs:s.length≤1000):Abf (E3 k s).1:=by
 have h1:=IX (Lib.trimPrefix s [36])
 have h2:=BP s [36]
 unfold E3
 split
 ·exact ⟨by show k.length≤_;omega,by show (CK (Lib.trimPrefix s [36])).1.length≤_;omega⟩
 ·split
  ·exact ⟨by show k.length≤_;omega,by show (0:Nat)≤_;omega⟩
  ·exact ⟨by show k.length≤_;omega,by show (0:Nat)≤_;omega⟩
theorem Ha:∀(l:List Wd) (ps:List AI),Ja l→ps.length+l.length≤1000→(∀p∈ps,Abf p)→(CE ps l).1.Fits
 | [],ps,_,_,_=> CV
 | w::r,ps,h,hl,hp=> by
  have hw:=h.head
  rw[CE]
  split
  ·have h1:=IX (Lib.trimPrefix w [35])
   have h2:=BP w [35]
   refine ⟨hp,?_,?_⟩
   ·simp only[List.length_cons] at hl ⊢;omega
   ·simp only;omega
  ·split
   ·exact CV
   ·split
    ·exact CV
    ·have hc:=Hw w [61]
     refine Ha r _ h.tail (by simp only[List.length_append,List.length_cons,List.length_nil] at hl ⊢;omega) fun p hm=> ?_
     rcases List.mem_append.1 hm with hm | hm
     ·exact hp p hm
     ·rw[List.mem_singleton.1 hm]
      exact Se _ _ (by omega) (by omega)
def Sr (x:AX×Bool):List AV:=match x.2 with
 | true=> [C9 x.1]
 | false=> [askA x.1]
def Co:BH Tryz.prog D:=⟨78,AX×Bool,Sr,fun x=> x.1.Fits∧(x.2=true→x.1.note=Ah),fun x=> ⟨.int .i64 (Ap x.1),[]⟩,fun x y hx hy h=> by
 obtain ⟨a,b⟩:=x
 obtain ⟨a',b'⟩:=y
 have h1:=hx.2
 have h2:=hy.2
 simp only at h1 h2
 cases b <;> cases b' <;> simp only[Sr,List.cons.injEq,and_true] at h
 ·rw[Cv h]
 ·simp[askA,C9] at h
 ·simp[askA,C9] at h
 ·rw[R2 (h1 rfl) (h2 rfl) h],fun x h=> by
 obtain ⟨⟨k,q,n,m⟩,b⟩:=x
 obtain ⟨h1,h2⟩:=h
 cases b
 ·exact IG _ h1
 ·have h2:=h2 rfl
  simp only at h1 h2
  subst h2
  exact (IG _ h1).weak (by simp[Sr,C9,Ah,askA,Aw,cov])⟩
def CG:Nat→Lo:=fun id=> match id with | 1=> {uo:=[8],un:=[4]} | 8=> {uo:=[6],un:=[4]} | 22=> {uo:=[3],un:=[2]} | _=> {}
theorem ZI (l:List Wd) (hne:l≠[]) (hl:Ja l):A8 Tryz.prog D 180 [.sl 1 (l.map Ae)] ⟨.tup [askA (CD l).1,.int .i64 (CD l).2],[]⟩:=by
 cases l with
 | nil=> exact absurd rfl hne
 | cons w rest=>
 have hok:Cl Tryz.prog D (Ao [DC,H4,AJ,Dm,Co]):=Ar _
 have g1:=Ag (T:=[DC,H4,AJ,Dm,Co]) (E:=DC) (i:=0) rfl (by decide) (()) (trivial)
 have g2:=Ag (T:=[DC,H4,AJ,Dm,Co]) (E:=H4) (i:=1) rfl (by decide) ((Cj,w)) (by show (9:Nat)≤_;omega)
 have g3:=fun (x:Wd) (h:x.length≤1000)=> Ag (T:=[DC,H4,AJ,Dm,Co]) (E:=AJ) (i:=2) rfl (by decide) (x) (by show x.length≤281474976710656;omega)
 have g4:=fun (x:List Wd) (h:Ja x)=> Ag (T:=[DC,H4,AJ,Dm,Co]) (E:=Dm) (i:=3) rfl (by decide) (x) (h.big)
 have g5:=fun (a:AX) (h:a.Fits)=> Ag (T:=[DC,H4,AJ,Dm,Co]) (E:=Co) (i:=4) rfl (by decide) ((a,false)) (⟨h,fun h=> by cases h⟩)
 have g6:=fun (k n:Int) (q:Wd) (h:q.length≤1000)=> Ag (T:=[DC,H4,AJ,Dm,Co]) (E:=Co) (i:=4) rfl (by decide) ((⟨k,bA q,n,Ah⟩,true)) (⟨⟨by show q.length≤1048576;omega,CV⟩,fun _=> rfl⟩)
 generalize Ao [DC,H4,AJ,Dm,Co]=G at *
 dsimp only[DC] at g1
 dsimp only[H4] at g2
 dsimp only[AJ] at g3
 dsimp only[Dm] at g4
 dsimp only[Co] at g5
 dsimp only[Co] at g6
 have hrg:=RS w
 have g2:G 228 [.sl 1 (Cj.map Ae),.str w]=some ⟨.int .i64 (IA w),[]⟩:=g2
 have hwl:Cj.length=9:=rfl
 have hcon:∀r,r=CD (w::rest)→A8 Tryz.prog D 180 [.sl 1 ((w::rest).map Ae)] ⟨.tup [askA r.1,.int .i64 r.2],[]⟩:=by
  intro r hr
  rw[CD] at hr
  generalize IA w=x at *
  generalize Cj=wl at *
  have htl:=hl.tail
  have hrl:=htl.1
  refine Bx (G:=G) (rs:=[(2,some 48),(3,none)]) hok Tryz.func180 Tryz.results180 Tryz.ntmps180 (CG) fun X hP hD hG' hX=> ?_
  simp only[AU,Bz,List.map_cons,Ae]
  have z0:(0:Int).toNat=0:=rfl
  have hdr:∀(y:List AV) (q:List Wd),List.drop (1:Int).toNat (List.take (((y::q.map Ae).length:Nat):Int).toNat (y::q.map Ae))=q.map Ae:=fun y q=> by
   rw[Int.toNat_natCast,List.take_length]
   rfl
  by_cases hk0:x+1=0
  ·have e0:(x+1==0)=true:=by simp[hk0]
   rw[if_pos hk0] at hr
   simp (disch:=omega) only[go_sem,hD,hG',CG,g1,g2,z0,e0,Aa]
   (repeat (with_reducible refine aI ?_))
   refine Aj [] [] (by simp) rfl rfl rfl ?_ ?_ <;> simp only[go_sem]
   simp[hr,At,Ah,askA,Aw,cov,Az,Ad,Af]
  have e0:(x+1==0)=false:=by simp[hk0]
  rw[if_neg hk0] at hr
  have n0:((0:Nat):Int)=0:=rfl
  generalize hk:x+1=k at *
  have lz:∀n:Nat,(((n+1:Nat):Int)==0)=false:=fun n=> by simp;omega
  have lo2:∀n:Nat,(((n+1+1:Nat):Int)==1)=false:=fun n=> by simp;omega
  by_cases hn:k≠1∧k≠7∧k≠8
  ·have m1:(k !=1)=true:=by simp[hn.1]
   have m7:(k !=7)=true:=by simp[hn.2.1]
   have m8:(k !=8)=true:=by simp[hn.2.2]
   have e7:(k==7)=false:=by simp[hn.2.1]
   have e8:(k==8)=false:=by simp[hn.2.2]
   rw[if_pos hn] at hr
   cases rest with
   | nil=>
    have hr:r=(At,2):=hr
    simp (disch:=omega) only[go_sem,hD,hG',CG,g1,g2,z0,e0,hk,Aa]
    (repeat (with_reducible refine aI ?_))
    refine Au.mk [] ?_
    simp (disch:=omega) only[go_sem,hD,hG',CG,n0,m1,m7,m8,Aa]
    (repeat (with_reducible refine aI ?_))
    refine Aj [] [] (by simp) rfl rfl rfl ?_ ?_ <;> simp only[go_sem]
    simp[hr,At,Ah,askA,Aw,cov,Az,Ad,Af]
   | cons q rs=>
    have hr:r=Di k q rs:=hr
    have HQ:=htl.head
    have HW:=htl.tail
    have HL:=HW.1
    unfold Di at hr
    by_cases h2:k=2
    ·have e2:(k==2)=true:=by simp[h2]
     rw[if_pos (by unfold Gj;omega)] at hr
     cases rs with
     | nil=>
      have hr:r=(At,2):=hr
      simp (disch:=omega) only[go_sem,hD,hG',CG,g1,g2,z0,e0,hk,Aa]
      (repeat (with_reducible refine aI ?_))
      refine Au.mk [] ?_
      simp (disch:=omega) only[go_sem,hD,hG',CG,Ae,n0,m1,m7,m8,hdr,lz,lo2,z0,List.take_length,Int.cast_ofNat_Int,e2,Aa]
      (repeat (with_reducible refine aI ?_))
      refine Aj [] [] (by simp) rfl rfl rfl ?_ ?_ <;> simp only[go_sem]
      simp[hr,At,Ah,askA,bA,Aw,cov,Az,Ad,Af]
     | cons y ys=>
      cases ys with
      | nil=>
       have hyl:=HW.head
       have g3:=g3 y hyl
       have hr:r=if (Ak y).2=true then (⟨k,bA q,(Ak y).1,Ah⟩,Ap ⟨k,bA q,(Ak y).1,Ah⟩) else (At,2):=hr
       generalize Ak y=ny at *
       obtain ⟨ny,nb⟩:=ny
       have g6:=g6 k ny q HQ
       simp only at g3 hr
       simp only[C9,Sr,bA] at g6
       cases nb
       ·rw[if_neg (by simp)] at hr
        simp (disch:=omega) only[go_sem,hD,hG',CG,g1,g2,z0,e0,hk,Aa]
        (repeat (with_reducible refine aI ?_))
        refine Au.mk [] ?_
        simp (disch:=omega) only[go_sem,hD,hG',CG,Ae,n0,m1,m7,m8,hdr,lz,lo2,z0,List.take_length,Int.cast_ofNat_Int,e2,g3,Aa]
        (repeat (with_reducible refine aI ?_))
        refine Aj [] [] (by simp) rfl rfl rfl ?_ ?_ <;> simp only[go_sem]
        simp[hr,At,Ah,askA,bA,Aw,cov,Az,Ad,Af]
       ·rw[if_pos rfl] at hr
        simp (disch:=omega) only[go_sem,hD,hG',CG,g1,g2,z0,e0,hk,Aa]
        (repeat (with_reducible refine aI ?_))
        refine Au.mk [] ?_
        simp (disch:=omega) only[go_sem,hD,hG',CG,Ae,n0,m1,m7,m8,hdr,lz,lo2,z0,List.take_length,Int.cast_ofNat_Int,e2,g3,g6,Aa]
        (repeat (with_reducible refine aI ?_))
        refine Aj [] [] (by simp) rfl rfl rfl ?_ ?_ <;> simp only[go_sem]
        simp[hr,At,Ah,askA,bA,Aw,cov,Az,Ad,Af]
      | cons y2 ys=>
       have hr:r=(At,2):=hr
       simp (disch:=omega) only[go_sem,hD,hG',CG,g1,g2,z0,e0,hk,Aa]
       (repeat (with_reducible refine aI ?_))
       refine Au.mk [] ?_
       simp (disch:=omega) only[go_sem,hD,hG',CG,Ae,n0,m1,m7,m8,hdr,lz,lo2,z0,List.take_length,Int.cast_ofNat_Int,e2,Aa]
       (repeat (with_reducible refine aI ?_))
       refine Aj [] [] (by simp) rfl rfl rfl ?_ ?_ <;> simp only[go_sem]
       simp[hr,At,Ah,askA,bA,Aw,cov,Az,Ad,Af]
    have e2:(k==2)=false:=by simp[h2]
    by_cases h6:k=6
    ·have e6:(k==6)=true:=by simp[h6]
     rw[if_pos (by unfold Gj;omega)] at hr
     cases rs with
     | nil=>
      have hr:r=(At,2):=hr
      simp (disch:=omega) only[go_sem,hD,hG',CG,g1,g2,z0,e0,hk,Aa]
      (repeat (with_reducible refine aI ?_))
      refine Au.mk [] ?_
      simp (disch:=omega) only[go_sem,hD,hG',CG,Ae,n0,m1,m7,m8,hdr,lz,lo2,z0,List.take_length,Int.cast_ofNat_Int,e2,e6,Aa]
      (repeat (with_reducible refine aI ?_))
      refine Aj [] [] (by simp) rfl rfl rfl ?_ ?_ <;> simp only[go_sem]
      simp[hr,At,Ah,askA,bA,Aw,cov,Az,Ad,Af]
     | cons y ys=>
      cases ys with
      | nil=>
       have hyl:=HW.head
       have g3:=g3 y hyl
       have hr:r=if (Ak y).2=true then (⟨k,bA q,(Ak y).1,Ah⟩,Ap ⟨k,bA q,(Ak y).1,Ah⟩) else (At,2):=hr
       generalize Ak y=ny at *
       obtain ⟨ny,nb⟩:=ny
       have g6:=g6 k ny q HQ
       simp only at g3 hr
       simp only[C9,Sr,bA] at g6
       cases nb
       ·rw[if_neg (by simp)] at hr
        simp (disch:=omega) only[go_sem,hD,hG',CG,g1,g2,z0,e0,hk,Aa]
        (repeat (with_reducible refine aI ?_))
        refine Au.mk [] ?_
        simp (disch:=omega) only[go_sem,hD,hG',CG,Ae,n0,m1,m7,m8,hdr,lz,lo2,z0,List.take_length,Int.cast_ofNat_Int,e2,e6,g3,Aa]
        (repeat (with_reducible refine aI ?_))
        refine Aj [] [] (by simp) rfl rfl rfl ?_ ?_ <;> simp only[go_sem]
        simp[hr,At,Ah,askA,bA,Aw,cov,Az,Ad,Af]
       ·rw[if_pos rfl] at hr
        simp (disch:=omega) only[go_sem,hD,hG',CG,g1,g2,z0,e0,hk,Aa]
        (repeat (with_reducible refine aI ?_))
        refine Au.mk [] ?_
        simp (disch:=omega) only[go_sem,hD,hG',CG,Ae,n0,m1,m7,m8,hdr,lz,lo2,z0,List.take_length,Int.cast_ofNat_Int,e2,e6,g3,g6,Aa]
        (repeat (with_reducible refine aI ?_))
        refine Aj [] [] (by simp) rfl rfl rfl ?_ ?_ <;> simp only[go_sem]
        simp[hr,At,Ah,askA,bA,Aw,cov,Az,Ad,Af]
      | cons y2 ys=>
       have hr:r=(At,2):=hr
       simp (disch:=omega) only[go_sem,hD,hG',CG,g1,g2,z0,e0,hk,Aa]
       (repeat (with_reducible refine aI ?_))
       refine Au.mk [] ?_
       simp (disch:=omega) only[go_sem,hD,hG',CG,Ae,n0,m1,m7,m8,hdr,lz,lo2,z0,List.take_length,Int.cast_ofNat_Int,e2,e6,Aa]
       (repeat (with_reducible refine aI ?_))
       refine Aj [] [] (by simp) rfl rfl rfl ?_ ?_ <;> simp only[go_sem]
       simp[hr,At,Ah,askA,bA,Aw,cov,Az,Ad,Af]
    have e6:(k==6)=false:=by simp[h6]
    rw[if_neg (by unfold Gj;omega)] at hr
    by_cases h4:k=4
    ·have e4:(k==4)=true:=by simp[h4]
     rw[if_pos h4] at hr
     have g4:=g4 rs HW
     have hnf:=Ha rs [] HW (by simpa using HL) (by simp)
     generalize CE [] rs=np at *
     obtain ⟨⟨n1',n2'⟩,nb⟩:=np
     have g5:=g5 ⟨k,bA q,0,⟨n1',n2'⟩⟩ ⟨by show q.length≤1048576;omega,hnf⟩
     simp only at g4 hr
     simp only[An] at g4
     simp only[askA,Sr,bA] at g5
     cases nb
     ·rw[if_neg (by simp)] at hr
      simp (disch:=omega) only[go_sem,hD,hG',CG,g1,g2,z0,e0,hk,Aa]
      (repeat (with_reducible refine aI ?_))
      refine Au.mk [] ?_
      simp (disch:=omega) only[go_sem,hD,hG',CG,Ae,n0,m1,m7,m8,hdr,lz,lo2,z0,List.take_length,Int.cast_ofNat_Int,e2,e6,e7,e8,e4,g4,Aa]
      (repeat (with_reducible refine aI ?_))
      refine Aj [] [] (by simp) rfl rfl rfl ?_ ?_ <;> simp only[go_sem]
      simp[hr,At,Ah,askA,bA,Aw,cov,Az,Ad,Af]
     ·rw[if_pos rfl] at hr
      simp (disch:=omega) only[go_sem,hD,hG',CG,g1,g2,z0,e0,hk,Aa]
      (repeat (with_reducible refine aI ?_))
      refine Au.mk [] ?_
      simp (disch:=omega) only[go_sem,hD,hG',CG,Ae,n0,m1,m7,m8,hdr,lz,lo2,z0,List.take_length,Int.cast_ofNat_Int,e2,e6,e7,e8,e4,g4,g5,Aa]
      (repeat (with_reducible refine aI ?_))
      refine Aj [] [] (by simp) rfl rfl rfl ?_ ?_ <;> simp only[go_sem]
      simp[hr,At,Ah,askA,bA,Aw,cov,Az,Ad,Af]
    ·have e4:(k==4)=false:=by simp[h4]
     rw[if_neg h4] at hr
     have g6:=g6 k 0 q HQ
     simp only[C9,Sr,bA] at g6
     cases rs with
     | nil=>
      rw[if_pos rfl] at hr
      simp (disch:=omega) only[go_sem,hD,hG',CG,g1,g2,z0,e0,hk,Aa]
      (repeat (with_reducible refine aI ?_))
      refine Au.mk [] ?_
      simp (disch:=omega) only[go_sem,hD,hG',CG,Ae,n0,m1,m7,m8,hdr,lz,lo2,z0,List.take_length,Int.cast_ofNat_Int,e2,e6,e7,e8,e4,g6,Aa]
      (repeat (with_reducible refine aI ?_))
      refine Aj [] [] (by simp) rfl rfl rfl ?_ ?_ <;> simp only[go_sem]
      simp[hr,At,Ah,askA,bA,Aw,cov,Az,Ad,Af]
     | cons y ys=>
      rw[if_neg (by simp)] at hr
      simp (disch:=omega) only[go_sem,hD,hG',CG,g1,g2,z0,e0,hk,Aa]
      (repeat (with_reducible refine aI ?_))
      refine Au.mk [] ?_
      simp (disch:=omega) only[go_sem,hD,hG',CG,Ae,n0,m1,m7,m8,hdr,lz,lo2,z0,List.take_length,Int.cast_ofNat_Int,e2,e6,e7,e8,e4,Aa]
      (repeat (with_reducible refine aI ?_))
      refine Aj [] [] (by simp) rfl rfl rfl ?_ ?_ <;> simp only[go_sem]
      simp[hr,At,Ah,askA,bA,Aw,cov,Az,Ad,Af]
  ·rw[if_neg hn] at hr
   have hr:r=Di k [] rest:=hr
   have HQ:([]:Wd).length≤1000:=by simp
   have HW:=htl
   have HL:=HW.1
   unfold Di at hr
   by_cases h1:k=1
   ·have m1:(k !=1)=false:=by simp[h1]
    have e2:(k==2)=false:=by simp[h1]
    have e6:(k==6)=false:=by simp[h1]
    have e7:(k==7)=false:=by simp[h1]
    have e8:(k==8)=false:=by simp[h1]
    have e4:(k==4)=false:=by simp[h1]
    rw[if_neg (by unfold Gj;omega),if_neg (by omega)] at hr
    have g6:=g6 k 0 [] HQ
    simp only[C9,Sr,bA] at g6
    cases rest with
    | nil=>
     rw[if_pos rfl] at hr
     simp (disch:=omega) only[go_sem,hD,hG',CG,g1,g2,z0,e0,hk,Aa]
     (repeat (with_reducible refine aI ?_))
     refine Au.mk [] ?_
     simp (disch:=omega) only[go_sem,hD,hG',CG,Ae,n0,hdr,lz,lo2,z0,List.take_length,Int.cast_ofNat_Int,m1,e2,e6,e7,e8,e4,g6,Aa]
     (repeat (with_reducible refine aI ?_))
     refine Aj [] [] (by simp) rfl rfl rfl ?_ ?_ <;> simp only[go_sem]
     simp[hr,At,Ah,askA,bA,Aw,cov,Az,Ad,Af]
    | cons y ys=>
     rw[if_neg (by simp)] at hr
     simp (disch:=omega) only[go_sem,hD,hG',CG,g1,g2,z0,e0,hk,Aa]
     (repeat (with_reducible refine aI ?_))
     refine Au.mk [] ?_
     simp (disch:=omega) only[go_sem,hD,hG',CG,Ae,n0,hdr,lz,lo2,z0,List.take_length,Int.cast_ofNat_Int,m1,e2,e6,e7,e8,e4,Aa]
     (repeat (with_reducible refine aI ?_))
     refine Aj [] [] (by simp) rfl rfl rfl ?_ ?_ <;> simp only[go_sem]
     simp[hr,At,Ah,askA,bA,Aw,cov,Az,Ad,Af]
   have m1:(k !=1)=true:=by simp[h1]
   have e2:(k==2)=false:=by simp;omega
   have e6:(k==6)=false:=by simp;omega
   have e4:(k==4)=false:=by simp;omega
   rw[if_pos (by unfold Gj;omega)] at hr
   by_cases h7:k=7
   ·have m7:(k !=7)=false:=by simp[h7]
    have e7:(k==7)=true:=by simp[h7]
    cases rest with
    | nil=>
     have hr:r=(At,2):=hr
     simp (disch:=omega) only[go_sem,hD,hG',CG,g1,g2,z0,e0,hk,Aa]
     (repeat (with_reducible refine aI ?_))
     refine Au.mk [] ?_
     simp (disch:=omega) only[go_sem,hD,hG',CG,Ae,n0,hdr,lz,lo2,z0,List.take_length,Int.cast_ofNat_Int,m1,m7,e2,e6,e7,e4,Aa]
     (repeat (with_reducible refine aI ?_))
     refine Aj [] [] (by simp) rfl rfl rfl ?_ ?_ <;> simp only[go_sem]
     simp[hr,At,Ah,askA,bA,Aw,cov,Az,Ad,Af]
    | cons y ys=>
     cases ys with
     | nil=>
      have hyl:=HW.head
      have g3:=g3 y hyl
      have hr:r=if (Ak y).2=true then (⟨k,bA [],(Ak y).1,Ah⟩,Ap ⟨k,bA [],(Ak y).1,Ah⟩) else (At,2):=hr
      generalize Ak y=ny at *
      obtain ⟨ny,nb⟩:=ny
      have g6:=g6 k ny [] HQ
      simp only at g3 hr
      simp only[C9,Sr,bA] at g6
      cases nb
      ·rw[if_neg (by simp)] at hr
       simp (disch:=omega) only[go_sem,hD,hG',CG,g1,g2,z0,e0,hk,Aa]
       (repeat (with_reducible refine aI ?_))
       refine Au.mk [] ?_
       simp (disch:=omega) only[go_sem,hD,hG',CG,Ae,n0,hdr,lz,lo2,z0,List.take_length,Int.cast_ofNat_Int,m1,m7,e2,e6,e7,e4,g3,Aa]
       (repeat (with_reducible refine aI ?_))
       refine Aj [] [] (by simp) rfl rfl rfl ?_ ?_ <;> simp only[go_sem]
       simp[hr,At,Ah,askA,bA,Aw,cov,Az,Ad,Af]
      ·rw[if_pos rfl] at hr
       simp (disch:=omega) only[go_sem,hD,hG',CG,g1,g2,z0,e0,hk,Aa]
       (repeat (with_reducible refine aI ?_))
       refine Au.mk [] ?_
       simp (disch:=omega) only[go_sem,hD,hG',CG,Ae,n0,hdr,lz,lo2,z0,List.take_length,Int.cast_ofNat_Int,m1,m7,e2,e6,e7,e4,g3,g6,Aa]
       (repeat (with_reducible refine aI ?_))
       refine Aj [] [] (by simp) rfl rfl rfl ?_ ?_ <;> simp only[go_sem]
       simp[hr,At,Ah,askA,bA,Aw,cov,Az,Ad,Af]
     | cons y2 ys=>
      have hr:r=(At,2):=hr
      simp (disch:=omega) only[go_sem,hD,hG',CG,g1,g2,z0,e0,hk,Aa]
      (repeat (with_reducible refine aI ?_))
      refine Au.mk [] ?_
      simp (disch:=omega) only[go_sem,hD,hG',CG,Ae,n0,hdr,lz,lo2,z0,List.take_length,Int.cast_ofNat_Int,m1,m7,e2,e6,e7,e4,Aa]
      (repeat (with_reducible refine aI ?_))
      refine Aj [] [] (by simp) rfl rfl rfl ?_ ?_ <;> simp only[go_sem]
      simp[hr,At,Ah,askA,bA,Aw,cov,Az,Ad,Af]
   have m7:(k !=7)=true:=by simp[h7]
   have m8:(k !=8)=false:=by simp;omega
   have e7:(k==7)=false:=by simp[h7]
   have e8:(k==8)=true:=by simp;omega
   cases rest with
   | nil=>
    have hr:r=(At,2):=hr
    simp (disch:=omega) only[go_sem,hD,hG',CG,g1,g2,z0,e0,hk,Aa]
    (repeat (with_reducible refine aI ?_))
    refine Au.mk [] ?_
    simp (disch:=omega) only[go_sem,hD,hG',CG,Ae,n0,hdr,lz,lo2,z0,List.take_length,Int.cast_ofNat_Int,m1,m7,m8,e2,e6,e7,e8,e4,Aa]
    (repeat (with_reducible refine aI ?_))
    refine Aj [] [] (by simp) rfl rfl rfl ?_ ?_ <;> simp only[go_sem]
    simp[hr,At,Ah,askA,bA,Aw,cov,Az,Ad,Af]
   | cons y ys=>
    cases ys with
    | nil=>
     have hyl:=HW.head
     have g3:=g3 y hyl
     have hr:r=if (Ak y).2=true then (⟨k,bA [],(Ak y).1,Ah⟩,Ap ⟨k,bA [],(Ak y).1,Ah⟩) else (At,2):=hr
     generalize Ak y=ny at *
     obtain ⟨ny,nb⟩:=ny
     have g6:=g6 k ny [] HQ
     simp only at g3 hr
     simp only[C9,Sr,bA] at g6
     cases nb
     ·rw[if_neg (by simp)] at hr
      simp (disch:=omega) only[go_sem,hD,hG',CG,g1,g2,z0,e0,hk,Aa]
      (repeat (with_reducible refine aI ?_))
      refine Au.mk [] ?_
      simp (disch:=omega) only[go_sem,hD,hG',CG,Ae,n0,hdr,lz,lo2,z0,List.take_length,Int.cast_ofNat_Int,m1,m7,m8,e2,e6,e7,e8,e4,g3,Aa]
      (repeat (with_reducible refine aI ?_))
      refine Aj [] [] (by simp) rfl rfl rfl ?_ ?_ <;> simp only[go_sem]
      simp[hr,At,Ah,askA,bA,Aw,cov,Az,Ad,Af]
     ·rw[if_pos rfl] at hr
      simp (disch:=omega) only[go_sem,hD,hG',CG,g1,g2,z0,e0,hk,Aa]
      (repeat (with_reducible refine aI ?_))
      refine Au.mk [] ?_
      simp (disch:=omega) only[go_sem,hD,hG',CG,Ae,n0,hdr,lz,lo2,z0,List.take_length,Int.cast_ofNat_Int,m1,m7,m8,e2,e6,e7,e8,e4,g3,g6,Aa]
      (repeat (with_reducible refine aI ?_))
      refine Aj [] [] (by simp) rfl rfl rfl ?_ ?_ <;> simp only[go_sem]
      simp[hr,At,Ah,askA,bA,Aw,cov,Az,Ad,Af]
    | cons y2 ys=>
     have hr:r=(At,2):=hr
     simp (disch:=omega) only[go_sem,hD,hG',CG,g1,g2,z0,e0,hk,Aa]
     (repeat (with_reducible refine aI ?_))
     refine Au.mk [] ?_
     simp (disch:=omega) only[go_sem,hD,hG',CG,Ae,n0,hdr,lz,lo2,z0,List.take_length,Int.cast_ofNat_Int,m1,m7,m8,e2,e6,e7,e8,e4,Aa]
     (repeat (with_reducible refine aI ?_))
     refine Aj [] [] (by simp) rfl rfl rfl ?_ ?_ <;> simp only[go_sem]
     simp[hr,At,Ah,askA,bA,Aw,cov,Az,Ad,Af]
 exact hcon _ rfl
def RJ:BH Tryz.prog D:=⟨180,List Wd,fun l=> [.sl 1 (l.map Ae)],fun l=> l≠[]∧Ja l,fun l=> ⟨.tup [askA (CD l).1,.int .i64 (CD l).2],[]⟩,fun x y _ _ h=> by
 simp only[List.cons.injEq,AV.sl.injEq,true_and,and_true] at h
 rw[EF h],fun l h=> ZI l h.1 h.2⟩
theorem KF (sep:Wd):∀(k:Nat) (s:Wd),(Lib.splitK sep 0 k s).length≤k+1
 | 0,s=> by simp[Lib.splitK]
 | k+1,s=> by
  rw[Lib.splitK]
  split
  ·simp
  ·simp only[List.length_cons]
   have:=KF sep k (s.drop ((Lib.index s sep).toNat+sep.length))
   omega
theorem Sk (sep:Wd):∀(k:Nat) (s:Wd),Lib.splitK sep 0 k s≠[]
 | 0,s=> by simp[Lib.splitK]
 | k+1,s=> by
  rw[Lib.splitK]
  split <;> simp
theorem E6 (sep:Wd):∀(k:Nat) (s:Wd),∀w∈Lib.splitK sep 0 k s,w.length≤s.length
 | 0,s,w,h=> by simp[Lib.splitK] at h;rw[h];exact Nat.le_refl _
 | k+1,s,w,h=> by
  rw[Lib.splitK] at h
  split at h
  ·simp at h;rw[h];exact Nat.le_refl _
  ·rcases List.mem_cons.1 h with h | h
   ·rw[h,List.length_take];omega
   ·have:=E6 sep k _ w h
    rw[List.length_drop] at this
    omega
theorem Q9 (s sep:Wd) (h1:1≤sep.length) (hs:s.length≤999):Lib.split s sep≠[]∧Ja (Lib.split s sep):=by
 refine ⟨Sk _ _ _,?_,fun w hw=> ?_⟩
 ·have:=KF sep (Lib.count s sep) s
  have h2:Lib.count s sep≤s.length:=Lib.countB_le (bA sep) h1 _ (bA s) (Nat.le_refl _)
  show (Lib.splitK sep 0 (Lib.count s sep) s).length≤1000
  omega
 ·have:=E6 sep _ _ w hw
  omega
theorem KY {b:Wd} (h:(Bj b).2.2=0):(Bj b).1≠[]∧Ja (Bj b).1:=by
 unfold Bj at *
 split at h
 ·cases h
 ·split at h
  ·cases h
  ·rename_i h1 h2
   rw[if_neg h1,if_neg h2]
   exact Q9 (b.take (Lh b).toNat) [32] (by decide) (by rw[List.length_take];omega)
theorem UU (b:Wd) (hb:b.length≤16777216):A8 Tryz.prog D 123 [.sl 1 (b.map Ac)] ⟨.tup [askA (Dw b).1,.int .i64 (Dw b).2.1,.int .i64 (Dw b).2.2],[]⟩:=by
 have hok:Cl Tryz.prog D (Ao [I2,RJ]):=Ar _
 have g1:=Ag (T:=[I2,RJ]) (E:=I2) (i:=0) rfl (by decide) (b) (hb)
 have g2:=fun (h:(Bj b).2.2=0)=> Ag (T:=[I2,RJ]) (E:=RJ) (i:=1) rfl (by decide) ((Bj b).1) (KY h)
 generalize Ao [I2,RJ]=G at *
 dsimp only[I2] at g1
 dsimp only[RJ] at g2
 unfold Dw
 generalize Bj b=x at *
 obtain ⟨ws,n,e⟩:=x
 simp only at g1 g2
 refine Bx (G:=G) (rs:=[(2,some 48),(3,none),(4,none)]) hok Tryz.func123 Tryz.results123 Tryz.ntmps123 (fun _=> {}) fun X hP hD hG' hX=> ?_
 simp only[AU,Bz]
 by_cases he:e=0
 ·have de:(e !=0)=false:=by simp[he]
  have g2:=g2 he
  rw[if_neg (by simp[he])]
  generalize CD ws=y at *
  obtain ⟨⟨k,q,an,⟨ps,bs⟩⟩,er⟩:=y
  simp only[askA] at g2
  by_cases hr:er=0
  ·have dr:(er !=0)=false:=by simp[hr]
   rw[if_neg (by simp[hr])]
   simp (disch:=omega) only[go_sem,hD,hG',g1,de,g2,dr,Aa]
   refine Aj [] [] (by simp) rfl rfl rfl ?_ ?_ <;> simp only[go_sem]
   simp[askA,Aw,cov,Az,Ad,Af]
  ·have dr:(er !=0)=true:=by simp[hr]
   rw[if_pos (by simpa using hr)]
   simp (disch:=omega) only[go_sem,hD,hG',g1,de,g2,dr,Aa]
   refine Aj [] [] (by simp) rfl rfl rfl ?_ ?_ <;> simp only[go_sem]
   simp[askA,At,Ah,Aw,cov,Az,Ad,Af]
 ·have de:(e !=0)=true:=by simp[he]
  rw[if_pos (by simpa using he)]
  simp (disch:=omega) only[go_sem,hD,hG',g1,de,Aa]
  refine Aj [] [] (by simp) rfl rfl rfl ?_ ?_ <;> simp only[go_sem]
  simp[askA,At,Ah,Aw,cov,Az,Ad,Af]
def Gf:BH Tryz.prog D:=⟨123,Wd,fun b=> [.sl 1 (b.map Ac)],fun b=> b.length≤16777216,fun b=> ⟨.tup [askA (Dw b).1,.int .i64 (Dw b).2.1,.int .i64 (Dw b).2.2],[]⟩,fun x y _ _ h=> by
 simp only[List.cons.injEq,AV.sl.injEq,true_and,and_true] at h
 rw[AN h],UU⟩
def Ev (s:A0):AV:=.agg [.int .i64 s.kind,.int .i64 s.n,.int .i64 s.m,.int .i64 s.err,.nils,.nils]
theorem QM {a b:A0} (ha:a.note=Ah) (hb:b.note=Ah) (h:Ev a=Ev b):a=b:=by
 obtain ⟨k,q,n,e,m⟩:=a
 obtain ⟨k',q',n',e',m'⟩:=b
 simp only at ha hb
 subst ha hb
 simp only[Ev,AV.agg.injEq,List.cons.injEq,AV.int.injEq,true_and,and_true] at h
 obtain ⟨rfl,rfl,rfl,rfl⟩:=h
 rfl
def Rl (x:A0×Bool):List AV:=match x.2 with
 | true=> [Ev x.1]
 | false=> [sayA x.1]
def By:BH Tryz.prog D:=⟨79,A0×Bool,Rl,fun x=> x.1.note.Fits∧(x.2=true→x.1.note=Ah),fun x=> ⟨.int .i64 (Am x.1),[]⟩,fun x y hx hy h=> by
 obtain ⟨a,b⟩:=x
 obtain ⟨a',b'⟩:=y
 have h1:=hx.2
 have h2:=hy.2
 simp only at h1 h2
 cases b <;> cases b' <;> simp only[Rl,List.cons.injEq,and_true] at h
 ·rw[CJ h]
 ·simp[sayA,Ev] at h
 ·simp[sayA,Ev] at h
 ·rw[QM (h1 rfl) (h2 rfl) h],fun x h=> by
 obtain ⟨⟨k,q,n,e,m⟩,b⟩:=x
 obtain ⟨h1,h2⟩:=h
 cases b
 ·exact Jj _ h1
 ·have h2:=h2 rfl
  simp only at h1 h2
  subst h2
  exact A8.weak (Jj _ h1) (by simp[Rl,Ev,Ah,sayA,Aw,cov])⟩
def IO:Nat→Lo:=fun id=> match id with | 16=> {uo:=[11,13,15],un:=[4]} | 22=> {uo:=[3],un:=[2]} | _=> {}
theorem ZK (l:List Wd) (hne:l≠[]) (hl:Ja l):A8 Tryz.prog D 184 [.sl 1 (l.map Ae)] ⟨.tup [sayA (Ej l).1,.int .i64 (Ej l).2],[]⟩:=by
 cases l with
 | nil=> exact absurd rfl hne
 | cons w rest=>
 have hok:Cl Tryz.prog D (Ao [Bp,AJ,Dm,By]):=Ar _
 have g1:=Ag (T:=[Bp,AJ,Dm,By]) (E:=Bp) (i:=0) rfl (by decide) ((w,[45])) (trivial)
 have hpl:=BP w [45]
 have hwl:=hl.head
 have g3:=fun (x:Wd) (h:x.length≤1000)=> Ag (T:=[Bp,AJ,Dm,By]) (E:=AJ) (i:=1) rfl (by decide) (x) (by show x.length≤281474976710656;omega)
 have g4:=fun (x:List Wd) (h:Ja x)=> Ag (T:=[Bp,AJ,Dm,By]) (E:=Dm) (i:=2) rfl (by decide) (x) (h.big)
 have g5:=fun (s:A0) (h:s.note.Fits)=> Ag (T:=[Bp,AJ,Dm,By]) (E:=By) (i:=3) rfl (by decide) ((s,false)) (⟨h,fun h=> by cases h⟩)
 have g6:=fun (k e:Int)=> Ag (T:=[Bp,AJ,Dm,By]) (E:=By) (i:=3) rfl (by decide) ((⟨k,0,0,e,Ah⟩,true)) (⟨CV,fun _=> rfl⟩)
 generalize Ao [Bp,AJ,Dm,By]=G at *
 dsimp only[Bp] at g1
 dsimp only[AJ] at g3
 dsimp only[Dm] at g4
 dsimp only[By] at g5
 dsimp only[By] at g6
 have hcon:∀r,r=Ej (w::rest)→A8 Tryz.prog D 184 [.sl 1 ((w::rest).map Ae)] ⟨.tup [sayA r.1,.int .i64 r.2],[]⟩:=by
  intro r hr
  rw[Ej] at hr
  have htl:=hl.tail
  have hrl:=htl.1
  have z0:(0:Int).toNat=0:=rfl
  have n0:((0:Nat):Int)=0:=rfl
  have lo2:∀n:Nat,(((n+1+1:Nat):Int)==1)=false:=fun n=> by simp;omega
  have g3t:=g3 (Lib.trimPrefix w [45]) (by omega)
  generalize Lib.trimPrefix w [45]=tw at *
  generalize Lib.hasPrefix w [45]=bw at *
  refine Bx (G:=G) (rs:=[(2,some 53),(3,none)]) hok Tryz.func184 Tryz.results184 Tryz.ntmps184 (IO) fun X hP hD hG' hX=> ?_
  simp only[AU,Bz,List.map_cons,Ae]
  by_cases h1:w=[43,111,107]
  ·have b1:(w==[43,111,107])=true:=by simp[h1]
   rw[if_pos h1] at hr
   have g6:=g6 1 0
   simp only[Ev,Rl] at g6
   cases rest with
   | nil=>
    have hr:r=(⟨1,0,0,0,Ah⟩,Am ⟨1,0,0,0,Ah⟩):=hr
    simp (disch:=omega) only[go_sem,hD,hG',g1,n0,lo2,z0,Int.cast_ofNat_Int,Ae,b1,IO,g6,Aa]
    (repeat (with_reducible refine aI ?_))
    refine Aj [] [] (by simp) rfl rfl rfl ?_ ?_ <;> simp only[go_sem]
    simp[hr,AE,Ah,sayA,Aw,cov,Az,Ad,Af]
   | cons y ys=>
    have hr:r=(AE,2):=hr
    simp (disch:=omega) only[go_sem,hD,hG',g1,n0,lo2,z0,Int.cast_ofNat_Int,Ae,b1,IO,Aa]
    (repeat (with_reducible refine aI ?_))
    refine Aj [] [] (by simp) rfl rfl rfl ?_ ?_ <;> simp only[go_sem]
    simp[hr,AE,Ah,sayA,Aw,cov,Az,Ad,Af]
  have b1:(w==[43,111,107])=false:=by simp[h1]
  rw[if_neg h1] at hr
  by_cases h2:w=[43,110,111,110,101]
  ·have b2:(w==[43,110,111,110,101])=true:=by simp[h2]
   rw[if_pos h2] at hr
   have g6:=g6 3 0
   simp only[Ev,Rl] at g6
   cases rest with
   | nil=>
    have hr:r=(⟨3,0,0,0,Ah⟩,Am ⟨3,0,0,0,Ah⟩):=hr
    simp (disch:=omega) only[go_sem,hD,hG',g1,n0,lo2,z0,Int.cast_ofNat_Int,Ae,b1,b2,IO,g6,Aa]
    (repeat (with_reducible refine aI ?_))
    refine Aj [] [] (by simp) rfl rfl rfl ?_ ?_ <;> simp only[go_sem]
    simp[hr,AE,Ah,sayA,Aw,cov,Az,Ad,Af]
   | cons y ys=>
    have hr:r=(AE,2):=hr
    simp (disch:=omega) only[go_sem,hD,hG',g1,n0,lo2,z0,Int.cast_ofNat_Int,Ae,b1,b2,IO,Aa]
    (repeat (with_reducible refine aI ?_))
    refine Aj [] [] (by simp) rfl rfl rfl ?_ ?_ <;> simp only[go_sem]
    simp[hr,AE,Ah,sayA,Aw,cov,Az,Ad,Af]
  have b2:(w==[43,110,111,110,101])=false:=by simp[h2]
  rw[if_neg h2] at hr
  by_cases h3:w=[43,105,116,101,109]
  ·have b3:(w==[43,105,116,101,109])=true:=by simp[h3]
   rw[if_pos h3] at hr
   have d1:decide ((1:Int) > 3)=false:=by decide
   have d2:decide ((2:Int) > 3)=false:=by decide
   have d3:decide ((3:Int) > 3)=false:=by decide
   have d4:∀n:Nat,decide (((n+1+1+1+1:Nat):Int) > 3)=true:=fun n=> decide_eq_true (by omega)
   cases rest with
   | nil=>
    have hr:r=(AE,2):=hr
    simp (disch:=omega) only[go_sem,hD,hG',g1,n0,lo2,z0,Int.cast_ofNat_Int,Ae,b1,b2,b3,d1,d2,d3,d4,IO,Aa]
    (repeat (with_reducible refine aI ?_))
    refine Aj [] [] (by simp) rfl rfl rfl ?_ ?_ <;> simp only[go_sem]
    simp[hr,AE,Ah,sayA,Aw,cov,Az,Ad,Af]
   | cons x rest=>
   cases rest with
   | nil=>
    have hr:r=(AE,2):=hr
    simp (disch:=omega) only[go_sem,hD,hG',g1,n0,lo2,z0,Int.cast_ofNat_Int,Ae,b1,b2,b3,d1,d2,d3,d4,IO,Aa]
    (repeat (with_reducible refine aI ?_))
    refine Aj [] [] (by simp) rfl rfl rfl ?_ ?_ <;> simp only[go_sem]
    simp[hr,AE,Ah,sayA,Aw,cov,Az,Ad,Af]
   | cons y rest=>
   cases rest with
   | nil=>
    have hr:r=(AE,2):=hr
    simp (disch:=omega) only[go_sem,hD,hG',g1,n0,lo2,z0,Int.cast_ofNat_Int,Ae,b1,b2,b3,d1,d2,d3,d4,IO,Aa]
    (repeat (with_reducible refine aI ?_))
    refine Aj [] [] (by simp) rfl rfl rfl ?_ ?_ <;> simp only[go_sem]
    simp[hr,AE,Ah,sayA,Aw,cov,Az,Ad,Af]
   | cons z t=>
    have hr:r=CO ⟨2,(Ak x).1,(Ak y).1,0,(CE [] (z::t)).1⟩ ((Ak x).2&&(Ak y).2&&(CE [] (z::t)).2):=hr
    have hdr:∀(a b c d:List AV),List.drop (3:Int).toNat (List.take (((a::b::c::d::t.map Ae).length:Nat):Int).toNat (a::b::c::d::t.map Ae))=d::t.map Ae:=fun a b c d=> by
     rw[Int.toNat_natCast,List.take_length]
     rfl
    have hzt:=htl.tail.tail
    have gx:=g3 x htl.head
    have gy:=g3 y htl.tail.head
    have g4:=g4 (z::t) hzt
    have hnf:=Ha (z::t) [] hzt (by have:=hzt.1;simpa using this) (by simp)
    generalize Ak x=nx at *
    generalize Ak y=ny at *
    generalize CE [] (z::t)=np at *
    obtain ⟨x1,x2⟩:=nx
    obtain ⟨y1,y2⟩:=ny
    obtain ⟨⟨p1,p2⟩,pb⟩:=np
    have g5:=g5 ⟨2,x1,y1,0,⟨p1,p2⟩⟩ hnf
    simp only[List.map_cons,Ae,An] at gx gy g4 hr
    simp only[sayA,Rl] at g5
    have z1:(1:Int).toNat=1:=rfl
    have z2:(2:Int).toNat=2:=rfl
    simp (disch:=omega) only[go_sem,hD,hG',g1,n0,lo2,z0,Int.cast_ofNat_Int,Ae,b1,b2,b3,d4,gx,gy,g4,hdr,z1,z2,List.take_length,IO,Aa]
    (repeat (with_reducible refine aI ?_))
    refine CP.mk [] (by decide) ?_
    simp (disch:=omega) only[go_sem,hD,hG',IO,Aa]
    (repeat (with_reducible refine aI ?_))
    have key:(if (if x2=true then y2 else false)=true then pb else false)=(x2&&y2&&pb):=by cases x2 <;> cases y2 <;> rfl
    rw[key]
    generalize (x2&&y2&&pb)=bb at *
    cases bb
    ·have hr:r=(AE,2):=hr
     simp (disch:=omega) only[go_sem,hD,hG',IO,Aa]
     (repeat (with_reducible refine aI ?_))
     refine Aj [] [] (by simp) rfl rfl rfl ?_ ?_ <;> simp only[go_sem]
     simp[hr,AE,Ah,sayA,Aw,cov,Az,Ad,Af]
    ·have hr:r=(⟨2,x1,y1,0,⟨p1,p2⟩⟩,Am ⟨2,x1,y1,0,⟨p1,p2⟩⟩):=hr
     simp (disch:=omega) only[go_sem,hD,hG',IO,g5,Aa]
     (repeat (with_reducible refine aI ?_))
     refine Aj [] [] (by simp) rfl rfl rfl ?_ ?_ <;> simp only[go_sem]
     simp[hr,AE,Ah,sayA,Aw,cov,Az,Ad,Af]
  have b3:(w==[43,105,116,101,109])=false:=by simp[h3]
  rw[if_neg h3] at hr
  cases bw
  ·have hr:r=(AE,1):=hr
   simp (disch:=omega) only[go_sem,hD,hG',g1,n0,lo2,z0,Int.cast_ofNat_Int,Ae,b1,b2,b3,IO,Aa]
   (repeat (with_reducible refine aI ?_))
   refine Aj [] [] (by simp) rfl rfl rfl ?_ ?_ <;> simp only[go_sem]
   simp[hr,AE,Ah,sayA,Aw,cov,Az,Ad,Af]
  ·rw[if_pos rfl] at hr
   generalize Ak tw=nt at *
   obtain ⟨n1,nb⟩:=nt
   simp only at g3t hr
   have g6:=g6 4 n1
   simp only[Ev,Rl] at g6
   cases rest with
   | cons y ys=>
    have hr:r=(AE,2):=hr
    simp (disch:=omega) only[go_sem,hD,hG',g1,n0,lo2,z0,Int.cast_ofNat_Int,Ae,b1,b2,b3,g3t,IO,Aa]
    (repeat (with_reducible refine aI ?_))
    refine Au.mk [] ?_
    simp (disch:=omega) only[go_sem,hD,hG',g1,n0,lo2,z0,Int.cast_ofNat_Int,Ae,b1,b2,b3,g3t,IO,Aa]
    (repeat (with_reducible refine aI ?_))
    refine Aj [] [] (by simp) rfl rfl rfl ?_ ?_ <;> simp only[go_sem]
    simp[hr,AE,Ah,sayA,Aw,cov,Az,Ad,Af]
   | nil=>
    cases nb
    ·have hr:r=(AE,2):=hr
     simp (disch:=omega) only[go_sem,hD,hG',g1,n0,lo2,z0,Int.cast_ofNat_Int,Ae,b1,b2,b3,g3t,IO,Aa]
     (repeat (with_reducible refine aI ?_))
     refine Au.mk [] ?_
     simp (disch:=omega) only[go_sem,hD,hG',g1,n0,lo2,z0,Int.cast_ofNat_Int,Ae,b1,b2,b3,g3t,IO,Aa]
     (repeat (with_reducible refine aI ?_))
     refine Aj [] [] (by simp) rfl rfl rfl ?_ ?_ <;> simp only[go_sem]
     simp[hr,AE,Ah,sayA,Aw,cov,Az,Ad,Af]
    ·have hr:r=(⟨4,0,0,n1,Ah⟩,Am ⟨4,0,0,n1,Ah⟩):=hr
     simp (disch:=omega) only[go_sem,hD,hG',g1,n0,lo2,z0,Int.cast_ofNat_Int,Ae,b1,b2,b3,g3t,IO,Aa]
     (repeat (with_reducible refine aI ?_))
     refine Au.mk [] ?_
     simp (disch:=omega) only[go_sem,hD,hG',g1,n0,lo2,z0,Int.cast_ofNat_Int,Ae,b1,b2,b3,g3t,IO,g6,Aa]
     (repeat (with_reducible refine aI ?_))
     refine Aj [] [] (by simp) rfl rfl rfl ?_ ?_ <;> simp only[go_sem]
     simp[hr,AE,Ah,sayA,Aw,cov,Az,Ad,Af]
 exact hcon _ rfl
def RK:BH Tryz.prog D:=⟨184,List Wd,fun l=> [.sl 1 (l.map Ae)],fun l=> l≠[]∧Ja l,fun l=> ⟨.tup [sayA (Ej l).1,.int .i64 (Ej l).2],[]⟩,fun x y _ _ h=> by
 simp only[List.cons.injEq,AV.sl.injEq,true_and,and_true] at h
 rw[EF h],fun l h=> ZK l h.1 h.2⟩
theorem UV (b:Wd) (hb:b.length≤16777216):A8 Tryz.prog D 125 [.sl 1 (b.map Ac)] ⟨.tup [sayA (Dx b).1,.int .i64 (Dx b).2.1,.int .i64 (Dx b).2.2],[]⟩:=by
 have hok:Cl Tryz.prog D (Ao [I2,RK]):=Ar _
 have g1:=Ag (T:=[I2,RK]) (E:=I2) (i:=0) rfl (by decide) (b) (hb)
 have g2:=fun (h:(Bj b).2.2=0)=> Ag (T:=[I2,RK]) (E:=RK) (i:=1) rfl (by decide) ((Bj b).1) (KY h)
 generalize Ao [I2,RK]=G at *
 dsimp only[I2] at g1
 dsimp only[RK] at g2
 unfold Dx
 generalize Bj b=x at *
 obtain ⟨ws,n,e⟩:=x
 simp only at g1 g2
 refine Bx (G:=G) (rs:=[(2,some 53),(3,none),(4,none)]) hok Tryz.func125 Tryz.results125 Tryz.ntmps125 (fun _=> {}) fun X hP hD hG' hX=> ?_
 simp only[AU,Bz]
 by_cases he:e=0
 ·have de:(e !=0)=false:=by simp[he]
  have g2:=g2 he
  rw[if_neg (by simp[he])]
  generalize Ej ws=y at *
  obtain ⟨⟨k,q,an,ae,⟨ps,bs⟩⟩,er⟩:=y
  simp only[sayA] at g2
  by_cases hr:er=0
  ·have dr:(er !=0)=false:=by simp[hr]
   rw[if_neg (by simp[hr])]
   simp (disch:=omega) only[go_sem,hD,hG',g1,de,g2,dr,Aa]
   refine Aj [] [] (by simp) rfl rfl rfl ?_ ?_ <;> simp only[go_sem]
   simp[sayA,Aw,cov,Az,Ad,Af]
  ·have dr:(er !=0)=true:=by simp[hr]
   rw[if_pos (by simpa using hr)]
   simp (disch:=omega) only[go_sem,hD,hG',g1,de,g2,dr,Aa]
   refine Aj [] [] (by simp) rfl rfl rfl ?_ ?_ <;> simp only[go_sem]
   simp[sayA,AE,Ah,Aw,cov,Az,Ad,Af]
 ·have de:(e !=0)=true:=by simp[he]
  rw[if_pos (by simpa using he)]
  simp (disch:=omega) only[go_sem,hD,hG',g1,de,Aa]
  refine Aj [] [] (by simp) rfl rfl rfl ?_ ?_ <;> simp only[go_sem]
  simp[sayA,AE,Ah,Aw,cov,Az,Ad,Af]
def Gg:BH Tryz.prog D:=⟨125,Wd,fun b=> [.sl 1 (b.map Ac)],fun b=> b.length≤16777216,fun b=> ⟨.tup [sayA (Dx b).1,.int .i64 (Dx b).2.1,.int .i64 (Dx b).2.2],[]⟩,fun x y _ _ h=> by
 simp only[List.cons.injEq,AV.sl.injEq,true_and,and_true] at h
 rw[AN h],UV⟩
end Go.Proofs.YtlkmgccikgnaeaaGreatDoor.Ab
