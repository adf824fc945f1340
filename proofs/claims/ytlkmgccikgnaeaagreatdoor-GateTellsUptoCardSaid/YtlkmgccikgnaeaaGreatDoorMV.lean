/-
  Texts of the proof, one behind the other: RlE RlF RlG.
  No condition but those that each theorem names.
-/
import Derived.Test.YtlkmgccikgnaeaaGreatDoorMU
import Derived.Test.YtlkmgccikgnaeaaGreatDoorMC
import Derived.Test.YtlkmgccikgnaeaaGreatDoorMR
import Derived.Test.YtlkmgccikgnaeaaGreatDoorMG
import Derived.Test.YtlkmgccikgnaeaaGreatDoorMH
set_option linter.unusedVariables false
set_option linter.unusedSimpArgs false
set_option maxRecDepth 100000
set_option maxHeartbeats 16000000
namespace Go.Proofs.YtlkmgccikgnaeaaGreatDoor.Ab
open Go Go.RowKit
theorem Yg (e:Int):A8 Tryz.prog D 143 [.int .i64 e] ⟨.tup [.agg [.int .i64 0,.str [],.int .i64 0,.nils,.nils],.int .i64 0,.int .i64 e],[]⟩:=by
 have hok:Cl Tryz.prog D (Ao []):=Ar _
 generalize Ao []=G at *
 refine Bx (G:=G) (rs:=[(2,some 48),(3,none),(4,none)]) hok Tryz.func143 Tryz.results143 Tryz.ntmps143 (fun _=> {}) fun X hP hD hG' hX=> ?_
 simp only[AU,Bz]
 simp (disch:=omega) only[go_sem,hD,hG',Aa]
 refine Aj [] [] (by simp) rfl rfl rfl ?_ ?_ <;> simp only[go_sem]
def G1:BH Tryz.prog D:=⟨143,Int,fun e=> [.int .i64 e],fun _=> True,fun e=> ⟨.tup [.agg [.int .i64 0,.str [],.int .i64 0,.nils,.nils],.int .i64 0,.int .i64 e],[]⟩,fun x y _ _ h=> by
 simp only[List.cons.injEq,AV.int.injEq,true_and,and_true] at h
 rw[h],fun e _=> Yg e⟩
def BJ:BH Tryz.prog D:=⟨146,List Wd,fun l=> [.sl 1 (l.map Ae)],fun l=> l.length≤1048576∧∀w∈l,w.length≤8388608,fun l=> ⟨.tup [An (Fj [] l).1,.bool (Fj [] l).2],[]⟩,fun x y _ _ h=> by
 simp only[List.cons.injEq,AV.sl.injEq,true_and,and_true] at h
 rw[EF h],fun l h=> UY l h.1 h.2⟩
def BB:BH Tryz.prog D:=⟨41,AX×Bool,Sr,fun x=> x.1.Fits∧(x.2=true→x.1.note=Ah),fun x=> ⟨.int .i64 (Ap x.1),[]⟩,fun x y hx hy h=> by
 obtain ⟨a,b⟩:=x
 obtain ⟨a',b'⟩:=y
 have h1:=hx.2
 have h2:=hy.2
 simp only at h1 h2
 cases b <;> cases b' <;> simp only[Sr,List.cons.injEq,and_true] at h
 ·rw[Cv h]
 ·simp[askA,C9] at h
 ·simp[askA,C9] at h
 ·rw[R2 (h1 rfl) (h2 rfl) h],fun x h=> by
 obtain ⟨⟨k,q,n,m⟩,b⟩:=x
 obtain ⟨h1,h2⟩:=h
 cases b
 ·exact Gu _ h1
 ·have h2:=h2 rfl
  simp only at h1 h2
  subst h2
  exact A8.weak (Gu _ h1) (by simp[Sr,C9,Ah,askA,Aw,cov])⟩
theorem XC {w:Wd} {i:Nat} {b:Bool} (hi:i < 10) (h:(decide ((i:Int) > 0)&&(DD.getD i []==w))=b):(b=true→IA w+1=i)∧(b=false→IA w+1≠i∨i=0):=by
 have:=Aao w i hi
 rw[h] at this
 refine ⟨fun hb=> ?_,fun hb=> ?_⟩
 ·rw[hb] at this
  exact (of_decide_eq_true this.symm).2
 ·rw[hb] at this
  have:=of_decide_eq_false this.symm
  omega
theorem SM (b:Wd) (hb:b.length≤16777216):A8 Tryz.prog D 87 [.sl 1 (b.map Ac)] ⟨.tup [askA (Dw b).1,.int .i64 (Dw b).2.1,.int .i64 (Dw b).2.2],[]⟩:=by
 have hok:Cl Tryz.prog D (Ao [G1,C0,CM,AH,BJ,BB]):=Ar _
 have g0:=fun (e:Int)=> Ag (T:=[G1,C0,CM,AH,BJ,BB]) (E:=G1) (i:=0) rfl (by decide) (e) (trivial)
 have g1:=Ag (T:=[G1,C0,CM,AH,BJ,BB]) (E:=C0) (i:=1) rfl (by decide) (b) (hb)
 have g2:=Ag (T:=[G1,C0,CM,AH,BJ,BB]) (E:=CM) (i:=2) rfl (by decide) (()) (trivial)
 have g3:=fun (x:Wd) (h:x.length≤1000)=> Ag (T:=[G1,C0,CM,AH,BJ,BB]) (E:=AH) (i:=3) rfl (by decide) (x) (by show x.length≤281474976710656;omega)
 have g4:=fun (x:List Wd) (h:Ja x)=> Ag (T:=[G1,C0,CM,AH,BJ,BB]) (E:=BJ) (i:=4) rfl (by decide) (x) (h.big)
 have g5:=fun (a:AX) (h:a.Fits)=> Ag (T:=[G1,C0,CM,AH,BJ,BB]) (E:=BB) (i:=5) rfl (by decide) ((a,false)) (⟨h,fun h=> by cases h⟩)
 have g6:=fun (k n:Int) (q:Wd) (h:q.length≤1000)=> Ag (T:=[G1,C0,CM,AH,BJ,BB]) (E:=BB) (i:=5) rfl (by decide) ((⟨k,bA q,n,Ah⟩,true)) (⟨⟨by show q.length≤1048576;omega,CV⟩,fun _=> rfl⟩)
 generalize Ao [G1,C0,CM,AH,BJ,BB]=G at *
 dsimp only[G1] at g0
 dsimp only[C0] at g1
 dsimp only[CM] at g2
 dsimp only[AH] at g3
 dsimp only[BJ] at g4
 dsimp only[BB] at g5
 dsimp only[BB] at g6
 have hcon:∀r,r=Dw b→A8 Tryz.prog D 87 [.sl 1 (b.map Ac)] ⟨.tup [askA r.1,.int .i64 r.2.1,.int .i64 r.2.2],[]⟩:=by
  intro r hr
  have hok1:=@KY b
  unfold Dw at hr
  generalize Bj b=x at *
  obtain ⟨ws,n,e⟩:=x
  simp only at g1 hr hok1
  have z0:(0:Int).toNat=0:=rfl
  have z1:(1:Int).toNat=1:=rfl
  have n0:((0:Nat):Int)=0:=rfl
  have n1:((1:Nat):Int)=1:=rfl
  have hdr:∀(x:List AV) (l:List (List AV)),List.drop (1:Int).toNat (List.take ((((x::l).length:Nat):Int)).toNat (x::l))=l:=fun x l=> by
   rw[Int.toNat_natCast,List.take_length]
   rfl
  refine Bx (G:=G) (rs:=[(2,some 48),(3,none),(4,none)]) hok Tryz.func87 Tryz.results87 Tryz.ntmps87 (fun _=> {}) fun X hP hD hG' hX=> ?_
  simp only[AU,Bz]
  by_cases he:e≠0
  ·have de:(e !=0)=true:=by simp[he]
   rw[if_pos he] at hr
   simp (disch:=omega) only[go_sem,hD,hG',g1,de,g0,Aa]
   refine Aj [] [] (by simp) rfl rfl rfl ?_ ?_ <;> simp only[go_sem]
   simp[hr,askA,At,Ah,bA,Aw,cov,Az,Ad,Af]
  have he:e=0:=by simpa using he
  have de:(e !=0)=false:=by simp[he]
  rw[if_neg (by simp[he])] at hr
  obtain ⟨hne,HW⟩:=hok1 he
  cases ws with
  | nil=> exact absurd rfl hne
  | cons w rest=>
  have hws:(w::rest).map Ae=[AV.str w]::rest.map Ae:=rfl
  rw[hws] at g1
  have hnl:DD.length=10:=rfl
  simp (disch:=omega) only[go_sem,hD,hG',g1,de,g2,Aa]
  (repeat (with_reducible refine aI ?_))
  have hrg:=RS w
  refine Tr.loop (ι:=Nat) (fun i=> i≤10) (fun i=> {nt:=147,tm:=[(0,.sl 1 (b.map Ac)),(2,.ptr 2 0),(3,.int .i64 0),(4,.int .i64 0),(5,.func 143 []),(6,.sl 1 ([AV.str w]::rest.map Ae)),(7,.int .i64 n),(9,.ptr 9 0),(29,.sl 1 (DD.map Ae)),(30,.int .i64 10),(31,.int .i64 i)],bl:=[(2,some (.cells [.int .i64 0,.str [],.int .i64 0,.nils,.nils])),(9,some (.cells [.int .i64 (if IA w+1 < i then IA w+1 else 0),.str [],.int .i64 0,.nils,.nils]))]}) (fun i=> 10 - i) 0
   ⟨Nat.zero_le _,AcP hD [4125] [(2,2),(9,9)] rfl rfl (by simp only[go_sem,hnl];simp) (by simp only[go_sem];simp;omega)⟩ ?_
  intro i hi
  refine Al hX (fun _=> {}) _ _ _ ?_
  simp (disch:=omega) only[go_sem,hD,hG',Aa]
  refine Ai (fun h=> ?_) (fun h=> ?_)
  ·rw[decide_eq_true_eq] at h
   have hi1:i < 10:=by omega
   have hgx:=Hi (l:=DD) (i:=i) (by rw[hnl];exact hi1)
   have hixt:=@XC w i true hi1
   have hixf:=@XC w i false hi1
   generalize DD.getD i []=nm at *
   simp only[Ae] at hgx
   simp (disch:=omega) only[go_sem,hD,hG',hgx,z0,Aa]
   (repeat (with_reducible refine aI ?_))
   refine Au.mk [] ?_
   simp (disch:=omega) only[go_sem,hD,hG',hgx,z0,Aa]
   refine ⟨fun h=> ⟨h,by omega⟩,fun h=> by rw[decide_eq_true h];rfl,?_⟩
   have eq0:(if (i:Int) > 0 then nm==w else false)=(decide ((i:Int) > 0)&&(nm==w)):=by
    by_cases h3:(i:Int) > 0
    ·rw[if_pos h3,decide_eq_true h3,Bool.true_and]
    ·rw[if_neg h3,decide_eq_false h3,Bool.false_and]
   rw[eq0]
   refine Ai (fun h2=> ?_) (fun h2=> ?_)
   ·have hx:=(hixt h2).1 rfl
    simp (disch:=omega) only[go_sem,hD,hG',Aa]
    (repeat (with_reducible refine aI ?_))
    refine ⟨i+1,⟨by omega,by omega⟩,AG hD [(2,2),(9,9)] rfl rfl (by simp only[go_sem];simp) (by simp only[go_sem];simp;omega)⟩
   ·have hx:=(hixf h2).2 rfl
    simp (disch:=omega) only[go_sem,hD,hG',Aa]
    (repeat (with_reducible refine aI ?_))
    refine ⟨i+1,⟨by omega,by omega⟩,AG hD [(2,2),(9,9)] rfl rfl (by simp only[go_sem];simp) (by simp only[go_sem];simp;split <;> split <;> omega)⟩
  ·rw[decide_eq_false_iff_not] at h
   have hie:i=10:=by omega
   subst hie
   have hk9:(if IA w+1 < ((10:Nat):Int) then IA w+1 else 0)=IA w+1:=by rw[if_pos (by omega)]
   rw[hk9]
   have lo2:∀n:Nat,(((n+1+1:Nat):Int) !=1)=true:=fun n=> by first | (simp;done) | (simp;omega)
   have lo1:∀n:Nat,decide (((n+1:Nat):Int) > 0)=true:=fun n=> by first | (simp;done) | (simp;omega)
   have lo0:∀n:Nat,(((n+1:Nat):Int)==0)=false:=fun n=> by first | (simp;done) | (simp;omega)
   have HT:=HW.tail
   have hk10:IA w+1=0∨(IA w+1=7∨IA w+1=8)∨(IA w+1=2∨IA w+1=6)∨IA w+1=1∨(IA w+1=3∨IA w+1=5∨IA w+1=9)∨IA w+1=4:=by omega
   rcases hk10 with hk | hk | hk | hk | hk | hk
   ·rw[hk]
    simp[CD,hk,Di,Gj,Fr,E0] at hr
    iterate 4 ((try (refine Au.mk [] ?_));(try (simp (disch:=omega) only[go_sem,hD,hG',Int.reduceBEq,Int.reduceBNe,Int.reduceGE,Int.reduceGT,g0,z0,n0,n1,z1,hdr,Ae,lo2,lo1,lo0,Aa]));(repeat (with_reducible refine aI ?_)))
    refine Aj [] [] (by simp) rfl rfl rfl ?_ ?_ <;> simp only[go_sem]
    simp[hr,askA,At,Ah,bA,Aw,cov,Az,Ad,Af]
   ·rcases hk with hk | hk <;> rw[hk]
    all_goals
     cases rest with
     | nil=>
      simp[CD,hk,Di,Gj,Fr,E0] at hr
      iterate 4 ((try (refine Au.mk [] ?_));(try (simp (disch:=omega) only[go_sem,hD,hG',Int.reduceBEq,Int.reduceBNe,Int.reduceGE,Int.reduceGT,g0,z0,n0,n1,z1,hdr,Ae,lo2,lo1,lo0,Aa]));(repeat (with_reducible refine aI ?_)))
      refine Aj [] [] (by simp) rfl rfl rfl ?_ ?_ <;> simp only[go_sem]
      simp[hr,askA,At,Ah,bA,Aw,cov,Az,Ad,Af]
     | cons x l=>
      cases l with
      | cons y ys=>
       simp[CD,hk,Di,Gj,Fr,E0] at hr
       iterate 4 ((try (refine Au.mk [] ?_));(try (simp (disch:=omega) only[go_sem,hD,hG',Int.reduceBEq,Int.reduceBNe,Int.reduceGE,Int.reduceGT,g0,z0,n0,n1,z1,hdr,Ae,lo2,lo1,lo0,Aa]));(repeat (with_reducible refine aI ?_)))
       refine Aj [] [] (by simp) rfl rfl rfl ?_ ?_ <;> simp only[go_sem]
       simp[hr,askA,At,Ah,bA,Aw,cov,Az,Ad,Af]
      | nil=>
       have g3:=g3 x (HT.head)
       have g6:=g6 (IA w+1) (Ak x).1 [] (by first | exact Nat.zero_le _ | simp)
       rw[hk] at g6
       generalize hny:Ak x=ny at *
       obtain ⟨ny,nb⟩:=ny
       simp only[C9,Sr,bA] at g3 g6
       cases nb
       ·simp[CD,hk,Di,Gj,Fr,E0,hny] at hr
        iterate 4 ((try (refine Au.mk [] ?_));(try (simp (disch:=omega) only[go_sem,hD,hG',Int.reduceBEq,Int.reduceBNe,Int.reduceGE,Int.reduceGT,g0,z0,n0,n1,z1,hdr,Ae,lo2,lo1,lo0,g3,Aa]));(repeat (with_reducible refine aI ?_)))
        refine Aj [] [] (by simp) rfl rfl rfl ?_ ?_ <;> simp only[go_sem]
        simp[hr,askA,At,Ah,bA,Aw,cov,Az,Ad,Af]
       ·simp only[CD,hk,Di,Gj,Fr,E0,hny] at hr
        simp[bA] at hr
        generalize Ap _=e at *
        by_cases he:e=0
        ·have de:(e !=0)=false:=by simp[he]
         rw[if_pos he] at hr
         iterate 4 ((try (refine Au.mk [] ?_));(try (simp (disch:=omega) only[go_sem,hD,hG',Int.reduceBEq,Int.reduceBNe,Int.reduceGE,Int.reduceGT,g0,z0,n0,n1,z1,hdr,Ae,lo2,lo1,lo0,g3,g6,de,Aa]));(repeat (with_reducible refine aI ?_)))
         refine Aj [] [] (by simp) rfl rfl rfl ?_ ?_ <;> simp only[go_sem]
         simp[hr,askA,At,Ah,bA,Aw,cov,Az,Ad,Af]
        ·have de:(e !=0)=true:=by simp[he]
         rw[if_neg he] at hr
         iterate 4 ((try (refine Au.mk [] ?_));(try (simp (disch:=omega) only[go_sem,hD,hG',Int.reduceBEq,Int.reduceBNe,Int.reduceGE,Int.reduceGT,g0,z0,n0,n1,z1,hdr,Ae,lo2,lo1,lo0,g3,g6,de,Aa]));(repeat (with_reducible refine aI ?_)))
         refine Aj [] [] (by simp) rfl rfl rfl ?_ ?_ <;> simp only[go_sem]
         simp[hr,askA,At,Ah,bA,Aw,cov,Az,Ad,Af]
   ·rcases hk with hk | hk <;> rw[hk]
    all_goals
     cases rest with
     | nil=>
      simp[CD,hk,Di,Gj,Fr,E0] at hr
      iterate 4 ((try (refine Au.mk [] ?_));(try (simp (disch:=omega) only[go_sem,hD,hG',Int.reduceBEq,Int.reduceBNe,Int.reduceGE,Int.reduceGT,g0,z0,n0,n1,z1,hdr,Ae,lo2,lo1,lo0,Aa]));(repeat (with_reducible refine aI ?_)))
      refine Aj [] [] (by simp) rfl rfl rfl ?_ ?_ <;> simp only[go_sem]
      simp[hr,askA,At,Ah,bA,Aw,cov,Az,Ad,Af]
     | cons q l=>
      cases l with
      | nil=>
       simp[CD,hk,Di,Gj,Fr,E0] at hr
       iterate 4 ((try (refine Au.mk [] ?_));(try (simp (disch:=omega) only[go_sem,hD,hG',Int.reduceBEq,Int.reduceBNe,Int.reduceGE,Int.reduceGT,g0,z0,n0,n1,z1,hdr,Ae,lo2,lo1,lo0,Aa]));(repeat (with_reducible refine aI ?_)))
       refine Aj [] [] (by simp) rfl rfl rfl ?_ ?_ <;> simp only[go_sem]
       simp[hr,askA,At,Ah,bA,Aw,cov,Az,Ad,Af]
      | cons x l=>
       cases l with
       | cons y ys=>
        simp[CD,hk,Di,Gj,Fr,E0] at hr
        iterate 4 ((try (refine Au.mk [] ?_));(try (simp (disch:=omega) only[go_sem,hD,hG',Int.reduceBEq,Int.reduceBNe,Int.reduceGE,Int.reduceGT,g0,z0,n0,n1,z1,hdr,Ae,lo2,lo1,lo0,Aa]));(repeat (with_reducible refine aI ?_)))
        refine Aj [] [] (by simp) rfl rfl rfl ?_ ?_ <;> simp only[go_sem]
        simp[hr,askA,At,Ah,bA,Aw,cov,Az,Ad,Af]
       | nil=>
        have g3:=g3 x (HT.tail.head)
        have g6:=g6 (IA w+1) (Ak x).1 q (by first | exact HT.head | simp)
        rw[hk] at g6
        generalize hny:Ak x=ny at *
        obtain ⟨ny,nb⟩:=ny
        simp only[C9,Sr,bA] at g3 g6
        cases nb
        ·simp[CD,hk,Di,Gj,Fr,E0,hny] at hr
         iterate 4 ((try (refine Au.mk [] ?_));(try (simp (disch:=omega) only[go_sem,hD,hG',Int.reduceBEq,Int.reduceBNe,Int.reduceGE,Int.reduceGT,g0,z0,n0,n1,z1,hdr,Ae,lo2,lo1,lo0,g3,Aa]));(repeat (with_reducible refine aI ?_)))
         refine Aj [] [] (by simp) rfl rfl rfl ?_ ?_ <;> simp only[go_sem]
         simp[hr,askA,At,Ah,bA,Aw,cov,Az,Ad,Af]
        ·simp only[CD,hk,Di,Gj,Fr,E0,hny] at hr
         simp[bA] at hr
         generalize Ap _=e at *
         by_cases he:e=0
         ·have de:(e !=0)=false:=by simp[he]
          rw[if_pos he] at hr
          iterate 4 ((try (refine Au.mk [] ?_));(try (simp (disch:=omega) only[go_sem,hD,hG',Int.reduceBEq,Int.reduceBNe,Int.reduceGE,Int.reduceGT,g0,z0,n0,n1,z1,hdr,Ae,lo2,lo1,lo0,g3,g6,de,Aa]));(repeat (with_reducible refine aI ?_)))
          refine Aj [] [] (by simp) rfl rfl rfl ?_ ?_ <;> simp only[go_sem]
          simp[hr,askA,At,Ah,bA,Aw,cov,Az,Ad,Af]
         ·have de:(e !=0)=true:=by simp[he]
          rw[if_neg he] at hr
          iterate 4 ((try (refine Au.mk [] ?_));(try (simp (disch:=omega) only[go_sem,hD,hG',Int.reduceBEq,Int.reduceBNe,Int.reduceGE,Int.reduceGT,g0,z0,n0,n1,z1,hdr,Ae,lo2,lo1,lo0,g3,g6,de,Aa]));(repeat (with_reducible refine aI ?_)))
          refine Aj [] [] (by simp) rfl rfl rfl ?_ ?_ <;> simp only[go_sem]
          simp[hr,askA,At,Ah,bA,Aw,cov,Az,Ad,Af]
   ·rw[hk]
    cases rest with
    | cons y ys=>
     simp[CD,hk,Di,Gj,Fr,E0] at hr
     iterate 4 ((try (refine Au.mk [] ?_));(try (simp (disch:=omega) only[go_sem,hD,hG',Int.reduceBEq,Int.reduceBNe,Int.reduceGE,Int.reduceGT,g0,z0,n0,n1,z1,hdr,Ae,lo2,lo1,lo0,Aa]));(repeat (with_reducible refine aI ?_)))
     refine Aj [] [] (by simp) rfl rfl rfl ?_ ?_ <;> simp only[go_sem]
     simp[hr,askA,At,Ah,bA,Aw,cov,Az,Ad,Af]
    | nil=>
     have g6:=g6 (IA w+1) 0 [] (by first | exact Nat.zero_le _ | simp)
     rw[hk] at g6
     simp only[C9,Sr,bA] at g6
     simp only[CD,hk,Di,Gj,Fr,E0] at hr
     simp[bA] at hr
     generalize Ap _=e at *
     by_cases he:e=0
     ·have de:(e !=0)=false:=by simp[he]
      rw[if_pos he] at hr
      iterate 4 ((try (refine Au.mk [] ?_));(try (simp (disch:=omega) only[go_sem,hD,hG',Int.reduceBEq,Int.reduceBNe,Int.reduceGE,Int.reduceGT,g0,z0,n0,n1,z1,hdr,Ae,lo2,lo1,lo0,g6,de,Aa]));(repeat (with_reducible refine aI ?_)))
      refine Aj [] [] (by simp) rfl rfl rfl ?_ ?_ <;> simp only[go_sem]
      simp[hr,askA,At,Ah,bA,Aw,cov,Az,Ad,Af]
     ·have de:(e !=0)=true:=by simp[he]
      rw[if_neg he] at hr
      iterate 4 ((try (refine Au.mk [] ?_));(try (simp (disch:=omega) only[go_sem,hD,hG',Int.reduceBEq,Int.reduceBNe,Int.reduceGE,Int.reduceGT,g0,z0,n0,n1,z1,hdr,Ae,lo2,lo1,lo0,g6,de,Aa]));(repeat (with_reducible refine aI ?_)))
      refine Aj [] [] (by simp) rfl rfl rfl ?_ ?_ <;> simp only[go_sem]
      simp[hr,askA,At,Ah,bA,Aw,cov,Az,Ad,Af]
   ·rcases hk with hk | hk | hk <;> rw[hk]
    all_goals
     cases rest with
     | nil=>
      simp[CD,hk,Di,Gj,Fr,E0] at hr
      iterate 4 ((try (refine Au.mk [] ?_));(try (simp (disch:=omega) only[go_sem,hD,hG',Int.reduceBEq,Int.reduceBNe,Int.reduceGE,Int.reduceGT,g0,z0,n0,n1,z1,hdr,Ae,lo2,lo1,lo0,Aa]));(repeat (with_reducible refine aI ?_)))
      refine Aj [] [] (by simp) rfl rfl rfl ?_ ?_ <;> simp only[go_sem]
      simp[hr,askA,At,Ah,bA,Aw,cov,Az,Ad,Af]
     | cons q l=>
      cases l with
      | cons y ys=>
       simp[CD,hk,Di,Gj,Fr,E0] at hr
       iterate 4 ((try (refine Au.mk [] ?_));(try (simp (disch:=omega) only[go_sem,hD,hG',Int.reduceBEq,Int.reduceBNe,Int.reduceGE,Int.reduceGT,g0,z0,n0,n1,z1,hdr,Ae,lo2,lo1,lo0,Aa]));(repeat (with_reducible refine aI ?_)))
       refine Aj [] [] (by simp) rfl rfl rfl ?_ ?_ <;> simp only[go_sem]
       simp[hr,askA,At,Ah,bA,Aw,cov,Az,Ad,Af]
      | nil=>
       have g6:=g6 (IA w+1) 0 q (by first | exact HT.head | simp)
       rw[hk] at g6
       simp only[C9,Sr,bA] at g6
       simp only[CD,hk,Di,Gj,Fr,E0] at hr
       simp[bA] at hr
       generalize Ap _=e at *
       by_cases he:e=0
       ·have de:(e !=0)=false:=by simp[he]
        rw[if_pos he] at hr
        iterate 4 ((try (refine Au.mk [] ?_));(try (simp (disch:=omega) only[go_sem,hD,hG',Int.reduceBEq,Int.reduceBNe,Int.reduceGE,Int.reduceGT,g0,z0,n0,n1,z1,hdr,Ae,lo2,lo1,lo0,g6,de,Aa]));(repeat (with_reducible refine aI ?_)))
        refine Aj [] [] (by simp) rfl rfl rfl ?_ ?_ <;> simp only[go_sem]
        simp[hr,askA,At,Ah,bA,Aw,cov,Az,Ad,Af]
       ·have de:(e !=0)=true:=by simp[he]
        rw[if_neg he] at hr
        iterate 4 ((try (refine Au.mk [] ?_));(try (simp (disch:=omega) only[go_sem,hD,hG',Int.reduceBEq,Int.reduceBNe,Int.reduceGE,Int.reduceGT,g0,z0,n0,n1,z1,hdr,Ae,lo2,lo1,lo0,g6,de,Aa]));(repeat (with_reducible refine aI ?_)))
        refine Aj [] [] (by simp) rfl rfl rfl ?_ ?_ <;> simp only[go_sem]
        simp[hr,askA,At,Ah,bA,Aw,cov,Az,Ad,Af]
   ·rw[hk]
    cases rest with
    | nil=>
     simp[CD,hk,Di,Gj,Fr,E0] at hr
     iterate 4 ((try (refine Au.mk [] ?_));(try (simp (disch:=omega) only[go_sem,hD,hG',Int.reduceBEq,Int.reduceBNe,Int.reduceGE,Int.reduceGT,g0,z0,n0,n1,z1,hdr,Ae,lo2,lo1,lo0,Aa]));(repeat (with_reducible refine aI ?_)))
     refine Aj [] [] (by simp) rfl rfl rfl ?_ ?_ <;> simp only[go_sem]
     simp[hr,askA,At,Ah,bA,Aw,cov,Az,Ad,Af]
    | cons q l=>
     have g4:=g4 l HT.tail
     obtain ⟨hs1,hs2⟩:=KC l []
     have hnf:=Ha l [] HT.tail (by have:=HT.tail.1;simpa using this) (by simp)
     have hP4:CD (w::q::l)=if (CE [] l).2=true then (⟨4,bA q,0,(CE [] l).1⟩,Ap ⟨4,bA q,0,(CE [] l).1⟩) else (At,2):=by simp[CD,hk,Di,Gj,Fr]
     rw[hP4] at hr
     clear hP4
     generalize hnp:CE [] l=np at *
     generalize Fj [] l=rp at *
     obtain ⟨⟨p1,p2⟩,pb⟩:=np
     obtain ⟨⟨q1,q2⟩,qb⟩:=rp
     simp only at hs1 hs2 hnf
     subst hs1
     simp only[An] at g4
     cases qb
     ·simp at hr
      iterate 6 ((try (refine Au.mk [] ?_));(try (simp (disch:=omega) only[go_sem,hD,hG',Int.reduceBEq,Int.reduceBNe,Int.reduceGE,Int.reduceGT,g0,z0,n0,n1,z1,hdr,Ae,lo2,lo1,lo0,List.take_length,g4,Aa]));(repeat (with_reducible refine aI ?_)))
      refine Aj [] [] (by simp) rfl rfl rfl ?_ ?_ <;> simp only[go_sem]
      simp[hr,askA,At,Ah,bA,Aw,cov,Az,Ad,Af]
     ·have hs2:=hs2 rfl
      cases hs2
      have g5:=g5 ⟨4,bA q,0,⟨p1,p2⟩⟩ ⟨by have:=HT.head;show (q:Wd).length≤1048576;omega,hnf⟩
      simp only[askA,Sr,bA] at g5
      simp[bA] at hr
      generalize Ap _=e at *
      by_cases he:e=0
      ·have de:(e !=0)=false:=by simp[he]
       rw[if_pos he] at hr
       iterate 6 ((try (refine Au.mk [] ?_));(try (simp (disch:=omega) only[go_sem,hD,hG',Int.reduceBEq,Int.reduceBNe,Int.reduceGE,Int.reduceGT,g0,z0,n0,n1,z1,hdr,Ae,lo2,lo1,lo0,List.take_length,g4,g5,de,Aa]));(repeat (with_reducible refine aI ?_)))
       refine Aj [] [] (by simp) rfl rfl rfl ?_ ?_ <;> simp only[go_sem]
       simp[hr,askA,At,Ah,bA,Aw,cov,Az,Ad,Af]
      ·have de:(e !=0)=true:=by simp[he]
       rw[if_neg he] at hr
       iterate 6 ((try (refine Au.mk [] ?_));(try (simp (disch:=omega) only[go_sem,hD,hG',Int.reduceBEq,Int.reduceBNe,Int.reduceGE,Int.reduceGT,g0,z0,n0,n1,z1,hdr,Ae,lo2,lo1,lo0,List.take_length,g4,g5,de,Aa]));(repeat (with_reducible refine aI ?_)))
       refine Aj [] [] (by simp) rfl rfl rfl ?_ ?_ <;> simp only[go_sem]
       simp[hr,askA,At,Ah,bA,Aw,cov,Az,Ad,Af]
 exact hcon _ rfl
def FE:BH Tryz.prog D:=⟨87,Wd,fun b=> [.sl 1 (b.map Ac)],fun b=> b.length≤16777216,fun b=> ⟨.tup [askA (Dw b).1,.int .i64 (Dw b).2.1,.int .i64 (Dw b).2.2],[]⟩,fun x y _ _ h=> by
 simp only[List.cons.injEq,AV.sl.injEq,true_and,and_true] at h
 rw[AN h],SM⟩
theorem Yi (e:Int):A8 Tryz.prog D 151 [.int .i64 e] ⟨.tup [.agg [.int .i64 0,.int .i64 0,.int .i64 0,.int .i64 0,.nils,.nils],.int .i64 0,.int .i64 e],[]⟩:=by
 have hok:Cl Tryz.prog D (Ao []):=Ar _
 generalize Ao []=G at *
 refine Bx (G:=G) (rs:=[(2,some 53),(3,none),(4,none)]) hok Tryz.func151 Tryz.results151 Tryz.ntmps151 (fun _=> {}) fun X hP hD hG' hX=> ?_
 simp only[AU,Bz]
 simp (disch:=omega) only[go_sem,hD,hG',Aa]
 refine Aj [] [] (by simp) rfl rfl rfl ?_ ?_ <;> simp only[go_sem]
def H7:BH Tryz.prog D:=⟨151,Int,fun e=> [.int .i64 e],fun _=> True,fun e=> ⟨.tup [.agg [.int .i64 0,.int .i64 0,.int .i64 0,.int .i64 0,.nils,.nils],.int .i64 0,.int .i64 e],[]⟩,fun x y _ _ h=> by
 simp only[List.cons.injEq,AV.int.injEq,true_and,and_true] at h
 rw[h],fun e _=> Yi e⟩
def Bh:BH Tryz.prog D:=⟨40,A0×Bool,Rl,fun x=> x.1.note.Fits∧(x.2=true→x.1.note=Ah),fun x=> ⟨.int .i64 (Am x.1),[]⟩,fun x y hx hy h=> by
 obtain ⟨a,b⟩:=x
 obtain ⟨a',b'⟩:=y
 have h1:=hx.2
 have h2:=hy.2
 simp only at h1 h2
 cases b <;> cases b' <;> simp only[Rl,List.cons.injEq,and_true] at h
 ·rw[CJ h]
 ·simp[sayA,Ev] at h
 ·simp[sayA,Ev] at h
 ·rw[QM (h1 rfl) (h2 rfl) h],fun x h=> by
 obtain ⟨⟨k,q,n,e,m⟩,b⟩:=x
 obtain ⟨h1,h2⟩:=h
 cases b
 ·exact Gv _ h1
 ·have h2:=h2 rfl
  simp only at h1 h2
  subst h2
  exact A8.weak (Gv _ h1) (by simp[Rl,Ev,Ah,sayA,Aw,cov])⟩
theorem SN (b:Wd) (hb:b.length≤16777216):A8 Tryz.prog D 91 [.sl 1 (b.map Ac)] ⟨.tup [sayA (Dx b).1,.int .i64 (Dx b).2.1,.int .i64 (Dx b).2.2],[]⟩:=by
 have hok:Cl Tryz.prog D (Ao [H7,C0,AH,BJ,Bh]):=Ar _
 have g0:=fun (e:Int)=> Ag (T:=[H7,C0,AH,BJ,Bh]) (E:=H7) (i:=0) rfl (by decide) (e) (trivial)
 have g1:=Ag (T:=[H7,C0,AH,BJ,Bh]) (E:=C0) (i:=1) rfl (by decide) (b) (hb)
 have g3:=fun (x:Wd) (h:x.length≤1000)=> Ag (T:=[H7,C0,AH,BJ,Bh]) (E:=AH) (i:=2) rfl (by decide) (x) (by show x.length≤281474976710656;omega)
 have g4:=fun (x:List Wd) (h:Ja x)=> Ag (T:=[H7,C0,AH,BJ,Bh]) (E:=BJ) (i:=3) rfl (by decide) (x) (h.big)
 have g5:=fun (s:A0) (h:s.note.Fits)=> Ag (T:=[H7,C0,AH,BJ,Bh]) (E:=Bh) (i:=4) rfl (by decide) ((s,false)) (⟨h,fun h=> by cases h⟩)
 have g6:=fun (k e:Int)=> Ag (T:=[H7,C0,AH,BJ,Bh]) (E:=Bh) (i:=4) rfl (by decide) ((⟨k,0,0,e,Ah⟩,true)) (⟨CV,fun _=> rfl⟩)
 generalize Ao [H7,C0,AH,BJ,Bh]=G at *
 dsimp only[H7] at g0
 dsimp only[C0] at g1
 dsimp only[AH] at g3
 dsimp only[BJ] at g4
 dsimp only[Bh] at g5
 dsimp only[Bh] at g6
 have hcon:∀r,r=Dx b→A8 Tryz.prog D 91 [.sl 1 (b.map Ac)] ⟨.tup [sayA r.1,.int .i64 r.2.1,.int .i64 r.2.2],[]⟩:=by
  intro r hr
  have hok1:=@KY b
  unfold Dx at hr
  generalize Bj b=x at *
  obtain ⟨ws,n,e⟩:=x
  simp only at g1 hr hok1
  have z0:(0:Int).toNat=0:=rfl
  have z1:(1:Int).toNat=1:=rfl
  have z2:(2:Int).toNat=2:=rfl
  have z3:(3:Int).toNat=3:=rfl
  have n0:((0:Nat):Int)=0:=rfl
  have n1:((1:Nat):Int)=1:=rfl
  have n2:((2:Nat):Int)=2:=rfl
  have n3:((3:Nat):Int)=3:=rfl
  refine Bx (G:=G) (rs:=[(2,some 53),(3,none),(4,none)]) hok Tryz.func91 Tryz.results91 Tryz.ntmps91 (fun _=> {}) fun X hP hD hG' hX=> ?_
  simp only[AU,Bz]
  by_cases he:e≠0
  ·have de:(e !=0)=true:=by simp[he]
   rw[if_pos he] at hr
   simp (disch:=omega) only[go_sem,hD,hG',g1,de,g0,Aa]
   refine Aj [] [] (by simp) rfl rfl rfl ?_ ?_ <;> simp only[go_sem]
   simp[hr,AE,Ah,sayA,Aw,cov,Az,Ad,Af]
  have he:e=0:=by simpa using he
  have de:(e !=0)=false:=by simp[he]
  rw[if_neg (by simp[he])] at hr
  obtain ⟨hne,HW⟩:=hok1 he
  cases ws with
  | nil=> exact absurd rfl hne
  | cons w rest=>
  have hws:(w::rest).map Ae=[AV.str w]::rest.map Ae:=rfl
  rw[hws] at g1
  have HT:=HW.tail
  have lo2:∀n:Nat,decide (((n+1+1:Nat):Int) > 1)=true:=fun n=> by first | (simp;done) | (simp;omega)
  have l1:decide ((1:Int) > 1)=false:=by decide
  have hl4:∀n:Nat,decide (((n+1+1+1+1:Nat):Int) < 4)=false:=fun n=> by simp;omega
  have p1:Lib.hasPrefix w [45]=(decide ((w.length:Int) > 0)&&((w.getD 0 0).toNat:Int)==45):=K2 45 w
  by_cases h:w=[43,105,116,101,109]
  ·have b0:(w==[43,105,116,101,109])=true:=by simp[h]
   have hP:Ej (w::rest)=QJ rest:=by rw[h,Ej];simp
   rw[hP] at hr
   clear hP
   have d1:decide ((1:Int) < 4)=true:=by decide
   have d2:decide ((2:Int) < 4)=true:=by decide
   have d3:decide ((3:Int) < 4)=true:=by decide
   cases rest with
   | nil=>
    simp[QJ] at hr
    iterate 5 ((try (refine Au.mk [] ?_));(try (simp (disch:=omega) only[go_sem,hD,hG',Int.reduceBEq,Int.reduceBNe,g1,de,g0,z0,z1,n0,n1,Ae,List.take_length,lo2,l1,b0,d1,Aa]));(repeat (with_reducible refine aI ?_)))
    refine Aj [] [] (by simp) rfl rfl rfl ?_ ?_ <;> simp only[go_sem]
    simp[hr,AE,Ah,sayA,Aw,cov,Az,Ad,Af]
   | cons x rest=>
   cases rest with
   | nil=>
    simp[QJ] at hr
    iterate 5 ((try (refine Au.mk [] ?_));(try (simp (disch:=omega) only[go_sem,hD,hG',Int.reduceBEq,Int.reduceBNe,g1,de,g0,z0,z1,n0,n1,Ae,List.take_length,lo2,l1,b0,d2,n2,Aa]));(repeat (with_reducible refine aI ?_)))
    refine Aj [] [] (by simp) rfl rfl rfl ?_ ?_ <;> simp only[go_sem]
    simp[hr,AE,Ah,sayA,Aw,cov,Az,Ad,Af]
   | cons y rest=>
   cases rest with
   | nil=>
    simp[QJ] at hr
    iterate 5 ((try (refine Au.mk [] ?_));(try (simp (disch:=omega) only[go_sem,hD,hG',Int.reduceBEq,Int.reduceBNe,g1,de,g0,z0,z1,n0,n1,Ae,List.take_length,lo2,l1,b0,d3,n3,Aa]));(repeat (with_reducible refine aI ?_)))
    refine Aj [] [] (by simp) rfl rfl rfl ?_ ?_ <;> simp only[go_sem]
    simp[hr,AE,Ah,sayA,Aw,cov,Az,Ad,Af]
   | cons z t=>
    have hdr:∀(a b c d:List AV),List.drop (3:Int).toNat (List.take (((a::b::c::d::t.map Ae).length:Nat):Int).toNat (a::b::c::d::t.map Ae))=d::t.map Ae:=fun a b c d=> by
     rw[Int.toNat_natCast,List.take_length]
     rfl
    have hd1:∀(a:List AV) (l:List (List AV)),List.drop 0 (List.take (1:Int).toNat (a::l))=[a]:=fun a l=> rfl
    have hzt:=HT.tail.tail
    have gx:=g3 x HT.head
    have gy:=g3 y HT.tail.head
    have g4:=g4 (z::t) hzt
    have hnf:=Ha (z::t) [] hzt (by have:=hzt.1;simpa using this) (by simp)
    obtain ⟨hs1,hs2⟩:=KC (z::t) []
    have hI:QJ (x::y::z::t)=CO ⟨2,(Ak x).1,(Ak y).1,0,(CE [] (z::t)).1⟩ ((Ak x).2&&(Ak y).2&&(CE [] (z::t)).2):=rfl
    rw[hI] at hr
    clear hI
    generalize Ak x=nx at *
    generalize Ak y=ny at *
    generalize CE [] (z::t)=np at *
    generalize Fj [] (z::t)=rp at *
    obtain ⟨x1,x2⟩:=nx
    obtain ⟨y1,y2⟩:=ny
    obtain ⟨⟨p1,p2⟩,pb⟩:=np
    obtain ⟨⟨q1,q2⟩,qb⟩:=rp
    simp only at hs1 hs2 hnf
    subst hs1
    simp only[List.map_cons,Ae,An] at gx gy g4
    by_cases hb3:(x2&&y2&&qb)=true
    ·simp only[Bool.and_eq_true] at hb3
     obtain ⟨⟨hx2,hy2⟩,hqb⟩:=hb3
     subst hx2 hy2 hqb
     have hs2:=hs2 rfl
     cases hs2
     have g5:=g5 ⟨2,x1,y1,0,⟨p1,p2⟩⟩ hnf
     simp only[sayA,Rl] at g5
     simp[CO] at hr
     generalize Am _=e2 at *
     by_cases he2:e2=0
     ·have de2:(e2 !=0)=false:=by simp[he2]
      rw[if_pos he2] at hr
      iterate 5 ((try (refine Au.mk [] ?_));(try (simp (disch:=omega) only[go_sem,hD,hG',Int.reduceBEq,Int.reduceBNe,g1,de,g0,z0,z1,n0,n1,Ae,List.take_length,lo2,l1,b0,hl4,hdr,hd1,z2,z3,gx,gy,g4,g5,de2,Aa]));(repeat (with_reducible refine aI ?_)))
      refine Aj [] [] (by simp) rfl rfl rfl ?_ ?_ <;> simp only[go_sem]
      simp[hr,AE,Ah,sayA,Aw,cov,Az,Ad,Af]
     ·have de2:(e2 !=0)=true:=by simp[he2]
      rw[if_neg he2] at hr
      iterate 5 ((try (refine Au.mk [] ?_));(try (simp (disch:=omega) only[go_sem,hD,hG',Int.reduceBEq,Int.reduceBNe,g1,de,g0,z0,z1,n0,n1,Ae,List.take_length,lo2,l1,b0,hl4,hdr,hd1,z2,z3,gx,gy,g4,g5,de2,Aa]));(repeat (with_reducible refine aI ?_)))
      refine Aj [] [] (by simp) rfl rfl rfl ?_ ?_ <;> simp only[go_sem]
      simp[hr,AE,Ah,sayA,Aw,cov,Az,Ad,Af]
    ·have hr0:r=(AE,0,2):=by
      rw[hr]
      cases x2 <;> cases y2 <;> cases qb <;> first | rfl | exact absurd rfl hb3
     clear hr
     have hr:=hr0
     cases x2 <;> cases y2 <;> cases qb <;> first | exact absurd rfl hb3 | skip
     all_goals
      iterate 5 ((try (refine Au.mk [] ?_));(try (simp (disch:=omega) only[go_sem,hD,hG',Int.reduceBEq,Int.reduceBNe,g1,de,g0,z0,z1,n0,n1,Ae,List.take_length,lo2,l1,b0,hl4,hdr,hd1,z2,z3,gx,gy,g4,Aa]));(repeat (with_reducible refine aI ?_)))
      refine Aj [] [] (by simp) rfl rfl rfl ?_ ?_ <;> simp only[go_sem]
      simp[hr,AE,Ah,sayA,Aw,cov,Az,Ad,Af]
  have b1:(w==[43,105,116,101,109])=false:=by simp[h]
  have h1:=h
  clear h
  by_cases h:w=[43,111,107]
  ·have hP:Ej (w::rest)=CO ⟨1,0,0,0,Ah⟩ rest.isEmpty:=by rw[h,Ej];simp
   rw[hP] at hr
   clear hP
   have g6:=g6 1 0
   simp only[Ev,Rl] at g6
   have b0:(w==[43,111,107])=true:=by simp[h]
   cases rest with
   | cons y ys=>
    simp[CO] at hr
    iterate 5 ((try (refine Au.mk [] ?_));(try (simp (disch:=omega) only[go_sem,hD,hG',Int.reduceBEq,Int.reduceBNe,g1,de,g0,z0,z1,n0,n1,Ae,List.take_length,lo2,l1,b1,b0,Aa]));(repeat (with_reducible refine aI ?_)))
    refine Aj [] [] (by simp) rfl rfl rfl ?_ ?_ <;> simp only[go_sem]
    simp[hr,AE,Ah,sayA,Aw,cov,Az,Ad,Af]
   | nil=>
    simp[CO] at hr
    generalize Am _=e2 at *
    by_cases he2:e2=0
    ·have de2:(e2 !=0)=false:=by simp[he2]
     rw[if_pos he2] at hr
     iterate 5 ((try (refine Au.mk [] ?_));(try (simp (disch:=omega) only[go_sem,hD,hG',Int.reduceBEq,Int.reduceBNe,g1,de,g0,z0,z1,n0,n1,Ae,List.take_length,lo2,l1,b1,b0,g6,de2,Aa]));(repeat (with_reducible refine aI ?_)))
     refine Aj [] [] (by simp) rfl rfl rfl ?_ ?_ <;> simp only[go_sem]
     simp[hr,AE,Ah,sayA,Aw,cov,Az,Ad,Af]
    ·have de2:(e2 !=0)=true:=by simp[he2]
     rw[if_neg he2] at hr
     iterate 5 ((try (refine Au.mk [] ?_));(try (simp (disch:=omega) only[go_sem,hD,hG',Int.reduceBEq,Int.reduceBNe,g1,de,g0,z0,z1,n0,n1,Ae,List.take_length,lo2,l1,b1,b0,g6,de2,Aa]));(repeat (with_reducible refine aI ?_)))
     refine Aj [] [] (by simp) rfl rfl rfl ?_ ?_ <;> simp only[go_sem]
     simp[hr,AE,Ah,sayA,Aw,cov,Az,Ad,Af]
  have b2:(w==[43,111,107])=false:=by simp[h]
  have h2:=h
  clear h
  by_cases h:w=[43,110,111,110,101]
  ·have hP:Ej (w::rest)=CO ⟨3,0,0,0,Ah⟩ rest.isEmpty:=by rw[h,Ej];simp
   rw[hP] at hr
   clear hP
   have g6:=g6 3 0
   simp only[Ev,Rl] at g6
   have b0:(w==[43,110,111,110,101])=true:=by simp[h]
   cases rest with
   | cons y ys=>
    simp[CO] at hr
    iterate 5 ((try (refine Au.mk [] ?_));(try (simp (disch:=omega) only[go_sem,hD,hG',Int.reduceBEq,Int.reduceBNe,g1,de,g0,z0,z1,n0,n1,Ae,List.take_length,lo2,l1,b1,b2,b0,Aa]));(repeat (with_reducible refine aI ?_)))
    refine Aj [] [] (by simp) rfl rfl rfl ?_ ?_ <;> simp only[go_sem]
    simp[hr,AE,Ah,sayA,Aw,cov,Az,Ad,Af]
   | nil=>
    simp[CO] at hr
    generalize Am _=e2 at *
    by_cases he2:e2=0
    ·have de2:(e2 !=0)=false:=by simp[he2]
     rw[if_pos he2] at hr
     iterate 5 ((try (refine Au.mk [] ?_));(try (simp (disch:=omega) only[go_sem,hD,hG',Int.reduceBEq,Int.reduceBNe,g1,de,g0,z0,z1,n0,n1,Ae,List.take_length,lo2,l1,b1,b2,b0,g6,de2,Aa]));(repeat (with_reducible refine aI ?_)))
     refine Aj [] [] (by simp) rfl rfl rfl ?_ ?_ <;> simp only[go_sem]
     simp[hr,AE,Ah,sayA,Aw,cov,Az,Ad,Af]
    ·have de2:(e2 !=0)=true:=by simp[he2]
     rw[if_neg he2] at hr
     iterate 5 ((try (refine Au.mk [] ?_));(try (simp (disch:=omega) only[go_sem,hD,hG',Int.reduceBEq,Int.reduceBNe,g1,de,g0,z0,z1,n0,n1,Ae,List.take_length,lo2,l1,b1,b2,b0,g6,de2,Aa]));(repeat (with_reducible refine aI ?_)))
     refine Aj [] [] (by simp) rfl rfl rfl ?_ ?_ <;> simp only[go_sem]
     simp[hr,AE,Ah,sayA,Aw,cov,Az,Ad,Af]
  have b3:(w==[43,110,111,110,101])=false:=by simp[h]
  have hP:Ej (w::rest)=if Lib.hasPrefix w [45]=true then CO ⟨4,0,0,(Ak (Lib.trimPrefix w [45])).1,Ah⟩ (rest.isEmpty&&(Ak (Lib.trimPrefix w [45])).2) else (AE,1):=by
   rw[Ej,if_neg h2,if_neg h,if_neg h1]
  rw[hP] at hr
  clear hP
  by_cases hbw:Lib.hasPrefix w [45]=true
  ·have hw0:w≠[]:=fun e=> by rw[e] at hbw;cases hbw
   have htd:=J1 hbw
   rw[if_pos hbw,htd] at hr
   rw[hbw] at p1
   have hl0:0 < w.length:=by cases w with | nil=> exact absurd rfl hw0 | cons a r=> simp
   have dl:decide ((w.length:Int) > 0)=true:=by simp only[decide_eq_true_eq];omega
   rw[dl,Bool.true_and] at p1
   have p1:=p1.symm
   have g3:=g3 (w.drop 1) (by have:=HW.head;rw[List.length_drop];omega)
   generalize Ak (w.drop 1)=nt at *
   obtain ⟨n1',nb⟩:=nt
   simp only at g3 hr
   have g6:=g6 4 n1'
   simp only[Ev,Rl] at g6
   cases nb
   ·have hr0:r=(AE,0,2):=by rw[hr];cases rest <;> rfl
    clear hr
    have hr:=hr0
    cases rest
    all_goals
     iterate 5 ((try (refine Au.mk [] ?_));(try (simp (disch:=omega) only[go_sem,hD,hG',Int.reduceBEq,Int.reduceBNe,g1,de,g0,z0,z1,n0,n1,Ae,List.take_length,lo2,l1,b1,b2,b3,dl,p1,g3,Aa]));(repeat (with_reducible refine aI ?_)))
     refine Aj [] [] (by simp) rfl rfl rfl ?_ ?_ <;> simp only[go_sem]
     simp[hr,AE,Ah,sayA,Aw,cov,Az,Ad,Af]
   ·cases rest with
    | cons y ys=>
     simp[CO] at hr
     iterate 5 ((try (refine Au.mk [] ?_));(try (simp (disch:=omega) only[go_sem,hD,hG',Int.reduceBEq,Int.reduceBNe,g1,de,g0,z0,z1,n0,n1,Ae,List.take_length,lo2,l1,b1,b2,b3,dl,p1,g3,Aa]));(repeat (with_reducible refine aI ?_)))
     refine Aj [] [] (by simp) rfl rfl rfl ?_ ?_ <;> simp only[go_sem]
     simp[hr,AE,Ah,sayA,Aw,cov,Az,Ad,Af]
    | nil=>
     simp[CO] at hr
     generalize Am _=e2 at *
     by_cases he2:e2=0
     ·have de2:(e2 !=0)=false:=by simp[he2]
      rw[if_pos he2] at hr
      iterate 5 ((try (refine Au.mk [] ?_));(try (simp (disch:=omega) only[go_sem,hD,hG',Int.reduceBEq,Int.reduceBNe,g1,de,g0,z0,z1,n0,n1,Ae,List.take_length,lo2,l1,b1,b2,b3,dl,p1,g3,g6,de2,Aa]));(repeat (with_reducible refine aI ?_)))
      refine Aj [] [] (by simp) rfl rfl rfl ?_ ?_ <;> simp only[go_sem]
      simp[hr,AE,Ah,sayA,Aw,cov,Az,Ad,Af]
     ·have de2:(e2 !=0)=true:=by simp[he2]
      rw[if_neg he2] at hr
      iterate 5 ((try (refine Au.mk [] ?_));(try (simp (disch:=omega) only[go_sem,hD,hG',Int.reduceBEq,Int.reduceBNe,g1,de,g0,z0,z1,n0,n1,Ae,List.take_length,lo2,l1,b1,b2,b3,dl,p1,g3,g6,de2,Aa]));(repeat (with_reducible refine aI ?_)))
      refine Aj [] [] (by simp) rfl rfl rfl ?_ ?_ <;> simp only[go_sem]
      simp[hr,AE,Ah,sayA,Aw,cov,Az,Ad,Af]
  ·rw[if_neg hbw] at hr
   simp at hr
   have hbw:Lib.hasPrefix w [45]=false:=by simpa using hbw
   rw[hbw] at p1
   by_cases hw0:w=[]
   ·subst hw0
    have z4:(((0:Nat):Int) > 0)=False:=by simp
    have z5:decide ((0:Int) > 0)=false:=by decide
    iterate 5 ((try (refine Au.mk [] ?_));(try (simp (disch:=omega) only[go_sem,hD,hG',Int.reduceBEq,Int.reduceBNe,g1,de,g0,z0,z1,n0,n1,Ae,List.take_length,lo2,l1,b1,b2,b3,z4,z5,Aa]));(repeat (with_reducible refine aI ?_)))
    refine Aj [] [] (by simp) rfl rfl rfl ?_ ?_ <;> simp only[go_sem]
    simp[hr,AE,Ah,sayA,Aw,cov,Az,Ad,Af]
   ·have hl0:0 < w.length:=by cases w with | nil=> exact absurd rfl hw0 | cons a r=> simp
    have dl:decide ((w.length:Int) > 0)=true:=by simp only[decide_eq_true_eq];omega
    rw[dl,Bool.true_and] at p1
    have p1:=p1.symm
    iterate 5 ((try (refine Au.mk [] ?_));(try (simp (disch:=omega) only[go_sem,hD,hG',Int.reduceBEq,Int.reduceBNe,g1,de,g0,z0,z1,n0,n1,Ae,List.take_length,lo2,l1,b1,b2,b3,dl,p1,Aa]));(repeat (with_reducible refine aI ?_)))
    refine Aj [] [] (by simp) rfl rfl rfl ?_ ?_ <;> simp only[go_sem]
    simp[hr,AE,Ah,sayA,Aw,cov,Az,Ad,Af]
 exact hcon _ rfl
def FF:BH Tryz.prog D:=⟨91,Wd,fun b=> [.sl 1 (b.map Ac)],fun b=> b.length≤16777216,fun b=> ⟨.tup [sayA (Dx b).1,.int .i64 (Dx b).2.1,.int .i64 (Dx b).2.2],[]⟩,fun x y _ _ h=> by
 simp only[List.cons.injEq,AV.sl.injEq,true_and,and_true] at h
 rw[AN h],SN⟩
theorem AbX {n:AP} (h:AZ n=0):P7 n:=by
 obtain ⟨h1,h2,h3⟩:=E7 h
 refine ⟨by omega,by omega,fun p hp=> ?_⟩
 obtain ⟨q1,q2⟩:=Gm (h2 p hp)
 have hv:Xl p:=by refine ⟨?_,?_⟩ <;> omega
 refine ⟨hv,?_⟩
 have a1:=Dv p.text.data.toList
 have a2:=Lib.itoa_length_le p.n hv.2.1 hv.2.2
 have a3:p.text.data.toList.length=p.text.size:=rfl
 unfold BU
 split
 ·simp only[List.length_cons];omega
 ·split
  ·simp only[List.length_cons];omega
  ·omega
theorem Ac2 {a:AX} (h:Ap a=0):Zv a:=by
 obtain ⟨h1,h2,h3,h4,h5,h6,_⟩:=D4 h
 exact ⟨⟨h1,h2⟩,by omega,by omega,fun _=> AbX h6⟩
theorem Ac4 {s:A0} (h:Am s=0):Zx s:=by
 obtain ⟨_,_,h3,h4,h5,h6,h7,h8,h9,_⟩:=Dk h
 exact ⟨by omega,by omega,by omega,fun _=> AbX h9⟩
end Go.Proofs.YtlkmgccikgnaeaaGreatDoor.Ab
