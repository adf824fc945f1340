/-
  Texts of the proof, one behind the other: WbD WbE.
  No condition but those that each theorem names.
-/
import Derived.Test.YtlkmgccikgnaeaaGreatDoorMI
import Derived.Test.YtlkmgccikgnaeaaGreatDoorMC
import Derived.Test.YtlkmgccikgnaeaaGreatDoorME
import Derived.Test.YtlkmgccikgnaeaaGreatDoorMD
set_option linter.unusedVariables false
set_option linter.unusedSimpArgs false
set_option maxRecDepth 100000
set_option maxHeartbeats 16000000
namespace Go.Proofs.YtlkmgccikgnaeaaGreatDoor.Ab
open Go Go.RowKit
theorem Abs (e:Int):A8 Tryz.prog D 235 [.int .i64 e] ⟨.tup [.str [],.nils,.agg [.nils,.nils],.int .i64 0,.int .i64 e],[]⟩:=by
 have hok:Cl Tryz.prog D (Ao []):=Ar _
 generalize Ao []=G at *
 refine Bx (G:=G) (rs:=[(2,none),(3,none),(4,some 25),(5,none),(6,none)]) hok Tryz.func235 Tryz.results235 Tryz.ntmps235 (fun _=> {}) fun X hP hD hG' hX=> ?_
 simp only[AU,Bz]
 simp (disch:=omega) only[go_sem,hD,hG',Aa]
 refine Aj [] [] (by simp) rfl rfl rfl ?_ ?_ <;> simp only[go_sem]
def PN:BH Tryz.prog D:=⟨235,Int,fun e=> [.int .i64 e],fun _=> True,fun e=> ⟨.tup [.str [],.nils,.agg [.nils,.nils],.int .i64 0,.int .i64 e],[]⟩,fun x y _ _ h=> by
 simp only[List.cons.injEq,AV.int.injEq,true_and,and_true] at h
 rw[h],fun e _=> Abs e⟩
def BN (x:P6):AV:=.tup [.str x.first,.sl 1 (x.heads.map Ae),An x.note,.int .i64 x.all,.int .i64 x.err]
theorem Kb (l:Wd) (h:(Ak l).2=true): -1073741824≤(Ak l).1∧(Ak l).1≤1073741824:=by
 unfold Ak at *
 simp only[Bool.and_eq_true,decide_eq_true_eq] at h
 exact h.2.2
theorem LH {b:Wd}:FZ b≠[]∧(FZ b).length≤401∧∀w∈FZ b,w.length≤400:=by
 have h0:=Hw (b.take 400) [13,10,13,10]
 rw[List.length_take] at h0
 unfold FZ RC
 refine ⟨Sk _ _ _,?_,fun w hw=> ?_⟩
 ·have:=KF [13,10] (Lib.count (Lib.cut (b.take 400) [13,10,13,10]).1 [13,10]) (Lib.cut (b.take 400) [13,10,13,10]).1
  have h2:Lib.count (Lib.cut (b.take 400) [13,10,13,10]).1 [13,10]≤_:=Lib.countB_le (bA [13,10]) (by decide) _ (bA (Lib.cut (b.take 400) [13,10,13,10]).1) (Nat.le_refl _)
  have h3:(bA (Lib.cut (b.take 400) [13,10,13,10]).1).size=(Lib.cut (b.take 400) [13,10,13,10]).1.length:=rfl
  show (Lib.splitK _ 0 _ _).length≤_
  omega
 ·have:=E6 [13,10] _ _ w hw
  omega
theorem Wt {s p:Wd} (h:(Lib.cut s p).2.2=true):(Lib.cut s p).1.length+p.length≤s.length:=by
 unfold Lib.cut at *
 split at h
 ·rename_i h0
  rw[if_pos h0]
  have:=Lib.index_room s p h0
  rw[List.length_take]
  omega
 ·cases h
def Ho:Nat→Lo:=fun id=> match id with | 38=> {uo:=[8],un:=[4]} | _=> {}
theorem Wr (b:Wd) (hb:b.length≤16777216):A8 Tryz.prog D 185 [.sl 1 (b.map Ac)] ⟨BN (Ca b),[]⟩:=by
 obtain ⟨hpne,hpl,hpw⟩:=LH (b:=b)
 have hcl:=Wt (s:=b.take 400) (p:=[13,10,13,10])
 rw[List.length_take] at hcl
 have hcl0:=(Hw (b.take 400) [13,10,13,10]).1
 rw[List.length_take] at hcl0
 have hok:Cl Tryz.prog D (Ao [PN,Eh,BK,Bp,EZ,AJ,Hx]):=Ar _
 have g0:=fun (e:Int)=> Ag (T:=[PN,Eh,BK,Bp,EZ,AJ,Hx]) (E:=PN) (i:=0) rfl (by decide) (e) (trivial)
 have g1:=fun (m:Nat) (h:m=min b.length 400)=> Ag (T:=[PN,Eh,BK,Bp,EZ,AJ,Hx]) (E:=Eh) (i:=1) rfl (by decide) ((b.take m,[13,10,13,10])) (by show (b.take m).length < 4294967281;rw[List.length_take];omega)
 have g2:=Ag (T:=[PN,Eh,BK,Bp,EZ,AJ,Hx]) (E:=BK) (i:=2) rfl (by decide) (((RC b).1,[13,10])) (⟨by show (Lib.cut (b.take 400) [13,10,13,10]).1.length < 4294967281;omega,by show 1≤([13,10]:Wd).length;decide⟩)
 have g3:=fun (w:Wd) (h:w.length≤400)=> Ag (T:=[PN,Eh,BK,Bp,EZ,AJ,Hx]) (E:=Eh) (i:=1) rfl (by decide) ((w,[58,32])) (by show w.length < 4294967281;omega)
 have g4:=fun (w:Wd)=> Ag (T:=[PN,Eh,BK,Bp,EZ,AJ,Hx]) (E:=Bp) (i:=3) rfl (by decide) ((w,[112,45])) (trivial)
 have g5:=fun (k w:Wd) (h:w.length≤400)=> Ag (T:=[PN,Eh,BK,Bp,EZ,AJ,Hx]) (E:=EZ) (i:=4) rfl (by decide) ((k,w)) (by show w.length≤8388608;omega)
 have g6:=fun (w:Wd) (h:w.length≤400)=> Ag (T:=[PN,Eh,BK,Bp,EZ,AJ,Hx]) (E:=AJ) (i:=5) rfl (by decide) (w) (by show w.length≤281474976710656;omega)
 have g7:=fun (w:Wd) (h:w.length≤400)=> Ag (T:=[PN,Eh,BK,Bp,EZ,AJ,Hx]) (E:=Hx) (i:=6) rfl (by decide) (w) (by show w.length≤8388608;omega)
 generalize Ao [PN,Eh,BK,Bp,EZ,AJ,Hx]=G at *
 dsimp only[PN] at g0
 dsimp only[Eh] at g1
 dsimp only[BK] at g2
 dsimp only[Eh] at g3
 dsimp only[Bp] at g4
 dsimp only[EZ] at g5
 dsimp only[AJ] at g6
 dsimp only[Hx] at g7
 have g1:=g1 (min b.length 400) rfl
 have hbt:b.take (min b.length 400)=b.take 400:=by
  rcases Nat.le_total b.length 400 with h | h
  ·rw[Nat.min_eq_left h,List.take_length,List.take_of_length_le h]
  ·rw[Nat.min_eq_right h]
 have hmin:(if (400:Int) < (b.length:Int) then (400:Int) else (b.length:Int))=((min b.length 400:Nat):Int):=by
  split <;> omega
 have hcon:∀r,r=Ca b→A8 Tryz.prog D 185 [.sl 1 (b.map Ac)] ⟨BN r,[]⟩:=by
  intro r hr
  unfold Ca at hr
  have g2:G 186 [.str (RC b).1,.str [13,10]]=some ⟨.sl 1 ((FZ b).map Ae),[]⟩:=g2
  have hpc:Lib.cut (b.take (min b.length 400)) [13,10,13,10]=RC b:=by rw[hbt];rfl
  rw[hpc] at g1
  unfold RC at hr g1 g2 hpc
  generalize Lib.cut (b.take 400) [13,10,13,10]=pc at *
  generalize FZ b=ls at *
  generalize hmm:min b.length 400=m at *
  obtain ⟨hd,tl,ok⟩:=pc
  simp only at hr g1 g2 hcl hcl0
  refine Bx (G:=G) (rs:=[(2,none),(3,none),(4,some 25),(5,none),(6,none)]) hok Tryz.func185 Tryz.results185 Tryz.ntmps185 (Ho) fun X hP hD hG' hX=> ?_
  simp only[AU,Bz]
  cases ok
  ·rw[if_pos rfl] at hr
   by_cases h4:b.length < 400
   ·rw[if_pos h4] at hr
    have d4:decide ((b.length:Int) < 400)=true:=by simp;omega
    subst hr
    simp only[BN,Bn,An,Ah,List.map_nil]
    simp (disch:=omega) only[go_sem,hD,hG',hmin,g1,Ho,Aa]
    (repeat (with_reducible refine aI ?_))
    refine Au.mk [] ?_
    simp (disch:=omega) only[go_sem,hD,hG',d4,g0,Ho,Aa]
    (repeat (with_reducible refine aI ?_))
    refine Aj [] [] (by simp) rfl rfl rfl ?_ ?_ <;> simp only[go_sem]
   ·rw[if_neg h4] at hr
    have d4:decide ((b.length:Int) < 400)=false:=by simp;omega
    subst hr
    simp only[BN,Bn,An,Ah,List.map_nil]
    simp (disch:=omega) only[go_sem,hD,hG',hmin,g1,Ho,Aa]
    (repeat (with_reducible refine aI ?_))
    refine Au.mk [] ?_
    simp (disch:=omega) only[go_sem,hD,hG',d4,g0,Ho,Aa]
    (repeat (with_reducible refine aI ?_))
    refine Aj [] [] (by simp) rfl rfl rfl ?_ ?_ <;> simp only[go_sem]
  rw[if_neg (by simp)] at hr
  cases ls with
  | nil=> exact absurd rfl hpne
  | cons w rest=>
  simp only[List.getD_cons_zero,List.tail_cons] at hr
  have hrl:rest.length≤400:=by simp at hpl;omega
  have hdr:List.drop (1:Int).toNat (List.take ((((Ae w::rest.map Ae).length:Nat):Int)).toNat (Ae w::rest.map Ae))=rest.map Ae:=by
   rw[Int.toNat_natCast,List.take_length]
   rfl
  have hhd:hd.length≤400:=by omega
  simp (disch:=omega) only[go_sem,hD,hG',hmin,g1,Ho,Aa]
  (repeat (with_reducible refine aI ?_))
  refine Au.mk [] ?_
  simp (disch:=omega) only[go_sem,hD,hG',g2,hdr,Ho,Aa]
  refine ⟨by omega,?_⟩
  refine Tr.loop (ι:=Nat×List AI×List Wd×Int) (fun x=> x.1≤rest.length∧x.2.1.length≤x.1∧x.2.2.1.length≤x.1∧(-1≤x.2.2.2∧x.2.2.2≤1073741824)∧r=Cs b hd.length w (Ci x.2.1 x.2.2.1 x.2.2.2 (rest.drop x.1))) (fun x=> {nt:=197,tm:=[(0,.sl 1 (b.map Ac)),(2,.str []),(3,.nils),(4,.ptr 4 0),(5,.int .i64 0),(6,.int .i64 0),(7,.func 235 []),(8,.str hd),(11,.sl 1 (Ae w::rest.map Ae)),(12,.ptr 12 0),(13,.os 5001),(14,.int .i64 x.2.2.2),(66,.sl 1 (rest.map Ae)),(67,.int .i64 rest.length),(68,.int .i64 x.1)],bl:=[(4,some (.cells [.nils,.nils])),(12,some (.cells [.os 5000,.nils])),(5000,some (.rows 101 4 (x.2.1.map Aq))),(5001,some (.rows 9 1 (x.2.2.1.map Ae)))]}) (fun x=> rest.length - x.1) (0,[],[],-1)
   ⟨⟨Nat.zero_le _,by simp,by simp,by simp,by simpa using hr⟩,AG hD [(4,4),(12,12)] rfl rfl (by simp only[go_sem];simp) (by simp only[go_sem])⟩ ?_
  rintro ⟨i,ps,hs,n⟩ ⟨hi,hpsl,hhsl,hn,hinv⟩
  simp only at hi hpsl hhsl hn hinv
  clear hr
  refine Al hX Ho _ _ _ ?_
  simp (disch:=omega) only[go_sem,hD,hG',Ho,Aa]
  refine Ai (fun h=> ?_) (fun h=> ?_)
  ·rw[decide_eq_true_eq] at h
   have hi1:i < rest.length:=by omega
   have hgx:=Hi hi1
   have hd2:rest.drop i=rest.getD i []::rest.drop (i+1):=by
    rw[List.drop_eq_getElem_cons hi1]
    simp[hi1]
   have hwl:(rest.getD i []).length≤400:=hpw _ (List.mem_cons_of_mem _ (Dr (d:=[]) hi1))
   rw[hd2,Ci] at hinv
   generalize rest.getD i []=x at *
   have g3:=g3 x hwl
   have hcl1:=Hw x [58,32]
   have g4:=g4 (Lib.cut x [58,32]).1
   have g5:=g5 (Lib.trimPrefix (Lib.cut x [58,32]).1 [112,45]) (Lib.cut x [58,32]).2.1 (by omega)
   have g6:=g6 (Lib.cut x [58,32]).2.1 (by omega)
   have hnr:=Kb (Lib.cut x [58,32]).2.1
   generalize Lib.cut x [58,32]=cx at *
   obtain ⟨k,v,ok⟩:=cx
   simp only at g3 g4 g5 g6 hinv hnr
   generalize Lib.trimPrefix k [112,45]=tk at *
   generalize Lib.hasPrefix k [112,45]=bk at *
   generalize E3 tk v=pw at *
   obtain ⟨⟨p1,p2,p3,p4⟩,pb⟩:=pw
   generalize Ak v=nv at *
   obtain ⟨nn,nb⟩:=nv
   simp only[Aq] at g5
   simp only at g6 hinv hnr
   simp only[Ae] at hgx
   cases ok
   ·rw[if_pos rfl] at hinv
    simp (disch:=omega) only[go_sem,hD,hG',hgx,g3,g4,g0,Ho,Aa]
    (repeat (with_reducible refine aI ?_))
    subst hinv
    simp only[BN,Cs,Bn,An,Ah,List.map_nil]
    refine Aj [] [] (by simp) rfl rfl rfl ?_ ?_ <;> simp only[go_sem]
   rw[if_neg (by simp)] at hinv
   cases bk
   ·rw[if_neg (by simp)] at hinv
    by_cases hk:k=Qe
    ·have dk:(k==[99,111,110,116,101,110,116,45,108,101,110,103,116,104])=true:=by rw[hk];rfl
     rw[if_pos hk] at hinv
     cases nb
     ·rw[if_pos (by simp)] at hinv
      simp (disch:=omega) only[go_sem,hD,hG',hgx,g3,g4,g6,dk,g0,Ho,Aa]
      (repeat (with_reducible refine aI ?_))
      refine Au.mk [] ?_
      simp (disch:=omega) only[go_sem,hD,hG',g0,Ho,Aa]
      (repeat (with_reducible refine aI ?_))
      subst hinv
      simp only[BN,Cs,Bn,An,Ah,List.map_nil]
      refine Aj [] [] (by simp) rfl rfl rfl ?_ ?_ <;> simp only[go_sem]
     ·have hnr:=hnr rfl
      by_cases hnn:nn < 0∨0≤n
      ·rw[if_pos (.inr hnn)] at hinv
       have dc:(if nn < 0 then true else decide (n≥0))=true:=by
        split
        ·rfl
        ·rename_i hq
         exact decide_eq_true (hnn.resolve_left hq)
       simp (disch:=omega) only[go_sem,hD,hG',hgx,g3,g4,g6,dk,g0,Ho,Aa]
       (repeat (with_reducible refine aI ?_))
       refine Au.mk [] ?_
       simp (disch:=omega) only[go_sem,hD,hG',dc,g0,Ho,Aa]
       (repeat (with_reducible refine aI ?_))
       subst hinv
       simp only[BN,Cs,Bn,An,Ah,List.map_nil]
       refine Aj [] [] (by simp) rfl rfl rfl ?_ ?_ <;> simp only[go_sem]
      ·rw[if_neg (fun h=> h.elim (fun h=> by cases h) hnn)] at hinv
       have dc:(if nn < 0 then true else decide (n≥0))=false:=by
        split
        ·rename_i hq
         exact absurd (.inl hq) hnn
        ·exact decide_eq_false fun hq=> hnn (.inr hq)
       simp (disch:=omega) only[go_sem,hD,hG',hgx,g3,g4,g6,dk,g0,Ho,Aa]
       (repeat (with_reducible refine aI ?_))
       refine Au.mk [] ?_
       simp (disch:=omega) only[go_sem,hD,hG',dc,g0,Ho,Aa]
       (repeat (with_reducible refine aI ?_))
       refine ⟨(i+1,ps,hs,nn),⟨⟨by omega,by simp only;omega,by simp only;omega,by simp only;omega,hinv⟩,by simp only;omega⟩,AG hD [(4,4),(12,12),(5000,5000),(5001,5001)] rfl rfl ?_ ?_⟩ <;> simp only[go_sem]
       simp
    ·have dk:(k==[99,111,110,116,101,110,116,45,108,101,110,103,116,104])=false:=by rw[beq_eq_false_iff_ne];exact hk
     rw[if_neg hk] at hinv
     simp (disch:=omega) only[go_sem,hD,hG',hgx,g3,g4,dk,Ho,Aa]
     (repeat (with_reducible refine aI ?_))
     refine ⟨(i+1,ps,hs++[x],n),⟨⟨by omega,by simp only;omega,by simp only[List.length_append,List.length_cons,List.length_nil];omega,hn,hinv⟩,by simp only;omega⟩,AG hD [(4,4),(12,12),(5000,5000),(5001,86)] rfl rfl ?_ ?_⟩ <;> simp only[go_sem]
     ·simp
     ·simp[Ae]
   ·rw[if_pos rfl] at hinv
    cases pb
    ·rw[if_pos rfl] at hinv
     simp (disch:=omega) only[go_sem,hD,hG',hgx,g3,g4,g5,g0,Ho,Aa]
     (repeat (with_reducible refine aI ?_))
     subst hinv
     simp only[BN,Cs,Bn,An,Ah,List.map_nil]
     refine Aj [] [] (by simp) rfl rfl rfl ?_ ?_ <;> simp only[go_sem]
    ·rw[if_neg (by simp)] at hinv
     simp (disch:=omega) only[go_sem,hD,hG',hgx,g3,g4,g5,Ho,Aa]
     (repeat (with_reducible refine aI ?_))
     refine ⟨(i+1,ps++[⟨p1,p2,p3,p4⟩],hs,n),⟨⟨by omega,by simp only[List.length_append,List.length_cons,List.length_nil];omega,by simp only;omega,hn,hinv⟩,by simp only;omega⟩,AG hD [(4,4),(12,12),(5000,118),(5001,5001)] rfl rfl ?_ ?_⟩ <;> simp only[go_sem]
     ·simp
     ·simp[Aq]
  ·rw[decide_eq_false_iff_not] at h
   have hie:rest.drop i=[]:=List.drop_eq_nil_of_le (by omega)
   rw[hie,Ci] at hinv
   simp only[Cs] at hinv
   by_cases h1:n < 0
   ·have d1:decide (n < 0)=true:=by simp[h1]
    rw[if_pos h1] at hinv
    simp (disch:=omega) only[go_sem,hD,hG',d1,g0,Ho,Aa]
    (repeat (with_reducible refine aI ?_))
    subst hinv
    simp only[BN,Cs,Bn,An,Ah,List.map_nil]
    refine Aj [] [] (by simp) rfl rfl rfl ?_ ?_ <;> simp only[go_sem]
   have d1:decide (n < 0)=false:=by simp[h1]
   rw[if_neg h1] at hinv
   by_cases h2:400 < (hd.length:Int)+4+n
   ·have d2:decide ((hd.length:Int)+4+n > 400)=true:=by simp;omega
    rw[if_pos h2] at hinv
    simp (disch:=omega) only[go_sem,hD,hG',d1,d2,g0,Ho,Aa]
    (repeat (with_reducible refine aI ?_))
    subst hinv
    simp only[BN,Cs,Bn,An,Ah,List.map_nil]
    refine Aj [] [] (by simp) rfl rfl rfl ?_ ?_ <;> simp only[go_sem]
   have d2:decide ((hd.length:Int)+4+n > 400)=false:=by simp;omega
   rw[if_neg h2] at hinv
   by_cases h3:(b.length:Int) < (hd.length:Int)+4+n
   ·have d3:decide ((b.length:Int) < (hd.length:Int)+4+n)=true:=by simp;omega
    rw[if_pos h3] at hinv
    simp (disch:=omega) only[go_sem,hD,hG',d1,d2,d3,g0,Ho,Aa]
    (repeat (with_reducible refine aI ?_))
    subst hinv
    simp only[BN,Cs,Bn,An,Ah,List.map_nil]
    refine Aj [] [] (by simp) rfl rfl rfl ?_ ?_ <;> simp only[go_sem]
   have d3:decide ((b.length:Int) < (hd.length:Int)+4+n)=false:=by simp;omega
   rw[if_neg h3] at hinv
   have hbody:List.drop ((hd.length:Int)+4).toNat (List.take ((hd.length:Int)+4+n).toNat b)=(b.take ((hd.length:Int)+4+n).toNat).drop (hd.length+4):=by
    rw[show ((hd.length:Int)+4).toNat=hd.length+4 by omega]
   have g7:=g7 ((b.take ((hd.length:Int)+4+n).toNat).drop (hd.length+4)) (by rw[List.length_drop,List.length_take];omega)
   generalize (b.take ((hd.length:Int)+4+n).toNat).drop (hd.length+4)=bd at *
   subst hinv
   simp only[BN,An]
   simp (disch:=omega) only[go_sem,hD,hG',d1,d2,d3,hbody,g7,Ae,Ho,Aa]
   (repeat (with_reducible refine aI ?_))
   refine Aj [5000,5001] [] (by simp) rfl rfl rfl ?_ ?_ <;> simp only[go_sem]
 exact hcon _ rfl
def sv (l:Wd):Value:=.string ⟨⟨l⟩⟩
def PU:List (Value×Value):=[(sv Qj,.int .i64 3),(sv Sd,.int .i64 4),(sv Qq,.int .i64 5)]
def PS:List (Value×Value):=[(sv Qj,.int .i64 7),(sv Sd,.int .i64 8)]
def PT:List (Value×Value):=[(sv AcC,.int .i64 2),(sv Qq,.int .i64 6)]
theorem Tk (a b:Wd):Instr.sameNow .string (sv a) (sv b)=some (decide (a=b)):=by
 unfold sv
 simp only[Instr.sameNow]
 congr 1
 rw[Bool.eq_iff_iff,decide_eq_true_eq]
 constructor
 ·intro h
  have h2:(⟨a⟩:Array UInt8)==⟨b⟩:=h
  simpa using h2
 ·rintro rfl
  show ((⟨a⟩:Array UInt8)==⟨a⟩)=true
  simp
theorem R0 (m:Wd):Ey .string (sv m) (.int .i64 0) PU=some (.int .i64 (GF m)):=by
 unfold PU GF
 simp only[Ey,Tk]
 by_cases h1:m=Qj
 ·subst h1;simp
 by_cases h2:m=Sd
 ·subst h2;simp[h1]
 by_cases h3:m=Qq
 ·subst h3;simp[h1,h2]
 simp[h1,h2,h3]
theorem RY (m:Wd):Ey .string (sv m) (.int .i64 0) PS=some (.int .i64 (GG m)):=by
 unfold PS GG
 simp only[Ey,Tk]
 by_cases h1:m=Qj
 ·subst h1;simp
 by_cases h2:m=Sd
 ·subst h2;simp[h1]
 simp[h1,h2]
theorem RZ (m:Wd):Ey .string (sv m) (.int .i64 0) PT=some (.int .i64 (GE m)):=by
 unfold PT GE
 simp only[Ey,Tk]
 by_cases h1:m=AcC
 ·subst h1;simp
 by_cases h2:m=Qq
 ·subst h2;simp[h1]
 simp[h1,h2]
def Iz:Nat→Lo:=fun id=> match id with | 8=> {hand:=true} | 11=> {hand:=true} | 16=> {hand:=true} | _=> {}
structure Abe (m p:Wd):Prop where
 m:m.length≤1000
 p:p.length≤999
theorem Wq (m p:Wd) (h:Abe m p):A8 Tryz.prog D 187 [.str m,.str p] ⟨.tup [askA (Bl m p).1,.bool (Bl m p).2],[]⟩:=by
 have hok:Cl Tryz.prog D (Ao [BK,AJ]):=Ar _
 have g1:=Ag (T:=[BK,AJ]) (E:=BK) (i:=0) rfl (by decide) ((p,[47])) (⟨by have:=h.p;show p.length < 4294967281;omega,by show 1≤([47]:Wd).length;decide⟩)
 have g2:=fun (w:Wd) (h:w.length≤1000)=> Ag (T:=[BK,AJ]) (E:=AJ) (i:=1) rfl (by decide) (w) (by show w.length≤281474976710656;omega)
 generalize Ao [BK,AJ]=G at *
 dsimp only[BK] at g1
 dsimp only[AJ] at g2
 have hsp:=Q9 p [47] (by decide) h.p
 clear h
 have z0:(0:Int).toNat=0:=rfl
 have z1:(1:Int).toNat=1:=rfl
 have z2:(2:Int).toNat=2:=rfl
 have z3:(3:Int).toNat=3:=rfl
 have n1:((1:Nat):Int)=1:=rfl
 have i1:(1:Int) - 1=0:=rfl
 have n2:((2:Nat):Int)=2:=rfl
 have i2:(2:Int) - 1=1:=rfl
 have n3:((3:Nat):Int)=3:=rfl
 have i3:(3:Int) - 1=2:=rfl
 have n4:((4:Nat):Int)=4:=rfl
 have i4:(4:Int) - 1=3:=rfl
 have hcon:∀r,r=Bl m p→A8 Tryz.prog D 187 [.str m,.str p] ⟨.tup [askA r.1,.bool r.2],[]⟩:=by
  intro r hr
  unfold Bl at hr
  refine Bx (G:=G) (rs:=[(4,some 48),(5,none)]) hok Tryz.func187 Tryz.results187 Tryz.ntmps187 (Iz) fun X hP hD hG' hX=> ?_
  have hu:X.P.underlying 255=some (.map 9 3):=by rw[hP];exact Tryz.underlying255
  have hku:X.P.underlying 9=some .string:=by rw[hP];exact Tryz.underlying9
  simp only[AU,Bz]
  by_cases hping:m=Qq∧p=QX
  ·rw[if_pos hping] at hr
   obtain ⟨rfl,rfl⟩:=hping
   have hl:Lib.split QX [47]=[[],[112,105,110,103]]:=by decide+kernel
   rw[hl] at g1
   have g2:=g2 [112,105,110,103] (by decide)
   generalize Ak [112,105,110,103]=nw at *
   obtain ⟨nn,nb⟩:=nw
   simp only[QX] at g1 g2
   simp only[Qq,QX]
   iterate 9 ((try (first | refine Au.mk [] ?_ | refine CP.mk [(3,true),(12,true),(18,true)] (by decide) ?_));(try (simp (disch:=omega) only[go_sem,hD,hG',Iz,Ae,z0,z1,z2,z3,n1,n2,n3,n4,i1,i2,i3,i4,Int.reduceBEq,Int.reduceBNe,Int.reduceSub,g1,g2,Aa]));(repeat (with_reducible refine aI ?_)))
   refine Aj [] [] (by simp) rfl rfl rfl ?_ ?_ <;> simp only[go_sem]
   simp[hr,askA,At,Ah,bA,Aw,cov,Az,Ad,Af]
  rw[if_neg hping] at hr
  have hpp:(if (m==[71,69,84])=true then (p==[47,112,105,110,103]) else false)=false:=by
   split
   ·rename_i h1
    rw[beq_eq_false_iff_ne]
    exact fun h2=> hping ⟨eq_of_beq h1,h2⟩
   ·rfl
  clear hping
  generalize Lib.split p [47]=l at *
  obtain ⟨hne,HL⟩:=hsp
  cases l with
  | nil=> exact absurd rfl hne
  | cons a l=>
  cases l with
  | nil=>
   have hr:r=(At,false):=hr
   have gx:=g2 a HL.head
   generalize Ak a=nw at *
   iterate 9 ((try (first | refine Au.mk [(1,true)] ?_ | refine CP.mk [(3,true),(12,true),(18,true)] (by decide) ?_));(try (simp (disch:=omega) only[go_sem,hD,hG',Iz,Ae,z0,z1,z2,z3,n1,n2,n3,n4,i1,i2,i3,i4,Int.reduceBEq,Int.reduceBNe,Int.reduceSub,hpp,g1,gx,Aa]));(repeat (with_reducible refine aI ?_)))
   refine Aj [] [] (by simp) rfl rfl rfl ?_ ?_ <;> simp only[go_sem]
   simp[hr,askA,At,Ah,bA,Aw,cov,Az,Ad,Af]
  | cons b l=>
  cases l with
  | nil=>
   have hr:r=(At,false):=hr
   have gx:=g2 b HL.tail.head
   generalize Ak b=nw at *
   iterate 9 ((try (first | refine Au.mk [(1,true)] ?_ | refine CP.mk [(3,true),(12,true),(18,true)] (by decide) ?_));(try (simp (disch:=omega) only[go_sem,hD,hG',Iz,Ae,z0,z1,z2,z3,n1,n2,n3,n4,i1,i2,i3,i4,Int.reduceBEq,Int.reduceBNe,Int.reduceSub,hpp,g1,gx,Aa]));(repeat (with_reducible refine aI ?_)))
   refine Aj [] [] (by simp) rfl rfl rfl ?_ ?_ <;> simp only[go_sem]
   simp[hr,askA,At,Ah,bA,Aw,cov,Az,Ad,Af]
  | cons c l=>
  have gc:=g2 c HL.tail.tail.head
  cases l with
  | nil=>
   by_cases ha:a=[]
   ·subst ha
    by_cases hq:b=Gx
    ·have bq:(b==[113,117,101,117,101])=true:=by simp[hq,Gx]
     have hr:r=(⟨GF m,bA c,0,Ah⟩,decide (0 < GF m)):=by rw[hr];simp[B2,hq]
     generalize Ak c=nc at *
     obtain ⟨nn,nb⟩:=nc
     simp only at gc
     iterate 9 ((try (first | refine Au.mk [] ?_ | refine CP.mk [(12,true),(18,true)] (by decide) ?_));(try (simp (disch:=omega) only[go_sem,hD,hG',Iz,Ae,z0,z1,z2,z3,n1,n2,n3,n4,i1,i2,i3,i4,Int.reduceBEq,Int.reduceBNe,Int.reduceSub,hpp,g1,gc,bq,Aa]));(repeat (with_reducible refine aI ?_)))
     refine Tr.lit hX 0 (d:=68) PU hu hku (by decide) ⟨_,rfl,rfl,rfl,rfl⟩ (by decide) ?_ ?_ ?_
     ·unfold PU DW
      repeat (first | exact trivial | refine ⟨⟨_,rfl,_,_,rfl,rfl,rfl,fun _=> rfl,fun _=> rfl⟩,?_⟩ | unfold DW)
     ·unfold PU DV
      repeat (first | exact trivial | refine ⟨trivial,rfl,?_⟩ | unfold DV)
     have hlen:PU.length=3:=rfl
     have hlook:=R0 m
     generalize hnm:PU=nm at hlen hlook ⊢
     simp (disch:=omega) only[go_sem,hD,hG',Iz,Ae,z0,z1,z2,z3,n1,n2,n3,n4,i1,i2,i3,i4,Int.reduceBEq,Int.reduceBNe,Int.reduceSub,hlen,Aa]
     refine Gi (dk:=.string) (key:=sv m) (z:=.int .i64 0) (v:=.int .i64 (GF m)) (av:=.int .i64 (GF m)) hu hku rfl rfl trivial (by rw[hP];exact A4) (by simp[cst,sv]) hlook (fun _ _ _=> .int _ _) rfl (by simp) ?_
     generalize GF m=kk at *
     iterate 9 ((try (first | refine Au.mk [] ?_ | refine CP.mk [(12,true),(18,true)] (by decide) ?_));(try (simp (disch:=omega) only[go_sem,hD,hG',Iz,Ae,z0,z1,z2,z3,n1,n2,n3,n4,i1,i2,i3,i4,Int.reduceBEq,Int.reduceBNe,Int.reduceSub,hpp,g1,gc,bq,hlen,Aa]));(repeat (with_reducible refine aI ?_)))
     refine Aj [] [] (by simp) rfl rfl rfl ?_ ?_ <;> simp only[go_sem]
     simp[hr,askA,At,Ah,bA,Aw,cov,Az,Ad,Af]
    have bq:(b==[113,117,101,117,101])=false:=by rw[beq_eq_false_iff_ne];exact hq
    by_cases ht:b=Tl∧(Ak c).2=true
    ·have bt:(b==[116,97,103])=true:=by simp[ht.1,Tl]
     have hr:r=(⟨GG m,⟨#[]⟩,(Ak c).1,Ah⟩,decide (0 < GG m)):=by rw[hr];simp[B2,ht.1,ht.2,Tl,Gx]
     have hnt:=ht.2
     generalize Ak c=nc at *
     obtain ⟨nn,nb⟩:=nc
     simp only at gc hnt hr
     subst hnt
     iterate 9 ((try (first | refine Au.mk [] ?_ | refine CP.mk [(12,true),(18,true)] (by decide) ?_));(try (simp (disch:=omega) only[go_sem,hD,hG',Iz,Ae,z0,z1,z2,z3,n1,n2,n3,n4,i1,i2,i3,i4,Int.reduceBEq,Int.reduceBNe,Int.reduceSub,hpp,g1,gc,bq,bt,Aa]));(repeat (with_reducible refine aI ?_)))
     refine Tr.lit hX 0 (d:=88) PS hu hku (by decide) ⟨_,rfl,rfl,rfl,rfl⟩ (by decide) ?_ ?_ ?_
     ·unfold PS DW
      repeat (first | exact trivial | refine ⟨⟨_,rfl,_,_,rfl,rfl,rfl,fun _=> rfl,fun _=> rfl⟩,?_⟩ | unfold DW)
     ·unfold PS DV
      repeat (first | exact trivial | refine ⟨trivial,rfl,?_⟩ | unfold DV)
     have hlen:PS.length=2:=rfl
     have hlook:=RY m
     generalize hnm:PS=nm at hlen hlook ⊢
     simp (disch:=omega) only[go_sem,hD,hG',Iz,Ae,z0,z1,z2,z3,n1,n2,n3,n4,i1,i2,i3,i4,Int.reduceBEq,Int.reduceBNe,Int.reduceSub,hlen,Aa]
     refine Gi (dk:=.string) (key:=sv m) (z:=.int .i64 0) (v:=.int .i64 (GG m)) (av:=.int .i64 (GG m)) hu hku rfl rfl trivial (by rw[hP];exact A4) (by simp[cst,sv]) hlook (fun _ _ _=> .int _ _) rfl (by simp) ?_
     generalize GG m=kk at *
     iterate 9 ((try (first | refine Au.mk [] ?_ | refine CP.mk [(12,true),(18,true)] (by decide) ?_));(try (simp (disch:=omega) only[go_sem,hD,hG',Iz,Ae,z0,z1,z2,z3,n1,n2,n3,n4,i1,i2,i3,i4,Int.reduceBEq,Int.reduceBNe,Int.reduceSub,hpp,g1,gc,bq,bt,hlen,Aa]));(repeat (with_reducible refine aI ?_)))
     refine Aj [] [] (by simp) rfl rfl rfl ?_ ?_ <;> simp only[go_sem]
     simp[hr,askA,At,Ah,bA,Aw,cov,Az,Ad,Af]
    have hr:r=(At,false):=by rw[hr];simp[B2,hq,ht]
    have btn:(if (b==[116,97,103])=true then (Ak c).2 else false)=false:=by
     split
     ·rename_i h1
      have h2:b=Tl:=eq_of_beq h1
      simpa[h2] using ht
     ·rfl
    generalize Ak c=nc at *
    obtain ⟨nn,nb⟩:=nc
    simp only at gc btn
    iterate 9 ((try (first | refine Au.mk [] ?_ | refine CP.mk [(12,true),(18,true)] (by decide) ?_));(try (simp (disch:=omega) only[go_sem,hD,hG',Iz,Ae,z0,z1,z2,z3,n1,n2,n3,n4,i1,i2,i3,i4,Int.reduceBEq,Int.reduceBNe,Int.reduceSub,hpp,g1,gc,bq,btn,Aa]));(repeat (with_reducible refine aI ?_)))
    refine Aj [] [] (by simp) rfl rfl rfl ?_ ?_ <;> simp only[go_sem]
    simp[hr,askA,At,Ah,bA,Aw,cov,Az,Ad,Af]
   ·have aa:(a==[])=false:=by simp[ha]
    have hr:r=(At,false):=by rw[hr];simp[B2,ha]
    generalize Ak c=nc at *
    iterate 9 ((try (first | refine Au.mk [] ?_ | refine CP.mk [(12,true),(18,true)] (by decide) ?_));(try (simp (disch:=omega) only[go_sem,hD,hG',Iz,Ae,z0,z1,z2,z3,n1,n2,n3,n4,i1,i2,i3,i4,Int.reduceBEq,Int.reduceBNe,Int.reduceSub,hpp,g1,aa,gc,Aa]));(repeat (with_reducible refine aI ?_)))
    refine Aj [] [] (by simp) rfl rfl rfl ?_ ?_ <;> simp only[go_sem]
    simp[hr,askA,At,Ah,bA,Aw,cov,Az,Ad,Af]
  | cons d l=>
  have gd:=g2 d HL.tail.tail.tail.head
  cases l with
  | nil=>
   by_cases ha:a=[]
   ·subst ha
    by_cases hq:b=Gx
    ·have bq:(b==[113,117,101,117,101])=true:=by simp[hq,Gx]
     by_cases hi:m=Qj∧d=QD
     ·have hr:r=(⟨9,bA c,0,Ah⟩,true):=by rw[hr];simp[B2,hq,hi.1,hi.2]
      have bm:(m==[68,69,76,69,84,69])=true:=by simp[hi.1,Qj]
      have bd:(d==[105,116,101,109,115])=true:=by simp[hi.2,QD]
      generalize Ak d=nc at *
      obtain ⟨nn,nb⟩:=nc
      simp only at gd
      iterate 9 ((try (first | refine Au.mk [] ?_ | refine CP.mk [(3,true)] (by decide) ?_));(try (simp (disch:=omega) only[go_sem,hD,hG',Iz,Ae,z0,z1,z2,z3,n1,n2,n3,n4,i1,i2,i3,i4,Int.reduceBEq,Int.reduceBNe,Int.reduceSub,hpp,g1,gd,bq,bm,bd,Aa]));(repeat (with_reducible refine aI ?_)))
      refine Aj [] [] (by simp) rfl rfl rfl ?_ ?_ <;> simp only[go_sem]
      simp[hr,askA,At,Ah,bA,Aw,cov,Az,Ad,Af]
     have bi:(if (m==[68,69,76,69,84,69])=true then (d==[105,116,101,109,115]) else false)=false:=by
      split
      ·rename_i h1
       rw[beq_eq_false_iff_ne]
       exact fun h2=> hi ⟨eq_of_beq h1,h2⟩
      ·rfl
     by_cases hn:(Ak d).2=true
     ·have hr:r=(⟨GE m,bA c,(Ak d).1,Ah⟩,decide (0 < GE m)):=by rw[hr];simp[B2,hq,hi,hn]
      generalize Ak d=nc at *
      obtain ⟨nn,nb⟩:=nc
      simp only at gd hn hr
      subst hn
      iterate 9 ((try (first | refine Au.mk [] ?_ | refine CP.mk [(3,true)] (by decide) ?_));(try (simp (disch:=omega) only[go_sem,hD,hG',Iz,Ae,z0,z1,z2,z3,n1,n2,n3,n4,i1,i2,i3,i4,Int.reduceBEq,Int.reduceBNe,Int.reduceSub,hpp,g1,gd,bq,bi,Aa]));(repeat (with_reducible refine aI ?_)))
      refine Tr.lit hX 0 (d:=116) PT hu hku (by decide) ⟨_,rfl,rfl,rfl,rfl⟩ (by decide) ?_ ?_ ?_
      ·unfold PT DW
       repeat (first | exact trivial | refine ⟨⟨_,rfl,_,_,rfl,rfl,rfl,fun _=> rfl,fun _=> rfl⟩,?_⟩ | unfold DW)
      ·unfold PT DV
       repeat (first | exact trivial | refine ⟨trivial,rfl,?_⟩ | unfold DV)
      have hlen:PT.length=2:=rfl
      have hlook:=RZ m
      generalize hnm:PT=nm at hlen hlook ⊢
      simp (disch:=omega) only[go_sem,hD,hG',Iz,Ae,z0,z1,z2,z3,n1,n2,n3,n4,i1,i2,i3,i4,Int.reduceBEq,Int.reduceBNe,Int.reduceSub,hlen,Aa]
      refine Gi (dk:=.string) (key:=sv m) (z:=.int .i64 0) (v:=.int .i64 (GE m)) (av:=.int .i64 (GE m)) hu hku rfl rfl trivial (by rw[hP];exact A4) (by simp[cst,sv]) hlook (fun _ _ _=> .int _ _) rfl (by simp) ?_
      generalize GE m=kk at *
      iterate 9 ((try (first | refine Au.mk [] ?_ | refine CP.mk [(3,true)] (by decide) ?_));(try (simp (disch:=omega) only[go_sem,hD,hG',Iz,Ae,z0,z1,z2,z3,n1,n2,n3,n4,i1,i2,i3,i4,Int.reduceBEq,Int.reduceBNe,Int.reduceSub,hpp,g1,gd,bq,bi,hlen,Aa]));(repeat (with_reducible refine aI ?_)))
      refine Aj [] [] (by simp) rfl rfl rfl ?_ ?_ <;> simp only[go_sem]
      simp[hr,askA,At,Ah,bA,Aw,cov,Az,Ad,Af]
     have hr:r=(At,false):=by rw[hr];simp[B2,hq,hi,hn]
     have hn:(Ak d).2=false:=by simpa using hn
     generalize Ak d=nc at *
     obtain ⟨nn,nb⟩:=nc
     simp only at gd hn
     subst hn
     iterate 9 ((try (first | refine Au.mk [] ?_ | refine CP.mk [(3,true)] (by decide) ?_));(try (simp (disch:=omega) only[go_sem,hD,hG',Iz,Ae,z0,z1,z2,z3,n1,n2,n3,n4,i1,i2,i3,i4,Int.reduceBEq,Int.reduceBNe,Int.reduceSub,hpp,g1,gd,bq,bi,Aa]));(repeat (with_reducible refine aI ?_)))
     refine Aj [] [] (by simp) rfl rfl rfl ?_ ?_ <;> simp only[go_sem]
     simp[hr,askA,At,Ah,bA,Aw,cov,Az,Ad,Af]
    have bq:(b==[113,117,101,117,101])=false:=by rw[beq_eq_false_iff_ne];exact hq
    have hr:r=(At,false):=by rw[hr];simp[B2,hq]
    generalize Ak d=nc at *
    obtain ⟨nn,nb⟩:=nc
    simp only at gd
    iterate 9 ((try (first | refine Au.mk [] ?_ | refine CP.mk [(3,true)] (by decide) ?_));(try (simp (disch:=omega) only[go_sem,hD,hG',Iz,Ae,z0,z1,z2,z3,n1,n2,n3,n4,i1,i2,i3,i4,Int.reduceBEq,Int.reduceBNe,Int.reduceSub,hpp,g1,gd,bq,Aa]));(repeat (with_reducible refine aI ?_)))
    refine Aj [] [] (by simp) rfl rfl rfl ?_ ?_ <;> simp only[go_sem]
    simp[hr,askA,At,Ah,bA,Aw,cov,Az,Ad,Af]
   ·have aa:(a==[])=false:=by simp[ha]
    have hr:r=(At,false):=by rw[hr];simp[B2,ha]
    generalize Ak d=nc at *
    iterate 9 ((try (first | refine Au.mk [] ?_ | refine CP.mk [(3,true),(18,true)] (by decide) ?_));(try (simp (disch:=omega) only[go_sem,hD,hG',Iz,Ae,z0,z1,z2,z3,n1,n2,n3,n4,i1,i2,i3,i4,Int.reduceBEq,Int.reduceBNe,Int.reduceSub,hpp,g1,aa,gd,Aa]));(repeat (with_reducible refine aI ?_)))
    refine Aj [] [] (by simp) rfl rfl rfl ?_ ?_ <;> simp only[go_sem]
    simp[hr,askA,At,Ah,bA,Aw,cov,Az,Ad,Af]
  | cons e l=>
  have hr:r=(At,false):=hr
  have hle:∀k:Nat,k≤4→((((l.length+1+1+1+1+1:Nat)):Int)==(k:Int))=false:=fun k hk=> by rw[beq_eq_false_iff_ne];omega
  have e3:=hle 3 (by decide)
  have e4:=hle 4 (by decide)
  simp only[n3,n4] at e3 e4
  have hgl:∃x,x.length≤1000∧([AV.str a]::[AV.str b]::[AV.str c]::[AV.str d]::[AV.str e]::l.map Ae).getD ((((l.length+1+1+1+1+1:Nat):Int) - 1).toNat) []=[AV.str x]:=by
   have hlt:l.length+4 < (a::b::c::d::e::l).length:=by simp
   refine ⟨(a::b::c::d::e::l).getD (l.length+4) [],HL.2 _ (Dr hlt),?_⟩
   have:=Hi hlt
   rw[show ((((l.length+1+1+1+1+1:Nat):Int) - 1).toNat)=l.length+4 by omega]
   exact this
  obtain ⟨x,hx,hgx⟩:=hgl
  have hll:l.length≤1000:=by have:=HL.1;simp at this;omega
  have gx:=g2 x hx
  generalize Ak x=nw at *
  iterate 9 ((try (first | refine Au.mk [(1,true)] ?_ | refine CP.mk [(3,true),(12,true),(18,true)] (by decide) ?_));(try (simp (disch:=omega) only[go_sem,hD,hG',Iz,Ae,z0,z1,z2,z3,n1,n2,n3,n4,i1,i2,i3,i4,Int.reduceBEq,Int.reduceBNe,Int.reduceSub,hpp,g1,e3,e4,hgx,gx,Aa]));(repeat (with_reducible refine aI ?_)))
  refine Aj [] [] (by simp) rfl rfl rfl ?_ ?_ <;> simp only[go_sem]
  simp[hr,askA,At,Ah,bA,Aw,cov,Az,Ad,Af]
 exact hcon _ rfl
def Hy:BH Tryz.prog D:=⟨187,Wd×Wd,fun x=> [.str x.1,.str x.2],fun x=> Abe x.1 x.2,fun x=> ⟨.tup [askA (Bl x.1 x.2).1,.bool (Bl x.1 x.2).2],[]⟩,fun x y _ _ h=> by
 obtain ⟨a,b⟩:=x
 obtain ⟨a',b'⟩:=y
 simp only[List.cons.injEq,AV.str.injEq,and_true] at h
 rw[h.1,h.2],fun x h=> Wq x.1 x.2 h⟩
end Go.Proofs.YtlkmgccikgnaeaaGreatDoor.Ab
