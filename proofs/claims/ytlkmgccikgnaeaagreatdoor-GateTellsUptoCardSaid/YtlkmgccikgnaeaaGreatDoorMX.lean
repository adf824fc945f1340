/-
  Texts of the proof, one behind the other: RwE RwF RwG RwH.
  No condition but those that each theorem names.
-/
import Derived.Test.YtlkmgccikgnaeaaGreatDoorMW
import Derived.Test.YtlkmgccikgnaeaaGreatDoorMC
import Derived.Test.YtlkmgccikgnaeaaGreatDoorMJ
import Derived.Test.YtlkmgccikgnaeaaGreatDoorMK
import Derived.Test.YtlkmgccikgnaeaaGreatDoorMV
import Derived.Test.YtlkmgccikgnaeaaGreatDoorML
set_option linter.unusedVariables false
set_option linter.unusedSimpArgs false
set_option maxRecDepth 100000
set_option maxHeartbeats 16000000
namespace Go.Proofs.YtlkmgccikgnaeaaGreatDoor.Ab
open Go Go.RowKit
theorem ZR (e:Int):A8 Tryz.prog D 200 [.int .i64 e] ⟨.tup [.str [],.nils,.agg [.nils,.nils],.int .i64 0,.int .i64 e],[]⟩:=by
 have hok:Cl Tryz.prog D (Ao []):=Ar _
 generalize Ao []=G at *
 refine Bx (G:=G) (rs:=[(2,none),(3,none),(4,some 25),(5,none),(6,none)]) hok Tryz.func200 Tryz.results200 Tryz.ntmps200 (fun _=> {}) fun X hP hD hG' hX=> ?_
 simp only[AU,Bz]
 simp (disch:=omega) only[go_sem,hD,hG',Aa]
 refine Aj [] [] (by simp) rfl rfl rfl ?_ ?_ <;> simp only[go_sem]
def KS:BH Tryz.prog D:=⟨200,Int,fun e=> [.int .i64 e],fun _=> True,fun e=> ⟨.tup [.str [],.nils,.agg [.nils,.nils],.int .i64 0,.int .i64 e],[]⟩,fun x y _ _ h=> by
 simp only[List.cons.injEq,AV.int.injEq,true_and,and_true] at h
 rw[h],fun e _=> ZR e⟩
def G0:Wd:=[13,10,13,10]
def C3:Nat→Lo:=fun id=> match id with | 41=> {uo:=[11],un:=[4]} | _=> {}
theorem AaP {b:Wd} {k:Nat} (h:Lib.index (b.take 400) G0=k):RC b=(b.take k,(b.take 400).drop (k+4),true)∧k+4≤b.length∧k+4≤400:=by
 have hr:=Lib.index_room (b.take 400) G0 (by omega)
 rw[h,List.length_take] at hr
 have hl:G0.length=4:=rfl
 refine ⟨?_,by omega,by omega⟩
 show Lib.cut (b.take 400) G0=_
 rw[Xt h,List.take_take]
 congr 2
 omega
theorem Wi (b:Wd) (hb:b.length≤16777216):A8 Tryz.prog D 148 [.sl 1 (b.map Ac)] ⟨BN (Ca b),[]⟩:=by
 obtain ⟨hpne,hpl,hpw⟩:=LH (b:=b)
 have hok:Cl Tryz.prog D (Ao [KS,Bm,GD,Et,AH]):=Ar _
 have g0:=fun (e:Int)=> Ag (T:=[KS,Bm,GD,Et,AH]) (E:=KS) (i:=0) rfl (by decide) (e) (trivial)
 have g2:=fun (w:Wd) (h:w.length≤400)=> Ag (T:=[KS,Bm,GD,Et,AH]) (E:=Bm) (i:=1) rfl (by decide) ((w,[13,10])) (⟨by show w.length≤16777216;omega,by show 1≤([13,10]:Wd).length;decide,by show ([13,10]:Wd).length≤256;decide⟩)
 have g3:=fun (w:Wd) (h:w.length≤400)=> Ag (T:=[KS,Bm,GD,Et,AH]) (E:=GD) (i:=2) rfl (by decide) ((w,[58,32])) (⟨by show w.length≤16777216;omega,by show 1≤([58,32]:Wd).length;decide,by show ([58,32]:Wd).length≤256;decide⟩)
 have g5:=fun (k w:Wd) (h:w.length≤400)=> Ag (T:=[KS,Bm,GD,Et,AH]) (E:=Et) (i:=3) rfl (by decide) ((k,w)) (by show w.length≤8388608;omega)
 have g6:=fun (w:Wd) (h:w.length≤400)=> Ag (T:=[KS,Bm,GD,Et,AH]) (E:=AH) (i:=4) rfl (by decide) (w) (by show w.length≤281474976710656;omega)
 generalize Ao [KS,Bm,GD,Et,AH]=G at *
 dsimp only[KS] at g0
 dsimp only[Bm] at g2
 dsimp only[GD] at g3
 dsimp only[Et] at g5
 dsimp only[AH] at g6
 have hcon:∀r,r=Ca b→A8 Tryz.prog D 148 [.sl 1 (b.map Ac)] ⟨BN r,[]⟩:=by
  intro r hr
  have hsl:(b.take 400).length=min 400 b.length:=List.length_take
  refine Bx (G:=G) (rs:=[(2,none),(3,none),(4,some 25),(5,none),(6,none)]) hok Tryz.func148 Tryz.results148 Tryz.ntmps148 (C3) fun X hP hD hG' hX=> ?_
  simp only[AU,Bz]
  simp (disch:=omega) only[go_sem,hD,hG',C3,Aa]
  refine Tr.loop (ι:=Nat×Int) (fun x=> x.1≤401∧((x.2=-1∧∀j,j < x.1→Lib.occAt (b.take 400) G0 j=false)∨(0≤x.2∧Lib.index (b.take 400) G0=x.2))) (fun x=> {nt:=212,tm:=[(0,.sl 1 (b.map Ac)),(2,.str []),(3,.nils),(4,.ptr 4 0),(5,.int .i64 0),(6,.int .i64 0),(7,.func 200 []),(8,.int .i64 x.2),(9,.int .i64 x.1)],bl:=[(4,some (.cells [.nils,.nils]))]}) (fun x=> 402 - x.1) (0,-1)
   ⟨⟨by simp only;omega,.inl ⟨rfl,fun j h=> absurd h (Nat.not_lt_zero j)⟩⟩,AG hD [(4,4)] rfl rfl (by simp only[go_sem];simp) (by simp only[go_sem])⟩ ?_
  rintro ⟨i,e⟩ ⟨hi,hinv⟩
  simp only at hi hinv
  refine Al hX C3 _ _ _ ?_
  simp (disch:=omega) only[go_sem,hD,hG',C3,Aa]
  refine Au.mk [] ?_
  simp (disch:=omega) only[go_sem,hD,hG',C3,Aa]
  have key:(if (if (i:Int)+4≤(b.length:Int) then decide ((i:Int)+4≤400) else false)=true then decide (e < 0) else false)=decide ((i:Int)+4≤(b.length:Int)∧(i:Int)+4≤400∧e < 0):=by
   by_cases h1:(i:Int)+4≤(b.length:Int) <;> by_cases h2:(i:Int)+4≤400 <;> by_cases h3:e < 0 <;> simp[h1,h2,h3]
  rw[key]
  have hcl:G0.length=4:=rfl
  refine Ai (fun h=> ?_) (fun h=> ?_)
  ·obtain ⟨h1,h2,h3⟩:=of_decide_eq_true h
   have hnot:e=-1∧∀j,j < i→Lib.occAt (b.take 400) G0 j=false:=by
    rcases hinv with h | h
    ·exact h
    ·omega
   obtain ⟨rfl,hnot⟩:=hnot
   have ho:=LD (s:=b.take 400) (sub:=G0) (i:=i) (by rw[hsl,hcl];omega)
   rw[List.take_take,hcl,show min (i+4) 400=i+4 by omega] at ho
   have e1:(i:Int).toNat=i:=Int.toNat_natCast i
   have e2:((i:Int)+4).toNat=i+4:=by omega
   cases hp:Lib.occAt (b.take 400) G0 i
   ·rw[hp,G0] at ho
    simp (disch:=omega) only[go_sem,hD,hG',C3,e1,e2,ho,Aa]
    (repeat (with_reducible refine aI ?_))
    refine ⟨(i+1,-1),⟨⟨by simp only;omega,.inl ⟨rfl,fun j hj=> ?_⟩⟩,by simp only;omega⟩,AG hD [(4,4)] rfl rfl ?_ ?_⟩
    ·by_cases hji:j=i
     ·rw[hji];exact hp
     ·exact hnot j (by simp only at hj;omega)
    all_goals simp only[go_sem]
    simp
   ·have hx:=Kq (s:=b.take 400) (sub:=G0) (k:=i) (by rw[hsl];omega) hp hnot
    rw[hp,G0] at ho
    simp (disch:=omega) only[go_sem,hD,hG',C3,e1,e2,ho,Aa]
    (repeat (with_reducible refine aI ?_))
    refine ⟨(i+1,(i:Int)),⟨⟨by simp only;omega,.inr ⟨by simp only;omega,hx⟩⟩,by simp only;omega⟩,AG hD [(4,4)] rfl rfl ?_ ?_⟩
    all_goals simp only[go_sem]
    simp
  have h:=of_decide_eq_false h
  clear key
  rcases hinv with ⟨rfl,hnot⟩ | ⟨he,hx⟩
  ·have hg:=Kp (s:=b.take 400) (sub:=G0) (k:=i) (by decide) (by rw[hsl,hcl];omega) hnot
   have hpc:(RC b).2.2=false:=by
    show (Lib.cut (b.take 400) G0).2.2=false
    rw[U8 hg]
   have hinv:=hr
   unfold Ca at hinv
   rw[if_pos hpc] at hinv
   by_cases h4:b.length < 400
   ·have d4:decide ((b.length:Int) < 400)=true:=by simp;omega
    rw[if_pos h4] at hinv
    subst hinv
    simp only[BN,Cs,Bn,An,Ah,List.map_nil]
    iterate 3 ((try (refine Au.mk [] ?_));(try (simp (disch:=omega) only[go_sem,hD,hG',C3,g0,Ae,List.take_length,d4,Int.reduceLT,Aa]));(repeat (with_reducible refine aI ?_)))
    refine Aj [] [] (by simp) rfl rfl rfl ?_ ?_ <;> simp only[go_sem]
   ·have d4:decide ((b.length:Int) < 400)=false:=by simp;omega
    rw[if_neg h4] at hinv
    subst hinv
    simp only[BN,Cs,Bn,An,Ah,List.map_nil]
    iterate 3 ((try (refine Au.mk [] ?_));(try (simp (disch:=omega) only[go_sem,hD,hG',C3,g0,Ae,List.take_length,d4,Int.reduceLT,Aa]));(repeat (with_reducible refine aI ?_)))
    refine Aj [] [] (by simp) rfl rfl rfl ?_ ?_ <;> simp only[go_sem]
  obtain ⟨k,rfl⟩:∃k:Nat,e=k:=⟨e.toNat,by omega⟩
  obtain ⟨hpc,hk1,hk2⟩:=AaP hx
  have hpl0:FZ b=Lib.split (b.take k) [13,10]:=by unfold FZ;rw[hpc]
  have hinv:=hr
  unfold Ca at hinv
  rw[hpc,if_neg (by simp)] at hinv
  have hkl:(b.take k).length=k:=by rw[List.length_take];omega
  simp only[hkl] at hinv
  have g2:=g2 (b.take k) (by omega)
  rw[←hpl0] at g2
  clear hr hpc hpl0 hx h
  have dk:decide ((k:Int) < 0)=false:=by simp
  have ek:(k:Int).toNat=k:=Int.toNat_natCast k
  generalize FZ b=ls at *
  cases ls with
  | nil=> exact absurd rfl hpne
  | cons w rest=>
  simp only[List.getD_cons_zero,List.tail_cons] at hinv
  have hrl:rest.length≤400:=by simp at hpl;omega
  have hdr:List.drop (1:Int).toNat (List.take ((((Ae w::rest.map Ae).length:Nat):Int)).toNat (Ae w::rest.map Ae))=rest.map Ae:=by
   rw[Int.toNat_natCast,List.take_length]
   rfl
  rw[List.map_cons] at g2
  simp (disch:=omega) only[go_sem,hD,hG',C3,dk,Aa]
  (repeat (with_reducible refine aI ?_))
  refine Au.mk [] ?_
  simp (disch:=omega) only[go_sem,hD,hG',C3,dk,ek,g2,hdr,Aa]
  (repeat (with_reducible refine aI ?_))
  refine Tr.loop (ι:=Nat×List AI×List Wd×Int) (fun x=> x.1≤rest.length∧x.2.1.length≤x.1∧x.2.2.1.length≤x.1∧(-1≤x.2.2.2∧x.2.2.2≤1073741824)∧r=Cs b k w (Ci x.2.1 x.2.2.1 x.2.2.2 (rest.drop x.1))) (fun x=> {nt:=212,tm:=[(0,.sl 1 (b.map Ac)),(2,.str []),(3,.nils),(4,.ptr 4 0),(5,.int .i64 0),(6,.int .i64 0),(7,.func 200 []),(8,.int .i64 k),(10,.ptr 10 0),(11,.os 5001),(12,.int .i64 x.2.2.2),(13,.sl 1 (Ae w::rest.map Ae)),(76,.sl 1 (rest.map Ae)),(77,.int .i64 rest.length),(78,.int .i64 x.1)],bl:=[(4,some (.cells [.nils,.nils])),(10,some (.cells [.os 5000,.nils])),(5000,some (.rows 101 4 (x.2.1.map Aq))),(5001,some (.rows 9 1 (x.2.2.1.map Ae)))]}) (fun x=> rest.length - x.1) (0,[],[],-1)
   ⟨⟨Nat.zero_le _,by simp,by simp,by simp,by simpa using hinv⟩,AG hD [(4,4),(10,10)] rfl rfl (by simp only[go_sem];simp) (by simp only[go_sem])⟩ ?_
  clear hinv
  rintro ⟨i,ps,hs,n⟩ ⟨hi,hpsl,hhsl,hn,hinv⟩
  simp only at hi hpsl hhsl hn hinv
  refine Al hX C3 _ _ _ ?_
  simp (disch:=omega) only[go_sem,hD,hG',C3,Aa]
  refine Ai (fun h=> ?_) (fun h=> ?_)
  ·rw[decide_eq_true_eq] at h
   have hi1:i < rest.length:=by omega
   have hgx:=Hi hi1
   have hd2:rest.drop i=rest.getD i []::rest.drop (i+1):=by
    rw[List.drop_eq_getElem_cons hi1]
    simp[hi1]
   have hwl:(rest.getD i []).length≤400:=hpw _ (List.mem_cons_of_mem _ (Dr (d:=[]) hi1))
   rw[hd2,Ci] at hinv
   generalize rest.getD i []=x at *
   have g3:=g3 x hwl
   have hcl1:=Hw x [58,32]
   generalize Lib.cut x [58,32]=cx at *
   obtain ⟨kk,v,ok⟩:=cx
   simp only at g3 hinv hcl1
   have g5:=g5 (kk.drop 2) v (by omega)
   have g6:=g6 v (by omega)
   have hnr:=Kb v
   have hot:=Lib.hasPrefix_of_take kk [112,45]
   have htd:Lib.hasPrefix kk [112,45]=true→Lib.trimPrefix kk [112,45]=kk.drop 2:=fun h=> by
    unfold Lib.trimPrefix
    rw[if_pos h]
    rfl
   have h2l:([112,45]:Wd).length=2:=rfl
   rw[h2l] at hot
   have z2:(2:Int).toNat=2:=rfl
   obtain ⟨hq1,hq2⟩:=Q2 (kk.drop 2) v
   simp only[Ae] at hgx
   generalize Gz (kk.drop 2) v=rp at *
   obtain ⟨⟨q1,q2,q3,q4⟩,qb⟩:=rp
   simp only[Aq] at g5 hq1 hq2
   cases ok
   ·rw[if_pos rfl] at hinv
    subst hinv
    simp only[BN,Cs,Bn,An,Ah,List.map_nil]
    iterate 3 ((try (refine Au.mk [] ?_));(try (simp (disch:=omega) only[go_sem,hD,hG',C3,g0,Ae,List.take_length,hgx,g3,Aa]));(repeat (with_reducible refine aI ?_)))
    refine Aj [] [] (by simp) rfl rfl rfl ?_ ?_ <;> simp only[go_sem]
   rw[if_neg (by simp)] at hinv
   cases bk:Lib.hasPrefix kk [112,45]
   ·rw[bk] at hinv hot
    rw[if_neg (by simp)] at hinv
    generalize Ak v=nv at *
    obtain ⟨nn,nb⟩:=nv
    simp only at g6 hinv hnr
    by_cases hc:2≤kk.length
    ·have dc:decide ((kk.length:Int)≥2)=true:=by simp;omega
     rw[decide_eq_true hc,Bool.true_and] at hot
     by_cases hk:kk=Qe
     ·have dk:(!(kk==[99,111,110,116,101,110,116,45,108,101,110,103,116,104]))=false:=by rw[hk];rfl
      rw[if_pos hk] at hinv
      cases nb
      ·rw[if_pos (by simp)] at hinv
       simp (disch:=omega) only[go_sem,hD,hG',C3,hgx,g3,z2,dc,Aa]
       (repeat (with_reducible refine aI ?_))
       refine Au.mk [] ?_
       simp (disch:=omega) only[go_sem,hD,hG',C3,dc,hot,dk,g6,g0,List.take_length,Aa]
       (repeat (with_reducible refine aI ?_))
       refine Au.mk [] ?_
       simp (disch:=omega) only[go_sem,hD,hG',g0,C3,Aa]
       (repeat (with_reducible refine aI ?_))
       subst hinv
       simp only[BN,Cs,Bn,An,Ah,List.map_nil]
       refine Aj [] [] (by simp) rfl rfl rfl ?_ ?_ <;> simp only[go_sem]
      ·have hnr:=hnr rfl
       by_cases hnn:nn < 0∨0≤n
       ·rw[if_pos (.inr hnn)] at hinv
        have dn:(if nn < 0 then true else decide (n≥0))=true:=by
         split
         ·rfl
         ·rename_i hq
          exact decide_eq_true (hnn.resolve_left hq)
        simp (disch:=omega) only[go_sem,hD,hG',C3,hgx,g3,z2,dc,Aa]
        (repeat (with_reducible refine aI ?_))
        refine Au.mk [] ?_
        simp (disch:=omega) only[go_sem,hD,hG',C3,dc,hot,dk,g6,g0,List.take_length,Aa]
        (repeat (with_reducible refine aI ?_))
        refine Au.mk [] ?_
        simp (disch:=omega) only[go_sem,hD,hG',dn,g0,C3,Aa]
        (repeat (with_reducible refine aI ?_))
        subst hinv
        simp only[BN,Cs,Bn,An,Ah,List.map_nil]
        refine Aj [] [] (by simp) rfl rfl rfl ?_ ?_ <;> simp only[go_sem]
       ·rw[if_neg (fun h=> h.elim (fun h=> by cases h) hnn)] at hinv
        have dn:(if nn < 0 then true else decide (n≥0))=false:=by
         split
         ·rename_i hq
          exact absurd (.inl hq) hnn
         ·exact decide_eq_false fun hq=> hnn (.inr hq)
        simp (disch:=omega) only[go_sem,hD,hG',C3,hgx,g3,z2,dc,Aa]
        (repeat (with_reducible refine aI ?_))
        refine Au.mk [] ?_
        simp (disch:=omega) only[go_sem,hD,hG',C3,dc,hot,dk,g6,g0,List.take_length,Aa]
        (repeat (with_reducible refine aI ?_))
        refine Au.mk [] ?_
        simp (disch:=omega) only[go_sem,hD,hG',dn,g0,C3,Aa]
        (repeat (with_reducible refine aI ?_))
        refine ⟨(i+1,ps,hs,nn),⟨⟨by omega,by simp only;omega,by simp only;omega,by simp only;omega,hinv⟩,by simp only;omega⟩,AG hD [(4,4),(10,10),(5000,5000),(5001,5001)] rfl rfl ?_ ?_⟩ <;> simp only[go_sem]
        simp
     ·have dk:(!(kk==[99,111,110,116,101,110,116,45,108,101,110,103,116,104]))=true:=by rw[Bool.not_eq_true',beq_eq_false_iff_ne];exact hk
      rw[if_neg hk] at hinv
      simp (disch:=omega) only[go_sem,hD,hG',C3,hgx,g3,z2,dc,Aa]
      (repeat (with_reducible refine aI ?_))
      refine Au.mk [] ?_
      simp (disch:=omega) only[go_sem,hD,hG',C3,dc,hot,dk,g6,g0,List.take_length,Aa]
      (repeat (with_reducible refine aI ?_))
      refine ⟨(i+1,ps,hs++[x],n),⟨⟨by omega,by simp only;omega,by simp only[List.length_append,List.length_cons,List.length_nil];omega,hn,hinv⟩,by simp only;omega⟩,AG hD [(4,4),(10,10),(5000,5000),(5001,132)] rfl rfl ?_ ?_⟩ <;> simp only[go_sem]
      ·simp
      ·simp[Ae]
    ·have dc:decide ((kk.length:Int)≥2)=false:=by simp;omega
     by_cases hk:kk=Qe
     ·have dk:(!(kk==[99,111,110,116,101,110,116,45,108,101,110,103,116,104]))=false:=by rw[hk];rfl
      rw[if_pos hk] at hinv
      cases nb
      ·rw[if_pos (by simp)] at hinv
       simp (disch:=omega) only[go_sem,hD,hG',C3,hgx,g3,z2,dc,Aa]
       (repeat (with_reducible refine aI ?_))
       refine Au.mk [(3,true)] ?_
       simp (disch:=omega) only[go_sem,hD,hG',C3,dc,dk,g6,g0,List.take_length,Aa]
       (repeat (with_reducible refine aI ?_))
       refine Au.mk [] ?_
       simp (disch:=omega) only[go_sem,hD,hG',g0,C3,Aa]
       (repeat (with_reducible refine aI ?_))
       subst hinv
       simp only[BN,Cs,Bn,An,Ah,List.map_nil]
       refine Aj [] [] (by simp) rfl rfl rfl ?_ ?_ <;> simp only[go_sem]
      ·have hnr:=hnr rfl
       by_cases hnn:nn < 0∨0≤n
       ·rw[if_pos (.inr hnn)] at hinv
        have dn:(if nn < 0 then true else decide (n≥0))=true:=by
         split
         ·rfl
         ·rename_i hq
          exact decide_eq_true (hnn.resolve_left hq)
        simp (disch:=omega) only[go_sem,hD,hG',C3,hgx,g3,z2,dc,Aa]
        (repeat (with_reducible refine aI ?_))
        refine Au.mk [(3,true)] ?_
        simp (disch:=omega) only[go_sem,hD,hG',C3,dc,dk,g6,g0,List.take_length,Aa]
        (repeat (with_reducible refine aI ?_))
        refine Au.mk [] ?_
        simp (disch:=omega) only[go_sem,hD,hG',dn,g0,C3,Aa]
        (repeat (with_reducible refine aI ?_))
        subst hinv
        simp only[BN,Cs,Bn,An,Ah,List.map_nil]
        refine Aj [] [] (by simp) rfl rfl rfl ?_ ?_ <;> simp only[go_sem]
       ·rw[if_neg (fun h=> h.elim (fun h=> by cases h) hnn)] at hinv
        have dn:(if nn < 0 then true else decide (n≥0))=false:=by
         split
         ·rename_i hq
          exact absurd (.inl hq) hnn
         ·exact decide_eq_false fun hq=> hnn (.inr hq)
        simp (disch:=omega) only[go_sem,hD,hG',C3,hgx,g3,z2,dc,Aa]
        (repeat (with_reducible refine aI ?_))
        refine Au.mk [(3,true)] ?_
        simp (disch:=omega) only[go_sem,hD,hG',C3,dc,dk,g6,g0,List.take_length,Aa]
        (repeat (with_reducible refine aI ?_))
        refine Au.mk [] ?_
        simp (disch:=omega) only[go_sem,hD,hG',dn,g0,C3,Aa]
        (repeat (with_reducible refine aI ?_))
        refine ⟨(i+1,ps,hs,nn),⟨⟨by omega,by simp only;omega,by simp only;omega,by simp only;omega,hinv⟩,by simp only;omega⟩,AG hD [(4,4),(10,10),(5000,5000),(5001,5001)] rfl rfl ?_ ?_⟩ <;> simp only[go_sem]
        simp
     ·have dk:(!(kk==[99,111,110,116,101,110,116,45,108,101,110,103,116,104]))=true:=by rw[Bool.not_eq_true',beq_eq_false_iff_ne];exact hk
      rw[if_neg hk] at hinv
      simp (disch:=omega) only[go_sem,hD,hG',C3,hgx,g3,z2,dc,Aa]
      (repeat (with_reducible refine aI ?_))
      refine Au.mk [(3,true)] ?_
      simp (disch:=omega) only[go_sem,hD,hG',C3,dc,dk,g6,g0,List.take_length,Aa]
      (repeat (with_reducible refine aI ?_))
      refine ⟨(i+1,ps,hs++[x],n),⟨⟨by omega,by simp only;omega,by simp only[List.length_append,List.length_cons,List.length_nil];omega,hn,hinv⟩,by simp only;omega⟩,AG hD [(4,4),(10,10),(5000,5000),(5001,132)] rfl rfl ?_ ?_⟩ <;> simp only[go_sem]
      ·simp
      ·simp[Ae]
   ·rw[bk] at hinv hot
    rw[if_pos rfl,htd bk] at hinv
    have hc:2≤kk.length:=by
     by_cases hc:2≤kk.length
     ·exact hc
     ·rw[decide_eq_false hc] at hot;cases hot
    have dc:decide ((kk.length:Int)≥2)=true:=by simp;omega
    rw[decide_eq_true hc,Bool.true_and] at hot
    cases qb
    ·rw[←hq1,if_pos rfl] at hinv
     subst hinv
     simp only[BN,Cs,Bn,An,Ah,List.map_nil]
     iterate 3 ((try (refine Au.mk [] ?_));(try (simp (disch:=omega) only[go_sem,hD,hG',C3,g0,Ae,List.take_length,hgx,g3,dc,hot,z2,g5,Aa]));(repeat (with_reducible refine aI ?_)))
     refine Aj [] [] (by simp) rfl rfl rfl ?_ ?_ <;> simp only[go_sem]
    ·have hq2:=hq2 hq1.symm
     rw[←hq1,if_neg (by simp),←hq2] at hinv
     simp (disch:=omega) only[go_sem,hD,hG',C3,hgx,g3,z2,Aa]
     (repeat (with_reducible refine aI ?_))
     refine Au.mk [] ?_
     simp (disch:=omega) only[go_sem,hD,hG',C3,dc,hot,z2,g5,List.take_length,Aa]
     (repeat (with_reducible refine aI ?_))
     refine ⟨(i+1,ps++[⟨q1,q2,q3,q4⟩],hs,n),⟨⟨by omega,by simp only[List.length_append,List.length_cons,List.length_nil];omega,by simp only;omega,hn,hinv⟩,by simp only;omega⟩,AG hD [(4,4),(10,10),(5000,125),(5001,5001)] rfl rfl ?_ ?_⟩ <;> simp only[go_sem]
     ·simp
     ·simp[Aq]
  ·rw[decide_eq_false_iff_not] at h
   have hie:rest.drop i=[]:=List.drop_eq_nil_of_le (by omega)
   rw[hie,Ci] at hinv
   simp only[Cs] at hinv
   by_cases h1:n < 0
   ·have d1:decide (n < 0)=true:=by simp[h1]
    rw[if_pos h1] at hinv
    subst hinv
    simp only[BN,Cs,Bn,An,Ah,List.map_nil]
    iterate 3 ((try (refine Au.mk [] ?_));(try (simp (disch:=omega) only[go_sem,hD,hG',C3,g0,Ae,List.take_length,d1,Aa]));(repeat (with_reducible refine aI ?_)))
    refine Aj [] [] (by simp) rfl rfl rfl ?_ ?_ <;> simp only[go_sem]
   have d1:decide (n < 0)=false:=by simp[h1]
   rw[if_neg h1] at hinv
   by_cases h2:400 < (k:Int)+4+n
   ·have d2:decide ((k:Int)+4+n > 400)=true:=by simp;omega
    rw[if_pos h2] at hinv
    subst hinv
    simp only[BN,Cs,Bn,An,Ah,List.map_nil]
    iterate 3 ((try (refine Au.mk [] ?_));(try (simp (disch:=omega) only[go_sem,hD,hG',C3,g0,Ae,List.take_length,d1,d2,Aa]));(repeat (with_reducible refine aI ?_)))
    refine Aj [] [] (by simp) rfl rfl rfl ?_ ?_ <;> simp only[go_sem]
   have d2:decide ((k:Int)+4+n > 400)=false:=by simp;omega
   rw[if_neg h2] at hinv
   by_cases h3:(b.length:Int) < (k:Int)+4+n
   ·have d3:decide ((k:Int)+4+n > (b.length:Int))=true:=by simp;omega
    rw[if_pos h3] at hinv
    subst hinv
    simp only[BN,Cs,Bn,An,Ah,List.map_nil]
    iterate 3 ((try (refine Au.mk [] ?_));(try (simp (disch:=omega) only[go_sem,hD,hG',C3,g0,Ae,List.take_length,d1,d2,d3,Aa]));(repeat (with_reducible refine aI ?_)))
    refine Aj [] [] (by simp) rfl rfl rfl ?_ ?_ <;> simp only[go_sem]
   have d3:decide ((k:Int)+4+n > (b.length:Int))=false:=by simp;omega
   rw[if_neg h3] at hinv
   have hbody:List.drop ((k:Int)+4).toNat (List.take ((k:Int)+4+n).toNat b)=(b.take ((k:Int)+4+n).toNat).drop (k+4):=by
    rw[show ((k:Int)+4).toNat=k+4 by omega]
   have hbl:((b.take ((k:Int)+4+n).toNat).drop (k+4)).length≤16777216:=by rw[List.length_drop,List.length_take];omega
   generalize (b.take ((k:Int)+4+n).toNat).drop (k+4)=bd at *
   subst hinv
   simp only[BN,An]
   simp (disch:=omega) only[go_sem,hD,hG',C3,d1,d2,d3,hbody,Ae,Aa]
   (repeat (with_reducible refine aI ?_))
   refine Aj [5000,5001,201] [] (by simp) rfl rfl rfl ?_ ?_ <;> simp only[go_sem]
 exact hcon _ rfl
def CN:BH Tryz.prog D:=⟨148,Wd,fun b=> [.sl 1 (b.map Ac)],fun b=> b.length≤16777216,fun b=> ⟨BN (Ca b),[]⟩,fun x y _ _ h=> by
 simp only[List.cons.injEq,AV.sl.injEq,true_and,and_true] at h
 rw[AN h],Wi⟩
theorem Yj (e:Int):A8 Tryz.prog D 147 [.int .i64 e] ⟨.tup [.agg [.int .i64 0,.str [],.int .i64 0,.nils,.nils],.int .i64 0,.int .i64 e],[]⟩:=by
 have hok:Cl Tryz.prog D (Ao []):=Ar _
 generalize Ao []=G at *
 refine Bx (G:=G) (rs:=[(2,some 48),(3,none),(4,none)]) hok Tryz.func147 Tryz.results147 Tryz.ntmps147 (fun _=> {}) fun X hP hD hG' hX=> ?_
 simp only[AU,Bz]
 simp (disch:=omega) only[go_sem,hD,hG',Aa]
 refine Aj [] [] (by simp) rfl rfl rfl ?_ ?_ <;> simp only[go_sem]
def II:BH Tryz.prog D:=⟨147,Int,fun e=> [.int .i64 e],fun _=> True,fun e=> ⟨.tup [.agg [.int .i64 0,.str [],.int .i64 0,.nils,.nils],.int .i64 0,.int .i64 e],[]⟩,fun x y _ _ h=> by
 simp only[List.cons.injEq,AV.int.injEq,true_and,and_true] at h
 rw[h],fun e _=> Yj e⟩
theorem V4 (m p:Wd) (h:(Bl m p).2=true):0 < (Bl m p).1.kind:=by
 have hl:∀l:List Wd,(B2 m l).2=true→0 < (B2 m l).1.kind:=fun l h=> by
  match l with
  | []=> cases h
  | [_]=> cases h
  | [_,_]=> cases h
  | [a,b,c]=>
   simp only[B2] at h ⊢
   split at h
   ·rename_i h1;rw[if_pos h1];exact of_decide_eq_true h
   ·rename_i h1
    rw[if_neg h1]
    split at h
    ·rename_i h2;rw[if_pos h2];exact of_decide_eq_true h
    ·cases h
  | [a,b,c,d]=>
   simp only[B2] at h ⊢
   split at h
   ·rename_i h1
    rw[if_pos h1]
    split at h
    ·rename_i h2;rw[if_pos h2];show (0:Int) < 9;decide
    ·rename_i h2
     rw[if_neg h2]
     split at h
     ·rename_i h3;rw[if_pos h3];exact of_decide_eq_true h
     ·cases h
   ·cases h
  | _::_::_::_::_::_=> cases h
 unfold Bl at h ⊢
 split at h
 ·rename_i h1;rw[if_pos h1];show (0:Int) < 1;decide
 ·rename_i h1;rw[if_neg h1];exact hl _ h
def K4:Nat→Lo:=fun id=> match id with | 8=> {uo:=[8],un:=[12],ex:=[7]} | _=> {}
theorem SO (b:Wd) (hb:b.length≤16777216):A8 Tryz.prog D 88 [.sl 1 (b.map Ac)] ⟨.tup [askA (DL b).1,.int .i64 (DL b).2.1,.int .i64 (DL b).2.2],[]⟩:=by
 have hfit:=JT b
 have hok:Cl Tryz.prog D (Ao [CN,Bm,GM,BB,II]):=Ar _
 have g1:=Ag (T:=[CN,Bm,GM,BB,II]) (E:=CN) (i:=0) rfl (by decide) (b) (hb)
 have g0:=fun (e:Int)=> Ag (T:=[CN,Bm,GM,BB,II]) (E:=II) (i:=4) rfl (by decide) (e) (trivial)
 have g2:=fun (w:Wd) (h:w.length≤400)=> Ag (T:=[CN,Bm,GM,BB,II]) (E:=Bm) (i:=1) rfl (by decide) ((w,[32])) (⟨by show w.length≤16777216;omega,by show 1≤([32]:Wd).length;decide,by show ([32]:Wd).length≤256;decide⟩)
 have g3:=fun (m p:Wd) (h1:m.length≤400) (h2:p.length≤400)=> Ag (T:=[CN,Bm,GM,BB,II]) (E:=GM) (i:=2) rfl (by decide) ((m,p)) (⟨by show m.length≤1000;omega,by show p.length≤999;omega⟩)
 have g4:=fun (a:AX) (h:a.Fits)=> Ag (T:=[CN,Bm,GM,BB,II]) (E:=BB) (i:=3) rfl (by decide) ((a,false)) (⟨h,fun h=> (by cases h)⟩)
 generalize Ao [CN,Bm,GM,BB,II]=G at *
 dsimp only[CN] at g1
 dsimp only[II] at g0
 dsimp only[Bm] at g2
 dsimp only[GM] at g3
 dsimp only[BB] at g4
 unfold DL
 generalize Ca b=x at *
 obtain ⟨f,hs,⟨ps,bs⟩,all,err⟩:=x
 obtain ⟨hf1,hf2,hf3,hf4⟩:=hfit
 simp only at hf1 hf2 hf3 hf4
 have g2:=g2 f hf2
 have hsp:=E6 [32] (Lib.count f [32]) f
 have hsp:∀w∈Lib.split f [32],w.length≤400:=fun w hw=> by
  have:=hsp w hw
  omega
 simp only[BN,An] at g1
 have hcon:∀r,r=Ss ⟨f,hs,⟨ps,bs⟩,all,err⟩→A8 Tryz.prog D 88 [.sl 1 (b.map Ac)] ⟨.tup [askA r.1,.int .i64 r.2.1,.int .i64 r.2.2],[]⟩:=by
  intro r hr
  simp only[Ss] at hr
  generalize Lib.split f [32]=l at *
  refine Bx (G:=G) (rs:=[(2,some 48),(3,none),(4,none)]) hok Tryz.func88 Tryz.results88 Tryz.ntmps88 (K4) fun X hP hD hG' hX=> ?_
  simp only[AU,Bz]
  by_cases he:err=0
  ·have de:(err !=0)=false:=by simp[he]
   rw[if_neg (by simpa using he)] at hr
   by_cases h3:l.length=3
   ·match l,h3,hsp,hr with
    | [m,p,v],_,hsp,hr=>
    have g3:=g3 m p (hsp m (by simp)) (hsp p (by simp))
    have n3:((3:Nat):Int)=3:=rfl
    have n0:((0:Nat):Int)=0:=rfl
    have z0:(0:Int).toNat=0:=rfl
    have z1:(1:Int).toNat=1:=rfl
    have z2:(2:Int).toNat=2:=rfl
    by_cases hv:v=Aah
    ·have dv:(v==[72,84,84,80,47,49,46,49])=true:=by rw[hv];rfl
     cases hs with
     | cons h t=>
      have hw:EI (h::t) ⟨ps,bs⟩ [m,p,v]=(At,2):=by rw[EI,if_neg (fun h=> by cases h.2)]
      rw[hw,if_pos (by simp)] at hr
      subst hr
      have d0:decide (((t.length+1:Nat):Int) > 0)=true:=by simp only[decide_eq_true_eq];omega
      simp only[askA,At,Ah,List.map_nil]
      simp (disch:=omega) only[go_sem,hD,hG',g1,g2,de,K4,Ae,n3,z0,z1,z2,Aa]
      (repeat (with_reducible refine aI ?_))
      refine Au.mk [] ?_
      simp (disch:=omega) only[go_sem,hD,hG',n3,dv,d0,g0,K4,Aa]
      (repeat (with_reducible refine aI ?_))
      refine Aj [] [] (by simp) rfl rfl rfl ?_ ?_ <;> simp only[go_sem]
     | nil=>
      have hw:EI [] ⟨ps,bs⟩ [m,p,v]=if (Bl m p).2=true then (⟨(Bl m p).1.kind,(Bl m p).1.queue,(Bl m p).1.n,⟨ps,bs⟩⟩,Ap ⟨(Bl m p).1.kind,(Bl m p).1.queue,(Bl m p).1.n,⟨ps,bs⟩⟩) else (At,1):=by rw[EI,if_pos ⟨hv,rfl⟩]
      rw[hw] at hr
      clear hw
      have hql:=P9 m p
      have hpl:=hsp p (by simp)
      have hkd:=V4 m p
      unfold VF at g3
      generalize Bl m p=y at *
      obtain ⟨⟨k,q,n,⟨ps',bs'⟩⟩,ok⟩:=y
      simp only at hr hql hkd
      have d0:decide ((0:Int) > 0)=false:=rfl
      cases ok
      ·simp only[Bool.false_eq_true,if_false,askA,At] at hr g3
       rw[if_pos (by simp)] at hr
       subst hr
       simp only[askA,At,Ah,List.map_nil]
       simp (disch:=omega) only[go_sem,hD,hG',g1,g2,de,K4,Ae,n3,z0,z1,z2,Aa]
       (repeat (with_reducible refine aI ?_))
       refine Au.mk [] ?_
       simp (disch:=omega) only[go_sem,hD,hG',n3,dv,d0,n0,g0,Int.reduceBEq,g3,Ae,z0,z1,z2,K4,Aa]
       (repeat (with_reducible refine aI ?_))
       refine Aj [] [] (by simp) rfl rfl rfl ?_ ?_ <;> simp only[go_sem]
      ·simp only[if_true,askA] at hr g3
       have hk0:(k==0)=false:=by have:=hkd rfl;simp;omega
       have g4:=g4 ⟨k,q,n,⟨ps,bs⟩⟩ ⟨by show q.data.toList.length≤1048576;omega,hf1⟩
       simp only[askA,Sr] at g4
       generalize Ap ⟨k,q,n,⟨ps,bs⟩⟩=wr at *
       by_cases hwr:wr=0
       ·have dw:(wr !=0)=false:=by simp[hwr]
        rw[if_neg (by simp[hwr])] at hr
        subst hr
        simp only[askA]
        simp (disch:=omega) only[go_sem,hD,hG',g1,g2,de,K4,Ae,n3,z0,z1,z2,Aa]
        (repeat (with_reducible refine aI ?_))
        refine Au.mk [] ?_
        simp (disch:=omega) only[go_sem,hD,hG',n3,dv,d0,n0,g0,hk0,g3,g4,dw,Ae,z0,z1,z2,K4,Aa]
        (repeat (with_reducible refine aI ?_))
        refine Aj [] [] (by simp) rfl rfl rfl ?_ ?_ <;> simp only[go_sem]
       ·have dw:(wr !=0)=true:=by simp[hwr]
        rw[if_pos (by simpa using hwr)] at hr
        subst hr
        simp only[askA,At,Ah,List.map_nil]
        simp (disch:=omega) only[go_sem,hD,hG',g1,g2,de,K4,Ae,n3,z0,z1,z2,Aa]
        (repeat (with_reducible refine aI ?_))
        refine Au.mk [] ?_
        simp (disch:=omega) only[go_sem,hD,hG',n3,dv,d0,n0,g0,hk0,g3,g4,dw,Ae,z0,z1,z2,K4,Aa]
        (repeat (with_reducible refine aI ?_))
        refine Aj [] [] (by simp) rfl rfl rfl ?_ ?_ <;> simp only[go_sem]
    ·have dv:(v==[72,84,84,80,47,49,46,49])=false:=by rw[beq_eq_false_iff_ne];exact hv
     have hw:EI hs ⟨ps,bs⟩ [m,p,v]=(At,2):=by rw[EI,if_neg (fun h=> hv h.1)]
     rw[hw,if_pos (by simp)] at hr
     subst hr
     simp only[askA,At,Ah,List.map_nil]
     simp (disch:=omega) only[go_sem,hD,hG',g1,g2,de,K4,Ae,n3,z0,z1,z2,Aa]
     (repeat (with_reducible refine aI ?_))
     refine Au.mk [(9,false)] ?_
     simp (disch:=omega) only[go_sem,hD,hG',n3,dv,g0,K4,Aa]
     (repeat (with_reducible refine aI ?_))
     refine Aj [] [] (by simp) rfl rfl rfl ?_ ?_ <;> simp only[go_sem]
   ·have d3:(((l.length:Nat):Int) !=3)=true:=by simp;omega
    have hw:EI hs ⟨ps,bs⟩ l=(At,2):=by
     match l,h3 with
     | [],_=> rfl
     | [_],_=> rfl
     | [_,_],_=> rfl
     | _::_::_::_::_,_=> rfl
     | [_,_,_],h=> exact absurd rfl h
    rw[hw,if_pos (by simp)] at hr
    subst hr
    simp only[askA,At,Ah,List.map_nil]
    simp (disch:=omega) only[go_sem,hD,hG',g1,g2,de,K4,Aa]
    (repeat (with_reducible refine aI ?_))
    refine Au.mk [(3,false),(9,false)] ?_
    simp (disch:=omega) only[go_sem,hD,hG',d3,g0,K4,Aa]
    (repeat (with_reducible refine aI ?_))
    refine Aj [] [] (by simp) rfl rfl rfl ?_ ?_ <;> simp only[go_sem]
  ·have de:(err !=0)=true:=by simp[he]
   rw[if_pos (by simpa using he)] at hr
   subst hr
   simp only[askA,At,Ah,List.map_nil]
   simp (disch:=omega) only[go_sem,hD,hG',g1,de,g0,K4,Aa]
   (repeat (with_reducible refine aI ?_))
   refine Aj [] [] (by simp) rfl rfl rfl ?_ ?_ <;> simp only[go_sem]
 exact hcon _ rfl
def FG:BH Tryz.prog D:=⟨88,Wd,fun b=> [.sl 1 (b.map Ac)],fun b=> b.length≤16777216,fun b=> ⟨.tup [askA (DL b).1,.int .i64 (DL b).2.1,.int .i64 (DL b).2.2],[]⟩,fun x y _ _ h=> by
 simp only[List.cons.injEq,AV.sl.injEq,true_and,and_true] at h
 rw[AN h],SO⟩
theorem Yl (e:Int):A8 Tryz.prog D 152 [.int .i64 e] ⟨.tup [.agg [.int .i64 0,.int .i64 0,.int .i64 0,.int .i64 0,.nils,.nils],.int .i64 0,.int .i64 e],[]⟩:=by
 have hok:Cl Tryz.prog D (Ao []):=Ar _
 generalize Ao []=G at *
 refine Bx (G:=G) (rs:=[(2,some 53),(3,none),(4,none)]) hok Tryz.func152 Tryz.results152 Tryz.ntmps152 (fun _=> {}) fun X hP hD hG' hX=> ?_
 simp only[AU,Bz]
 simp (disch:=omega) only[go_sem,hD,hG',Aa]
 refine Aj [] [] (by simp) rfl rfl rfl ?_ ?_ <;> simp only[go_sem]
def IJ:BH Tryz.prog D:=⟨152,Int,fun e=> [.int .i64 e],fun _=> True,fun e=> ⟨.tup [.agg [.int .i64 0,.int .i64 0,.int .i64 0,.int .i64 0,.nils,.nils],.int .i64 0,.int .i64 e],[]⟩,fun x y _ _ h=> by
 simp only[List.cons.injEq,AV.int.injEq,true_and,and_true] at h
 rw[h],fun e _=> Yl e⟩
theorem WC (hs:List Wd):(∃a b,hs=[a,b]∧(BD EH a).2=true∧(BD BO b).2=true∧DI hs [EH,BO]=([(BD EH a).1,(BD BO b).1],true))∨((DI hs [EH,BO])=([],false)∧(match hs with | [a,b]=> ¬((BD EH a).2=true∧(BD BO b).2=true) | _=> True)):=by
 match hs with
 | []=> exact .inr ⟨rfl,trivial⟩
 | [_]=> exact .inr ⟨rfl,trivial⟩
 | [a,b]=>
  have hh:DI [a,b] [EH,BO]=Zr [] [a,b] [EH,BO]:=rfl
  by_cases h1:(BD EH a).2=true
  ·by_cases h2:(BD BO b).2=true
   ·exact .inl ⟨a,b,rfl,h1,h2,by rw[hh];simp[Zr,h1,h2]⟩
   ·exact .inr ⟨by rw[hh];simp[Zr,h1,h2],fun h=> h2 h.2⟩
  ·exact .inr ⟨by rw[hh];simp[Zr,h1],fun h=> h1 h.1⟩
 | _::_::_::l=> exact .inr ⟨by unfold DI;rw[if_neg (by simp)],trivial⟩
theorem WB (hs:List Wd):(∃a,hs=[a]∧(BD BL a).2=true∧DI hs [BL]=([(BD BL a).1],true))∨((DI hs [BL])=([],false)∧(match hs with | [a]=> ¬((BD BL a).2=true) | _=> True)):=by
 match hs with
 | []=> exact .inr ⟨rfl,trivial⟩
 | [a]=>
  have hh:DI [a] [BL]=Zr [] [a] [BL]:=rfl
  by_cases h1:(BD BL a).2=true
  ·exact .inl ⟨a,rfl,h1,by rw[hh];simp[Zr,h1]⟩
  ·exact .inr ⟨by rw[hh];simp[Zr,h1],fun h=> h1 h⟩
 | _::_::l=> exact .inr ⟨by unfold DI;rw[if_neg (by simp)],trivial⟩
def K6:Nat→Lo:=fun id=> match id with | 11=> {uo:=[7,9,11],un:=[11]} | 16=> {uo:=[4,6],un:=[11]} | _=> {}
theorem SP (b:Wd) (hb:b.length≤16777216):A8 Tryz.prog D 92 [.sl 1 (b.map Ac)] ⟨.tup [sayA (DM b).1,.int .i64 (DM b).2.1,.int .i64 (DM b).2.2],[]⟩:=by
 have hfit:=JT b
 have hw2:([EH,BO]:List Wd).length≤1000∧∀w∈([EH,BO]:List Wd),w.length≤1000:=⟨by decide,fun w hw=> by simp at hw;rcases hw with rfl | rfl <;> decide⟩
 have hw1:([BL]:List Wd).length≤1000∧∀w∈([BL]:List Wd),w.length≤1000:=⟨by decide,fun w hw=> by simp at hw;subst hw;decide⟩
 have hhs:(Ca b).heads.length≤1000∧∀w∈(Ca b).heads,w.length≤1000:=⟨by have:=hfit.h;omega,fun w hw=> by have:=hfit.w w hw;omega⟩
 have hok:Cl Tryz.prog D (Ao [CN,DR,Bh,IJ]):=Ar _
 have g0:=fun (e:Int)=> Ag (T:=[CN,DR,Bh,IJ]) (E:=IJ) (i:=3) rfl (by decide) (e) (trivial)
 have g1:=Ag (T:=[CN,DR,Bh,IJ]) (E:=CN) (i:=0) rfl (by decide) (b) (hb)
 have g3:=Ag (T:=[CN,DR,Bh,IJ]) (E:=DR) (i:=1) rfl (by decide) (((Ca b).heads,[EH,BO])) (⟨hhs,hw2⟩)
 have g4:=Ag (T:=[CN,DR,Bh,IJ]) (E:=DR) (i:=1) rfl (by decide) (((Ca b).heads,[BL])) (⟨hhs,hw1⟩)
 have g5:=fun (s:A0) (h:s.note.Fits)=> Ag (T:=[CN,DR,Bh,IJ]) (E:=Bh) (i:=2) rfl (by decide) ((s,false)) (⟨h,fun h=> (by cases h)⟩)
 generalize Ao [CN,DR,Bh,IJ]=G at *
 dsimp only[IJ] at g0
 dsimp only[CN] at g1
 dsimp only[DR] at g3
 dsimp only[DR] at g4
 dsimp only[Bh] at g5
 clear hw1 hw2 hhs
 unfold DM
 generalize Ca b=x at *
 obtain ⟨f,hs,⟨ps,bs⟩,all,err⟩:=x
 obtain ⟨hf1,hf2,hf3,hf4⟩:=hfit
 simp only at hf1 hf2 hf3 hf4 g3 g4
 simp only[BN,An] at g1
 have hcon:∀r,r=Sv ⟨f,hs,⟨ps,bs⟩,all,err⟩→A8 Tryz.prog D 92 [.sl 1 (b.map Ac)] ⟨.tup [sayA r.1,.int .i64 r.2.1,.int .i64 r.2.2],[]⟩:=by
  intro r hr
  simp only[Sv] at hr
  have z0:(0:Int).toNat=0:=rfl
  have z1:(1:Int).toNat=1:=rfl
  have n0:((0:Nat):Int)=0:=rfl
  have n1:((1:Nat):Int)=1:=rfl
  have n2:((2:Nat):Int)=2:=rfl
  have dokn:∀n:Nat,decide (((n+1:Nat):Int) > 0)=true:=fun n=> by first | (simp;done) | (simp;omega)
  refine Bx (G:=G) (rs:=[(2,some 53),(3,none),(4,none)]) hok Tryz.func92 Tryz.results92 Tryz.ntmps92 (K6) fun X hP hD hG' hX=> ?_
  simp only[AU,Bz]
  by_cases he:err≠0
  ·have de:(err !=0)=true:=by simp[he]
   rw[if_pos he] at hr
   iterate 6 ((try (first | refine Au.mk [] ?_ | refine CP.mk [] (by decide) ?_));(try (simp (disch:=omega) only[go_sem,hD,hG',K6,Ae,n0,z0,z1,n1,n2,de,g0,g1,Int.reduceBEq,Int.reduceBNe,Int.reduceGT,dokn,n0,Aa]));(repeat (with_reducible refine aI ?_)))
   refine Aj [] [] (by simp) rfl rfl rfl ?_ ?_ <;> simp only[go_sem]
   simp[hr,AE,Ah,sayA,Aw,cov,Az,Ad,Af]
  have he:err=0:=by simpa using he
  have de:(err !=0)=false:=by simp[he]
  rw[if_neg (by simp[he])] at hr
  by_cases h1:f=KK
  ·have b1:(f==[72,84,84,80,47,49,46,49,32,50,48,48,32,79,75])=true:=by rw[h1];rfl
   have b2:(f==[72,84,84,80,47,49,46,49,32,52,48,48,32,87,114,111,110,103])=false:=by rw[h1];rfl
   cases hs with
   | nil=>
    have hw:B6 f [] ⟨ps,bs⟩=(⟨1,0,0,0,⟨ps,bs⟩⟩,Am ⟨1,0,0,0,⟨ps,bs⟩⟩):=by
     unfold B6
     rw[if_neg (fun h=> h.2 rfl),if_pos h1]
    rw[hw] at hr
    simp only at hr
    have g5:=g5 ⟨1,0,0,0,⟨ps,bs⟩⟩ hf1
    simp only[sayA,Rl] at g5
    generalize Am ⟨1,0,0,0,⟨ps,bs⟩⟩=e2 at *
    by_cases he2:e2=0
    ·have de2:(e2 !=0)=false:=by simp[he2]
     rw[if_neg (by simp[he2])] at hr
     iterate 6 ((try (first | refine Au.mk [] ?_ | refine CP.mk [] (by decide) ?_));(try (simp (disch:=omega) only[go_sem,hD,hG',K6,Ae,n0,z0,z1,n1,n2,de,g0,g1,Int.reduceBEq,Int.reduceBNe,Int.reduceGT,dokn,b1,b2,g5,de2,Aa]));(repeat (with_reducible refine aI ?_)))
     refine Aj [] [] (by simp) rfl rfl rfl ?_ ?_ <;> simp only[go_sem]
     simp[hr,AE,Ah,sayA,Aw,cov,Az,Ad,Af]
    ·have de2:(e2 !=0)=true:=by simp[he2]
     rw[if_pos (by simpa using he2)] at hr
     iterate 6 ((try (first | refine Au.mk [] ?_ | refine CP.mk [] (by decide) ?_));(try (simp (disch:=omega) only[go_sem,hD,hG',K6,Ae,n0,z0,z1,n1,n2,de,g0,g1,Int.reduceBEq,Int.reduceBNe,Int.reduceGT,dokn,b1,b2,g5,de2,Aa]));(repeat (with_reducible refine aI ?_)))
     refine Aj [] [] (by simp) rfl rfl rfl ?_ ?_ <;> simp only[go_sem]
     simp[hr,AE,Ah,sayA,Aw,cov,Az,Ad,Af]
   | cons h t=>
    rcases WC (h::t) with ⟨a,c,e,q1,q2,hh⟩ | ⟨hh,hm⟩
    ·obtain ⟨rfl,rfl⟩:h=a∧t=[c]:=by simpa using e
     rw[hh] at g3
     have hw:B6 f [h,c] ⟨ps,bs⟩=(⟨2,(BD EH h).1,(BD BO c).1,0,⟨ps,bs⟩⟩,Am ⟨2,(BD EH h).1,(BD BO c).1,0,⟨ps,bs⟩⟩):=by
      unfold B6
      rw[if_pos ⟨h1,by simp⟩]
      exact if_pos ⟨q1,q2⟩
     rw[hw] at hr
     clear hw g4 hh e q1 q2
     generalize (BD EH h).1=x1 at *
     generalize (BD BO c).1=x2 at *
     simp only[EH,BO,List.map_cons,List.map_nil,Ae,Kv] at g3
     simp only at hr
     simp only[List.map_cons,List.map_nil,Ae] at g1
     have g5:=g5 ⟨2,x1,x2,0,⟨ps,bs⟩⟩ hf1
     simp only[sayA,Rl] at g5
     generalize Am ⟨2,x1,x2,0,⟨ps,bs⟩⟩=e2 at *
     by_cases he2:e2=0
     ·have de2:(e2 !=0)=false:=by simp[he2]
      rw[if_neg (by simp[he2])] at hr
      iterate 6 ((try (first | refine Au.mk [] ?_ | refine CP.mk [] (by decide) ?_));(try (simp (disch:=omega) only[go_sem,hD,hG',K6,Ae,n0,z0,z1,n1,n2,de,g0,g1,Int.reduceBEq,Int.reduceBNe,Int.reduceGT,dokn,b1,b2,g3,g5,de2,Aa]));(repeat (with_reducible refine aI ?_)))
      refine Aj [] [] (by simp) rfl rfl rfl ?_ ?_ <;> simp only[go_sem]
      simp[hr,AE,Ah,sayA,Aw,cov,Az,Ad,Af]
     ·have de2:(e2 !=0)=true:=by simp[he2]
      rw[if_pos (by simpa using he2)] at hr
      iterate 6 ((try (first | refine Au.mk [] ?_ | refine CP.mk [] (by decide) ?_));(try (simp (disch:=omega) only[go_sem,hD,hG',K6,Ae,n0,z0,z1,n1,n2,de,g0,g1,Int.reduceBEq,Int.reduceBNe,Int.reduceGT,dokn,b1,b2,g3,g5,de2,Aa]));(repeat (with_reducible refine aI ?_)))
      refine Aj [] [] (by simp) rfl rfl rfl ?_ ?_ <;> simp only[go_sem]
      simp[hr,AE,Ah,sayA,Aw,cov,Az,Ad,Af]
    ·rw[hh] at g3
     have hw:B6 f (h::t) ⟨ps,bs⟩=(AE,2):=by
      unfold B6
      rw[if_pos ⟨h1,by simp⟩]
      cases t with
      | nil=> rfl
      | cons c t=>
       cases t with
       | nil=> exact if_neg hm
       | cons d t=> rfl
     rw[hw,if_pos (by simp)] at hr
     clear hw g4 hm hh
     simp only[EH,BO,List.map_cons,List.map_nil,Ae] at g3
     simp only[List.map_cons,Ae] at g1
     iterate 6 ((try (first | refine Au.mk [] ?_ | refine CP.mk [] (by decide) ?_));(try (simp (disch:=omega) only[go_sem,hD,hG',K6,Ae,n0,z0,z1,n1,n2,de,g0,g1,Int.reduceBEq,Int.reduceBNe,Int.reduceGT,dokn,b1,b2,g3,Aa]));(repeat (with_reducible refine aI ?_)))
     refine Aj [] [] (by simp) rfl rfl rfl ?_ ?_ <;> simp only[go_sem]
     simp[hr,AE,Ah,sayA,Aw,cov,Az,Ad,Af]
  have b1:(f==[72,84,84,80,47,49,46,49,32,50,48,48,32,79,75])=false:=by rw[beq_eq_false_iff_ne];exact h1
  by_cases h4:f=DE
  ·have b2:(f==[72,84,84,80,47,49,46,49,32,52,48,48,32,87,114,111,110,103])=true:=by rw[h4];rfl
   have h3:f≠EB:=by rw[h4];decide
   rcases WB hs with ⟨a,e,q1,hh⟩ | ⟨hh,hm⟩
   ·subst e
    rw[hh] at g4
    have hw:B6 f [a] ⟨ps,bs⟩=(⟨4,0,0,(BD BL a).1,⟨ps,bs⟩⟩,Am ⟨4,0,0,(BD BL a).1,⟨ps,bs⟩⟩):=by
     unfold B6
     rw[if_neg (fun h=> h1 h.1),if_neg h1,if_neg h3,if_pos h4]
     exact if_pos q1
    rw[hw] at hr
    clear hw g3 hh q1
    generalize (BD BL a).1=x1 at *
    simp only[BL,List.map_cons,List.map_nil,Ae,Kv] at g4
    simp only at hr
    simp only[List.map_cons,List.map_nil,Ae] at g1
    have g5:=g5 ⟨4,0,0,x1,⟨ps,bs⟩⟩ hf1
    simp only[sayA,Rl] at g5
    generalize Am ⟨4,0,0,x1,⟨ps,bs⟩⟩=e2 at *
    by_cases he2:e2=0
    ·have de2:(e2 !=0)=false:=by simp[he2]
     rw[if_neg (by simp[he2])] at hr
     iterate 6 ((try (first | refine Au.mk [] ?_ | refine CP.mk [] (by decide) ?_));(try (simp (disch:=omega) only[go_sem,hD,hG',K6,Ae,n0,z0,z1,n1,n2,de,g0,g1,Int.reduceBEq,Int.reduceBNe,Int.reduceGT,dokn,b1,b2,g4,g5,de2,Aa]));(repeat (with_reducible refine aI ?_)))
     refine Aj [] [] (by simp) rfl rfl rfl ?_ ?_ <;> simp only[go_sem]
     simp[hr,AE,Ah,sayA,Aw,cov,Az,Ad,Af]
    ·have de2:(e2 !=0)=true:=by simp[he2]
     rw[if_pos (by simpa using he2)] at hr
     iterate 6 ((try (first | refine Au.mk [] ?_ | refine CP.mk [] (by decide) ?_));(try (simp (disch:=omega) only[go_sem,hD,hG',K6,Ae,n0,z0,z1,n1,n2,de,g0,g1,Int.reduceBEq,Int.reduceBNe,Int.reduceGT,dokn,b1,b2,g4,g5,de2,Aa]));(repeat (with_reducible refine aI ?_)))
     refine Aj [] [] (by simp) rfl rfl rfl ?_ ?_ <;> simp only[go_sem]
     simp[hr,AE,Ah,sayA,Aw,cov,Az,Ad,Af]
   ·rw[hh] at g4
    have hw:B6 f hs ⟨ps,bs⟩=(AE,2):=by
     unfold B6
     rw[if_neg (fun h=> h1 h.1),if_neg h1,if_neg h3,if_pos h4]
     cases hs with
     | nil=> rfl
     | cons c t=>
      cases t with
      | nil=> exact if_neg hm
      | cons d t=> rfl
    rw[hw,if_pos (by simp)] at hr
    clear hw g3 hm hh
    simp only[BL,List.map_cons,List.map_nil,Ae] at g4
    iterate 6 ((try (first | refine Au.mk [] ?_ | refine CP.mk [] (by decide) ?_));(try (simp (disch:=omega) only[go_sem,hD,hG',K6,Ae,n0,z0,z1,n1,n2,de,g0,g1,Int.reduceBEq,Int.reduceBNe,Int.reduceGT,dokn,b1,b2,g4,Aa]));(repeat (with_reducible refine aI ?_)))
    refine Aj [] [] (by simp) rfl rfl rfl ?_ ?_ <;> simp only[go_sem]
    simp[hr,AE,Ah,sayA,Aw,cov,Az,Ad,Af]
  have b2:(f==[72,84,84,80,47,49,46,49,32,52,48,48,32,87,114,111,110,103])=false:=by rw[beq_eq_false_iff_ne];exact h4
  by_cases h3:f=EB
  ·have b3:(f==[72,84,84,80,47,49,46,49,32,50,48,52,32,78,111,110,101])=true:=by rw[h3];rfl
   have hw0:B6 f hs ⟨ps,bs⟩=if hs=[] then (⟨3,0,0,0,⟨ps,bs⟩⟩,Am ⟨3,0,0,0,⟨ps,bs⟩⟩) else (AE,2):=by
    unfold B6
    rw[if_neg (fun h=> h1 h.1),if_neg h1,if_pos h3]
   rw[hw0] at hr
   cases hs with
   | nil=>
    simp only[if_true] at hr
    have g5:=g5 ⟨3,0,0,0,⟨ps,bs⟩⟩ hf1
    simp only[sayA,Rl] at g5
    generalize Am ⟨3,0,0,0,⟨ps,bs⟩⟩=e2 at *
    by_cases he2:e2=0
    ·have de2:(e2 !=0)=false:=by simp[he2]
     rw[if_neg (by simp[he2])] at hr
     iterate 6 ((try (first | refine Au.mk [] ?_ | refine CP.mk [] (by decide) ?_));(try (simp (disch:=omega) only[go_sem,hD,hG',K6,Ae,n0,z0,z1,n1,n2,de,g0,g1,Int.reduceBEq,Int.reduceBNe,Int.reduceGT,dokn,b1,b2,b3,g5,de2,Aa]));(repeat (with_reducible refine aI ?_)))
     refine Aj [] [] (by simp) rfl rfl rfl ?_ ?_ <;> simp only[go_sem]
     simp[hr,AE,Ah,sayA,Aw,cov,Az,Ad,Af]
    ·have de2:(e2 !=0)=true:=by simp[he2]
     rw[if_pos (by simpa using he2)] at hr
     iterate 6 ((try (first | refine Au.mk [] ?_ | refine CP.mk [] (by decide) ?_));(try (simp (disch:=omega) only[go_sem,hD,hG',K6,Ae,n0,z0,z1,n1,n2,de,g0,g1,Int.reduceBEq,Int.reduceBNe,Int.reduceGT,dokn,b1,b2,b3,g5,de2,Aa]));(repeat (with_reducible refine aI ?_)))
     refine Aj [] [] (by simp) rfl rfl rfl ?_ ?_ <;> simp only[go_sem]
     simp[hr,AE,Ah,sayA,Aw,cov,Az,Ad,Af]
   | cons h t=>
    rw[if_neg (show ¬(h::t=[]) by simp),if_pos (by simp)] at hr
    simp only[List.map_cons,Ae] at g1
    iterate 6 ((try (first | refine Au.mk [] ?_ | refine CP.mk [] (by decide) ?_));(try (simp (disch:=omega) only[go_sem,hD,hG',K6,Ae,n0,z0,z1,n1,n2,de,g0,g1,Int.reduceBEq,Int.reduceBNe,Int.reduceGT,dokn,b1,b2,b3,Aa]));(repeat (with_reducible refine aI ?_)))
    refine Aj [] [] (by simp) rfl rfl rfl ?_ ?_ <;> simp only[go_sem]
    simp[hr,AE,Ah,sayA,Aw,cov,Az,Ad,Af]
  have b3:(f==[72,84,84,80,47,49,46,49,32,50,48,52,32,78,111,110,101])=false:=by rw[beq_eq_false_iff_ne];exact h3
  have hw0:B6 f hs ⟨ps,bs⟩=(AE,1):=by
   unfold B6
   rw[if_neg (fun h=> h1 h.1),if_neg h1,if_neg h3,if_neg h4]
  rw[hw0,if_pos (by simp)] at hr
  iterate 6 ((try (first | refine Au.mk [] ?_ | refine CP.mk [] (by decide) ?_));(try (simp (disch:=omega) only[go_sem,hD,hG',K6,Ae,n0,z0,z1,n1,n2,de,g0,g1,Int.reduceBEq,Int.reduceBNe,Int.reduceGT,dokn,b1,b2,b3,Aa]));(repeat (with_reducible refine aI ?_)))
  refine Aj [] [] (by simp) rfl rfl rfl ?_ ?_ <;> simp only[go_sem]
  simp[hr,AE,Ah,sayA,Aw,cov,Az,Ad,Af]
 exact hcon _ rfl
def FH:BH Tryz.prog D:=⟨92,Wd,fun b=> [.sl 1 (b.map Ac)],fun b=> b.length≤16777216,fun b=> ⟨.tup [sayA (DM b).1,.int .i64 (DM b).2.1,.int .i64 (DM b).2.2],[]⟩,fun x y _ _ h=> by
 simp only[List.cons.injEq,AV.sl.injEq,true_and,and_true] at h
 rw[AN h],SP⟩
theorem Ac3 {a:AX} (h:Ap a=0):Zw a:=by
 obtain ⟨h1,h2,h3,h4,h5,h6,_⟩:=D4 h
 exact ⟨⟨h1,h2⟩,by omega,by omega,AbX h6⟩
theorem Ac5 {s:A0} (h:Am s=0):Zy s:=by
 obtain ⟨_,_,h3,h4,h5,h6,h7,h8,h9,_⟩:=Dk h
 exact ⟨by omega,by omega,by omega,fun _=> AbX h9⟩
end Go.Proofs.YtlkmgccikgnaeaaGreatDoor.Ab
