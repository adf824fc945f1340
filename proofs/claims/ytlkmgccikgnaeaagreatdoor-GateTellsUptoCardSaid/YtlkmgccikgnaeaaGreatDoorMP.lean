/-
  Texts of the proof, one behind the other: FrD FrE FrF FrG FrH FrI FrJ FrK FrP.
  No condition but those that each theorem names.
-/
import Derived.Test.YtlkmgccikgnaeaaGreatDoorMH
import Derived.Test.YtlkmgccikgnaeaaGreatDoorMC
import Derived.Test.YtlkmgccikgnaeaaGreatDoorMD
set_option linter.unusedVariables false
set_option linter.unusedSimpArgs false
set_option maxRecDepth 100000
set_option maxHeartbeats 16000000
namespace Go.Proofs.YtlkmgccikgnaeaaGreatDoor.Ab
open Go Go.RowKit
theorem YK (w:World) (im:Nat→Prop) (ρ:BI) (n:Int):BQ w im ρ 1 ((C2 n).map Ac) ((C2 n).map Ic):=by
 refine ⟨by simp,fun i row hi=> ?_⟩
 rw[List.getElem?_map] at hi
 obtain ⟨b,hb,rfl⟩:=Option.map_eq_some_iff.1 hi
 refine ⟨rfl,fun j x hj=> ?_⟩
 cases j with
 | succ j=> simp[Ac] at hj
 | zero=>
  simp[Ac] at hj
  subst hj
  refine ⟨by simp[Ad],Ic b,?_,rfl,.int _ _⟩
  rw[Nat.mul_one,Nat.add_zero,List.getElem?_map,hb]
  rfl
theorem YL (n:Int):(C2 n).map Ic=[.int .u8 (n/16777216%256),.int .u8 (n/65536%256),.int .u8 (n/256%256),.int .u8 (n%256)]:=by
 simp only[C2,List.map_cons,List.map_nil,Ic,JM]
theorem Vk (n:Int) (rs:List (List AV)) (hn:rs.length≤8388608) (w:World) (im:Nat→Prop) (ρ:BI) (u:Value) (xs:List Value) (hown:w.ownsRow 0 5 1 u rs.length xs) (hf:BQ w im ρ 1 rs xs):
  Calls Tryz.prog 176 #[u,.int .i64 n] w (UI w im ρ 5 1 u (rs++(C2 n).map Ac)):=by
 obtain ⟨i0,hi0,hz0,hz1,hz2⟩:=info_parts XB
 have HO:=Lib.hid hown
 have HF:=Lib.hid hf
 clear hown hf
 go_enter Tryz.func176,Tryz.ntmps176
 have HN:=Lib.hid (YL n)
 go_wp2_with (at_builtin;refine H2 _ rfl (.tmp 5) (.tmp 17) _ rfl 0 5 i0 _ 1 1 Tryz.underlying23 hi0 hz0 hz1 hz2 rfl (by omega) u rs.length xs rfl (YY HO.out (by repeat (first | exact Below.refl _ _ | apply UP | apply Below.drew | apply Pj))) (·=w.heap.size) (some ⟨w.heap.size,0,none⟩) 4 4 ((C2 n).map Ic) rfl (by rw[HN.out];exact Y8 w _ 5 1 4 rfl) (R7 _) (by simp only[maxLen];omega) (by omega) (by simp) ?_;intro v1 w1 hown1 hg1 hat1)
 go_ret
 have hlen:(rs++(C2 n).map Ac).length=rs.length+4:=by simp[C2]
 refine ⟨v1,xs++(C2 n).map Ic,rfl,?_,HF.out.append (YK w im ρ n),?_,?_⟩
 ·rw[hlen];exact hown1
 ·exact ⟨hg1.os,hg1.tape,hg1.output,by have:=hg1.size;simp at this;omega,fun g hg hne=> by rw[hg1.block g (by simp;omega) hne];exact Below.heap_alloc w _ g hg⟩
 ·intro b hb
  rcases hat1 with h | h
  ·rw[h] at hb;exact .inl hb
  ·rw[h] at hb
   have:b=w.heap.size+1:=by simpa using hb.symm
   exact .inr (by omega)
def Jo:ID:=fun dn f args bl=> if f=176 then
  match args with
  | [.os v,.int .i64 n]=> match bl v with
   | some (.rows e sz rs)=> some {v:=.os dn,kl:=[v],nw:=[(dn,.rows e sz (rs++(C2 n).map Ac))],pre:=(e=5∧sz=1)∧rs.length≤8388608}
   | _=> none
  | _=> none
 else none
theorem R1 {G:PW}:Rk Tryz.prog D G Jo:=by
 intro X hP hD hG hM hmx hT hok ops o σ e hgd he hpre hfr
 obtain ⟨dst,f,args,types,ty,pos,af,g,caps,rfl,hf,he⟩:=JR he hgd
 unfold Jo at he
 split at he
 case isFalse=> cases he
 rename_i hg91
 subst hg91
 split at he
 case h_2=> cases he
 rename_i v n hargs
 split at he
 case h_2=> cases he
 rename_i e0 sz rs hbl
 have hbl:=GT hbl
 injection he with he
 subst he
 obtain ⟨⟨rfl,rfl⟩,hl⟩:=hpre
 simp only[fresh,AF,CC,Bool.and_eq_true,Option.isNone_iff_eq_none] at hfr
 refine Aak (by rw[hP,hD];exact hT) hf hargs hbl (by rw[hP];exact Tryz.func176) rfl (by decide) hfr.1.1 (fun k hk=> ?_) (fun w im ρ u vs xs h1 h2 h3 h4 h5=> ?_)
 ·have:=hfr.2
  rw[hk] at this
  simpa using this
 ·obtain ⟨h6,h7⟩:=h4
  match vs,h6 with
  | [y],_=>
   have:=h7 0 _ y rfl rfl
   rw[this.int_,hP]
   exact Vk n rs hl w im ρ u xs h1 h2
theorem Gy (a b:List UInt8):a.map Ac++b.map Ac=(a++b).map Ac:=List.map_append.symm
theorem JX (a:List UInt8) (x y:UInt8):a.map Ac++[[AV.int .u8 (x.toNat:Int)],[AV.int .u8 (y.toNat:Int)]]=(a++[x,y]).map Ac:=by simp[Ac]
def Br (l:List UInt8):List UInt8:=Bi (l.length/256)::Bi l.length::l
def Jf (a:AX):List UInt8:=Bi a.kind::(Bw a.queue.data.toList++C2 a.n++(if a.kind=4 then BT a.note else []))
def JG (s:A0):List UInt8:=Bi s.kind::(C2 s.n++[Bi s.m,Bi s.err]++(if s.kind=2 then BT s.note else []))
theorem V9 (l:List UInt8) (hl:l.length≤8388608):A8 Tryz.prog D 178 [.sl 1 (l.map Ac)] ⟨.os 0,[(5,1,(Br l).map Ac)]⟩:=by
 have hok:Cl Tryz.prog D (Ao []):=Ar _
 refine Ch (G:=Ao []) (rs:=[(2,none)]) mixed tok hok Tryz.func178 rfl (by decide) Tryz.results178 (by decide) rfl Tryz.ntmps178 (by simp) (by simp[Af,Ad]) fun X hP hD hG' hX=> Al hX (fun _=> {}) _ _ _ ?_
 simp only[AU,Bz]
 have hw:IntKind.wrap .i64 ((l.length:Int)/256)=(l.length:Int)/256:=AA (by omega) (by omega)
 simp (disch:=((try simp only[List.length_drop,List.length_take,List.length_append,List.length_cons,List.length_nil,List.length_map]);omega)) only[go_sem,Nat.reduceLeDiff,reduceCtorEq,Nat.reduceAdd,Nat.reduceSub,Nat.reduceMul,Nat.reduceLT,Nat.reduceEqDiff,Int.reduceEq,Int.reduceLE,Int.reduceLT,Int.reducePow,Int.reduceMul,Int.reduceToNat,Int.reduceNeg,↓reduceIte,←List.map_take,←List.map_drop,hD,hG',AM,Ac9,hw,Aa]
 ((try and_intros);all_goals (try first | omega | decide | (simp;done) | (simp only[List.length_append,List.length_cons,List.length_nil,List.length_map];omega)))
 refine ⟨[],[(0,12)],rfl,rfl,?_,?_⟩ <;> simp only[AW,AO,DX,Df,ES,D9,fz,Hq,plain,A3,List.cons_append,List.nil_append,Eo,En,AT,cov,Aw,AF,get,blk,jn,Az,Cg,Ad,Af,Option.map_some,Option.map_none,Option.getD_some,Option.getD_none,Dz,B9,B9.resT',ET,Nat.reduceEqDiff,↓reduceIte,if_true,if_false,and_true,true_and,and_self,Nat.reduceAdd,List.map_cons,List.map_nil,ite_true,ite_false,reduceCtorEq,Kf,Kg,Kh,EN,EO,EP,KL,CH]
 all_goals simp[Br,Ac]
theorem Rt (l:List UInt8) (hl:l.length≤8388608):A8 Tryz.prog D 136 [.sl 1 (l.map Ac)] ⟨.os 0,[(5,1,(Br l).map Ac)]⟩:=by
 have hok:Cl Tryz.prog D (Ao []):=Ar _
 refine Ch (G:=Ao []) (rs:=[(2,none)]) mixed tok hok Tryz.func136 rfl (by decide) Tryz.results136 (by decide) rfl Tryz.ntmps136 (by simp) (by simp[Af,Ad]) fun X hP hD hG' hX=> Al hX (fun _=> {}) _ _ _ ?_
 simp only[AU,Bz]
 have hw:IntKind.wrap .i64 ((l.length:Int).tdiv 256)=(l.length:Int)/256:=by rw[Int.tdiv_eq_ediv_of_nonneg (by omega)];exact AA (by omega) (by omega)
 have hm:(l.length:Int).tmod 256=(l.length:Int)%256:=Int.tmod_eq_emod_of_nonneg (by omega)
 have hb:Bi ((l.length:Int)%256)=Bi l.length:=Jg (by omega)
 simp (disch:=((try simp only[List.length_drop,List.length_take,List.length_append,List.length_cons,List.length_nil,List.length_map]);omega)) only[go_sem,Nat.reduceLeDiff,reduceCtorEq,Nat.reduceAdd,Nat.reduceSub,Nat.reduceMul,Nat.reduceLT,Nat.reduceEqDiff,Int.reduceEq,Int.reduceLE,Int.reduceLT,Int.reducePow,Int.reduceMul,Int.reduceToNat,Int.reduceNeg,↓reduceIte,←List.map_take,←List.map_drop,hD,hG',AM,hw,hm,hb,Aa]
 ((try and_intros);all_goals (try first | omega | decide | (simp;done) | (simp only[List.length_append,List.length_cons,List.length_nil,List.length_map];omega)))
 refine ⟨[],[(0,13)],rfl,rfl,?_,?_⟩ <;> simp only[AW,AO,DX,Df,ES,D9,fz,Hq,plain,A3,List.cons_append,List.nil_append,Eo,En,AT,cov,Aw,AF,get,blk,jn,Az,Cg,Ad,Af,Option.map_some,Option.map_none,Option.getD_some,Option.getD_none,Dz,B9,B9.resT',ET,Nat.reduceEqDiff,↓reduceIte,if_true,if_false,and_true,true_and,and_self,Nat.reduceAdd,List.map_cons,List.map_nil,ite_true,ite_false,reduceCtorEq,Kf,Kg,Kh,EN,EO,EP,KL,CH]
 all_goals simp[Br,Ac]
def CL:BH Tryz.prog D:=⟨178,List UInt8,fun l=> [.sl 1 (l.map Ac)],fun l=> l.length≤8388608,fun l=> ⟨.os 0,[(5,1,(Br l).map Ac)]⟩,fun x y _ _ h=> by
 simp only[List.cons.injEq,AV.sl.injEq,true_and,and_true] at h
 rw[AN h],V9⟩
def A7:BH Tryz.prog D:=⟨136,List UInt8,fun l=> [.sl 1 (l.map Ac)],fun l=> l.length≤8388608,fun l=> ⟨.os 0,[(5,1,(Br l).map Ac)]⟩,fun x y _ _ h=> by
 simp only[List.cons.injEq,AV.sl.injEq,true_and,and_true] at h
 rw[AN h],Rt⟩
theorem UK {a:AX} (h:Ap a=0):(Jf a).length≤148:=by
 obtain ⟨_,_,h1,_,_,h2,_⟩:=D4 h
 have h3:=EX h2
 have h4:=JI a.queue
 simp only[Jf,Bw,C2,List.length_append,List.length_cons,List.length_nil]
 split
 ·omega
 ·simp only[List.length_nil];omega
theorem VO {s:A0} (h:Am s=0):(JG s).length≤141:=by
 obtain ⟨_,_,_,_,_,_,_,_,h2,_⟩:=Dk h
 have h3:=EX h2
 simp only[JG,C2,List.length_append,List.length_cons,List.length_nil]
 split
 ·omega
 ·simp only[List.length_nil];omega
theorem SD (s:AX) (hs:Ap s=0):A8 Tryz.prog D 120 [askA s] ⟨.os 0,[(5,1,(Br (Jf s)).map Ac)]⟩:=by
 have hlen:=UK hs
 obtain ⟨kind,q,n,⟨ps,bs⟩⟩:=s
 obtain ⟨h1,h2,h3,h4,h5,h6,h7⟩:=D4 hs
 simp only at h1 h2 h3 h4 h5 h6 h7
 have hb:=EX h6
 have hl:=JI q
 have hn4:=AbJ n
 have hok:Cl Tryz.prog D (Ao [DB,CL]):=Ar _
 have g1:Ao [DB,CL] 177 [An ⟨ps,bs⟩]=some ⟨.os 0,[(5,1,(BT ⟨ps,bs⟩).map Ac)]⟩:=AQ (E:=DB) (T:=[DB,CL]) (i:=0) rfl (by decide) _ ⟨EQ h6,by omega⟩ rfl rfl
 have g2:∀l:List UInt8,l.length≤8388608→Ao [DB,CL] 178 [.sl 1 (l.map Ac)]=some ⟨.os 0,[(5,1,(Br l).map Ac)]⟩:=fun l h=> AQ (E:=CL) (T:=[DB,CL]) (i:=1) rfl (by decide) l h rfl rfl
 have g3:∀(x y:UInt8) (l:List UInt8),l.length≤8388600→Ao [DB,CL] 178 [.sl 1 ([.int .u8 (x.toNat:Int)]::[.int .u8 (y.toNat:Int)]::l.map Ac)]=some ⟨.os 0,[(5,1,(Br (x::y::l)).map Ac)]⟩:=fun x y l h=> g2 (x::y::l) (by simp only[List.length_cons];omega)
 have gn:∀a,Ao [DB,CL] 176 a=none:=fun a=> rfl
 generalize Ao [DB,CL]=G at *
 simp only[An] at g1
 refine JN R1 (G:=G) (rs:=[(2,none)]) mixed tok hok Tryz.func120 rfl (by decide) Tryz.results120 (by decide) rfl Tryz.ntmps120 (by simp) (by simp[askA,Af,Ad]) fun X hP hD hG' hX=> Al hX (fun _=> {}) _ _ _ ?_
 simp only[AU,Bz,askA]
 simp (disch:=((try simp only[List.length_drop,List.length_take,List.length_append,List.length_cons,List.length_nil,List.length_map]);omega)) only[go_sem,Nat.reduceLeDiff,reduceCtorEq,Nat.reduceAdd,Nat.reduceSub,Nat.reduceMul,Nat.reduceLT,Nat.reduceEqDiff,Int.reduceEq,Int.reduceLE,Int.reduceLT,Int.reducePow,Int.reduceMul,Int.reduceToNat,Int.reduceNeg,↓reduceIte,←List.map_take,←List.map_drop,hD,hG',AM,gn,Ay,Jo,g1,Gy,Aa]
 ((try and_intros);all_goals (try first | omega | decide | (simp;done) | (simp only[List.length_append,List.length_cons,List.length_nil,List.length_map];omega)))
 refine Ai (fun h=> ?_) (fun h=> ?_)
 ·have hk:kind=4:=by simpa using h
  have he:Jf ⟨kind,q,n,⟨ps,bs⟩⟩=Bi kind::Bi q.data.toList.length::(q.data.toList++C2 n++BT ⟨ps,bs⟩):=by simp[Jf,hk,Bw]
  rw[he] at hlen
  rw[he]
  simp (disch:=((try simp only[List.length_drop,List.length_take,List.length_append,List.length_cons,List.length_nil,List.length_map]);omega)) only[go_sem,Nat.reduceLeDiff,reduceCtorEq,Nat.reduceAdd,Nat.reduceSub,Nat.reduceMul,Nat.reduceLT,Nat.reduceEqDiff,Int.reduceEq,Int.reduceLE,Int.reduceLT,Int.reducePow,Int.reduceMul,Int.reduceToNat,Int.reduceNeg,↓reduceIte,←List.map_take,←List.map_drop,hD,hG',AM,gn,Ay,Jo,g1,g3,Gy,Aa]
  ((try and_intros);all_goals (try first | omega | decide | (simp;done) | (simp only[List.length_append,List.length_cons,List.length_nil,List.length_map];omega)))
  refine ⟨[],[(0,4124)],rfl,rfl,?_,?_⟩ <;> simp only[AW,AO,DX,Df,ES,D9,fz,Hq,plain,A3,List.cons_append,List.nil_append,Eo,En,AT,cov,Aw,AF,get,blk,jn,Az,Cg,Ad,Af,Option.map_some,Option.map_none,Option.getD_some,Option.getD_none,Dz,B9,B9.resT',ET,Nat.reduceEqDiff,↓reduceIte,if_true,if_false,and_true,true_and,and_self,Nat.reduceAdd,List.map_cons,List.map_nil,ite_true,ite_false,reduceCtorEq,Kf,Kg,Kh,EN,EO,EP,KL,CH]
  all_goals rfl
 ·have hk:¬kind=4:=by simpa using h
  have he:Jf ⟨kind,q,n,⟨ps,bs⟩⟩=Bi kind::Bi q.data.toList.length::(q.data.toList++C2 n):=by simp[Jf,hk,Bw]
  rw[he] at hlen
  rw[he]
  simp (disch:=((try simp only[List.length_drop,List.length_take,List.length_append,List.length_cons,List.length_nil,List.length_map]);omega)) only[go_sem,Nat.reduceLeDiff,reduceCtorEq,Nat.reduceAdd,Nat.reduceSub,Nat.reduceMul,Nat.reduceLT,Nat.reduceEqDiff,Int.reduceEq,Int.reduceLE,Int.reduceLT,Int.reducePow,Int.reduceMul,Int.reduceToNat,Int.reduceNeg,↓reduceIte,←List.map_take,←List.map_drop,hD,hG',AM,gn,Ay,Jo,g1,g3,Gy,Aa]
  ((try and_intros);all_goals (try first | omega | decide | (simp;done) | (simp only[List.length_append,List.length_cons,List.length_nil,List.length_map];omega)))
  refine ⟨[],[(0,4124)],rfl,rfl,?_,?_⟩ <;> simp only[AW,AO,DX,Df,ES,D9,fz,Hq,plain,A3,List.cons_append,List.nil_append,Eo,En,AT,cov,Aw,AF,get,blk,jn,Az,Cg,Ad,Af,Option.map_some,Option.map_none,Option.getD_some,Option.getD_none,Dz,B9,B9.resT',ET,Nat.reduceEqDiff,↓reduceIte,if_true,if_false,and_true,true_and,and_self,Nat.reduceAdd,List.map_cons,List.map_nil,ite_true,ite_false,reduceCtorEq,Kf,Kg,Kh,EN,EO,EP,KL,CH]
  all_goals rfl
def VG:Nat→Lo:=fun id=> match id with | 1=> {uo:=[7],ex:=[0,1,2,3,4,5,6,8],kn:=[7]} | _=> {}
theorem SE (s:AX) (hs:Ap s=0):A8 Tryz.prog D 80 [askA s] ⟨.os 0,[(5,1,(Br (Jf s)).map Ac)]⟩:=by
 have hlen:=UK hs
 obtain ⟨kind,q,n,⟨ps,bs⟩⟩:=s
 obtain ⟨h1,h2,h3,h4,h5,h6,h7⟩:=D4 hs
 simp only at h1 h2 h3 h4 h5 h6 h7
 have hb:=EX h6
 have hl:=JI q
 have hn4:=AbJ n
 have ht:=Zj q.data.toList
 have hok:Cl Tryz.prog D (Ao [A6,A7,CQ,E9]):=Ar _
 have g1:Ao [A6,A7,CQ,E9] 135 [An ⟨ps,bs⟩]=some ⟨.sl 1 ((BT ⟨ps,bs⟩).map Ac),[]⟩:=AQ (E:=A6) (T:=[A6,A7,CQ,E9]) (i:=0) rfl (by decide) _ ⟨EQ h6,by omega⟩ rfl rfl
 have g2:∀l:List UInt8,l.length≤8388608→Ao [A6,A7,CQ,E9] 136 [.sl 1 (l.map Ac)]=some ⟨.os 0,[(5,1,(Br l).map Ac)]⟩:=fun l h=> AQ (E:=A7) (T:=[A6,A7,CQ,E9]) (i:=1) rfl (by decide) l h rfl rfl
 have g3:∀(x:UInt8) (l:List UInt8),l.length≤8388600→Ao [A6,A7,CQ,E9] 136 [.sl 1 ([.int .u8 (x.toNat:Int)]::l.map Ac)]=some ⟨.os 0,[(5,1,(Br (x::l)).map Ac)]⟩:=fun x l h=> g2 (x::l) (by simp only[List.length_cons];omega)
 have g4:∀l:List UInt8,l.length≤8388608→Ao [A6,A7,CQ,E9] 133 [.str l]=some ⟨.sl 1 ((Bw l).map Ac),[]⟩:=fun l h=> AQ (E:=CQ) (T:=[A6,A7,CQ,E9]) (i:=2) rfl (by decide) l h rfl rfl
 have g5:∀n:Int,Ao [A6,A7,CQ,E9] 134 [.int .i64 n]=some ⟨.sl 1 ((C2 n).map Ac),[]⟩:=fun n=> AQ (E:=E9) (T:=[A6,A7,CQ,E9]) (i:=3) rfl (by decide) n trivial rfl rfl
 generalize Ao [A6,A7,CQ,E9]=G at *
 simp only[An] at g1
 refine Ch (G:=G) (rs:=[(2,none)]) mixed tok hok Tryz.func80 rfl (by decide) Tryz.results80 (by decide) rfl Tryz.ntmps80 (by simp) (by simp[askA,Af,Ad]) fun X hP hD hG' hX=> Al hX VG _ _ _ ?_
 simp only[AU,Bz,askA]
 simp (disch:=((try simp only[List.length_drop,List.length_take,List.length_append,List.length_cons,List.length_nil,List.length_map]);omega)) only[go_sem,Nat.reduceLeDiff,reduceCtorEq,Nat.reduceAdd,Nat.reduceSub,Nat.reduceMul,Nat.reduceLT,Nat.reduceEqDiff,Int.reduceEq,Int.reduceLE,Int.reduceLT,Int.reducePow,Int.reduceMul,Int.reduceToNat,Int.reduceNeg,↓reduceIte,←List.map_take,←List.map_drop,hD,hG',AM,g4,g5,g1,Gy,VG,Aa]
 ((try and_intros);all_goals (try first | omega | decide | (simp;done) | (simp only[List.length_append,List.length_cons,List.length_nil,List.length_map];omega)))
 refine Ai (fun h=> ?_) (fun h=> ?_)
 ·have hk:kind=4:=by simpa using h
  have he:Jf ⟨kind,q,n,⟨ps,bs⟩⟩=Bi kind::(Bw q.data.toList++C2 n++BT ⟨ps,bs⟩):=by simp[Jf,hk]
  rw[he] at hlen
  rw[he]
  simp (disch:=((try simp only[List.length_drop,List.length_take,List.length_append,List.length_cons,List.length_nil,List.length_map]);omega)) only[go_sem,Nat.reduceLeDiff,reduceCtorEq,Nat.reduceAdd,Nat.reduceSub,Nat.reduceMul,Nat.reduceLT,Nat.reduceEqDiff,Int.reduceEq,Int.reduceLE,Int.reduceLT,Int.reducePow,Int.reduceMul,Int.reduceToNat,Int.reduceNeg,↓reduceIte,←List.map_take,←List.map_drop,hD,hG',AM,g4,g5,g1,g3,Gy,Aa]
  ((try and_intros);all_goals (try first | omega | decide | (simp;done) | (simp only[List.length_append,List.length_cons,List.length_nil,List.length_map];omega)))
  refine ⟨[],[(0,4122)],rfl,rfl,?_,?_⟩ <;> simp only[AW,AO,DX,Df,ES,D9,fz,Hq,plain,A3,List.cons_append,List.nil_append,Eo,En,AT,cov,Aw,AF,get,blk,jn,Az,Cg,Ad,Af,Option.map_some,Option.map_none,Option.getD_some,Option.getD_none,Dz,B9,B9.resT',ET,Nat.reduceEqDiff,↓reduceIte,if_true,if_false,and_true,true_and,and_self,Nat.reduceAdd,List.map_cons,List.map_nil,ite_true,ite_false,reduceCtorEq,Kf,Kg,Kh,EN,EO,EP,KL,CH]
  all_goals rfl
 ·have hk:¬kind=4:=by simpa using h
  have he:Jf ⟨kind,q,n,⟨ps,bs⟩⟩=Bi kind::(Bw q.data.toList++C2 n):=by simp[Jf,hk]
  rw[he] at hlen
  rw[he]
  simp (disch:=((try simp only[List.length_drop,List.length_take,List.length_append,List.length_cons,List.length_nil,List.length_map]);omega)) only[go_sem,Nat.reduceLeDiff,reduceCtorEq,Nat.reduceAdd,Nat.reduceSub,Nat.reduceMul,Nat.reduceLT,Nat.reduceEqDiff,Int.reduceEq,Int.reduceLE,Int.reduceLT,Int.reducePow,Int.reduceMul,Int.reduceToNat,Int.reduceNeg,↓reduceIte,←List.map_take,←List.map_drop,hD,hG',AM,g4,g5,g1,g3,Gy,Aa]
  ((try and_intros);all_goals (try first | omega | decide | (simp;done) | (simp only[List.length_append,List.length_cons,List.length_nil,List.length_map];omega)))
  refine ⟨[],[(0,4122)],rfl,rfl,?_,?_⟩ <;> simp only[AW,AO,DX,Df,ES,D9,fz,Hq,plain,A3,List.cons_append,List.nil_append,Eo,En,AT,cov,Aw,AF,get,blk,jn,Az,Cg,Ad,Af,Option.map_some,Option.map_none,Option.getD_some,Option.getD_none,Dz,B9,B9.resT',ET,Nat.reduceEqDiff,↓reduceIte,if_true,if_false,and_true,true_and,and_self,Nat.reduceAdd,List.map_cons,List.map_nil,ite_true,ite_false,reduceCtorEq,Kf,Kg,Kh,EN,EO,EP,KL,CH]
  all_goals rfl
def Q5:Nat→Lo:=fun id=> match id with | 1=> {uo:=[6,14],ex:=[0,1,2,3,4,5,15],kn:=[7,10]} | _=> {}
theorem SU (s:A0) (hs:Am s=0):A8 Tryz.prog D 122 [sayA s] ⟨.os 0,[(5,1,(Br (JG s)).map Ac)]⟩:=by
 have hlen:=VO hs
 obtain ⟨kind,n,m,err,⟨ps,bs⟩⟩:=s
 obtain ⟨_,_,_,_,_,_,_,_,h6,_⟩:=Dk hs
 simp only at h6
 have hb:=EX h6
 have hn4:=AbJ n
 have hok:Cl Tryz.prog D (Ao [DB,CL]):=Ar _
 have g1:Ao [DB,CL] 177 [An ⟨ps,bs⟩]=some ⟨.os 0,[(5,1,(BT ⟨ps,bs⟩).map Ac)]⟩:=AQ (E:=DB) (T:=[DB,CL]) (i:=0) rfl (by decide) _ ⟨EQ h6,by omega⟩ rfl rfl
 have g2:∀l:List UInt8,l.length≤8388608→Ao [DB,CL] 178 [.sl 1 (l.map Ac)]=some ⟨.os 0,[(5,1,(Br l).map Ac)]⟩:=fun l h=> AQ (E:=CL) (T:=[DB,CL]) (i:=1) rfl (by decide) l h rfl rfl
 have g3:∀(x:UInt8) (l:List UInt8),l.length≤8388600→Ao [DB,CL] 178 [.sl 1 ([.int .u8 (x.toNat:Int)]::l.map Ac)]=some ⟨.os 0,[(5,1,(Br (x::l)).map Ac)]⟩:=fun x l h=> g2 (x::l) (by simp only[List.length_cons];omega)
 have gn:∀a,Ao [DB,CL] 176 a=none:=fun a=> rfl
 generalize Ao [DB,CL]=G at *
 simp only[An] at g1
 refine JN R1 (G:=G) (rs:=[(2,none)]) mixed tok hok Tryz.func122 rfl (by decide) Tryz.results122 (by decide) rfl Tryz.ntmps122 (by simp) (by simp[sayA,Af,Ad]) fun X hP hD hG' hX=> Al hX Q5 _ _ _ ?_
 simp only[AU,Bz,sayA]
 simp (disch:=((try simp only[List.length_drop,List.length_take,List.length_append,List.length_cons,List.length_nil,List.length_map]);omega)) only[go_sem,Nat.reduceLeDiff,reduceCtorEq,Nat.reduceAdd,Nat.reduceSub,Nat.reduceMul,Nat.reduceLT,Nat.reduceEqDiff,Int.reduceEq,Int.reduceLE,Int.reduceLT,Int.reducePow,Int.reduceMul,Int.reduceToNat,Int.reduceNeg,↓reduceIte,←List.map_take,←List.map_drop,hD,hG',AM,gn,Ay,Jo,g1,Gy,JX,Q5,Aa]
 ((try and_intros);all_goals (try first | omega | decide | (simp;done) | (simp only[List.length_append,List.length_cons,List.length_nil,List.length_map];omega)))
 refine Ai (fun h=> ?_) (fun h=> ?_)
 ·have hk:kind=2:=by simpa using h
  have he:JG ⟨kind,n,m,err,⟨ps,bs⟩⟩=Bi kind::(C2 n++[Bi m,Bi err]++BT ⟨ps,bs⟩):=by simp[JG,hk]
  rw[he] at hlen
  rw[he]
  simp (disch:=((try simp only[List.length_drop,List.length_take,List.length_append,List.length_cons,List.length_nil,List.length_map]);omega)) only[go_sem,Nat.reduceLeDiff,reduceCtorEq,Nat.reduceAdd,Nat.reduceSub,Nat.reduceMul,Nat.reduceLT,Nat.reduceEqDiff,Int.reduceEq,Int.reduceLE,Int.reduceLT,Int.reducePow,Int.reduceMul,Int.reduceToNat,Int.reduceNeg,↓reduceIte,←List.map_take,←List.map_drop,hD,hG',AM,gn,Ay,Jo,g1,g3,Gy,JX,Aa]
  ((try and_intros);all_goals (try first | omega | decide | (simp;done) | (simp only[List.length_append,List.length_cons,List.length_nil,List.length_map];omega)))
  refine ⟨[],[(0,4124)],rfl,rfl,?_,?_⟩ <;> simp only[AW,AO,DX,Df,ES,D9,fz,Hq,plain,A3,List.cons_append,List.nil_append,Eo,En,AT,cov,Aw,AF,get,blk,jn,Az,Cg,Ad,Af,Option.map_some,Option.map_none,Option.getD_some,Option.getD_none,Dz,B9,B9.resT',ET,Nat.reduceEqDiff,↓reduceIte,if_true,if_false,and_true,true_and,and_self,Nat.reduceAdd,List.map_cons,List.map_nil,ite_true,ite_false,reduceCtorEq,Kf,Kg,Kh,EN,EO,EP,I9,PJ,CH]
  all_goals rfl
 ·have hk:¬kind=2:=by simpa using h
  have he:JG ⟨kind,n,m,err,⟨ps,bs⟩⟩=Bi kind::(C2 n++[Bi m,Bi err]):=by simp[JG,hk]
  rw[he] at hlen
  rw[he]
  simp (disch:=((try simp only[List.length_drop,List.length_take,List.length_append,List.length_cons,List.length_nil,List.length_map]);omega)) only[go_sem,Nat.reduceLeDiff,reduceCtorEq,Nat.reduceAdd,Nat.reduceSub,Nat.reduceMul,Nat.reduceLT,Nat.reduceEqDiff,Int.reduceEq,Int.reduceLE,Int.reduceLT,Int.reducePow,Int.reduceMul,Int.reduceToNat,Int.reduceNeg,↓reduceIte,←List.map_take,←List.map_drop,hD,hG',AM,gn,Ay,Jo,g1,g3,Gy,JX,Aa]
  ((try and_intros);all_goals (try first | omega | decide | (simp;done) | (simp only[List.length_append,List.length_cons,List.length_nil,List.length_map];omega)))
  refine ⟨[],[(0,4124)],rfl,rfl,?_,?_⟩ <;> simp only[AW,AO,DX,Df,ES,D9,fz,Hq,plain,A3,List.cons_append,List.nil_append,Eo,En,AT,cov,Aw,AF,get,blk,jn,Az,Cg,Ad,Af,Option.map_some,Option.map_none,Option.getD_some,Option.getD_none,Dz,B9,B9.resT',ET,Nat.reduceEqDiff,↓reduceIte,if_true,if_false,and_true,true_and,and_self,Nat.reduceAdd,List.map_cons,List.map_nil,ite_true,ite_false,reduceCtorEq,Kf,Kg,Kh,EN,EO,EP,I9,PJ,CH]
  all_goals rfl
def VH:Nat→Lo:=fun id=> match id with | 1=> {uo:=[7],ex:=[0,1,2,3,4,5,6,8],kn:=[7]} | _=> {}
theorem SV (s:A0) (hs:Am s=0):A8 Tryz.prog D 83 [sayA s] ⟨.os 0,[(5,1,(Br (JG s)).map Ac)]⟩:=by
 have hlen:=VO hs
 obtain ⟨kind,n,m,err,⟨ps,bs⟩⟩:=s
 obtain ⟨_,_,_,_,_,_,_,_,h6,_⟩:=Dk hs
 simp only at h6
 have hb:=EX h6
 have hn4:=AbJ n
 have hok:Cl Tryz.prog D (Ao [A6,A7,CQ,E9]):=Ar _
 have g1:Ao [A6,A7,CQ,E9] 135 [An ⟨ps,bs⟩]=some ⟨.sl 1 ((BT ⟨ps,bs⟩).map Ac),[]⟩:=AQ (E:=A6) (T:=[A6,A7,CQ,E9]) (i:=0) rfl (by decide) _ ⟨EQ h6,by omega⟩ rfl rfl
 have g2:∀l:List UInt8,l.length≤8388608→Ao [A6,A7,CQ,E9] 136 [.sl 1 (l.map Ac)]=some ⟨.os 0,[(5,1,(Br l).map Ac)]⟩:=fun l h=> AQ (E:=A7) (T:=[A6,A7,CQ,E9]) (i:=1) rfl (by decide) l h rfl rfl
 have g3:∀(x:UInt8) (l:List UInt8),l.length≤8388600→Ao [A6,A7,CQ,E9] 136 [.sl 1 ([.int .u8 (x.toNat:Int)]::l.map Ac)]=some ⟨.os 0,[(5,1,(Br (x::l)).map Ac)]⟩:=fun x l h=> g2 (x::l) (by simp only[List.length_cons];omega)
 have g4:∀l:List UInt8,l.length≤8388608→Ao [A6,A7,CQ,E9] 133 [.str l]=some ⟨.sl 1 ((Bw l).map Ac),[]⟩:=fun l h=> AQ (E:=CQ) (T:=[A6,A7,CQ,E9]) (i:=2) rfl (by decide) l h rfl rfl
 have g5:∀n:Int,Ao [A6,A7,CQ,E9] 134 [.int .i64 n]=some ⟨.sl 1 ((C2 n).map Ac),[]⟩:=fun n=> AQ (E:=E9) (T:=[A6,A7,CQ,E9]) (i:=3) rfl (by decide) n trivial rfl rfl
 generalize Ao [A6,A7,CQ,E9]=G at *
 simp only[An] at g1
 refine Ch (G:=G) (rs:=[(2,none)]) mixed tok hok Tryz.func83 rfl (by decide) Tryz.results83 (by decide) rfl Tryz.ntmps83 (by simp) (by simp[sayA,Af,Ad]) fun X hP hD hG' hX=> Al hX VH _ _ _ ?_
 simp only[AU,Bz,sayA]
 simp (disch:=((try simp only[List.length_drop,List.length_take,List.length_append,List.length_cons,List.length_nil,List.length_map]);omega)) only[go_sem,Nat.reduceLeDiff,reduceCtorEq,Nat.reduceAdd,Nat.reduceSub,Nat.reduceMul,Nat.reduceLT,Nat.reduceEqDiff,Int.reduceEq,Int.reduceLE,Int.reduceLT,Int.reducePow,Int.reduceMul,Int.reduceToNat,Int.reduceNeg,↓reduceIte,←List.map_take,←List.map_drop,hD,hG',AM,g4,g5,g1,Gy,JX,VH,Aa]
 ((try and_intros);all_goals (try first | omega | decide | (simp;done) | (simp only[List.length_append,List.length_cons,List.length_nil,List.length_map];omega)))
 refine Ai (fun h=> ?_) (fun h=> ?_)
 ·have hk:kind=2:=by simpa using h
  have he:JG ⟨kind,n,m,err,⟨ps,bs⟩⟩=Bi kind::(C2 n++[Bi m,Bi err]++BT ⟨ps,bs⟩):=by simp[JG,hk]
  rw[he] at hlen
  rw[he]
  simp (disch:=((try simp only[List.length_drop,List.length_take,List.length_append,List.length_cons,List.length_nil,List.length_map]);omega)) only[go_sem,Nat.reduceLeDiff,reduceCtorEq,Nat.reduceAdd,Nat.reduceSub,Nat.reduceMul,Nat.reduceLT,Nat.reduceEqDiff,Int.reduceEq,Int.reduceLE,Int.reduceLT,Int.reducePow,Int.reduceMul,Int.reduceToNat,Int.reduceNeg,↓reduceIte,←List.map_take,←List.map_drop,hD,hG',AM,g4,g5,g1,g3,Gy,JX,Aa]
  ((try and_intros);all_goals (try first | omega | decide | (simp;done) | (simp only[List.length_append,List.length_cons,List.length_nil,List.length_map];omega)))
  refine ⟨[],[(0,4126)],rfl,rfl,?_,?_⟩ <;> simp only[AW,AO,DX,Df,ES,D9,fz,Hq,plain,A3,List.cons_append,List.nil_append,Eo,En,AT,cov,Aw,AF,get,blk,jn,Az,Cg,Ad,Af,Option.map_some,Option.map_none,Option.getD_some,Option.getD_none,Dz,B9,B9.resT',ET,Nat.reduceEqDiff,↓reduceIte,if_true,if_false,and_true,true_and,and_self,Nat.reduceAdd,List.map_cons,List.map_nil,ite_true,ite_false,reduceCtorEq,Kf,Kg,Kh,EN,EO,EP,I9,PJ,CH]
  all_goals rfl
 ·have hk:¬kind=2:=by simpa using h
  have he:JG ⟨kind,n,m,err,⟨ps,bs⟩⟩=Bi kind::(C2 n++[Bi m,Bi err]):=by simp[JG,hk]
  rw[he] at hlen
  rw[he]
  simp (disch:=((try simp only[List.length_drop,List.length_take,List.length_append,List.length_cons,List.length_nil,List.length_map]);omega)) only[go_sem,Nat.reduceLeDiff,reduceCtorEq,Nat.reduceAdd,Nat.reduceSub,Nat.reduceMul,Nat.reduceLT,Nat.reduceEqDiff,Int.reduceEq,Int.reduceLE,Int.reduceLT,Int.reducePow,Int.reduceMul,Int.reduceToNat,Int.reduceNeg,↓reduceIte,←List.map_take,←List.map_drop,hD,hG',AM,g4,g5,g1,g3,Gy,JX,Aa]
  ((try and_intros);all_goals (try first | omega | decide | (simp;done) | (simp only[List.length_append,List.length_cons,List.length_nil,List.length_map];omega)))
  refine ⟨[],[(0,4126)],rfl,rfl,?_,?_⟩ <;> simp only[AW,AO,DX,Df,ES,D9,fz,Hq,plain,A3,List.cons_append,List.nil_append,Eo,En,AT,cov,Aw,AF,get,blk,jn,Az,Cg,Ad,Af,Option.map_some,Option.map_none,Option.getD_some,Option.getD_none,Dz,B9,B9.resT',ET,Nat.reduceEqDiff,↓reduceIte,if_true,if_false,and_true,true_and,and_self,Nat.reduceAdd,List.map_cons,List.map_nil,ite_true,ite_false,reduceCtorEq,Kf,Kg,Kh,EN,EO,EP,I9,PJ,CH]
  all_goals rfl
theorem Ac1 (i a b:Nat) (hb:b < 2^i) (ha:2^i*a+b < 4294967296):Zt .i64 ((2^i*a:Nat):Int) (b:Int)=((2^i*a+b:Nat):Int):=by
 unfold Zt
 have e:∀n:Nat,BitVec.ofInt 64 (n:Int)=BitVec.ofNat 64 n:=fun n=> by
  apply BitVec.eq_of_toNat_eq
  simp[BitVec.toNat_ofInt]
 show IntKind.wrap .i64 ((BitVec.ofInt 64 _ ||| BitVec.ofInt 64 _).toNat:Int)=_
 rw[e,e,BitVec.toNat_or,BitVec.toNat_ofNat,BitVec.toNat_ofNat,Nat.mod_eq_of_lt (by omega),Nat.mod_eq_of_lt (by omega),←Nat.two_pow_add_eq_or_of_lt hb]
 exact AA (by omega) (by omega)
theorem QT (x y:UInt8):Zt .i64 (Lb .i64 (x.toNat:Int) 8) (y.toNat:Int)=((256*x.toNat+y.toNat:Nat):Int):=by
 have hx:=x.toNat_lt
 have hy:=y.toNat_lt
 rw[Adk,show IntKind.wrap .i64 ((x.toNat:Int)*256)=((2^8*x.toNat:Nat):Int) from by rw[AA (by omega) (by omega)];omega]
 exact Ac1 8 x.toNat y.toNat (by omega) (by omega)
def AC (l:List UInt8):List UInt8×Int×Int:=
 if l.length < 2 then ([],0,9)
 else if 398 < 256*(l.getD 0 0).toNat+(l.getD 1 0).toNat then ([],0,4)
 else if l.length < 256*(l.getD 0 0).toNat+(l.getD 1 0).toNat+2 then ([],0,9)
 else ((l.take (256*(l.getD 0 0).toNat+(l.getD 1 0).toNat+2)).drop 2,256*(l.getD 0 0).toNat+(l.getD 1 0).toNat+2,0)
theorem X7 (l:List UInt8) (hl:l.length≤8388608):A8 Tryz.prog D 173 [.sl 1 (l.map Ac)] ⟨.tup [.sl 1 ((AC l).1.map Ac),.int .i64 (AC l).2.1,.int .i64 (AC l).2.2],[]⟩:=by
 have hok:Cl Tryz.prog D (Ao []):=Ar _
 have hcon:∀r,r=AC l→A8 Tryz.prog D 173 [.sl 1 (l.map Ac)] ⟨.tup [.sl 1 (r.1.map Ac),.int .i64 r.2.1,.int .i64 r.2.2],[]⟩:=by
  intro r hr
  refine Ch (G:=Ao []) (rs:=[(2,none),(3,none),(4,none)]) mixed tok hok Tryz.func173 rfl (by decide) Tryz.results173 (by decide) rfl Tryz.ntmps173 (by simp) (by simp[Af,Ad]) fun X hP hD hG' hX=> Al hX (fun _=> {}) _ _ _ ?_
  simp only[AU,Bz]
  have ha:=(l.getD 0 0).toNat_lt
  have hb:=(l.getD 1 0).toNat_lt
  have e:∀a b:Nat,(256*(a:Int)+b+2).toNat=256*a+b+2:=fun a b=> by omega
  simp (disch:=omega) only[go_sem,hD,hG',AM,AD,Av,QT,Aa]
  iterate 24 (all_goals (try (first | (refine Au.mk [] ?_;simp (disch:=omega) only[go_sem,hD,hG',AM,AD,Av,QT,Aa]) | (refine Ai (fun h=> ?_) (fun h=> ?_) <;> ((try simp only[decide_eq_true_eq,decide_eq_false_iff_not,Int.not_lt,Int.not_le,Bool.not_eq_true] at h);simp (disch:=omega) only[go_sem,hD,hG',AM,AD,Av,QT,Aa])) | and_intros)))
  all_goals (try (first | decide | omega))
  all_goals (refine ⟨[],[],rfl,rfl,?_,?_⟩ <;> simp only[go_sem])
  all_goals (subst hr;simp only[AC])
  all_goals (try (first | rw[if_pos (by omega)] | rw[if_neg (by omega),if_pos (by omega)] | rw[if_neg (by omega),if_neg (by omega),if_pos (by omega)] | rw[if_neg (by omega),if_neg (by omega),if_neg (by omega)]))
  all_goals simp[e]
 exact hcon _ rfl
theorem U3 (l:List UInt8) (hl:l.length≤8388608):A8 Tryz.prog D 141 [.sl 1 (l.map Ac)] ⟨.tup [.sl 1 ((AC l).1.map Ac),.int .i64 (AC l).2.1,.int .i64 (AC l).2.2],[]⟩:=by
 have hok:Cl Tryz.prog D (Ao []):=Ar _
 have hcon:∀r,r=AC l→A8 Tryz.prog D 141 [.sl 1 (l.map Ac)] ⟨.tup [.sl 1 (r.1.map Ac),.int .i64 r.2.1,.int .i64 r.2.2],[]⟩:=by
  intro r hr
  refine Ch (G:=Ao []) (rs:=[(2,none),(3,none),(4,none)]) mixed tok hok Tryz.func141 rfl (by decide) Tryz.results141 (by decide) rfl Tryz.ntmps141 (by simp) (by simp[Af,Ad]) fun X hP hD hG' hX=> Al hX (fun _=> {}) _ _ _ ?_
  simp only[AU,Bz]
  have ha:=(l.getD 0 0).toNat_lt
  have hb:=(l.getD 1 0).toNat_lt
  have e:∀a b:Nat,(256*(a:Int)+b+2).toNat=256*a+b+2:=fun a b=> by omega
  simp (disch:=omega) only[go_sem,hD,hG',AM,AD,Av,Aa]
  iterate 24 (all_goals (try (first | (refine Au.mk [] ?_;simp (disch:=omega) only[go_sem,hD,hG',AM,AD,Av,Aa]) | (refine Ai (fun h=> ?_) (fun h=> ?_) <;> ((try simp only[decide_eq_true_eq,decide_eq_false_iff_not,Int.not_lt,Int.not_le,Bool.not_eq_true] at h);simp (disch:=omega) only[go_sem,hD,hG',AM,AD,Av,Aa])) | and_intros)))
  all_goals (try (first | decide | omega))
  all_goals (refine ⟨[],[],rfl,rfl,?_,?_⟩ <;> simp only[go_sem])
  all_goals (subst hr;simp only[AC])
  all_goals (try (first | rw[if_pos (by omega)] | rw[if_neg (by omega),if_pos (by omega)] | rw[if_neg (by omega),if_neg (by omega),if_pos (by omega)] | rw[if_neg (by omega),if_neg (by omega),if_neg (by omega)]))
  all_goals simp[e]
 exact hcon _ rfl
theorem X8 (l:List UInt8) (hl:4≤l.length) (hl2:l.length≤8388608):A8 Tryz.prog D 174 [.sl 1 (l.map Ac)] ⟨.int .i64 (Ds l),[]⟩:=by
 have hok:Cl Tryz.prog D (Ao []):=Ar _
 refine Ch (G:=Ao []) (rs:=[(2,none)]) mixed tok hok Tryz.func174 rfl (by decide) Tryz.results174 (by decide) rfl Tryz.ntmps174 (by simp) (by simp[Af,Ad]) fun X hP hD hG' hX=> Al hX (fun _=> {}) _ _ _ ?_
 simp only[AU,Bz]
 have hgs:IntKind.wrap .i64 (IntKind.wrap .i32 (RB l:Int))=Ds l:=AA (by have:=JQ l;unfold Ds at this;omega) (by have:=JQ l;unfold Ds at this;omega)
 simp (disch:=omega) only[go_sem,hD,hG',AM,AD,JK,Acc,hgs,Aa]
 ((try and_intros);all_goals (try first | omega | decide | (simp;done) | (simp only[List.length_append,List.length_cons,List.length_nil,List.length_map];omega)))
 refine ⟨[],[],rfl,rfl,?_,?_⟩ <;> simp only[go_sem]
def Ek (l:List UInt8) (must:Bool):AP×Int:=
 if must=false then (if 0 < l.length then (Ah,2) else (Ah,0))
 else if (A5 l).2.2≠0∨(A5 l).2.1≠l.length then (Ah,2) else ((A5 l).1,0)
theorem ZT (l:List UInt8) (must:Bool) (hl:l.length≤4194304):A8 Tryz.prog D 175 [.sl 1 (l.map Ac),.bool must] ⟨.tup [An (Ek l must).1,.int .i64 (Ek l must).2],[]⟩:=by
 have hok:Cl Tryz.prog D (Ao [Qk]):=Ar _
 have g1:Ao [Qk] 208 [.sl 1 (l.map Ac)]=some ⟨.tup [An (A5 l).1,.int .i64 (A5 l).2.1,.int .i64 (A5 l).2.2],[]⟩:=AQ (E:=Qk) (T:=[Qk]) (i:=0) rfl (by decide) l hl rfl rfl
 generalize Ao [Qk]=G at *
 simp only[An] at g1
 have hcon:∀r,r=Ek l must→A8 Tryz.prog D 175 [.sl 1 (l.map Ac),.bool must] ⟨.tup [An r.1,.int .i64 r.2],[]⟩:=by
  intro r hr
  refine Ch (G:=G) (rs:=[(4,some 25),(5,none)]) mixed tok hok Tryz.func175 rfl (by decide) Tryz.results175 (by decide) rfl Tryz.ntmps175 (by simp) (by simp[Af,Ad]) fun X hP hD hG' hX=> Al hX (fun _=> {}) _ _ _ ?_
  simp only[AU,Bz]
  simp (disch:=omega) only[go_sem,hD,hG',g1]
  iterate 24 (all_goals (try (first | (refine Au.mk [] ?_;simp (disch:=omega) only[go_sem,hD,hG',g1]) | (refine Ai (fun h=> ?_) (fun h=> ?_) <;> ((try simp only[decide_eq_true_eq,decide_eq_false_iff_not,Int.not_lt,Int.not_le,Bool.not_eq_true] at h);simp (disch:=omega) only[go_sem,hD,hG',g1])) | and_intros)))
  all_goals (try (first | decide | omega | (first | (intro hk;refine ⟨hk,fun h2=> ?_⟩;first | (rw[hk,h2];rfl) | (rw[hk,decide_eq_false h2];rfl)) | (intro hk;rw[decide_eq_false hk];rfl) | (intro hk;rw[hk];rfl))))
  all_goals (simp (disch:=omega) only[go_sem,hD,hG',g1,Aa])
  all_goals (refine ⟨[],[],rfl,rfl,?_,?_⟩ <;> simp only[go_sem,An])
  all_goals (subst hr;clear g1 hok hP hD hG' hX;unfold Ek)
  all_goals grind [Ah]
 exact hcon _ rfl
def Ft (l:List UInt8) (must:Bool):AP×Bool:=
 if must=false then (Ah,decide (l.length=0)) else ((A5 l).1,decide ((A5 l).2.2=0∧(A5 l).2.1=l.length))
theorem ZP (l:List UInt8) (must:Bool) (hl:l.length≤4194304):A8 Tryz.prog D 142 [.sl 1 (l.map Ac),.bool must] ⟨.tup [An (Ft l must).1,.bool (Ft l must).2],[]⟩:=by
 have hok:Cl Tryz.prog D (Ao [Ih]):=Ar _
 have g1:Ao [Ih] 115 [.sl 1 (l.map Ac)]=some ⟨.tup [An (A5 l).1,.int .i64 (A5 l).2.1,.int .i64 (A5 l).2.2],[]⟩:=AQ (E:=Ih) (T:=[Ih]) (i:=0) rfl (by decide) l hl rfl rfl
 generalize Ao [Ih]=G at *
 simp only[An] at g1
 have hcon:∀r,r=Ft l must→A8 Tryz.prog D 142 [.sl 1 (l.map Ac),.bool must] ⟨.tup [An r.1,.bool r.2],[]⟩:=by
  intro r hr
  refine Ch (G:=G) (rs:=[(4,some 25),(5,none)]) mixed tok hok Tryz.func142 rfl (by decide) Tryz.results142 (by decide) rfl Tryz.ntmps142 (by simp) (by simp[Af,Ad]) fun X hP hD hG' hX=> Al hX (fun _=> {}) _ _ _ ?_
  simp only[AU,Bz]
  simp (disch:=((try simp only[List.length_drop,List.length_take,List.length_append,List.length_cons,List.length_nil,List.length_map]);omega)) only[go_sem,Nat.reduceLeDiff,reduceCtorEq,Nat.reduceAdd,Nat.reduceSub,Nat.reduceMul,Nat.reduceLT,Nat.reduceEqDiff,Int.reduceEq,Int.reduceLE,Int.reduceLT,Int.reducePow,Int.reduceMul,Int.reduceToNat,Int.reduceNeg,↓reduceIte,←List.map_take,←List.map_drop,hD,hG',g1]
  iterate 24 (all_goals (try (first | (refine Au.mk [] ?_;simp (disch:=((try simp only[List.length_drop,List.length_take,List.length_append,List.length_cons,List.length_nil,List.length_map]);omega)) only[go_sem,Nat.reduceLeDiff,reduceCtorEq,Nat.reduceAdd,Nat.reduceSub,Nat.reduceMul,Nat.reduceLT,Nat.reduceEqDiff,Int.reduceEq,Int.reduceLE,Int.reduceLT,Int.reducePow,Int.reduceMul,Int.reduceToNat,Int.reduceNeg,↓reduceIte,←List.map_take,←List.map_drop,hD,hG',g1]) | (refine Ai (fun h=> ?_) (fun h=> ?_) <;> ((try simp only[decide_eq_true_eq,decide_eq_false_iff_not,Int.not_lt,Int.not_le,Bool.not_eq_true] at h);simp (disch:=((try simp only[List.length_drop,List.length_take,List.length_append,List.length_cons,List.length_nil,List.length_map]);omega)) only[go_sem,Nat.reduceLeDiff,reduceCtorEq,Nat.reduceAdd,Nat.reduceSub,Nat.reduceMul,Nat.reduceLT,Nat.reduceEqDiff,Int.reduceEq,Int.reduceLE,Int.reduceLT,Int.reducePow,Int.reduceMul,Int.reduceToNat,Int.reduceNeg,↓reduceIte,←List.map_take,←List.map_drop,hD,hG',g1])) | and_intros)))
  all_goals (try (first | decide | omega | (first | (intro hk;refine ⟨hk,fun h2=> ?_⟩;first | (rw[hk,h2];rfl) | (rw[hk,decide_eq_false h2];rfl)) | (intro hk;rw[decide_eq_false hk];rfl) | (intro hk;rw[hk];rfl))))
  all_goals (simp (disch:=((try simp only[List.length_drop,List.length_take,List.length_append,List.length_cons,List.length_nil,List.length_map]);omega)) only[go_sem,Nat.reduceLeDiff,reduceCtorEq,Nat.reduceAdd,Nat.reduceSub,Nat.reduceMul,Nat.reduceLT,Nat.reduceEqDiff,Int.reduceEq,Int.reduceLE,Int.reduceLT,Int.reducePow,Int.reduceMul,Int.reduceToNat,Int.reduceNeg,↓reduceIte,←List.map_take,←List.map_drop,hD,hG',g1,Aa])
  all_goals (refine ⟨[],[],rfl,rfl,?_,?_⟩ <;> simp only[AW,AO,DX,Df,ES,D9,fz,Hq,plain,A3,List.cons_append,List.nil_append,Eo,En,AT,cov,Aw,AF,get,blk,jn,Az,Cg,Ad,Af,Option.map_some,Option.map_none,Option.getD_some,Option.getD_none,Dz,B9,B9.resT',ET,Nat.reduceEqDiff,↓reduceIte,if_true,if_false,and_true,true_and,and_self,Nat.reduceAdd,List.map_cons,List.map_nil,ite_true,ite_false,reduceCtorEq,An])
  all_goals (subst hr;clear g1 hok hP hD hG' hX;unfold Ft)
  all_goals (cases must <;> simp[Ah] at *)
  all_goals (try (by_cases hq:(A5 l).2.2=0 <;> simp[hq]))
  all_goals (rw[Bool.eq_iff_iff];simp)
  all_goals (try omega)
 exact hcon _ rfl
def CR:BH Tryz.prog D:=⟨173,List UInt8,fun l=> [.sl 1 (l.map Ac)],fun l=> l.length≤8388608,fun l=> ⟨.tup [.sl 1 ((AC l).1.map Ac),.int .i64 (AC l).2.1,.int .i64 (AC l).2.2],[]⟩,fun x y _ _ h=> by
 simp only[List.cons.injEq,AV.sl.injEq,true_and,and_true] at h
 rw[AN h],X7⟩
def BC:BH Tryz.prog D:=⟨141,List UInt8,fun l=> [.sl 1 (l.map Ac)],fun l=> l.length≤8388608,fun l=> ⟨.tup [.sl 1 ((AC l).1.map Ac),.int .i64 (AC l).2.1,.int .i64 (AC l).2.2],[]⟩,fun x y _ _ h=> by
 simp only[List.cons.injEq,AV.sl.injEq,true_and,and_true] at h
 rw[AN h],U3⟩
def CS:BH Tryz.prog D:=⟨174,List UInt8,fun l=> [.sl 1 (l.map Ac)],fun l=> 4≤l.length∧l.length≤8388608,fun l=> ⟨.int .i64 (Ds l),[]⟩,fun x y _ _ h=> by
 simp only[List.cons.injEq,AV.sl.injEq,true_and,and_true] at h
 rw[AN h],fun l h=> X8 l h.1 h.2⟩
def Ei:BH Tryz.prog D:=⟨175,List UInt8×Bool,fun x=> [.sl 1 (x.1.map Ac),.bool x.2],fun x=> x.1.length≤4194304,fun x=> ⟨.tup [An (Ek x.1 x.2).1,.int .i64 (Ek x.1 x.2).2],[]⟩,fun x y _ _ h=> by
 obtain ⟨a,b⟩:=x
 obtain ⟨c,d⟩:=y
 simp only[List.cons.injEq,AV.sl.injEq,AV.bool.injEq,true_and,and_true] at h
 rw[AN h.1,h.2],fun x h=> ZT x.1 x.2 h⟩
def Eg:BH Tryz.prog D:=⟨142,List UInt8×Bool,fun x=> [.sl 1 (x.1.map Ac),.bool x.2],fun x=> x.1.length≤4194304,fun x=> ⟨.tup [An (Ft x.1 x.2).1,.bool (Ft x.1 x.2).2],[]⟩,fun x y _ _ h=> by
 obtain ⟨a,b⟩:=x
 obtain ⟨c,d⟩:=y
 simp only[List.cons.injEq,AV.sl.injEq,AV.bool.injEq,true_and,and_true] at h
 rw[AN h.1,h.2],fun x h=> ZP x.1 x.2 h⟩
def BX:BH Tryz.prog D:=⟨79,A0,fun x=> [sayA x],fun s=> s.note.Fits,fun x=> ⟨.int .i64 (Am x),[]⟩,fun x y _ _ h=> by
 simp only[List.cons.injEq,and_true] at h
 rw[CJ h],Jj⟩
def Lk:AX:=⟨0,⟨#[]⟩,0,Ah⟩
def Q4:A0:=⟨0,0,0,0,Ah⟩
def Ph (i:List UInt8):AX:=⟨(i.getD 0 0).toNat,⟨⟨(i.take (2+(i.getD 1 0).toNat)).drop 2⟩⟩,Ds (i.drop (2+(i.getD 1 0).toNat)),(Ek (i.drop (6+(i.getD 1 0).toNat)) (decide ((i.getD 0 0).toNat=4))).1⟩
def Gd (l:List UInt8):AX×Int×Int:=
 if (AC l).2.2≠0 then (Lk,0,(AC l).2.2)
 else if (AC l).1.length < 6+((AC l).1.getD 1 0).toNat then (Lk,0,2)
 else if (Ek ((AC l).1.drop (6+((AC l).1.getD 1 0).toNat)) (decide (((AC l).1.getD 0 0).toNat=4))).2≠0 then (Lk,0,2)
 else if Ap (Ph (AC l).1)≠0 then (Lk,0,Ap (Ph (AC l).1))
 else (Ph (AC l).1,(AC l).2.1,0)
theorem G2 (l:List UInt8):(AC l).1.length≤398:=by
 unfold AC
 split
 ·simp
 split
 ·simp
 split
 ·simp
 ·simp only[List.length_drop,List.length_take];omega
theorem VV (l:List UInt8) (b:Bool):(Ek l b).2=0∨(Ek l b).2=2:=by
 unfold Ek
 split
 ·split
  ·exact .inr rfl
  ·exact .inl rfl
 ·split
  ·exact .inr rfl
  ·exact .inl rfl
theorem Sl (l:List UInt8) (b:Bool):(Ek l b).1.Fits:=by
 unfold Ek
 split
 ·split <;> exact CV
 ·split
  ·exact CV
  ·exact Qn l
theorem V2 (i:List UInt8) (h:i.length≤398):(Ph i).Fits:=by
 refine ⟨?_,Sl _ _⟩
 show ((i.take _).drop 2).toArray.size≤_
 simp only[List.size_toArray,List.length_drop,List.length_take]
 omega
def IZ:Nat→Lo:=fun id=> match id with | 7=> {uo:=[14],un:=[9],ex:=[13]} | 8=> {uo:=[12],un:=[9],ex:=[4,5,6,7,8,9,11]} | _=> {}
theorem Abm (l:List UInt8) (hl:l.length≤4194304):A8 Tryz.prog D 119 [.sl 1 (l.map Ac)] ⟨.tup [askA (Gd l).1,.int .i64 (Gd l).2.1,.int .i64 (Gd l).2.2],[]⟩:=by
 have hok:Cl Tryz.prog D (Ao [CR,CS,Ei,Bq]):=Ar _
 have g1:Ao [CR,CS,Ei,Bq] 173 [.sl 1 (l.map Ac)]=some ⟨.tup [.sl 1 ((AC l).1.map Ac),.int .i64 (AC l).2.1,.int .i64 (AC l).2.2],[]⟩:=AQ (E:=CR) (T:=[CR,CS,Ei,Bq]) (i:=0) rfl (by decide) l (show l.length≤8388608 by omega) rfl rfl
 have g2:∀m:List UInt8,4≤m.length→m.length≤8388608→Ao [CR,CS,Ei,Bq] 174 [.sl 1 (m.map Ac)]=some ⟨.int .i64 (Ds m),[]⟩:=fun m h h'=> AQ (E:=CS) (T:=[CR,CS,Ei,Bq]) (i:=1) rfl (by decide) m ⟨h,h'⟩ rfl rfl
 have g3:∀(m:List UInt8) (b:Bool),m.length≤4194304→Ao [CR,CS,Ei,Bq] 175 [.sl 1 (m.map Ac),.bool b]=some ⟨.tup [An (Ek m b).1,.int .i64 (Ek m b).2],[]⟩:=fun m b h=> AQ (E:=Ei) (T:=[CR,CS,Ei,Bq]) (i:=2) rfl (by decide) (m,b) h rfl rfl
 have g4:∀a:AX,a.Fits→Ao [CR,CS,Ei,Bq] 78 [askA a]=some ⟨.int .i64 (Ap a),[]⟩:=fun a h=> AQ (E:=Bq) (T:=[CR,CS,Ei,Bq]) (i:=3) rfl (by decide) a h rfl rfl
 have hfl:=G2 l
 have g5:=g4 _ (V2 _ hfl)
 clear g4
 generalize Ao [CR,CS,Ei,Bq]=G at *
 simp only[An,askA,Ph] at g1 g2 g3 g5
 have hcon:∀r,r=Gd l→A8 Tryz.prog D 119 [.sl 1 (l.map Ac)] ⟨.tup [askA r.1,.int .i64 r.2.1,.int .i64 r.2.2],[]⟩:=by
  intro r hr
  refine Ch (G:=G) (rs:=[(2,some 48),(3,none),(4,none)]) mixed tok hok Tryz.func119 rfl (by decide) Tryz.results119 (by decide) rfl Tryz.ntmps119 (by simp) (by simp[Af,Ad]) fun X hP hD hG' hX=> Al hX IZ _ _ _ ?_
  simp only[AU,Bz]
  unfold Gd at hr
  generalize AC l=f at *
  obtain ⟨i,n,e⟩:=f
  simp only at hr g1 g5 hfl
  have ha:=(i.getD 0 0).toNat_lt
  have hb:=(i.getD 1 0).toNat_lt
  simp (disch:=((try simp only[List.length_drop,List.length_take,List.length_append,List.length_cons,List.length_nil,List.length_map]);omega)) only[go_sem,Nat.reduceLeDiff,reduceCtorEq,Nat.reduceAdd,Nat.reduceSub,Nat.reduceMul,Nat.reduceLT,Nat.reduceEqDiff,Int.reduceEq,Int.reduceLE,Int.reduceLT,Int.reducePow,Int.reduceMul,Int.reduceToNat,Int.reduceNeg,↓reduceIte,←List.map_take,←List.map_drop,hD,hG',IZ,g1,g2,g3,g5]
  refine Ai (fun h=> ?_) (fun h=> ?_)
  ·simp (disch:=((try simp only[List.length_drop,List.length_take,List.length_append,List.length_cons,List.length_nil,List.length_map]);omega)) only[go_sem,Nat.reduceLeDiff,reduceCtorEq,Nat.reduceAdd,Nat.reduceSub,Nat.reduceMul,Nat.reduceLT,Nat.reduceEqDiff,Int.reduceEq,Int.reduceLE,Int.reduceLT,Int.reducePow,Int.reduceMul,Int.reduceToNat,Int.reduceNeg,↓reduceIte,←List.map_take,←List.map_drop,hD,hG',IZ,g1,g2,g3,g5,Aa]
   refine ⟨[],[],rfl,rfl,?_,?_⟩ <;> simp only[AW,AO,DX,Df,ES,D9,fz,Hq,plain,A3,List.cons_append,List.nil_append,Eo,En,AT,cov,Aw,AF,get,blk,jn,Az,Cg,Ad,Af,Option.map_some,Option.map_none,Option.getD_some,Option.getD_none,Dz,B9,B9.resT',ET,Nat.reduceEqDiff,↓reduceIte,if_true,if_false,and_true,true_and,and_self,Nat.reduceAdd,List.map_cons,List.map_nil,ite_true,ite_false,reduceCtorEq,An,askA]
   clear g1 g2 g3 g5 hok hP hD hG' hX
   grind [Lk,Ah]
  have he:e=0:=by simpa using h
  subst he
  by_cases h6:i.length < 6
  ·have hd6:decide ((i.length:Int) < 6)=true:=by simp;omega
   simp (disch:=((try simp only[List.length_drop,List.length_take,List.length_append,List.length_cons,List.length_nil,List.length_map]);omega)) only[go_sem,Nat.reduceLeDiff,reduceCtorEq,Nat.reduceAdd,Nat.reduceSub,Nat.reduceMul,Nat.reduceLT,Nat.reduceEqDiff,Int.reduceEq,Int.reduceLE,Int.reduceLT,Int.reducePow,Int.reduceMul,Int.reduceToNat,Int.reduceNeg,↓reduceIte,←List.map_take,←List.map_drop,hD,hG',IZ,g1,hd6]
   refine Au.mk [(3,false)] ?_
   simp (disch:=((try simp only[List.length_drop,List.length_take,List.length_append,List.length_cons,List.length_nil,List.length_map]);omega)) only[go_sem,Nat.reduceLeDiff,reduceCtorEq,Nat.reduceAdd,Nat.reduceSub,Nat.reduceMul,Nat.reduceLT,Nat.reduceEqDiff,Int.reduceEq,Int.reduceLE,Int.reduceLT,Int.reducePow,Int.reduceMul,Int.reduceToNat,Int.reduceNeg,↓reduceIte,←List.map_take,←List.map_drop,hD,hG',IZ,g1,hd6,AD,Av,Aa]
   refine ⟨[],[],rfl,rfl,?_,?_⟩ <;> simp only[AW,AO,DX,Df,ES,D9,fz,Hq,plain,A3,List.cons_append,List.nil_append,Eo,En,AT,cov,Aw,AF,get,blk,jn,Az,Cg,Ad,Af,Option.map_some,Option.map_none,Option.getD_some,Option.getD_none,Dz,B9,B9.resT',ET,Nat.reduceEqDiff,↓reduceIte,if_true,if_false,and_true,true_and,and_self,Nat.reduceAdd,List.map_cons,List.map_nil,ite_true,ite_false,reduceCtorEq,An,askA]
   clear g1 g2 g3 g5 hok hP hD hG' hX
   rw[hr,if_neg (by decide),if_pos (by omega)]
   simp[Lk,Ah]
  have hd6:decide ((i.length:Int) < 6)=false:=by simp;omega
  have t2:(2+((i.getD 1 0).toNat:Int)).toNat=2+(i.getD 1 0).toNat:=by omega
  have t6:(2+((i.getD 1 0).toNat:Int)+4).toNat=6+(i.getD 1 0).toNat:=by omega
  have hkb:(((i.getD 0 0).toNat:Int)==4)=decide ((i.getD 0 0).toNat=4):=by rw[Bool.eq_iff_iff];simp;omega
  simp (disch:=((try simp only[List.length_drop,List.length_take,List.length_append,List.length_cons,List.length_nil,List.length_map]);omega)) only[go_sem,Nat.reduceLeDiff,reduceCtorEq,Nat.reduceAdd,Nat.reduceSub,Nat.reduceMul,Nat.reduceLT,Nat.reduceEqDiff,Int.reduceEq,Int.reduceLE,Int.reduceLT,Int.reducePow,Int.reduceMul,Int.reduceToNat,Int.reduceNeg,↓reduceIte,←List.map_take,←List.map_drop,hD,hG',IZ,g1,hd6]
  refine Au.mk [] ?_
  simp (disch:=((try simp only[List.length_drop,List.length_take,List.length_append,List.length_cons,List.length_nil,List.length_map]);omega)) only[go_sem,Nat.reduceLeDiff,reduceCtorEq,Nat.reduceAdd,Nat.reduceSub,Nat.reduceMul,Nat.reduceLT,Nat.reduceEqDiff,Int.reduceEq,Int.reduceLE,Int.reduceLT,Int.reducePow,Int.reduceMul,Int.reduceToNat,Int.reduceNeg,↓reduceIte,←List.map_take,←List.map_drop,hD,hG',IZ,g1,hd6,AD,Av]
  refine ⟨by omega,Ai (fun h=> ?_) (fun h=> ?_)⟩
  ·simp (disch:=((try simp only[List.length_drop,List.length_take,List.length_append,List.length_cons,List.length_nil,List.length_map]);omega)) only[go_sem,Nat.reduceLeDiff,reduceCtorEq,Nat.reduceAdd,Nat.reduceSub,Nat.reduceMul,Nat.reduceLT,Nat.reduceEqDiff,Int.reduceEq,Int.reduceLE,Int.reduceLT,Int.reducePow,Int.reduceMul,Int.reduceToNat,Int.reduceNeg,↓reduceIte,←List.map_take,←List.map_drop,hD,hG',IZ,g1,hd6,AD,Av,Aa]
   refine ⟨[],[],rfl,rfl,?_,?_⟩ <;> simp only[AW,AO,DX,Df,ES,D9,fz,Hq,plain,A3,List.cons_append,List.nil_append,Eo,En,AT,cov,Aw,AF,get,blk,jn,Az,Cg,Ad,Af,Option.map_some,Option.map_none,Option.getD_some,Option.getD_none,Dz,B9,B9.resT',ET,Nat.reduceEqDiff,↓reduceIte,if_true,if_false,and_true,true_and,and_self,Nat.reduceAdd,List.map_cons,List.map_nil,ite_true,ite_false,reduceCtorEq,An,askA]
   clear g1 g2 g3 g5 hok hP hD hG' hX
   rw[decide_eq_true_eq] at h
   rw[hr,if_neg (by decide),if_pos (by omega)]
   simp[Lk,Ah]
  rw[decide_eq_false_iff_not] at h
  simp (disch:=((try simp only[List.length_drop,List.length_take,List.length_append,List.length_cons,List.length_nil,List.length_map]);omega)) only[go_sem,Nat.reduceLeDiff,reduceCtorEq,Nat.reduceAdd,Nat.reduceSub,Nat.reduceMul,Nat.reduceLT,Nat.reduceEqDiff,Int.reduceEq,Int.reduceLE,Int.reduceLT,Int.reducePow,Int.reduceMul,Int.reduceToNat,Int.reduceNeg,↓reduceIte,←List.map_take,←List.map_drop,hD,hG',IZ,g1,g2,g3,g5,AD,Av,t2,t6,hkb,List.take_length]
  ((try and_intros);all_goals (try first | omega | decide | (simp;done) | (simp only[List.length_append,List.length_cons,List.length_nil,List.length_map];omega)))
  iterate 24 (all_goals (try (first | (refine Au.mk [] ?_;simp (disch:=((try simp only[List.length_drop,List.length_take,List.length_append,List.length_cons,List.length_nil,List.length_map]);omega)) only[go_sem,Nat.reduceLeDiff,reduceCtorEq,Nat.reduceAdd,Nat.reduceSub,Nat.reduceMul,Nat.reduceLT,Nat.reduceEqDiff,Int.reduceEq,Int.reduceLE,Int.reduceLT,Int.reducePow,Int.reduceMul,Int.reduceToNat,Int.reduceNeg,↓reduceIte,←List.map_take,←List.map_drop,hD,hG',IZ,g5]) | (refine Ai (fun h=> ?_) (fun h=> ?_) <;> ((try simp only[decide_eq_true_eq,decide_eq_false_iff_not,Int.not_lt,Int.not_le,Bool.not_eq_true] at h);simp (disch:=((try simp only[List.length_drop,List.length_take,List.length_append,List.length_cons,List.length_nil,List.length_map]);omega)) only[go_sem,Nat.reduceLeDiff,reduceCtorEq,Nat.reduceAdd,Nat.reduceSub,Nat.reduceMul,Nat.reduceLT,Nat.reduceEqDiff,Int.reduceEq,Int.reduceLE,Int.reduceLT,Int.reducePow,Int.reduceMul,Int.reduceToNat,Int.reduceNeg,↓reduceIte,←List.map_take,←List.map_drop,hD,hG',IZ,g5])) | and_intros)))
  all_goals (try (first | decide | omega | (first | (intro hk;refine ⟨hk,fun h2=> ?_⟩;first | (rw[hk,h2];rfl) | (rw[hk,decide_eq_false h2];rfl)) | (intro hk;rw[decide_eq_false hk];rfl) | (intro hk;rw[hk];rfl))))
  all_goals (simp (disch:=((try simp only[List.length_drop,List.length_take,List.length_append,List.length_cons,List.length_nil,List.length_map]);omega)) only[go_sem,Nat.reduceLeDiff,reduceCtorEq,Nat.reduceAdd,Nat.reduceSub,Nat.reduceMul,Nat.reduceLT,Nat.reduceEqDiff,Int.reduceEq,Int.reduceLE,Int.reduceLT,Int.reducePow,Int.reduceMul,Int.reduceToNat,Int.reduceNeg,↓reduceIte,←List.map_take,←List.map_drop,hD,hG',IZ,g5,Aa])
  all_goals (refine ⟨[],[],rfl,rfl,?_,?_⟩ <;> simp only[AW,AO,DX,Df,ES,D9,fz,Hq,plain,A3,List.cons_append,List.nil_append,Eo,En,AT,cov,Aw,AF,get,blk,jn,Az,Cg,Ad,Af,Option.map_some,Option.map_none,Option.getD_some,Option.getD_none,Dz,B9,B9.resT',ET,Nat.reduceEqDiff,↓reduceIte,if_true,if_false,and_true,true_and,and_self,Nat.reduceAdd,List.map_cons,List.map_nil,ite_true,ite_false,reduceCtorEq,An,askA])
  all_goals clear g1 g2 g3 g5 hok hP hD hG' hX
  all_goals (rw[if_neg (by decide),if_neg (by omega)] at hr)
  all_goals (have htl:=VV (i.drop (6+(i.getD 1 0).toNat)) (decide ((i.getD 0 0).toNat=4)))
  all_goals (simp only[Ph] at hr)
  all_goals (clear t2 t6 hkb hd6 h6 hb ha hfl hl)
  all_goals grind [Lk,Ah]
 exact hcon _ rfl
theorem RO (l:List UInt8) (k:Nat):Ds ((l.take (k+4)).drop k)=Ds (l.drop k):=by
 have h:∀j,j < 4→((l.take (k+4)).drop k).getD j 0=(l.drop k).getD j 0:=fun j hj=> by
  rw[List.getD_eq_getElem?_getD,List.getD_eq_getElem?_getD,List.getElem?_drop,List.getElem?_drop,List.getElem?_take,if_pos (by omega)]
 unfold Ds RB
 rw[h 0 (by omega),h 1 (by omega),h 2 (by omega),h 3 (by omega)]
theorem Sj (l:List UInt8) (b:Bool):((Ft l b).2=true→Ek l b=((Ft l b).1,0))∧((Ft l b).2=false→(Ek l b).2=2):=by
 unfold Ft Ek
 cases b
 ·by_cases h:l.length=0
  ·simp[h]
  ·have:0 < l.length:=by omega
   simp[h,this]
 ·by_cases h:(A5 l).2.2=0∧(A5 l).2.1=l.length
  ·simp[h]
  ·have:(A5 l).2.2≠0∨(A5 l).2.1≠l.length:=by omega
   simp only[Bool.true_eq_false,if_false,if_pos this]
   simp[h]
theorem Si (l:List UInt8) (b:Bool):(Ft l b).1.Fits:=by
 unfold Ft
 split
 ·exact CV
 ·exact Qn l
def BR:Nat→Lo:=fun id=> match id with | 7=> {uo:=[16],un:=[9],ex:=[15]} | 8=> {uo:=[12],un:=[10],ex:=[11]} | _=> {}
theorem SF (l:List UInt8) (hl:l.length≤4194304):A8 Tryz.prog D 86 [.sl 1 (l.map Ac)] ⟨.tup [askA (Gd l).1,.int .i64 (Gd l).2.1,.int .i64 (Gd l).2.2],[]⟩:=by
 have hok:Cl Tryz.prog D (Ao [BC,GL,Eg,AK]):=Ar _
 have g1:Ao [BC,GL,Eg,AK] 141 [.sl 1 (l.map Ac)]=some ⟨.tup [.sl 1 ((AC l).1.map Ac),.int .i64 (AC l).2.1,.int .i64 (AC l).2.2],[]⟩:=AQ (E:=BC) (T:=[BC,GL,Eg,AK]) (i:=0) rfl (by decide) l (show l.length≤8388608 by omega) rfl rfl
 have g2:∀m:List UInt8,4≤m.length→m.length≤8388608→Ao [BC,GL,Eg,AK] 114 [.sl 1 (m.map Ac)]=some ⟨.int .i64 (Ds m),[]⟩:=fun m h h'=> AQ (E:=GL) (T:=[BC,GL,Eg,AK]) (i:=1) rfl (by decide) m ⟨h,h'⟩ rfl rfl
 have g3:∀(m:List UInt8) (b:Bool),m.length≤4194304→Ao [BC,GL,Eg,AK] 142 [.sl 1 (m.map Ac),.bool b]=some ⟨.tup [An (Ft m b).1,.bool (Ft m b).2],[]⟩:=fun m b h=> AQ (E:=Eg) (T:=[BC,GL,Eg,AK]) (i:=2) rfl (by decide) (m,b) h rfl rfl
 have g4:∀a:AX,a.Fits→Ao [BC,GL,Eg,AK] 41 [askA a]=some ⟨.int .i64 (Ap a),[]⟩:=fun a h=> AQ (E:=AK) (T:=[BC,GL,Eg,AK]) (i:=3) rfl (by decide) a h rfl rfl
 have hfl:=G2 l
 have g5:=g4 ⟨((AC l).1.getD 0 0).toNat,⟨⟨((AC l).1.take (((AC l).1.getD 1 0).toNat+2)).drop 2⟩⟩,Ds (((AC l).1.take (((AC l).1.getD 1 0).toNat+2+4)).drop (((AC l).1.getD 1 0).toNat+2)),(Ft ((AC l).1.drop (((AC l).1.getD 1 0).toNat+2+4)) (decide (((AC l).1.getD 0 0).toNat=4))).1⟩ ⟨by
  show (((AC l).1.take _).drop 2).toArray.size≤_
  simp only[List.size_toArray,List.length_drop,List.length_take]
  omega,Si _ _⟩
 clear g4
 generalize Ao [BC,GL,Eg,AK]=G at *
 simp only[An,askA,Ph] at g1 g2 g3 g5
 have hcon:∀r,r=Gd l→A8 Tryz.prog D 86 [.sl 1 (l.map Ac)] ⟨.tup [askA r.1,.int .i64 r.2.1,.int .i64 r.2.2],[]⟩:=by
  intro r hr
  refine Ch (G:=G) (rs:=[(2,some 48),(3,none),(4,none)]) mixed tok hok Tryz.func86 rfl (by decide) Tryz.results86 (by decide) rfl Tryz.ntmps86 (by simp) (by simp[Af,Ad]) fun X hP hD hG' hX=> Al hX BR _ _ _ ?_
  simp only[AU,Bz]
  unfold Gd at hr
  generalize AC l=f at *
  obtain ⟨i,n,e⟩:=f
  simp only at hr g1 g5 hfl
  have ha:=(i.getD 0 0).toNat_lt
  have hb:=(i.getD 1 0).toNat_lt
  simp (disch:=((try simp only[List.length_drop,List.length_take,List.length_append,List.length_cons,List.length_nil,List.length_map]);omega)) only[go_sem,Nat.reduceLeDiff,reduceCtorEq,Nat.reduceAdd,Nat.reduceSub,Nat.reduceMul,Nat.reduceLT,Nat.reduceEqDiff,Int.reduceEq,Int.reduceLE,Int.reduceLT,Int.reducePow,Int.reduceMul,Int.reduceToNat,Int.reduceNeg,↓reduceIte,←List.map_take,←List.map_drop,hD,hG',BR,g1,g2,g3,g5]
  refine Ai (fun h=> ?_) (fun h=> ?_)
  ·simp (disch:=((try simp only[List.length_drop,List.length_take,List.length_append,List.length_cons,List.length_nil,List.length_map]);omega)) only[go_sem,Nat.reduceLeDiff,reduceCtorEq,Nat.reduceAdd,Nat.reduceSub,Nat.reduceMul,Nat.reduceLT,Nat.reduceEqDiff,Int.reduceEq,Int.reduceLE,Int.reduceLT,Int.reducePow,Int.reduceMul,Int.reduceToNat,Int.reduceNeg,↓reduceIte,←List.map_take,←List.map_drop,hD,hG',BR,g1,g2,g3,g5,Aa]
   refine ⟨[],[],rfl,rfl,?_,?_⟩ <;> simp only[AW,AO,DX,Df,ES,D9,fz,Hq,plain,A3,List.cons_append,List.nil_append,Eo,En,AT,cov,Aw,AF,get,blk,jn,Az,Cg,Ad,Af,Option.map_some,Option.map_none,Option.getD_some,Option.getD_none,Dz,B9,B9.resT',ET,Nat.reduceEqDiff,↓reduceIte,if_true,if_false,and_true,true_and,and_self,Nat.reduceAdd,List.map_cons,List.map_nil,ite_true,ite_false,reduceCtorEq,An,askA]
   clear g1 g2 g3 g5 hok hP hD hG' hX
   grind [Lk,Ah]
  have he:e=0:=by simpa using h
  subst he
  by_cases h6:i.length < 6
  ·have hd6:decide ((i.length:Int) < 6)=true:=by simp;omega
   simp (disch:=((try simp only[List.length_drop,List.length_take,List.length_append,List.length_cons,List.length_nil,List.length_map]);omega)) only[go_sem,Nat.reduceLeDiff,reduceCtorEq,Nat.reduceAdd,Nat.reduceSub,Nat.reduceMul,Nat.reduceLT,Nat.reduceEqDiff,Int.reduceEq,Int.reduceLE,Int.reduceLT,Int.reducePow,Int.reduceMul,Int.reduceToNat,Int.reduceNeg,↓reduceIte,←List.map_take,←List.map_drop,hD,hG',BR,g1,hd6]
   refine Au.mk [(3,false)] ?_
   simp (disch:=((try simp only[List.length_drop,List.length_take,List.length_append,List.length_cons,List.length_nil,List.length_map]);omega)) only[go_sem,Nat.reduceLeDiff,reduceCtorEq,Nat.reduceAdd,Nat.reduceSub,Nat.reduceMul,Nat.reduceLT,Nat.reduceEqDiff,Int.reduceEq,Int.reduceLE,Int.reduceLT,Int.reducePow,Int.reduceMul,Int.reduceToNat,Int.reduceNeg,↓reduceIte,←List.map_take,←List.map_drop,hD,hG',BR,g1,hd6,AD,Av,Aa]
   refine ⟨[],[],rfl,rfl,?_,?_⟩ <;> simp only[AW,AO,DX,Df,ES,D9,fz,Hq,plain,A3,List.cons_append,List.nil_append,Eo,En,AT,cov,Aw,AF,get,blk,jn,Az,Cg,Ad,Af,Option.map_some,Option.map_none,Option.getD_some,Option.getD_none,Dz,B9,B9.resT',ET,Nat.reduceEqDiff,↓reduceIte,if_true,if_false,and_true,true_and,and_self,Nat.reduceAdd,List.map_cons,List.map_nil,ite_true,ite_false,reduceCtorEq,An,askA]
   clear g1 g2 g3 g5 hok hP hD hG' hX
   rw[hr,if_neg (by decide),if_pos (by omega)]
   simp[Lk,Ah]
  have hd6:decide ((i.length:Int) < 6)=false:=by simp;omega
  have t2:(((i.getD 1 0).toNat:Int)+2).toNat=(i.getD 1 0).toNat+2:=by omega
  have t6:(((i.getD 1 0).toNat:Int)+2+4).toNat=(i.getD 1 0).toNat+2+4:=by omega
  have hkb:(((i.getD 0 0).toNat:Int)==4)=decide ((i.getD 0 0).toNat=4):=by rw[Bool.eq_iff_iff];simp;omega
  simp (disch:=((try simp only[List.length_drop,List.length_take,List.length_append,List.length_cons,List.length_nil,List.length_map]);omega)) only[go_sem,Nat.reduceLeDiff,reduceCtorEq,Nat.reduceAdd,Nat.reduceSub,Nat.reduceMul,Nat.reduceLT,Nat.reduceEqDiff,Int.reduceEq,Int.reduceLE,Int.reduceLT,Int.reducePow,Int.reduceMul,Int.reduceToNat,Int.reduceNeg,↓reduceIte,←List.map_take,←List.map_drop,hD,hG',BR,g1,hd6]
  refine Au.mk [] ?_
  simp (disch:=((try simp only[List.length_drop,List.length_take,List.length_append,List.length_cons,List.length_nil,List.length_map]);omega)) only[go_sem,Nat.reduceLeDiff,reduceCtorEq,Nat.reduceAdd,Nat.reduceSub,Nat.reduceMul,Nat.reduceLT,Nat.reduceEqDiff,Int.reduceEq,Int.reduceLE,Int.reduceLT,Int.reducePow,Int.reduceMul,Int.reduceToNat,Int.reduceNeg,↓reduceIte,←List.map_take,←List.map_drop,hD,hG',BR,g1,hd6,AD,Av]
  refine ⟨by omega,Ai (fun h=> ?_) (fun h=> ?_)⟩
  ·simp (disch:=((try simp only[List.length_drop,List.length_take,List.length_append,List.length_cons,List.length_nil,List.length_map]);omega)) only[go_sem,Nat.reduceLeDiff,reduceCtorEq,Nat.reduceAdd,Nat.reduceSub,Nat.reduceMul,Nat.reduceLT,Nat.reduceEqDiff,Int.reduceEq,Int.reduceLE,Int.reduceLT,Int.reducePow,Int.reduceMul,Int.reduceToNat,Int.reduceNeg,↓reduceIte,←List.map_take,←List.map_drop,hD,hG',BR,g1,hd6,AD,Av,Aa]
   refine ⟨[],[],rfl,rfl,?_,?_⟩ <;> simp only[AW,AO,DX,Df,ES,D9,fz,Hq,plain,A3,List.cons_append,List.nil_append,Eo,En,AT,cov,Aw,AF,get,blk,jn,Az,Cg,Ad,Af,Option.map_some,Option.map_none,Option.getD_some,Option.getD_none,Dz,B9,B9.resT',ET,Nat.reduceEqDiff,↓reduceIte,if_true,if_false,and_true,true_and,and_self,Nat.reduceAdd,List.map_cons,List.map_nil,ite_true,ite_false,reduceCtorEq,An,askA]
   clear g1 g2 g3 g5 hok hP hD hG' hX
   rw[decide_eq_true_eq] at h
   rw[hr,if_neg (by decide),if_pos (by omega)]
   simp[Lk,Ah]
  rw[decide_eq_false_iff_not] at h
  simp (disch:=((try simp only[List.length_drop,List.length_take,List.length_append,List.length_cons,List.length_nil,List.length_map]);omega)) only[go_sem,Nat.reduceLeDiff,reduceCtorEq,Nat.reduceAdd,Nat.reduceSub,Nat.reduceMul,Nat.reduceLT,Nat.reduceEqDiff,Int.reduceEq,Int.reduceLE,Int.reduceLT,Int.reducePow,Int.reduceMul,Int.reduceToNat,Int.reduceNeg,↓reduceIte,←List.map_take,←List.map_drop,hD,hG',BR,g1,g2,g3,g5,AD,Av,t2,t6,hkb,List.take_length]
  ((try and_intros);all_goals (try first | omega | decide | (simp;done) | (simp only[List.length_append,List.length_cons,List.length_nil,List.length_map];omega)))
  iterate 24 (all_goals (try (first | (refine Au.mk [] ?_;simp (disch:=((try simp only[List.length_drop,List.length_take,List.length_append,List.length_cons,List.length_nil,List.length_map]);omega)) only[go_sem,Nat.reduceLeDiff,reduceCtorEq,Nat.reduceAdd,Nat.reduceSub,Nat.reduceMul,Nat.reduceLT,Nat.reduceEqDiff,Int.reduceEq,Int.reduceLE,Int.reduceLT,Int.reducePow,Int.reduceMul,Int.reduceToNat,Int.reduceNeg,↓reduceIte,←List.map_take,←List.map_drop,hD,hG',BR,g5]) | (refine Ai (fun h=> ?_) (fun h=> ?_) <;> ((try simp only[decide_eq_true_eq,decide_eq_false_iff_not,Int.not_lt,Int.not_le,Bool.not_eq_true] at h);simp (disch:=((try simp only[List.length_drop,List.length_take,List.length_append,List.length_cons,List.length_nil,List.length_map]);omega)) only[go_sem,Nat.reduceLeDiff,reduceCtorEq,Nat.reduceAdd,Nat.reduceSub,Nat.reduceMul,Nat.reduceLT,Nat.reduceEqDiff,Int.reduceEq,Int.reduceLE,Int.reduceLT,Int.reducePow,Int.reduceMul,Int.reduceToNat,Int.reduceNeg,↓reduceIte,←List.map_take,←List.map_drop,hD,hG',BR,g5])) | and_intros)))
  all_goals (try (first | decide | omega | (first | (intro hk;refine ⟨hk,fun h2=> ?_⟩;first | (rw[hk,h2];rfl) | (rw[hk,decide_eq_false h2];rfl)) | (intro hk;rw[decide_eq_false hk];rfl) | (intro hk;rw[hk];rfl))))
  all_goals (simp (disch:=((try simp only[List.length_drop,List.length_take,List.length_append,List.length_cons,List.length_nil,List.length_map]);omega)) only[go_sem,Nat.reduceLeDiff,reduceCtorEq,Nat.reduceAdd,Nat.reduceSub,Nat.reduceMul,Nat.reduceLT,Nat.reduceEqDiff,Int.reduceEq,Int.reduceLE,Int.reduceLT,Int.reducePow,Int.reduceMul,Int.reduceToNat,Int.reduceNeg,↓reduceIte,←List.map_take,←List.map_drop,hD,hG',BR,g5,Aa])
  all_goals (refine ⟨[],[],rfl,rfl,?_,?_⟩ <;> simp only[AW,AO,DX,Df,ES,D9,fz,Hq,plain,A3,List.cons_append,List.nil_append,Eo,En,AT,cov,Aw,AF,get,blk,jn,Az,Cg,Ad,Af,Option.map_some,Option.map_none,Option.getD_some,Option.getD_none,Dz,B9,B9.resT',ET,Nat.reduceEqDiff,↓reduceIte,if_true,if_false,and_true,true_and,and_self,Nat.reduceAdd,List.map_cons,List.map_nil,ite_true,ite_false,reduceCtorEq,An,askA])
  all_goals clear g1 g2 g3 g5 hok hP hD hG' hX
  all_goals (rw[if_neg (by decide),if_neg (by omega)] at hr)
  all_goals (have hrt:=Sj (i.drop (6+(i.getD 1 0).toNat)) (decide ((i.getD 0 0).toNat=4)))
  all_goals (simp only[Ph,Nat.add_comm 2 (i.getD 1 0).toNat,show 6+(i.getD 1 0).toNat=(i.getD 1 0).toNat+2+4 from by omega,RO] at hr hrt h ⊢)
  all_goals (clear t2 t6 hkb hd6 h6 hb ha hfl hl)
  all_goals grind [Lk,Ah]
 exact hcon _ rfl
def PD (i:List UInt8):A0:=⟨(i.getD 0 0).toNat,Ds (i.drop 1),(i.getD 5 0).toNat,(i.getD 6 0).toNat,(Ek (i.drop 7) (decide ((i.getD 0 0).toNat=2))).1⟩
def Gp (l:List UInt8):A0×Int×Int:=
 if (AC l).2.2≠0 then (Q4,0,(AC l).2.2)
 else if (AC l).1.length < 7 then (Q4,0,2)
 else if (Ek ((AC l).1.drop 7) (decide (((AC l).1.getD 0 0).toNat=2))).2≠0 then (Q4,0,2)
 else if Am (PD (AC l).1)≠0 then (Q4,0,Am (PD (AC l).1))
 else (PD (AC l).1,(AC l).2.1,0)
def K9:Nat→Lo:=fun id=> match id with | 6=> {uo:=[17],un:=[8],ex:=[16]} | 7=> {uo:=[10],un:=[8],ex:=[2,3,4,5,6,7,9]} | _=> {}
theorem Abr (l:List UInt8) (hl:l.length≤4194304):A8 Tryz.prog D 121 [.sl 1 (l.map Ac)] ⟨.tup [sayA (Gp l).1,.int .i64 (Gp l).2.1,.int .i64 (Gp l).2.2],[]⟩:=by
 have hok:Cl Tryz.prog D (Ao [CR,CS,Ei,BX]):=Ar _
 have g1:Ao [CR,CS,Ei,BX] 173 [.sl 1 (l.map Ac)]=some ⟨.tup [.sl 1 ((AC l).1.map Ac),.int .i64 (AC l).2.1,.int .i64 (AC l).2.2],[]⟩:=AQ (E:=CR) (T:=[CR,CS,Ei,BX]) (i:=0) rfl (by decide) l (show l.length≤8388608 by omega) rfl rfl
 have g2:∀m:List UInt8,4≤m.length→m.length≤8388608→Ao [CR,CS,Ei,BX] 174 [.sl 1 (m.map Ac)]=some ⟨.int .i64 (Ds m),[]⟩:=fun m h h'=> AQ (E:=CS) (T:=[CR,CS,Ei,BX]) (i:=1) rfl (by decide) m ⟨h,h'⟩ rfl rfl
 have g3:∀(m:List UInt8) (b:Bool),m.length≤4194304→Ao [CR,CS,Ei,BX] 175 [.sl 1 (m.map Ac),.bool b]=some ⟨.tup [An (Ek m b).1,.int .i64 (Ek m b).2],[]⟩:=fun m b h=> AQ (E:=Ei) (T:=[CR,CS,Ei,BX]) (i:=2) rfl (by decide) (m,b) h rfl rfl
 have g4:∀a:A0,a.note.Fits→Ao [CR,CS,Ei,BX] 79 [sayA a]=some ⟨.int .i64 (Am a),[]⟩:=fun a h=> AQ (E:=BX) (T:=[CR,CS,Ei,BX]) (i:=3) rfl (by decide) a h rfl rfl
 have hfl:=G2 l
 have g5:=g4 (PD (AC l).1) (Sl _ _)
 clear g4
 generalize Ao [CR,CS,Ei,BX]=G at *
 simp only[An,sayA,PD] at g1 g2 g3 g5
 have hcon:∀r,r=Gp l→A8 Tryz.prog D 121 [.sl 1 (l.map Ac)] ⟨.tup [sayA r.1,.int .i64 r.2.1,.int .i64 r.2.2],[]⟩:=by
  intro r hr
  refine Ch (G:=G) (rs:=[(2,some 53),(3,none),(4,none)]) mixed tok hok Tryz.func121 rfl (by decide) Tryz.results121 (by decide) rfl Tryz.ntmps121 (by simp) (by simp[Af,Ad]) fun X hP hD hG' hX=> Al hX K9 _ _ _ ?_
  simp only[AU,Bz]
  unfold Gp at hr
  generalize AC l=f at *
  obtain ⟨i,n,e⟩:=f
  simp only at hr g1 g5 hfl
  have ha:=(i.getD 0 0).toNat_lt
  have hb:=(i.getD 1 0).toNat_lt
  simp (disch:=((try simp only[List.length_drop,List.length_take,List.length_append,List.length_cons,List.length_nil,List.length_map]);omega)) only[go_sem,Nat.reduceLeDiff,reduceCtorEq,Nat.reduceAdd,Nat.reduceSub,Nat.reduceMul,Nat.reduceLT,Nat.reduceEqDiff,Int.reduceEq,Int.reduceLE,Int.reduceLT,Int.reducePow,Int.reduceMul,Int.reduceToNat,Int.reduceNeg,↓reduceIte,←List.map_take,←List.map_drop,hD,hG',K9,g1,g2,g3,g5]
  refine Ai (fun h=> ?_) (fun h=> ?_)
  ·simp (disch:=((try simp only[List.length_drop,List.length_take,List.length_append,List.length_cons,List.length_nil,List.length_map]);omega)) only[go_sem,Nat.reduceLeDiff,reduceCtorEq,Nat.reduceAdd,Nat.reduceSub,Nat.reduceMul,Nat.reduceLT,Nat.reduceEqDiff,Int.reduceEq,Int.reduceLE,Int.reduceLT,Int.reducePow,Int.reduceMul,Int.reduceToNat,Int.reduceNeg,↓reduceIte,←List.map_take,←List.map_drop,hD,hG',K9,g1,g2,g3,g5,Aa]
   refine ⟨[],[],rfl,rfl,?_,?_⟩ <;> simp only[AW,AO,DX,Df,ES,D9,fz,Hq,plain,A3,List.cons_append,List.nil_append,Eo,En,AT,cov,Aw,AF,get,blk,jn,Az,Cg,Ad,Af,Option.map_some,Option.map_none,Option.getD_some,Option.getD_none,Dz,B9,B9.resT',ET,Nat.reduceEqDiff,↓reduceIte,if_true,if_false,and_true,true_and,and_self,Nat.reduceAdd,List.map_cons,List.map_nil,ite_true,ite_false,reduceCtorEq,An,sayA]
   clear g1 g2 g3 g5 hok hP hD hG' hX
   grind [Q4,Ah]
  have he:e=0:=by simpa using h
  subst he
  have hkb:(((i.getD 0 0).toNat:Int)==2)=decide ((i.getD 0 0).toNat=2):=by rw[Bool.eq_iff_iff];simp;omega
  have t1:(1:Int).toNat=1:=rfl
  have t7:(7:Int).toNat=7:=rfl
  simp (disch:=((try simp only[List.length_drop,List.length_take,List.length_append,List.length_cons,List.length_nil,List.length_map]);omega)) only[go_sem,Nat.reduceLeDiff,reduceCtorEq,Nat.reduceAdd,Nat.reduceSub,Nat.reduceMul,Nat.reduceLT,Nat.reduceEqDiff,Int.reduceEq,Int.reduceLE,Int.reduceLT,Int.reducePow,Int.reduceMul,Int.reduceToNat,Int.reduceNeg,↓reduceIte,←List.map_take,←List.map_drop,hD,hG',K9,g1,AD,Av]
  refine Ai (fun h=> ?_) (fun h=> ?_)
  ·simp (disch:=((try simp only[List.length_drop,List.length_take,List.length_append,List.length_cons,List.length_nil,List.length_map]);omega)) only[go_sem,Nat.reduceLeDiff,reduceCtorEq,Nat.reduceAdd,Nat.reduceSub,Nat.reduceMul,Nat.reduceLT,Nat.reduceEqDiff,Int.reduceEq,Int.reduceLE,Int.reduceLT,Int.reducePow,Int.reduceMul,Int.reduceToNat,Int.reduceNeg,↓reduceIte,←List.map_take,←List.map_drop,hD,hG',K9,g1,AD,Av,Aa]
   refine ⟨[],[],rfl,rfl,?_,?_⟩ <;> simp only[AW,AO,DX,Df,ES,D9,fz,Hq,plain,A3,List.cons_append,List.nil_append,Eo,En,AT,cov,Aw,AF,get,blk,jn,Az,Cg,Ad,Af,Option.map_some,Option.map_none,Option.getD_some,Option.getD_none,Dz,B9,B9.resT',ET,Nat.reduceEqDiff,↓reduceIte,if_true,if_false,and_true,true_and,and_self,Nat.reduceAdd,List.map_cons,List.map_nil,ite_true,ite_false,reduceCtorEq,An,sayA]
   clear g1 g2 g3 g5 hok hP hD hG' hX
   rw[decide_eq_true_eq] at h
   rw[hr,if_neg (by decide),if_pos (by omega)]
   simp[Q4,Ah]
  rw[decide_eq_false_iff_not] at h
  simp (disch:=((try simp only[List.length_drop,List.length_take,List.length_append,List.length_cons,List.length_nil,List.length_map]);omega)) only[go_sem,Nat.reduceLeDiff,reduceCtorEq,Nat.reduceAdd,Nat.reduceSub,Nat.reduceMul,Nat.reduceLT,Nat.reduceEqDiff,Int.reduceEq,Int.reduceLE,Int.reduceLT,Int.reducePow,Int.reduceMul,Int.reduceToNat,Int.reduceNeg,↓reduceIte,←List.map_take,←List.map_drop,hD,hG',K9,g1,g2,g3,g5,AD,Av,t1,t7,hkb,List.take_length]
  ((try and_intros);all_goals (try first | omega | decide | (simp;done) | (simp only[List.length_append,List.length_cons,List.length_nil,List.length_map];omega)))
  iterate 24 (all_goals (try (first | (refine Au.mk [] ?_;simp (disch:=((try simp only[List.length_drop,List.length_take,List.length_append,List.length_cons,List.length_nil,List.length_map]);omega)) only[go_sem,Nat.reduceLeDiff,reduceCtorEq,Nat.reduceAdd,Nat.reduceSub,Nat.reduceMul,Nat.reduceLT,Nat.reduceEqDiff,Int.reduceEq,Int.reduceLE,Int.reduceLT,Int.reducePow,Int.reduceMul,Int.reduceToNat,Int.reduceNeg,↓reduceIte,←List.map_take,←List.map_drop,hD,hG',K9,g5]) | (refine Ai (fun h=> ?_) (fun h=> ?_) <;> ((try simp only[decide_eq_true_eq,decide_eq_false_iff_not,Int.not_lt,Int.not_le,Bool.not_eq_true] at h);simp (disch:=((try simp only[List.length_drop,List.length_take,List.length_append,List.length_cons,List.length_nil,List.length_map]);omega)) only[go_sem,Nat.reduceLeDiff,reduceCtorEq,Nat.reduceAdd,Nat.reduceSub,Nat.reduceMul,Nat.reduceLT,Nat.reduceEqDiff,Int.reduceEq,Int.reduceLE,Int.reduceLT,Int.reducePow,Int.reduceMul,Int.reduceToNat,Int.reduceNeg,↓reduceIte,←List.map_take,←List.map_drop,hD,hG',K9,g5])) | and_intros)))
  all_goals (try (first | decide | omega | (first | (intro hk;refine ⟨hk,fun h2=> ?_⟩;first | (rw[hk,h2];rfl) | (rw[hk,decide_eq_false h2];rfl)) | (intro hk;rw[decide_eq_false hk];rfl) | (intro hk;rw[hk];rfl))))
  all_goals (simp (disch:=((try simp only[List.length_drop,List.length_take,List.length_append,List.length_cons,List.length_nil,List.length_map]);omega)) only[go_sem,Nat.reduceLeDiff,reduceCtorEq,Nat.reduceAdd,Nat.reduceSub,Nat.reduceMul,Nat.reduceLT,Nat.reduceEqDiff,Int.reduceEq,Int.reduceLE,Int.reduceLT,Int.reducePow,Int.reduceMul,Int.reduceToNat,Int.reduceNeg,↓reduceIte,←List.map_take,←List.map_drop,hD,hG',K9,g5,Aa])
  all_goals (refine ⟨[],[],rfl,rfl,?_,?_⟩ <;> simp only[AW,AO,DX,Df,ES,D9,fz,Hq,plain,A3,List.cons_append,List.nil_append,Eo,En,AT,cov,Aw,AF,get,blk,jn,Az,Cg,Ad,Af,Option.map_some,Option.map_none,Option.getD_some,Option.getD_none,Dz,B9,B9.resT',ET,Nat.reduceEqDiff,↓reduceIte,if_true,if_false,and_true,true_and,and_self,Nat.reduceAdd,List.map_cons,List.map_nil,ite_true,ite_false,reduceCtorEq,An,sayA])
  all_goals clear g1 g2 g3 g5 hok hP hD hG' hX
  all_goals (rw[if_neg (by decide),if_neg (by omega)] at hr)
  all_goals (have htl:=VV (i.drop 7) (decide ((i.getD 0 0).toNat=2)))
  all_goals (simp only[PD] at hr)
  all_goals (clear t1 t7 hkb hb ha hfl hl)
  all_goals grind [Q4,Ah]
 exact hcon _ rfl
def CA:Nat→Lo:=fun id=> match id with | 6=> {uo:=[17],un:=[8],ex:=[16]} | 7=> {uo:=[10],un:=[9],ex:=[9]} | _=> {}
theorem SG (l:List UInt8) (hl:l.length≤4194304):A8 Tryz.prog D 90 [.sl 1 (l.map Ac)] ⟨.tup [sayA (Gp l).1,.int .i64 (Gp l).2.1,.int .i64 (Gp l).2.2],[]⟩:=by
 have hok:Cl Tryz.prog D (Ao [BC,GL,Eg,AL]):=Ar _
 have g1:Ao [BC,GL,Eg,AL] 141 [.sl 1 (l.map Ac)]=some ⟨.tup [.sl 1 ((AC l).1.map Ac),.int .i64 (AC l).2.1,.int .i64 (AC l).2.2],[]⟩:=AQ (E:=BC) (T:=[BC,GL,Eg,AL]) (i:=0) rfl (by decide) l (show l.length≤8388608 by omega) rfl rfl
 have g2:∀m:List UInt8,4≤m.length→m.length≤8388608→Ao [BC,GL,Eg,AL] 114 [.sl 1 (m.map Ac)]=some ⟨.int .i64 (Ds m),[]⟩:=fun m h h'=> AQ (E:=GL) (T:=[BC,GL,Eg,AL]) (i:=1) rfl (by decide) m ⟨h,h'⟩ rfl rfl
 have g3:∀(m:List UInt8) (b:Bool),m.length≤4194304→Ao [BC,GL,Eg,AL] 142 [.sl 1 (m.map Ac),.bool b]=some ⟨.tup [An (Ft m b).1,.bool (Ft m b).2],[]⟩:=fun m b h=> AQ (E:=Eg) (T:=[BC,GL,Eg,AL]) (i:=2) rfl (by decide) (m,b) h rfl rfl
 have g4:∀a:A0,a.note.Fits→Ao [BC,GL,Eg,AL] 40 [sayA a]=some ⟨.int .i64 (Am a),[]⟩:=fun a h=> AQ (E:=AL) (T:=[BC,GL,Eg,AL]) (i:=3) rfl (by decide) a h rfl rfl
 have hfl:=G2 l
 have g5:=g4 ⟨((AC l).1.getD 0 0).toNat,Ds (((AC l).1.take 5).drop 1),((AC l).1.getD 5 0).toNat,((AC l).1.getD 6 0).toNat,(Ft ((AC l).1.drop 7) (decide (((AC l).1.getD 0 0).toNat=2))).1⟩ (Si _ _)
 clear g4
 generalize Ao [BC,GL,Eg,AL]=G at *
 simp only[An,sayA,PD] at g1 g2 g3 g5
 have hcon:∀r,r=Gp l→A8 Tryz.prog D 90 [.sl 1 (l.map Ac)] ⟨.tup [sayA r.1,.int .i64 r.2.1,.int .i64 r.2.2],[]⟩:=by
  intro r hr
  refine Ch (G:=G) (rs:=[(2,some 53),(3,none),(4,none)]) mixed tok hok Tryz.func90 rfl (by decide) Tryz.results90 (by decide) rfl Tryz.ntmps90 (by simp) (by simp[Af,Ad]) fun X hP hD hG' hX=> Al hX CA _ _ _ ?_
  simp only[AU,Bz]
  unfold Gp at hr
  generalize AC l=f at *
  obtain ⟨i,n,e⟩:=f
  simp only at hr g1 g5 hfl
  have ha:=(i.getD 0 0).toNat_lt
  have hb:=(i.getD 1 0).toNat_lt
  simp (disch:=((try simp only[List.length_drop,List.length_take,List.length_append,List.length_cons,List.length_nil,List.length_map]);omega)) only[go_sem,Nat.reduceLeDiff,reduceCtorEq,Nat.reduceAdd,Nat.reduceSub,Nat.reduceMul,Nat.reduceLT,Nat.reduceEqDiff,Int.reduceEq,Int.reduceLE,Int.reduceLT,Int.reducePow,Int.reduceMul,Int.reduceToNat,Int.reduceNeg,↓reduceIte,←List.map_take,←List.map_drop,hD,hG',CA,g1,g2,g3,g5]
  refine Ai (fun h=> ?_) (fun h=> ?_)
  ·simp (disch:=((try simp only[List.length_drop,List.length_take,List.length_append,List.length_cons,List.length_nil,List.length_map]);omega)) only[go_sem,Nat.reduceLeDiff,reduceCtorEq,Nat.reduceAdd,Nat.reduceSub,Nat.reduceMul,Nat.reduceLT,Nat.reduceEqDiff,Int.reduceEq,Int.reduceLE,Int.reduceLT,Int.reducePow,Int.reduceMul,Int.reduceToNat,Int.reduceNeg,↓reduceIte,←List.map_take,←List.map_drop,hD,hG',CA,g1,g2,g3,g5,Aa]
   refine ⟨[],[],rfl,rfl,?_,?_⟩ <;> simp only[AW,AO,DX,Df,ES,D9,fz,Hq,plain,A3,List.cons_append,List.nil_append,Eo,En,AT,cov,Aw,AF,get,blk,jn,Az,Cg,Ad,Af,Option.map_some,Option.map_none,Option.getD_some,Option.getD_none,Dz,B9,B9.resT',ET,Nat.reduceEqDiff,↓reduceIte,if_true,if_false,and_true,true_and,and_self,Nat.reduceAdd,List.map_cons,List.map_nil,ite_true,ite_false,reduceCtorEq,An,sayA]
   clear g1 g2 g3 g5 hok hP hD hG' hX
   grind [Q4,Ah]
  have he:e=0:=by simpa using h
  subst he
  have hkb:(((i.getD 0 0).toNat:Int)==2)=decide ((i.getD 0 0).toNat=2):=by rw[Bool.eq_iff_iff];simp;omega
  have t1:(1:Int).toNat=1:=rfl
  have t5:(5:Int).toNat=5:=rfl
  have t7:(7:Int).toNat=7:=rfl
  simp (disch:=((try simp only[List.length_drop,List.length_take,List.length_append,List.length_cons,List.length_nil,List.length_map]);omega)) only[go_sem,Nat.reduceLeDiff,reduceCtorEq,Nat.reduceAdd,Nat.reduceSub,Nat.reduceMul,Nat.reduceLT,Nat.reduceEqDiff,Int.reduceEq,Int.reduceLE,Int.reduceLT,Int.reducePow,Int.reduceMul,Int.reduceToNat,Int.reduceNeg,↓reduceIte,←List.map_take,←List.map_drop,hD,hG',CA,g1,AD,Av]
  refine Ai (fun h=> ?_) (fun h=> ?_)
  ·simp (disch:=((try simp only[List.length_drop,List.length_take,List.length_append,List.length_cons,List.length_nil,List.length_map]);omega)) only[go_sem,Nat.reduceLeDiff,reduceCtorEq,Nat.reduceAdd,Nat.reduceSub,Nat.reduceMul,Nat.reduceLT,Nat.reduceEqDiff,Int.reduceEq,Int.reduceLE,Int.reduceLT,Int.reducePow,Int.reduceMul,Int.reduceToNat,Int.reduceNeg,↓reduceIte,←List.map_take,←List.map_drop,hD,hG',CA,g1,AD,Av,Aa]
   refine ⟨[],[],rfl,rfl,?_,?_⟩ <;> simp only[AW,AO,DX,Df,ES,D9,fz,Hq,plain,A3,List.cons_append,List.nil_append,Eo,En,AT,cov,Aw,AF,get,blk,jn,Az,Cg,Ad,Af,Option.map_some,Option.map_none,Option.getD_some,Option.getD_none,Dz,B9,B9.resT',ET,Nat.reduceEqDiff,↓reduceIte,if_true,if_false,and_true,true_and,and_self,Nat.reduceAdd,List.map_cons,List.map_nil,ite_true,ite_false,reduceCtorEq,An,sayA]
   clear g1 g2 g3 g5 hok hP hD hG' hX
   rw[decide_eq_true_eq] at h
   rw[hr,if_neg (by decide),if_pos (by omega)]
   simp[Q4,Ah]
  rw[decide_eq_false_iff_not] at h
  simp (disch:=((try simp only[List.length_drop,List.length_take,List.length_append,List.length_cons,List.length_nil,List.length_map]);omega)) only[go_sem,Nat.reduceLeDiff,reduceCtorEq,Nat.reduceAdd,Nat.reduceSub,Nat.reduceMul,Nat.reduceLT,Nat.reduceEqDiff,Int.reduceEq,Int.reduceLE,Int.reduceLT,Int.reducePow,Int.reduceMul,Int.reduceToNat,Int.reduceNeg,↓reduceIte,←List.map_take,←List.map_drop,hD,hG',CA,g1,g2,g3,g5,AD,Av,t1,t5,t7,hkb,List.take_length]
  ((try and_intros);all_goals (try first | omega | decide | (simp;done) | (simp only[List.length_append,List.length_cons,List.length_nil,List.length_map];omega)))
  iterate 24 (all_goals (try (first | (refine Au.mk [] ?_;simp (disch:=((try simp only[List.length_drop,List.length_take,List.length_append,List.length_cons,List.length_nil,List.length_map]);omega)) only[go_sem,Nat.reduceLeDiff,reduceCtorEq,Nat.reduceAdd,Nat.reduceSub,Nat.reduceMul,Nat.reduceLT,Nat.reduceEqDiff,Int.reduceEq,Int.reduceLE,Int.reduceLT,Int.reducePow,Int.reduceMul,Int.reduceToNat,Int.reduceNeg,↓reduceIte,←List.map_take,←List.map_drop,hD,hG',CA,g5]) | (refine Ai (fun h=> ?_) (fun h=> ?_) <;> ((try simp only[decide_eq_true_eq,decide_eq_false_iff_not,Int.not_lt,Int.not_le,Bool.not_eq_true] at h);simp (disch:=((try simp only[List.length_drop,List.length_take,List.length_append,List.length_cons,List.length_nil,List.length_map]);omega)) only[go_sem,Nat.reduceLeDiff,reduceCtorEq,Nat.reduceAdd,Nat.reduceSub,Nat.reduceMul,Nat.reduceLT,Nat.reduceEqDiff,Int.reduceEq,Int.reduceLE,Int.reduceLT,Int.reducePow,Int.reduceMul,Int.reduceToNat,Int.reduceNeg,↓reduceIte,←List.map_take,←List.map_drop,hD,hG',CA,g5])) | and_intros)))
  all_goals (try (first | decide | omega | (first | (intro hk;refine ⟨hk,fun h2=> ?_⟩;first | (rw[hk,h2];rfl) | (rw[hk,decide_eq_false h2];rfl)) | (intro hk;rw[decide_eq_false hk];rfl) | (intro hk;rw[hk];rfl))))
  all_goals (simp (disch:=((try simp only[List.length_drop,List.length_take,List.length_append,List.length_cons,List.length_nil,List.length_map]);omega)) only[go_sem,Nat.reduceLeDiff,reduceCtorEq,Nat.reduceAdd,Nat.reduceSub,Nat.reduceMul,Nat.reduceLT,Nat.reduceEqDiff,Int.reduceEq,Int.reduceLE,Int.reduceLT,Int.reducePow,Int.reduceMul,Int.reduceToNat,Int.reduceNeg,↓reduceIte,←List.map_take,←List.map_drop,hD,hG',CA,g5,Aa])
  all_goals (refine ⟨[],[],rfl,rfl,?_,?_⟩ <;> simp only[AW,AO,DX,Df,ES,D9,fz,Hq,plain,A3,List.cons_append,List.nil_append,Eo,En,AT,cov,Aw,AF,get,blk,jn,Az,Cg,Ad,Af,Option.map_some,Option.map_none,Option.getD_some,Option.getD_none,Dz,B9,B9.resT',ET,Nat.reduceEqDiff,↓reduceIte,if_true,if_false,and_true,true_and,and_self,Nat.reduceAdd,List.map_cons,List.map_nil,ite_true,ite_false,reduceCtorEq,An,sayA])
  all_goals clear g1 g2 g3 g5 hok hP hD hG' hX
  all_goals (rw[if_neg (by decide),if_neg (by omega)] at hr)
  all_goals (have hrt:=Sj (i.drop 7) (decide ((i.getD 0 0).toNat=2)))
  all_goals (simp only[PD,RO i 1] at hr hrt h ⊢)
  all_goals (clear t1 t5 t7 hkb hb ha hfl hl)
  all_goals grind [Q4,Ah]
 exact hcon _ rfl
def U9:BH Tryz.prog D:=⟨119,List UInt8,fun l=> [.sl 1 (l.map Ac)],fun l=> l.length≤4194304,fun l=> ⟨.tup [askA (Gd l).1,.int .i64 (Gd l).2.1,.int .i64 (Gd l).2.2],[]⟩,fun x y _ _ h=> by
 simp only[List.cons.injEq,AV.sl.injEq,true_and,and_true] at h
 rw[AN h],Abm⟩
def FA:BH Tryz.prog D:=⟨86,List UInt8,fun l=> [.sl 1 (l.map Ac)],fun l=> l.length≤4194304,fun l=> ⟨.tup [askA (Gd l).1,.int .i64 (Gd l).2.1,.int .i64 (Gd l).2.2],[]⟩,fun x y _ _ h=> by
 simp only[List.cons.injEq,AV.sl.injEq,true_and,and_true] at h
 rw[AN h],SF⟩
def Va:BH Tryz.prog D:=⟨121,List UInt8,fun l=> [.sl 1 (l.map Ac)],fun l=> l.length≤4194304,fun l=> ⟨.tup [sayA (Gp l).1,.int .i64 (Gp l).2.1,.int .i64 (Gp l).2.2],[]⟩,fun x y _ _ h=> by
 simp only[List.cons.injEq,AV.sl.injEq,true_and,and_true] at h
 rw[AN h],Abr⟩
def FB:BH Tryz.prog D:=⟨90,List UInt8,fun l=> [.sl 1 (l.map Ac)],fun l=> l.length≤4194304,fun l=> ⟨.tup [sayA (Gp l).1,.int .i64 (Gp l).2.1,.int .i64 (Gp l).2.2],[]⟩,fun x y _ _ h=> by
 simp only[List.cons.injEq,AV.sl.injEq,true_and,and_true] at h
 rw[AN h],SG⟩
def D5:BH Tryz.prog D:=⟨120,AX,fun x=> [askA x],fun x=> Ap x=0,fun x=> ⟨.os 0,[(5,1,(Br (Jf x)).map Ac)]⟩,fun x y _ _ h=> by
 simp only[List.cons.injEq,and_true] at h
 rw[Cv h],SD⟩
def Fz:BH Tryz.prog D:=⟨80,AX,fun x=> [askA x],fun x=> Ap x=0,fun x=> ⟨.os 0,[(5,1,(Br (Jf x)).map Ac)]⟩,fun x y _ _ h=> by
 simp only[List.cons.injEq,and_true] at h
 rw[Cv h],SE⟩
def D6:BH Tryz.prog D:=⟨122,A0,fun x=> [sayA x],fun x=> Am x=0,fun x=> ⟨.os 0,[(5,1,(Br (JG x)).map Ac)]⟩,fun x y _ _ h=> by
 simp only[List.cons.injEq,and_true] at h
 rw[CJ h],SU⟩
def FK:BH Tryz.prog D:=⟨83,A0,fun x=> [sayA x],fun x=> Am x=0,fun x=> ⟨.os 0,[(5,1,(Br (JG x)).map Ac)]⟩,fun x y _ _ h=> by
 simp only[List.cons.injEq,and_true] at h
 rw[CJ h],SV⟩
theorem Vi {l:List UInt8} (h:(AC l).2.2=0):2≤(AC l).2.1∧(AC l).2.1≤l.length∧(AC l).2.1≤400:=by
 unfold AC at h ⊢
 split at h
 ·cases h
 split at h
 ·cases h
 split at h
 ·cases h
 rename_i h1 h2 h3
 rw[if_neg h1,if_neg h2,if_neg h3]
 simp only
 omega
theorem XY (l:List UInt8):((Gd l).2.2=0∧Ap (Gd l).1=0∧1≤(Gd l).2.1∧(Gd l).2.1≤l.length∧(Gd l).2.1≤400)∨((Gd l).2.2≠0∧(Gd l).2.1=0∧(Gd l).1=Lk):=by
 unfold Gd
 by_cases h1:(AC l).2.2≠0
 ·rw[if_pos h1];exact .inr ⟨h1,rfl,rfl⟩
 rw[if_neg h1]
 split
 ·exact .inr ⟨by decide,rfl,rfl⟩
 split
 ·exact .inr ⟨by decide,rfl,rfl⟩
 split
 ·rename_i h4;exact .inr ⟨h4,rfl,rfl⟩
 ·rename_i h4
  have:=Vi (by omega:(AC l).2.2=0)
  exact .inl ⟨rfl,by simpa using h4,by simp only;omega,this.2.1,this.2.2⟩
theorem Zd (l:List UInt8):((Gp l).2.2=0∧Am (Gp l).1=0∧1≤(Gp l).2.1∧(Gp l).2.1≤l.length∧(Gp l).2.1≤400)∨((Gp l).2.2≠0∧(Gp l).2.1=0∧(Gp l).1=Q4):=by
 unfold Gp
 by_cases h1:(AC l).2.2≠0
 ·rw[if_pos h1];exact .inr ⟨h1,rfl,rfl⟩
 rw[if_neg h1]
 split
 ·exact .inr ⟨by decide,rfl,rfl⟩
 split
 ·exact .inr ⟨by decide,rfl,rfl⟩
 split
 ·rename_i h4;exact .inr ⟨h4,rfl,rfl⟩
 ·rename_i h4
  have:=Vi (by omega:(AC l).2.2=0)
  exact .inl ⟨rfl,by simpa using h4,by simp only;omega,this.2.1,this.2.2⟩
end Go.Proofs.YtlkmgccikgnaeaaGreatDoor.Ab
