/-
  Texts of the proof, one behind the other: WbQ WbR WbT WbK.
  No condition but those that each theorem names.
-/
import Derived.Test.YtlkmgccikgnaeaaGreatDoorMK
import Derived.Test.YtlkmgccikgnaeaaGreatDoorMG
import Derived.Test.YtlkmgccikgnaeaaGreatDoorMH
import Derived.Test.YtlkmgccikgnaeaaGreatDoorMI
set_option linter.unusedVariables false
set_option linter.unusedSimpArgs false
set_option maxRecDepth 100000
set_option maxHeartbeats 16000000
namespace Go.Proofs.YtlkmgccikgnaeaaGreatDoor.Ab
open Go Go.RowKit
theorem AbM {s sub:Wd} {i:Nat} {t:Wd} (h:s.drop i=sub++t):Lib.occAt s sub i=true:=by
 unfold Lib.occAt
 rw[h]
 exact List.isPrefixOf_iff_prefix.2 ⟨t,rfl⟩
theorem AcB {s:Wd} {c:UInt8} {t:Wd} {i:Nat} (h:s[i]?≠some c):Lib.occAt s (c::t) i=false:=by
 cases ho:Lib.occAt s (c::t) i
 ·rfl
 ·exact absurd (Lib.occAt_head rfl ho) h
def Rm (c:UInt8) (w:Wd):Prop:=∀b∈w,b≠c
theorem Rm.get {c:UInt8} {w:Wd} (h:Rm c w) {i:Nat}:w[i]?≠some c:=fun hi=> h c (List.mem_of_getElem? hi) rfl
theorem Rm.left {c:UInt8} {w v:Wd} (h:Rm c w) {i:Nat} (hi:i < w.length):(w++v)[i]?≠some c:=by
 rw[List.getElem?_append_left hi]
 exact h.get
theorem YC {c:UInt8} {t k v:Wd} (h:Rm c k):Lib.index (k++(c::t++v)) (c::t)=(k.length:Int):=
 Lib.index_first (by simp) (AbM (t:=v) (by simp)) fun j hj=> AcB (h.left hj)
theorem Xs {c:UInt8} {t k v:Wd} (h:Rm c k):Lib.cut (k++(c::t++v)) (c::t)=(k,v,true):=by
 unfold Lib.cut
 rw[YC h,if_pos (by omega),Int.toNat_natCast]
 refine Prod.ext ?_ (Prod.ext ?_ rfl)
 ·simp
 ·show List.drop (k.length+(c::t).length) (k++(c::t++v))=v
  rw[←List.append_assoc,show k.length+(c::t).length=(k++c::t).length by simp]
  exact List.drop_left
theorem Ly:∀(l:List Wd) (s w:Wd),l≠[]→Lib.join (l++[w]) s=Lib.join l s++(s++w)
 | [],s,w,h=> absurd rfl h
 | [v],s,w,_=> by
  rw[List.singleton_append,G7,Lib.join_one,Lib.join_one]
 | v::u::r,s,w,_=> by
  rw[List.cons_append,List.cons_append,G7,G7,←List.cons_append,Ly (u::r) s w (by simp)]
  simp
def Z0:Wd:=[13,10]
def Acu:Wd:=[13,10,13,10]
instance (c:UInt8) (w:Wd):Decidable (Rm c w):=inferInstanceAs (Decidable (∀b∈w,b≠c))
theorem Rm.app {c:UInt8} {a b:Wd} (ha:Rm c a) (hb:Rm c b):Rm c (a++b):=fun x hx=> (List.mem_append.1 hx).elim (ha x) (hb x)
theorem Hr.nob {w:Wd} (h:Hr w) {c:UInt8} (hc:c.toNat≤32):Rm c w:=h.ne hc
theorem Y3 {p:AI} (h:A9 p=0):DT p.key=true:=by
 cases hq:DT p.key
 ·unfold A9 at h;rw[hq] at h;simp at h
 ·rfl
theorem AbD {k:ByteArray} (h:DT k=true) {c:UInt8} (hc:c.toNat < 97):Rm c k.data.toList:=fun b hb e=> by
 have:=(Js h).1 b hb
 rw[e] at this
 omega
theorem J9 (a b:Wd):Lib.hasPrefix (a++b) a=true:=by
 unfold Lib.hasPrefix
 exact List.isPrefixOf_iff_prefix.2 ⟨b,rfl⟩
theorem Rd (a b:Wd):Lib.trimPrefix (a++b) a=b:=by
 unfold Lib.trimPrefix
 rw[J9,if_pos rfl]
 simp
theorem YA {p:AI} (h:A9 p=0):Lib.cut (Px p) [58,32]=([112,45]++p.key.data.toList,BU p,true):=by
 have hk:Rm 58 ([112,45]++p.key.data.toList):=Rm.app (by decide) (AbD (Y3 h) (by decide))
 have:=Xs (t:=[32]) (v:=BU p) hk
 rw[←this]
 unfold Px
 congr 1
 simp
theorem Qv:∀(l ps:List AI) (hs:List Wd) (n:Int) (rest:List Wd),(∀p∈l,A9 p=0)→Ci ps hs n (Ct l++rest)=Ci (ps++l) hs n rest
 | [],ps,hs,n,rest,_=> by simp[Ct]
 | p::l,ps,hs,n,rest,h=> by
  have hp:=h p (List.mem_cons_self ..)
  have ih:=Qv l (ps++[p]) hs n rest fun q hq=> h q (List.mem_cons_of_mem _ hq)
  have e:Ct (p::l)++rest=Px p::(Ct l++rest):=rfl
  rw[e,Ci,YA hp]
  simp only[J9,Rd,Y4 hp,Bool.true_eq_false,if_false,if_true]
  rw[ih]
  simp
theorem Aad {n:Nat} (hn:n≤1073741824) (ps:List AI) (hs:List Wd):Ci ps hs (-1) [Jh n]=some (ps,hs,(n:Int)):=by
 have hk:Rm 58 Qe:=by decide
 have hc:Lib.cut (Jh n) [58,32]=(Qe,Lib.itoa n,true):=by
  rw[←Xs (t:=[32]) (v:=Lib.itoa n) hk]
  rfl
 rw[Ci,hc]
 simp only[show Lib.hasPrefix Qe [112,45]=false from by decide,Jy (n:=(n:Int)) (by omega) (by omega),Bool.true_eq_false,Bool.false_eq_true,if_false,if_true,false_or]
 rw[if_neg (by omega),Ci]
def QY (f:Wd) (hs:List Wd) (n:AP):List Wd:=f::(hs++(Ct n.props++[Jh n.body.length]))
theorem WT (f:Wd) (hs:List Wd) (n:AP):D0 f hs n=Lib.join (QY f hs n) Z0++(Acu++n.body):=by
 have e:I7 f hs n=(QY f hs n++[[]])++[[]]:=by simp[I7,QY]
 unfold D0
 rw[e]
 show Lib.join (QY f hs n++[[]]++[[]]) Z0++n.body=_
 rw[Ly _ _ _ (by simp),Ly _ _ _ (by simp[QY])]
 simp[Z0,Acu]
structure Acl (f:Wd) (hs:List Wd) (n:AP):Prop where
 fst:Rm 13 f
 hds:∀w∈hs,Rm 13 w∧w≠[]
 wr:AZ n=0
 bk:Ci [] [] (-1) (hs++(Ct n.props++[Jh n.body.length]))=some (n.props,hs,(n.body.length:Int))
 ln:(D0 f hs n).length≤400
theorem RT:∀(l:List Wd),(Lib.join l Z0).length≤(l.map List.length).sum+2*l.length
 | []=> by simp[Lib.join_nil]
 | [w]=> by rw[Lib.join_one];simp
 | w::v::r=> by
  have:=RT (v::r)
  rw[G7]
  simp only[List.length_append,List.length_cons,List.length_nil,List.map_cons,List.sum_cons,Z0] at this ⊢
  omega
theorem QV {f:Wd} {hs:List Wd} {n:AP} (h:AZ n=0):(D0 f hs n).length≤f.length+(hs.map List.length).sum+2*hs.length+240:=by
 obtain ⟨h1,h2,h3⟩:=E7 h
 have hs':∀l:List AI,(∀p∈l,A9 p=0)→((Ct l).map List.length).sum≤37*l.length:=fun l=> by
  induction l with
  | nil=> intro;simp[Ct]
  | cons p r ih=>
   intro h
   have h1:=ih fun q hq=> h q (List.mem_cons_of_mem _ hq)
   have hp0:=h p (List.mem_cons_self ..)
   have hv:=LP hp0
   have hk:p.key.data.toList.length≤8:=(Gm hp0).1
   simp only[Ct,List.map_cons,List.sum_cons,Px,List.length_append,List.length_cons,List.length_nil] at h1 ⊢
   omega
 have hp:=hs' _ h2
 have hj:=RT (QY f hs n)
 have hi:=G5 (n:=(n.body.length:Int)) (by omega) (by omega)
 rw[WT]
 simp only[QY,List.map_cons,List.map_append,List.sum_cons,List.sum_append,List.map_nil,List.sum_nil,List.length_append,List.length_cons,List.length_nil,Jh,Acu] at hj ⊢
 simp only[Ct,List.length_map] at hj hp ⊢
 omega
theorem AbP {a:AX} (h:Ap a=0):(Hr (Fg a).1∧(Fg a).1.length≤6)∧Hr (Fg a).2∧(Fg a).2.length≤30:=by
 obtain ⟨h1,h2,h3,h4,h5,h6⟩:=Ju h
 have hq:Hr a.queue.data.toList∧a.queue.data.toList.length≤8:=by
  cases hn:FV a.kind
  ·rw[h3 hn];exact ⟨Q7,by simp⟩
  ·obtain ⟨q1,q2,q3⟩:=Js (h2 hn)
   exact ⟨fun b hb=> by have:=q1 b hb;omega,q3⟩
 have hn: -1073741824≤a.n∧a.n≤1073741824:=by
  unfold QI Jp at h4
  split at h4 <;> split at h4 <;> (try split at h4) <;> omega
 have hil:=G5 hn.1 hn.2
 have his:=F2 a.n
 unfold Fg
 generalize a.queue.data.toList=q at hq ⊢
 generalize Lib.itoa a.n=it at his hil ⊢
 obtain ⟨hq1,hq2⟩:=hq
 have c1:∀l:Wd,l.all (fun b=> decide (32 < b.toNat))=true→Hr l:=fun l h=> XR h
 unfold GJ
 repeat' split
 all_goals (
  dsimp only
  refine ⟨⟨c1 _ (by decide),by decide⟩,?_,?_⟩
  ·first
   | exact c1 _ (by decide)
   | exact Fk (Fk (Fk (c1 _ (by decide)) hq1) (c1 _ (by decide))) his
   | exact Fk (Fk (c1 _ (by decide)) hq1) (c1 _ (by decide))
   | exact Fk (c1 _ (by decide)) hq1
   | exact Fk (c1 _ (by decide)) his
  ·simp only[List.length_append,List.length_cons,List.length_nil]
   omega)
theorem WD {n:AP} (h:AZ n=0):Ci [] [] (-1) ([]++(Ct n.props++[Jh n.body.length]))=some (n.props,[],(n.body.length:Int)):=by
 obtain ⟨h1,h2,h3⟩:=E7 h
 rw[List.nil_append,Qv _ _ _ _ _ h2,Aad (by omega)]
 simp
theorem ZB {a:AX} (h:Ap a=0):Acl (Fe a) [] a.note:=by
 obtain ⟨⟨p1,p2⟩,p3,p4⟩:=AbP h
 obtain ⟨_,_,_,_,_,h6⟩:=Ju h
 refine ⟨?_,fun w hw=> (by cases hw),h6,WD h6,?_⟩
 ·exact Rm.app (Rm.app (Rm.app (p1.nob (by decide)) (by decide)) (p3.nob (by decide))) (by decide)
 ·have:=QV (f:=Fe a) (hs:=[]) h6
  simp only[Fe,List.length_append,List.length_cons,List.length_nil,List.map_nil,List.sum_nil] at this
  show (D0 (Fe a) [] a.note).length≤400
  simp only[Fe]
  omega
theorem Sc {b:Wd} (h:(Ca b).err=0):4≤(Ca b).all∧(Ca b).all≤b.length∧(Ca b).all≤400:=by
 unfold Ca at *
 split at h
 ·split at h <;> cases h
 ·rename_i h0
  rw[if_neg h0]
  generalize Ci [] [] (-1) (FZ b).tail=x at *
  cases x with
  | none=> cases h
  | some y=>
   obtain ⟨ps,hs,n⟩:=y
   simp only[Cs] at *
   split at h
   ·cases h
   ·split at h
    ·cases h
    ·split at h
     ·cases h
     ·rename_i h1 h2 h3
      rw[if_neg h1,if_neg h2,if_neg h3]
      simp only
      omega
theorem VZ {hs:List Wd} {n:AP} {l:List Wd} (h:(EI hs n l).2=0):Ap (EI hs n l).1=0:=by
 unfold EI at *
 split at h
 ·split at h
  ·rename_i h1
   rw[if_pos h1] at *
   split at h
   ·rename_i h2
    rw[if_pos h2] at *
    exact h
   ·cases h
  ·cases h
 ·cases h
theorem Xh (b:Wd):((DL b).2.2=0∧Ap (DL b).1=0∧1≤(DL b).2.1∧(DL b).2.1≤b.length∧(DL b).2.1≤400)∨((DL b).2.2≠0∧(DL b).2.1=0∧(DL b).1=At):=by
 have hl:=Sc (b:=b)
 unfold DL
 generalize Ca b=x at *
 unfold Ss
 by_cases h1:x.err≠0
 ·rw[if_pos h1];exact .inr ⟨h1,rfl,rfl⟩
 ·rw[if_neg h1]
  have hl:=hl (by simpa using h1)
  by_cases h2:(EI x.heads x.note (Lib.split x.first [32])).2≠0
  ·rw[if_pos h2];exact .inr ⟨h2,rfl,rfl⟩
  ·rw[if_neg h2]
   refine .inl ⟨rfl,VZ (by simpa using h2),?_⟩
   simp only
   omega
theorem V0 {f:Wd} {hs:List Wd} {n:AP} (h:(B6 f hs n).2=0):Am (B6 f hs n).1=0:=by
 revert h
 unfold B6
 repeat' split
 all_goals (intro h;first | exact h | cases h)
theorem Xi (b:Wd):((DM b).2.2=0∧Am (DM b).1=0∧1≤(DM b).2.1∧(DM b).2.1≤b.length∧(DM b).2.1≤400)∨((DM b).2.2≠0∧(DM b).2.1=0∧(DM b).1=AE):=by
 have hl:=Sc (b:=b)
 unfold DM
 generalize Ca b=x at *
 unfold Sv
 by_cases h1:x.err≠0
 ·rw[if_pos h1];exact .inr ⟨h1,rfl,rfl⟩
 ·rw[if_neg h1]
  have hl:=hl (by simpa using h1)
  by_cases h2:(B6 x.first x.heads x.note).2≠0
  ·rw[if_pos h2];exact .inr ⟨h2,rfl,rfl⟩
  ·rw[if_neg h2]
   refine .inl ⟨rfl,V0 (by simpa using h2),?_⟩
   simp only
   omega
theorem AcA {n:AP} (h:AZ n=0):NOk n:=by
 obtain ⟨h1,h2,h3⟩:=E7 h
 refine ⟨by omega,by omega,fun p hp=> ?_⟩
 obtain ⟨q1,q2⟩:=Gm (h2 p hp)
 refine ⟨⟨?_,?_⟩,?_⟩ <;> omega
theorem AaQ {f:Wd} {hs:List Wd} {n:AP} (h:AZ n=0) (hl:(D0 f hs n).length≤1000000) (hh:hs.length≤1000000):UH f hs n:=⟨AcA h,hh,by unfold D0 at hl;rw[List.length_append] at hl;omega⟩
theorem AcO {a:AX} (h:Ap a=0):Aci a:=by
 obtain ⟨h1,h2,h3,h4,h5,h6⟩:=Ju h
 have hn: -1073741824≤a.n∧a.n≤1073741824:=by
  unfold QI Jp at h4
  split at h4 <;> split at h4 <;> (try split at h4) <;> omega
 have hq:a.queue.data.toList.length≤8:=by
  cases hn:FV a.kind
  ·rw[h3 hn];simp
  ·exact (Js (h2 hn)).2.2
 exact ⟨⟨by show a.queue.data.toList.length≤1000000;omega,hn.1,hn.2⟩,AaQ h6 (by have:=(ZB h).ln;omega) (by simp)⟩
theorem AcQ {s:A0} (h:Am s=0):Aco s:=by
 have w0:AZ Ah=0:=by decide
 obtain ⟨_,_,h3,h4,h5,h6,h7,h8,h9,_⟩:=Dk h
 have hi1:=Lib.itoa_length_le s.n (by omega) (by omega)
 have hi2:=Lib.itoa_length_le s.m (by omega) (by omega)
 have hi3:=Lib.itoa_length_le s.err (by omega) (by omega)
 refine ⟨by omega,by omega,by omega,fun _=> AaQ h9 ?_ (by simp),fun _=> AaQ w0 ?_ (by simp)⟩
 ·have:=QV (f:=KK) (hs:=[EH++Lib.itoa s.n,BO++Lib.itoa s.m]) h9
  simp only[KK,EH,BO,List.map_cons,List.map_nil,List.sum_cons,List.sum_nil,List.length_append,List.length_cons,List.length_nil] at this ⊢
  omega
 ·have:=QV (f:=DE) (hs:=[BL++Lib.itoa s.err]) w0
  simp only[DE,BL,List.map_cons,List.map_nil,List.sum_cons,List.sum_nil,List.length_append,List.length_cons,List.length_nil] at this ⊢
  omega
end Go.Proofs.YtlkmgccikgnaeaaGreatDoor.Ab
