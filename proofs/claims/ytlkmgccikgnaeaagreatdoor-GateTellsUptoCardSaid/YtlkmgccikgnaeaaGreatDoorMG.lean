/-
  Texts of the proof, one behind the other: LnP LnQ.
  No condition but those that each theorem names.
-/
import Derived.Test.YtlkmgccikgnaeaaGreatDoorME
import Derived.Lib.SplitLaws
import Derived.Lib.Join
set_option linter.unusedVariables false
set_option linter.unusedSimpArgs false
set_option maxRecDepth 100000
set_option maxHeartbeats 16000000
namespace Go.Proofs.YtlkmgccikgnaeaaGreatDoor.Ab
open Go Go.RowKit
theorem JO:∀u,∀b∈Lib.decDigits u,48≤b.toNat∧b.toNat≤57:=by
 intro u
 induction u using Nat.strongRecOn with
 | _ u ih=>
  intro b hb
  rw[Lib.decDigits] at hb
  split at hb
  ·simp at hb
   subst hb
   simp
   omega
  ·rcases List.mem_append.1 hb with hb | hb
   ·exact ih (u/10) (by omega) b hb
   ·simp at hb
    subst hb
    simp
    omega
theorem Wu (u:Nat):Lib.decDigits u≠[]:=by
 rw[Lib.decDigits]
 split <;> simp
theorem Kz:∀(l:Wd) (acc v d:Nat),Lib.parseUint10 acc l=.ok v→v < 100000000000000000→d < 10→Lib.parseUint10 acc (l++[UInt8.ofNat (48+d)])=.ok (v*10+d)
 | [],acc,v,d,h,hv,hd=> by
  simp only[Lib.parseUint10] at h
  injection h with h
  subst h
  have e:(UInt8.ofNat (48+d)).toNat=48+d:=by simp;omega
  simp only[List.nil_append,Lib.parseUint10,e]
  rw[if_pos (by omega),if_neg (by omega),if_neg (by omega)]
  congr 1
  omega
 | c::r,acc,v,d,h,hv,hd=> by
  simp only[List.cons_append,Lib.parseUint10] at h ⊢
  split at h
  ·rename_i h1
   rw[if_pos h1]
   split at h
   ·cases h
   ·rename_i h2
    rw[if_neg h2]
    split at h
    ·cases h
    ·rename_i h3
     rw[if_neg h3]
     exact Kz r _ v d h hv hd
  ·cases h
theorem Sb:∀u,u < 1000000000000000000→Lib.parseUint10 0 (Lib.decDigits u)=.ok u:=by
 intro u
 induction u using Nat.strongRecOn with
 | _ u ih=>
  intro hu
  rw[Lib.decDigits]
  split
  ·have:=Kz [] 0 0 u rfl (by omega) (by assumption)
   simpa using this
  ·rw[Kz _ 0 (u/10) (u%10) (ih (u/10) (by omega) (by omega)) (by omega) (by omega)]
   congr 1
   omega
theorem XZ {n:Int} (h1: -1073741824≤n) (h2:n≤1073741824):Lib.atoiAll (Lib.itoa n)=.ok n:=by
 unfold Lib.itoa
 split
 ·have hp:=Sb n.natAbs (by omega)
  rw[Lib.atoiAll_minus]
  unfold Lib.parseMag
  rw[if_neg (Wu _),hp]
  simp only[Lib.signed]
  rw[if_neg (by omega)]
  congr 1
  omega
 ·have hp:=Sb n.toNat (by omega)
  have hb:=JO n.toNat
  have hne:=Wu n.toNat
  cases hd:Lib.decDigits n.toNat with
  | nil=> exact absurd hd hne
  | cons c r=>
   rw[hd] at hp hb
   have hc:=hb c (List.mem_cons_self ..)
   rw[Lib.atoiAll_plain c r (by omega) (by omega)]
   unfold Lib.parseMag
   rw[if_neg (by simp),hp]
   simp only[Lib.signless]
   rw[if_neg (by omega)]
   congr 1
   omega
theorem Jy {n:Int} (h1: -1073741824≤n) (h2:n≤1073741824):Ak (Lib.itoa n)=(n,true):=by
 unfold Ak EV
 rw[XZ h1 h2]
 simp[h1,h2]
def Hr (l:Wd):Prop:=∀b∈l,32 < b.toNat
theorem Fk {a b:Wd} (ha:Hr a) (hb:Hr b):Hr (a++b):=fun x hx=> (List.mem_append.1 hx).elim (ha x) (hb x)
theorem GS {a:UInt8} {b:Wd} (ha:32 < a.toNat) (hb:Hr b):Hr (a::b):=fun x hx=> (List.mem_cons.1 hx).elim (fun h=> h ▸ha) (hb x)
theorem Q7:Hr []:=fun x hx=> by cases hx
theorem F2 (n:Int):Hr (Lib.itoa n):=by
 unfold Lib.itoa
 split
 ·exact GS (by decide) fun b hb=> by have:=JO _ b hb;omega
 ·exact fun b hb=> by have:=JO _ b hb;omega
theorem G5 {n:Int} (h1: -1073741824≤n) (h2:n≤1073741824):(Lib.itoa n).length≤11:=by
 have hd:∀u,u < 10000000000→(Lib.decDigits u).length≤10:=by
  have key:∀(k u:Nat),u < 10^(k+1)→(Lib.decDigits u).length≤k+1:=by
   intro k
   induction k with
   | zero=> intro u hu;rw[Lib.decDigits,dif_pos (by simpa using hu)];simp
   | succ k ih=>
    intro u hu
    rw[Lib.decDigits]
    split
    ·simp
    ·have:=ih (u/10) (by rw[Nat.pow_succ] at hu;omega)
     simp only[List.length_append,List.length_cons,List.length_nil]
     omega
  intro u hu
  exact key 9 u (by omega)
 unfold Lib.itoa
 split
 ·have:=hd n.natAbs (by omega)
  simp only[List.length_cons]
  omega
 ·have:=hd n.toNat (by omega)
  omega
theorem PY:∀i:Fin 16,32 < (Ko.getD i.val 0).toNat∧CF (Ko.getD i.val 0)=(i.val:Int):=by decide+kernel
theorem VP (l:Wd):Hr (FS l):=fun b hb=> by
 obtain ⟨c,_,hc⟩:=List.mem_flatMap.1 hb
 have h:=c.toNat_lt
 simp only[Aae,List.mem_cons,List.not_mem_nil,or_false] at hc
 rcases hc with rfl | rfl
 ·exact (PY ⟨c.toNat/16,by omega⟩).1
 ·exact (PY ⟨c.toNat%16,by omega⟩).1
theorem Sp:∀l:Wd,Dc (FS l)=some l
 | []=> rfl
 | c::r=> by
  have h:=c.toNat_lt
  have h1:=(PY ⟨c.toNat/16,by omega⟩).2
  have h2:=(PY ⟨c.toNat%16,by omega⟩).2
  have e:FS (c::r)=Ko.getD (c.toNat/16) 0::Ko.getD (c.toNat%16) 0::FS r:=rfl
  simp only at h1 h2
  rw[e,Dc,if_neg (by omega),Sp r]
  simp only[Option.map_some,Lx,h1,h2]
  congr 2
  apply UInt8.toNat_inj.1
  simp
  omega
theorem Xf (l:Wd):CK (FS l)=(l,true):=by unfold CK;rw[Sp];rfl
theorem G7 (a b:Wd) (r:List Wd) (s:Wd):Lib.join (a::b::r) s=a++(s++Lib.join (b::r) s):=by
 rw[Lib.join_cons,Lib.join_cons]
 simp[Lib.joinTail]
theorem Hr.ne {w:Wd} (h:Hr w) {c:UInt8} (hc:c.toNat≤32):∀b∈w,b≠c:=fun b hb e=> by have:=h b hb;rw[e] at this;omega
theorem S9:∀(l:List Wd),(Lib.join l [32]).length≤(l.map List.length).sum+l.length
 | []=> by simp[Lib.join_nil]
 | [w]=> by rw[Lib.join_one];simp
 | w::v::r=> by
  have:=S9 (v::r)
  rw[G7]
  simp only[List.length_append,List.length_cons,List.length_nil,List.map_cons,List.sum_cons] at this ⊢
  omega
theorem Js {k:ByteArray} (h:DT k=true):(∀b∈k.data.toList,97≤b.toNat∧b.toNat≤122)∧1≤k.data.toList.length∧k.data.toList.length≤8:=by
 unfold DT at h
 simp only[Bool.and_eq_true,decide_eq_true_eq,List.all_eq_true] at h
 refine ⟨fun b hb=> ?_,h.1.2,h.2⟩
 have:=h.1.1 b hb
 simpa[Ip] using this
theorem E2 (c d:UInt8) (l:Wd):Lib.hasPrefix (c::l) [d]=(d==c):=by simp[Lib.hasPrefix,List.isPrefixOf]
theorem So (c:UInt8) (l:Wd):Lib.trimPrefix (c::l) [c]=l:=by
 unfold Lib.trimPrefix
 rw[E2,if_pos (by simp)]
 rfl
theorem YD {n:Int}:∃c r,Lib.itoa n=c::r∧45≤c.toNat:=by
 unfold Lib.itoa
 split
 ·exact ⟨45,_,rfl,by decide⟩
 ·have hb:=JO n.toNat
  cases hd:Lib.decDigits n.toNat with
  | nil=> exact absurd hd (Wu _)
  | cons c r=> rw[hd] at hb;exact ⟨c,r,rfl,by have:=hb c (List.mem_cons_self ..);omega⟩
theorem Y4 {p:AI} (h:A9 p=0):E3 p.key.data.toList (BU p)=(p,true):=by
 obtain ⟨h8,hc⟩:=Gm h
 obtain ⟨k,kd,n,t⟩:=p
 simp only at h8 hc
 unfold E3 BU
 rcases hc with ⟨rfl,ht,rfl⟩ | ⟨hk,ht,hn1,hn2⟩
 ·simp only[if_true]
  rw[if_pos (by rw[E2];decide),So,Xf]
  rfl
 ·have ht0:=Aa8 ht
  subst ht0
  have h2:¬kd=2:=by omega
  simp only[if_neg h2]
  rcases hk with rfl | rfl
  ·simp only[show ¬((1:Int)=3) by decide,if_false]
   obtain ⟨c,r,hi,hc⟩:=@YD n
   have hnb:=Jy hn1 hn2
   rw[hi] at hnb ⊢
   rw[if_neg (by rw[E2];simp;rintro rfl;exact absurd hc (by decide)),if_neg (by rw[E2];simp;rintro rfl;exact absurd hc (by decide)),hnb]
   rfl
  ·simp only[if_true]
   rw[if_neg (by rw[E2];decide),if_pos (by rw[E2];decide),So,Jy hn1 hn2]
   rfl
theorem Xg (p:AI):Hr (BU p):=by
 unfold BU
 split
 ·exact GS (by decide) (VP _)
 ·split
  ·exact GS (by decide) (F2 _)
  ·exact F2 _
theorem LP {p:AI} (h:A9 p=0):(BU p).length≤25:=by
 obtain ⟨h8,hc⟩:=Gm h
 unfold BU
 rcases hc with ⟨h2,ht,_⟩ | ⟨hk,ht,hn1,hn2⟩
 ·rw[if_pos h2]
  have:p.text.data.toList.length≤12:=ht
  simp only[List.length_cons,Dv]
  omega
 ·rw[if_neg (by omega)]
  have:=G5 hn1 hn2
  split
  ·simp only[List.length_cons];omega
  ·omega
theorem QQ {n:AP} (h:AZ n=0):∀w∈Da n,Hr w∧w.length≤81:=by
 obtain ⟨h1,h2,h3⟩:=E7 h
 intro w hw
 rcases List.mem_append.1 hw with hw | hw
 ·obtain ⟨p,hp,rfl⟩:=List.mem_map.1 hw
  have hp0:=h2 p hp
  have hk:DT p.key=true:=by
   cases hq:DT p.key
   ·unfold A9 at hp0;rw[hq] at hp0;simp at hp0
   ·rfl
  obtain ⟨hk1,hk2,hk3⟩:=Js hk
  have hv:=LP hp0
  refine ⟨Fk (Fk (fun b hb=> by have:=hk1 b hb;omega) (GS (by decide) Q7)) (Xg p),?_⟩
  simp only[List.length_append,List.length_cons,List.length_nil]
  omega
 ·rw[List.mem_singleton.1 hw]
  refine ⟨GS (by decide) (VP _),?_⟩
  simp only[List.length_cons,Dv]
  omega
theorem R6 {n:AP} (h:AZ n=0):(Da n).length≤5∧((Da n).map List.length).sum≤240:=by
 obtain ⟨h1,h2,h3⟩:=E7 h
 have hs:∀l:List AI,(∀p∈l,A9 p=0)→((D2 l).map List.length).sum≤34*l.length:=fun l=> by
  induction l with
  | nil=> intro;simp[D2]
  | cons p r ih=>
   intro h
   have h1:=ih fun q hq=> h q (List.mem_cons_of_mem _ hq)
   have hp0:=h p (List.mem_cons_self ..)
   have hv:=LP hp0
   have hk:p.key.data.toList.length≤8:=(Gm hp0).1
   simp only[D2,List.map_cons,List.sum_cons,List.length_append,List.length_cons,List.length_nil] at h1 ⊢
   omega
 have:=hs _ h2
 unfold Da
 simp only[List.map_append,List.sum_append,List.map_cons,List.map_nil,List.sum_cons,List.sum_nil,List.length_append,List.length_cons,List.length_nil,Dv,D2,List.length_map] at this ⊢
 omega
theorem Ju {a:AX} (h:Ap a=0):(1≤a.kind∧a.kind≤9)∧(FV a.kind=true→DT a.queue=true)∧(FV a.kind=false→a.queue.data.toList=[])∧(QI a.kind≤a.n∧a.n≤Jp a.kind)∧(a.kind≠4→a.note=Ah)∧AZ a.note=0:=by
 unfold Ap at h
 by_cases h1:a.kind < 1∨9 < a.kind
 ·rw[if_pos h1] at h;cases h
 rw[if_neg h1] at h
 by_cases h2:if FV a.kind=true then DT a.queue=false else a.queue.size≠0
 ·rw[if_pos h2] at h;cases h
 rw[if_neg h2] at h
 by_cases h3:a.n < QI a.kind∨Jp a.kind < a.n
 ·rw[if_pos h3] at h;cases h
 rw[if_neg h3] at h
 by_cases h4:a.kind≠4∧0 < a.note.props.length+a.note.body.length
 ·rw[if_pos h4] at h;cases h
 rw[if_neg h4] at h
 refine ⟨by omega,fun hn=> ?_,fun hn=> ?_,by omega,fun hk=> Hb (by omega),h⟩
 ·rw[if_pos hn] at h2;simpa using h2
 ·rw[if_neg (by simp[hn])] at h2
  have h2:a.queue.size=0:=by simpa using h2
  exact List.eq_nil_of_length_eq_zero h2
theorem Abj {a:AX} (h:Ap a=0):(∀w∈GX a,Hr w)∧GX a≠[]∧(Lib.join (GX a) [32]).length < 399∧(GX a).length≤10:=by
 obtain ⟨h1,h2,h3,h4,h5,h6⟩:=Ju h
 have hw:∀i:Fin 9,(∀b∈Cj.getD i.val [],32 < b.toNat)∧(Cj.getD i.val []).length≤5:=by decide+kernel
 obtain ⟨w1,w2⟩:=hw ⟨(a.kind - 1).toNat,by omega⟩
 simp only at w1 w2
 have hq:Hr a.queue.data.toList∧a.queue.data.toList.length≤8:=by
  cases hn:FV a.kind
  ·rw[h3 hn];exact ⟨Q7,by simp⟩
  ·obtain ⟨q1,q2,q3⟩:=Js (h2 hn)
   exact ⟨fun b hb=> by have:=q1 b hb;omega,q3⟩
 have hn: -1073741824≤a.n∧a.n≤1073741824:=by
  unfold QI Jp at h4
  split at h4 <;> split at h4 <;> (try split at h4) <;> omega
 have hil:=G5 hn.1 hn.2
 have hns:=QQ h6
 have hnl:=R6 h6
 have hj:=S9 (GX a)
 have hsum:((GX a).map List.length).sum≤280∧(GX a).length≤10:=by
  unfold GX
  split <;> split <;> (try split) <;> simp only[List.map_append,List.map_cons,List.map_nil,List.sum_append,List.sum_cons,List.sum_nil,List.length_append,List.length_cons,List.length_nil] <;> omega
 refine ⟨fun w hw=> ?_,by simp[GX],by omega,hsum.2⟩
 ·unfold GX at hw
  rcases List.mem_append.1 hw with hw | hw
  ·rcases List.mem_append.1 hw with hw | hw
   ·rw[List.mem_singleton.1 hw];exact w1
   ·split at hw
    ·cases hw
    ·rw[List.mem_singleton.1 hw];exact hq.1
  ·split at hw
   ·rw[List.mem_singleton.1 hw];exact F2 _
   ·split at hw
    ·exact (hns w hw).1
    ·cases hw
theorem Zm:∀i:Fin 9,IA (Cj.getD i.val [])=(i.val:Int):=by decide+kernel
theorem Aav {s:A0} (h:Am s=0):(s.kind=2∧(1≤s.n∧s.n≤1073741824)∧(0≤s.m∧s.m≤3)∧s.err=0∧AZ s.note=0)∨(s.kind=4∧s=⟨4,0,0,s.err,Ah⟩∧0 < s.err∧s.err≤10)∨s=⟨1,0,0,0,Ah⟩∨s=⟨3,0,0,0,Ah⟩:=by
 unfold Am at h
 by_cases h1:s.kind < 1∨4 < s.kind
 ·rw[if_pos h1] at h;cases h
 rw[if_neg h1] at h
 by_cases h2:s.kind=2
 ·rw[if_pos h2] at h
  by_cases h3:s.n < 1∨1073741824 < s.n∨s.m < 0∨3 < s.m∨s.err≠0
  ·rw[if_pos h3] at h;cases h
  rw[if_neg h3] at h
  exact .inl ⟨h2,by omega,by omega,by omega,h⟩
 rw[if_neg h2] at h
 by_cases h3:s.n≠0∨s.m≠0∨(s.kind=4∧(s.err≤0∨10 < s.err))∨(s.kind≠4∧s.err≠0)
 ·rw[if_pos h3] at h;cases h
 rw[if_neg h3] at h
 by_cases h4:0 < s.note.props.length+s.note.body.length
 ·rw[if_pos h4] at h;cases h
 have hn:=Hb (n:=s.note) (by omega)
 obtain ⟨k,n,m,e,t⟩:=s
 simp only at h1 h2 h3 hn
 subst hn
 obtain rfl:n=0:=by omega
 obtain rfl:m=0:=by omega
 by_cases h5:k=4
 ·subst h5
  exact .inr (.inl ⟨rfl,rfl,by simp only;omega,by simp only;omega⟩)
 ·obtain rfl:e=0:=by omega
  have:k=1∨k=3:=by omega
  rcases this with rfl | rfl
  ·exact .inr (.inr (.inl rfl))
  ·exact .inr (.inr (.inr rfl))
theorem XR {l:Wd} (h:l.all (fun b=> decide (32 < b.toNat))=true):Hr l:=fun b hb=> by simpa using List.all_eq_true.1 h b hb
theorem AbS {s:A0} (h:Am s=0):(∀w∈Ht s,Hr w)∧Ht s≠[]∧(Lib.join (Ht s) [32]).length < 399∧(Ht s).length≤10:=by
 have hj:=S9 (Ht s)
 rcases Aav h with ⟨h2,hn,hm,he,hw⟩ | ⟨hk,hs,he1,he2⟩ | hs | hs
 ·have hns:=QQ hw
  have hnl:=R6 hw
  have hil:=G5 (n:=s.n) (by omega) (by omega)
  have him:=G5 (n:=s.m) (by omega) (by omega)
  have e:Ht s=[[43,105,116,101,109],Lib.itoa s.n,Lib.itoa s.m]++Da s.note:=by unfold Ht;rw[if_pos h2]
  rw[e] at hj ⊢
  simp only[List.map_append,List.map_cons,List.map_nil,List.sum_append,List.sum_cons,List.sum_nil,List.length_append,List.length_cons,List.length_nil] at hj
  refine ⟨fun w hw=> ?_,by simp,by omega,by simp only[List.length_append,List.length_cons,List.length_nil];omega⟩
  rcases List.mem_append.1 hw with hw | hw
  ·simp only[List.mem_cons,List.not_mem_nil,or_false] at hw
   rcases hw with rfl | rfl | rfl
   ·exact XR (by decide)
   ·exact F2 _
   ·exact F2 _
  ·exact (hns w hw).1
 ·have hil:=G5 (n:=s.err) (by omega) (by omega)
  have e:Ht s=[45::Lib.itoa s.err]:=by unfold Ht;rw[if_neg (by omega),if_neg (by omega),if_pos hk]
  rw[e] at hj ⊢
  simp only[List.map_cons,List.map_nil,List.sum_cons,List.sum_nil,List.length_cons,List.length_nil] at hj
  refine ⟨fun w hw=> ?_,by simp,by omega,by simp⟩
  rw[List.mem_singleton.1 hw]
  exact GS (by decide) (F2 _)
 ·rw[hs]
  exact ⟨fun w hw=> by rw[List.mem_singleton.1 hw];exact XR (by decide),by decide,by decide,by decide⟩
 ·rw[hs]
  exact ⟨fun w hw=> by rw[List.mem_singleton.1 hw];exact XR (by decide),by decide,by decide,by decide⟩
theorem Vs {k:Int} {q:Wd} {r:List Wd} (h:(E0 k q r).2=0):Ap (E0 k q r).1=0:=by
 cases r with
 | nil=> cases h
 | cons x r=>
  cases r with
  | cons y r=> cases h
  | nil=>
   rw[E0] at h ⊢
   by_cases hb:(Ak x).2=true
   ·rw[if_pos hb] at h ⊢;exact h
   ·rw[if_neg hb] at h;cases h
theorem Pu {k:Int} {q:Wd} {r:List Wd} (h:(Di k q r).2=0):Ap (Di k q r).1=0:=by
 unfold Di at *
 by_cases h1:Gj k
 ·rw[if_pos h1] at h ⊢;exact Vs h
 rw[if_neg h1] at h ⊢
 by_cases h2:k=4
 ·rw[if_pos h2] at h ⊢
  by_cases h3:(CE [] r).2=true
  ·rw[if_pos h3] at h ⊢;exact h
  ·rw[if_neg h3] at h;cases h
 rw[if_neg h2] at h ⊢
 by_cases h3:r=[]
 ·rw[if_pos h3] at h ⊢;exact h
 ·rw[if_neg h3] at h;cases h
theorem Vt {l:List Wd} (h:(CD l).2=0):Ap (CD l).1=0:=by
 cases l with
 | nil=> cases h
 | cons w r=>
  rw[CD] at h ⊢
  by_cases h1:IA w+1=0
  ·rw[if_pos h1] at h;cases h
  rw[if_neg h1] at h ⊢
  by_cases h2:IA w+1≠1∧IA w+1≠7∧IA w+1≠8
  ·rw[if_pos h2] at h ⊢
   cases r with
   | nil=> cases h
   | cons q r=> exact Pu h
  ·rw[if_neg h2] at h ⊢;exact Pu h
theorem F8 {s:A0} {b:Bool} (h:(CO s b).2=0):Am (CO s b).1=0:=by
 cases b
 ·cases h
 ·exact h
theorem Vu {l:List Wd} (h:(Ej l).2=0):Am (Ej l).1=0:=by
 cases l with
 | nil=> cases h
 | cons w r=>
  rw[Ej] at h ⊢
  by_cases h1:w=[43,111,107]
  ·rw[if_pos h1] at h ⊢;exact F8 h
  rw[if_neg h1] at h ⊢
  by_cases h2:w=[43,110,111,110,101]
  ·rw[if_pos h2] at h ⊢;exact F8 h
  rw[if_neg h2] at h ⊢
  by_cases h3:w=[43,105,116,101,109]
  ·rw[if_pos h3] at h ⊢
   unfold QJ at *
   split
   ·exact F8 h
   ·simp at h
  rw[if_neg h3] at h ⊢
  by_cases h4:Lib.hasPrefix w [45]=true
  ·rw[if_pos h4] at h ⊢;exact F8 h
  ·rw[if_neg h4] at h;cases h
theorem RU {b:Wd} (h:(Bj b).2.2=0):1≤(Bj b).2.1∧(Bj b).2.1≤b.length∧(Bj b).2.1≤400:=by
 have hr:Lh b=-1∨(0≤Lh b∧Lh b < b.length):=IS
 unfold Bj at *
 by_cases h1:Lh b < 0∧(b.length:Int) < 400
 ·rw[if_pos h1] at h;cases h
 rw[if_neg h1] at h ⊢
 by_cases h2:Lh b < 0∨400≤Lh b
 ·rw[if_pos h2] at h;cases h
 rw[if_neg h2]
 simp only
 omega
theorem WJ (b:Wd):((Dw b).2.2=0∧Ap (Dw b).1=0∧1≤(Dw b).2.1∧(Dw b).2.1≤b.length∧(Dw b).2.1≤400)∨((Dw b).2.2≠0∧(Dw b).2.1=0∧(Dw b).1=At):=by
 unfold Dw
 by_cases h1:(Bj b).2.2≠0
 ·rw[if_pos h1];exact .inr ⟨h1,rfl,rfl⟩
 rw[if_neg h1]
 by_cases h2:(CD (Bj b).1).2≠0
 ·rw[if_pos h2];exact .inr ⟨h2,rfl,rfl⟩
 rw[if_neg h2]
 exact .inl ⟨rfl,Vt (by simpa using h2),RU (by simpa using h1)⟩
theorem WK (b:Wd):((Dx b).2.2=0∧Am (Dx b).1=0∧1≤(Dx b).2.1∧(Dx b).2.1≤b.length∧(Dx b).2.1≤400)∨((Dx b).2.2≠0∧(Dx b).2.1=0∧(Dx b).1=AE):=by
 unfold Dx
 by_cases h1:(Bj b).2.2≠0
 ·rw[if_pos h1];exact .inr ⟨h1,rfl,rfl⟩
 rw[if_neg h1]
 by_cases h2:(Ej (Bj b).1).2≠0
 ·rw[if_pos h2];exact .inr ⟨h2,rfl,rfl⟩
 rw[if_neg h2]
 exact .inl ⟨rfl,Vu (by simpa using h2),RU (by simpa using h1)⟩
end Go.Proofs.YtlkmgccikgnaeaaGreatDoor.Ab
