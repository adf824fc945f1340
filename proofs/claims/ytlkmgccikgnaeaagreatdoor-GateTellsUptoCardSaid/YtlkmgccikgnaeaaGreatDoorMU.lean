/-
  Texts of the proof, one behind the other: RlS RlT RlA RlB RlU RlV RlC RlD.
  No condition but those that each theorem names.
-/
import Derived.Test.YtlkmgccikgnaeaaGreatDoorMF
import Derived.Test.YtlkmgccikgnaeaaGreatDoorMG
import Derived.Test.YtlkmgccikgnaeaaGreatDoorMC
import Derived.Test.YtlkmgccikgnaeaaGreatDoorMI
import Derived.OrdersHeld
set_option linter.unusedVariables false
set_option linter.unusedSimpArgs false
set_option maxRecDepth 100000
set_option maxHeartbeats 16000000
namespace Go.Proofs.YtlkmgccikgnaeaaGreatDoor.Ab
open Go Go.RowKit
def Kc:Wd→Wd→Wd×Bool
 | acc,[]=> (acc,true)
 | acc,[c]=> if CF c < 0 then ([],false) else (acc,false)
 | acc,a::b::r=> if CF a < 0∨CF b < 0 then ([],false) else Kc (acc++[Lx a b]) r
theorem VN:∀(acc l:Wd),(Kc acc l).2=(Dc l).isSome∧∀v,Dc l=some v→(Kc acc l).1=acc++v
 | acc,[]=> ⟨rfl,fun v h=> by cases h;simp[Kc]⟩
 | acc,[c]=> by
  rw[Kc,Dc]
  refine ⟨?_,fun v h=> by cases h⟩
  split <;> rfl
 | acc,a::b::r=> by
  obtain ⟨h1,h2⟩:=VN (acc++[Lx a b]) r
  rw[Kc,Dc]
  split
  ·exact ⟨rfl,fun v h=> by cases h⟩
  ·refine ⟨by rw[h1];simp,fun v h=> ?_⟩
   obtain ⟨u,hu,rfl⟩:=Option.map_eq_some_iff.1 h
   rw[h2 u hu]
   simp
theorem Ti:∀(acc l:Wd),(Kc acc l).1.length≤acc.length+l.length
 | acc,[]=> by simp[Kc]
 | acc,[c]=> by
  rw[Kc]
  split <;> simp
 | acc,a::b::r=> by
  have:=Ti (acc++[Lx a b]) r
  rw[Kc]
  split
  ·simp
  ·simp only[List.length_append,List.length_cons,List.length_nil] at this ⊢
   omega
theorem AaZ {l:Wd}:(Kc [] l).2=(CK l).2∧((CK l).2=true→(Kc [] l).1=(CK l).1):=by
 obtain ⟨h1,h2⟩:=VN [] l
 unfold CK
 refine ⟨h1,fun h=> ?_⟩
 cases hu:Dc l with
 | none=> rw[hu] at h;cases h
 | some v=> rw[h2 v hu];simp
def Gz (key s:Wd):AI×Bool:=
 if Lib.hasPrefix s [36]=true then (⟨bA key,2,0,bA (Kc [] (s.drop 1)).1⟩,(Kc [] (s.drop 1)).2)
 else if Lib.hasPrefix s [33]=true then (⟨bA key,3,(Ak (s.drop 1)).1,⟨#[]⟩⟩,(Ak (s.drop 1)).2)
 else (⟨bA key,1,(Ak s).1,⟨#[]⟩⟩,(Ak s).2)
theorem J1 {c:UInt8} {s:Wd} (h:Lib.hasPrefix s [c]=true):Lib.trimPrefix s [c]=s.drop 1:=by
 unfold Lib.trimPrefix
 rw[if_pos h]
 rfl
theorem Q2 (k s:Wd):(Gz k s).2=(E3 k s).2∧((E3 k s).2=true→(Gz k s).1=(E3 k s).1):=by
 unfold Gz E3
 by_cases h1:Lib.hasPrefix s [36]=true
 ·rw[if_pos h1,if_pos h1,J1 h1]
  obtain ⟨h2,h3⟩:=@AaZ (s.drop 1)
  exact ⟨h2,fun h=> by simp only;rw[h3 h]⟩
 ·rw[if_neg h1,if_neg h1]
  by_cases h2:Lib.hasPrefix s [33]=true
  ·rw[if_pos h2,if_pos h2,J1 h2]
   exact ⟨rfl,fun _=> rfl⟩
  ·rw[if_neg h2,if_neg h2]
   exact ⟨rfl,fun _=> rfl⟩
def Fj:List AI→List Wd→AP×Bool
 | ps,[]=> (⟨ps,[]⟩,false)
 | ps,w::r=>
  if Lib.hasPrefix w [35]=true then (⟨ps,(Kc [] (w.drop 1)).1⟩,(Kc [] (w.drop 1)).2&&r.isEmpty)
  else if (Lib.cut w [61]).2.2=false then (⟨ps,[]⟩,false)
  else if (Gz (Lib.cut w [61]).1 (Lib.cut w [61]).2.1).2=false then (⟨ps,[]⟩,false)
  else Fj (ps++[(Gz (Lib.cut w [61]).1 (Lib.cut w [61]).2.1).1]) r
theorem KC:∀(l:List Wd) (ps:List AI),(Fj ps l).2=(CE ps l).2∧((CE ps l).2=true→(Fj ps l).1=(CE ps l).1)
 | [],ps=> ⟨rfl,fun h=> by cases h⟩
 | w::r,ps=> by
  rw[Fj,CE]
  by_cases h1:Lib.hasPrefix w [35]=true
  ·rw[if_pos h1,if_pos h1,J1 h1]
   obtain ⟨h2,h3⟩:=@AaZ (w.drop 1)
   refine ⟨by simp only;rw[h2],fun h=> ?_⟩
   simp only[Bool.and_eq_true] at h
   simp only
   rw[h3 h.1]
  ·rw[if_neg h1,if_neg h1]
   by_cases h2:(Lib.cut w [61]).2.2=false
   ·rw[if_pos h2,if_pos h2]
    exact ⟨rfl,fun h=> by cases h⟩
   ·rw[if_neg h2,if_neg h2]
    obtain ⟨h3,h4⟩:=Q2 (Lib.cut w [61]).1 (Lib.cut w [61]).2.1
    rw[h3]
    by_cases h5:(E3 (Lib.cut w [61]).1 (Lib.cut w [61]).2.1).2=false
    ·rw[if_pos h5,if_pos h5]
     exact ⟨rfl,fun h=> by cases h⟩
    ·rw[if_neg h5,if_neg h5,h4 (by simpa using h5)]
     exact KC r _
def Hn (n:AP):Wd:=(n.props.flatMap fun p=> [32]++p.key.data.toList++[61]++BU p)++[32,35]++FS n.body
def DD:List Wd:=[]::Cj
def VE (a:AX):Wd:=
 DD.getD a.kind.toNat []++(if a.queue.data.toList=[] then [] else [32]++a.queue.data.toList)++
 (if a.kind=2∨(6≤a.kind∧a.kind≤8) then [32]++Lib.itoa a.n else [])++(if a.kind=4 then Hn a.note else [])++[10]
def VM (s:A0):Wd:=
 if s.kind=2 then [43,105,116,101,109,32]++Lib.itoa s.n++[32]++Lib.itoa s.m++Hn s.note++[10]
 else if s.kind=3 then [43,110,111,110,101,10]
 else if s.kind=4 then [45]++Lib.itoa s.err++[10]
 else [43,111,107,10]
def GK (l:List Wd):Wd:=l.flatMap fun w=> 32::w
theorem Lz (w:Wd):∀l:List Wd,Lib.join (w::l) [32]=w++GK l
 | []=> by rw[Lib.join_one];simp[GK]
 | v::r=> by
  rw[G7,Lz v r]
  simp[GK]
theorem LN (a b:List Wd):GK (a++b)=GK a++GK b:=by simp[GK]
theorem PF (n:AP):GK (Da n)=Hn n:=by
 unfold Da Hn
 rw[LN]
 have h:∀l:List AI,GK (D2 l)=l.flatMap fun p=> [32]++p.key.data.toList++[61]++BU p:=fun l=> by
  induction l with
  | nil=> rfl
  | cons p r ih=>
   have e:D2 (p::r)=[p.key.data.toList++[61]++BU p]++D2 r:=rfl
   rw[e,LN,ih]
   simp[GK]
 rw[h]
 simp[GK]
theorem Y7 {a:AX} (h:Ap a=0):VE a=GH (GX a):=by
 obtain ⟨h1,h2,h3,h4,h5,h6⟩:=Ju h
 have e:GX a=Cj.getD (a.kind - 1).toNat []::((if a.queue.data.toList=[] then [] else [a.queue.data.toList])++(if a.kind=2∨a.kind=6∨a.kind=7∨a.kind=8 then [Lib.itoa a.n] else if a.kind=4 then Da a.note else [])):=rfl
 have en:DD.getD a.kind.toNat []=Cj.getD (a.kind - 1).toNat []:=by
  have:a.kind.toNat=(a.kind - 1).toNat+1:=by omega
  rw[this]
  rfl
 unfold GH
 rw[e,Lz,LN]
 unfold VE
 rw[en]
 congr 1
 rw[List.append_assoc,List.append_assoc]
 congr 1
 congr 1
 ·split <;> simp[GK]
 ·by_cases hk:a.kind=2∨a.kind=6∨a.kind=7∨a.kind=8
  ·rw[if_pos hk,if_pos (by omega),if_neg (by omega)]
   simp[GK]
  ·rw[if_neg hk,if_neg (by omega)]
   by_cases h4':a.kind=4
   ·rw[if_pos h4',if_pos h4',PF]
    simp
   ·rw[if_neg h4',if_neg h4']
    rfl
theorem Zc {s:A0} (h:Am s=0):VM s=GH (Ht s):=by
 unfold GH VM Ht
 by_cases h2:s.kind=2
 ·rw[if_pos h2,if_pos h2]
  show _=Lib.join ([43,105,116,101,109]::Lib.itoa s.n::Lib.itoa s.m::Da s.note) [32]++[10]
  rw[Lz]
  have e:∀(a b:Wd) (l:List Wd),GK (a::b::l)=32::a++(32::b++GK l):=fun a b l=> by simp[GK]
  rw[e,PF]
  simp
 ·rw[if_neg h2,if_neg h2]
  by_cases h3:s.kind=3
  ·rw[if_pos h3,if_pos h3]
   rfl
  ·rw[if_neg h3,if_neg h3]
   by_cases h4:s.kind=4
   ·rw[if_pos h4,if_pos h4,Lib.join_one]
    simp
   ·rw[if_neg h4,if_neg h4]
    rfl
theorem Qg {sub:Wd} (hs:sub≠[]):∀(m n:Nat) (s:Wd),s.length < m→s.length < n→Lib.countFrom sub m s=Lib.countFrom sub n s
 | 0,_,s,h,_=> by omega
 | m+1,0,s,_,h=> by omega
 | m+1,n+1,s,h1,h2=> by
  have hl:1≤sub.length:=by
   cases sub with
   | nil=> exact absurd rfl hs
   | cons a r=> simp
  simp only[Lib.countFrom]
  by_cases hi:Lib.index s sub=-1
  ·simp[hi]
  ·have h0:0≤Lib.index s sub:=by have:=Lib.index_ge s sub;omega
   have hr:=Lib.index_room s sub h0
   have hne:(Lib.index s sub==-1)=false:=by rw[beq_eq_false_iff_ne];exact hi
   simp only[hne,Bool.false_eq_true,if_false]
   rw[Qg hs m n _ (by rw[List.length_drop];omega) (by rw[List.length_drop];omega)]
theorem Zh {s sub:Wd} {k:Nat} (hs:sub≠[]) (h:Lib.index s sub=k):Lib.split s sub=s.take k::Lib.split (s.drop (k+sub.length)) sub:=by
 have hl:1≤sub.length:=by
  cases sub with
  | nil=> exact absurd rfl hs
  | cons a r=> simp
 have hr:=Lib.index_room s sub (by omega)
 have hne:((k:Int)==-1)=false:=by rw[beq_eq_false_iff_ne];omega
 have hc:Lib.count s sub=Lib.count (s.drop (k+sub.length)) sub+1:=by
  unfold Lib.count
  rw[Lib.countFrom,h,hne]
  simp only[Bool.false_eq_true,if_false,Int.toNat_natCast]
  rw[Qg hs s.length ((s.drop (k+sub.length)).length+1) _ (by rw[List.length_drop];omega) (by omega)]
  omega
 unfold Lib.split
 rw[hc,Lib.splitK,h,hne]
 simp only[Bool.false_eq_true,if_false,Int.toNat_natCast,Nat.add_zero]
theorem W8 {s sub:Wd} (h:Lib.index s sub=-1):Lib.split s sub=[s]:=by
 have hc:Lib.count s sub=0:=by
  unfold Lib.count
  rw[Lib.countFrom,h]
  rfl
 unfold Lib.split
 rw[hc]
 rfl
theorem LD {s sub:Wd} {i:Nat} (hi:i+sub.length≤s.length):((s.take (i+sub.length)).drop i==sub)=Lib.occAt s sub i:=by
 rw[Lib.occAt_iff_take s sub i hi,List.drop_take]
 congr 2
 omega
theorem AbL {s sub:Wd} {i:Nat} (hs:sub≠[]) (hi:s.length < i+sub.length):Lib.occAt s sub i=false:=by
 cases ho:Lib.occAt s sub i
 ·rfl
 ·rcases Lib.occAt_room ho with h | h
  ·omega
  ·exact absurd h hs
theorem QR (s sub:Wd) (f i:Nat):Lib.occAt (s.drop f) sub i=Lib.occAt s sub (f+i):=by
 unfold Lib.occAt
 rw[List.drop_drop]
theorem Kq {s sub:Wd} {k:Nat} (hk:k≤s.length) (h:Lib.occAt s sub k=true) (hn:∀j,j < k→Lib.occAt s sub j=false):Lib.index s sub=k:=Lib.index_first hk h hn
theorem Kp {s sub:Wd} {k:Nat} (hs:sub≠[]) (hk:s.length < k+sub.length) (hn:∀j,j < k→Lib.occAt s sub j=false):Lib.index s sub=-1:=Lib.index_none fun j _=> by
 by_cases h:j < k
 ·exact hn j h
 ·exact AbL hs (by omega)
theorem Xt {s sub:Wd} {k:Nat} (h:Lib.index s sub=k):Lib.cut s sub=(s.take k,s.drop (k+sub.length),true):=by
 unfold Lib.cut
 rw[h,if_pos (by omega),Int.toNat_natCast]
theorem U8 {s sub:Wd} (h:Lib.index s sub=-1):Lib.cut s sub=(s,[],false):=by
 unfold Lib.cut
 rw[h,if_neg (by omega)]
theorem Aao (x:Wd) (i:Nat) (hi:i < 10):(decide ((i:Int) > 0)&&(DD.getD i []==x))=decide (0 < i∧IA x+1=i):=by
 have h1:∀j:Fin 9,IA (Cj.getD j.val [])=(j.val:Int):=Zm
 cases i with
 | zero=> simp
 | succ k=>
  have hn:DD.getD (k+1) []=Cj.getD k []:=rfl
  rw[hn,Bool.eq_iff_iff]
  simp only[Bool.and_eq_true,decide_eq_true_eq,beq_iff_eq]
  constructor
  ·rintro ⟨_,rfl⟩
   have:=h1 ⟨k,by omega⟩
   simp only at this
   exact ⟨by omega,by rw[this];omega⟩
  ·rintro ⟨_,h⟩
   refine ⟨by omega,?_⟩
   by_cases hx:∃j:Fin 9,x=Cj.getD j.val []
   ·obtain ⟨j,rfl⟩:=hx
    have:=h1 j
    have:(j.val:Int)=k:=by omega
    have:j.val=k:=by omega
    rw[this]
   ·exfalso
    have hm:IA x=-1:=HI (d:=([]:Wd)) fun j hj=> by
     rw[beq_eq_false_iff_ne]
     exact fun e=> hx ⟨⟨j,hj⟩,e⟩
    omega
theorem UZ (l:Wd) (hl:l.length≤281474976710656):A8 Tryz.prog D 145 [.str l] ⟨.tup [.int .i64 (Ak l).1,.bool (Ak l).2],[]⟩:=by
 have hok:Cl Tryz.prog D (Ao [I1,AB]):=Ar _
 have g1:=Ag (T:=[I1,AB]) (E:=I1) (i:=0) rfl (by decide) (l) (hl)
 have g2:=Ag (T:=[I1,AB]) (E:=AB) (i:=1) rfl (by decide) ((EV l).1) (Pi l)
 generalize Ao [I1,AB]=G at *
 dsimp only[I1] at g1
 dsimp only[AB] at g2
 unfold Ak
 generalize (EV l).1=n at *
 generalize (EV l).2=e at *
 refine Bx (G:=G) (rs:=[(2,none),(3,none)]) hok Tryz.func145 Tryz.results145 Tryz.ntmps145 (fun _=> {}) fun X hP hD hG' hX=> ?_
 simp only[AU,Bz]
 simp (disch:=omega) only[go_sem,hD,hG',g1,Aa]
 refine Au.mk [] ?_
 simp (disch:=omega) only[go_sem,hD,hG',g2,Aa]
 and_intros
 all_goals (try (first | decide | omega | (first | (intro hk;refine ⟨hk,fun h2=> ?_⟩;first | (rw[hk,h2];rfl) | (rw[hk,decide_eq_false h2];rfl)) | (intro hk;rw[decide_eq_false hk];rfl) | (intro hk;rw[hk];rfl))))
 all_goals (first | (simp;done) | skip)
 all_goals (try (refine ⟨_,Wk.refl,_,rfl,[],[],rfl,rfl,?_,?_⟩ <;> simp only[go_sem]))
 all_goals (
  simp only[ge_iff_le]
  generalize decide (-1073741824≤n)=b1
  generalize decide (n≤1073741824)=b2
  generalize (Lib.itoa n==l)=b3
  cases e <;> cases b1 <;> cases b2 <;> cases b3 <;> rfl)
def AH:BH Tryz.prog D:=⟨145,Wd,fun l=> [.str l],fun l=> l.length≤281474976710656,fun l=> ⟨.tup [.int .i64 (Ak l).1,.bool (Ak l).2],[]⟩,fun x y _ _ h=> by
 simp only[List.cons.injEq,AV.str.injEq,and_true] at h
 rw[h],UZ⟩
theorem hx1 (c:UInt8):IntKind.u8.wrap ((c.toNat:Int).tdiv 16)=((c.toNat/16:Nat):Int):=by
 have h:∀n:Fin 256,IntKind.u8.wrap (((n.val:Nat):Int).tdiv 16)=((n.val/16:Nat):Int):=by decide+kernel
 exact h ⟨c.toNat,c.toNat_lt⟩
theorem hx2 (k:Nat) (h:k < 16):IntKind.u8.wrap ((k:Int)+1)=((k+1:Nat):Int):=by
 have h':∀n:Fin 16,IntKind.u8.wrap (((n.val:Nat):Int)+1)=((n.val+1:Nat):Int):=by decide+kernel
 exact h' ⟨k,h⟩
theorem hx3 (c:UInt8):(c.toNat:Int).tmod 16=((c.toNat%16:Nat):Int):=by
 rw[Int.tmod_eq_emod_of_nonneg (by omega)]
 omega
theorem hx5 (k:Nat) (h:k < 16):List.drop k (48::List.take k ([49,50,51,52,53,54,55,56,57,97,98,99,100,101,102]:Wd))=[Ko.getD k 0]:=by
 have h':∀n:Fin 16,List.drop n.val (48::List.take n.val ([49,50,51,52,53,54,55,56,57,97,98,99,100,101,102]:Wd))=[Ko.getD n.val 0]:=by decide+kernel
 exact h' ⟨k,h⟩
def W6:Nat→Lo:=fun _=> {}
theorem ZQ (l:Wd) (hl:l.length≤8388608):A8 Tryz.prog D 195 [.sl 1 (l.map Ac)] ⟨.str (FS l),[]⟩:=by
 have hok:Cl Tryz.prog D (Ao []):=Ar _
 generalize Ao []=G at *
 refine Bx (G:=G) (rs:=[(2,none)]) hok Tryz.func195 Tryz.results195 Tryz.ntmps195 (W6) fun X hP hD hG' hX=> ?_
 simp only[AU,Bz]
 simp (disch:=omega) only[go_sem,hD,hG',Aa]
 refine Tr.loop (ι:=Nat) (fun i=> i≤l.length) (fun i=> {nt:=29,tm:=[(3,.str (FS (l.take i))),(6,.sl 1 (l.map Ac)),(7,.int .i64 l.length),(8,.int .i64 i)],bl:=[]}) (fun i=> l.length - i) 0
  ⟨Nat.zero_le _,AG hD [] rfl rfl (by simp only[go_sem];simp[FS]) (by simp only[go_sem])⟩ ?_
 intro i hi
 refine Al hX W6 _ _ _ ?_
 simp (disch:=omega) only[go_sem,hD,hG',Aa]
 refine Ai (fun h=> ?_) (fun h=> ?_)
 ·rw[decide_eq_true_eq] at h
  have hi1:i < l.length:=by omega
  have hgx:=AD hi1
  have hti:=Sm hi1
  have htl:(FS (l.take i)).length≤2*l.length:=by rw[Dv,List.length_take];omega
  generalize l.getD i 0=c at *
  have hc:=c.toNat_lt
  have hex:Aae c=[Ko.getD (c.toNat/16) 0,Ko.getD (c.toNat%16) 0]:=rfl
  have q1:=hx1 c
  have q3:=hx3 c
  have k1:c.toNat/16 < 16:=by omega
  have k2:c.toNat%16 < 16:=by omega
  generalize c.toNat/16=u at *
  generalize c.toNat%16=v at *
  have q2:=hx2 u k1
  have q4:=hx2 v k2
  have q5:=hx5 u k1
  have q6:=hx5 v k2
  simp (disch:=omega) only[go_sem,hD,hG',hgx,W6,q1,q2,q3,q4,q5,q6,Int.toNat_natCast,Aa]
  (repeat (with_reducible refine aI ?_))
  refine ⟨i+1,⟨by omega,by omega⟩,AG hD [] rfl rfl ?_ ?_⟩ <;> simp only[go_sem]
  simp[hti,FS,hex]
 ·rw[decide_eq_false_iff_not] at h
  have hie:i=l.length:=by omega
  subst hie
  rw[List.take_length] at *
  simp (disch:=omega) only[go_sem,hD,hG',Aa]
  refine Aj [] [] (by simp) rfl rfl rfl ?_ ?_ <;> simp only[go_sem]
def I3:BH Tryz.prog D:=⟨195,Wd,fun l=> [.sl 1 (l.map Ac)],fun l=> l.length≤8388608,fun l=> ⟨.str (FS l),[]⟩,fun x y _ _ h=> by
 simp only[List.cons.injEq,AV.sl.injEq,true_and,and_true] at h
 rw[AN h],ZQ⟩
theorem Aaf (c:UInt8):(48≤c.toNat∧c.toNat≤57∧CF c=(c.toNat:Int) - 48)∨(97≤c.toNat∧c.toNat≤102∧CF c=(c.toNat:Int) - 97+10)∨(¬(48≤c.toNat∧c.toNat≤57)∧¬(97≤c.toNat∧c.toNat≤102)∧CF c=-1):=by
 have h:∀n:Fin 256,(48≤n.val∧n.val≤57∧CF (UInt8.ofNat n.val)=(n.val:Int) - 48)∨(97≤n.val∧n.val≤102∧CF (UInt8.ofNat n.val)=(n.val:Int) - 97+10)∨(¬(48≤n.val∧n.val≤57)∧¬(97≤n.val∧n.val≤102)∧CF (UInt8.ofNat n.val)=-1):=by decide+kernel
 have:=h ⟨c.toNat,c.toNat_lt⟩
 simpa using this
theorem WE (x y:UInt8) (hx:0≤CF x) (hy:0≤CF y):IntKind.wrap .u8 (16*CF x+CF y)=((Lx x y).toNat:Int):=by
 have h:∀a b:Fin 16,IntKind.wrap .u8 (16*(a.val:Int)+(b.val:Int))=((UInt8.ofNat (a.val*16+b.val)).toNat:Int):=by decide+kernel
 obtain ⟨_,h1⟩:=Dt x
 obtain ⟨_,h2⟩:=Dt y
 obtain ⟨a,ha⟩:=Int.eq_ofNat_of_zero_le hx
 obtain ⟨b,hb⟩:=Int.eq_ofNat_of_zero_le hy
 unfold Lx
 rw[ha,hb]
 exact h ⟨a,by omega⟩ ⟨b,by omega⟩
theorem Z1 {l:Wd} {i:Nat} (h:i < l.length):l.drop i=l.getD i 0::l.drop (i+1):=by
 rw[List.drop_eq_getElem_cons h]
 simp[h]
theorem Acf {n k:Int} (h0:k≤n) (hk:0≤k) (h1:n < 256):IntKind.u8.wrap (n - k)=n - k:=by
 have:IntKind.u8.wrap (n - k)=(n - k)%256:=by
  simp[IntKind.wrap,IntKind.bits,IntKind.signed]
 rw[this]
 omega
def Zs:Option UInt8→Int
 | none=> -1
 | some c=> CF c
def hfL:Option UInt8→Wd
 | none=> []
 | some c=> [c]
def Bu:Nat→Lo:=fun _=> {}
theorem Wm (l:Wd) (hl:l.length≤8388608):A8 Tryz.prog D 197 [.str l] ⟨.tup [.sl 1 ((Kc [] l).1.map Ac),.bool (Kc [] l).2],[]⟩:=by
 have hok:Cl Tryz.prog D (Ao []):=Ar _
 generalize Ao []=G at *
 have hcon:∀r,r=Kc [] l→A8 Tryz.prog D 197 [.str l] ⟨.tup [.sl 1 (r.1.map Ac),.bool r.2],[]⟩:=by
  intro r hr
  refine Bx (G:=G) (rs:=[(2,none),(3,none)]) hok Tryz.func197 Tryz.results197 Tryz.ntmps197 (Bu) fun X hP hD hG' hX=> ?_
  simp only[AU,Bz]
  simp (disch:=omega) only[go_sem,hD,hG',Bu,Aa]
  refine Tr.loop (ι:=Nat×Wd×Option UInt8) (fun x=> x.1≤l.length∧x.2.1.length≤x.1∧r=Kc x.2.1 (hfL x.2.2++l.drop x.1)∧∀c,x.2.2=some c→0≤CF c) (fun x=> {nt:=61,tm:=[(0,.str l),(4,.os 5000),(5,.int .i64 (Zs x.2.2)),(9,.int .i64 l.length),(10,.int .i64 x.1)],bl:=[(5000,some (.rows 5 1 (x.2.1.map Ac)))]}) (fun x=> l.length - x.1) (0,[],none)
   ⟨⟨Nat.zero_le _,by simp,by simpa[hfL] using hr,by simp⟩,AG hD [] rfl rfl (by simp only[go_sem];simp[Zs]) (by simp only[go_sem])⟩ ?_
  rintro ⟨i,out,hf⟩ ⟨hi,hol,hinv,hfc⟩
  simp only at hi hol hinv hfc
  refine Al hX Bu _ _ _ ?_
  simp (disch:=omega) only[go_sem,hD,hG',Bu,Aa]
  refine Ai (fun h=> ?_) (fun h=> ?_)
  ·rw[decide_eq_true_eq] at h
   have hi1:i < l.length:=by omega
   rw[Z1 hi1] at hinv
   have e1:(i:Int).toNat=i:=Int.toNat_natCast i
   generalize hx:l.getD i 0=c at *
   have hc:=c.toNat_lt
   have hcl:=Aaf c
   have hne:CF c < 0→r=([],false):=fun hn=> by
    rw[hinv]
    cases hf with
    | none=>
     simp only[hfL,List.nil_append]
     cases l.drop (i+1) with
     | nil=> rw[Kc,if_pos hn]
     | cons b t=> rw[Kc,if_pos (Or.inl hn)]
    | some x=>
     simp only[hfL,List.cons_append,List.nil_append]
     rw[Kc,if_pos (Or.inr hn)]
   have hno:hf=none→r=Kc out (hfL (some c)++l.drop (i+1)):=fun hn=> by rw[hinv,hn];rfl
   have hso:∀x,hf=some x→0≤CF c→r=Kc (out++[Lx x c]) (hfL none++l.drop (i+1)):=fun x hn h0=> by
    have:=hfc x hn
    rw[hinv,hn]
    simp only[hfL,List.cons_append,List.nil_append]
    rw[Kc,if_neg (by omega)]
   have hbb:=fun x (hn:hf=some x)=> WE x c (hfc x hn)
   have hrg:=Dt c
   rcases hcl with ⟨c1,c2,hI⟩ | ⟨c1,c2,hI⟩ | ⟨c1,c2,hI⟩
   ·have d1:decide ((c.toNat:Int)≥48)=true:=by simp only[decide_eq_true_eq];omega
    have d2:decide ((c.toNat:Int)≤57)=true:=by simp only[decide_eq_true_eq];omega
    have d3:decide ((c.toNat:Int)≥97)=false:=by simp only[decide_eq_false_iff_not];omega
    have q1:=(Acf (n:=c.toNat) (k:=48) (by omega) (by omega) (by omega)).trans hI.symm
    simp (disch:=omega) only[go_sem,hD,hG',Bu,e1,hx,Aa]
    (repeat (with_reducible refine aI ?_))
    refine Au.mk [] ?_
    simp (disch:=omega) only[go_sem,hD,hG',Bu,e1,hx,d1,d2,d3,q1,Aa]
    (repeat (with_reducible refine aI ?_))
    refine Au.mk [(4,false)] ?_
    have d7:decide (CF c < 0)=false:=by simp only[decide_eq_false_iff_not];omega
    cases hf with
    | none=>
     have hno:=hno rfl
     simp (disch:=omega) only[go_sem,hD,hG',Bu,e1,hx,d1,d2,d3,q1,d7,Zs,Aa]
     (repeat (with_reducible refine aI ?_))
     refine ⟨(i+1,out,some c),⟨⟨by omega,by simp only;omega,hno,fun c1 h1=> by cases h1;omega⟩,by simp only;omega⟩,AG hD [(5000,5000)] rfl rfl ?_ ?_⟩ <;> simp only[go_sem]
     simp[Zs]
    | some x=>
     have hso:=hso x rfl (by omega)
     have hbb:=hbb x rfl (by omega)
     have h0:=hfc x rfl
     have d8:decide (CF x < 0)=false:=by simp only[decide_eq_false_iff_not];omega
     generalize Lx x c=z at *
     simp (disch:=omega) only[go_sem,hD,hG',Bu,e1,hx,d1,d2,d3,q1,d7,d8,Zs,hbb,Aa]
     (repeat (with_reducible refine aI ?_))
     refine ⟨(i+1,out++[z],none),⟨⟨by omega,by simp;omega,hso,fun c1 h1=> by cases h1⟩,by simp only;omega⟩,AG hD [(5000,56)] rfl rfl ?_ ?_⟩ <;> simp only[go_sem]
     ·simp[Zs]
     ·simp[Ac]
      have hrx:=Dt x
      rw[AA (x:=16*CF x) (by omega) (by omega),AA (x:=16*CF x+CF c) (by omega) (by omega),hbb]
   ·have d1:decide ((c.toNat:Int)≥48)=true:=by simp only[decide_eq_true_eq];omega
    have d2:decide ((c.toNat:Int)≤57)=false:=by simp only[decide_eq_false_iff_not];omega
    have d3:decide ((c.toNat:Int)≥97)=true:=by simp only[decide_eq_true_eq];omega
    have d4:decide ((c.toNat:Int)≤102)=true:=by simp only[decide_eq_true_eq];omega
    have q1:=Acf (n:=c.toNat) (k:=97) (by omega) (by omega) (by omega)
    have q2:=hI.symm
    simp (disch:=omega) only[go_sem,hD,hG',Bu,e1,hx,Aa]
    (repeat (with_reducible refine aI ?_))
    refine Au.mk [] ?_
    simp (disch:=omega) only[go_sem,hD,hG',Bu,e1,hx,d1,d2,d3,d4,q1,q2,Aa]
    (repeat (with_reducible refine aI ?_))
    refine Au.mk [] ?_
    have d7:decide (CF c < 0)=false:=by simp only[decide_eq_false_iff_not];omega
    cases hf with
    | none=>
     have hno:=hno rfl
     simp (disch:=omega) only[go_sem,hD,hG',Bu,e1,hx,d1,d2,d3,d4,q1,q2,d7,Zs,Aa]
     (repeat (with_reducible refine aI ?_))
     refine ⟨(i+1,out,some c),⟨⟨by omega,by simp only;omega,hno,fun c1 h1=> by cases h1;omega⟩,by simp only;omega⟩,AG hD [(5000,5000)] rfl rfl ?_ ?_⟩ <;> simp only[go_sem]
     simp[Zs]
    | some x=>
     have hso:=hso x rfl (by omega)
     have hbb:=hbb x rfl (by omega)
     have h0:=hfc x rfl
     have d8:decide (CF x < 0)=false:=by simp only[decide_eq_false_iff_not];omega
     generalize Lx x c=z at *
     simp (disch:=omega) only[go_sem,hD,hG',Bu,e1,hx,d1,d2,d3,d4,q1,q2,d7,d8,Zs,hbb,Aa]
     (repeat (with_reducible refine aI ?_))
     refine ⟨(i+1,out++[z],none),⟨⟨by omega,by simp;omega,hso,fun c1 h1=> by cases h1⟩,by simp only;omega⟩,AG hD [(5000,56)] rfl rfl ?_ ?_⟩ <;> simp only[go_sem]
     ·simp[Zs]
     ·simp[Ac]
      have hrx:=Dt x
      rw[AA (x:=16*CF x) (by omega) (by omega),AA (x:=16*CF x+CF c) (by omega) (by omega),hbb]
   ·have hk:c.toNat < 48∨(57 < c.toNat∧c.toNat < 97)∨102 < c.toNat:=by omega
    rcases hk with hk | hk | hk
    ·have d1:decide ((c.toNat:Int)≥48)=false:=by simp only[decide_eq_false_iff_not];omega
     have d3:decide ((c.toNat:Int)≥97)=false:=by simp only[decide_eq_false_iff_not];omega
     simp (disch:=omega) only[go_sem,hD,hG',Bu,e1,hx,Aa]
     (repeat (with_reducible refine aI ?_))
     refine Au.mk [(4,false)] ?_
     simp (disch:=omega) only[go_sem,hD,hG',Bu,e1,hx,d1,d3,Aa]
     (repeat (with_reducible refine aI ?_))
     refine Au.mk [(4,false)] ?_
     simp (disch:=omega) only[go_sem,hD,hG',Bu,e1,hx,d1,d3,Aa]
     (repeat (with_reducible refine aI ?_))
     refine Aj [] [] (by simp) rfl rfl rfl ?_ ?_ <;> simp only[go_sem]
     rw[hne (by omega)]
     simp
    ·have d1:decide ((c.toNat:Int)≥48)=true:=by simp only[decide_eq_true_eq];omega
     have d2:decide ((c.toNat:Int)≤57)=false:=by simp only[decide_eq_false_iff_not];omega
     have d3:decide ((c.toNat:Int)≥97)=false:=by simp only[decide_eq_false_iff_not];omega
     simp (disch:=omega) only[go_sem,hD,hG',Bu,e1,hx,Aa]
     (repeat (with_reducible refine aI ?_))
     refine Au.mk [] ?_
     simp (disch:=omega) only[go_sem,hD,hG',Bu,e1,hx,d1,d2,d3,Aa]
     (repeat (with_reducible refine aI ?_))
     refine Au.mk [(4,false)] ?_
     simp (disch:=omega) only[go_sem,hD,hG',Bu,e1,hx,d1,d2,d3,Aa]
     (repeat (with_reducible refine aI ?_))
     refine Aj [] [] (by simp) rfl rfl rfl ?_ ?_ <;> simp only[go_sem]
     rw[hne (by omega)]
     simp
    ·have d1:decide ((c.toNat:Int)≥48)=true:=by simp only[decide_eq_true_eq];omega
     have d2:decide ((c.toNat:Int)≤57)=false:=by simp only[decide_eq_false_iff_not];omega
     have d3:decide ((c.toNat:Int)≥97)=true:=by simp only[decide_eq_true_eq];omega
     have d4:decide ((c.toNat:Int)≤102)=false:=by simp only[decide_eq_false_iff_not];omega
     simp (disch:=omega) only[go_sem,hD,hG',Bu,e1,hx,Aa]
     (repeat (with_reducible refine aI ?_))
     refine Au.mk [] ?_
     simp (disch:=omega) only[go_sem,hD,hG',Bu,e1,hx,d1,d2,d3,d4,Aa]
     (repeat (with_reducible refine aI ?_))
     refine Au.mk [] ?_
     simp (disch:=omega) only[go_sem,hD,hG',Bu,e1,hx,d1,d2,d3,d4,Aa]
     (repeat (with_reducible refine aI ?_))
     refine Aj [] [] (by simp) rfl rfl rfl ?_ ?_ <;> simp only[go_sem]
     rw[hne (by omega)]
     simp
  ·rw[decide_eq_false_iff_not] at h
   have hie:l.drop i=[]:=List.drop_eq_nil_of_le (by omega)
   rw[hie] at hinv
   have hre:r=(out,hf.isNone):=by
    rw[hinv]
    cases hf with
    | none=> simp[hfL,Kc]
    | some x=>
     have:=hfc x rfl
     have:¬CF x < 0:=by omega
     simp[hfL,Kc,this]
   cases hf with
   | none=>
    simp (disch:=omega) only[go_sem,hD,hG',Bu,Zs,Aa]
    refine Aj [5000] [] (by simp) rfl rfl rfl ?_ ?_ <;> simp only[go_sem]
    rw[hre]
    simp
   | some x=>
    have:=hfc x rfl
    simp (disch:=omega) only[go_sem,hD,hG',Bu,Zs,Aa]
    refine Aj [5000] [] (by simp) rfl rfl rfl ?_ ?_ <;> simp only[go_sem]
    rw[hre]
    simp[this]
 exact hcon _ rfl
def DG:BH Tryz.prog D:=⟨197,Wd,fun l=> [.str l],fun l=> l.length≤8388608,fun l=> ⟨.tup [.sl 1 ((Kc [] l).1.map Ac),.bool (Kc [] l).2],[]⟩,fun x y _ _ h=> by
 simp only[List.cons.injEq,AV.str.injEq,and_true] at h
 rw[h],Wm⟩
theorem K2 (c:UInt8):∀s:Wd,Lib.hasPrefix s [c]=(decide ((s.length:Int) > 0)&&((s.getD 0 0).toNat:Int)==(c.toNat:Int))
 | []=> by simp[Lib.hasPrefix]
 | a::r=> by
  have hce:((a.toNat:Int)==(c.toNat:Int))=(a==c):=by
   rw[Bool.eq_iff_iff]
   simp only[beq_iff_eq]
   exact ⟨fun h=> UInt8.toNat_inj.1 (by omega),fun h=> by rw[h]⟩
  have hl:decide ((((a::r).length:Nat):Int) > 0)=true:=by simp only[decide_eq_true_eq,List.length_cons];omega
  rw[hl,Bool.true_and,List.getD_cons_zero,hce]
  simp[Lib.hasPrefix,List.isPrefixOf,Bool.beq_comm,eq_comm]
def HS:Nat→Lo:=fun id=> match id with | 6=> {uo:=[4,6],un:=[6]} | _=> {}
theorem Yk (key s:Wd) (hs:s.length≤8388608):A8 Tryz.prog D 199 [.str key,.str s] ⟨.tup [.agg (Aq (Gz key s).1),.bool (Gz key s).2],[]⟩:=by
 have hok:Cl Tryz.prog D (Ao [DG,AH]):=Ar _
 have hd1:(s.drop 1).length≤8388608:=by rw[List.length_drop];omega
 have g3:=Ag (T:=[DG,AH]) (E:=DG) (i:=0) rfl (by decide) (s.drop 1) (hd1)
 have g4:=Ag (T:=[DG,AH]) (E:=AH) (i:=1) rfl (by decide) (s.drop 1) (by show (s.drop 1).length≤281474976710656;omega)
 have g5:=Ag (T:=[DG,AH]) (E:=AH) (i:=1) rfl (by decide) (s) (by show s.length≤281474976710656;omega)
 generalize Ao [DG,AH]=G at *
 dsimp only[DG] at g3
 dsimp only[AH] at g4
 dsimp only[AH] at g5
 have hul:=Ti [] (s.drop 1)
 have p1:Lib.hasPrefix s [36]=(decide ((s.length:Int) > 0)&&((s.getD 0 0).toNat:Int)==36):=K2 36 s
 have p2:Lib.hasPrefix s [33]=(decide ((s.length:Int) > 0)&&((s.getD 0 0).toNat:Int)==33):=K2 33 s
 unfold Gz
 generalize Lib.hasPrefix s [36]=b1 at *
 generalize Lib.hasPrefix s [33]=b2 at *
 generalize Kc [] (s.drop 1)=u at *
 generalize Ak (s.drop 1)=n2 at *
 generalize Ak s=n1 at *
 obtain ⟨u1,u2⟩:=u
 obtain ⟨n21,n22⟩:=n2
 obtain ⟨n11,n12⟩:=n1
 simp only[List.length_nil] at g3 g4 g5 hul
 refine Bx (G:=G) (rs:=[(4,some 101),(5,none)]) hok Tryz.func199 Tryz.results199 Tryz.ntmps199 (HS) fun X hP hD hG' hX=> ?_
 simp only[AU,Bz]
 simp (disch:=omega) only[go_sem,hD,hG',HS,Aa]
 by_cases h0:s=[]
 ·subst h0
  have p1:b1=false:=p1
  have p2:b2=false:=p2
  subst p1 p2
  refine Au.mk [(3,false)] ?_
  have z0:(((0:Nat):Int) > 0)=False:=by simp
  simp (disch:=omega) only[go_sem,hD,hG',HS,z0,if_false,Aa]
  (repeat (with_reducible refine aI ?_))
  refine Au.mk [(3,false)] ?_
  simp (disch:=omega) only[go_sem,hD,hG',HS,z0,if_false,g5,Aa]
  refine Aj [] [] (by simp) rfl rfl rfl ?_ ?_ <;> simp only[go_sem]
  simp[Aq,bA,Aw,cov,Az,Af,Ad]
 have dl:decide ((s.length:Int) > 0)=true:=by simp only[decide_eq_true_eq];cases s with | nil=> exact absurd rfl h0 | cons a r=> simp only[List.length_cons];omega
 rw[dl,Bool.true_and] at p1 p2
 have p1:=p1.symm
 have p2:=p2.symm
 have hl0:0 < s.length:=by simp only[decide_eq_true_eq] at dl;omega
 refine Au.mk [] ?_
 cases b1
 ·simp (disch:=omega) only[go_sem,hD,hG',HS,dl,p1,p2,Aa]
  (repeat (with_reducible refine aI ?_))
  refine Au.mk [] ?_
  cases b2
  ·simp (disch:=omega) only[go_sem,hD,hG',HS,dl,p1,p2,g5,Aa]
   (repeat (with_reducible refine aI ?_))
   refine Aj [] [] (by simp) rfl rfl rfl ?_ ?_ <;> simp only[go_sem]
   simp[Aq,bA,Aw,cov,Az,Af,Ad]
  ·simp (disch:=omega) only[go_sem,hD,hG',HS,dl,p1,p2,List.take_length,g4,Aa]
   (repeat (with_reducible refine aI ?_))
   refine Aj [] [] (by simp) rfl rfl rfl ?_ ?_ <;> simp only[go_sem]
   simp[Aq,bA,Aw,cov,Az,Af,Ad]
 ·simp (disch:=omega) only[go_sem,hD,hG',HS,dl,p1,List.take_length,g3,Aa]
  (repeat (with_reducible refine aI ?_))
  refine Aj [] [] (by simp) rfl rfl rfl ?_ ?_ <;> simp only[go_sem]
  simp[Aq,bA,Aw,cov,Az,Af,Ad]
def Et:BH Tryz.prog D:=⟨199,Wd×Wd,fun x=> [.str x.1,.str x.2],fun x=> x.2.length≤8388608,fun x=> ⟨.tup [.agg (Aq (Gz x.1 x.2).1),.bool (Gz x.1 x.2).2],[]⟩,fun x y _ _ h=> by
 obtain ⟨a,b⟩:=x
 obtain ⟨a',b'⟩:=y
 simp only[List.cons.injEq,AV.str.injEq,and_true] at h
 rw[h.1,h.2],fun x h=> Yk x.1 x.2 h⟩
theorem ZO (s sub:Wd) (hs:s.length≤16777216) (hsub:1≤sub.length∧sub.length≤256):A8 Tryz.prog D 198 [.str s,.str sub] ⟨.tup [.str (Lib.cut s sub).1,.str (Lib.cut s sub).2.1,.bool (Lib.cut s sub).2.2],[]⟩:=by
 have hok:Cl Tryz.prog D (Ao []):=Ar _
 generalize Ao []=G at *
 have hcon:∀r,r=Lib.cut s sub→A8 Tryz.prog D 198 [.str s,.str sub] ⟨.tup [.str r.1,.str r.2.1,.bool r.2.2],[]⟩:=by
  intro r hr
  have hne:sub≠[]:=fun h=> by rw[h] at hsub;simp at hsub
  refine Bx (G:=G) (rs:=[(4,none),(5,none),(6,none)]) hok Tryz.func198 Tryz.results198 Tryz.ntmps198 (fun _=> {}) fun X hP hD hG' hX=> ?_
  simp only[AU,Bz]
  simp (disch:=omega) only[go_sem,hD,hG',Aa]
  refine Tr.loop (ι:=Nat) (fun i=> i≤s.length∧∀j,j < i→Lib.occAt s sub j=false) (fun i=> {nt:=36,tm:=[(0,.str s),(1,.str sub),(7,.int .i64 i)],bl:=[]}) (fun i=> s.length - i) 0
   ⟨⟨Nat.zero_le _,fun j hj=> absurd hj (Nat.not_lt_zero j)⟩,AG hD [] rfl rfl (by simp only[go_sem];simp) (by simp only[go_sem])⟩ ?_
  rintro i ⟨hi,hnot⟩
  refine Al hX (fun _=> {}) _ _ _ ?_
  simp (disch:=omega) only[go_sem,hD,hG',Aa]
  refine Ai (fun h=> ?_) (fun h=> ?_)
  ·rw[decide_eq_true_eq] at h
   have hi1:i+sub.length≤s.length:=by omega
   have ho:=LD hi1
   have e1:(i:Int).toNat=i:=Int.toNat_natCast i
   have e2:((i:Int)+(sub.length:Int)).toNat=i+sub.length:=by omega
   cases hp:Lib.occAt s sub i
   ·rw[hp] at ho
    simp (disch:=omega) only[go_sem,hD,hG',e1,e2,ho,Aa]
    (repeat (with_reducible refine aI ?_))
    refine ⟨i+1,⟨⟨by omega,fun j hj=> ?_⟩,by omega⟩,AG hD [] rfl rfl ?_ ?_⟩
    ·by_cases hji:j=i
     ·rw[hji];exact hp
     ·exact hnot j (by omega)
    all_goals simp only[go_sem]
    simp
   ·rw[hp] at ho
    have hx:=Xt (Kq (by omega) hp hnot)
    rw[hx] at hr
    simp (disch:=omega) only[go_sem,hD,hG',e1,e2,ho,List.take_length,Aa]
    (repeat (with_reducible refine aI ?_))
    refine Aj [] [] (by simp) rfl rfl rfl ?_ ?_ <;> simp only[go_sem]
    simp[hr]
  ·rw[decide_eq_false_iff_not] at h
   have hx:=U8 (Kp hne (k:=i) (by omega) hnot)
   rw[hx] at hr
   simp (disch:=omega) only[go_sem,hD,hG',Aa]
   refine Aj [] [] (by simp) rfl rfl rfl ?_ ?_ <;> simp only[go_sem]
   simp[hr]
 exact hcon _ rfl
def GD:BH Tryz.prog D:=⟨198,Wd×Wd,fun x=> [.str x.1,.str x.2],fun x=> x.1.length≤16777216∧(1≤x.2.length∧x.2.length≤256),fun x=> ⟨.tup [.str (Lib.cut x.1 x.2).1,.str (Lib.cut x.1 x.2).2.1,.bool (Lib.cut x.1 x.2).2.2],[]⟩,fun x y _ _ h=> by
 obtain ⟨a,b⟩:=x
 obtain ⟨a',b'⟩:=y
 simp only[List.cons.injEq,AV.str.injEq,and_true] at h
 rw[h.1,h.2],fun x h=> ZO x.1 x.2 h.1 h.2⟩
theorem Wl (s sub:Wd) (hs:s.length≤16777216) (hsub:1≤sub.length∧sub.length≤256):A8 Tryz.prog D 149 [.str s,.str sub] ⟨.sl 1 ((Lib.split s sub).map Ae),[]⟩:=by
 have hok:Cl Tryz.prog D (Ao []):=Ar _
 generalize Ao []=G at *
 have hcon:∀r,r=Lib.split s sub→A8 Tryz.prog D 149 [.str s,.str sub] ⟨.sl 1 (r.map Ae),[]⟩:=by
  intro r hr
  have hne:sub≠[]:=fun h=> by rw[h] at hsub;simp at hsub
  refine Bx (G:=G) (rs:=[(4,none)]) hok Tryz.func149 Tryz.results149 Tryz.ntmps149 (fun _=> {}) fun X hP hD hG' hX=> ?_
  simp only[AU,Bz]
  simp (disch:=omega) only[go_sem,hD,hG',Aa]
  refine Tr.loop (ι:=Nat×Nat×List Wd) (fun x=> x.1≤s.length∧x.2.1≤x.1∧x.2.2.length≤x.2.1∧r=x.2.2++Lib.split (s.drop x.2.1) sub∧∀j,x.2.1≤j→j < x.1→Lib.occAt s sub j=false) (fun x=> {nt:=44,tm:=[(0,.str s),(1,.str sub),(5,.os 5000),(6,.int .i64 x.2.1),(7,.int .i64 x.1)],bl:=[(5000,some (.rows 9 1 (x.2.2.map Ae)))]}) (fun x=> s.length - x.1) (0,0,[])
   ⟨⟨Nat.zero_le _,Nat.le_refl _,Nat.le_refl _,by simpa using hr,fun j _ hj=> absurd hj (Nat.not_lt_zero j)⟩,AG hD [] rfl rfl (by simp only[go_sem];simp) (by simp only[go_sem])⟩ ?_
  rintro ⟨i,f,out⟩ ⟨hi,hfi,hol,hinv,hnot⟩
  simp only at hi hfi hol hinv hnot
  refine Al hX (fun _=> {}) _ _ _ ?_
  simp (disch:=omega) only[go_sem,hD,hG',Aa]
  have e1:(i:Int).toNat=i:=Int.toNat_natCast i
  have e3:(f:Int).toNat=f:=Int.toNat_natCast f
  refine Ai (fun h=> ?_) (fun h=> ?_)
  ·rw[decide_eq_true_eq] at h
   have hi1:i+sub.length≤s.length:=by omega
   have ho:=LD hi1
   have e2:((i:Int)+(sub.length:Int)).toNat=i+sub.length:=by omega
   cases hp:Lib.occAt s sub i
   ·rw[hp] at ho
    simp (disch:=omega) only[go_sem,hD,hG',e1,e2,ho,Aa]
    (repeat (with_reducible refine aI ?_))
    refine ⟨(i+1,f,out),⟨⟨by omega,by simp only;omega,hol,hinv,fun j h1 hj=> ?_⟩,by simp only;omega⟩,AG hD [(5000,5000)] rfl rfl ?_ ?_⟩
    ·by_cases hji:j=i
     ·rw[hji];exact hp
     ·exact hnot j h1 (by simp only at hj;omega)
    all_goals simp only[go_sem]
    simp
   ·rw[hp] at ho
    have hx:Lib.index (s.drop f) sub=((i - f:Nat):Int):=Kq (by rw[List.length_drop];omega) (by rw[QR];rw[show f+(i - f)=i by omega];exact hp) (fun j hj=> by rw[QR];exact hnot _ (by omega) (by omega))
    rw[Zh hne hx,List.drop_drop,show f+(i - f+sub.length)=i+sub.length by omega,←List.drop_take] at hinv
    generalize hw:List.drop f (List.take i s)=w at *
    simp (disch:=omega) only[go_sem,hD,hG',e1,e2,e3,ho,hw,Aa]
    (repeat (with_reducible refine aI ?_))
    refine ⟨(i+sub.length,i+sub.length,out++[w]),⟨⟨by simp only;omega,Nat.le_refl _,by simp;omega,by simp[hinv],fun j h1 hj=> by simp only at h1 hj;omega⟩,by simp only;omega⟩,AG hD [(5000,30)] rfl rfl ?_ ?_⟩ <;> simp only[go_sem]
    ·simp
    ·simp[Ae]
  ·rw[decide_eq_false_iff_not] at h
   have hx:=W8 (Kp hne (s:=s.drop f) (sub:=sub) (k:=i - f) (by rw[List.length_drop];omega) (fun j hj=> by rw[QR];exact hnot _ (by omega) (by omega)))
   rw[hx] at hinv
   simp (disch:=omega) only[go_sem,hD,hG',e3,List.take_length,Aa]
   (repeat (with_reducible refine aI ?_))
   refine Aj [43] [] (by simp) rfl rfl rfl ?_ ?_ <;> simp only[go_sem]
   simp[hinv,Ae]
 exact hcon _ rfl
def Bm:BH Tryz.prog D:=⟨149,Wd×Wd,fun x=> [.str x.1,.str x.2],fun x=> x.1.length≤16777216∧(1≤x.2.length∧x.2.length≤256),fun x=> ⟨.sl 1 ((Lib.split x.1 x.2).map Ae),[]⟩,fun x y _ _ h=> by
 obtain ⟨a,b⟩:=x
 obtain ⟨a',b'⟩:=y
 simp only[List.cons.injEq,AV.str.injEq,and_true] at h
 rw[h.1,h.2],fun x h=> Wl x.1 x.2 h.1 h.2⟩
theorem UY (l:List Wd) (h1:l.length≤1048576) (h2:∀w∈l,w.length≤8388608):A8 Tryz.prog D 146 [.sl 1 (l.map Ae)] ⟨.tup [An (Fj [] l).1,.bool (Fj [] l).2],[]⟩:=by
 have hok:Cl Tryz.prog D (Ao [DG,GD,Et]):=Ar _
 have g2:=fun (w:Wd) (h:w.length≤8388608)=> Ag (T:=[DG,GD,Et]) (E:=DG) (i:=0) rfl (by decide) (w) (h)
 have g3:=fun (w:Wd) (h:w.length≤8388608)=> Ag (T:=[DG,GD,Et]) (E:=GD) (i:=1) rfl (by decide) ((w,[61])) (⟨by show w.length≤16777216;omega,by show 1≤([61]:Wd).length;decide,by show ([61]:Wd).length≤256;decide⟩)
 have g4:=fun (k w:Wd) (h:w.length≤8388608)=> Ag (T:=[DG,GD,Et]) (E:=Et) (i:=2) rfl (by decide) ((k,w)) (h)
 generalize Ao [DG,GD,Et]=G at *
 dsimp only[DG] at g2
 dsimp only[GD] at g3
 dsimp only[Et] at g4
 have hcon:∀r,r=Fj [] l→A8 Tryz.prog D 146 [.sl 1 (l.map Ae)] ⟨.tup [An r.1,.bool r.2],[]⟩:=by
  intro r hr
  refine Bx (G:=G) (rs:=[(2,some 25),(3,none)]) hok Tryz.func146 Tryz.results146 Tryz.ntmps146 (fun _=> {}) fun X hP hD hG' hX=> ?_
  simp only[AU,Bz]
  simp (disch:=omega) only[go_sem,hD,hG',Aa]
  refine Tr.loop (ι:=Nat×List AI) (fun x=> x.1≤l.length∧x.2.length≤x.1∧r=Fj x.2 (l.drop x.1)) (fun x=> {nt:=72,tm:=[(0,.sl 1 (l.map Ae)),(2,.ptr 2 0),(3,.bool false),(4,.ptr 4 0),(14,.sl 1 (l.map Ae)),(15,.int .i64 l.length),(16,.int .i64 x.1)],bl:=[(2,some (.cells [.nils,.nils])),(4,some (.cells [.os 5000,.nils])),(5000,some (.rows 101 4 (x.2.map Aq)))]}) (fun x=> l.length - x.1) (0,[])
   ⟨⟨Nat.zero_le _,by simp,by simpa using hr⟩,AG hD [(2,2),(4,4)] rfl rfl (by simp only[go_sem];simp) (by simp only[go_sem])⟩ ?_
  rintro ⟨i,ps⟩ ⟨hi,hpl,hinv⟩
  simp only at hi hpl hinv
  refine Al hX (fun _=> {}) _ _ _ ?_
  simp (disch:=omega) only[go_sem,hD,hG',Aa]
  refine Ai (fun h=> ?_) (fun h=> ?_)
  ·rw[decide_eq_true_eq] at h
   have hi1:i < l.length:=by omega
   have hgx:=Hi hi1
   have hdr:l.drop i=l.getD i []::l.drop (i+1):=by
    rw[List.drop_eq_getElem_cons hi1]
    simp[hi1]
   have hwl:=h2 _ (Dr (d:=[]) hi1)
   have hem:(l.drop (i+1)).isEmpty=((i:Int)+1==(l.length:Int)):=by
    rw[Bool.eq_iff_iff,List.isEmpty_iff,beq_iff_eq,List.drop_eq_nil_iff]
    omega
   rw[hdr,Fj,hem] at hinv
   generalize l.getD i []=w at *
   have p1:Lib.hasPrefix w [35]=(decide ((w.length:Int) > 0)&&((w.getD 0 0).toNat:Int)==35):=K2 35 w
   have g2:=g2 (w.drop 1) (by rw[List.length_drop];omega)
   have hul:=Ti [] (w.drop 1)
   rw[List.length_drop] at hul
   have g3:=g3 w hwl
   have hcl:=Hw w [61]
   have g4:=g4 (Lib.cut w [61]).1 (Lib.cut w [61]).2.1 (by omega)
   generalize Lib.hasPrefix w [35]=bw at *
   generalize Lib.cut w [61]=cw at *
   obtain ⟨c1,c2,c3⟩:=cw
   simp only at g3 g4 hinv
   generalize Kc [] (w.drop 1)=uw at *
   obtain ⟨u1,u2⟩:=uw
   simp only[List.length_nil] at g2 hinv hul
   generalize Gz c1 c2=pw at *
   obtain ⟨⟨p1',p2',p3',p4'⟩,pb⟩:=pw
   simp only[Aq] at g4
   simp only at hinv
   simp only[Ae] at hgx
   by_cases h0:w=[]
   ·subst h0
    have p1:bw=false:=p1
    subst p1
    simp only[Bool.false_eq_true,if_false] at hinv
    have z0:(((0:Nat):Int) > 0)=False:=by simp
    have z1:decide ((((0:Nat):Int)) > 0)=false:=by simp
    have z2:((([]:Wd).length:Nat):Int)=0:=rfl
    cases c3
    ·simp (disch:=omega) only[go_sem,hD,hG',hgx,z0,z1,if_false,g3,Aa]
     (repeat (with_reducible refine aI ?_))
     refine Au.mk [(3,false)] ?_
     simp (disch:=omega) only[go_sem,hD,hG',hgx,z0,z1,if_false,g3,Aa]
     (repeat (with_reducible refine aI ?_))
     refine Aj [5000] [] (by simp) rfl rfl rfl ?_ ?_ <;> simp only[go_sem]
     simp[hinv,An,Aw,cov,Az,Ad,Af]
    ·cases pb
     ·simp (disch:=omega) only[go_sem,hD,hG',hgx,z0,z1,if_false,g3,g4,Aa]
      (repeat (with_reducible refine aI ?_))
      refine Au.mk [(3,false)] ?_
      simp (disch:=omega) only[go_sem,hD,hG',hgx,z0,z1,if_false,g3,g4,Aa]
      (repeat (with_reducible refine aI ?_))
      refine Aj [5000] [] (by simp) rfl rfl rfl ?_ ?_ <;> simp only[go_sem]
      simp[hinv,An,Aw,cov,Az,Ad,Af]
     ·simp only[Bool.false_eq_true,Bool.true_eq_false,if_false] at hinv
      simp (disch:=omega) only[go_sem,hD,hG',hgx,z0,z1,if_false,g3,g4,Aa]
      (repeat (with_reducible refine aI ?_))
      refine Au.mk [(3,false)] ?_
      simp (disch:=omega) only[go_sem,hD,hG',hgx,z0,z1,if_false,g3,g4,Aa]
      (repeat (with_reducible refine aI ?_))
      refine ⟨(i+1,ps++[⟨p1',p2',p3',p4'⟩]),⟨⟨by omega,by simp;omega,hinv⟩,by simp only;omega⟩,AG hD [(2,2),(4,4),(5000,68)] rfl rfl ?_ ?_⟩ <;> simp only[go_sem]
      ·simp
      ·simp[Aq]
   have dl:decide ((w.length:Int) > 0)=true:=by simp only[decide_eq_true_eq];cases w with | nil=> exact absurd rfl h0 | cons a r=> simp only[List.length_cons];omega
   rw[dl,Bool.true_and] at p1
   have p1:=p1.symm
   have hl0:0 < w.length:=by simp only[decide_eq_true_eq] at dl;omega
   cases bw
   ·simp only[Bool.false_eq_true,if_false] at hinv
    cases c3
    ·simp (disch:=omega) only[go_sem,hD,hG',hgx,dl,p1,g3,Aa]
     (repeat (with_reducible refine aI ?_))
     refine Au.mk [] ?_
     simp (disch:=omega) only[go_sem,hD,hG',hgx,dl,p1,g3,Aa]
     (repeat (with_reducible refine aI ?_))
     refine Aj [5000] [] (by simp) rfl rfl rfl ?_ ?_ <;> simp only[go_sem]
     simp[hinv,An,Aw,cov,Az,Ad,Af]
    ·cases pb
     ·simp (disch:=omega) only[go_sem,hD,hG',hgx,dl,p1,g3,g4,Aa]
      (repeat (with_reducible refine aI ?_))
      refine Au.mk [] ?_
      simp (disch:=omega) only[go_sem,hD,hG',hgx,dl,p1,g3,g4,Aa]
      (repeat (with_reducible refine aI ?_))
      refine Aj [5000] [] (by simp) rfl rfl rfl ?_ ?_ <;> simp only[go_sem]
      simp[hinv,An,Aw,cov,Az,Ad,Af]
     ·simp only[Bool.false_eq_true,Bool.true_eq_false,if_false] at hinv
      simp (disch:=omega) only[go_sem,hD,hG',hgx,dl,p1,g3,g4,Aa]
      (repeat (with_reducible refine aI ?_))
      refine Au.mk [] ?_
      simp (disch:=omega) only[go_sem,hD,hG',hgx,dl,p1,g3,g4,Aa]
      (repeat (with_reducible refine aI ?_))
      refine ⟨(i+1,ps++[⟨p1',p2',p3',p4'⟩]),⟨⟨by omega,by simp;omega,hinv⟩,by simp only;omega⟩,AG hD [(2,2),(4,4),(5000,68)] rfl rfl ?_ ?_⟩ <;> simp only[go_sem]
      ·simp
      ·simp[Aq]
   ·rw[if_pos rfl] at hinv
    simp (disch:=omega) only[go_sem,hD,hG',hgx,dl,p1,List.take_length,g2,Aa]
    (repeat (with_reducible refine aI ?_))
    refine Au.mk [] ?_
    simp (disch:=omega) only[go_sem,hD,hG',hgx,dl,p1,List.take_length,g2,Aa]
    (repeat (with_reducible refine aI ?_))
    refine Au.mk [] ?_
    simp (disch:=omega) only[go_sem,hD,hG',Aa]
    (repeat (with_reducible refine aI ?_))
    refine Aj [5000] [] (by simp) rfl rfl rfl ?_ ?_ <;> simp only[go_sem]
    rw[hinv]
    cases u2 <;> simp[An,Aw,cov,Az,Ad,Af]
  ·rw[decide_eq_false_iff_not] at h
   have hie:l.drop i=[]:=List.drop_eq_nil_of_le (by omega)
   rw[hie,Fj] at hinv
   simp (disch:=omega) only[go_sem,hD,hG',Aa]
   refine Aj [5000] [] (by simp) rfl rfl rfl ?_ ?_ <;> simp only[go_sem]
   simp[hinv,An,Ah,Aw,cov,Az,Ad,Af]
 exact hcon _ rfl
section
variable {P:Program} {D:Nat→TI} {S N0:Nat→Prop} {B:Nat} {w0:W0} {σ:AS} {a:Act} {w w':World} {ρ:BI}
theorem Cu.putN (h:Cu D S N0 B w0 ρ σ a w) {d:Nat} (hd:d < σ.nt) (hn:get d σ.tm=none) (v:Value):Cu D S N0 B w0 ρ σ (a.put (some d) v) w:=
 (h.put hd (.junk v) (by simp[Ad])).retm fun t x hx=> by
  simp only[get]
  rw[if_neg (fun e=> by subst e;rw[hn] at hx;cases hx)]
  exact hx
theorem Cu.more (h:Cu D S N0 B w0 ρ σ a w) (j:Fw (fun _=> False) w.heap.size w w'):Cu D S N0 B w0 ρ σ a w':=by
 have:=(h.step (w':=w') (ks:=[]) (nw:=[]) (up:=[]) j.os j.tape j.output j.size (fun b hb _=> j.block b hb fun h=> h) (fun _ _ _=> rfl) (fun m hm=> by simp[AF] at hm) (fun m hm=> by simp[AF] at hm)
   (fun _ n y hy=> by simp[get] at hy) (fun n y b hn=> by simp[get] at hn) (fun n m y z b hn=> by simp[get] at hn) (fun n y z b hn=> by simp[get] at hn)).1
 rw[Iu] at this
 exact this
theorem Vj (w:World):Fw (fun _=> False) w.heap.size w w:=⟨rfl,rfl,rfl,Nat.le_refl _,fun _ _ _=> rfl⟩
theorem Fw.trans' {n:Nat} {w w' w'':World} (h:Fw (fun _=> False) n w w') (h':Fw (fun _=> False) w'.heap.size w' w'') (hn:n≤w'.heap.size):Fw (fun _=> False) n w w'':=
 ⟨h'.os.trans h.os,h'.tape.trans h.tape,h'.output.trans h.output,Nat.le_trans h.size h'.size,fun b hb hf=> (h'.block b (Nat.lt_of_lt_of_le hb hn) hf).trans (h.block b hb hf)⟩
theorem Abx {n:Nat} {w w':World} (h:Fw (fun _=> False) n w w') {b:Nat} (hb:n≤b) (o:Obj):Fw (fun _=> False) n w {w' with heap:=w'.heap.setIfInBounds b o}:=
 ⟨h.os,h.tape,h.output,by simpa using h.size,fun k hk hf=> by
  show (w'.heap.setIfInBounds b o)[k]? =_
  rw[Array.getElem?_setIfInBounds_ne (by omega)]
  exact h.block k hk hf⟩
theorem RD {t kt et:TypeId} (hu:P.underlying t=some (.map kt et)) {d:TypeDesc} (hk:P.underlying kt=some d) {W:World} {r:Nat} {es:Array MapEntry} {c:Nat} {k v:Value}
  (h0:W.heap[r]? =some (.map es c)) (hik:MapKept.IsKey d k) (hf:Instr.findNow d k es.toList 0=some none):
  (Instr.mapUpdate t (.map (some r)) k v).run P W=.ok () {W with heap:=W.heap.setIfInBounds r (.map (es.push ⟨k,v,c⟩) (c+1))}:=by
 simp[Instr.mapUpdate,run_underlying hu,MapKept.run_getObj_map h0,MapKept.run_checkKey hk hik,MapKept.run_findKey hk hf,MapKept.run_setObj_map _ h0,Result.andThen]
end
def Dg (l:List Nat):Array Bool:=((List.range 13).map fun i=> Cg i l).toArray
def XI (ops:Array Oper):Bool:=
 ops.size==13&&Region.noSelect ops&&
 Region.free .any ops (Dg []) 4&&(Region.ready .any ops (Dg [])).contains 4&&
 Region.free .any ops (Dg [4]) 5&&(Region.ready .any ops (Dg [4])).contains 5&&
 Region.free .any ops (Dg [4,5]) 6&&(Region.ready .any ops (Dg [4,5])).contains 6&&
 Region.free .any ops (Dg [4,5,6]) 8&&(Region.ready .any ops (Dg [4,5,6])).contains 8&&
 Region.free .any ops (Dg [4,5,6,8]) 9&&(Region.ready .any ops (Dg [4,5,6,8])).contains 9&&
 Region.ready .any ops (Dg [4,5,6,8,9])==[0,10]&&
 Region.ready .any ops (Dg [4,5,6,8,9,0])==[1,2,10]&&
 Region.ready .any ops (Dg [4,5,6,8,9,0,1])==[2,10]&&
 Region.ready .any ops (Dg [4,5,6,8,9,0,2])==[1,10]&&
 Region.ready .any ops (Dg [4,5,6,8,9,0,1,2])==[3,10]&&
 Region.ready .any ops (Dg [4,5,6,8,9,0,1,2,3])==[7,10]&&
 Region.ready .any ops (Dg [4,5,6,8,9,0,1,2,3,7])==[10]&&
 Region.ready .any ops (Dg [4,5,6,8,9,10])==[0]&&
 Region.ready .any ops (Dg [4,5,6,8,9,10,0])==[1,2]&&
 Region.ready .any ops (Dg [4,5,6,8,9,10,0,1])==[2]&&
 Region.ready .any ops (Dg [4,5,6,8,9,10,0,2])==[1]&&
 Region.ready .any ops (Dg [4,5,6,8,9,10,0,1,2])==[3]&&
 Region.ready .any ops (Dg [4,5,6,8,9,10,0,1,2,3])==[7]&&
 Region.ready .any ops (Dg [4,5,6,8,9,10,0,1,2,3,7])==[11]&&
 Region.ready .any ops (Dg [4,5,6,8,9,10,0,1,2,3,7,11])==[12]&&
 Region.ready .any ops (Dg [4,5,6,8,9,10,0,1,2,3,7,11,12])==[]
theorem Acv {a:Act} {l:List (Nat×Value)} (h:∀p∈l,a.eval (.tmp p.1)=p.2) {t:Nat} {v:Value} (ht:t < a.tmps.size) (hn:∀p∈l,t≠p.1):∀p∈(t,v)::l,(a.put (some t) v).eval (.tmp p.1)=p.2:=fun p hp=> by
 rcases List.mem_cons.1 hp with rfl | hp
 ·exact HC ht
 ·rw[Il (hn p hp)]
  exact h p hp
theorem Li (l:List Nat) (i:Nat):(Dg l).setIfInBounds i true=Dg (l++[i]):=by
 have hm:∀(j:Nat) (l:List Nat),Cg j (l++[i])=(Cg j l || decide (j=i)):=fun j l=> by
  induction l with
  | nil=> simp[Cg]
  | cons x r ih=>
   simp only[List.cons_append,Cg,ih]
   by_cases h:j=x <;> simp[h]
 apply Array.ext
 ·simp[Dg]
 ·intro j h1 h2
  rw[Array.getElem_setIfInBounds (by simpa using h1)]
  simp only[Dg,List.getElem_toArray,List.getElem_map,List.getElem_range,hm]
  by_cases h:i=j
  ·subst h;simp
  ·rw[if_neg h]
   simp[Ne.symm h]
section
variable {X:Cx} {γ:Nat→Value} {ops:Array Oper} {Qx:Exit→Act→World→Prop} {σ:AS} {ρ:BI} {wb:World}
structure Mc (X:Cx) (γ:Nat→Value) (σ:AS) (ρ:BI) (wb:World) (hv:List (Nat×Value)) (mp:Option (Nat×List MapEntry)) (a:Act) (w:World):Prop where
 st:Cu X.D X.S X.N0 X.B ⟨X.w0,γ⟩ ρ σ a wb
 fr:Fw (fun _=> False) wb.heap.size wb w
 hv:∀p∈hv,a.eval (.tmp p.1)=p.2
 mp:∀b es,mp=some (b,es)→wb.heap.size≤b∧b < w.heap.size∧w.heap[b]? =some (.map es.toArray es.length)
variable {hv:List (Nat×Value)} {mp:Option (Nat×List MapEntry)} {a:Act} {w:World} {K:Act→World→Prop}
theorem Mc.put (h:Mc X γ σ ρ wb hv mp a w) {t:Nat} (ht:t < σ.nt) (hn:get t σ.tm=none) (hp:∀p∈hv,t≠p.1) (v:Value):Mc X γ σ ρ wb ((t,v)::hv) mp (a.put (some t) v) w:=
 ⟨h.st.putN ht hn v,h.fr,Acv h.hv (by rw[h.st.nt.1];exact ht) hp,h.mp⟩
theorem Mc.frm (h:Mc X γ σ ρ wb hv mp a w) {w':World} (j:Fw (fun _=> False) w.heap.size w w'):Mc X γ σ ρ wb hv mp a w':=
 ⟨h.st,h.fr.trans' j h.fr.size,h.hv,fun b es e=> by
  obtain ⟨h1,h2,h3⟩:=h.mp b es e
  exact ⟨h1,Nat.lt_of_lt_of_le h2 j.size,by rw[j.block b h2 fun h=> h];exact h3⟩⟩
theorem Tb (h:Mc X γ σ ρ wb hv none a w) {i m T ty:Nat} {p:String} {af:Array Edge} (ho:ops[i]? =some ⟨some m,.makeMap T none,ty,p,af,none⟩) (hm:m < σ.nt) (hn:get m σ.tm=none) (hp:∀p∈hv,m≠p.1)
  (hK:∀a' w' b,Mc X γ σ ρ wb ((m,.map (some b))::hv) (some (b,[])) a' w'→K a' w'):wpOp X.P ops Qx i (fun a' w'=> Fw (fun _=> False) wb.heap.size wb w'∧K a' w') a w:=by
 refine Bd ho rfl (Ax (s:=Instr.makeMap T none) (v:=.map (some w.heap.size)) (w':=w.alloc (.map #[] 0)) rfl rfl ?_)
 have h1:=(h.frm (w':=w.alloc (.map #[] 0)) ⟨rfl,rfl,rfl,by simp,fun b hb _=> heap_alloc_old _ _ hb⟩).put hm hn hp (.map (some w.heap.size))
 exact ⟨h1.fr,hK _ _ w.heap.size ⟨h1.st,h1.fr,h1.hv,fun b es e=> by
  cases e
  exact ⟨h.fr.size,by simp,heap_alloc_new w _⟩⟩⟩
theorem DY {b:Nat} {es:List MapEntry} (h:Mc X γ σ ρ wb hv (some (b,es)) a w) {i m T kt et ty:Nat} {dk:TypeDesc} {k v:Value} {ko vo:Operand} {p:String} {af:Array Edge} (ho:ops[i]? =some ⟨none,.insert T (.tmp m) ko vo,ty,p,af,none⟩)
  (hko:a.eval ko=k) (hvo:a.eval vo=v) (hu:X.P.underlying T=some (.map kt et)) (hk:X.P.underlying kt=some dk) (hm:(m,Value.map (some b))∈hv) (hik:MapKept.IsKey dk k) (hf:Instr.findNow dk k es 0=some none)
  (hK:∀a' w',Mc X γ σ ρ wb hv (some (b,es++[⟨k,v,es.length⟩])) a' w'→K a' w'):wpOp X.P ops Qx i (fun a' w'=> Fw (fun _=> False) wb.heap.size wb w'∧K a' w') a w:=by
 obtain ⟨h1,h2,h3⟩:=h.mp b es rfl
 have hme:=h.hv _ hm
 simp only at hme
 have hrun:=RD (P:=X.P) (v:=v) hu hk h3 hik (by simpa using hf)
 have hex:execOp a.eval ⟨none,.insert T (.tmp m) ko vo,ty,p,af,none⟩=(do Instr.mapUpdate T (a.eval (.tmp m)) (a.eval ko) (a.eval vo);pure .skip):=rfl
 rw[hme,hko,hvo] at hex
 refine Bd ho rfl (Ri hex rfl hrun ?_)
 have hfr:=Abx h.fr h1 (Obj.map (es.toArray.push ⟨k,v,es.length⟩) (es.length+1))
 have e1:es.toArray.push ⟨k,v,es.length⟩=(es++[(⟨k,v,es.length⟩:MapEntry)]).toArray:=by simp
 refine ⟨hfr,hK _ _ ⟨h.st,hfr,h.hv,fun b' es' e=> ?_⟩⟩
 cases e
 refine ⟨h1,by simpa using h2,?_⟩
 show (w.heap.setIfInBounds b _)[b]? =_
 rw[Array.getElem?_setIfInBounds_self_of_lt h2,e1]
 simp
theorem EM (h:Mc X γ σ ρ wb hv mp a w) {i m s ty:Nat} {v:Value} {p:String} {af:Array Edge} (ho:ops[i]? =some ⟨some m,.move (.tmp s),ty,p,af,none⟩) (hs:(s,v)∈hv) (hm:m < σ.nt) (hn:get m σ.tm=none) (hp:∀p∈hv,m≠p.1)
  (hK:∀a' w',Mc X γ σ ρ wb ((m,v)::hv) mp a' w'→K a' w'):wpOp X.P ops Qx i (fun a' w'=> Fw (fun _=> False) wb.heap.size wb w'∧K a' w') a w:=by
 refine Bd ho rfl (Ax (s:=pure v) (v:=v) (w':=w) (by
  have hex:execOp a.eval ⟨some m,.move (.tmp s),ty,p,af,none⟩=(pure (.value (a.eval (.tmp s)))):=rfl
  rw[hex,h.hv _ hs]
  rfl) rfl ?_)
 exact ⟨h.fr,hK _ _ (h.put hm hn hp v)⟩
theorem XJ {b:Nat} {es:List MapEntry} (h:Mc X γ σ ρ wb hv (some (b,es)) a w) {i m r T kt et ty:Nat} {dk:TypeDesc} {k v z:Value} {ko:Operand} {p:String} {af:Array Edge} (ho:ops[i]? =some ⟨some r,.lookup T (.tmp m) ko false,ty,p,af,none⟩)
  (hko:a.eval ko=k) (hu:X.P.underlying T=some (.map kt et)) (hk:X.P.underlying kt=some dk) (hz:∀W,(zeroValue et).run X.P W=.ok z W) (hm:(m,Value.map (some b))∈hv) (hik:MapKept.IsKey dk k) (hl:Ey dk k z (es.map fun e=> (e.key,e.val))=some v)
  (hr:r < σ.nt) (hn:get r σ.tm=none) (hp:∀p∈hv,r≠p.1)
  (hK:∀a' w',Mc X γ σ ρ wb ((r,v)::hv) (some (b,es)) a' w'→K a' w'):wpOp X.P ops Qx i (fun a' w'=> Fw (fun _=> False) wb.heap.size wb w'∧K a' w') a w:=by
 obtain ⟨h1,h2,h3⟩:=h.mp b es rfl
 have hme:=h.hv _ hm
 simp only at hme
 obtain ⟨f,hf1,hf2⟩:=Ks (i:=0) (arr:=es) hl rfl
 have hex:execOp a.eval ⟨some r,.lookup T (.tmp m) ko false,ty,p,af,none⟩=(do pure (.value (←Instr.lookup T (a.eval (.tmp m)) (a.eval ko) false))):=rfl
 refine Bd ho rfl (Ax hex (v:=v) (w':=w) ?_ ⟨h.fr,hK _ _ (h.put hr hn hp v)⟩)
 rw[hme,hko]
 have:=Hg T kt et hu dk hk w b es.toArray es.length k false h3 z (hz w) hik f (by simpa using hf1)
 rw[this]
 simp[hf2]
theorem IP (hX:X.Ok) (h:Mc X γ σ ρ wb hv mp a w) {i r F ty s:Nat} {n:Int} {it:List UInt8} {p:String} {af:Array Edge} {ts:Array Nat} (ho:ops[i]? =some ⟨some r,.call ⟨.value (.func F),#[.tmp s],ts⟩,ty,p,af,none⟩)
  (hg:X.G F [.int .i64 n]=some ⟨.str it,[]⟩) (hs:(s,Value.int .i64 n)∈hv) (hr:r < σ.nt) (hn:get r σ.tm=none) (hp:∀p∈hv,r≠p.1)
  (hK:∀a' w',Mc X γ σ ρ wb ((r,.string ⟨⟨it⟩⟩)::hv) mp a' w'→K a' w'):wpOp X.P ops Qx i (fun a' w'=> Fw (fun _=> False) wb.heap.size wb w'∧K a' w') a w:=by
 refine Bd ho rfl ?_
 obtain ⟨⟨fn,hfn,hname,hbody⟩,hcon⟩:=hX.calls F _ _ hg
 have hst:=h.st.more h.fr
 have hse:=h.hv _ hs
 simp only at hse
 have hcall:=hcon w _ ρ #[a.eval (.tmp s)] hst.imOk (by
  rw[hse]
  exact ⟨rfl,fun i x v hx hv=> by
   match i with
   | 0=> simp at hx hv;subst hx hv;exact .int _ _
   | i+1=> simp at hx⟩)
 unfold Oper.wp
 have hex:(execOp a.eval ⟨some r,.call ⟨.value (.func F),#[.tmp s],ts⟩,ty,p,af,none⟩).run X.P w=.ok (.enter F #[a.eval (.tmp s)]) w:=by
  have hn':¬fn.name= "runtime.NumGoroutine":=by simpa using hname
  have hb':¬fn.body=none:=by rintro e;rw[e] at hbody;cases hbody
  have hv:a.eval (.func F)=.func (.func F) #[] #[]:=rfl
  simp[execOp,resolve,hv,Deferred.ofValue,invoke,callFunc,program,Sem.run,hfn,hn',hb']
 rw[hex,Oper.upon_enter]
 refine hcall.mono fun en w' hpost=> ?_
 obtain ⟨v,rfl,hfr,ρo,_,_,hrel,_⟩:=hpost
 rw[hrel.str_]
 have h1:=(h.frm hfr).put hr hn hp (.string ⟨⟨it⟩⟩)
 exact ⟨h1.fr,hK _ _ h1⟩
theorem Acy (h:Mc X γ σ ρ wb hv mp a w) {i ad x y T T2 ty:Nat} {u it:List UInt8} {p:String} {af:Array Edge} (ho:ops[i]? =some ⟨some ad,.binOp .add T (.tmp x) (.tmp y) T2,ty,p,af,none⟩)
  (hx:(x,Value.string ⟨⟨u⟩⟩)∈hv) (hy:(y,Value.string ⟨⟨it⟩⟩)∈hv) (hl:u.length+it.length≤1099511627776) (hm:ad < σ.nt) (hn:get ad σ.tm=none) (hp:∀p∈hv,ad≠p.1)
  (hK:∀a' w',Mc X γ σ ρ wb ((ad,.string ⟨⟨u++it⟩⟩)::hv) mp a' w'→K a' w'):wpOp X.P ops Qx i (fun a' w'=> Fw (fun _=> False) wb.heap.size wb w'∧K a' w') a w:=by
 have hex:execOp a.eval ⟨some ad,.binOp .add T (.tmp x) (.tmp y) T2,ty,p,af,none⟩=(do pure (.value (←(do eqGuard .add T (.tmp x) (.tmp y) (a.eval (.tmp x)) (a.eval (.tmp y));binOp .add T (a.eval (.tmp x)) (a.eval (.tmp y)))))):=rfl
 refine Bd ho rfl (Ax hex (v:=.string ⟨⟨u++it⟩⟩) (w':=w) ?_ ⟨h.fr,hK _ _ (h.put hm hn hp _)⟩)
 have e1:=h.hv _ hx
 have e2:=h.hv _ hy
 simp only at e1 e2
 rw[e1,e2]
 have z1:(⟨⟨u⟩⟩:ByteArray).size=u.length:=rfl
 have z2:(⟨⟨it⟩⟩:ByteArray).size=it.length:=rfl
 have ha:(⟨⟨u⟩⟩:ByteArray)++⟨⟨it⟩⟩=⟨⟨u++it⟩⟩:=ByteArray.ext (by simp)
 simp[eqGuard,binOp,Op.stringOp,ha,z1,z2,IntKind.max,IntKind.signed,IntKind.bits]
 omega
theorem Tr.mapcall (hX:X.Ok) {id:Nat} {Q:Exit→AS→Prop} (hrd:XI ops=true) {m m2 a1 l1 q r a2 l2 cl ad out s:Nat} {T kt et F T3 f1 f2 U S2 S3 U2 v off fo1 fo2:Nat} {k1 k2:Bool} {x1 x2 it u:List UInt8} {kind n c:Int} {cs:List AV} {fs:List (Nat×Nat)} {ts:Array Nat}
  {y0 y1 y2 y3 y4 y5 y6 y7 y8 y9 y10 y11 y12:Nat} {p0 p1 p2 p3 p4 p5 p6 p7 p8 p9 p10 p11 p12:String} {e0 e1 e2 e3 e4 e5 e6 e7 e8 e9 e10 e11 e12:Array Edge}
  (h0:ops[0]? =some ⟨some m,.makeMap T none,y0,p0,e0,none⟩) (h1:ops[1]? =some ⟨none,.insert T (.tmp m) (.const (.bool k1)) (.const (.string ⟨⟨x1⟩⟩)),y1,p1,e1,none⟩) (h2:ops[2]? =some ⟨none,.insert T (.tmp m) (.const (.bool k2)) (.const (.string ⟨⟨x2⟩⟩)),y2,p2,e2,none⟩)
  (h3:ops[3]? =some ⟨some m2,.move (.tmp m),y3,p3,e3,none⟩) (h4:ops[4]? =some ⟨some a1,.fieldAddr T3 (.tmp s) f1,y4,p4,e4,none⟩) (h5:ops[5]? =some ⟨some l1,.load U (.tmp a1),y5,p5,e5,none⟩)
  (h6:ops[6]? =some ⟨some q,.binOp .eql U (.tmp l1) (.const (.int .i64 c)) U2,y6,p6,e6,none⟩) (h7:ops[7]? =some ⟨some r,.lookup T (.tmp m2) (.tmp q) false,y7,p7,e7,none⟩)
  (h8:ops[8]? =some ⟨some a2,.fieldAddr T3 (.tmp s) f2,y8,p8,e8,none⟩) (h9:ops[9]? =some ⟨some l2,.load U (.tmp a2),y9,p9,e9,none⟩) (h10:ops[10]? =some ⟨some cl,.call ⟨.value (.func F),#[.tmp l2],ts⟩,y10,p10,e10,none⟩)
  (h11:ops[11]? =some ⟨some ad,.binOp .add S2 (.tmp r) (.tmp cl) S3,y11,p11,e11,none⟩) (h12:ops[12]? =some ⟨some out,.assign (.tmp ad),y12,p12,e12,none⟩)
  (hu:X.P.underlying T=some (.map kt et)) (hk:X.P.underlying kt=some .bool) (hz:∀W,(zeroValue et).run X.P W=.ok (.string ⟨#[]⟩) W) (hk12:k1=!k2) (hlk:u=if (kind==c)=k1 then x1 else x2)
  (hg:X.G F [.int .i64 n]=some ⟨.str it,[]⟩) (hul:u.length+it.length≤1099511627776)
  (hU:Cc (X.D U).k=false∧(∀fs,(X.D U).k≠.struct fs)) (hk3:(X.D T3).k=.struct fs) (hf1:fs[f1]? =some (fo1,U)) (hf2:fs[f2]? =some (fo2,U)) (hE:ev σ (.tmp s)=.ptr v off) (hbl:blk σ v=some (.cells cs)) (hc1:cs[off+fo1]? =some (.int .i64 kind)) (hc2:cs[off+fo2]? =some (.int .i64 n))
  (hlt:[m,m2,a1,l1,q,r,a2,l2,cl,ad,out].all (fun t=> decide (t < σ.nt))=true) (hnn:[m,m2,a1,l1,q,r,a2,l2,cl,ad].all (fun t=> (get t σ.tm).isNone)=true) (hdd:[s,m,m2,a1,l1,q,r,a2,l2,cl,ad].Nodup)
  (hQ:∀c σ',¬Q (.panic c) σ') (HQ:Q .normal {σ with tm:=(out,.str (u++it))::σ.tm}):Tr X (.region id ops true) Q σ:=by
 intro γ a w hst
 simp only[XI,Bool.and_eq_true,beq_iff_eq] at hrd
 obtain ⟨⟨⟨⟨⟨⟨⟨⟨⟨⟨⟨⟨⟨⟨⟨⟨⟨⟨⟨⟨⟨⟨⟨⟨⟨⟨⟨hsz,hns⟩,f4⟩,c4⟩,f5⟩,c5⟩,f6⟩,c6⟩,f8⟩,c8⟩,f9⟩,c9⟩,r1⟩,r2⟩,r3⟩,r4⟩,r5⟩,r6⟩,r7⟩,r8⟩,r9⟩,r10⟩,r11⟩,r12⟩,r13⟩,r14⟩,r15⟩,r16⟩:=hrd
 simp only[List.all_cons,List.all_nil,Bool.and_true,Bool.and_eq_true,decide_eq_true_eq,Option.isNone_iff_eq_none] at hlt hnn
 obtain ⟨t0,t1,t2,t3,t4,t5,t6,t7,t8,t9,t10⟩:=hlt
 obtain ⟨g0,g1,g2,g3,g4,g5,g6,g7,g8,g9⟩:=hnn
 obtain ⟨ρ,hst⟩:=hst
 have hst:=hst.same (w':={w with drawn:=w.drawn+1}) rfl rfl rfl rfl
 refine wp_region_held (S:=Fw (fun _=> False) ({w with drawn:=w.drawn+1}:World).heap.size {w with drawn:=w.drawn+1}) hX.mixed ?_
 rw[hsz,show Array.replicate 13 false=Dg [] by decide]
 generalize ({w with drawn:=w.drawn+1}:World)=w at hst ⊢
 have hQ':∀(oi:Oper) (v:Value),∀(c:_) (a:Act) (w:World),(∃σ',Q (.panic c) σ'∧X.St γ σ' (a.put oi.dst v) w)→∃σ',Q (.panic c) σ'∧X.St γ σ' a w:=fun oi v c a w ⟨σ',h,_⟩=> absurd h (hQ c σ')
 obtain ⟨flds,hu3,hfb⟩:=F4 hX.types hk3
 have hv3:=(hst.ev (.tmp s)).1
 rw[hE] at hv3
 obtain ⟨b0,hb0,hv3⟩:∃b0,(ρ v).b=some b0∧a.eval (.tmp s)=.pointer (some ⟨b0,off,none⟩):=by
  generalize a.eval (.tmp s)=u at hv3
  cases hv3 with
  | ptr _ _ b h=> exact ⟨b,h,rfl⟩
 obtain ⟨b1,arr,T',z1,z2,z3,z4⟩:=hst.hp.blk v (.cells cs) hbl
 rw[hb0] at z1
 cases z1
 have hag:∀w,(isAgg U).run X.P w=.ok false w:=fun w=> by
  have:=Le hX.types (T:=U) hU.1 w
  rw[this]
  have h2:=hU.2
  cases hk:(X.D U).k <;> simp_all
 have hadr:∀(a:Act) (w:World) (t f fo ty:Nat) (p:String) (af:Array Edge),fs[f]? =some (fo,U)→a.eval (.tmp s)=.pointer (some ⟨b0,off,none⟩)→(execOp a.eval ⟨some t,.fieldAddr T3 (.tmp s) f,ty,p,af,none⟩).run X.P w=.ok (.value (.pointer (some ⟨b0,off+fo,none⟩))) w:=fun a w t f fo ty p af hf ha=> by
  obtain ⟨fd,g1,g2,g3,g4,g5⟩:=Ld hfb f fo U hf
  have hsz:(sizeOf fd.type).run X.P w=.ok (X.D U).n w:=by
   unfold PE at g4
   rw[g3]
   obtain ⟨i,hi,hi2⟩:=Option.map_eq_some_iff.1 g4
   simp[sizeOf,typeInfo,hi,hi2]
  have g1':flds[f]? =some fd:=by rw[←g1];simp
  have hex:execOp a.eval ⟨some t,.fieldAddr T3 (.tmp s) f,ty,p,af,none⟩=(do pure (.value (←Instr.fieldAt T3 (a.eval (.tmp s)) f))):=rfl
  rw[hex,ha]
  have hrun:(Instr.fieldAt T3 (.pointer (some ⟨b0,off,none⟩)) f).run X.P w=.ok (.pointer (some ⟨b0,off+fo,none⟩)) w:=by
   have h6:¬(X.D U).n=0:=by omega
   simp[Instr.fieldAt,run_underlying hu3,g1',Instr.sureAddr,fieldPlace,hsz,h6,g2,BV]
  simp only[Sem.run_bind,hrun,Result.andThen_ok,Sem.run_pure]
 have hload:∀(a:Act) (w':World) (t fo ty:Nat) (n:Int) (p:String) (af:Array Edge) (s:Nat),cs[off+fo]? =some (.int .i64 n)→a.eval (.tmp s)=.pointer (some ⟨b0,off+fo,none⟩)→Fw (fun _=> False) w.heap.size w w'→(execOp a.eval ⟨some t,.load U (.tmp s),ty,p,af,none⟩).run X.P w'=.ok (.value (.int .i64 n)) w':=fun a w' t fo ty n p af s hc ha hf=> by
  have hlt:off+fo < arr.size:=by have:=(List.getElem?_eq_some_iff.1 hc).1;omega
  obtain ⟨y1,y2⟩:=z4 (off+fo) _ arr[off+fo] hc (by simp[hlt])
  have hcell:w'.cell? ⟨b0,off+fo,none⟩=some (.int .i64 n):=by
   unfold World.cell?
   rw[hf.block b0 (Array.getElem?_eq_some_iff.1 z2).1 (fun h=> h),z2]
   have:=y2.int_
   simp[hlt,this]
  have hex:execOp a.eval ⟨some t,.load U (.tmp s),ty,p,af,none⟩=(do pure (.value (←Instr.loadAt U (a.eval (.tmp s))))):=rfl
  rw[hex,ha]
  simp[Instr.loadAt,Instr.sureAddr,loadVar,hag w',load,Sem.run,hcell]
 have hd1:=hdd
 have hd2:[ad,cl,l2,a2,r,q,l1,a1,m2,m,s].Nodup:=(List.pairwise_reverse (l:=[s,m,m2,a1,l1,q,r,a2,l2,cl,ad])).2 (hdd.imp Ne.symm)
 simp only[List.nodup_cons,List.mem_cons,List.not_mem_nil,or_false,not_or,List.nodup_nil,and_true] at hd1 hd2
 have m0:Mc X γ σ ρ w [(s,.pointer (some ⟨b0,off,none⟩))] none a w:=⟨hst,Vj w,fun p hp=> by
  simp at hp
  subst hp
  exact hv3,fun b es e=> by cases e⟩
 refine wpAnyH_take (i:=4) (v:=.pointer (some ⟨b0,off+fo1,none⟩)) h4 hns f4 c4 (hQ' _ _) (.inl ⟨rfl,fun w _=> hadr a w _ _ _ _ _ _ hf1 (m0.hv (s,_) (by simp))⟩) m0.fr ?_
 rw[Li]
 have m1:=m0.put t2 g2 (by simp[hd1,hd2]) (.pointer (some ⟨b0,off+fo1,none⟩))
 generalize a.put (some a1) _=a at m1 ⊢
 refine wpAnyH_take (i:=5) (v:=.int .i64 kind) h5 hns f5 c5 (hQ' _ _) (.inl ⟨rfl,fun w hw=> hload a w _ _ _ _ _ _ _ hc1 (m1.hv (a1,_) (by simp)) hw⟩) m1.fr ?_
 rw[Li]
 have m2':=m1.put t3 g3 (by simp[hd1,hd2]) (.int .i64 kind)
 generalize a.put (some l1) _=a at m2' ⊢
 refine wpAnyH_take (i:=6) (v:=.bool (kind==c)) h6 hns f6 c6 (hQ' _ _) (.inl ⟨rfl,fun w _=> by
  have hex:execOp a.eval ⟨some q,.binOp .eql U (.tmp l1) (.const (.int .i64 c)) U2,y6,p6,e6,none⟩=(do pure (.value (←(do eqGuard .eql U (.tmp l1) (.const (.int .i64 c)) (a.eval (.tmp l1)) (.int .i64 c);binOp .eql U (a.eval (.tmp l1)) (.int .i64 c))))):=rfl
  have e1:=m2'.hv (l1,_) (List.mem_cons_self ..)
  simp only at e1
  rw[hex,e1]
  simp[eqGuard,binOp,Op.intCmp]⟩) m2'.fr ?_
 rw[Li]
 have m3:=m2'.put t4 g4 (by simp[hd1,hd2]) (.bool (kind==c))
 generalize a.put (some q) _=a at m3 ⊢
 refine wpAnyH_take (i:=8) (v:=.pointer (some ⟨b0,off+fo2,none⟩)) h8 hns f8 c8 (hQ' _ _) (.inl ⟨rfl,fun w _=> hadr a w _ _ _ _ _ _ hf2 (m3.hv (s,_) (by simp))⟩) m3.fr ?_
 rw[Li]
 have m4:=m3.put t6 g6 (by simp[hd1,hd2]) (.pointer (some ⟨b0,off+fo2,none⟩))
 generalize a.put (some a2) _=a at m4 ⊢
 refine wpAnyH_take (i:=9) (v:=.int .i64 n) h9 hns f9 c9 (hQ' _ _) (.inl ⟨rfl,fun w hw=> hload a w _ _ _ _ _ _ _ hc2 (m4.hv (a2,_) (by simp)) hw⟩) m4.fr ?_
 rw[Li]
 have m5:=m4.put t7 g7 (by simp[hd1,hd2]) (.int .i64 n)
 generalize a.put (some l2) _=a at m5 ⊢
 have m5:Mc X γ σ ρ w [(q,.bool (kind==c)),(l2,.int .i64 n)] none a w:=⟨m5.st,m5.fr,fun p hp=> by
  simp only[List.mem_cons,List.not_mem_nil,or_false] at hp
  rcases hp with rfl | rfl
  ·exact m5.hv _ (by simp)
  ·exact m5.hv _ (by simp),fun b es e=> by cases e⟩
 clear m0 m1 m2' m3 m4
 have Mw:∀{hv hv':List (Nat×Value)} {mp:Option (Nat×List MapEntry)} {a:Act} {w':World},Mc X γ σ ρ w hv mp a w'→(∀p∈hv',p∈hv)→Mc X γ σ ρ w hv' mp a w':=fun h hs=> ⟨h.st,h.fr,fun p hp=> h.hv p (hs p hp),h.mp⟩
 have nE:∀(mp:Option (Nat×List MapEntry)) (a':Act) (w':World),Mc X γ σ ρ w [(r,.string ⟨⟨u⟩⟩),(cl,.string ⟨⟨it⟩⟩)] mp a' w'→wpAnyH X.P .any ops (fun e a w=> ∃σ',Q e σ'∧X.St γ σ' a w) (Fw (fun _=> False) w.heap.size w) 2 (Dg [4,5,6,8,9,10,0,1,2,3,7]) a' w':=fun mp a' w' hm=> by
  refine wpAnyH_all r14 (by simp) fun i hi=> ?_
  obtain rfl:i=11:=by simpa using hi
  refine Acy hm h11 (by simp) (by simp) hul t9 g9 (by simp[hd1,hd2]) fun a2 w2 hm2=> ?_
  rw[Li]
  refine wpAnyH_all r15 (by simp) fun i hi=> ?_
  obtain rfl:i=12:=by simpa using hi
  have e1:=hm2.hv (ad,_) (List.mem_cons_self ..)
  refine Bd h12 rfl (Ax (s:=pure (.string ⟨⟨u++it⟩⟩)) (v:=.string ⟨⟨u++it⟩⟩) (w':=w2) (by
   have hex:execOp a2.eval ⟨some out,.assign (.tmp ad),y12,p12,e12,none⟩=(pure (.value (a2.eval (.tmp ad)))):=rfl
   simp only at e1
   rw[hex,e1]
   rfl) rfl ⟨hm2.fr,?_⟩)
  rw[Li]
  exact wpAnyH_done r16 ⟨_,HQ,ρ,(hm2.st.put t10 (.str _) (by simp[Ad])).more hm2.fr⟩ 0
 have lkA:Ey .bool (.bool (kind==c)) (.string ⟨#[]⟩) ([(⟨.bool k1,.string ⟨⟨x1⟩⟩,0⟩:MapEntry),⟨.bool k2,.string ⟨⟨x2⟩⟩,1⟩].map fun e=> (e.key,e.val))=some (.string ⟨⟨u⟩⟩):=by
  rw[hlk,hk12]
  cases (kind==c) <;> cases k2 <;> rfl
 have lkB:Ey .bool (.bool (kind==c)) (.string ⟨#[]⟩) ([(⟨.bool k2,.string ⟨⟨x2⟩⟩,0⟩:MapEntry),⟨.bool k1,.string ⟨⟨x1⟩⟩,1⟩].map fun e=> (e.key,e.val))=some (.string ⟨⟨u⟩⟩):=by
  rw[hlk,hk12]
  cases (kind==c) <;> cases k2 <;> rfl
 have c3:∀(b:Nat) (es:List MapEntry) (a':Act) (w':World),Ey .bool (.bool (kind==c)) (.string ⟨#[]⟩) (es.map fun e=> (e.key,e.val))=some (.string ⟨⟨u⟩⟩)→Mc X γ σ ρ w [(cl,.string ⟨⟨it⟩⟩),(m2,.map (some b)),(q,.bool (kind==c))] (some (b,es)) a' w'→wpAnyH X.P .any ops (fun e a w=> ∃σ',Q e σ'∧X.St γ σ' a w) (Fw (fun _=> False) w.heap.size w) 3 (Dg [4,5,6,8,9,10,0,1,2,3]) a' w':=fun b es a' w' hes hm=> by
  refine wpAnyH_all r13 (by simp) fun i hi=> ?_
  obtain rfl:i=7:=by simpa using hi
  refine XJ (k:=.bool (kind==c)) hm h7 (hm.hv (q,.bool (kind==c)) (by simp)) hu hk hz (by simp) trivial hes t5 g5 (by simp[hd1,hd2]) fun a2 w2 h2=> ?_
  rw[Li]
  show wpAnyH X.P .any ops (fun e a w=> ∃σ',Q e σ'∧X.St γ σ' a w) (Fw (fun _=> False) w.heap.size w) _ (Dg [4,5,6,8,9,10,0,1,2,3,7]) _ _
  skip
  exact nE _ _ _ (Mw h2 (by simp))
 have c12:∀(b:Nat) (es:List MapEntry) (a':Act) (w':World),Ey .bool (.bool (kind==c)) (.string ⟨#[]⟩) (es.map fun e=> (e.key,e.val))=some (.string ⟨⟨u⟩⟩)→Mc X γ σ ρ w [(cl,.string ⟨⟨it⟩⟩),(m,.map (some b)),(q,.bool (kind==c))] (some (b,es)) a' w'→wpAnyH X.P .any ops (fun e a w=> ∃σ',Q e σ'∧X.St γ σ' a w) (Fw (fun _=> False) w.heap.size w) 4 (Dg [4,5,6,8,9,10,0,1,2]) a' w':=fun b es a' w' hes hm=> by
  refine wpAnyH_all r12 (by simp) fun i hi=> ?_
  obtain rfl:i=3:=by simpa using hi
  refine EM (v:=.map (some b)) hm h3 (by simp) t1 g1 (by simp[hd1,hd2]) fun a2 w2 h2=> ?_
  rw[Li]
  show wpAnyH X.P .any ops (fun e a w=> ∃σ',Q e σ'∧X.St γ σ' a w) (Fw (fun _=> False) w.heap.size w) _ (Dg [4,5,6,8,9,10,0,1,2,3]) _ _
  skip
  exact c3 b es _ _ hes (Mw h2 (by simp))
 have c1:∀(b:Nat) (es:List MapEntry) (a':Act) (w':World),es=[⟨.bool k1,.string ⟨⟨x1⟩⟩,0⟩]→Mc X γ σ ρ w [(cl,.string ⟨⟨it⟩⟩),(m,.map (some b)),(q,.bool (kind==c))] (some (b,es)) a' w'→wpAnyH X.P .any ops (fun e a w=> ∃σ',Q e σ'∧X.St γ σ' a w) (Fw (fun _=> False) w.heap.size w) 5 (Dg [4,5,6,8,9,10,0,1]) a' w':=fun b es a' w' hes hm=> by
  refine wpAnyH_all r10 (by simp) fun i hi=> ?_
  obtain rfl:i=2:=by simpa using hi
  refine DY (k:=.bool k2) (v:=.string ⟨⟨x2⟩⟩) hm h2 rfl rfl hu hk (by simp) trivial (by rw[hes,hk12];cases k2 <;> rfl) fun a2 w2 h2=> ?_
  rw[Li]
  show wpAnyH X.P .any ops (fun e a w=> ∃σ',Q e σ'∧X.St γ σ' a w) (Fw (fun _=> False) w.heap.size w) _ (Dg [4,5,6,8,9,10,0,1,2]) _ _
  skip
  exact c12 b _ _ _ (by rw[hes];exact lkA) (Mw h2 (by simp))
 have c2:∀(b:Nat) (es:List MapEntry) (a':Act) (w':World),es=[⟨.bool k2,.string ⟨⟨x2⟩⟩,0⟩]→Mc X γ σ ρ w [(cl,.string ⟨⟨it⟩⟩),(m,.map (some b)),(q,.bool (kind==c))] (some (b,es)) a' w'→wpAnyH X.P .any ops (fun e a w=> ∃σ',Q e σ'∧X.St γ σ' a w) (Fw (fun _=> False) w.heap.size w) 5 (Dg [4,5,6,8,9,10,0,2]) a' w':=fun b es a' w' hes hm=> by
  refine wpAnyH_all r11 (by simp) fun i hi=> ?_
  obtain rfl:i=1:=by simpa using hi
  refine DY (k:=.bool k1) (v:=.string ⟨⟨x1⟩⟩) hm h1 rfl rfl hu hk (by simp) trivial (by rw[hes,hk12];cases k2 <;> rfl) fun a2 w2 h2=> ?_
  rw[Li]
  show wpAnyH X.P .any ops (fun e a w=> ∃σ',Q e σ'∧X.St γ σ' a w) (Fw (fun _=> False) w.heap.size w) _ (Dg [4,5,6,8,9,10,0,2,1]) _ _
  rw[show Dg [4,5,6,8,9,10,0,2,1]=Dg [4,5,6,8,9,10,0,1,2] by decide]
  exact c12 b _ _ _ (by rw[hes];exact lkB) (Mw h2 (by simp))
 have c0:∀(b:Nat) (es:List MapEntry) (a':Act) (w':World),es=[]→Mc X γ σ ρ w [(cl,.string ⟨⟨it⟩⟩),(m,.map (some b)),(q,.bool (kind==c))] (some (b,es)) a' w'→wpAnyH X.P .any ops (fun e a w=> ∃σ',Q e σ'∧X.St γ σ' a w) (Fw (fun _=> False) w.heap.size w) 6 (Dg [4,5,6,8,9,10,0]) a' w':=fun b es a' w' hes hm=> by
  refine wpAnyH_all r9 (by simp) fun i hi=> ?_
  simp only[List.mem_cons,List.not_mem_nil,or_false] at hi
  rcases hi with rfl | rfl
  ·refine DY (k:=.bool k1) (v:=.string ⟨⟨x1⟩⟩) hm h1 rfl rfl hu hk (by simp) trivial (by rw[hes];rfl) fun a2 w2 h2=> ?_
   rw[Li]
   show wpAnyH X.P .any ops (fun e a w=> ∃σ',Q e σ'∧X.St γ σ' a w) (Fw (fun _=> False) w.heap.size w) _ (Dg [4,5,6,8,9,10,0,1]) _ _
   skip
   exact c1 b _ _ _ (by rw[hes];rfl) (Mw h2 (by simp))
  ·refine DY (k:=.bool k2) (v:=.string ⟨⟨x2⟩⟩) hm h2 rfl rfl hu hk (by simp) trivial (by rw[hes];rfl) fun a2 w2 h2=> ?_
   rw[Li]
   show wpAnyH X.P .any ops (fun e a w=> ∃σ',Q e σ'∧X.St γ σ' a w) (Fw (fun _=> False) w.heap.size w) _ (Dg [4,5,6,8,9,10,0,2]) _ _
   skip
   exact c2 b _ _ _ (by rw[hes];rfl) (Mw h2 (by simp))
 have cs:∀(a':Act) (w':World),Mc X γ σ ρ w [(cl,.string ⟨⟨it⟩⟩),(q,.bool (kind==c))] none a' w'→wpAnyH X.P .any ops (fun e a w=> ∃σ',Q e σ'∧X.St γ σ' a w) (Fw (fun _=> False) w.heap.size w) 7 (Dg [4,5,6,8,9,10]) a' w':=fun a' w' hm=> by
  refine wpAnyH_all r8 (by simp) fun i hi=> ?_
  obtain rfl:i=0:=by simpa using hi
  refine Tb hm h0 t0 g0 (by simp[hd1,hd2]) fun a2 w2 b h2=> ?_
  rw[Li]
  show wpAnyH X.P .any ops (fun e a w=> ∃σ',Q e σ'∧X.St γ σ' a w) (Fw (fun _=> False) w.heap.size w) _ (Dg [4,5,6,8,9,10,0]) _ _
  skip
  exact c0 b _ _ _ rfl (Mw h2 (by simp))
 have nL:∀(b:Nat) (es:List MapEntry) (a':Act) (w':World),Mc X γ σ ρ w [(r,.string ⟨⟨u⟩⟩),(l2,.int .i64 n)] (some (b,es)) a' w'→wpAnyH X.P .any ops (fun e a w=> ∃σ',Q e σ'∧X.St γ σ' a w) (Fw (fun _=> False) w.heap.size w) 3 (Dg [4,5,6,8,9,0,1,2,3,7]) a' w':=fun b es a' w' hm=> by
  refine wpAnyH_all r7 (by simp) fun i hi=> ?_
  obtain rfl:i=10:=by simpa using hi
  refine IP hX hm h10 hg (by simp) t8 g8 (by simp[hd1,hd2]) fun a2 w2 h2=> ?_
  rw[Li]
  show wpAnyH X.P .any ops (fun e a w=> ∃σ',Q e σ'∧X.St γ σ' a w) (Fw (fun _=> False) w.heap.size w) _ (Dg [4,5,6,8,9,0,1,2,3,7,10]) _ _
  rw[show Dg [4,5,6,8,9,0,1,2,3,7,10]=Dg [4,5,6,8,9,10,0,1,2,3,7] by decide]
  exact nE _ _ _ (Mw h2 (by simp))
 have n3:∀(b:Nat) (es:List MapEntry) (a':Act) (w':World),Ey .bool (.bool (kind==c)) (.string ⟨#[]⟩) (es.map fun e=> (e.key,e.val))=some (.string ⟨⟨u⟩⟩)→Mc X γ σ ρ w [(l2,.int .i64 n),(m2,.map (some b)),(q,.bool (kind==c))] (some (b,es)) a' w'→wpAnyH X.P .any ops (fun e a w=> ∃σ',Q e σ'∧X.St γ σ' a w) (Fw (fun _=> False) w.heap.size w) 4 (Dg [4,5,6,8,9,0,1,2,3]) a' w':=fun b es a' w' hes hm=> by
  refine wpAnyH_all r6 (by simp) fun i hi=> ?_
  simp only[List.mem_cons,List.not_mem_nil,or_false] at hi
  rcases hi with rfl | rfl
  ·refine XJ (k:=.bool (kind==c)) hm h7 (hm.hv (q,.bool (kind==c)) (by simp)) hu hk hz (by simp) trivial hes t5 g5 (by simp[hd1,hd2]) fun a2 w2 h2=> ?_
   rw[Li]
   show wpAnyH X.P .any ops (fun e a w=> ∃σ',Q e σ'∧X.St γ σ' a w) (Fw (fun _=> False) w.heap.size w) _ (Dg [4,5,6,8,9,0,1,2,3,7]) _ _
   skip
   exact nL _ _ _ _ (Mw h2 (by simp))
  ·refine IP hX hm h10 hg (by simp) t8 g8 (by simp[hd1,hd2]) fun a2 w2 h2=> ?_
   rw[Li]
   show wpAnyH X.P .any ops (fun e a w=> ∃σ',Q e σ'∧X.St γ σ' a w) (Fw (fun _=> False) w.heap.size w) _ (Dg [4,5,6,8,9,0,1,2,3,10]) _ _
   rw[show Dg [4,5,6,8,9,0,1,2,3,10]=Dg [4,5,6,8,9,10,0,1,2,3] by decide]
   exact c3 b es _ _ hes (Mw h2 (by simp))
 have n12:∀(b:Nat) (es:List MapEntry) (a':Act) (w':World),Ey .bool (.bool (kind==c)) (.string ⟨#[]⟩) (es.map fun e=> (e.key,e.val))=some (.string ⟨⟨u⟩⟩)→Mc X γ σ ρ w [(l2,.int .i64 n),(m,.map (some b)),(q,.bool (kind==c))] (some (b,es)) a' w'→wpAnyH X.P .any ops (fun e a w=> ∃σ',Q e σ'∧X.St γ σ' a w) (Fw (fun _=> False) w.heap.size w) 5 (Dg [4,5,6,8,9,0,1,2]) a' w':=fun b es a' w' hes hm=> by
  refine wpAnyH_all r5 (by simp) fun i hi=> ?_
  simp only[List.mem_cons,List.not_mem_nil,or_false] at hi
  rcases hi with rfl | rfl
  ·refine EM (v:=.map (some b)) hm h3 (by simp) t1 g1 (by simp[hd1,hd2]) fun a2 w2 h2=> ?_
   rw[Li]
   show wpAnyH X.P .any ops (fun e a w=> ∃σ',Q e σ'∧X.St γ σ' a w) (Fw (fun _=> False) w.heap.size w) _ (Dg [4,5,6,8,9,0,1,2,3]) _ _
   skip
   exact n3 b es _ _ hes (Mw h2 (by simp))
  ·refine IP hX hm h10 hg (by simp) t8 g8 (by simp[hd1,hd2]) fun a2 w2 h2=> ?_
   rw[Li]
   show wpAnyH X.P .any ops (fun e a w=> ∃σ',Q e σ'∧X.St γ σ' a w) (Fw (fun _=> False) w.heap.size w) _ (Dg [4,5,6,8,9,0,1,2,10]) _ _
   rw[show Dg [4,5,6,8,9,0,1,2,10]=Dg [4,5,6,8,9,10,0,1,2] by decide]
   exact c12 b es _ _ hes (Mw h2 (by simp))
 have n1:∀(b:Nat) (es:List MapEntry) (a':Act) (w':World),es=[⟨.bool k1,.string ⟨⟨x1⟩⟩,0⟩]→Mc X γ σ ρ w [(l2,.int .i64 n),(m,.map (some b)),(q,.bool (kind==c))] (some (b,es)) a' w'→wpAnyH X.P .any ops (fun e a w=> ∃σ',Q e σ'∧X.St γ σ' a w) (Fw (fun _=> False) w.heap.size w) 6 (Dg [4,5,6,8,9,0,1]) a' w':=fun b es a' w' hes hm=> by
  refine wpAnyH_all r3 (by simp) fun i hi=> ?_
  simp only[List.mem_cons,List.not_mem_nil,or_false] at hi
  rcases hi with rfl | rfl
  ·refine DY (k:=.bool k2) (v:=.string ⟨⟨x2⟩⟩) hm h2 rfl rfl hu hk (by simp) trivial (by rw[hes,hk12];cases k2 <;> rfl) fun a2 w2 h2=> ?_
   rw[Li]
   show wpAnyH X.P .any ops (fun e a w=> ∃σ',Q e σ'∧X.St γ σ' a w) (Fw (fun _=> False) w.heap.size w) _ (Dg [4,5,6,8,9,0,1,2]) _ _
   skip
   exact n12 b _ _ _ (by rw[hes];exact lkA) (Mw h2 (by simp))
  ·refine IP hX hm h10 hg (by simp) t8 g8 (by simp[hd1,hd2]) fun a2 w2 h2=> ?_
   rw[Li]
   show wpAnyH X.P .any ops (fun e a w=> ∃σ',Q e σ'∧X.St γ σ' a w) (Fw (fun _=> False) w.heap.size w) _ (Dg [4,5,6,8,9,0,1,10]) _ _
   rw[show Dg [4,5,6,8,9,0,1,10]=Dg [4,5,6,8,9,10,0,1] by decide]
   exact c1 b es _ _ hes (Mw h2 (by simp))
 have n2:∀(b:Nat) (es:List MapEntry) (a':Act) (w':World),es=[⟨.bool k2,.string ⟨⟨x2⟩⟩,0⟩]→Mc X γ σ ρ w [(l2,.int .i64 n),(m,.map (some b)),(q,.bool (kind==c))] (some (b,es)) a' w'→wpAnyH X.P .any ops (fun e a w=> ∃σ',Q e σ'∧X.St γ σ' a w) (Fw (fun _=> False) w.heap.size w) 6 (Dg [4,5,6,8,9,0,2]) a' w':=fun b es a' w' hes hm=> by
  refine wpAnyH_all r4 (by simp) fun i hi=> ?_
  simp only[List.mem_cons,List.not_mem_nil,or_false] at hi
  rcases hi with rfl | rfl
  ·refine DY (k:=.bool k1) (v:=.string ⟨⟨x1⟩⟩) hm h1 rfl rfl hu hk (by simp) trivial (by rw[hes,hk12];cases k2 <;> rfl) fun a2 w2 h2=> ?_
   rw[Li]
   show wpAnyH X.P .any ops (fun e a w=> ∃σ',Q e σ'∧X.St γ σ' a w) (Fw (fun _=> False) w.heap.size w) _ (Dg [4,5,6,8,9,0,2,1]) _ _
   rw[show Dg [4,5,6,8,9,0,2,1]=Dg [4,5,6,8,9,0,1,2] by decide]
   exact n12 b _ _ _ (by rw[hes];exact lkB) (Mw h2 (by simp))
  ·refine IP hX hm h10 hg (by simp) t8 g8 (by simp[hd1,hd2]) fun a2 w2 h2=> ?_
   rw[Li]
   show wpAnyH X.P .any ops (fun e a w=> ∃σ',Q e σ'∧X.St γ σ' a w) (Fw (fun _=> False) w.heap.size w) _ (Dg [4,5,6,8,9,0,2,10]) _ _
   rw[show Dg [4,5,6,8,9,0,2,10]=Dg [4,5,6,8,9,10,0,2] by decide]
   exact c2 b es _ _ hes (Mw h2 (by simp))
 have n0:∀(b:Nat) (es:List MapEntry) (a':Act) (w':World),es=[]→Mc X γ σ ρ w [(l2,.int .i64 n),(m,.map (some b)),(q,.bool (kind==c))] (some (b,es)) a' w'→wpAnyH X.P .any ops (fun e a w=> ∃σ',Q e σ'∧X.St γ σ' a w) (Fw (fun _=> False) w.heap.size w) 7 (Dg [4,5,6,8,9,0]) a' w':=fun b es a' w' hes hm=> by
  refine wpAnyH_all r2 (by simp) fun i hi=> ?_
  simp only[List.mem_cons,List.not_mem_nil,or_false] at hi
  rcases hi with rfl | rfl | rfl
  ·refine DY (k:=.bool k1) (v:=.string ⟨⟨x1⟩⟩) hm h1 rfl rfl hu hk (by simp) trivial (by rw[hes];rfl) fun a2 w2 h2=> ?_
   rw[Li]
   show wpAnyH X.P .any ops (fun e a w=> ∃σ',Q e σ'∧X.St γ σ' a w) (Fw (fun _=> False) w.heap.size w) _ (Dg [4,5,6,8,9,0,1]) _ _
   skip
   exact n1 b _ _ _ (by rw[hes];rfl) (Mw h2 (by simp))
  ·refine DY (k:=.bool k2) (v:=.string ⟨⟨x2⟩⟩) hm h2 rfl rfl hu hk (by simp) trivial (by rw[hes];rfl) fun a2 w2 h2=> ?_
   rw[Li]
   show wpAnyH X.P .any ops (fun e a w=> ∃σ',Q e σ'∧X.St γ σ' a w) (Fw (fun _=> False) w.heap.size w) _ (Dg [4,5,6,8,9,0,2]) _ _
   skip
   exact n2 b _ _ _ (by rw[hes];rfl) (Mw h2 (by simp))
  ·refine IP hX hm h10 hg (by simp) t8 g8 (by simp[hd1,hd2]) fun a2 w2 h2=> ?_
   rw[Li]
   show wpAnyH X.P .any ops (fun e a w=> ∃σ',Q e σ'∧X.St γ σ' a w) (Fw (fun _=> False) w.heap.size w) _ (Dg [4,5,6,8,9,0,10]) _ _
   rw[show Dg [4,5,6,8,9,0,10]=Dg [4,5,6,8,9,10,0] by decide]
   exact c0 b es _ _ hes (Mw h2 (by simp))
 refine wpAnyH_all r1 (by simp) fun i hi=> ?_
 simp only[List.mem_cons,List.not_mem_nil,or_false] at hi
 have hm:=m5
 rcases hi with rfl | rfl
 ·refine Tb hm h0 t0 g0 (by simp[hd1,hd2]) fun a2 w2 b h2=> ?_
  rw[Li]
  show wpAnyH X.P .any ops (fun e a w=> ∃σ',Q e σ'∧X.St γ σ' a w) (Fw (fun _=> False) w.heap.size w) _ (Dg [4,5,6,8,9,0]) _ _
  skip
  exact n0 b _ _ _ rfl (Mw h2 (by simp))
 ·refine IP hX hm h10 hg (by simp) t8 g8 (by simp[hd1,hd2]) fun a2 w2 h2=> ?_
  rw[Li]
  show wpAnyH X.P .any ops (fun e a w=> ∃σ',Q e σ'∧X.St γ σ' a w) (Fw (fun _=> False) w.heap.size w) _ (Dg [4,5,6,8,9,10]) _ _
  skip
  exact cs _ _ (Mw h2 (by simp))
end
def AcL:Nat→Lo:=fun id=> match id with | 3=> {hand:=true} | _=> {}
theorem V1 (W:World):(zeroValue 9).run Tryz.prog W=.ok (.string ⟨#[]⟩) W:=by kernel_rfl
theorem Wn (p:AI) (hp:Xl p):A8 Tryz.prog D 194 [.agg (Aq p)] ⟨.str (BU p),[]⟩:=by
 have hok:Cl Tryz.prog D (Ao [I3,AB]):=Ar _
 have g1:=Ag (T:=[I3,AB]) (E:=I3) (i:=0) rfl (by decide) (p.text.data.toList) (hp.1)
 have g2:=Ag (T:=[I3,AB]) (E:=AB) (i:=1) rfl (by decide) (p.n) (hp.2)
 generalize Ao [I3,AB]=G at *
 dsimp only[I3] at g1
 dsimp only[AB] at g2
 have hil:=Lib.itoa_length_le p.n hp.2.1 hp.2.2
 have hxl:=Dv p.text.data.toList
 have htl:p.text.data.toList.length≤8388608:=hp.1
 unfold BU
 clear hp
 obtain ⟨k,kd,n,t⟩:=p
 simp only at g1 g2 hil hxl htl
 generalize Lib.itoa n=it at *
 generalize FS t.data.toList=xt at *
 refine Bx (G:=G) (rs:=[(2,none)]) hok Tryz.func194 Tryz.results194 Tryz.ntmps194 (AcL) fun X hP hD hG' hX=> ?_
 simp only[AU,Bz,Aq]
 by_cases h2:kd=2
 ·have e2:(kd==2)=true:=by simp[h2]
  rw[if_pos h2]
  simp (disch:=omega) only[go_sem,hD,hG',AcL,e2,g1,Aa]
  (repeat (with_reducible refine aI ?_))
  refine Aj [] [] (by simp) rfl rfl rfl ?_ ?_ <;> simp only[go_sem]
 have e2:(kd==2)=false:=by simp[h2]
 rw[if_neg h2]
 simp (disch:=omega) only[go_sem,hD,hG',AcL,e2,Aa]
 have hu:X.P.underlying 284=some (.map 4 9):=by rw[hP];exact Tryz.underlying284
 have hk:X.P.underlying 4=some .bool:=by rw[hP];exact Tryz.underlying4
 have hD1:=hD.1
 refine Tr.mapcall hX (by decide+kernel) (v:=1) (off:=0) (cs:=[.str k.data.toList,.int .i64 kd,.int .i64 n,.str t.data.toList]) (kind:=kd) (n:=n) (it:=it) (u:=if (kd==3)=true then [33] else []) (F:=138) (x1:=[33]) (x2:=[]) (k1:=true) (k2:=false) (c:=3) (fo1:=1) (fo2:=2) (fs:=[(0,9),(1,3),(2,3),(3,9)]) rfl rfl rfl rfl rfl rfl rfl rfl rfl rfl rfl rfl rfl hu hk (fun W=> by rw[hP];exact V1 W) rfl (by simp) (by rw[hG'];exact g2) ?_ (by rw[hD1];exact ⟨rfl,fun fs h=> by cases h⟩) (by rw[hD1];rfl) rfl rfl rfl rfl rfl rfl rfl rfl (by decide) (fun c σ' h=> by rcases h.1 with h | h <;> cases h) ?_
 ·split <;> simp <;> omega
 ·simp (disch:=omega) only[go_sem,hD,hG',Aa]
  refine Aj [] [] (by simp) rfl rfl rfl ?_ ?_ <;> simp only[go_sem]
  by_cases h3:kd=3 <;> simp[h3]
def EK:BH Tryz.prog D:=⟨194,AI,fun p=> [.agg (Aq p)],Xl,fun p=> ⟨.str (BU p),[]⟩,fun x y _ _ h=> by
 simp only[List.cons.injEq,AV.agg.injEq,and_true] at h
 rw[JD h],Wn⟩
theorem LG {α:Type} {p:α→Bool} {d:α}:∀{l:List α} {s:Int} {j:Nat},Cf p l s=s+j→0≤s→p (l.getD j d)=true
 | [],s,j,h,h0=> by simp only[Cf] at h;omega
 | x::r,s,j,h,h0=> by
  rw[Cf] at h
  by_cases hx:p x=true
  ·rw[if_pos hx] at h
   have:j=0:=by omega
   subst this
   simpa using hx
  ·rw[if_neg hx] at h
   cases j with
   | zero=>
    exfalso
    have key:∀(l:List α) (s:Int),0≤s→Cf p l s=-1∨s≤Cf p l s:=by
     intro l
     induction l with
     | nil=> intro s _;exact .inl rfl
     | cons y r ih=>
      intro s hs
      rw[Cf]
      split
      ·exact .inr (Int.le_refl _)
      ·rcases ih (s+1) (by omega) with h | h <;> omega
    rcases key r (s+1) (by omega) with h1 | h1 <;> omega
   | succ j=>
    have:=LG (d:=d) (l:=r) (s:=s+1) (j:=j) (by rw[h];push_cast;omega) (by omega)
    simpa using this
def P7 (n:AP):Prop:=n.props.length≤1000∧n.body.length≤8388608∧∀p∈n.props,Xl p∧p.key.size+(BU p).length≤1000000
def Yx (l:List AI):Wd:=l.flatMap fun p=> [32]++p.key.data.toList++[61]++BU p
theorem S1:∀(l:List AI),(∀p∈l,Xl p∧p.key.size+(BU p).length≤1000000)→(Yx l).length≤1000002*l.length
 | [],_=> by simp[Yx]
 | p::r,h=> by
  have ih:=S1 r fun q hq=> h q (List.mem_cons_of_mem p hq)
  have hp:=(h p (List.mem_cons_self ..)).2
  have hk:p.key.data.toList.length=p.key.size:=rfl
  unfold Yx at *
  simp only[List.flatMap_cons,List.length_append,List.length_cons,List.length_nil]
  omega
theorem Aac {l:List AI} {i:Nat} (h:i < l.length):Yx (l.take (i+1))=Yx (l.take i)++([32]++(l.getD i ED).key.data.toList++[61]++BU (l.getD i ED)):=by
 rw[J0 h]
 simp[Yx]
theorem Wh:A8 Tryz.prog D 137 [] ⟨.os 0,[(9,1,DD.map Ae)]⟩:=by
 have hok:Cl Tryz.prog D (Ao []):=Ar _
 generalize Ao []=G at *
 refine Bx (G:=G) (rs:=[(0,none)]) hok Tryz.func137 Tryz.results137 Tryz.ntmps137 (fun _=> {}) fun X hP hD hG' hX=> ?_
 simp only[AU,Bz]
 simp (disch:=omega) only[go_sem,hD,hG',Aa]
 (repeat (with_reducible refine aI ?_))
 refine Aj [] [(0,1)] (by simp) rfl rfl rfl ?_ ?_ <;> simp only[go_sem]
 simp[DD,Cj,Ae]
def CM:BH Tryz.prog D:=⟨137,Unit,fun _=> [],fun _=> True,fun _=> ⟨.os 0,[(9,1,DD.map Ae)]⟩,fun x y _ _ h=> rfl,fun _ _=> Wh⟩
theorem Wo (n:AP) (hn:P7 n):A8 Tryz.prog D 139 [An n] ⟨.str (Hn n),[]⟩:=by
 have hok:Cl Tryz.prog D (Ao [I3,EK]):=Ar _
 have g1:=Ag (T:=[I3,EK]) (E:=I3) (i:=0) rfl (by decide) (n.body) (hn.2.1)
 have g2:=fun (p:AI) (h:Xl p)=> Ag (T:=[I3,EK]) (E:=EK) (i:=1) rfl (by decide) (p) (h)
 generalize Ao [I3,EK]=G at *
 dsimp only[I3] at g1
 dsimp only[EK] at g2
 obtain ⟨hn1,hn2,hn3⟩:=hn
 have hwl:∀i,(Yx (n.props.take i)).length≤1000002*i:=fun i=> by
  have h1:=S1 (n.props.take i) fun p hp=> hn3 p (List.mem_of_mem_take hp)
  have h2:(n.props.take i).length≤i:=by rw[List.length_take];omega
  have:=Nat.mul_le_mul_left 1000002 h2
  omega
 have hww:Hn n=Yx n.props++[32,35]++FS n.body:=rfl
 have hxl:=Dv n.body
 rw[hww]
 obtain ⟨ps,bs⟩:=n
 simp only at g1 hn1 hn2 hn3 hwl hxl
 generalize FS bs=xb at *
 refine Bx (G:=G) (rs:=[(2,none)]) hok Tryz.func139 Tryz.results139 Tryz.ntmps139 (fun _=> {}) fun X hP hD hG' hX=> ?_
 simp only[AU,Bz,An]
 simp (disch:=omega) only[go_sem,hD,hG',Aa]
 refine Tr.loop (ι:=Nat) (fun i=> i≤ps.length) (fun i=> {nt:=29,tm:=[(1,.ptr 1 0),(3,.str (Yx (ps.take i))),(7,.sl 4 (ps.map Aq)),(8,.int .i64 ps.length),(9,.int .i64 i)],bl:=[(1,some (.cells [.sl 4 (ps.map Aq),.sl 1 (bs.map Ac)]))]}) (fun i=> ps.length - i) 0
  ⟨Nat.zero_le _,AG hD [(1,1)] rfl rfl (by simp only[go_sem];simp[Yx]) (by simp only[go_sem])⟩ ?_
 intro i hi
 refine Al hX (fun _=> {}) _ _ _ ?_
 simp (disch:=omega) only[go_sem,hD,hG',Aa]
 refine Ai (fun h=> ?_) (fun h=> ?_)
 ·rw[decide_eq_true_eq] at h
  have hi1:i < ps.length:=by omega
  have hgx:=HJ hi1
  have hti:=Aac hi1
  obtain ⟨hv,hk⟩:=hn3 _ (Dr (d:=ED) hi1)
  have hvl:=hwl i
  have g2:=g2 _ hv
  generalize ps.getD i ED=p at *
  generalize Yx (ps.take i)=acc at *
  have hkl:p.key.data.toList.length=p.key.size:=rfl
  generalize BU p=vs at *
  obtain ⟨p1,p2,p3,p4⟩:=p
  simp only at hkl hti hk
  simp only[Aq] at hgx g2
  simp (disch:=omega) only[go_sem,hD,hG',hgx,g2,Aa]
  (repeat (with_reducible refine aI ?_))
  refine ⟨i+1,⟨by omega,by omega⟩,AG hD [(1,1)] rfl rfl ?_ ?_⟩ <;> simp only[go_sem]
  simp[hti]
 ·rw[decide_eq_false_iff_not] at h
  have hie:i=ps.length:=by omega
  subst hie
  have hvl:=hwl ps.length
  rw[List.take_length] at *
  generalize Yx ps=acc at *
  simp (disch:=omega) only[go_sem,hD,hG',g1,Aa]
  (repeat (with_reducible refine aI ?_))
  refine Aj [] [] (by simp) rfl rfl rfl ?_ ?_ <;> simp only[go_sem]
def Do:BH Tryz.prog D:=⟨139,AP,fun n=> [An n],P7,fun n=> ⟨.str (Hn n),[]⟩,fun x y _ _ h=> by
 simp only[List.cons.injEq,and_true] at h
 rw[Ec h],Wo⟩
theorem Yh (b:Wd) (hb:b.length≤16777216):A8 Tryz.prog D 144 [.sl 1 (b.map Ac)] ⟨.tup [.sl 1 ((Bj b).1.map Ae),.int .i64 (Bj b).2.1,.int .i64 (Bj b).2.2],[]⟩:=by
 have hok:Cl Tryz.prog D (Ao [Bm]):=Ar _
 have g2:=fun (w:Wd) (h:w.length≤16777216)=> Ag (T:=[Bm]) (E:=Bm) (i:=0) rfl (by decide) ((w,[32])) (⟨h,by show 1≤([32]:Wd).length;decide,by show ([32]:Wd).length≤256;decide⟩)
 generalize Ao [Bm]=G at *
 dsimp only[Bm] at g2
 have hcon:∀r,r=Bj b→A8 Tryz.prog D 144 [.sl 1 (b.map Ac)] ⟨.tup [.sl 1 (r.1.map Ae),.int .i64 r.2.1,.int .i64 r.2.2],[]⟩:=by
  intro r hr
  have hmin:(if (400:Int) < (b.length:Int) then (400:Int) else (b.length:Int))=((min b.length 400:Nat):Int):=by split <;> omega
  have hmm:min b.length 400≤b.length∧min b.length 400≤400∧(b.length < 400→min b.length 400=b.length)∧(400≤b.length→min b.length 400=400):=by omega
  generalize min b.length 400=m at *
  refine Bx (G:=G) (rs:=[(2,none),(3,none),(4,none)]) hok Tryz.func144 Tryz.results144 Tryz.ntmps144 (fun _=> {}) fun X hP hD hG' hX=> ?_
  simp only[AU,Bz]
  simp (disch:=omega) only[go_sem,hD,hG',hmin,Aa]
  refine Tr.loop (ι:=Nat) (fun i=> i≤m∧∀j,j < i→((10:UInt8)==b.getD j 0)=false) (fun i=> {nt:=28,tm:=[(0,.sl 1 (b.map Ac)),(8,.int .i64 m),(9,.int .i64 i)],bl:=[]}) (fun i=> m - i) 0
   ⟨⟨Nat.zero_le _,fun j hj=> absurd hj (Nat.not_lt_zero j)⟩,AG hD [] rfl rfl (by simp only[go_sem];simp) (by simp only[go_sem])⟩ ?_
  rintro i ⟨hi,hnot⟩
  refine Al hX (fun _=> {}) _ _ _ ?_
  simp (disch:=omega) only[go_sem,hD,hG',Aa]
  refine Ai (fun h=> ?_) (fun h=> ?_)
  ·rw[decide_eq_true_eq] at h
   have hi1:i < b.length:=by omega
   have hgx:=AD hi1
   have hce:(((b.getD i 0).toNat:Int)==10)=((10:UInt8)==b.getD i 0):=by
    rw[Bool.eq_iff_iff]
    simp only[beq_iff_eq]
    exact ⟨fun h=> UInt8.toNat_inj.1 (by show 10=_;omega),fun h=> by rw[←h];rfl⟩
   cases hp:((10:UInt8)==b.getD i 0)
   ·rw[hp] at hce
    simp (disch:=omega) only[go_sem,hD,hG',hgx,hce,Aa]
    (repeat (with_reducible refine aI ?_))
    refine ⟨i+1,⟨⟨by omega,fun j hj=> ?_⟩,by omega⟩,AG hD [] rfl rfl ?_ ?_⟩
    ·by_cases hji:j=i
     ·rw[hji];exact hp
     ·exact hnot j (by omega)
    all_goals simp only[go_sem]
    simp
   ·rw[hp] at hce
    have hx:Lh b=i:=by
     have:=IR (d:=(0:UInt8)) (p:=fun x=> 10==x) hi1 hnot hp (s:=0)
     unfold Lh
     rw[this]
     omega
    have g2:=g2 (b.take i) (by rw[List.length_take];omega)
    have e1:(i:Int).toNat=i:=Int.toNat_natCast i
    unfold Bj at hr
    rw[hx,if_neg (by omega),if_neg (by omega),e1] at hr
    simp (disch:=omega) only[go_sem,hD,hG',hgx,hce,e1,g2,Aa]
    (repeat (with_reducible refine aI ?_))
    refine Aj [] [] (by simp) rfl rfl rfl ?_ ?_ <;> simp only[go_sem]
    simp[hr]
  ·rw[decide_eq_false_iff_not] at h
   have hie:i=m:=by omega
   subst hie
   have hx:Lh b < 0∨(400≤Lh b∧400≤(b.length:Int)):=by
    rcases RR b with h1 | h1
    ·omega
    ·right
     refine ⟨?_,?_⟩
     ·by_cases h4:400≤Lh b
      ·exact h4
      ·exfalso
       obtain ⟨j,hj⟩:∃j:Nat,Lh b=j:=⟨(Lh b).toNat,by omega⟩
       have hjl:j < b.length:=by omega
       have:=LG (d:=(0:UInt8)) (p:=fun x=> 10==x) (l:=b) (s:=0) (j:=j) (by unfold Lh at hj;omega) (by omega)
       rw[hnot j (by omega)] at this
       cases this
     ·by_cases h5:b.length < 400
      ·exfalso
       obtain ⟨j,hj⟩:∃j:Nat,Lh b=j:=⟨(Lh b).toNat,by omega⟩
       have:=LG (d:=(0:UInt8)) (p:=fun x=> 10==x) (l:=b) (s:=0) (j:=j) (by unfold Lh at hj;omega) (by omega)
       rw[hnot j (by omega)] at this
       cases this
      ·omega
   unfold Bj at hr
   by_cases h4:b.length < 400
   ·have d4:decide ((b.length:Int) < 400)=true:=by simp;omega
    rw[if_pos (by omega)] at hr
    simp (disch:=omega) only[go_sem,hD,hG',d4,Aa]
    refine Aj [] [] (by simp) rfl rfl rfl ?_ ?_ <;> simp only[go_sem]
    simp[hr]
   ·have d4:decide ((b.length:Int) < 400)=false:=by simp;omega
    rw[if_neg (by omega),if_pos (by omega)] at hr
    simp (disch:=omega) only[go_sem,hD,hG',d4,Aa]
    refine Aj [] [] (by simp) rfl rfl rfl ?_ ?_ <;> simp only[go_sem]
    simp[hr]
 exact hcon _ rfl
def C0:BH Tryz.prog D:=⟨144,Wd,fun b=> [.sl 1 (b.map Ac)],fun b=> b.length≤16777216,fun b=> ⟨.tup [.sl 1 ((Bj b).1.map Ae),.int .i64 (Bj b).2.1,.int .i64 (Bj b).2.2],[]⟩,fun x y _ _ h=> by
 simp only[List.cons.injEq,AV.sl.injEq,true_and,and_true] at h
 rw[AN h],Yh⟩
theorem Rg {n:AP} (h:P7 n):(Hn n).length≤1000002*1000+16777218:=by
 obtain ⟨h1,h2,h3⟩:=h
 have h4:=S1 n.props h3
 have h5:=Dv n.body
 have h6:=Nat.mul_le_mul_left 1000002 h1
 have hww:Hn n=Yx n.props++[32,35]++FS n.body:=rfl
 rw[hww]
 simp only[List.length_append,List.length_cons,List.length_nil]
 omega
structure Zv (a:AX):Prop where
 k:1≤a.kind∧a.kind≤9
 q:a.queue.size≤1048576
 n: -9223372036854775808≤a.n∧a.n≤9223372036854775807
 o:a.kind=4→P7 a.note
theorem SH (a:AX) (ha:Zv a):A8 Tryz.prog D 81 [askA a] ⟨.sl 1 ((VE a).map Ac),[]⟩:=by
 have hok:Cl Tryz.prog D (Ao [CM,AB,Do]):=Ar _
 have g1:=Ag (T:=[CM,AB,Do]) (E:=CM) (i:=0) rfl (by decide) (()) (trivial)
 have g2:=Ag (T:=[CM,AB,Do]) (E:=AB) (i:=1) rfl (by decide) (a.n) (ha.n)
 have g3:=fun (h:a.kind=4)=> Ag (T:=[CM,AB,Do]) (E:=Do) (i:=2) rfl (by decide) (a.note) (ha.o h)
 generalize Ao [CM,AB,Do]=G at *
 dsimp only[CM] at g1
 dsimp only[AB] at g2
 dsimp only[Do] at g3
 have hnl:a.kind.toNat < DD.length:=by have:=ha.k;show a.kind.toNat < 10;omega
 have hnl':DD.length=10:=rfl
 have hgx:=Hi hnl
 have hww:a.kind=4→_:=fun h=> Rg (ha.o h)
 have hil:=Lib.itoa_length_le a.n ha.n.1 ha.n.2
 have hnw:(DD.getD a.kind.toNat []).length≤5:=by
  have h9:∀j:Fin 10,(DD.getD j.val []).length≤5:=by decide+kernel
  exact h9 ⟨a.kind.toNat,hnl⟩
 obtain ⟨hk,hq,_,_⟩:=ha
 unfold VE
 obtain ⟨k,q,n,⟨ps,bs⟩⟩:=a
 have hql:q.data.toList.length≤1048576:=hq
 simp only at hk hgx g2 g3 hww hil hnw hnl
 simp only[askA]
 generalize q.data.toList=qs at *
 generalize DD.getD k.toNat []=w at *
 generalize DD=wl at *
 generalize Lib.itoa n=it at *
 generalize Hn ⟨ps,bs⟩=ws at *
 simp only[Ae] at hgx
 simp only[An] at g3
 have hcon:∀r,r=w++(if qs=[] then [] else [32]++qs)++(if k=2∨(6≤k∧k≤8) then [32]++it else [])++(if k=4 then ws else [])++[10]→
   A8 Tryz.prog D 81 [.agg [.int .i64 k,.str qs,.int .i64 n,.sl 4 (ps.map Aq),.sl 1 (bs.map Ac)]] ⟨.sl 1 (r.map Ac),[]⟩:=by
  intro r hr
  have key:(if (k==2)=true then true else if k≥6 then decide (k≤8) else false)=decide (k=2∨(6≤k∧k≤8)):=by
   by_cases h2:k=2
   ·simp[h2]
   ·by_cases h6:6≤k <;> simp[h2,h6]
  have hqq:((!(qs==[]))=false∧(if qs=[] then [] else [32]++qs)=[])∨((!(qs==[]))=true∧(if qs=[] then [] else [32]++qs)=[32]++qs):=by
   by_cases h:qs=[] <;> simp[h]
  refine Bx (G:=G) (rs:=[(2,none)]) hok Tryz.func81 Tryz.results81 Tryz.ntmps81 (fun _=> {}) fun X hP hD hG' hX=> ?_
  simp only[AU,Bz]
  rcases hqq with ⟨dq,e⟩ | ⟨dq,e⟩ <;> rw[e] at hr <;> clear e
  all_goals
   simp (disch:=omega) only[go_sem,hD,hG',g1,hgx,dq,Aa]
   (repeat (with_reducible refine aI ?_))
   refine Au.mk [] ?_
   simp (disch:=omega) only[go_sem,hD,hG',Aa]
   refine ⟨fun h=> ⟨h,fun h6=> by simpa[h6] using h⟩,fun h=> by simp[h],?_⟩
   rw[key]
   by_cases hn:k=2∨(6≤k∧k≤8)
   ·have e4:(k==4)=false:=by simp;omega
    rw[if_pos hn,if_neg (by omega)] at hr
    simp only[hn,decide_true]
    simp (disch:=omega) only[go_sem,hD,hG',g2,e4,Aa]
    (repeat (with_reducible refine aI ?_))
    refine Aj [] [] (by simp) rfl rfl rfl ?_ ?_ <;> simp only[go_sem]
    simp[hr]
   ·rw[if_neg hn] at hr
    simp only[hn,decide_false]
    by_cases h4:k=4
    ·have e4:(k==4)=true:=by simp[h4]
     have hww:=hww h4
     have g3:=g3 h4
     rw[if_pos h4] at hr
     simp (disch:=omega) only[go_sem,hD,hG',g3,e4,Aa]
     (repeat (with_reducible refine aI ?_))
     refine Aj [] [] (by simp) rfl rfl rfl ?_ ?_ <;> simp only[go_sem]
     simp[hr]
    ·have e4:(k==4)=false:=by simp[h4]
     rw[if_neg h4] at hr
     simp (disch:=omega) only[go_sem,hD,hG',e4,Aa]
     (repeat (with_reducible refine aI ?_))
     refine Aj [] [] (by simp) rfl rfl rfl ?_ ?_ <;> simp only[go_sem]
     simp[hr]
 exact hcon _ rfl
def FC:BH Tryz.prog D:=⟨81,AX,fun a=> [askA a],Zv,fun a=> ⟨.sl 1 ((VE a).map Ac),[]⟩,fun x y _ _ h=> by
 simp only[List.cons.injEq,and_true] at h
 rw[Cv h],SH⟩
structure Zx (s:A0):Prop where
 n: -9223372036854775808≤s.n∧s.n≤9223372036854775807
 m: -9223372036854775808≤s.m∧s.m≤9223372036854775807
 e: -9223372036854775808≤s.err∧s.err≤9223372036854775807
 o:s.kind=2→P7 s.note
theorem SQ (s:A0) (hs:Zx s):A8 Tryz.prog D 84 [sayA s] ⟨.sl 1 ((VM s).map Ac),[]⟩:=by
 have hok:Cl Tryz.prog D (Ao [AB,Do]):=Ar _
 have g1:=Ag (T:=[AB,Do]) (E:=AB) (i:=0) rfl (by decide) (s.n) (hs.n)
 have g2:=Ag (T:=[AB,Do]) (E:=AB) (i:=0) rfl (by decide) (s.m) (hs.m)
 have g5:=Ag (T:=[AB,Do]) (E:=AB) (i:=0) rfl (by decide) (s.err) (hs.e)
 have g3:=fun (h:s.kind=2)=> Ag (T:=[AB,Do]) (E:=Do) (i:=1) rfl (by decide) (s.note) (hs.o h)
 generalize Ao [AB,Do]=G at *
 dsimp only[AB] at g1
 dsimp only[AB] at g2
 dsimp only[AB] at g5
 dsimp only[Do] at g3
 have hww:s.kind=2→_:=fun h=> Rg (hs.o h)
 have hi1:=Lib.itoa_length_le s.n hs.n.1 hs.n.2
 have hi2:=Lib.itoa_length_le s.m hs.m.1 hs.m.2
 have hi3:=Lib.itoa_length_le s.err hs.e.1 hs.e.2
 clear hs
 unfold VM
 obtain ⟨k,n,m,e,⟨ps,bs⟩⟩:=s
 simp only at g1 g2 g5 g3 hww hi1 hi2 hi3
 simp only[sayA]
 generalize Lib.itoa n=it at *
 generalize Lib.itoa m=jt at *
 generalize Lib.itoa e=et at *
 generalize Hn ⟨ps,bs⟩=ws at *
 simp only[An] at g3
 refine Bx (G:=G) (rs:=[(2,none)]) hok Tryz.func84 Tryz.results84 Tryz.ntmps84 (fun _=> {}) fun X hP hD hG' hX=> ?_
 simp only[AU,Bz]
 by_cases h2:k=2
 ·have e2:(k==2)=true:=by simp[h2]
  have hww:=hww h2
  have g3:=g3 h2
  rw[if_pos h2]
  simp (disch:=omega) only[go_sem,hD,hG',e2,g1,g2,g3,Aa]
  (repeat (with_reducible refine aI ?_))
  refine Aj [] [] (by simp) rfl rfl rfl ?_ ?_ <;> simp only[go_sem]
 have e2:(k==2)=false:=by simp[h2]
 rw[if_neg h2]
 by_cases h3:k=3
 ·have e3:(k==3)=true:=by simp[h3]
  rw[if_pos h3]
  simp (disch:=omega) only[go_sem,hD,hG',e2,e3,Aa]
  (repeat (with_reducible refine aI ?_))
  refine Aj [] [] (by simp) rfl rfl rfl ?_ ?_ <;> simp only[go_sem]
  simp[Ac]
 have e3:(k==3)=false:=by simp[h3]
 rw[if_neg h3]
 by_cases h4:k=4
 ·have e4:(k==4)=true:=by simp[h4]
  rw[if_pos h4]
  simp (disch:=omega) only[go_sem,hD,hG',e2,e3,e4,g5,Aa]
  (repeat (with_reducible refine aI ?_))
  refine Aj [] [] (by simp) rfl rfl rfl ?_ ?_ <;> simp only[go_sem]
 have e4:(k==4)=false:=by simp[h4]
 rw[if_neg h4]
 simp (disch:=omega) only[go_sem,hD,hG',e2,e3,e4,Aa]
 (repeat (with_reducible refine aI ?_))
 refine Aj [] [] (by simp) rfl rfl rfl ?_ ?_ <;> simp only[go_sem]
 simp[Ac]
def FI:BH Tryz.prog D:=⟨84,A0,fun s=> [sayA s],Zx,fun s=> ⟨.sl 1 ((VM s).map Ac),[]⟩,fun x y _ _ h=> by
 simp only[List.cons.injEq,and_true] at h
 rw[CJ h],SQ⟩
end Go.Proofs.YtlkmgccikgnaeaaGreatDoor.Ab
