/-
  Texts of the proof, one behind the other: LnS LnA LnB LnC LnD.
  No condition but those that each theorem names.
-/
import Derived.Test.YtlkmgccikgnaeaaGreatDoorMS
import Derived.Test.YtlkmgccikgnaeaaGreatDoorMH
import Derived.Test.YtlkmgccikgnaeaaGreatDoorMC
import Derived.Lib.ItoaLen
set_option linter.unusedVariables false
set_option linter.unusedSimpArgs false
set_option maxRecDepth 100000
set_option maxHeartbeats 16000000
namespace Go.Proofs.YtlkmgccikgnaeaaGreatDoor.Ab
open Go Go.RowKit
abbrev Wd:=List UInt8
def Ak (l:Wd):Int×Bool:=((EV l).1,!(EV l).2&&(Lib.itoa (EV l).1==l&&(decide (-1073741824≤(EV l).1)&&decide ((EV l).1≤1073741824))))
def Ko:Wd:=[48,49,50,51,52,53,54,55,56,57,97,98,99,100,101,102]
def Aae (c:UInt8):Wd:=[Ko.getD (c.toNat/16) 0,Ko.getD (c.toNat%16) 0]
def FS (l:Wd):Wd:=l.flatMap Aae
def CF (c:UInt8):Int:=Lib.indexByte Ko c
def Lx (a b:UInt8):UInt8:=UInt8.ofNat ((CF a).toNat*16+(CF b).toNat)
def Dc:Wd→Option Wd
 | []=> some []
 | [_]=> none
 | a::b::r=> if CF a < 0∨CF b < 0 then none else (Dc r).map (Lx a b::·)
def CK (l:Wd):Wd×Bool:=((Dc l).getD [],(Dc l).isSome)
def BU (p:AI):Wd:=if p.kind=2 then 36::FS p.text.data.toList else if p.kind=3 then 33::Lib.itoa p.n else Lib.itoa p.n
def E3 (key s:Wd):AI×Bool:=
 if Lib.hasPrefix s [36]=true then (⟨bA key,2,0,bA (CK (Lib.trimPrefix s [36])).1⟩,(CK (Lib.trimPrefix s [36])).2)
 else if Lib.hasPrefix s [33]=true then (⟨bA key,3,(Ak (Lib.trimPrefix s [33])).1,⟨#[]⟩⟩,(Ak (Lib.trimPrefix s [33])).2)
 else (⟨bA key,1,(Ak s).1,⟨#[]⟩⟩,(Ak s).2)
def D2 (l:List AI):List Wd:=l.map fun p=> p.key.data.toList++[61]++BU p
def Da (n:AP):List Wd:=D2 n.props++[35::FS n.body]
def CE:List AI→List Wd→AP×Bool
 | _,[]=> (Ah,false)
 | ps,w::r=>
  if Lib.hasPrefix w [35]=true then (⟨ps,(CK (Lib.trimPrefix w [35])).1⟩,(CK (Lib.trimPrefix w [35])).2&&r.isEmpty)
  else if (Lib.cut w [61]).2.2=false then (Ah,false)
  else if (E3 (Lib.cut w [61]).1 (Lib.cut w [61]).2.1).2=false then (Ah,false)
  else CE (ps++[(E3 (Lib.cut w [61]).1 (Lib.cut w [61]).2.1).1]) r
def Cj:List Wd:=[[112,105,110,103],[109,97,107,101],[100,114,111,112],[112,117,116],[116,97,107,101],[119,97,105,116],[100,111,110,101],[98,97,99,107],[112,117,114,103,101]]
def GX (a:AX):List Wd:=
 [Cj.getD (a.kind - 1).toNat []]++(if a.queue.data.toList=[] then [] else [a.queue.data.toList])++
 (if a.kind=2∨a.kind=6∨a.kind=7∨a.kind=8 then [Lib.itoa a.n] else if a.kind=4 then Da a.note else [])
def GH (l:List Wd):Wd:=Lib.join l [32]++[10]
def Ht (s:A0):List Wd:=
 if s.kind=2 then [[43,105,116,101,109],Lib.itoa s.n,Lib.itoa s.m]++Da s.note
 else if s.kind=3 then [[43,110,111,110,101]]
 else if s.kind=4 then [45::Lib.itoa s.err]
 else [[43,111,107]]
def Lh (l:Wd):Int:=Cf (fun b=> 10==b) l 0
def Bj (b:Wd):List Wd×Int×Int:=
 if Lh b < 0∧(b.length:Int) < 400 then ([],0,9)
 else if Lh b < 0∨400≤Lh b then ([],0,4)
 else (Lib.split (b.take (Lh b).toNat) [32],Lh b+1,0)
def IA (x:Wd):Int:=Cf (fun w=> x==w) Cj 0
def At:AX:=⟨0,⟨#[]⟩,0,Ah⟩
def Gj (k:Int):Prop:=k=2∨k=6∨k=7∨k=8
instance (k:Int):Decidable (Gj k):=by unfold Gj;infer_instance
def E0 (k:Int) (q:Wd):List Wd→AX×Int
 | [x]=> if (Ak x).2=true then (⟨k,bA q,(Ak x).1,Ah⟩,Ap ⟨k,bA q,(Ak x).1,Ah⟩) else (At,2)
 | _=> (At,2)
def Di (k:Int) (q:Wd) (rest:List Wd):AX×Int:=
 if Gj k then E0 k q rest
 else if k=4 then (if (CE [] rest).2=true then (⟨k,bA q,0,(CE [] rest).1⟩,Ap ⟨k,bA q,0,(CE [] rest).1⟩) else (At,2))
 else if rest=[] then (⟨k,bA q,0,Ah⟩,Ap ⟨k,bA q,0,Ah⟩) else (At,2)
def Fr (k:Int):List Wd→AX×Int
 | []=> (At,2)
 | q::r=> Di k q r
def CD:List Wd→AX×Int
 | []=> (At,1)
 | w::rest=> if IA w+1=0 then (At,1) else if IA w+1≠1∧IA w+1≠7∧IA w+1≠8 then Fr (IA w+1) rest else Di (IA w+1) [] rest
def Dw (b:Wd):AX×Int×Int:=
 if (Bj b).2.2≠0 then (At,0,(Bj b).2.2)
 else if (CD (Bj b).1).2≠0 then (At,0,(CD (Bj b).1).2)
 else ((CD (Bj b).1).1,(Bj b).2.1,0)
def AE:A0:=⟨0,0,0,0,Ah⟩
def CO (s:A0) (ok:Bool):A0×Int:=if ok=true then (s,Am s) else (AE,2)
def QJ:List Wd→A0×Int
 | x::y::z::t=> CO ⟨2,(Ak x).1,(Ak y).1,0,(CE [] (z::t)).1⟩ ((Ak x).2&&(Ak y).2&&(CE [] (z::t)).2)
 | _=> (AE,2)
def Ej:List Wd→A0×Int
 | []=> (AE,1)
 | w::r=>
  if w=[43,111,107] then CO ⟨1,0,0,0,Ah⟩ r.isEmpty
  else if w=[43,110,111,110,101] then CO ⟨3,0,0,0,Ah⟩ r.isEmpty
  else if w=[43,105,116,101,109] then QJ r
  else if Lib.hasPrefix w [45]=true then CO ⟨4,0,0,(Ak (Lib.trimPrefix w [45])).1,Ah⟩ (r.isEmpty&&(Ak (Lib.trimPrefix w [45])).2)
  else (AE,1)
def Dx (b:Wd):A0×Int×Int:=
 if (Bj b).2.2≠0 then (AE,0,(Bj b).2.2)
 else if (Ej (Bj b).1).2≠0 then (AE,0,(Ej (Bj b).1).2)
 else ((Ej (Bj b).1).1,(Bj b).2.1,0)
def Bp:BH Tryz.prog D:=⟨190,Wd×Wd,fun x=> [.str x.1,.str x.2],fun _=> True,fun x=> ⟨.tup [.str (Lib.trimPrefix x.1 x.2),.bool (Lib.hasPrefix x.1 x.2)],[]⟩,fun x y _ _ h=> by
 obtain ⟨a,b⟩:=x
 obtain ⟨a',b'⟩:=y
 simp only[List.cons.injEq,AV.str.injEq,and_true] at h
 rw[h.1,h.2],fun x _=> Ro x.1 x.2⟩
def Z3:BH Tryz.prog D:=⟨281,Wd×UInt8,fun x=> [.str x.1,.int .u8 x.2.toNat],fun _=> True,fun x=> ⟨.int .i64 (Lib.indexByte x.1 x.2),[]⟩,fun x y _ _ h=> by
 obtain ⟨a,b⟩:=x
 obtain ⟨a',b'⟩:=y
 simp only[List.cons.injEq,AV.str.injEq,AV.int.injEq,true_and,and_true] at h
 have:b=b':=UInt8.toNat_inj.1 (by omega)
 rw[h.1,this],fun x _=> Qf x.1 x.2⟩
def Eh:BH Tryz.prog D:=⟨236,Wd×Wd,fun x=> [.str x.1,.str x.2],fun x=> x.1.length < 4294967281,fun x=> ⟨.tup [.str (Lib.cut x.1 x.2).1,.str (Lib.cut x.1 x.2).2.1,.bool (Lib.cut x.1 x.2).2.2],[]⟩,fun x y _ _ h=> by
 obtain ⟨a,b⟩:=x
 obtain ⟨a',b'⟩:=y
 simp only[List.cons.injEq,AV.str.injEq,and_true] at h
 rw[h.1,h.2],fun x h=> ZS x.1 x.2 h⟩
def BK:BH Tryz.prog D:=⟨186,Wd×Wd,fun x=> [.str x.1,.str x.2],fun x=> x.1.length < 4294967281∧1≤x.2.length,fun x=> ⟨.sl 1 ((Lib.split x.1 x.2).map Ae),[]⟩,fun x y _ _ h=> by
 obtain ⟨a,b⟩:=x
 obtain ⟨a',b'⟩:=y
 simp only[List.cons.injEq,AV.str.injEq,and_true] at h
 rw[h.1,h.2],fun x h=> Wp x.1 x.2 h.1 h.2⟩
def DF:BH Tryz.prog D:=⟨183,List Wd×Wd,fun x=> [.sl 1 (x.1.map Ae),.str x.2],fun x=> (Lib.join x.1 x.2).length≤1099511627776∧x.1.length≤1099511627776,fun x=> ⟨.str (Lib.join x.1 x.2),[]⟩,fun x y _ _ h=> by
 obtain ⟨a,b⟩:=x
 obtain ⟨a',b'⟩:=y
 simp only[List.cons.injEq,AV.str.injEq,AV.sl.injEq,true_and,and_true] at h
 rw[EF h.1,h.2],fun x h=> Yn x.1 x.2 h.1 h.2⟩
def AB:BH Tryz.prog D:=⟨138,Int,fun n=> [.int .i64 n],fun n=> -9223372036854775808≤n∧n≤9223372036854775807,fun n=> ⟨.str (Lib.itoa n),[]⟩,fun x y _ _ h=> by
 simp only[List.cons.injEq,AV.int.injEq,true_and,and_true] at h
 rw[h],fun n h=> ZH n h.1 h.2⟩
def I1:BH Tryz.prog D:=⟨196,Wd,fun l=> [.str l],fun l=> l.length≤281474976710656,fun l=> ⟨.tup [.int .i64 (EV l).1,.ifc (EV l).2],[]⟩,fun x y _ _ h=> by
 simp only[List.cons.injEq,AV.str.injEq,and_true] at h
 rw[h],ZF⟩
theorem Pi (l:Wd): -9223372036854775808≤(EV l).1∧(EV l).1≤9223372036854775807:=by
 unfold EV
 rcases h:Lib.atoiAll l with v | _ | _
 ·exact Lib.atoiAll_bounds h
 ·simp
 ·exact Lib.atoiSat_bounds l
theorem Dv (l:Wd):(FS l).length=2*l.length:=by
 induction l with
 | nil=> rfl
 | cons c r ih=> simp only[FS,List.flatMap_cons,List.length_append,List.length_cons] at ih ⊢;rw[ih];simp[Aae];omega
theorem Wb (l:Wd) (hl:l.length≤281474976710656):A8 Tryz.prog D 191 [.str l] ⟨.tup [.int .i64 (Ak l).1,.bool (Ak l).2],[]⟩:=by
 have hok:Cl Tryz.prog D (Ao [I1,AB]):=Ar _
 have g1:=Ag (T:=[I1,AB]) (E:=I1) (i:=0) rfl (by decide) (l) (hl)
 have g2:=Ag (T:=[I1,AB]) (E:=AB) (i:=1) rfl (by decide) ((EV l).1) (Pi l)
 generalize Ao [I1,AB]=G at *
 dsimp only[I1] at g1
 dsimp only[AB] at g2
 unfold Ak
 generalize (EV l).1=n at *
 generalize (EV l).2=e at *
 refine Bx (G:=G) (rs:=[(2,none),(3,none)]) hok Tryz.func191 Tryz.results191 Tryz.ntmps191 (fun _=> {}) fun X hP hD hG' hX=> ?_
 simp only[AU,Bz]
 simp (disch:=omega) only[go_sem,hD,hG',g1,Aa]
 refine Au.mk [] ?_
 simp (disch:=omega) only[go_sem,hD,hG',g2,Aa]
 and_intros
 all_goals (try (first | decide | omega | (first | (intro hk;refine ⟨hk,fun h2=> ?_⟩;first | (rw[hk,h2];rfl) | (rw[hk,decide_eq_false h2];rfl)) | (intro hk;rw[decide_eq_false hk];rfl) | (intro hk;rw[hk];rfl))))
 all_goals (first | (simp;done) | skip)
 all_goals (try (refine ⟨_,Wk.refl,_,rfl,[],[],rfl,rfl,?_,?_⟩ <;> simp only[go_sem]))
 all_goals (
  simp only[ge_iff_le]
  generalize decide (-1073741824≤n)=b1
  generalize decide (n≤1073741824)=b2
  generalize (Lib.itoa n==l)=b3
  cases e <;> cases b1 <;> cases b2 <;> cases b3 <;> rfl)
def AJ:BH Tryz.prog D:=⟨191,Wd,fun l=> [.str l],fun l=> l.length≤281474976710656,fun l=> ⟨.tup [.int .i64 (Ak l).1,.bool (Ak l).2],[]⟩,fun x y _ _ h=> by
 simp only[List.cons.injEq,AV.str.injEq,and_true] at h
 rw[h],Wb⟩
theorem Adl (c:UInt8):W7 .u8 c.toNat 4=((c.toNat/16:Nat):Int):=by
 unfold W7
 rw[show min (Int.toNat 4) (IntKind.bits .u8)=4 by decide,Int.fdiv_eq_ediv_of_nonneg _ (by decide)]
 omega
theorem AcW:∀c:UInt8,Abi .u8 c.toNat 15=((c.toNat%16:Nat):Int):=by
 have h:∀n:Fin 256,Abi .u8 (n.val:Int) 15=((n.val%16:Nat):Int):=by decide+kernel
 intro c
 exact h ⟨c.toNat,c.toNat_lt⟩
theorem Sm {l:Wd} {i:Nat} (h:i < l.length):l.take (i+1)=l.take i++[l.getD i 0]:=by
 rw[List.take_succ_eq_append_getElem h]
 simp[h]
def Aag:Nat→Lo:=fun id=> match id with | 5=> {uo:=[8],kn:=[5000],ex:=[0]} | _=> {}
theorem Abo (l:Wd) (hl:l.length≤8388608):A8 Tryz.prog D 231 [.sl 1 (l.map Ac)] ⟨.str (FS l),[]⟩:=by
 have hok:Cl Tryz.prog D (Ao []):=Ar _
 generalize Ao []=G at *
 refine Bx (G:=G) (rs:=[(2,none)]) hok Tryz.func231 Tryz.results231 Tryz.ntmps231 (Aag) fun X hP hD hG' hX=> ?_
 simp only[AU,Bz]
 simp (disch:=omega) only[go_sem,hD,hG',Aa]
 refine Tr.loop (ι:=Nat) (fun i=> i≤l.length) (fun i=> {nt:=24,tm:=[(3,.os 5000),(6,.sl 1 (l.map Ac)),(7,.int .i64 l.length),(8,.int .i64 i)],bl:=[(5000,some (.rows 5 1 ((FS (l.take i)).map Ac)))]}) (fun i=> l.length - i) 0
  ⟨Nat.zero_le _,AG hD [] rfl rfl (by simp only[go_sem];simp) (by simp only[go_sem];simp[FS])⟩ ?_
 intro i hi
 refine Al hX Aag _ _ _ ?_
 simp (disch:=omega) only[go_sem,hD,hG',Aa]
 refine Ai (fun h=> ?_) (fun h=> ?_)
 ·rw[decide_eq_true_eq] at h
  have hi1:i < l.length:=by omega
  have hgx:=AD hi1
  have hti:=Sm hi1
  have htl:(FS (l.take i)).length≤2*l.length:=by rw[Dv,List.length_take];omega
  generalize l.getD i 0=c at *
  have s4:=Adl c
  have a15:=AcW c
  have hc:=c.toNat_lt
  simp (disch:=omega) only[go_sem,hD,hG',hgx,Aag,s4,a15,Aa]
  (repeat (with_reducible refine aI ?_))
  refine ⟨i+1,⟨by omega,by omega⟩,AG hD [(5000,20)] rfl rfl ?_ ?_⟩ <;> simp only[go_sem]
  ·simp
  ·simp[hti,FS,Aae,Ac,Ko]
 ·rw[decide_eq_false_iff_not] at h
  have hie:i=l.length:=by omega
  subst hie
  rw[List.take_length] at *
  simp (disch:=omega) only[go_sem,hD,hG',Aa]
  refine Aj [] [] (by simp) rfl rfl rfl ?_ ?_ <;> simp only[go_sem]
def PM:BH Tryz.prog D:=⟨231,Wd,fun l=> [.sl 1 (l.map Ac)],fun l=> l.length≤8388608,fun l=> ⟨.str (FS l),[]⟩,fun x y _ _ h=> by
 simp only[List.cons.injEq,AV.sl.injEq,true_and,and_true] at h
 rw[AN h],Abo⟩
theorem Re:∀(l:Wd),l.length%2=1→Dc l=none
 | [],h=> by simp at h
 | [_],_=> rfl
 | a::b::r,h=> by
  rw[Dc,Re r (by simp only[List.length_cons] at h;omega)]
  split <;> rfl
theorem Dt (c:UInt8): -1≤CF c∧CF c < 16:=by
 have h:∀n:Fin 256,-1≤CF (UInt8.ofNat n.val)∧CF (UInt8.ofNat n.val) < 16:=by decide+kernel
 have:=h ⟨c.toNat,c.toNat_lt⟩
 simpa using this
theorem YB (x y:UInt8) (hx:0≤CF x) (hy:0≤CF y):IntKind.wrap .u8 (Zt .i64 (Lb .i64 (CF x) 4) (CF y))=((Lx x y).toNat:Int):=by
 have h:∀a b:Fin 16,IntKind.wrap .u8 (Zt .i64 (Lb .i64 (a.val:Int) 4) (b.val:Int))=((UInt8.ofNat (a.val*16+b.val)).toNat:Int):=by decide+kernel
 obtain ⟨_,h1⟩:=Dt x
 obtain ⟨_,h2⟩:=Dt y
 obtain ⟨a,ha⟩:=Int.eq_ofNat_of_zero_le hx
 obtain ⟨b,hb⟩:=Int.eq_ofNat_of_zero_le hy
 unfold Lx
 rw[ha,hb]
 exact h ⟨a,by omega⟩ ⟨b,by omega⟩
theorem Z2 {l:Wd} {j:Nat} (h:2*j+1 < l.length):l.drop (2*j)=l.getD (2*j) 0::l.getD (2*j+1) 0::l.drop (2*(j+1)):=by
 rw[List.drop_eq_getElem_cons (by omega),List.drop_eq_getElem_cons (by omega:2*j+1 < l.length)]
 simp only[List.getD_eq_getElem?_getD]
 rw[List.getElem?_eq_getElem (by omega),List.getElem?_eq_getElem (by omega:2*j+1 < l.length)]
 rfl
def Ga:Nat→Lo:=fun id=> match id with | 10=> {uo:=[7],kn:=[5000],ex:=[0]} | _=> {}
theorem Yo (l:Wd) (hl:l.length≤8388608):A8 Tryz.prog D 260 [.str l] ⟨.tup [.sl 1 ((CK l).1.map Ac),.bool (CK l).2],[]⟩:=by
 have hok:Cl Tryz.prog D (Ao [Z3]):=Ar _
 have g1:=fun (c:UInt8)=> Ag (T:=[Z3]) (E:=Z3) (i:=0) rfl (by decide) ((Ko,c)) (trivial)
 generalize Ao [Z3]=G at *
 dsimp only[Z3] at g1
 have hcon:∀r,r=CK l→A8 Tryz.prog D 260 [.str l] ⟨.tup [.sl 1 (r.1.map Ac),.bool r.2],[]⟩:=by
  intro r hr
  unfold CK at hr
  have g1:∀c:UInt8,G 281 [.str Ko,.int .u8 c.toNat]=some ⟨.int .i64 (CF c),[]⟩:=g1
  simp only[Ko] at g1
  have hdm:(l.length:Int).tmod 2=((l.length%2:Nat):Int):=by
   rw[Int.tmod_eq_emod_of_nonneg (by omega)]
   omega
  refine Bx (G:=G) (rs:=[(2,none),(3,none)]) hok Tryz.func260 Tryz.results260 Tryz.ntmps260 (Ga) fun X hP hD hG' hX=> ?_
  simp only[AU,Bz]
  by_cases hodd:l.length%2=1
  ·have d1:decide ((l.length:Int).tmod 2 > 0)=true:=by rw[hdm,hodd];rfl
   rw[Re l hodd] at hr
   simp (disch:=omega) only[go_sem,hD,hG',d1,Ga,Aa]
   refine ⟨by decide,?_⟩
   refine Aj [] [] (by simp) rfl rfl rfl ?_ ?_ <;> simp only[go_sem]
   rw[hr]
   simp
  have d1:decide ((l.length:Int).tmod 2 > 0)=false:=by rw[hdm,show l.length%2=0 by omega];rfl
  simp (disch:=omega) only[go_sem,hD,hG',d1,Ga,Aa]
  refine ⟨by decide,?_⟩
  refine Tr.loop (ι:=Nat×Wd) (fun x=> 2*x.1≤l.length∧x.2.length=x.1∧Dc l=(Dc (l.drop (2*x.1))).map (x.2++·)) (fun x=> {nt:=42,tm:=[(0,.str l),(4,.os 5000),(5,.int .i64 ((2*x.1:Nat):Int))],bl:=[(5000,some (.rows 5 1 (x.2.map Ac)))]}) (fun x=> l.length - x.1) (0,[])
   ⟨⟨by simp,rfl,by simp⟩,AG hD [] rfl rfl (by simp only[go_sem];simp) (by simp only[go_sem])⟩ ?_
  rintro ⟨j,out⟩ ⟨hj,hjo,hinv⟩
  simp only at hj hjo hinv
  refine Al hX Ga _ _ _ ?_
  simp (disch:=omega) only[go_sem,hD,hG',Ga,Aa]
  refine Ai (fun h=> ?_) (fun h=> ?_)
  ·rw[decide_eq_true_eq] at h
   have hj1:2*j+1 < l.length:=by omega
   rw[Z2 hj1,Dc] at hinv
   have e1:((2*j:Nat):Int).toNat=2*j:=by omega
   have e2:(((2*j:Nat):Int)+1).toNat=2*j+1:=by omega
   generalize hx:l.getD (2*j) 0=x at *
   generalize hy:l.getD (2*j+1) 0=y at *
   have gx:=g1 x
   have gy:=g1 y
   obtain ⟨x1,x2⟩:=Dt x
   obtain ⟨y1,y2⟩:=Dt y
   have hbb:=YB x y
   simp (disch:=omega) only[go_sem,hD,hG',Ga,e1,e2,hx,hy,gx,gy,Aa]
   (repeat (with_reducible refine aI ?_))
   refine Au.mk [] ?_
   simp (disch:=omega) only[go_sem,hD,hG',Ga,Aa]
   and_intros
   all_goals (try (first | (intro hk;refine ⟨hk,fun h2=> ?_⟩;first | (rw[hk,h2];rfl) | (rw[hk,decide_eq_false h2];rfl)) | (intro hk;rw[decide_eq_false hk];rfl) | (intro hk;rw[hk];rfl)))
   refine Ai (fun h0=> ?_) (fun h0=> ?_)
   ·have h0:CF x < 0∨CF y < 0:=by simpa using h0
    rw[if_pos h0] at hinv
    simp (disch:=omega) only[go_sem,hD,hG',Ga,Aa]
    refine Aj [] [] (by simp) rfl rfl rfl ?_ ?_ <;> simp only[go_sem]
    rw[hr,hinv]
    simp
   ·have h0:¬(CF x < 0∨CF y < 0):=by simpa using h0
    rw[if_neg h0] at hinv
    have hbb:=hbb (by omega) (by omega)
    generalize CF x=a at *
    generalize CF y=b at *
    generalize Lx x y=c at *
    simp (disch:=omega) only[go_sem,hD,hG',hbb,Ga,Aa]
    (repeat (with_reducible refine aI ?_))
    refine ⟨(j+1,out++[c]),⟨⟨by omega,by simp[hjo],?_⟩,by simp only;omega⟩,AG hD [(5000,40)] rfl rfl ?_ ?_⟩
    ·rw[hinv,Option.map_map]
     congr 1
     funext t
     simp
    all_goals simp only[go_sem]
    ·omega
    ·simp[Ac]
  ·rw[decide_eq_false_iff_not] at h
   have hje:l.drop (2*j)=[]:=List.drop_eq_nil_of_le (by omega)
   rw[hje] at hinv
   simp (disch:=omega) only[go_sem,hD,hG',Ga,Aa]
   refine Aj [5000] [] (by simp) rfl rfl rfl ?_ ?_ <;> simp only[go_sem]
   rw[hr,hinv]
   simp[Dc]
 exact hcon _ rfl
def DS:BH Tryz.prog D:=⟨260,Wd,fun l=> [.str l],fun l=> l.length≤8388608,fun l=> ⟨.tup [.sl 1 ((CK l).1.map Ac),.bool (CK l).2],[]⟩,fun x y _ _ h=> by
 simp only[List.cons.injEq,AV.str.injEq,and_true] at h
 rw[h],Yo⟩
def Xl (p:AI):Prop:=p.text.size≤8388608∧-9223372036854775808≤p.n∧p.n≤9223372036854775807
theorem Yp (p:AI) (hp:Xl p):A8 Tryz.prog D 230 [.agg (Aq p)] ⟨.str (BU p),[]⟩:=by
 have hok:Cl Tryz.prog D (Ao [PM,AB]):=Ar _
 have g1:=Ag (T:=[PM,AB]) (E:=PM) (i:=0) rfl (by decide) (p.text.data.toList) (hp.1)
 have g2:=Ag (T:=[PM,AB]) (E:=AB) (i:=1) rfl (by decide) (p.n) (hp.2)
 generalize Ao [PM,AB]=G at *
 dsimp only[PM] at g1
 dsimp only[AB] at g2
 obtain ⟨pk,kd,n,tx⟩:=p
 have hxl:=Dv tx.data.toList
 have hil:=Lib.itoa_length_le n hp.2.1 hp.2.2
 have htl:tx.data.toList.length≤8388608:=hp.1
 simp only at g1 g2
 unfold BU
 simp only
 generalize FS tx.data.toList=hx at *
 generalize Lib.itoa n=it at *
 refine Bx (G:=G) (rs:=[(2,none)]) hok Tryz.func230 Tryz.results230 Tryz.ntmps230 (fun _=> {}) fun X hP hD hG' hX=> ?_
 simp only[AU,Bz,Aq]
 by_cases h2:kd=2
 ·have e2:(kd==2)=true:=by simp[h2]
  rw[if_pos h2]
  simp (disch:=omega) only[go_sem,hD,hG',e2,g1,Aa]
  (repeat (with_reducible refine aI ?_))
  refine Aj [] [] (by simp) rfl rfl rfl ?_ ?_ <;> simp only[go_sem]
 have e2:(kd==2)=false:=by simp[h2]
 rw[if_neg h2]
 by_cases h3:kd=3
 ·have e3:(kd==3)=true:=by simp[h3]
  rw[if_pos h3]
  simp (disch:=omega) only[go_sem,hD,hG',e2,e3,g2,Aa]
  (repeat (with_reducible refine aI ?_))
  refine Aj [] [] (by simp) rfl rfl rfl ?_ ?_ <;> simp only[go_sem]
 have e3:(kd==3)=false:=by simp[h3]
 rw[if_neg h3]
 simp (disch:=omega) only[go_sem,hD,hG',e2,e3,g2,Aa]
 refine Aj [] [] (by simp) rfl rfl rfl ?_ ?_ <;> simp only[go_sem]
def FL:BH Tryz.prog D:=⟨230,AI,fun p=> [.agg (Aq p)],Xl,fun p=> ⟨.str (BU p),[]⟩,fun x y _ _ h=> by
 simp only[List.cons.injEq,AV.agg.injEq,and_true] at h
 rw[JD h],Yp⟩
theorem BP (s p:Wd):(Lib.trimPrefix s p).length≤s.length:=by
 unfold Lib.trimPrefix
 split
 ·simp
 ·exact Nat.le_refl _
theorem IX:∀l:Wd,(CK l).1.length≤l.length
 | []=> by simp[CK,Dc]
 | [_]=> by simp[CK,Dc]
 | a::b::r=> by
  have ih:=IX r
  unfold CK at *
  rw[Dc]
  split
  ·simp
  ·cases h:Dc r with
   | none=> simp
   | some x=> rw[h] at ih;simp at ih ⊢;omega
theorem ZN (key s:Wd) (hs:s.length≤8388608):A8 Tryz.prog D 237 [.str key,.str s] ⟨.tup [.agg (Aq (E3 key s).1),.bool (E3 key s).2],[]⟩:=by
 have hok:Cl Tryz.prog D (Ao [Bp,DS,AJ]):=Ar _
 have g1:=Ag (T:=[Bp,DS,AJ]) (E:=Bp) (i:=0) rfl (by decide) ((s,[36])) (trivial)
 have g2:=Ag (T:=[Bp,DS,AJ]) (E:=Bp) (i:=0) rfl (by decide) ((s,[33])) (trivial)
 have hl1:=BP s [36]
 have hl2:=BP s [33]
 have g3:=Ag (T:=[Bp,DS,AJ]) (E:=DS) (i:=1) rfl (by decide) (Lib.trimPrefix s [36]) (by show (Lib.trimPrefix s [36]).length≤8388608;omega)
 have g4:=Ag (T:=[Bp,DS,AJ]) (E:=AJ) (i:=2) rfl (by decide) (Lib.trimPrefix s [33]) (by show (Lib.trimPrefix s [33]).length≤281474976710656;omega)
 have g5:=Ag (T:=[Bp,DS,AJ]) (E:=AJ) (i:=2) rfl (by decide) (s) (by show s.length≤281474976710656;omega)
 generalize Ao [Bp,DS,AJ]=G at *
 dsimp only[Bp] at g1
 dsimp only[Bp] at g2
 dsimp only[DS] at g3
 dsimp only[AJ] at g4
 dsimp only[AJ] at g5
 have hul:=IX (Lib.trimPrefix s [36])
 unfold E3
 generalize Lib.trimPrefix s [36]=t1 at *
 generalize Lib.trimPrefix s [33]=t2 at *
 generalize Lib.hasPrefix s [36]=b1 at *
 generalize Lib.hasPrefix s [33]=b2 at *
 generalize CK t1=u at *
 generalize Ak t2=n2 at *
 generalize Ak s=n1 at *
 obtain ⟨u1,u2⟩:=u
 obtain ⟨n21,n22⟩:=n2
 obtain ⟨n11,n12⟩:=n1
 simp only at g3 g4 g5 hul
 refine Bx (G:=G) (rs:=[(4,some 101),(5,none)]) hok Tryz.func237 Tryz.results237 Tryz.ntmps237 (fun _=> {}) fun X hP hD hG' hX=> ?_
 simp only[AU,Bz]
 cases b1
 ·cases b2
  ·simp (disch:=omega) only[go_sem,hD,hG',g1,g2,g5,Aa]
   refine Aj [] [] (by simp) rfl rfl rfl ?_ ?_ <;> simp only[go_sem]
   simp[Aq,bA,Aw,cov,Az,Af,Ad]
  ·simp (disch:=omega) only[go_sem,hD,hG',g1,g2,g4,Aa]
   refine Aj [] [] (by simp) rfl rfl rfl ?_ ?_ <;> simp only[go_sem]
   simp[Aq,bA,Aw,cov,Az,Af,Ad]
 ·simp (disch:=omega) only[go_sem,hD,hG',g1,g3,Aa]
  (repeat (with_reducible refine aI ?_))
  refine Aj [] [] (by simp) rfl rfl rfl ?_ ?_ <;> simp only[go_sem]
  simp[Aq,bA,Aw,cov,Az,Af,Ad]
def EZ:BH Tryz.prog D:=⟨237,Wd×Wd,fun x=> [.str x.1,.str x.2],fun x=> x.2.length≤8388608,fun x=> ⟨.tup [.agg (Aq (E3 x.1 x.2).1),.bool (E3 x.1 x.2).2],[]⟩,fun x y _ _ h=> by
 obtain ⟨a,b⟩:=x
 obtain ⟨a',b'⟩:=y
 simp only[List.cons.injEq,AV.str.injEq,and_true] at h
 rw[h.1,h.2],fun x h=> ZN x.1 x.2 h⟩
def NOk (n:AP):Prop:=n.props.length≤1048576∧n.body.length≤8388608∧∀p∈n.props,Xl p∧p.key.size≤8388608
theorem J0 {l:List AI} {i:Nat} (h:i < l.length):l.take (i+1)=l.take i++[l.getD i ED]:=by
 rw[List.take_succ_eq_append_getElem h]
 simp[h]
theorem Dr {α:Type} {l:List α} {k:Nat} {d:α} (h:k < l.length):l.getD k d∈l:=by
 have:l.getD k d=l[k]:=by simp[h]
 rw[this];exact List.getElem_mem h
theorem Rf {p:AI} (h:Xl p):(BU p).length≤16777300:=by
 have h1:=Dv p.text.data.toList
 have h2:=Lib.itoa_length_le p.n h.2.1 h.2.2
 have h3:p.text.data.toList.length≤8388608:=h.1
 unfold BU
 split
 ·simp only[List.length_cons];omega
 ·split
  ·simp only[List.length_cons];omega
  ·omega
def JS:Nat→Lo:=fun id=> match id with | 5=> {uo:=[8],kn:=[5000],ex:=[0]} | _=> {}
theorem Yd (n:AP) (hn:NOk n):A8 Tryz.prog D 182 [An n] ⟨.os 0,[(9,1,(Da n).map Ae)]⟩:=by
 have hok:Cl Tryz.prog D (Ao [PM,FL]):=Ar _
 have g1:=Ag (T:=[PM,FL]) (E:=PM) (i:=0) rfl (by decide) (n.body) (hn.2.1)
 have g2:=fun (p:AI) (h:Xl p)=> Ag (T:=[PM,FL]) (E:=FL) (i:=1) rfl (by decide) (p) (h)
 generalize Ao [PM,FL]=G at *
 dsimp only[PM] at g1
 dsimp only[FL] at g2
 obtain ⟨hn1,hn2,hn3⟩:=hn
 obtain ⟨ps,bs⟩:=n
 have hxl:=Dv bs
 simp only at g1 hn1 hn2 hn3
 refine Bx (G:=G) (rs:=[(2,none)]) hok Tryz.func182 Tryz.results182 Tryz.ntmps182 (JS) fun X hP hD hG' hX=> ?_
 simp only[AU,Bz,An]
 simp (disch:=omega) only[go_sem,hD,hG',JS,Aa]
 refine Tr.loop (ι:=Nat) (fun i=> i≤ps.length) (fun i=> {nt:=30,tm:=[(1,.ptr 1 0),(3,.os 5000),(7,.sl 4 (ps.map Aq)),(8,.int .i64 ps.length),(9,.int .i64 i)],bl:=[(1,some (.cells [.sl 4 (ps.map Aq),.sl 1 (bs.map Ac)])),(5000,some (.rows 9 1 ((D2 (ps.take i)).map Ae)))]}) (fun i=> ps.length - i) 0
  ⟨Nat.zero_le _,AG hD [(1,1)] rfl rfl (by simp only[go_sem];simp) (by simp only[go_sem];simp[D2])⟩ ?_
 intro i hi
 refine Al hX JS _ _ _ ?_
 simp (disch:=omega) only[go_sem,hD,hG',JS,Aa]
 refine Ai (fun h=> ?_) (fun h=> ?_)
 ·rw[decide_eq_true_eq] at h
  have hi1:i < ps.length:=by omega
  have hgx:=HJ hi1
  have hti:=J0 hi1
  obtain ⟨hv,hk⟩:=hn3 _ (Dr (d:=ED) hi1)
  have hvl:=Rf hv
  have g2:=g2 _ hv
  have htl:(D2 (ps.take i)).length≤ps.length:=by unfold D2;rw[List.length_map,List.length_take];omega
  generalize ps.getD i ED=p at *
  obtain ⟨p1,p2,p3,p4⟩:=p
  have hk:p1.data.toList.length≤8388608:=hk
  simp only[Aq] at hgx g2
  simp (disch:=omega) only[go_sem,hD,hG',hgx,g2,JS,Aa]
  (repeat (with_reducible refine aI ?_))
  refine ⟨i+1,⟨by omega,by omega⟩,AG hD [(1,1),(5000,21)] rfl rfl ?_ ?_⟩ <;> simp only[go_sem]
  ·simp
  ·simp[hti,D2,Ae]
 ·rw[decide_eq_false_iff_not] at h
  have hie:i=ps.length:=by omega
  subst hie
  rw[List.take_length] at *
  have htl:(D2 ps).length≤ps.length:=by unfold D2;rw[List.length_map];omega
  simp (disch:=omega) only[go_sem,hD,hG',g1,JS,Aa]
  (repeat (with_reducible refine aI ?_))
  refine Aj [] [(0,29)] (by simp) rfl rfl rfl ?_ ?_ <;> simp only[go_sem]
  simp[Da,Ae]
def DP:BH Tryz.prog D:=⟨182,AP,fun n=> [An n],NOk,fun n=> ⟨.os 0,[(9,1,(Da n).map Ae)]⟩,fun x y _ _ h=> by
 simp only[List.cons.injEq,and_true] at h
 rw[Ec h],Yd⟩
theorem Hw (s p:Wd):(Lib.cut s p).1.length≤s.length∧(Lib.cut s p).2.1.length≤s.length:=by
 unfold Lib.cut
 split
 ·exact ⟨by simp only[List.length_take];omega,by simp⟩
 ·exact ⟨Nat.le_refl _,by simp⟩
theorem Yc (l:List Wd) (h1:l.length≤1048576) (h2:∀w∈l,w.length≤8388608):A8 Tryz.prog D 229 [.sl 1 (l.map Ae)] ⟨.tup [An (CE [] l).1,.bool (CE [] l).2],[]⟩:=by
 have hok:Cl Tryz.prog D (Ao [Bp,DS,Eh,EZ]):=Ar _
 have g1:=fun (w:Wd)=> Ag (T:=[Bp,DS,Eh,EZ]) (E:=Bp) (i:=0) rfl (by decide) ((w,[35])) (trivial)
 have g2:=fun (w:Wd) (h:w.length≤8388608)=> Ag (T:=[Bp,DS,Eh,EZ]) (E:=DS) (i:=1) rfl (by decide) (w) (h)
 have g3:=fun (w:Wd) (h:w.length≤8388608)=> Ag (T:=[Bp,DS,Eh,EZ]) (E:=Eh) (i:=2) rfl (by decide) ((w,[61])) (by show w.length < 4294967281;omega)
 have g4:=fun (k w:Wd) (h:w.length≤8388608)=> Ag (T:=[Bp,DS,Eh,EZ]) (E:=EZ) (i:=3) rfl (by decide) ((k,w)) (h)
 generalize Ao [Bp,DS,Eh,EZ]=G at *
 dsimp only[Bp] at g1
 dsimp only[DS] at g2
 dsimp only[Eh] at g3
 dsimp only[EZ] at g4
 have hcon:∀r,r=CE [] l→A8 Tryz.prog D 229 [.sl 1 (l.map Ae)] ⟨.tup [An r.1,.bool r.2],[]⟩:=by
  intro r hr
  refine Bx (G:=G) (rs:=[(2,some 25),(3,none)]) hok Tryz.func229 Tryz.results229 Tryz.ntmps229 (fun _=> {}) fun X hP hD hG' hX=> ?_
  simp only[AU,Bz]
  simp (disch:=omega) only[go_sem,hD,hG',Aa]
  refine Tr.loop (ι:=Nat×List AI) (fun x=> x.1≤l.length∧x.2.length≤x.1∧r=CE x.2 (l.drop x.1)) (fun x=> {nt:=70,tm:=[(0,.sl 1 (l.map Ae)),(2,.ptr 2 0),(3,.bool false),(4,.ptr 4 0),(15,.sl 1 (l.map Ae)),(16,.int .i64 l.length),(17,.int .i64 x.1)],bl:=[(2,some (.cells [.nils,.nils])),(4,some (.cells [.os 5000,.nils])),(5000,some (.rows 101 4 (x.2.map Aq)))]}) (fun x=> l.length - x.1) (0,[])
   ⟨⟨Nat.zero_le _,by simp,by simpa using hr⟩,AG hD [(2,2),(4,4)] rfl rfl (by simp only[go_sem];simp) (by simp only[go_sem])⟩ ?_
  rintro ⟨i,ps⟩ ⟨hi,hpl,hinv⟩
  simp only at hi hpl hinv
  refine Al hX (fun _=> {}) _ _ _ ?_
  simp (disch:=omega) only[go_sem,hD,hG',Aa]
  refine Ai (fun h=> ?_) (fun h=> ?_)
  ·rw[decide_eq_true_eq] at h
   have hi1:i < l.length:=by omega
   have hgx:=Hi hi1
   have hdr:l.drop i=l.getD i []::l.drop (i+1):=by
    rw[List.drop_eq_getElem_cons hi1]
    simp[hi1]
   have hwl:=h2 _ (Dr (d:=[]) hi1)
   have hem:(l.drop (i+1)).isEmpty=decide ((i:Int)=l.length - 1):=by
    rw[Bool.eq_iff_iff,List.isEmpty_iff,decide_eq_true_eq,List.drop_eq_nil_iff]
    omega
   rw[hdr,CE,hem] at hinv
   generalize l.getD i []=w at *
   have g1:=g1 w
   have hpl1:=BP w [35]
   have g2:=g2 (Lib.trimPrefix w [35]) (by omega)
   have g3:=g3 w hwl
   have hcl:=Hw w [61]
   have g4:=g4 (Lib.cut w [61]).1 (Lib.cut w [61]).2.1 (by omega)
   generalize Lib.trimPrefix w [35]=tw at *
   generalize Lib.hasPrefix w [35]=bw at *
   generalize Lib.cut w [61]=cw at *
   obtain ⟨c1,c2,c3⟩:=cw
   simp only at g3 g4 hinv
   generalize CK tw=uw at *
   obtain ⟨u1,u2⟩:=uw
   simp only at g2 hinv
   generalize E3 c1 c2=pw at *
   obtain ⟨⟨p1,p2,p3,p4⟩,pb⟩:=pw
   simp only[Aq] at g4
   simp only at hinv
   simp only[Ae] at hgx
   cases bw
   ·cases c3
    ·simp (disch:=omega) only[go_sem,hD,hG',hgx,g1,g3,Aa]
     (repeat (with_reducible refine aI ?_))
     refine Aj [] [] (by simp) rfl rfl rfl ?_ ?_ <;> simp only[go_sem]
     simp[hinv,An,Ah,Aw,cov,Az,Ad,Af]
    ·cases pb
     ·simp (disch:=omega) only[go_sem,hD,hG',hgx,g1,g3,g4,Aa]
      (repeat (with_reducible refine aI ?_))
      refine Aj [] [] (by simp) rfl rfl rfl ?_ ?_ <;> simp only[go_sem]
      simp[hinv,An,Ah,Aw,cov,Az,Ad,Af]
     ·simp only[Bool.false_eq_true,Bool.true_eq_false,if_false] at hinv
      simp (disch:=omega) only[go_sem,hD,hG',hgx,g1,g3,g4,Aa]
      (repeat (with_reducible refine aI ?_))
      refine ⟨(i+1,ps++[⟨p1,p2,p3,p4⟩]),⟨⟨by omega,by simp;omega,hinv⟩,by simp only;omega⟩,AG hD [(2,2),(4,4),(5000,66)] rfl rfl ?_ ?_⟩ <;> simp only[go_sem]
      ·simp
      ·simp[Aq]
   ·simp (disch:=omega) only[go_sem,hD,hG',hgx,g1,g2,Aa]
    refine ⟨by omega,Au.mk [] ?_⟩
    simp (disch:=omega) only[go_sem,hD,hG',Aa]
    and_intros
    all_goals (try (first | decide | omega | (first | (intro hk;refine ⟨hk,fun h2=> ?_⟩;first | (rw[hk,h2];rfl) | (rw[hk,decide_eq_false h2];rfl)) | (intro hk;rw[decide_eq_false hk];rfl) | (intro hk;rw[hk];rfl))))
    all_goals (first | (simp;done) | skip)
    all_goals (try (refine ⟨_,Wk.refl,_,rfl,[5000],[],rfl,rfl,?_,?_⟩ <;> simp only[go_sem]))
    all_goals (
     rw[hinv]
     cases u2 <;> simp[An,Aw,cov,Az,Ad,Af]
     try rfl)
  ·rw[decide_eq_false_iff_not] at h
   have hie:l.drop i=[]:=List.drop_eq_nil_of_le (by omega)
   rw[hie,CE] at hinv
   simp (disch:=omega) only[go_sem,hD,hG',Aa]
   refine Aj [] [] (by simp) rfl rfl rfl ?_ ?_ <;> simp only[go_sem]
   simp[hinv,An,Ah,Aw,cov,Az,Ad,Af]
 exact hcon _ rfl
def Dm:BH Tryz.prog D:=⟨229,List Wd,fun l=> [.sl 1 (l.map Ae)],fun l=> l.length≤1048576∧∀w∈l,w.length≤8388608,fun l=> ⟨.tup [An (CE [] l).1,.bool (CE [] l).2],[]⟩,fun x y _ _ h=> by
 simp only[List.cons.injEq,AV.sl.injEq,true_and,and_true] at h
 rw[EF h],fun l h=> Yc l h.1 h.2⟩
theorem Yq:A8 Tryz.prog D 181 [] ⟨.os 0,[(9,1,Cj.map Ae)]⟩:=by
 have hok:Cl Tryz.prog D (Ao []):=Ar _
 generalize Ao []=G at *
 refine Bx (G:=G) (rs:=[(0,none)]) hok Tryz.func181 Tryz.results181 Tryz.ntmps181 (fun _=> {}) fun X hP hD hG' hX=> ?_
 simp only[AU,Bz]
 simp (disch:=omega) only[go_sem,hD,hG',Aa]
 (repeat (with_reducible refine aI ?_))
 refine Aj [] [(0,1)] (by simp) rfl rfl rfl ?_ ?_ <;> simp only[go_sem]
 simp[Cj,Ae]
def DC:BH Tryz.prog D:=⟨181,Unit,fun _=> [],fun _=> True,fun _=> ⟨.os 0,[(9,1,Cj.map Ae)]⟩,fun x y _ _ h=> rfl,fun _ _=> Yq⟩
structure Ach (a:AX):Prop where
 k:1≤a.kind∧a.kind≤9
 n: -9223372036854775808≤a.n∧a.n≤9223372036854775807
 o:a.kind=4→NOk a.note
 l:(Lib.join (GX a) [32]).length≤1000000∧(GX a).length≤1000000
def FU:Nat→Lo:=fun _=> {}
theorem Rr (a:AX) (ha:Ach a):A8 Tryz.prog D 124 [askA a] ⟨.sl 1 ((GH (GX a)).map Ac),[]⟩:=by
 have hok:Cl Tryz.prog D (Ao [DC,AB,DP,DF]):=Ar _
 have g1:=Ag (T:=[DC,AB,DP,DF]) (E:=DC) (i:=0) rfl (by decide) (()) (trivial)
 have g2:=Ag (T:=[DC,AB,DP,DF]) (E:=AB) (i:=1) rfl (by decide) (a.n) (ha.n)
 have g3:=fun (h:a.kind=4)=> Ag (T:=[DC,AB,DP,DF]) (E:=DP) (i:=2) rfl (by decide) (a.note) (ha.o h)
 have g4:=Ag (T:=[DC,AB,DP,DF]) (E:=DF) (i:=3) rfl (by decide) ((GX a,[32])) (⟨by have:=ha.l.1;show (Lib.join (GX a) [32]).length≤1099511627776;omega,by have:=ha.l.2;show (GX a).length≤1099511627776;omega⟩)
 generalize Ao [DC,AB,DP,DF]=G at *
 dsimp only[DC] at g1
 dsimp only[AB] at g2
 dsimp only[DP] at g3
 dsimp only[DF] at g4
 have hwl:(a.kind - 1).toNat < Cj.length:=by have:=ha.k;simp[Cj];omega
 have hgx:=Hi hwl
 have hwl':Cj.length=9:=rfl
 have hk:=ha.k
 have hjl:=ha.l.1
 have hnl:(Da a.note).length=a.note.props.length+1:=by simp[Da,D2]
 have ho:=ha.o
 clear ha
 obtain ⟨k,q,n,⟨ps,bs⟩⟩:=a
 unfold GH
 unfold GX at *
 simp only at hk hgx hjl g2 g3 g4 hnl ho
 simp only
 generalize hw:Cj.getD (k - 1).toNat []=w at *
 generalize Cj=wl at *
 generalize Lib.itoa n=it at *
 generalize Da ⟨ps,bs⟩=ns at *
 simp only[Ae] at hgx
 simp only[An] at g3
 have hcon:∀qs,q.data.toList=qs→∀r,r=Lib.join ([w]++(if qs=[] then [] else [qs])++(if k=2∨k=6∨k=7∨k=8 then [it] else if k=4 then ns else [])) [32]→r.length≤1000000→
   G 183 [.sl 1 (([w]++(if qs=[] then [] else [qs])++(if k=2∨k=6∨k=7∨k=8 then [it] else if k=4 then ns else [])).map Ae),.str [32]]=some ⟨.str r,[]⟩→
   A8 Tryz.prog D 124 [.agg [.int .i64 k,.str qs,.int .i64 n,.sl 4 (ps.map Aq),.sl 1 (bs.map Ac)]] ⟨.sl 1 ((r++[10]).map Ac),[]⟩:=by
  intro qs hqs r hr hrl g9
  clear g4 hjl
  refine Bx (G:=G) (rs:=[(2,none)]) hok Tryz.func124 Tryz.results124 Tryz.ntmps124 (FU) fun X hP hD hG' hX=> ?_
  simp only[AU,Bz]
  by_cases hq:qs=[]
  ·have dq:(!(qs==[]))=false:=by simp[hq]
   rw[if_pos hq] at g9
   by_cases hn:k=2∨k=6∨k=7∨k=8
   ·rw[if_pos hn] at g9
    simp only[List.append_nil,List.cons_append,List.nil_append,List.map_cons,List.map_nil,Ae] at g9
    have key:(k==2)=true∨((k==2)=false∧(k==6)=true)∨((k==2)=false∧(k==6)=false∧(k==7)=true)∨((k==2)=false∧(k==6)=false∧(k==7)=false∧(k==8)=true):=by rcases hn with h | h | h | h <;> simp[h]
    have e4:(k==4)=false:=by simp;omega
    rcases key with e2 | ⟨e2,e6⟩ | ⟨e2,e6,e7⟩ | ⟨e2,e6,e7,e8⟩
    ·simp (disch:=omega) only[go_sem,hD,hG',FU,g1,hgx,dq,e2,e4,g2,g9,Aa]
     (repeat (with_reducible refine aI ?_))
     refine Aj [] [] (by simp) rfl rfl rfl ?_ ?_ <;> simp only[go_sem]
    ·simp (disch:=omega) only[go_sem,hD,hG',FU,g1,hgx,dq,e2,e6,e4,g2,g9,Aa]
     (repeat (with_reducible refine aI ?_))
     refine Aj [] [] (by simp) rfl rfl rfl ?_ ?_ <;> simp only[go_sem]
    ·simp (disch:=omega) only[go_sem,hD,hG',FU,g1,hgx,dq,e2,e6,e7,e4,g2,g9,Aa]
     (repeat (with_reducible refine aI ?_))
     refine Aj [] [] (by simp) rfl rfl rfl ?_ ?_ <;> simp only[go_sem]
    ·simp (disch:=omega) only[go_sem,hD,hG',FU,g1,hgx,dq,e2,e6,e7,e8,e4,g2,g9,Aa]
     (repeat (with_reducible refine aI ?_))
     refine Aj [] [] (by simp) rfl rfl rfl ?_ ?_ <;> simp only[go_sem]
   ·rw[if_neg hn] at g9
    have e2:(k==2)=false:=by simp;omega
    have e6:(k==6)=false:=by simp;omega
    have e7:(k==7)=false:=by simp;omega
    have e8:(k==8)=false:=by simp;omega
    by_cases h4:k=4
    ·have e4:(k==4)=true:=by simp[h4]
     have g3:=g3 h4
     have:=(ho h4).1
     simp only at this
     rw[if_pos h4] at g9
     simp only[List.append_nil,List.cons_append,List.nil_append,List.map_cons,List.map_nil,Ae] at g9
     simp (disch:=omega) only[go_sem,hD,hG',FU,g1,hgx,dq,e2,e6,e7,e8,e4,g3,g9,Aa]
     (repeat (with_reducible refine aI ?_))
     refine Aj [] [] (by simp) rfl rfl rfl ?_ ?_ <;> simp only[go_sem]
    ·have e4:(k==4)=false:=by simp;omega
     rw[if_neg h4] at g9
     simp only[List.append_nil,List.cons_append,List.nil_append,List.map_cons,List.map_nil,Ae] at g9
     simp (disch:=omega) only[go_sem,hD,hG',FU,g1,hgx,dq,e2,e6,e7,e8,e4,g9,Aa]
     (repeat (with_reducible refine aI ?_))
     refine Aj [] [] (by simp) rfl rfl rfl ?_ ?_ <;> simp only[go_sem]
  ·have dq:(!(qs==[]))=true:=by simp[hq]
   rw[if_neg hq] at g9
   by_cases hn:k=2∨k=6∨k=7∨k=8
   ·rw[if_pos hn] at g9
    simp only[List.append_nil,List.cons_append,List.nil_append,List.map_cons,List.map_nil,Ae] at g9
    have key:(k==2)=true∨((k==2)=false∧(k==6)=true)∨((k==2)=false∧(k==6)=false∧(k==7)=true)∨((k==2)=false∧(k==6)=false∧(k==7)=false∧(k==8)=true):=by rcases hn with h | h | h | h <;> simp[h]
    have e4:(k==4)=false:=by simp;omega
    rcases key with e2 | ⟨e2,e6⟩ | ⟨e2,e6,e7⟩ | ⟨e2,e6,e7,e8⟩
    ·simp (disch:=omega) only[go_sem,hD,hG',FU,g1,hgx,dq,e2,e4,g2,g9,Aa]
     (repeat (with_reducible refine aI ?_))
     refine Aj [] [] (by simp) rfl rfl rfl ?_ ?_ <;> simp only[go_sem]
    ·simp (disch:=omega) only[go_sem,hD,hG',FU,g1,hgx,dq,e2,e6,e4,g2,g9,Aa]
     (repeat (with_reducible refine aI ?_))
     refine Aj [] [] (by simp) rfl rfl rfl ?_ ?_ <;> simp only[go_sem]
    ·simp (disch:=omega) only[go_sem,hD,hG',FU,g1,hgx,dq,e2,e6,e7,e4,g2,g9,Aa]
     (repeat (with_reducible refine aI ?_))
     refine Aj [] [] (by simp) rfl rfl rfl ?_ ?_ <;> simp only[go_sem]
    ·simp (disch:=omega) only[go_sem,hD,hG',FU,g1,hgx,dq,e2,e6,e7,e8,e4,g2,g9,Aa]
     (repeat (with_reducible refine aI ?_))
     refine Aj [] [] (by simp) rfl rfl rfl ?_ ?_ <;> simp only[go_sem]
   ·rw[if_neg hn] at g9
    have e2:(k==2)=false:=by simp;omega
    have e6:(k==6)=false:=by simp;omega
    have e7:(k==7)=false:=by simp;omega
    have e8:(k==8)=false:=by simp;omega
    by_cases h4:k=4
    ·have e4:(k==4)=true:=by simp[h4]
     have g3:=g3 h4
     have:=(ho h4).1
     simp only at this
     rw[if_pos h4] at g9
     simp only[List.append_nil,List.cons_append,List.nil_append,List.map_cons,List.map_nil,Ae] at g9
     simp (disch:=omega) only[go_sem,hD,hG',FU,g1,hgx,dq,e2,e6,e7,e8,e4,g3,g9,Aa]
     (repeat (with_reducible refine aI ?_))
     refine Aj [] [] (by simp) rfl rfl rfl ?_ ?_ <;> simp only[go_sem]
    ·have e4:(k==4)=false:=by simp;omega
     rw[if_neg h4] at g9
     simp only[List.append_nil,List.cons_append,List.nil_append,List.map_cons,List.map_nil,Ae] at g9
     simp (disch:=omega) only[go_sem,hD,hG',FU,g1,hgx,dq,e2,e6,e7,e8,e4,g9,Aa]
     (repeat (with_reducible refine aI ?_))
     refine Aj [] [] (by simp) rfl rfl rfl ?_ ?_ <;> simp only[go_sem]
 exact hcon _ rfl _ rfl hjl g4
def Dl:BH Tryz.prog D:=⟨124,AX,fun a=> [askA a],Ach,fun a=> ⟨.sl 1 ((GH (GX a)).map Ac),[]⟩,fun x y _ _ h=> by
 simp only[List.cons.injEq,and_true] at h
 rw[Cv h],Rr⟩
structure Acn (s:A0):Prop where
 n: -9223372036854775808≤s.n∧s.n≤9223372036854775807
 m: -9223372036854775808≤s.m∧s.m≤9223372036854775807
 e: -9223372036854775808≤s.err∧s.err≤9223372036854775807
 o:s.kind=2→NOk s.note
 l:(Lib.join (Ht s) [32]).length≤1000000∧(Ht s).length≤1000000
def QK:Nat→Lo:=fun id=> match id with | 4=> {uo:=[10],kn:=[15],ex:=[6]} | _=> {}
theorem Rs (s:A0) (hs:Acn s):A8 Tryz.prog D 126 [sayA s] ⟨.sl 1 ((GH (Ht s)).map Ac),[]⟩:=by
 have hok:Cl Tryz.prog D (Ao [AB,DP,DF]):=Ar _
 have g1:=Ag (T:=[AB,DP,DF]) (E:=AB) (i:=0) rfl (by decide) (s.n) (hs.n)
 have g2:=Ag (T:=[AB,DP,DF]) (E:=AB) (i:=0) rfl (by decide) (s.m) (hs.m)
 have g5:=Ag (T:=[AB,DP,DF]) (E:=AB) (i:=0) rfl (by decide) (s.err) (hs.e)
 have g3:=fun (h:s.kind=2)=> Ag (T:=[AB,DP,DF]) (E:=DP) (i:=1) rfl (by decide) (s.note) (hs.o h)
 have g4:=Ag (T:=[AB,DP,DF]) (E:=DF) (i:=2) rfl (by decide) ((Ht s,[32])) (⟨by have:=hs.l.1;show (Lib.join (Ht s) [32]).length≤1099511627776;omega,by have:=hs.l.2;show (Ht s).length≤1099511627776;omega⟩)
 generalize Ao [AB,DP,DF]=G at *
 dsimp only[AB] at g1
 dsimp only[AB] at g2
 dsimp only[AB] at g5
 dsimp only[DP] at g3
 dsimp only[DF] at g4
 have hjl:=hs.l.1
 have hnl:(Da s.note).length=s.note.props.length+1:=by simp[Da,D2]
 have ho:=hs.o
 have hil:=Lib.itoa_length_le s.err hs.e.1 hs.e.2
 clear hs
 obtain ⟨k,n,m,e,⟨ps,bs⟩⟩:=s
 unfold GH
 unfold Ht at *
 simp only at hjl g1 g2 g5 g3 g4 hnl ho hil
 simp only
 generalize Lib.itoa n=it at *
 generalize Lib.itoa m=jt at *
 generalize Lib.itoa e=et at *
 generalize Da ⟨ps,bs⟩=ns at *
 simp only[An] at g3
 have hcon:∀r,r=Lib.join (if k=2 then [[43,105,116,101,109],it,jt]++ns else if k=3 then [[43,110,111,110,101]] else if k=4 then [45::et] else [[43,111,107]]) [32]→r.length≤1000000→
   G 183 [.sl 1 ((if k=2 then [[43,105,116,101,109],it,jt]++ns else if k=3 then [[43,110,111,110,101]] else if k=4 then [45::et] else [[43,111,107]]).map Ae),.str [32]]=some ⟨.str r,[]⟩→
   A8 Tryz.prog D 126 [sayA ⟨k,n,m,e,⟨ps,bs⟩⟩] ⟨.sl 1 ((r++[10]).map Ac),[]⟩:=by
  intro r hr hrl g9
  clear g4 hjl
  refine Bx (G:=G) (rs:=[(2,none)]) hok Tryz.func126 Tryz.results126 Tryz.ntmps126 (QK) fun X hP hD hG' hX=> ?_
  simp only[AU,Bz,sayA]
  by_cases h2:k=2
  ·have e2:(k==2)=true:=by simp[h2]
   have g3:=g3 h2
   have:=(ho h2).1
   simp only at this
   rw[if_pos h2] at g9
   simp only[List.cons_append,List.nil_append,List.map_cons,Ae] at g9
   simp (disch:=omega) only[go_sem,hD,hG',QK,e2,g1,g2,g3,g9,Aa]
   (repeat (with_reducible refine aI ?_))
   refine Aj [] [] (by simp) rfl rfl rfl ?_ ?_ <;> simp only[go_sem]
  have e2:(k==2)=false:=by simp[h2]
  rw[if_neg h2] at g9
  by_cases h3:k=3
  ·have e3:(k==3)=true:=by simp[h3]
   rw[if_pos h3] at g9
   simp only[List.map_cons,List.map_nil,Ae] at g9
   simp (disch:=omega) only[go_sem,hD,hG',QK,e2,e3,g9,Aa]
   (repeat (with_reducible refine aI ?_))
   refine Aj [] [] (by simp) rfl rfl rfl ?_ ?_ <;> simp only[go_sem]
  have e3:(k==3)=false:=by simp[h3]
  rw[if_neg h3] at g9
  by_cases h4:k=4
  ·have e4:(k==4)=true:=by simp[h4]
   rw[if_pos h4] at g9
   simp only[List.map_cons,List.map_nil,Ae] at g9
   simp (disch:=omega) only[go_sem,hD,hG',QK,e2,e3,e4,g5,g9,Aa]
   (repeat (with_reducible refine aI ?_))
   refine Aj [] [] (by simp) rfl rfl rfl ?_ ?_ <;> simp only[go_sem]
  have e4:(k==4)=false:=by simp[h4]
  rw[if_neg h4] at g9
  simp only[List.map_cons,List.map_nil,Ae] at g9
  simp (disch:=omega) only[go_sem,hD,hG',QK,e2,e3,e4,g9,Aa]
  (repeat (with_reducible refine aI ?_))
  refine Aj [] [] (by simp) rfl rfl rfl ?_ ?_ <;> simp only[go_sem]
 exact hcon _ rfl hjl g4
def Dn:BH Tryz.prog D:=⟨126,A0,fun s=> [sayA s],Acn,fun s=> ⟨.sl 1 ((GH (Ht s)).map Ac),[]⟩,fun x y _ _ h=> by
 simp only[List.cons.injEq,and_true] at h
 rw[CJ h],Rs⟩
theorem Wa (l:Wd) (c:UInt8) (hl:l.length≤16777216):A8 Tryz.prog D 227 [.sl 1 (l.map Ac),.int .u8 c.toNat] ⟨.int .i64 (Cf (fun b=> c==b) l 0),[]⟩:=by
 have hok:Cl Tryz.prog D (Ao []):=Ar _
 generalize Ao []=G at *
 have hcon:∀r,r=Cf (fun b=> c==b) l 0→A8 Tryz.prog D 227 [.sl 1 (l.map Ac),.int .u8 c.toNat] ⟨.int .i64 r,[]⟩:=by
  intro r hr
  refine Bx (G:=G) (rs:=[(4,none)]) hok Tryz.func227 Tryz.results227 Tryz.ntmps227 (fun _=> {}) fun X hP hD hG' hX=> ?_
  simp only[AU,Bz]
  simp (disch:=omega) only[go_sem,hD,hG',Aa]
  refine Tr.loop (ι:=Nat) (fun i=> i≤l.length∧∀j,j < i→(c==l.getD j 0)=false) (fun i=> {nt:=19,tm:=[(0,.sl 1 (l.map Ac)),(1,.int .u8 c.toNat),(7,.int .i64 l.length),(8,.int .i64 i)],bl:=[]}) (fun i=> l.length - i) 0
   ⟨⟨Nat.zero_le _,fun j hj=> absurd hj (Nat.not_lt_zero j)⟩,AG hD [] rfl rfl (by simp only[go_sem];simp) (by simp only[go_sem])⟩ ?_
  rintro i ⟨hi,hnot⟩
  refine Al hX (fun _=> {}) _ _ _ ?_
  simp (disch:=omega) only[go_sem,hD,hG',Aa]
  refine Ai (fun h=> ?_) (fun h=> ?_)
  ·rw[decide_eq_true_eq] at h
   have hi1:i < l.length:=by omega
   have hgx:=AD hi1
   have hit:∀x,l.getD i 0=x→(c==x)=true→r=(i:Int):=fun x hx hp=> by
    rw[hr,IR (d:=(0:UInt8)) hi1 hnot (by rw[hx];exact hp)]
    omega
   generalize hx:l.getD i 0=x at *
   have hit:=hit x rfl
   have hce:((c.toNat:Int)==(x.toNat:Int))=(c==x):=by
    rw[Bool.eq_iff_iff]
    simp only[beq_iff_eq]
    exact ⟨fun h=> UInt8.toNat_inj.1 (by omega),fun h=> by rw[h]⟩
   cases hp:(c==x)
   ·simp (disch:=omega) only[go_sem,hD,hG',hgx,hce,hp,Aa]
    refine ⟨by omega,i+1,⟨⟨by omega,fun j hj=> ?_⟩,by omega⟩,AG hD [] rfl rfl ?_ ?_⟩
    ·by_cases hji:j=i
     ·rw[hji,hx];exact hp
     ·exact hnot j (by omega)
    all_goals simp only[go_sem]
    simp
   ·simp (disch:=omega) only[go_sem,hD,hG',hgx,hce,hp,Aa]
    refine ⟨by omega,?_⟩
    refine Aj [] [] (by simp) rfl rfl rfl ?_ ?_ <;> simp only[go_sem]
    rw[hit hp]
  ·rw[decide_eq_false_iff_not] at h
   have hie:i=l.length:=by omega
   subst hie
   simp (disch:=omega) only[go_sem,hD,hG',Aa]
   refine Aj [] [] (by simp) rfl rfl rfl ?_ ?_ <;> simp only[go_sem]
   rw[hr,HI (d:=(0:UInt8)) hnot]
 exact hcon _ rfl
def JP:BH Tryz.prog D:=⟨227,Wd×UInt8,fun x=> [.sl 1 (x.1.map Ac),.int .u8 x.2.toNat],fun x=> x.1.length≤16777216,fun x=> ⟨.int .i64 (Cf (fun b=> x.2==b) x.1 0),[]⟩,fun x y _ _ h=> by
 obtain ⟨a,b⟩:=x
 obtain ⟨a',b'⟩:=y
 simp only[List.cons.injEq,AV.sl.injEq,AV.int.injEq,true_and,and_true] at h
 have:b=b':=UInt8.toNat_inj.1 (by omega)
 rw[AN h.1,this],fun x h=> Wa x.1 x.2 h⟩
theorem Yb (l:List Wd) (c:Wd) (hl:l.length≤16777216):A8 Tryz.prog D 228 [.sl 1 (l.map Ae),.str c] ⟨.int .i64 (Cf (fun w=> c==w) l 0),[]⟩:=by
 have hok:Cl Tryz.prog D (Ao []):=Ar _
 generalize Ao []=G at *
 have hcon:∀r,r=Cf (fun w=> c==w) l 0→A8 Tryz.prog D 228 [.sl 1 (l.map Ae),.str c] ⟨.int .i64 r,[]⟩:=by
  intro r hr
  refine Bx (G:=G) (rs:=[(4,none)]) hok Tryz.func228 Tryz.results228 Tryz.ntmps228 (fun _=> {}) fun X hP hD hG' hX=> ?_
  simp only[AU,Bz]
  simp (disch:=omega) only[go_sem,hD,hG',Aa]
  refine Tr.loop (ι:=Nat) (fun i=> i≤l.length∧∀j,j < i→(c==l.getD j [])=false) (fun i=> {nt:=19,tm:=[(0,.sl 1 (l.map Ae)),(1,.str c),(7,.int .i64 l.length),(8,.int .i64 i)],bl:=[]}) (fun i=> l.length - i) 0
   ⟨⟨Nat.zero_le _,fun j hj=> absurd hj (Nat.not_lt_zero j)⟩,AG hD [] rfl rfl (by simp only[go_sem];simp) (by simp only[go_sem])⟩ ?_
  rintro i ⟨hi,hnot⟩
  refine Al hX (fun _=> {}) _ _ _ ?_
  simp (disch:=omega) only[go_sem,hD,hG',Aa]
  refine Ai (fun h=> ?_) (fun h=> ?_)
  ·rw[decide_eq_true_eq] at h
   have hi1:i < l.length:=by omega
   have hgx:=Hi hi1
   have hit:∀x,l.getD i []=x→(c==x)=true→r=(i:Int):=fun x hx hp=> by
    rw[hr,IR (d:=([]:Wd)) hi1 hnot (by rw[hx];exact hp)]
    omega
   generalize hx:l.getD i []=x at *
   have hit:=hit x rfl
   simp only[Ae] at hgx
   cases hp:(c==x)
   ·simp (disch:=omega) only[go_sem,hD,hG',hgx,hp,Aa]
    refine ⟨by omega,i+1,⟨⟨by omega,fun j hj=> ?_⟩,by omega⟩,AG hD [] rfl rfl ?_ ?_⟩
    ·by_cases hji:j=i
     ·rw[hji,hx];exact hp
     ·exact hnot j (by omega)
    all_goals simp only[go_sem]
    simp
   ·simp (disch:=omega) only[go_sem,hD,hG',hgx,hp,Aa]
    refine ⟨by omega,?_⟩
    refine Aj [] [] (by simp) rfl rfl rfl ?_ ?_ <;> simp only[go_sem]
    rw[hit hp]
  ·rw[decide_eq_false_iff_not] at h
   have hie:i=l.length:=by omega
   subst hie
   simp (disch:=omega) only[go_sem,hD,hG',Aa]
   refine Aj [] [] (by simp) rfl rfl rfl ?_ ?_ <;> simp only[go_sem]
   rw[hr,HI (d:=([]:Wd)) hnot]
 exact hcon _ rfl
def H4:BH Tryz.prog D:=⟨228,List Wd×Wd,fun x=> [.sl 1 (x.1.map Ae),.str x.2],fun x=> x.1.length≤16777216,fun x=> ⟨.int .i64 (Cf (fun w=> x.2==w) x.1 0),[]⟩,fun x y _ _ h=> by
 obtain ⟨a,b⟩:=x
 obtain ⟨a',b'⟩:=y
 simp only[List.cons.injEq,AV.sl.injEq,AV.str.injEq,true_and,and_true] at h
 rw[EF h.1,h.2],fun x h=> Yb x.1 x.2 h⟩
theorem RR (b:Wd):Lh b=-1∨(0≤Lh b∧Lh b < b.length):=IS
theorem ZJ (b:Wd) (hb:b.length≤16777216):A8 Tryz.prog D 179 [.sl 1 (b.map Ac)] ⟨.tup [.sl 1 ((Bj b).1.map Ae),.int .i64 (Bj b).2.1,.int .i64 (Bj b).2.2],[]⟩:=by
 have hok:Cl Tryz.prog D (Ao [JP,BK]):=Ar _
 have g1:=Ag (T:=[JP,BK]) (E:=JP) (i:=0) rfl (by decide) ((b,10)) (hb)
 have g2:=fun (w:Wd) (h:w.length≤16777216)=> Ag (T:=[JP,BK]) (E:=BK) (i:=1) rfl (by decide) ((w,[32])) (⟨by show w.length < 4294967281;omega,by show 1≤([32]:Wd).length;decide⟩)
 generalize Ao [JP,BK]=G at *
 dsimp only[JP] at g1
 dsimp only[BK] at g2
 have hcon:∀r,r=Bj b→A8 Tryz.prog D 179 [.sl 1 (b.map Ac)] ⟨.tup [.sl 1 (r.1.map Ae),.int .i64 r.2.1,.int .i64 r.2.2],[]⟩:=by
  intro r hr
  have hrg:=RR b
  have g1:G 227 [.sl 1 (b.map Ac),.int .u8 10]=some ⟨.int .i64 (Lh b),[]⟩:=g1
  unfold Bj at hr
  generalize Lh b=x at *
  have g2:=g2 (b.take x.toNat) (by rw[List.length_take];omega)
  refine Bx (G:=G) (rs:=[(2,none),(3,none),(4,none)]) hok Tryz.func179 Tryz.results179 Tryz.ntmps179 (fun _=> {}) fun X hP hD hG' hX=> ?_
  simp only[AU,Bz]
  simp (disch:=omega) only[go_sem,hD,hG',g1,Aa]
  refine Au.mk [] ?_
  simp (disch:=omega) only[go_sem,hD,hG',Aa]
  and_intros
  all_goals (try (first | (intro hk;refine ⟨hk,fun h2=> ?_⟩;first | (rw[hk,h2];rfl) | (rw[hk,decide_eq_false h2];rfl)) | (intro hk;rw[decide_eq_false hk];rfl) | (intro hk;rw[hk];rfl)))
  refine Ai (fun h=> ?_) (fun h=> ?_)
  ·have h:x < 0∧(b.length:Int) < 400:=by simpa using h
   rw[if_pos h] at hr
   simp (disch:=omega) only[go_sem,hD,hG',Aa]
   refine Aj [] [] (by simp) rfl rfl rfl ?_ ?_ <;> simp only[go_sem]
   simp[hr]
  have h:¬(x < 0∧(b.length:Int) < 400):=by simp at h;omega
  rw[if_neg h] at hr
  simp (disch:=omega) only[go_sem,hD,hG',Aa]
  refine Au.mk [] ?_
  simp (disch:=omega) only[go_sem,hD,hG',Aa]
  and_intros
  all_goals (try (first | (intro hk;refine ⟨hk,fun h2=> ?_⟩;first | (rw[hk,h2];rfl) | (rw[hk,decide_eq_false h2];rfl)) | (intro hk;rw[decide_eq_false hk];rfl) | (intro hk;rw[hk];rfl)))
  refine Ai (fun h=> ?_) (fun h=> ?_)
  ·have h:x < 0∨400≤x:=by simpa using h
   rw[if_pos h] at hr
   simp (disch:=omega) only[go_sem,hD,hG',Aa]
   refine Aj [] [] (by simp) rfl rfl rfl ?_ ?_ <;> simp only[go_sem]
   simp[hr]
  have h:¬(x < 0∨400≤x):=by simp at h;omega
  rw[if_neg h] at hr
  simp (disch:=omega) only[go_sem,hD,hG',g2,Aa]
  (repeat (with_reducible refine aI ?_))
  refine Aj [] [] (by simp) rfl rfl rfl ?_ ?_ <;> simp only[go_sem]
  simp[hr]
 exact hcon _ rfl
def I2:BH Tryz.prog D:=⟨179,Wd,fun b=> [.sl 1 (b.map Ac)],fun b=> b.length≤16777216,fun b=> ⟨.tup [.sl 1 ((Bj b).1.map Ae),.int .i64 (Bj b).2.1,.int .i64 (Bj b).2.2],[]⟩,fun x y _ _ h=> by
 simp only[List.cons.injEq,AV.sl.injEq,true_and,and_true] at h
 rw[AN h],ZJ⟩
end Go.Proofs.YtlkmgccikgnaeaaGreatDoor.Ab
