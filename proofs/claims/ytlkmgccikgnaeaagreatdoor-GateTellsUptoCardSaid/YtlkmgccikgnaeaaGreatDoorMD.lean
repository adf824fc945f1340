/-
  Texts of the proof, one behind the other: NtO NtA NtB NtC NtD NtS NtE NtF NtG NtP NtT KlA PcC PcD OpenG.
  No condition but those that each theorem names.
-/
import Derived.Test.YtlkmgccikgnaeaaGreatDoorMC
import Derived.Test.YtlkmgccikgnaeaaGreatDoorMA
set_option linter.unusedVariables false
set_option linter.unusedSimpArgs false
set_option maxRecDepth 100000
set_option maxHeartbeats 16000000
namespace Go.Proofs.YtlkmgccikgnaeaaGreatDoor.Ab
open Go Go.RowKit
theorem ZG (l:List UInt8) (hl:l.length≤8388608):A8 Tryz.prog D 109 [.sl 1 (l.map Ac)] ⟨.sl 1 (l.map Ac),[]⟩:=by
 refine Ie Tryz.func109 (by decide) rfl (by simp[Ad]) fun w im ρ vs him hvs=> ?_
 obtain ⟨v,rfl,hv⟩:=He hvs
 obtain ⟨A,c,rfl,h1,h2,h3⟩:=Sg hv
 refine (UT l _ rfl A c w hl (h3.mono him)).mono fun e w' ⟨A1,c1,he,hown,hb⟩=> ⟨_,he,hb,?_⟩
 obtain ⟨A2,c2,e2,q1,q2,q3⟩:=R9 hown
 cases e2
 exact X3 q1 q2 (q3.mono fun b hb=> ⟨hb.2.1,.inr hb.1⟩)
def Hx:BH Tryz.prog D:=⟨109,List UInt8,fun l=> [.sl 1 (l.map Ac)],fun l=> l.length≤8388608,fun l=> ⟨.sl 1 (l.map Ac),[]⟩,fun x y _ _ h=> by
 simp only[List.cons.injEq,AV.sl.injEq,true_and,and_true] at h
 rw[AN h],ZG⟩
def Bi (n:Int):UInt8:=UInt8.ofNat (n%256).toNat
theorem JM (n:Int):((Bi n).toNat:Int)=n%256:=by
 simp[Bi]
 omega
theorem AM (n:Int):IntKind.wrap .u8 n=((Bi n).toNat:Int):=by rw[JM,IntKind.wrap_u8]
theorem KR (b:UInt8):Bi (b.toNat:Int)=b:=by
 have h1:=JM (b.toNat:Int)
 have h2:=b.toNat_lt
 exact UInt8.toNat_inj.1 (by omega)
theorem Jg {m n:Int} (h:m%256=n%256):Bi m=Bi n:=by rw[Bi,Bi,h]
def Aq (p:AI):List AV:=[.str p.key.data.toList,.int .i64 p.kind,.int .i64 p.n,.str p.text.data.toList]
def ED:AI:=⟨⟨#[]⟩,0,0,⟨#[]⟩⟩
theorem HJ {l:List AI} {i:Nat} (h:i < l.length):(l.map Aq).getD i []=Aq (l.getD i ED):=by
 rw[List.getD_eq_getElem?_getD,List.getElem?_map,List.getD_eq_getElem?_getD]
 simp[h]
theorem EW {a b:ByteArray} (h:a.data.toList=b.data.toList):a=b:=by
 obtain ⟨⟨x⟩⟩:=a
 obtain ⟨⟨y⟩⟩:=b
 simp at h
 rw[h]
theorem JD {p q:AI} (h:Aq p=Aq q):p=q:=by
 obtain ⟨a,b,c,d⟩:=p
 obtain ⟨a',b',c',d'⟩:=q
 simp only[Aq,List.cons.injEq,AV.str.injEq,AV.int.injEq,true_and,and_true] at h
 rw[EW h.1,h.2.1,h.2.2.1,EW h.2.2.2]
theorem JU:∀{l m:List AI},l.map Aq=m.map Aq→l=m
 | [],[],_=> rfl
 | [],_::_,h=> by simp at h
 | _::_,[],h=> by simp at h
 | a::l,b::m,h=> by
  simp only[List.map_cons,List.cons.injEq] at h
  rw[JD h.1,JU h.2]
def An (n:AP):AV:=.agg [.sl 4 (n.props.map Aq),.sl 1 (n.body.map Ac)]
theorem Ec {n m:AP} (h:An n=An m):n=m:=by
 obtain ⟨a,b⟩:=n
 obtain ⟨c,d⟩:=m
 simp only[An,AV.agg.injEq,List.cons.injEq,AV.sl.injEq,true_and,and_true] at h
 rw[JU h.1,AN h.2]
section
variable {w:World} {im:Nat→Prop} {ρ:BI}
theorem Y5 (p:AI) (r:Nat) (u:Value) (h:(Hd p)[r]? =some u):∃x,(Aq p)[r]? =some x∧∀v,Rel w im ρ x v→v=u:=by
 match r with
 | 0=> simp[Hd] at h;subst h;exact ⟨_,rfl,fun v hv=> hv.str_⟩
 | 1=> simp[Hd] at h;subst h;exact ⟨_,rfl,fun v hv=> hv.int_⟩
 | 2=> simp[Hd] at h;subst h;exact ⟨_,rfl,fun v hv=> hv.int_⟩
 | 3=> simp[Hd] at h;subst h;exact ⟨_,rfl,fun v hv=> hv.str_⟩
 | r+4=> simp[Hd] at h
theorem Zb {l:List AI} {v:Value} (h:Rel w im ρ (.sl 4 (l.map Aq)) v):∃A c,v=.slice A l.length c∧l.length≤c∧c≤maxLen∧Gt w im A l:=by
 generalize hrs:l.map Aq=rs at h
 cases h with
 | sl sz rs A c b o val hc hm hA hrow hcell hval=>
 subst hrs
 rw[List.length_map] at hc hA ⊢
 refine ⟨A,c,rfl,hc,hm,by rw[Pq Hd 4 (fun _=> rfl)],fun hn=> ?_⟩
 obtain ⟨h1,h2⟩:=hA hn
 refine ⟨b,o,h1,h2,fun j u hu=> ?_⟩
 have hj:=(List.getElem?_eq_some_iff.1 hu).1
 rw[Pq Hd 4 (fun _=> rfl)] at hj
 have hi:j/4 < l.length:=by omega
 have hg:=Pp Hd 4 (fun _=> rfl) l (j/4) hi (j%4) (Nat.mod_lt _ (by omega))
 rw[show j/4*4+j%4=j by omega] at hg
 rw[hg] at hu
 obtain ⟨x,hx,hv⟩:=Y5 (w:=w) (im:=im) (ρ:=ρ) _ _ _ hu
 have hr:(l.map Aq)[j/4]? =some (Aq l[j/4]):=by rw[List.getElem?_map,List.getElem?_eq_getElem hi];rfl
 have h3:=hcell (j/4) (j%4) _ x hr hx
 have h4:=hv _ (hval (j/4) (j%4) _ x hr hx)
 rw[h4,show o+(j/4*4+j%4)=o+j by omega] at h3
 exact h3.1
theorem VK {n:AP} {v:Value} (h:Rel w im ρ (An n) v):∃A c A' c',v=.agg #[.slice A n.props.length c,.slice A' n.body.length c']∧Gt w im A n.props∧CZ w im A' n.body:=by
 obtain ⟨a,b,rfl,⟨_,h1⟩,_,h2⟩:=AaW h
 obtain ⟨A,c,rfl,_,_,p1⟩:=Zb h1
 obtain ⟨A',c',rfl,_,_,p2⟩:=Sg h2
 exact ⟨A,c,A',c',rfl,p1,p2⟩
end
theorem Abp (s:ByteArray) (hs:s.size≤1048576):A8 Tryz.prog D 131 [.str s.data.toList] ⟨.bool (DT s),[]⟩:=by
 refine Ie Tryz.func131 (by decide) rfl (by simp[Ad]) fun w im ρ vs him hvs=> ?_
 obtain ⟨v,rfl,hv⟩:=He hvs
 rw[hv.str_]
 refine (Ta s w hs).mono fun e w' ⟨he,hw⟩=> ⟨_,he,?_,.bool _⟩
 first | exact hw | (subst hw;exact Below.refl _ _)
theorem Wg (s:ByteArray) (hs:s.size≤1048576):A8 Tryz.prog D 52 [.str s.data.toList] ⟨.bool (DT s),[]⟩:=by
 refine Ie Tryz.func52 (by decide) rfl (by simp[Ad]) fun w im ρ vs him hvs=> ?_
 obtain ⟨v,rfl,hv⟩:=He hvs
 rw[hv.str_]
 exact (B5 s w hs).mono fun e w' ⟨he,hw⟩=> ⟨_,he,hw,.bool _⟩
theorem Yr (n:AP) (hn:n.Fits):A8 Tryz.prog D 132 [An n] ⟨.int .i64 (AZ n),[]⟩:=by
 refine Ie Tryz.func132 (by decide) rfl (by simp[Ad]) fun w im ρ vs him hvs=> ?_
 obtain ⟨v,rfl,hv⟩:=He hvs
 obtain ⟨A,c,A',c',rfl,h1,h2⟩:=VK hv
 exact (Zn n A A' c c' w hn (h1.mono him)).mono fun e w' ⟨he,hw⟩=> ⟨_,he,hw,.int _ _⟩
theorem SL (n:AP) (hn:n.Fits):A8 Tryz.prog D 17 [An n] ⟨.int .i64 (AZ n),[]⟩:=by
 refine Ie Tryz.func17 (by decide) rfl (by simp[Ad]) fun w im ρ vs him hvs=> ?_
 obtain ⟨v,rfl,hv⟩:=He hvs
 obtain ⟨A,c,A',c',rfl,h1,h2⟩:=VK hv
 exact (Tf n A A' c c' w hn (h1.mono him)).mono fun e w' ⟨he,hw⟩=> ⟨_,he,hw,.int _ _⟩
theorem RA (p:AI):Af (Aq p)=[]:=by simp[Aq,Ad,Af]
theorem WQ (n:AP):Ad (An n)=[]:=by simp[An,Ad,Af]
attribute [simp] RA WQ
def Ah:AP:=⟨[],[]⟩
theorem CV:Ah.Fits:=⟨by simp[Ah],by simp[Ah],by simp[Ah]⟩
def C2 (n:Int):List UInt8:=[Bi (n/16777216),Bi (n/65536),Bi (n/256),Bi n]
def Bw (l:List UInt8):List UInt8:=Bi l.length::l
def CY (p:AI):List UInt8:=Bw p.key.data.toList++(Bi p.kind::(if p.kind=2 then Bw p.text.data.toList else C2 p.n))
def BT (n:AP):List UInt8:=Bi n.props.length::(n.props.flatMap CY++Bw n.body)
theorem Ay {ys:List AV}:UL ys none=none:=rfl
theorem AbB {X:Cx} (hP:X.P=Tryz.prog) {ops:Array Oper} {σ:AS} {R:AS→Prop} {d:Nat} {x y:Operand} {U:Nat} {ty:Nat} {pos:String} {af:Array Edge} {p q:AI} (hx:ev σ x=.agg (Aq p)) (hy:ev σ y=.agg (Aq q)) (hd:d < σ.nt)
  (h:R {σ with tm:=(d,.bool (!decide (p=q)))::σ.tm}):Ex X ops ⟨some d,.binOp .neq 101 x y U,ty,pos,af,none⟩ σ R:=by
 refine ⟨fun γ a w i Qx hi ⟨ρ,hs⟩=> ?_⟩
 have hvx:=(hs.ev x).1
 have hvy:=(hs.ev y).1
 rw[hx] at hvx
 rw[hy] at hvy
 have hag:∀(r:AI) (v:Value) (im:Nat→Prop),Rel w im ρ (.agg (Aq r)) v→v=.agg #[.string r.key,.int .i64 r.kind,.int .i64 r.n,.string r.text]:=fun r v im h=> by
  cases h with
  | agg cs vs hl h1 hval=>
  obtain ⟨vs⟩:=vs
  match vs,hl with
  | [a,b,c,d],_=>
   rw[(hval 0 _ a rfl rfl).str_,(hval 1 _ b rfl rfl).int_,(hval 2 _ c rfl rfl).int_,(hval 3 _ d rfl rfl).str_]
 unfold wpOp
 simp only[hi]
 rw[if_pos (by simp[Region.wanted])]
 left
 have hex:execOp a.eval ⟨some d,.binOp .neq 101 x y U,ty,pos,af,none⟩=(do pure (.value (←(do eqGuard .neq 101 x y (a.eval x) (a.eval y);binOp .neq 101 (a.eval x) (a.eval y))))):=rfl
 refine Ax hex (v:=.bool (!decide (p=q))) (w':=w) ?_ ⟨_,h,ρ,hs.put hd (.bool _) (by simp[Ad])⟩
 rw[hag p _ _ hvx,hag q _ _ hvy,hP]
 rw[Sem.run_bind,run_eqGuard_agg w _ _ _ _ _ _ W2,Result.andThen_ok]
 exact AaS p q w
theorem ZU (l:List UInt8) (hl:l.length≤8388608):A8 Tryz.prog D 133 [.str l] ⟨.sl 1 ((Bw l).map Ac),[]⟩:=by
 have hok:Cl Tryz.prog D (Ao []):=Ar _
 refine Ch (G:=Ao []) (rs:=[(2,none)]) mixed tok hok Tryz.func133 rfl (by decide) Tryz.results133 (by decide) rfl Tryz.ntmps133 (by simp) (by simp[Af,Ad]) fun X hP hD hG' hX=> Al hX (fun _=> {}) _ _ _ ?_
 simp only[AU,Bz]
 simp (disch:=omega) only[go_sem,hD,hG',AA,AM,Aa]
 refine ⟨by omega,by omega,[9],[],rfl,rfl,?_,?_⟩ <;> simp only[go_sem]
 simp[Bw,Ac]
theorem Abq (n:Int):A8 Tryz.prog D 134 [.int .i64 n] ⟨.sl 1 ((C2 n).map Ac),[]⟩:=by
 have hok:Cl Tryz.prog D (Ao []):=Ar _
 refine Ch (G:=Ao []) (rs:=[(2,none)]) mixed tok hok Tryz.func134 rfl (by decide) Tryz.results134 (by decide) rfl Tryz.ntmps134 (by simp) (by simp[Af,Ad]) fun X hP hD hG' hX=> Al hX (fun _=> {}) _ _ _ ?_
 simp only[AU,Bz]
 simp (disch:=omega) only[go_sem,hD,hG',AA,AM,Aa]
 refine ⟨by decide,by decide,by decide,by decide,by decide,by decide,[20],[],rfl,rfl,?_,?_⟩ <;> simp only[go_sem]
 have h0:=IntKind.wrap_u32 n
 have h1:∀k:Int,1≤k→IntKind.wrap .u32 ((IntKind.wrap .u32 n).tdiv k)=n%4294967296/k:=fun k hk=> by
  rw[h0]
  exact IntWalk.u32_quo _ _ ⟨by omega,by omega,hk⟩
 have h2:∀x:Int,0≤x→x.tmod 256=x%256:=fun x hx=> IntWalk.rem_in _ _ hx
 rw[h1 _ (by decide),h1 _ (by decide),h1 _ (by decide),h0,h2 _ (by omega),h2 _ (by omega),h2 _ (by omega)]
 rw[Jg (m:=n%4294967296/16777216) (n:=n/16777216) (by omega),Jg (m:=n%4294967296/65536%256) (n:=n/65536) (by omega),Jg (m:=n%4294967296/256%256) (n:=n/256) (by omega),Jg (m:=n%4294967296%256) (n:=n) (by omega)]
 simp[C2,Ac]
def Wv:BH Tryz.prog D:=⟨131,ByteArray,fun s=> [.str s.data.toList],fun s=> s.size≤1048576,fun s=> ⟨.bool (DT s),[]⟩,fun x y _ _ h=> by
 simp only[List.cons.injEq,AV.str.injEq,and_true] at h
 rw[EW h],Abp⟩
def IH:BH Tryz.prog D:=⟨52,ByteArray,fun s=> [.str s.data.toList],fun s=> s.size≤1048576,fun s=> ⟨.bool (DT s),[]⟩,fun x y _ _ h=> by
 simp only[List.cons.injEq,AV.str.injEq,and_true] at h
 rw[EW h],Wg⟩
def Fd:BH Tryz.prog D:=⟨132,AP,fun n=> [An n],fun n=> n.Fits,fun n=> ⟨.int .i64 (AZ n),[]⟩,fun x y _ _ h=> by
 simp only[List.cons.injEq,and_true] at h
 rw[Ec h],Yr⟩
def Cn:BH Tryz.prog D:=⟨17,AP,fun n=> [An n],fun n=> n.Fits,fun n=> ⟨.int .i64 (AZ n),[]⟩,fun x y _ _ h=> by
 simp only[List.cons.injEq,and_true] at h
 rw[Ec h],SL⟩
def CQ:BH Tryz.prog D:=⟨133,List UInt8,fun l=> [.str l],fun l=> l.length≤8388608,fun l=> ⟨.sl 1 ((Bw l).map Ac),[]⟩,fun x y _ _ h=> by
 simp only[List.cons.injEq,AV.str.injEq,and_true] at h
 rw[h],ZU⟩
def E9:BH Tryz.prog D:=⟨134,Int,fun n=> [.int .i64 n],fun _=> True,fun n=> ⟨.sl 1 ((C2 n).map Ac),[]⟩,fun x y _ _ h=> by
 simp only[List.cons.injEq,AV.int.injEq,true_and,and_true] at h
 rw[h],fun n _=> Abq n⟩
theorem UW (n m:AP) (hn:n.Fits) (hm:m.Fits):A8 Tryz.prog D 23 [An n,An m] ⟨.bool (decide (n=m)),[]⟩:=by
 have hok:Cl Tryz.prog D (Ao []):=Ar _
 refine Ch (G:=Ao []) (rs:=[(4,none)]) mixed tok hok Tryz.func23 rfl (by decide) Tryz.results23 (by decide) rfl Tryz.ntmps23 (by simp) (by simp[An,Af,Ad]) fun X hP hD hG' hX=> Al hX (fun _=> {}) _ _ _ ?_
 simp only[AU,Bz,An]
 simp (disch:=omega) only[go_sem,hD,hG',AA,AM,Aa]
 refine Au.mk [] ?_
 simp (disch:=omega) only[go_sem,hD,hG',AA,AM,Aa]
 ((try and_intros);all_goals (try first | omega | decide | (simp;done) | (simp only[List.length_append,List.length_cons,List.length_nil,List.length_map];omega)))
 refine Ai (fun h=> ?_) (fun h=> ?_)
 ·simp (disch:=omega) only[go_sem,hD,hG',AA,AM,Aa]
  refine ⟨[],[],rfl,rfl,?_,?_⟩ <;> simp only[go_sem]
  rw[eq_comm,decide_eq_false_iff_not]
  rintro rfl
  simp at h
 ·have hl:n.props.length=m.props.length:=by
   by_cases hc:n.props.length=m.props.length
   ·exact hc
   ·exfalso
    revert h
    have:((n.props.length:Int) !=(m.props.length:Int))=true:=by simp;omega
    simp[this]
  have hb:n.body=m.body:=by simpa[hl] using h
  simp (disch:=omega) only[go_sem,hD,hG',AA,AM,Aa]
  refine Tr.loop (ι:=Nat) (fun i=> i≤n.props.length∧n.props.take i=m.props.take i) (fun i=> {nt:=40,tm:=[(2,.ptr 2 0),(3,.ptr 3 0),(24,.int .i64 n.props.length),(25,.int .i64 i)],bl:=[(2,some (.cells [.sl 4 (n.props.map Aq),.sl 1 (n.body.map Ac)])),(3,some (.cells [.sl 4 (m.props.map Aq),.sl 1 (m.body.map Ac)]))]}) (fun i=> n.props.length - i) 0
   ⟨⟨Nat.zero_le _,rfl⟩,AG hD [(2,2),(3,3)] rfl rfl (by simp only[go_sem];try simp) (by simp only[go_sem])⟩ ?_
  rintro i ⟨hi,ht⟩
  have hnl:=hn.2.1
  refine Al hX (fun id=> match id with | 6=> {lo:=[10]} | _=> {}) _ _ _ ?_
  simp (disch:=omega) only[go_sem,hD,hG',AA]
  refine Ai (fun h=> ?_) (fun h=> ?_)
  ·rw[decide_eq_true_eq] at h
   have hi1:i < n.props.length:=by omega
   have hi2:i < m.props.length:=by omega
   simp (disch:=omega) only[go_sem,hD,hG',AA,HJ,Aq,Ay]
   refine ⟨by decide,⟨by omega,by omega⟩,⟨by omega,by omega⟩,AbB hP (p:=n.props.getD i ED) (q:=m.props.getD i ED) rfl rfl (by simp) ?_⟩
   simp (disch:=omega) only[go_sem,hD,hG',AA,HJ,Aq,Ay]
   have e1:n.props.getD i ED=n.props[i]:=by simp[hi1]
   have e2:m.props.getD i ED=m.props[i]:=by simp[hi2]
   refine Ai (fun h=> ?_) (fun h=> ?_)
   ·simp (disch:=omega) only[go_sem,hD,hG',AA,AM,Aa]
    refine ⟨[],[],rfl,rfl,?_,?_⟩ <;> simp only[go_sem]
    rw[eq_comm,decide_eq_false_iff_not]
    rintro rfl
    simp at h
   ·simp (disch:=omega) only[go_sem,hD,hG',AA]
    have he:n.props[i]=m.props[i]:=by
     rw[←e1,←e2]
     simpa using h
    refine ⟨i+1,⟨⟨by omega,by rw[List.take_succ_eq_append_getElem hi1,List.take_succ_eq_append_getElem hi2,ht,he]⟩,by omega⟩,AG hD [(2,2),(3,3)] rfl rfl ?_ ?_⟩ <;> simp only[go_sem]
    simp
  ·rw[decide_eq_false_iff_not] at h
   simp (disch:=omega) only[go_sem,hD,hG',AA,AM,Aa]
   refine ⟨[],[],rfl,rfl,?_,?_⟩ <;> simp only[go_sem]
   have:i=n.props.length:=by omega
   subst this
   rw[List.take_length,hl,List.take_length] at ht
   rw[eq_comm,decide_eq_true_eq]
   obtain ⟨a,b⟩:=n
   obtain ⟨c,d⟩:=m
   simp only at ht hb
   rw[ht,hb]
theorem Gm {p:AI} (h:A9 p=0):p.key.size≤8∧((p.kind=2∧p.text.size≤12∧p.n=0)∨((p.kind=1∨p.kind=3)∧p.text.size=0∧-1073741824≤p.n∧p.n≤1073741824)):=by
 unfold A9 at h
 split at h
 ·cases h
 rename_i hk
 have hk8:p.key.size≤8:=by
  have:DT p.key=true:=by simpa using hk
  unfold DT at this
  simp at this
  omega
 refine ⟨hk8,?_⟩
 split at h
 ·cases h
 split at h
 ·cases h
 split at h
 ·cases h
 split at h
 ·cases h
 omega
theorem JI (b:ByteArray):b.data.toList.length=b.size:=rfl
theorem Aa8 {b:ByteArray} (h:b.size=0):b=⟨#[]⟩:=EW (List.eq_nil_of_length_eq_zero h)
theorem W3 {l:List AI} (h:Du l=0):∀p∈l,A9 p=0:=by
 induction l with
 | nil=> simp
 | cons q r ih=>
  rw[Du] at h
  split at h
  ·rename_i hq
   intro p hp
   rcases List.mem_cons.1 hp with rfl | hp
   ·exact hq
   ·exact ih h p hp
  ·rename_i hq
   exact absurd h hq
theorem E7 {n:AP} (h:AZ n=0):n.props.length≤4∧(∀p∈n.props,A9 p=0)∧n.body.length≤40:=by
 unfold AZ at h
 split at h
 ·cases h
 ·split at h
  ·rename_i h1
   exact absurd h h1
  ·rename_i h0 h1
   split at h
   ·cases h
   ·refine ⟨by omega,W3 (by simpa using h1),by omega⟩
theorem EQ {n:AP} (h:AZ n=0):n.Fits:=by
 obtain ⟨h1,h2,h3⟩:=E7 h
 refine ⟨fun p hp=> ?_,by omega,by omega⟩
 obtain ⟨q1,q2⟩:=Gm (h2 p hp)
 exact ⟨by omega,by omega⟩
theorem Qb {n:AP} {i:Nat} (hi:i < n.props.length):(n.props.take (i+1)).flatMap CY=(n.props.take i).flatMap CY++CY (n.props.getD i ED):=by
 rw[List.take_succ_eq_append_getElem hi,List.flatMap_append]
 congr 1
 simp[hi]
theorem GN (l:List AI) (i:Nat):((l.take i).flatMap CY).length≤(l.flatMap CY).length:=by
 conv=> rhs;rw[←List.take_append_drop i l]
 rw[List.flatMap_append,List.length_append]
 omega
theorem Ac8 (n:Int):W7 .i64 n 24=n/16777216:=Int.fdiv_eq_ediv_of_nonneg _ (by decide)
theorem Ac7 (n:Int):W7 .i64 n 16=n/65536:=Int.fdiv_eq_ediv_of_nonneg _ (by decide)
theorem Ac9 (n:Int):W7 .i64 n 8=n/256:=Int.fdiv_eq_ediv_of_nonneg _ (by decide)
def F6:Nat→Lo:=fun id=> match id with | 5=> {uo:=[6,9],ex:=[0,1,2,3,4,5,10],kn:=[5000,24]} | 8=> {uo:=[6,9],ex:=[0,1,2,3,4,5,10],kn:=[33,43]} | 11=> {uo:=[6,9],ex:=[0,1,2,3,4,5,10],kn:=[5000,58]} | _=> {}
theorem X6 (n:AP) (hn:n.Fits) (hl:(BT n).length≤4194304):A8 Tryz.prog D 177 [An n] ⟨.os 0,[(5,1,(BT n).map Ac)]⟩:=by
 have hok:Cl Tryz.prog D (Ao []):=Ar _
 have hnl:=hn.2.1
 have hbl:=hn.2.2
 have hlen:(BT n).length=1+(n.props.flatMap CY).length+(1+n.body.length):=by simp[BT,Bw];omega
 refine Ch (G:=Ao []) (rs:=[(2,none)]) mixed tok hok Tryz.func177 rfl (by decide) Tryz.results177 (by decide) rfl Tryz.ntmps177 (by simp) (by simp[An,Af,Ad]) fun X hP hD hG' hX=> Al hX F6 _ _ _ ?_
 have gn:∀a,Ao ([]:List (BH Tryz.prog D)) 226 a=none:=fun a=> rfl
 generalize Ao []=G at *
 simp only[AU,Bz,An]
 simp (disch:=omega) only[go_sem,hD,hG',AA,F6,AM,Aa]
 refine Tr.loop (ι:=Nat) (fun i=> i≤n.props.length) (fun i=> {nt:=62,tm:=[(1,.ptr 1 0),(3,.os 5000),(12,.sl 4 (n.props.map Aq)),(13,.int .i64 n.props.length),(14,.int .i64 i)],bl:=[(1,some (.cells [.sl 4 (n.props.map Aq),.sl 1 (n.body.map Ac)])),(5000,some (.rows 5 1 ((Bi n.props.length::(n.props.take i).flatMap CY).map Ac)))]}) (fun i=> n.props.length - i) 0
  ⟨Nat.zero_le _,AG hD [(1,1),(5000,10)] rfl rfl (by simp only[go_sem];try simp) (by simp only[go_sem,Kf,Kg,Kh,EN,EO,EP,CH];simp[Ac])⟩ ?_
 intro i hi
 have hti:=GN n.props i
 refine Al hX F6 _ _ _ ?_
 simp (disch:=omega) only[go_sem,hD,hG',AA,F6]
 refine Ai (fun h=> ?_) (fun h=> ?_)
 ·rw[decide_eq_true_eq] at h
  have hi1:i < n.props.length:=by omega
  have hbt:=Qb hi1
  have hti1:=GN n.props (i+1)
  rw[hbt,List.length_append] at hti1
  generalize hp:n.props.getD i ED=p at *
  have hpl:p.key.data.toList.length+2≤(CY p).length:=by
   simp only[CY,Bw,List.length_append,List.length_cons]
   omega
  simp (disch:=omega) only[go_sem,hD,hG',AA,F6,AM,HJ,hp,Aq]
  ((try and_intros);all_goals (try first | omega | decide | (simp;done) | (simp only[List.length_append,List.length_cons,List.length_nil,List.length_map];omega)))
  refine Ai (fun h=> ?_) (fun h=> ?_)
  ·have hk:p.kind=2:=by simpa using h
   have hpb:CY p=Bw p.key.data.toList++(Bi p.kind::Bw p.text.data.toList):=by simp[CY,hk]
   rw[hpb] at hbt hti1
   simp only[Bw,List.length_append,List.length_cons] at hti1
   simp (disch:=omega) only[go_sem,hD,hG',AA,F6,AM]
   ((try and_intros);all_goals (try first | omega | decide | (simp;done) | (simp only[List.length_append,List.length_cons,List.length_nil,List.length_map];omega)))
   refine ⟨i+1,⟨by omega,by omega⟩,AG hD [(1,1),(5000,46)] rfl rfl ?_ ?_⟩
   ·simp only[go_sem]
    simp
   ·simp only[go_sem,Kf,Kg,Kh,EN,EO,EP,CH]
    simp[hbt,Bw,Ac]
  ·have hk:¬p.kind=2:=by simpa using h
   have hpb:CY p=Bw p.key.data.toList++(Bi p.kind::C2 p.n):=by simp[CY,hk]
   rw[hpb] at hbt hti1
   simp only[Bw,C2,List.length_append,List.length_cons] at hti1
   simp (disch:=omega) only[go_sem,hD,hG',AA,F6,AM,gn,Ay]
   refine Jq (rs:=[(4,none)]) hX.types rfl (by rw[hP];exact Tryz.func226) rfl (by decide) Tryz.results226 (by decide) Tryz.ntmps226 (by simp) (by simp) 70000 XK ?_
   refine Al (WH hX 70000 Rk.none) F6 _ _ _ ?_
   simp (disch:=omega) only[go_sem,hD,hG',AA,F6,AM,Bf,Bg,IB,Iy,Dy,Bz,Aa,Option.some.injEq,exists_eq_left',Fq,Ac8,Ac7,Ac9]
   ((try and_intros);all_goals (try first | omega | decide | (simp;done) | (simp only[List.length_append,List.length_cons,List.length_nil,List.length_map];omega)))
   refine ⟨i+1,⟨by omega,by omega⟩,AG hD [(1,1),(5000,70018)] rfl rfl ?_ ?_⟩
   ·simp only[go_sem]
    simp
   ·simp only[go_sem,Kf,Kg,Kh,EN,EO,EP,CH]
    simp[hbt,Bw,C2,Ac]
 ·rw[decide_eq_false_iff_not] at h
  have hie:i=n.props.length:=by omega
  subst hie
  rw[List.take_length] at *
  simp (disch:=omega) only[go_sem,hD,hG',AA,F6,AM,Aa]
  ((try and_intros);all_goals (try first | omega | decide | (simp;done) | (simp only[List.length_append,List.length_cons,List.length_nil,List.length_map];omega)))
  refine ⟨[],[(0,61)],rfl,rfl,?_,?_⟩ <;> simp only[go_sem,Kf,Kg,Kh,EN,EO,EP,CH]
  all_goals simp[BT,Bw,Ac]
theorem Zj (l:List UInt8):(Bw l).length=l.length+1:=rfl
theorem AbJ (n:Int):(C2 n).length=4:=rfl
def D3:Nat→Lo:=fun id=> match id with | 5=> {uo:=[4,9],ex:=[0,1,2,3,10],kn:=[5000,22]} | _=> {}
theorem SJ (n:AP) (hn:n.Fits) (hl:(BT n).length≤4194304):A8 Tryz.prog D 135 [An n] ⟨.sl 1 ((BT n).map Ac),[]⟩:=by
 have hok:Cl Tryz.prog D (Ao [CQ,E9]):=Ar _
 have hnl:=hn.2.1
 have hbl:=hn.2.2
 have hlen:(BT n).length=1+(n.props.flatMap CY).length+(1+n.body.length):=by simp[BT,Bw];omega
 refine Ch (G:=Ao [CQ,E9]) (rs:=[(2,none)]) mixed tok hok Tryz.func135 rfl (by decide) Tryz.results135 (by decide) rfl Tryz.ntmps135 (by simp) (by simp[An,Af,Ad]) fun X hP hD hG' hX=> Al hX D3 _ _ _ ?_
 have gt:∀l:List UInt8,l.length≤8388608→Ao [CQ,E9] 133 [.str l]=some ⟨.sl 1 ((Bw l).map Ac),[]⟩:=fun l h=> AQ (E:=CQ) (i:=0) rfl (by decide) l h rfl rfl
 have gn:∀m:Int,Ao [CQ,E9] 134 [.int .i64 m]=some ⟨.sl 1 ((C2 m).map Ac),[]⟩:=fun m=> AQ (E:=E9) (i:=1) rfl (by decide) m trivial rfl rfl
 generalize Ao [CQ,E9]=G at *
 simp only[AU,Bz,An]
 simp (disch:=omega) only[go_sem,hD,hG',AA,D3,gt,gn,C2,Bw,AM,Aa]
 refine Tr.loop (ι:=Nat) (fun i=> i≤n.props.length) (fun i=> {nt:=48,tm:=[(1,.ptr 1 0),(3,.os 5000),(12,.sl 4 (n.props.map Aq)),(13,.int .i64 n.props.length),(14,.int .i64 i)],bl:=[(1,some (.cells [.sl 4 (n.props.map Aq),.sl 1 (n.body.map Ac)])),(5000,some (.rows 5 1 ((Bi n.props.length::(n.props.take i).flatMap CY).map Ac)))]}) (fun i=> n.props.length - i) 0
  ⟨Nat.zero_le _,AG hD [(1,1),(5000,10)] rfl rfl (by simp only[go_sem];try simp) (by simp only[go_sem,Kf,Kg,Kh,EN,EO,EP,CH];simp[Ac])⟩ ?_
 intro i hi
 have hti:=GN n.props i
 refine Al hX D3 _ _ _ ?_
 simp (disch:=omega) only[go_sem,hD,hG',AA,D3]
 refine Ai (fun h=> ?_) (fun h=> ?_)
 ·rw[decide_eq_true_eq] at h
  have hi1:i < n.props.length:=by omega
  have hbt:=Qb hi1
  have hti1:=GN n.props (i+1)
  rw[hbt,List.length_append] at hti1
  generalize hp:n.props.getD i ED=p at *
  have hpl:p.key.data.toList.length+2≤(CY p).length:=by
   simp only[CY,Bw,List.length_append,List.length_cons]
   omega
  have hkl:p.key.data.toList.length≤8388608:=by omega
  have gk:=gt _ hkl
  simp (disch:=omega) only[go_sem,hD,hG',AA,D3,gk,Bw,AM,HJ,hp,Aq]
  ((try and_intros);all_goals (try first | omega | decide | (simp;done) | (simp only[List.length_append,List.length_cons,List.length_nil,List.length_map];omega)))
  refine Ai (fun h=> ?_) (fun h=> ?_)
  ·have hk:p.kind=2:=by simpa using h
   have hpb:CY p=Bw p.key.data.toList++(Bi p.kind::Bw p.text.data.toList):=by simp[CY,hk]
   rw[hpb] at hbt hti1
   simp only[Bw,List.length_append,List.length_cons] at hti1
   simp (disch:=omega) only[go_sem,hD,hG',AA,D3,gt,gn,C2,Bw,AM]
   ((try and_intros);all_goals (try first | omega | decide | (simp;done) | (simp only[List.length_append,List.length_cons,List.length_nil,List.length_map];omega)))
   refine ⟨i+1,⟨by omega,by omega⟩,AG hD [(1,1),(5000,35)] rfl rfl ?_ ?_⟩
   ·simp only[go_sem]
    simp
   ·simp only[go_sem,Kf,Kg,Kh,EN,EO,EP,CH]
    simp[hbt,Bw,Ac]
  ·have hk:¬p.kind=2:=by simpa using h
   have hpb:CY p=Bw p.key.data.toList++(Bi p.kind::C2 p.n):=by simp[CY,hk]
   rw[hpb] at hbt hti1
   simp only[Bw,C2,List.length_append,List.length_cons] at hti1
   simp (disch:=omega) only[go_sem,hD,hG',AA,D3,gt,gn,C2,Bw,AM]
   ((try and_intros);all_goals (try first | omega | decide | (simp;done) | (simp only[List.length_append,List.length_cons,List.length_nil,List.length_map];omega)))
   refine ⟨i+1,⟨by omega,by omega⟩,AG hD [(1,1),(5000,40)] rfl rfl ?_ ?_⟩
   ·simp only[go_sem]
    simp
   ·simp only[go_sem,Kf,Kg,Kh,EN,EO,EP,CH]
    simp[hbt,Bw,C2,Ac]
 ·rw[decide_eq_false_iff_not] at h
  have hie:i=n.props.length:=by omega
  subst hie
  rw[List.take_length] at *
  simp (disch:=omega) only[go_sem,hD,hG',AA,D3,gt,gn,C2,Bw,AM,Aa]
  ((try and_intros);all_goals (try first | omega | decide | (simp;done) | (simp only[List.length_append,List.length_cons,List.length_nil,List.length_map];omega)))
  refine ⟨[47],[],rfl,rfl,?_,?_⟩ <;> simp only[go_sem]
  simp[BT,Bw,Ac]
def Bk (n:Nat) (l:List UInt8) (bad:Bool):List UInt8×List UInt8×Bool:=
 if bad=true∨l.length < n then (List.replicate n 0,l,true) else (l.take n,l.drop n,false)
theorem Iw (n:Nat) (l:List UInt8) (bad:Bool):(Bk n l bad).1.length=n:=by
 unfold Bk
 split
 ·simp
 ·simp;omega
theorem Iv (n:Nat) (l:List UInt8) (bad:Bool):(Bk n l bad).2.1.length≤l.length:=by
 unfold Bk
 split <;> simp
def Bb (l:List UInt8) (bad:Bool):List UInt8×List UInt8×Bool:=
 Bk ((Bk 1 l bad).1.getD 0 0).toNat (Bk 1 l bad).2.1 (Bk 1 l bad).2.2
theorem Sn (l:List UInt8) (bad:Bool):(Bb l bad).1.length≤255:=by
 unfold Bb
 rw[Iw]
 have:=((Bk 1 l bad).1.getD 0 0).toNat_lt
 omega
theorem VW (l:List UInt8) (bad:Bool):(Bb l bad).2.1.length≤l.length:=
 Nat.le_trans (Iv _ _ _) (Iv _ _ _)
def Fn:ID:=fun dn f args bl=>
 match args with
 | [.ptr v 0,.int .i64 n]=> if f=248 then
  match bl v with
  | some (.cells [.sl 1 rs,.bool bad])=> some {v:=.sl 1 ((Bk n.toNat (Cb rs) bad).1.map Ac),up:=[(v,.cells [.sl 1 ((Bk n.toNat (Cb rs) bad).2.1.map Ac),.bool (Bk n.toNat (Cb rs) bad).2.2])],pre:=(0≤n∧n≤65536)∧isB rs∧rs.length≤8388608}
  | _=> none
  else none
 | _=> none
def HX:ID:=fun dn f args bl=>
 match args with
 | [.ptr v 0]=> match bl v with
  | some (.cells [.sl 1 rs,.bool bad])=> some {v:=.sl 1 ((Bb (Cb rs) bad).1.map Ac),up:=[(v,.cells [.sl 1 ((Bb (Cb rs) bad).2.1.map Ac),.bool (Bb (Cb rs) bad).2.2])],pre:=isB rs∧rs.length≤8388608}
  | _=> none
 | _=> none
def DK:ID:=fun dn f args bl=> if f=249 then HX dn f args bl else Fn dn f args bl
theorem Vv {G:PW} (hg:∀l:List UInt8,l.length≤8388608→G 109 [.sl 1 (l.map Ac)]=some ⟨.sl 1 (l.map Ac),[]⟩):Rk Tryz.prog D G Fn:=by
 intro X hP hD hG hM hmx hT hok ops o σ e hgd he hpre hfr
 obtain ⟨dst,f,args,types,ty,pos,af,g,caps,rfl,hf,he⟩:=JR he hgd
 unfold Fn at he
 split at he
 case h_2=> cases he
 rename_i v n hargs
 split at he
 case isFalse=> cases he
 rename_i hg80
 subst hg80
 split at he
 case h_2=> cases he
 rename_i rs bad hbl
 have hbl:=GT hbl
 injection he with he
 subst he
 obtain ⟨⟨hn0,hn1⟩,hB,hrl⟩:=hpre
 obtain ⟨n,rfl⟩:=Int.eq_ofNat_of_zero_le hn0
 unfold isB at hB
 rw[hB] at hbl
 generalize hl:Cb rs=l at *
 have hll:l.length≤8388608:=by rw[←hl];simpa[Cb] using hrl
 simp only[DO,Int.toNat_natCast] at hfr ⊢
 have hX:({X with nb:=70000,M:=XK}:Cx).Ok:=Rk.ok Rk.none hP hD hG rfl hmx hT hok
 have hdst:∀k,dst=some k→k < σ.nt:=fun k hk=> by
  subst hk
  simpa[fresh,AF,CC] using hfr
 refine Jq (rs:=[(4,none)]) (by rw[hP,hD];exact hT) hf (by rw[hP];exact Tryz.func248) rfl (by decide) Tryz.results248 (by decide) Tryz.ntmps248 (by rw[hargs];simp) hdst 70000 XK ?_
 rw[hargs]
 refine Al hX (fun _=> {}) _ _ _ ?_
 have hb0:get v σ.bl=some (some (.cells [.sl 1 (l.map Ac),.bool bad])):=Fb.1 hbl
 simp (disch:=((try simp only[List.length_drop,List.length_take,List.length_append,List.length_cons,List.length_nil,List.length_map]);omega)) only[go_sem,Nat.reduceLeDiff,reduceCtorEq,Nat.reduceAdd,Nat.reduceSub,Nat.reduceMul,Nat.reduceLT,Nat.reduceEqDiff,Int.reduceEq,Int.reduceLE,Int.reduceLT,Int.reducePow,Int.reduceMul,Int.reduceToNat,Int.reduceNeg,↓reduceIte,←List.map_take,←List.map_drop,hD,hG,AA,AM,hg,hb0,Bf,Bg,IB,Iy,Dy,Bz,Aa,Option.some.injEq,exists_eq_left',Fq]
 refine Au.mk [] ?_
 simp (disch:=((try simp only[List.length_drop,List.length_take,List.length_append,List.length_cons,List.length_nil,List.length_map]);omega)) only[go_sem,Nat.reduceLeDiff,reduceCtorEq,Nat.reduceAdd,Nat.reduceSub,Nat.reduceMul,Nat.reduceLT,Nat.reduceEqDiff,Int.reduceEq,Int.reduceLE,Int.reduceLT,Int.reducePow,Int.reduceMul,Int.reduceToNat,Int.reduceNeg,↓reduceIte,←List.map_take,←List.map_drop,hD,hG,AA,AM,hg,hb0,Bf,Bg,IB,Iy,Dy,Bz,Aa,Option.some.injEq,exists_eq_left',Fq]
 ((try and_intros);all_goals (try first | omega | decide | (simp;done) | (simp only[List.length_append,List.length_cons,List.length_nil,List.length_map];omega)))
 refine Ai (fun h=> ?_) (fun h=> ?_)
 ·simp (disch:=((try simp only[List.length_drop,List.length_take,List.length_append,List.length_cons,List.length_nil,List.length_map]);omega)) only[go_sem,Nat.reduceLeDiff,reduceCtorEq,Nat.reduceAdd,Nat.reduceSub,Nat.reduceMul,Nat.reduceLT,Nat.reduceEqDiff,Int.reduceEq,Int.reduceLE,Int.reduceLT,Int.reducePow,Int.reduceMul,Int.reduceToNat,Int.reduceNeg,↓reduceIte,←List.map_take,←List.map_drop,hD,hG,AA,AM,hg,hb0,Bf,Bg,IB,Iy,Dy,Bz,Aa,Option.some.injEq,exists_eq_left',Fq]
  have ht:Bk n l bad=(List.replicate n 0,l,true):=by
   unfold Bk
   cases bad <;> simp at h ⊢
   omega
  rw[ht,IW]
  exact ⟨⟨by omega,by omega⟩,Ia.refl _⟩
 ·have hb:bad=false:=by
   cases bad
   ·rfl
   ·simp at h
  subst hb
  have hn:n≤l.length:=by simp at h;omega
  simp (disch:=((try simp only[List.length_drop,List.length_take,List.length_append,List.length_cons,List.length_nil,List.length_map]);omega)) only[go_sem,Nat.reduceLeDiff,reduceCtorEq,Nat.reduceAdd,Nat.reduceSub,Nat.reduceMul,Nat.reduceLT,Nat.reduceEqDiff,Int.reduceEq,Int.reduceLE,Int.reduceLT,Int.reducePow,Int.reduceMul,Int.reduceToNat,Int.reduceNeg,↓reduceIte,←List.map_take,←List.map_drop,hD,hG,AA,AM,hg,hb0,Bf,Bg,IB,Iy,Dy,Bz,Aa,Option.some.injEq,exists_eq_left',Fq]
  have ht:Bk n l false=(l.take n,l.drop n,false):=by
   unfold Bk
   rw[if_neg (by simp;omega)]
  refine ⟨⟨by omega,by omega⟩,⟨by omega,by omega,by omega⟩,?_⟩
  rw[ht,IW,List.take_length]
  exact Ia.refl _
theorem WO {G:PW} (hg:∀l:List UInt8,l.length≤8388608→G 109 [.sl 1 (l.map Ac)]=some ⟨.sl 1 (l.map Ac),[]⟩) (hg2:∀a,G 248 a=none):Rk Tryz.prog D G DK:=by
 intro X hP hD hG hM hmx hT hok ops o σ e hgd he hpre hfr
 obtain ⟨dst,f,args,types,ty,pos,af,g,caps,rfl,hf,he'⟩:=JR he hgd
 unfold DK at he'
 split at he'
 case isFalse=>
  have hin:=Vv hg {X with M:=Fn} hP hD hG rfl hmx hT hok ops ⟨dst,.call ⟨.value f,args,types⟩,ty,pos,af,none⟩ σ e rfl ?_ hpre hfr
  exact ⟨fun γ a w i Qx hi hs=> hin.1 γ a w i Qx hi hs⟩
  simp only[Jv,US,hf]
  exact he'
 rename_i hg81
 subst hg81
 unfold HX at he'
 split at he'
 case h_2=> cases he'
 rename_i v hargs
 split at he'
 case h_2=> cases he'
 rename_i rs bad hbl
 have hbl:=GT hbl
 injection he' with he'
 subst he'
 obtain ⟨hB,hrl⟩:=hpre
 unfold isB at hB
 rw[hB] at hbl
 generalize hl:Cb rs=l at *
 have hll:l.length≤8388608:=by rw[←hl];simpa[Cb] using hrl
 simp only[DO] at hfr ⊢
 have hX:({X with nb:=70000,M:=Fn}:Cx).Ok:=Rk.ok (Vv hg) hP hD hG rfl hmx hT hok
 have hdst:∀k,dst=some k→k < σ.nt:=fun k hk=> by
  subst hk
  simpa[fresh,AF,CC] using hfr
 refine Jq (rs:=[(2,none)]) (by rw[hP,hD];exact hT) hf (by rw[hP];exact Tryz.func249) rfl (by decide) Tryz.results249 (by decide) Tryz.ntmps249 (by rw[hargs];simp) hdst 70000 Fn ?_
 rw[hargs]
 refine Al hX (fun _=> {}) _ _ _ ?_
 have hb0:get v σ.bl=some (some (.cells [.sl 1 (l.map Ac),.bool bad])):=Fb.1 hbl
 have t1:=Iw 1 l bad
 have t2:=Iv 1 l bad
 simp (disch:=((try simp only[List.length_drop,List.length_take,List.length_append,List.length_cons,List.length_nil,List.length_map]);omega)) only[go_sem,Nat.reduceLeDiff,reduceCtorEq,Nat.reduceAdd,Nat.reduceSub,Nat.reduceMul,Nat.reduceLT,Nat.reduceEqDiff,Int.reduceEq,Int.reduceLE,Int.reduceLT,Int.reducePow,Int.reduceMul,Int.reduceToNat,Int.reduceNeg,↓reduceIte,←List.map_take,←List.map_drop,hD,hG,AA,AM,hg2,Fn,Ay,hb0,AD,Av,Bf,Bg,IB,Iy,Dy,Bz,Aa,Option.some.injEq,exists_eq_left',Fq]
 rw[IW]
 refine ⟨by omega,by omega,⟨⟨by omega,?_⟩,by omega⟩,rfl,fun t=> rfl,fun m=> ?_⟩
 ·have:=((Bk 1 l bad).1.getD 0 0).toNat_lt
  omega
 ·simp only[blk,get]
  split <;> rfl
def RB (l:List UInt8):Nat:=16777216*(l.getD 0 0).toNat+65536*(l.getD 1 0).toNat+256*(l.getD 2 0).toNat+(l.getD 3 0).toNat
def Ds (l:List UInt8):Int:=IntKind.wrap .i32 (RB l:Int)
theorem JQ (l:List UInt8): -2147483648≤Ds l∧Ds l≤2147483647:=by
 unfold Ds
 rw[IntKind.wrap_i32]
 omega
theorem orN (i a b:Nat) (hb:b < 2^i) (ha:2^i*a+b < 4294967296):Zt .u32 ((2^i*a:Nat):Int) (b:Int)=((2^i*a+b:Nat):Int):=by
 unfold Zt
 have e:∀n:Nat,BitVec.ofInt 32 (n:Int)=BitVec.ofNat 32 n:=fun n=> by
  apply BitVec.eq_of_toNat_eq
  simp[BitVec.toNat_ofInt]
 show IntKind.wrap .u32 ((BitVec.ofInt 32 _ ||| BitVec.ofInt 32 _).toNat:Int)=_
 rw[e,e,BitVec.toNat_or,BitVec.toNat_ofNat,BitVec.toNat_ofNat,Nat.mod_eq_of_lt (by omega),Nat.mod_eq_of_lt (by omega),←Nat.two_pow_add_eq_or_of_lt hb,IntKind.wrap_u32]
 omega
theorem AcM (a k:Nat) (h:a < 256) (hk:k≤24):Lb .u32 (a:Int) (k:Int)=((2^k*a:Nat):Int):=by
 unfold Lb
 have h1:min ((k:Int)).toNat IntKind.u32.bits=k:=by
  show min k 32=k
  omega
 rw[h1,IntKind.wrap_u32]
 have h2:2^k≤2^24:=Nat.pow_le_pow_right (by decide) hk
 have h3:2^k*a≤2^24*255:=Nat.mul_le_mul h2 (by omega)
 have h4:(a:Int)*2^k=((2^k*a:Nat):Int):=by push_cast;rw[Int.mul_comm]
 rw[h4]
 omega
theorem Acc (l:List UInt8):Zt .u32 (Zt .u32 (Zt .u32 (Lb .u32 ((l.getD 0 0).toNat:Int) 24) (Lb .u32 ((l.getD 1 0).toNat:Int) 16)) (Lb .u32 ((l.getD 2 0).toNat:Int) 8)) ((l.getD 3 0).toNat:Int)=(RB l:Int):=by
 have h0:=(l.getD 0 0).toNat_lt
 have h1:=(l.getD 1 0).toNat_lt
 have h2:=(l.getD 2 0).toNat_lt
 have h3:=(l.getD 3 0).toNat_lt
 unfold RB
 generalize (l.getD 0 0).toNat=a at *
 generalize (l.getD 1 0).toNat=b at *
 generalize (l.getD 2 0).toNat=c at *
 generalize (l.getD 3 0).toNat=d at *
 have s1:=AcM a 24 h0 (by omega)
 have s2:=AcM b 16 h1 (by omega)
 have s3:=AcM c 8 h2 (by omega)
 have o1:=orN 24 a (2^16*b) (by omega) (by omega)
 have e1:2^24*a+2^16*b=2^16*(256*a+b):=by omega
 have o2:=orN 16 (256*a+b) (2^8*c) (by omega) (by omega)
 have e2:2^16*(256*a+b)+2^8*c=2^8*(65536*a+256*b+c):=by omega
 have o3:=orN 8 (65536*a+256*b+c) d (by omega) (by omega)
 have s1':Lb .u32 (a:Int) 24=((2^24*a:Nat):Int):=s1
 have s2':Lb .u32 (b:Int) 16=((2^16*b:Nat):Int):=s2
 have s3':Lb .u32 (c:Int) 8=((2^8*c:Nat):Int):=s3
 rw[s1',s2',s3',o1,e1,o2,e2,o3]
def El:List UInt8→Option (List UInt8×List UInt8)
 | []=> none
 | c::r=> if r.length < c.toNat then none else some (r.take c.toNat,r.drop c.toNat)
def Fs (l:List UInt8):Option (AI×List UInt8):=
 match El l with
 | none=> none
 | some (k,r)=> match r with
  | []=> none
  | kd::r=> if kd.toNat=2 then (match El r with
    | none=> none
    | some (t,r)=> some (⟨⟨⟨k⟩⟩,2,0,⟨⟨t⟩⟩⟩,r))
   else if r.length < 4 then none else some (⟨⟨⟨k⟩⟩,kd.toNat,Ds (r.take 4),⟨#[]⟩⟩,r.drop 4)
def D1:Nat→List UInt8→Option (List AI×List UInt8)
 | 0,l=> some ([],l)
 | k+1,l=> match Fs l with
  | none=> none
  | some (p,r)=> (D1 k r).map fun x=> (p::x.1,x.2)
def A5 (l:List UInt8):AP×Nat×Int:=
 match l with
 | []=> (Ah,0,9)
 | c::r=> if 4 < c.toNat then (Ah,0,5) else match D1 c.toNat r with
  | none=> (Ah,0,9)
  | some (ps,r)=> match El r with
   | none=> (Ah,0,9)
   | some (b,r)=> if AZ ⟨ps,b⟩=0 then (⟨ps,b⟩,l.length - r.length,0) else (Ah,0,AZ ⟨ps,b⟩)
theorem Ee (n:Nat) (l:List UInt8):(Bk n l true).2.2=true:=by simp[Bk]
theorem Ix (l:List UInt8):(Bb l true).2.2=true:=by
 unfold Bb
 rw[Ee]
 exact Ee _ _
theorem Gr {n:Nat} {l:List UInt8} (h:l.length < n):(Bk n l false).2.2=true:=by simp[Bk,h]
theorem Gq {n:Nat} {l:List UInt8} (h:¬l.length < n):Bk n l false=(l.take n,l.drop n,false):=by simp[Bk,h]
theorem Hj {l:List UInt8} (h:El l=none):(Bb l false).2.2=true:=by
 unfold Bb
 cases l with
 | nil=>
  rw[Gr (n:=1) (l:=[]) (by simp)]
  exact Ee _ _
 | cons c r=>
  rw[El] at h
  split at h
  ·rename_i hc
   rw[Gq (n:=1) (by simp)]
   exact Gr (by simpa using hc)
  ·cases h
theorem Hk {l t r:List UInt8} (h:El l=some (t,r)):Bb l false=(t,r,false):=by
 unfold Bb
 cases l with
 | nil=> cases h
 | cons c q=>
  rw[El] at h
  split at h
  ·cases h
  ·rename_i hc
   cases h
   rw[Gq (n:=1) (by simp)]
   simp only[List.take_succ_cons,List.take_zero,List.drop_succ_cons,List.drop_zero,List.getD_cons_zero]
   exact Gq hc
def K3 (l:List UInt8) (bad:Bool):Option (AI×List UInt8):=if bad=true then none else Fs l
def CT (k:Nat) (l:List UInt8) (bad:Bool):Option (List AI×List UInt8):=if bad=true then none else D1 k l
theorem WX (l:List UInt8) (bad:Bool) (hk:(((Bk 1 (Bb l bad).2.1 (Bb l bad).2.2).1.getD 0 0).toNat=2)):
  K3 l bad=if (Bb (Bk 1 (Bb l bad).2.1 (Bb l bad).2.2).2.1 (Bk 1 (Bb l bad).2.1 (Bb l bad).2.2).2.2).2.2=true then none else
   some (⟨⟨⟨(Bb l bad).1⟩⟩,2,0,⟨⟨(Bb (Bk 1 (Bb l bad).2.1 (Bb l bad).2.2).2.1 (Bk 1 (Bb l bad).2.1 (Bb l bad).2.2).2.2).1⟩⟩⟩,(Bb (Bk 1 (Bb l bad).2.1 (Bb l bad).2.2).2.1 (Bk 1 (Bb l bad).2.1 (Bb l bad).2.2).2.2).2.1):=by
 cases bad with
 | true=> simp[K3,Ix,Ee]
 | false=>
  simp only[K3,Bool.false_eq_true,if_false,Fs]
  cases ht:El l with
  | none=>
   have hb:=Hj ht
   rw[hb,Ee,Ix]
   simp
  | some x=>
   obtain ⟨t,r⟩:=x
   rw[Hk ht] at hk ⊢
   simp only at hk ⊢
   cases r with
   | nil=>
    rw[Gr (n:=1) (l:=[]) (by simp),Ix]
    simp
   | cons kd r=>
    rw[Gq (n:=1) (by simp)] at hk ⊢
    simp only[List.take_succ_cons,List.take_zero,List.drop_succ_cons,List.drop_zero,List.getD_cons_zero] at hk ⊢
    rw[if_pos hk]
    cases ht2:El r with
    | none=> rw[if_pos (Hj ht2)]
    | some y=>
     obtain ⟨u,q⟩:=y
     rw[Hk ht2]
     simp
theorem Y2 (l:List UInt8) (bad:Bool) (hk:¬(((Bk 1 (Bb l bad).2.1 (Bb l bad).2.2).1.getD 0 0).toNat=2)):
  K3 l bad=if (Bk 4 (Bk 1 (Bb l bad).2.1 (Bb l bad).2.2).2.1 (Bk 1 (Bb l bad).2.1 (Bb l bad).2.2).2.2).2.2=true then none else
   some (⟨⟨⟨(Bb l bad).1⟩⟩,((Bk 1 (Bb l bad).2.1 (Bb l bad).2.2).1.getD 0 0).toNat,Ds (Bk 4 (Bk 1 (Bb l bad).2.1 (Bb l bad).2.2).2.1 (Bk 1 (Bb l bad).2.1 (Bb l bad).2.2).2.2).1,⟨#[]⟩⟩,(Bk 4 (Bk 1 (Bb l bad).2.1 (Bb l bad).2.2).2.1 (Bk 1 (Bb l bad).2.1 (Bb l bad).2.2).2.2).2.1):=by
 cases bad with
 | true=> simp[K3,Ix,Ee]
 | false=>
  simp only[K3,Bool.false_eq_true,if_false,Fs]
  cases ht:El l with
  | none=>
   have hb:=Hj ht
   rw[hb,Ee,Ee]
   simp
  | some x=>
   obtain ⟨t,r⟩:=x
   rw[Hk ht] at hk ⊢
   simp only at hk ⊢
   cases r with
   | nil=>
    rw[Gr (n:=1) (l:=[]) (by simp),Ee]
    simp
   | cons kd r=>
    rw[Gq (n:=1) (by simp)] at hk ⊢
    simp only[List.take_succ_cons,List.take_zero,List.drop_succ_cons,List.drop_zero,List.getD_cons_zero] at hk ⊢
    rw[if_neg hk]
    by_cases h4:r.length < 4
    ·rw[if_pos h4,if_pos (Gr h4)]
    ·rw[if_neg h4,Gq h4]
     simp
theorem VC (k:Nat) (l:List UInt8) (bad:Bool):CT (k+1) l bad=match K3 l bad with
  | none=> none
  | some (p,r)=> (D1 k r).map fun x=> (p::x.1,x.2):=by
 unfold CT K3
 cases bad
 ·rfl
 ·rfl
theorem Pz {k:Nat} {l l':List UInt8} {bad bad':Bool} {p:AI} (h:K3 l bad=if bad'=true then none else some (p,l')):CT (k+1) l bad=(CT k l' bad').map fun x=> (p::x.1,x.2):=by
 rw[VC,h]
 unfold CT
 cases bad' <;> rfl
theorem Ef {l t r:List UInt8} (h:El l=some (t,r)):t.length≤255∧r.length < l.length∧l=Bi t.length::(t++r):=by
 cases l with
 | nil=> cases h
 | cons c q=>
  rw[El] at h
  split at h
  ·cases h
  ·rename_i hc
   cases h
   have:=c.toNat_lt
   have hl:(q.take c.toNat).length=c.toNat:=by rw[List.length_take];omega
   refine ⟨by rw[hl];omega,by simp;omega,?_⟩
   rw[hl,KR,List.take_append_drop]
theorem WZ {l r:List UInt8} {p:AI} (h:Fs l=some (p,r)):p.key.size≤255∧p.text.size≤255∧r.length < l.length:=by
 unfold Fs at h
 split at h
 ·cases h
 ·rename_i k q hk
  have h1:=Ef hk
  split at h
  ·cases h
  ·rename_i kd q
   split at h
   ·split at h
    ·cases h
    ·rename_i t q2 ht
     have h2:=Ef ht
     cases h
     refine ⟨h1.1,h2.1,?_⟩
     have:=h1.2.1
     simp only[List.length_cons] at this
     omega
   ·split at h
    ·cases h
    ·cases h
     refine ⟨h1.1,Nat.zero_le _,?_⟩
     have:=h1.2.1
     simp only[List.length_cons,List.length_drop] at this ⊢
     omega
theorem PB:∀{k:Nat} {l r:List UInt8} {ps:List AI},D1 k l=some (ps,r)→(∀p∈ps,p.key.size≤255∧p.text.size≤255)∧ps.length=k∧r.length≤l.length
 | 0,l,r,ps,h=> by
  cases h
  simp
 | k+1,l,r,ps,h=> by
  rw[D1] at h
  split at h
  ·cases h
  ·rename_i p q hp
   have h1:=WZ hp
   obtain ⟨⟨ps',r'⟩,hx,he⟩:=Option.map_eq_some_iff.1 h
   cases he
   have h2:=PB hx
   refine ⟨fun x hx=> ?_,by simp[h2.2.1],by simp only;omega⟩
   rcases List.mem_cons.1 hx with rfl | hx
   ·exact ⟨h1.1,h1.2.1⟩
   ·exact h2.1 x hx
def JA (len:Nat) (o:Option (List AI×List UInt8)):AP×Nat×Int:=
 match o with
 | none=> (Ah,0,9)
 | some (ps,r)=> match El r with
  | none=> (Ah,0,9)
  | some (b,r)=> if AZ ⟨ps,b⟩=0 then (⟨ps,b⟩,len - r.length,0) else (Ah,0,AZ ⟨ps,b⟩)
theorem Sa (l:List UInt8):A5 l=if 4 < ((Bk 1 l false).1.getD 0 0).toNat then (Ah,0,5) else JA l.length (CT ((Bk 1 l false).1.getD 0 0).toNat (Bk 1 l false).2.1 (Bk 1 l false).2.2):=by
 cases l with
 | nil=> rfl
 | cons c r=>
  rw[Gq (n:=1) (by simp)]
  simp only[List.take_succ_cons,List.take_zero,List.drop_succ_cons,List.drop_zero,List.getD_cons_zero,CT,Bool.false_eq_true,if_false,A5,JA]
theorem QW (len:Nat) (ps:List AI) (l:List UInt8) (bad:Bool):JA len ((CT 0 l bad).map fun x=> (ps++x.1,x.2))=
  if (Bb l bad).2.2=true then (Ah,0,9) else if AZ ⟨ps,(Bb l bad).1⟩=0 then (⟨ps,(Bb l bad).1⟩,len - (Bb l bad).2.1.length,0) else (Ah,0,AZ ⟨ps,(Bb l bad).1⟩):=by
 cases bad with
 | true=> rw[Ix,if_pos rfl];rfl
 | false=>
  simp only[CT,Bool.false_eq_true,if_false,D1,Option.map_some,JA,List.append_nil]
  cases ht:El l with
  | none=> rw[Hj ht];rfl
  | some x=>
   obtain ⟨t,r⟩:=x
   rw[Hk ht]
   simp
theorem JK (b:UInt8):IntKind.wrap .u32 (b.toNat:Int)=b.toNat:=IntWalk.u32_in _ (by have:=b.toNat_lt;omega)
def DJ:Nat→Lo:=fun id=> match id with
 | 8=> {uo:=[1,4,10],un:=[13,8]}
 | 12=> {uo:=[25],un:=[8]}
 | 21=> {uo:=[9],un:=[2]}
 | _=> {}
def JB:List (BH Tryz.prog D):=[Hx,Fd]
theorem Ye (l:List UInt8) (hl:l.length≤4194304):A8 Tryz.prog D 208 [.sl 1 (l.map Ac)] ⟨.tup [An (A5 l).1,.int .i64 (A5 l).2.1,.int .i64 (A5 l).2.2],[]⟩:=by
 have g1:∀m:List UInt8,m.length≤8388608→Ao JB 109 [.sl 1 (m.map Ac)]=some ⟨.sl 1 (m.map Ac),[]⟩:=fun m hm=> AQ (E:=Hx) (T:=JB) (i:=0) rfl (by decide) m hm rfl rfl
 have g2:∀n:AP,n.Fits→Ao JB 132 [An n]=some ⟨.int .i64 (AZ n),[]⟩:=fun n hn=> AQ (E:=Fd) (T:=JB) (i:=1) rfl (by decide) n hn rfl rfl
 have g3:∀a,Ao JB 248 a=none:=fun a=> rfl
 have g4:∀a,Ao JB 249 a=none:=fun a=> rfl
 have hok:Cl Tryz.prog D (Ao JB):=Ar _
 generalize Ao JB=G at *
 refine JN (WO g1 g3) (G:=G) (rs:=[(2,some 25),(3,none),(4,none)]) mixed tok hok Tryz.func208 rfl (by decide) Tryz.results208 (by decide) rfl Tryz.ntmps208 (by simp) (by simp[Af,Ad]) fun X hP hD hG' hX=> Al hX DJ _ _ _ ?_
 simp only[AU,Bz]
 have t1:=Iw 1 l false
 have t2:=Iv 1 l false
 have hc:=((Bk 1 l false).1.getD 0 0).toNat_lt
 simp (disch:=omega) only[go_sem,hD,hG',AA,AM,g3,g4,DK,HX,Fn,Ay,AD,Av,DJ]
 ((try and_intros);all_goals (try first | omega | decide | (simp;done) | (simp only[List.length_append,List.length_cons,List.length_nil,List.length_map];omega)))
 have hps:=Sa l
 have hlen:(Bk 1 l false).2.1.length≤l.length:=t2
 generalize hq:Bk 1 l false=q at *
 obtain ⟨q1,l1,b1⟩:=q
 simp only at *
 generalize hcc:(q1.getD 0 0).toNat=c at *
 refine Ai (fun h=> ?_) (fun h=> ?_)
 ·have h4:4 < c:=by simp at h;omega
  rw[if_pos h4] at hps
  rw[hps]
  simp (disch:=omega) only[go_sem,hD,hG',AA,AM,g3,g4,DK,HX,Fn,Ay,AD,Av,DJ,Aa]
  refine ⟨[],[],rfl,rfl,?_,?_⟩ <;> simp only[go_sem,An,Ah]
  simp
 ·have h4:¬4 < c:=by simp at h;omega
  rw[if_neg h4] at hps
  rw[hps]
  simp (disch:=omega) only[go_sem,hD,hG',AA,AM,g3,g4,DK,HX,Fn,Ay,AD,Av,DJ]
  refine Tr.loop (ι:=Nat×List AI×List UInt8×Bool) (fun i=> (i.1≤c∧i.2.1.length=i.1)∧i.2.2.1.length≤l.length∧(∀p∈i.2.1,p.key.size≤255∧p.text.size≤255)∧CT c l1 b1=(CT (c - i.1) i.2.2.1 i.2.2.2).map fun x=> (i.2.1++x.1,x.2))
   (fun i=> {nt:=98,tm:=[(0,.sl 1 (l.map Ac)),(2,.ptr 2 0),(5,.ptr 13 0),(6,.ptr 6 0),(22,.int .i64 c),(23,.int .i64 i.1)],bl:=[(2,some (.cells [.nils,.nils])),(13,some (.cells [.sl 1 (i.2.2.1.map Ac),.bool i.2.2.2])),(6,some (.cells [.os 5000,.nils])),(5000,some (.rows 101 4 (i.2.1.map Aq)))]}) (fun i=> c - i.1) (0,[],l1,b1)
   ⟨⟨⟨Nat.zero_le _,rfl⟩,hlen,by simp,by cases (CT c l1 b1) <;> rfl⟩,AG hD [(2,2),(13,13),(6,6)] rfl rfl (by simp only[go_sem];try simp) (by simp only[go_sem,Kf,Xj,Kg,Kh,P4,EN,EO,EP,I9,CH,Jb,Jc,Jd];try simp)⟩ ?_
  rintro ⟨i,done,l2,b2⟩ ⟨⟨hi,hdl⟩,hl2,hfit,hrec⟩
  simp only at hi hdl hl2 hfit hrec
  refine Al hX DJ _ _ _ ?_
  have u1:=Sn l2 b2
  have u2:=VW l2 b2
  have hpt:=WX l2 b2
  have hpn:=Y2 l2 b2
  rcases ht:Bb l2 b2 with ⟨tx,l3,b3⟩
  rw[ht] at u1 u2 hpt hpn
  simp only at u1 u2 hpt hpn
  have u3:=Iw 1 l3 b3
  have u4:=Iv 1 l3 b3
  rcases hk:Bk 1 l3 b3 with ⟨kx,l4,b4⟩
  rw[hk] at u3 u4 hpt hpn
  simp only at u3 u4 hpt hpn
  have hkl:(kx.getD 0 0).toNat < 256:=(kx.getD 0 0).toNat_lt
  generalize hkd:(kx.getD 0 0).toNat=kd at hpt hpn hkl
  simp (disch:=omega) only[go_sem,hD,hG',AA,AM,g3,g4,DK,HX,Fn,Ay,AD,Av,DJ,ht,hk,hkd]
  refine Ai (fun h=> ?_) (fun h=> ?_)
  ·rw[decide_eq_true_eq] at h
   have hsucc:c - i=c - (i+1)+1:=by omega
   simp (disch:=omega) only[go_sem,hD,hG',AA,AM,g3,g4,DK,HX,Fn,Ay,AD,Av,DJ,ht,hk,hkd]
   ((try and_intros);all_goals (try first | omega | decide | (simp;done) | (simp only[List.length_append,List.length_cons,List.length_nil,List.length_map];omega)))
   refine Ai (fun h2=> ?_) (fun h2=> ?_)
   ·have h2':kd=2:=by
     rw[beq_iff_eq] at h2
     omega
    have hp:=hpt h2'
    have v1:=Sn l4 b4
    have v2:=VW l4 b4
    rcases htt:Bb l4 b4 with ⟨tt,l5,b5⟩
    rw[htt] at v1 v2 hp
    simp only at v1 v2 hp
    simp (disch:=omega) only[go_sem,hD,hG',AA,AM,g3,g4,DK,HX,Fn,Ay,AD,Av,DJ,htt,hkd]
    ((try and_intros);all_goals (try first | omega | decide | (simp;done) | (simp only[List.length_append,List.length_cons,List.length_nil,List.length_map];omega)))
    refine ⟨(i+1,done++[⟨⟨⟨tx⟩⟩,2,0,⟨⟨tt⟩⟩⟩],l5,b5),⟨⟨⟨by simp only;omega,by simp;omega⟩,by simp only;omega,?_,?_⟩,by simp only;omega⟩,AG hD [(2,2),(13,13),(6,6),(5000,72)] rfl rfl ?_ ?_⟩
    ·intro p hp
     rcases List.mem_append.1 hp with hp | hp
     ·exact hfit p hp
     ·rw[List.mem_singleton] at hp
      subst hp
      exact ⟨u1,v1⟩
    ·rw[hrec,hsucc,Pz hp,Option.map_map]
     congr 1
     funext x
     simp
    ·simp only[go_sem]
     simp
    ·simp only[go_sem,Kf,Xj,Kg,Kh,P4,EN,EO,EP,I9,CH,Jb,Jc,Jd]
     simp[Aq,h2']
   ·have h2':¬kd=2:=by
     rw[beq_eq_false_iff_ne] at h2
     omega
    have hp:=hpn h2'
    have v1:=Iw 4 l4 b4
    have v2:=Iv 4 l4 b4
    rcases htt:Bk 4 l4 b4 with ⟨tt,l5,b5⟩
    rw[htt] at v1 v2 hp
    simp only at v1 v2 hp
    have hgs:IntKind.wrap .i64 (IntKind.wrap .i32 (RB tt:Int))=Ds tt:=AA (by have:=JQ tt;unfold Ds at this;omega) (by have:=JQ tt;unfold Ds at this;omega)
    have hog:=Acc tt
    simp (disch:=omega) only[go_sem,hD,hG',AA,AM,g3,g4,DK,HX,Fn,Ay,AD,Av,DJ,htt,hkd,JK,hog,hgs]
    ((try and_intros);all_goals (try first | omega | decide | (simp;done) | (simp only[List.length_append,List.length_cons,List.length_nil,List.length_map];omega)))
    refine ⟨(i+1,done++[⟨⟨⟨tx⟩⟩,kd,Ds tt,⟨#[]⟩⟩],l5,b5),⟨⟨⟨by simp only;omega,by simp;omega⟩,by simp only;omega,?_,?_⟩,by simp only;omega⟩,AG hD [(2,2),(13,13),(6,6),(5000,72)] rfl rfl ?_ ?_⟩
    ·intro p hp
     rcases List.mem_append.1 hp with hp | hp
     ·exact hfit p hp
     ·rw[List.mem_singleton] at hp
      subst hp
      exact ⟨u1,Nat.zero_le _⟩
    ·rw[hrec,hsucc,Pz hp,Option.map_map]
     congr 1
     funext x
     simp
    ·simp only[go_sem]
     simp
    ·simp only[go_sem,Kf,Xj,Kg,Kh,P4,EN,EO,EP,I9,CH,Jb,Jc,Jd]
     simp[Aq]
  ·rw[decide_eq_false_iff_not] at h
   have hic:i=c:=by omega
   subst hic
   rw[Nat.sub_self] at hrec
   have hend:=QW l.length done l2 b2
   rw[←hrec,ht] at hend
   simp only at hend
   rw[hend]
   simp (disch:=omega) only[go_sem,hD,hG',AA,AM,g3,g4,DK,HX,Fn,Ay,AD,Av,DJ,ht]
   ((try and_intros);all_goals (try first | omega | decide | (simp;done) | (simp only[List.length_append,List.length_cons,List.length_nil,List.length_map];omega)))
   refine Ai (fun h2=> ?_) (fun h2=> ?_)
   ·subst h2
    simp (disch:=omega) only[go_sem,hD,hG',AA,AM,g3,g4,DK,HX,Fn,Ay,AD,Av,DJ,ht,Aa]
    refine ⟨[5000],[],rfl,rfl,?_,?_⟩ <;> simp only[go_sem,An,Ah]
    simp
   ·subst h2
    have hnf:AP.Fits ⟨done,tx⟩:=⟨fun p hp=> ⟨by have:=(hfit p hp).1;omega,by have:=(hfit p hp).2;omega⟩,by simp only;omega,by simp only;omega⟩
    have hw:=g2 _ hnf
    simp only[An] at hw
    generalize hwr:AZ ⟨done,tx⟩=wr at *
    simp (disch:=omega) only[go_sem,hD,hG',AA,AM,g3,g4,DK,HX,Fn,Ay,AD,Av,DJ,ht,hw]
    refine Ai (fun h3=> ?_) (fun h3=> ?_)
    ·have h3':¬wr=0:=by simpa using h3
     rw[if_neg h3']
     simp (disch:=omega) only[go_sem,hD,hG',AA,AM,g3,g4,DK,HX,Fn,Ay,AD,Av,DJ,ht,hw,Aa]
     refine ⟨[5000],[],rfl,rfl,?_,?_⟩ <;> simp only[go_sem,An,Ah]
     simp
    ·have h3':wr=0:=by simpa using h3
     rw[if_pos h3']
     simp (disch:=omega) only[go_sem,hD,hG',AA,AM,g3,g4,DK,HX,Fn,Ay,AD,Av,DJ,ht,hw,Aa]
     refine ⟨by decide,[5000],[],rfl,rfl,?_,?_⟩ <;> simp only[go_sem,An]
     omega
def Ki (l:List UInt8):Nat→Nat
 | 0=> 0
 | i+1=> 256*Ki l i+(l.getD i 0).toNat
theorem Abh (l:List UInt8):∀i,i≤3→Ki l i < 16777216:=fun i hi=> by
 have h0:=(l.getD 0 0).toNat_lt
 have h1:=(l.getD 1 0).toNat_lt
 have h2:=(l.getD 2 0).toNat_lt
 match i,hi with
 | 0,_=> simp[Ki]
 | 1,_=> simp only[Ki];omega
 | 2,_=> simp only[Ki];omega
 | 3,_=> simp only[Ki];omega
theorem Acp (l:List UInt8):Ki l 4=RB l:=by
 simp only[Ki,RB]
 omega
theorem Abn (l:List UInt8) (hl:4≤l.length) (hl2:l.length≤8388608):A8 Tryz.prog D 114 [.sl 1 (l.map Ac)] ⟨.int .i64 (Ds l),[]⟩:=by
 have hok:Cl Tryz.prog D (Ao []):=Ar _
 generalize Ao []=G at *
 refine Ch (G:=G) (rs:=[(2,none)]) mixed tok hok Tryz.func114 rfl (by decide) Tryz.results114 (by decide) rfl Tryz.ntmps114 (by simp) (by simp[Af,Ad]) fun X hP hD hG' hX=> Al hX (fun _=> {}) _ _ _ ?_
 simp only[AU,Bz]
 simp (disch:=omega) only[go_sem,hD,hG',AA,AM,Aa]
 refine Tr.loop (ι:=Nat) (fun i=> i≤4) (fun i=> {nt:=20,tm:=[(0,.sl 1 (l.map Ac)),(3,.int .u32 (Ki l i)),(5,.int .i64 i)],bl:=[]}) (fun i=> 4 - i) 0
  ⟨Nat.zero_le _,AG hD [] rfl rfl (by simp only[go_sem];simp[Ki]) (by simp only[go_sem])⟩ ?_
 intro i hi
 refine Al hX (fun _=> {}) _ _ _ ?_
 simp (disch:=omega) only[go_sem,hD,hG',AA,AM]
 refine Ai (fun h=> ?_) (fun h=> ?_)
 ·rw[decide_eq_true_eq] at h
  have hi3:i≤3:=by omega
  have ha:=Abh l i hi3
  have hb:=(l.getD i 0).toNat_lt
  have e1:IntKind.wrap .u32 ((Ki l i:Int)*256)=Ki l i*256:=IntWalk.u32_in _ (by omega)
  have e2:IntKind.wrap .u32 ((Ki l i:Int)*256+(l.getD i 0).toNat)=Ki l i*256+(l.getD i 0).toNat:=IntWalk.u32_in _ (by omega)
  simp (disch:=omega) only[go_sem,hD,hG',AA,AM,AD,JK,e1,e2]
  refine ⟨by omega,i+1,⟨by omega,by omega⟩,AG hD [] rfl rfl ?_ ?_⟩ <;> simp only[go_sem]
  simp only[Ki]
  omega
 ·rw[decide_eq_false_iff_not] at h
  have:i=4:=by omega
  subst this
  have hgs:IntKind.wrap .i64 (IntKind.wrap .i32 (RB l:Int))=Ds l:=AA (by have:=JQ l;unfold Ds at this;omega) (by have:=JQ l;unfold Ds at this;omega)
  simp (disch:=omega) only[go_sem,hD,hG',AA,AM,Acp,hgs,Aa]
  refine ⟨[],[],rfl,rfl,?_,?_⟩ <;> simp only[go_sem]
theorem Acr (e:Int):A8 Tryz.prog D 171 [.int .i64 e] ⟨.tup [An Ah,.int .i64 0,.int .i64 e],[]⟩:=by
 have hok:Cl Tryz.prog D (Ao []):=Ar _
 generalize Ao []=G at *
 refine Ch (G:=G) (rs:=[(2,some 25),(3,none),(4,none)]) mixed tok hok Tryz.func171 rfl (by decide) Tryz.results171 (by decide) rfl Tryz.ntmps171 (by simp) (by simp[Af,Ad]) fun X hP hD hG' hX=> Al hX (fun _=> {}) _ _ _ ?_
 simp only[AU,Bz]
 simp (disch:=omega) only[go_sem,hD,hG',AA,AM,Aa]
 refine ⟨[],[],rfl,rfl,?_,?_⟩ <;> simp only[go_sem,An,Ah]
def QZ (l:List UInt8) (k:Nat) (short:Bool):List UInt8×Nat×Bool:=
 match El (l.drop k) with
 | none=> ([],k,true)
 | some (t,_)=> (t,k+1+t.length,short)
def Gn:ID:=fun dn f args bl=> if f=172 then
  match args with
  | [.ptr a 0,.ptr b 0,.ptr c 0]=> match bl a,bl b,bl c with
   | some (.cells [.int .i64 k]),some (.cells [.sl 1 rs]),some (.cells [.bool short])=>
    some {v:=.str (QZ (Cb rs) k.toNat short).1,up:=[(a,.cells [.int .i64 (QZ (Cb rs) k.toNat short).2.1]),(c,.cells [.bool (QZ (Cb rs) k.toNat short).2.2])],pre:=(0≤k∧k≤rs.length)∧isB rs∧rs.length≤8388608∧a≠b∧a≠c∧b≠c}
   | _,_,_=> none
  | _=> none
 else none
theorem Ab6 {a c:Nat} {x y:Be} {bl:List (Nat×Option Be)} (h:get a bl=some (some x)) (hc:¬c=a) (n:Nat):jn (get n ((c,some y)::bl))=jn (get n ((a,some x)::(c,some y)::bl)):=by
 simp only[get]
 by_cases e:a=n
 ·subst e
  rw[if_neg hc,if_pos rfl,h]
 ·rw[if_neg e]
theorem AcX {a c:Nat} {x y:Be} {bl:List (Nat×Option Be)} (h:get c bl=some (some y)) (n:Nat):jn (get n ((a,some x)::bl))=jn (get n ((a,some x)::(c,some y)::bl)):=by
 simp only[get]
 by_cases e:c=n
 ·subst e
  rw[if_pos rfl,h]
 ·rw[if_neg e]
theorem AbI {G:PW}:Rk Tryz.prog D G Gn:=by
 intro X hP hD hG hM hmx hT hok ops o σ e hgd he hpre hfr
 obtain ⟨dst,f,args,types,ty,pos,af,g,caps,rfl,hf,he'⟩:=JR he hgd
 unfold Gn at he'
 split at he'
 case isFalse=> cases he'
 rename_i hg83
 subst hg83
 split at he'
 case h_2=> cases he'
 rename_i a b c hargs
 split at he'
 case h_2=> cases he'
 rename_i k rs short hba hbb hbc
 have hba:=GT hba
 have hbb:=GT hbb
 have hbc:=GT hbc
 injection he' with he'
 subst he'
 obtain ⟨⟨hk0,hk1⟩,hB,hrl,hab,hac,hbc'⟩:=hpre
 obtain ⟨k,rfl⟩:=Int.eq_ofNat_of_zero_le hk0
 unfold isB at hB
 rw[hB] at hbb hk1
 generalize hl:Cb rs=l at *
 rw[List.length_map] at hk1
 have hll:l.length≤8388608:=by rw[←hl];simpa[Cb] using hrl
 simp only[DO,Int.toNat_natCast] at hfr ⊢
 have hX:({X with nb:=70000,M:=XK}:Cx).Ok:=Rk.ok Rk.none hP hD hG rfl hmx hT hok
 have hdst:∀k,dst=some k→k < σ.nt:=fun k hk=> by
  subst hk
  simpa[fresh,AF,CC] using hfr
 refine Jq (rs:=[(3,none)]) (by rw[hP,hD];exact hT) hf (by rw[hP];exact Tryz.func172) rfl (by decide) Tryz.results172 (by decide) Tryz.ntmps172 (by rw[hargs];simp) hdst 70000 XK ?_
 rw[hargs]
 refine Al hX (fun _=> {}) _ _ _ ?_
 have ha0:=Fb.1 hba
 have hb0:=Fb.1 hbb
 have hc0:=Fb.1 hbc
 have hab1:¬b=a:=fun e=> hab e.symm
 have hac1:¬c=a:=fun e=> hac e.symm
 have hbc1:¬c=b:=fun e=> hbc' e.symm
 simp (disch:=omega) only[go_sem,hD,hG,AA,AM,ha0,hb0,hc0,Bf,Bg,IB,Iy,Dy,Bz,Aa,Option.some.injEq,exists_eq_left',Fq]
 by_cases h1:l.length≤k
 ·have ht:QZ l k short=([],k,true):=by
   unfold QZ
   rw[List.drop_eq_nil_of_le h1]
   rfl
  have h1i:(k:Int)≥l.length:=by omega
  rw[ht]
  refine CP.mk [(4,false)] (by decide) ?_
  simp (disch:=omega) only[go_sem,hD,hG,AA,AM,ha0,hb0,hc0,h1i,Bf,Bg,IB,Iy,Dy,Bz,Aa,Option.some.injEq,exists_eq_left',Fq]
  rw[IW]
  exact ⟨rfl,fun t=> rfl,fun m=> Ab6 ha0 hac1 m⟩
 ·have h1i:¬(k:Int)≥l.length:=by omega
  have hd:l.drop k=l.getD k 0::l.drop (k+1):=by
   rw[List.drop_eq_getElem_cons (by omega)]
   simp[show k < l.length by omega]
  have ht:QZ l k short=if (l.drop (k+1)).length < (l.getD k 0).toNat then ([],k,true) else ((l.drop (k+1)).take (l.getD k 0).toNat,k+1+(l.getD k 0).toNat,short):=by
   unfold QZ
   rw[hd,El]
   by_cases hc:(l.drop (k+1)).length < (l.getD k 0).toNat
   ·rw[if_pos hc,if_pos hc]
   ·rw[if_neg hc,if_neg hc]
    simp only[List.length_take,List.length_drop] at hc ⊢
    rw[Nat.min_eq_left (by omega)]
  have hb:=(l.getD k 0).toNat_lt
  rw[ht]
  refine CP.mk [] (by decide) ?_
  simp (disch:=omega) only[go_sem,hD,hG,AA,AM,ha0,hb0,hc0,h1i,AD,Av,Bf,Bg,IB,Iy,Dy,Bz,Aa,Option.some.injEq,exists_eq_left',Fq]
  ((try and_intros);all_goals (try first | omega | decide | (simp;done) | (simp only[List.length_append,List.length_cons,List.length_nil,List.length_map];omega)))
  refine Ai (fun h=> ?_) (fun h=> ?_)
  ·have hc:(l.drop (k+1)).length < (l.getD k 0).toNat:=by
    rw[List.length_drop]
    simp only[h1i,if_false,decide_eq_true_eq] at h
    omega
   rw[if_pos hc]
   simp (disch:=omega) only[go_sem,hD,hG,AA,AM,ha0,hb0,hc0,h1i,AD,Av,Bf,Bg,IB,Iy,Dy,Bz,Aa,Option.some.injEq,exists_eq_left',Fq]
   rw[IW]
   exact ⟨rfl,fun t=> rfl,fun m=> Ab6 ha0 hac1 m⟩
  ·have hc:¬(l.drop (k+1)).length < (l.getD k 0).toNat:=by
    rw[List.length_drop]
    simp only[h1i,if_false,decide_eq_false_iff_not] at h
    omega
   rw[if_neg hc]
   rw[List.length_drop] at hc
   simp (disch:=omega) only[go_sem,hD,hG,AA,AM,ha0,hb0,hc0,h1i,hab,hac,hab1,hac1,hbc1,AD,Av,Bf,Bg,IB,Iy,Dy,Bz,Aa,Option.some.injEq,exists_eq_left',Fq]
   ((try and_intros);all_goals (try first | omega | decide | (simp;done) | (simp only[List.length_append,List.length_cons,List.length_nil,List.length_map];omega)))
   have e1:List.drop ((k:Int)+1+(l.getD k 0).toNat - (l.getD k 0).toNat).toNat (List.take ((k:Int)+1+(l.getD k 0).toNat).toNat l)=List.take (l.getD k 0).toNat (List.drop (k+1) l):=by
    rw[show ((k:Int)+1+(l.getD k 0).toNat - (l.getD k 0).toNat).toNat=k+1 by omega,show ((k:Int)+1+(l.getD k 0).toNat).toNat=k+1+(l.getD k 0).toNat by omega,List.drop_take]
    congr 1
    omega
   have e2:((k+1+(l.getD k 0).toNat:Nat):Int)=(k:Int)+1+(l.getD k 0).toNat:=by omega
   rw[IW,e1]
   simp only[e2]
   exact ⟨rfl,fun t=> rfl,fun m=> AcX hc0 m⟩
def eNo:BH Tryz.prog D:=⟨171,Int,fun e=> [.int .i64 e],fun _=> True,fun e=> ⟨.tup [An Ah,.int .i64 0,.int .i64 e],[]⟩,fun x y _ _ h=> by
 simp only[List.cons.injEq,AV.int.injEq,true_and,and_true] at h
 rw[h],fun e _=> Acr e⟩
def GL:BH Tryz.prog D:=⟨114,List UInt8,fun l=> [.sl 1 (l.map Ac)],fun l=> 4≤l.length∧l.length≤8388608,fun l=> ⟨.int .i64 (Ds l),[]⟩,fun x y _ _ h=> by
 simp only[List.cons.injEq,AV.sl.injEq,true_and,and_true] at h
 rw[AN h],fun l h=> Abn l h.1 h.2⟩
theorem KJ {l t q:List UInt8} {k:Nat} (h:El (l.drop k)=some (t,q)):q=l.drop (k+1+t.length)∧k+1+t.length≤l.length:=by
 obtain ⟨h1,h2,h3⟩:=Ef h
 have h4:=congrArg List.length h3
 simp only[List.length_drop,List.length_cons,List.length_append] at h4
 refine ⟨?_,by omega⟩
 have h5:(l.drop k).drop (1+t.length)=q:=by
  rw[h3,Nat.add_comm,List.drop_succ_cons]
  simp
 rw[←h5,List.drop_drop,Nat.add_assoc]
theorem LI {l:List UInt8} {k:Nat} {b:Bool} (h:El (l.drop k)=none):QZ l k b=([],k,true):=by unfold QZ;rw[h]
theorem LJ {l t q:List UInt8} {k:Nat} {b:Bool} (h:El (l.drop k)=some (t,q)):QZ l k b=(t,k+1+t.length,b):=by unfold QZ;rw[h]
theorem HM {k:Nat} {l:List UInt8} (h:Fs l=none):D1 (k+1) l=none:=by rw[D1,h]
theorem PC {k:Nat} {l r:List UInt8} {p:AI} (h:Fs l=some (p,r)):D1 (k+1) l=(D1 k r).map fun x=> (p::x.1,x.2):=by rw[D1,h]
theorem P2 (k:Nat):((k:Int)+1).toNat=k+1:=rfl
def Dj:Nat→Lo:=fun id=> match id with
 | 33=> {uo:=[2],un:=[2]}
 | _=> {}
def K5:List (BH Tryz.prog D):=[eNo,GL,Cn]
theorem SK (l:List UInt8) (hl:l.length≤4194304):A8 Tryz.prog D 115 [.sl 1 (l.map Ac)] ⟨.tup [An (A5 l).1,.int .i64 (A5 l).2.1,.int .i64 (A5 l).2.2],[]⟩:=by
 have gno:∀e:Int,Ao K5 171 [.int .i64 e]=some ⟨.tup [.agg [.sl 4 [],.sl 1 []],.int .i64 0,.int .i64 e],[]⟩:=fun e=> AQ (E:=eNo) (T:=K5) (i:=0) rfl (by decide) e trivial rfl rfl
 have gget:∀m:List UInt8,4≤m.length→m.length≤8388608→Ao K5 114 [.sl 1 (m.map Ac)]=some ⟨.int .i64 (Ds m),[]⟩:=fun m h1 h2=> AQ (E:=GL) (T:=K5) (i:=1) rfl (by decide) m ⟨h1,h2⟩ rfl rfl
 have g2:∀n:AP,n.Fits→Ao K5 17 [An n]=some ⟨.int .i64 (AZ n),[]⟩:=fun n hn=> AQ (E:=Cn) (T:=K5) (i:=2) rfl (by decide) n hn rfl rfl
 have g3:∀a,Ao K5 172 a=none:=fun a=> rfl
 have hok:Cl Tryz.prog D (Ao K5):=Ar _
 generalize Ao K5=G at *
 refine JN AbI (G:=G) (rs:=[(2,some 25),(3,none),(4,none)]) mixed tok hok Tryz.func115 rfl (by decide) Tryz.results115 (by decide) rfl Tryz.ntmps115 (by simp) (by simp[Af,Ad]) fun X hP hD hG' hX=> Al hX Dj _ _ _ ?_
 simp only[AU,Bz]
 simp (disch:=omega) only[go_sem,hD,hG',AA,AM,gno,Gn,Ay,AD,Av,P2,Dj]
 refine Ai (fun h=> ?_) (fun h=> ?_)
 ·have h0:l=[]:=by
   apply List.eq_nil_of_length_eq_zero
   simp at h
   simpa using h
  subst h0
  rw[show A5 []=(Ah,0,9) from rfl]
  simp (disch:=omega) only[go_sem,hD,hG',AA,AM,gno,Gn,Ay,AD,Av,P2,Dj,Aa]
  refine ⟨[],[],rfl,rfl,?_,?_⟩ <;> simp only[go_sem,An,Ah,Aw]
  all_goals simp
 have hl0:0 < l.length:=by
  rcases Nat.eq_zero_or_pos l.length with e | e
  ·rw[e] at h;simp at h
  ·exact e
 have hps:=Sa l
 rw[Gq (n:=1) (by omega)] at hps
 simp only at hps
 have hc0:(l.take 1).getD 0 0=l.getD 0 0:=by
  cases l with
  | nil=> simp at hl0
  | cons a b=> rfl
 rw[hc0] at hps
 have hc:=(l.getD 0 0).toNat_lt
 simp (disch:=omega) only[go_sem,hD,hG',AA,AM,gno,Gn,Ay,AD,Av,P2,Dj]
 ((try and_intros);all_goals (try first | omega | decide | (simp;done) | (simp only[List.length_append,List.length_cons,List.length_nil,List.length_map];omega)))
 generalize hcc:(l.getD 0 0).toNat=c at *
 refine Ai (fun h=> ?_) (fun h=> ?_)
 ·have h4:4 < c:=by simp at h;omega
  rw[if_pos h4] at hps
  rw[hps]
  simp (disch:=omega) only[go_sem,hD,hG',AA,AM,gno,Gn,Ay,AD,Av,P2,Dj,Aa]
  refine ⟨[],[],rfl,rfl,?_,?_⟩ <;> simp only[go_sem,An,Ah,Aw]
  all_goals simp
 have h4:¬4 < c:=by simp at h;omega
 rw[if_neg h4] at hps
 rw[hps]
 simp (disch:=omega) only[go_sem,hD,hG',AA,AM,gno,Gn,Ay,AD,Av,P2,Dj]
 refine ⟨by omega,?_⟩
 refine Tr.loop (ι:=Nat×List AI×Nat) (fun i=> (i.1≤c∧i.2.1.length=i.1)∧i.2.2≤l.length∧(∀p∈i.2.1,p.key.size≤255∧p.text.size≤255)∧D1 c (l.drop 1)=(D1 (c - i.1) (l.drop i.2.2)).map fun x=> (i.2.1++x.1,x.2))
  (fun i=> {nt:=118,tm:=[(0,.sl 1 (l.map Ac)),(1,.ptr 1 0),(2,.ptr 2 0),(5,.func 171 []),(6,.ptr 6 0),(7,.ptr 7 0),(8,.func 172 [.ptr 6 0,.ptr 1 0,.ptr 7 0]),(9,.ptr 9 0),(34,.int .i64 c),(35,.int .i64 i.1)],bl:=[(1,some (.cells [.sl 1 (l.map Ac)])),(2,some (.cells [.nils,.nils])),(6,some (.cells [.int .i64 i.2.2])),(7,some (.cells [.bool false])),(9,some (.cells [.os 5000,.nils])),(5000,some (.rows 101 4 (i.2.1.map Aq)))]}) (fun i=> c - i.1) (0,[],1)
  ⟨⟨⟨Nat.zero_le _,rfl⟩,by simp only;omega,by simp,by cases (D1 c (l.drop 1)) <;> rfl⟩,AG hD [(1,1),(2,2),(6,6),(7,7),(9,9)] rfl rfl (by simp only[go_sem];simp[←hcc]) (by simp only[go_sem,Kf,Xj,Kg,Kh,EN,EO,EP,I9,CH];try simp)⟩ ?_
 rintro ⟨i,done,k⟩ ⟨⟨hi,hdl⟩,hk,hfit,hrec⟩
 simp only at hi hdl hk hfit hrec
 refine Al hX Dj _ _ _ ?_
 simp (disch:=omega) only[go_sem,hD,hG',AA,AM,gno,Gn,Ay,AD,Av,P2,Dj]
 refine Ai (fun h=> ?_) (fun h=> ?_)
 ·rw[decide_eq_true_eq] at h
  have hsucc:c - i=c - (i+1)+1:=by omega
  rw[hsucc] at hrec
  rcases ht:El (l.drop k) with _ | ⟨t,q⟩
  ·have hr:=LI (b:=false) ht
   have hpr:JA l.length (CT c (l.drop 1) false)=(Ah,0,9):=by
    unfold CT
    rw[if_neg (by decide),hrec,HM (by unfold Fs;rw[ht])]
    rfl
   rw[hpr]
   simp (disch:=omega) only[go_sem,hD,hG',AA,AM,gno,g3,hr,Gn,Ay,AD,Av,P2,Dj]
   ((try and_intros);all_goals (try first | omega | decide | (simp;done) | (simp only[List.length_append,List.length_cons,List.length_nil,List.length_map];omega)))
   refine Au.mk [(1,false)] ?_
   simp (disch:=omega) only[go_sem,hD,hG',AA,AM,gno,g3,hr,Gn,Ay,AD,Av,P2,Dj,Aa]
   refine ⟨[],[],rfl,rfl,?_,?_⟩ <;> simp only[go_sem,An,Ah,Aw]
   all_goals simp
  have hr:=LJ (b:=false) ht
  obtain ⟨hq,hkl⟩:=KJ ht
  have htl:=(Ef ht).1
  simp (disch:=omega) only[go_sem,hD,hG',AA,AM,gno,g3,hr,Gn,Ay,AD,Av,P2,Dj]
  ((try and_intros);all_goals (try first | omega | decide | (simp;done) | (simp only[List.length_append,List.length_cons,List.length_nil,List.length_map];omega)))
  generalize hk1:k+1+t.length=k1 at *
  refine Au.mk [] ?_
  simp (disch:=omega) only[go_sem,hD,hG',AA,AM,gno,g3,hr,Gn,Ay,AD,Av,P2,Dj]
  ((try and_intros);all_goals (try first | omega | decide | (simp;done) | (simp only[List.length_append,List.length_cons,List.length_nil,List.length_map];omega)))
  refine Ai (fun h1=> ?_) (fun h1=> ?_)
  ·have hkk:l.length≤k1:=by simp at h1;omega
   have hpr:JA l.length (CT c (l.drop 1) false)=(Ah,0,9):=by
    unfold CT
    rw[if_neg (by decide),hrec,HM (by unfold Fs;rw[ht,hq,List.drop_eq_nil_of_le hkk])]
    rfl
   rw[hpr]
   simp (disch:=omega) only[go_sem,hD,hG',AA,AM,gno,g3,hr,Gn,Ay,AD,Av,P2,Dj,Aa]
   refine ⟨[],[],rfl,rfl,?_,?_⟩ <;> simp only[go_sem,An,Ah,Aw]
   all_goals simp
  have hkk:k1 < l.length:=by simp at h1;omega
  have hd:q=l.getD k1 0::l.drop (k1+1):=by
   rw[hq,List.drop_eq_getElem_cons hkk]
   simp[hkk]
  have hkb:=(l.getD k1 0).toNat_lt
  simp (disch:=omega) only[go_sem,hD,hG',AA,AM,gno,g3,hr,Gn,Ay,AD,Av,P2,Dj]
  ((try and_intros);all_goals (try first | omega | decide | (simp;done) | (simp only[List.length_append,List.length_cons,List.length_nil,List.length_map];omega)))
  generalize hkd:(l.getD k1 0).toNat=kd at *
  refine Ai (fun h2=> ?_) (fun h2=> ?_)
  ·have h2':kd=2:=by
    rw[beq_iff_eq] at h2
    omega
   simp (disch:=omega) only[go_sem,hD,hG',AA,AM,gno,g3,hr,Gn,Ay,AD,Av,P2,Dj]
   rcases ht2:El (l.drop (k1+1)) with _ | ⟨t2,q2⟩
   ·have hr2:=LI (b:=false) ht2
    have hpr:JA l.length (CT c (l.drop 1) false)=(Ah,0,9):=by
     unfold CT
     rw[if_neg (by decide),hrec,HM (by unfold Fs;simp only[ht,hd];rw[hkd,if_pos h2',ht2])]
     rfl
    rw[hpr]
    simp (disch:=omega) only[go_sem,hD,hG',AA,AM,gno,g3,hr,Gn,Ay,AD,Av,P2,Dj,hr2]
    ((try and_intros);all_goals (try first | omega | decide | (simp;done) | (simp only[List.length_append,List.length_cons,List.length_nil,List.length_map];omega)))
    simp (disch:=omega) only[go_sem,hD,hG',AA,AM,gno,g3,hr,Gn,Ay,AD,Av,P2,Dj,hr2,Aa]
    refine ⟨[],[],rfl,rfl,?_,?_⟩ <;> simp only[go_sem,An,Ah,Aw]
    all_goals simp
   have hr2:=LJ (b:=false) ht2
   obtain ⟨hq2,hkl2⟩:=KJ ht2
   have htl2:=(Ef ht2).1
   have hp:Fs (l.drop k)=some (⟨⟨⟨t⟩⟩,2,0,⟨⟨t2⟩⟩⟩,q2):=by
    unfold Fs
    simp only[ht,hd]
    rw[hkd,if_pos h2',ht2]
   rw[PC hp,hq2] at hrec
   simp (disch:=omega) only[go_sem,hD,hG',AA,AM,gno,g3,hr,Gn,Ay,AD,Av,P2,Dj,hr2]
   ((try and_intros);all_goals (try first | omega | decide | (simp;done) | (simp only[List.length_append,List.length_cons,List.length_nil,List.length_map];omega)))
   refine ⟨(i+1,done++[⟨⟨⟨t⟩⟩,2,0,⟨⟨t2⟩⟩⟩],k1+1+1+t2.length),⟨⟨⟨by simp only;omega,by simp;omega⟩,by simp only;omega,?_,?_⟩,by simp only;omega⟩,AG hD [(1,1),(2,2),(6,6),(7,7),(9,9),(5000,93)] rfl rfl ?_ ?_⟩
   ·intro p hp
    rcases List.mem_append.1 hp with hp | hp
    ·exact hfit p hp
    ·rw[List.mem_singleton] at hp
     subst hp
     exact ⟨htl,htl2⟩
   ·rw[hrec,Option.map_map]
    congr 1
    funext x
    simp
   ·simp only[go_sem]
    simp
   ·simp only[go_sem,Kf,Xj,Kg,Kh,EN,EO,EP,I9,CH]
    simp[Aq,h2']
  ·have h2':¬kd=2:=by
    rw[beq_eq_false_iff_ne] at h2
    omega
   simp (disch:=omega) only[go_sem,hD,hG',AA,AM,gno,g3,hr,Gn,Ay,AD,Av,P2,Dj]
   refine Ai (fun h5=> ?_) (fun h5=> ?_)
   ·have hs:(l.drop (k1+1)).length < 4:=by
     rw[List.length_drop]
     simp at h5
     omega
    have hpr:JA l.length (CT c (l.drop 1) false)=(Ah,0,9):=by
     unfold CT
     rw[if_neg (by decide),hrec,HM (by unfold Fs;simp only[ht,hd];rw[hkd,if_neg h2',if_pos hs])]
     rfl
    rw[hpr]
    simp (disch:=omega) only[go_sem,hD,hG',AA,AM,gno,g3,hr,Gn,Ay,AD,Av,P2,Dj,Aa]
    refine ⟨[],[],rfl,rfl,?_,?_⟩ <;> simp only[go_sem,An,Ah,Aw]
    all_goals simp
   have hs:¬(l.drop (k1+1)).length < 4:=by
    rw[List.length_drop]
    simp at h5
    omega
   have hs':=hs
   rw[List.length_drop] at hs'
   have hgt:Ds (l.drop (k1+1))=Ds ((l.drop (k1+1)).take 4):=by
    have e:∀(m:List UInt8) (n:Nat),n < 4→(m.take 4).getD n 0=m.getD n 0:=fun m n hn=> by
     rw[List.getD_eq_getElem?_getD,List.getElem?_take_of_lt hn,List.getD_eq_getElem?_getD]
    unfold Ds RB
    rw[e _ 0 (by decide),e _ 1 (by decide),e _ 2 (by decide),e _ 3 (by decide)]
   have hp:Fs (l.drop k)=some (⟨⟨⟨t⟩⟩,kd,Ds (l.drop (k1+1)),⟨#[]⟩⟩,l.drop (k1+5)):=by
    unfold Fs
    simp only[ht,hd]
    rw[hkd,if_neg h2',if_neg hs,hgt,List.drop_drop]
   rw[PC hp] at hrec
   have hgg:=gget (l.drop (k1+1)) (by omega) (by rw[List.length_drop];omega)
   simp (disch:=omega) only[go_sem,hD,hG',AA,AM,gno,g3,hr,Gn,Ay,AD,Av,P2,Dj,List.take_length,hgg]
   ((try and_intros);all_goals (try first | omega | decide | (simp;done) | (simp only[List.length_append,List.length_cons,List.length_nil,List.length_map];omega)))
   refine ⟨(i+1,done++[⟨⟨⟨t⟩⟩,kd,Ds (l.drop (k1+1)),⟨#[]⟩⟩],k1+5),⟨⟨⟨by simp only;omega,by simp;omega⟩,by simp only;omega,?_,?_⟩,by simp only;omega⟩,AG hD [(1,1),(2,2),(6,6),(7,7),(9,9),(5000,93)] rfl rfl ?_ ?_⟩
   ·intro p hp
    rcases List.mem_append.1 hp with hp | hp
    ·exact hfit p hp
    ·rw[List.mem_singleton] at hp
     subst hp
     exact ⟨htl,Nat.zero_le _⟩
   ·rw[hrec,Option.map_map]
    congr 1
    funext x
    simp
   ·simp only[go_sem]
    simp
   ·simp only[go_sem,Kf,Xj,Kg,Kh,EN,EO,EP,I9,CH]
    simp[Aq]
    omega
 ·rw[decide_eq_false_iff_not] at h
  have hic:i=c:=by omega
  subst hic
  rw[Nat.sub_self] at hrec
  have hend:=QW l.length done (l.drop k) false
  have hrec':CT i (l.drop 1) false=(CT 0 (l.drop k) false).map fun x=> (done++x.1,x.2):=hrec
  rw[←hrec'] at hend
  rw[hend]
  rcases ht:El (l.drop k) with _ | ⟨t,q⟩
  ·have hr:=LI (b:=false) ht
   rw[if_pos (Hj ht)]
   simp (disch:=omega) only[go_sem,hD,hG',AA,AM,gno,g3,hr,Gn,Ay,AD,Av,P2,Dj]
   ((try and_intros);all_goals (try first | omega | decide | (simp;done) | (simp only[List.length_append,List.length_cons,List.length_nil,List.length_map];omega)))
   simp (disch:=omega) only[go_sem,hD,hG',AA,AM,gno,g3,hr,Gn,Ay,AD,Av,P2,Dj,Aa]
   refine ⟨[],[],rfl,rfl,?_,?_⟩ <;> simp only[go_sem,An,Ah,Aw]
   all_goals simp
  have hr:=LJ (b:=false) ht
  obtain ⟨hq,hkl⟩:=KJ ht
  have htl:=(Ef ht).1
  rw[Hk ht]
  simp only[Bool.false_eq_true,if_false]
  have hnf:AP.Fits ⟨done,t⟩:=⟨fun p hp=> ⟨by have:=(hfit p hp).1;omega,by have:=(hfit p hp).2;omega⟩,by simp only;omega,by simp only;omega⟩
  have hw:=g2 _ hnf
  simp only[An] at hw
  generalize hwr:AZ ⟨done,t⟩=wr at *
  simp (disch:=omega) only[go_sem,hD,hG',AA,AM,gno,g3,hr,Gn,Ay,AD,Av,P2,Dj,hw]
  ((try and_intros);all_goals (try first | omega | decide | (simp;done) | (simp only[List.length_append,List.length_cons,List.length_nil,List.length_map];omega)))
  refine Ai (fun h3=> ?_) (fun h3=> ?_)
  ·have h3':¬wr=0:=by simpa using h3
   rw[if_neg h3']
   simp (disch:=omega) only[go_sem,hD,hG',AA,AM,gno,g3,hr,Gn,Ay,AD,Av,P2,Dj,Aa]
   refine ⟨[],[],rfl,rfl,?_,?_⟩ <;> simp only[go_sem,An,Ah,Aw]
   all_goals simp
  ·have h3':wr=0:=by simpa using h3
   rw[if_pos h3']
   simp (disch:=omega) only[go_sem,hD,hG',AA,AM,gno,g3,hr,Gn,Ay,AD,Av,P2,Dj,Aa]
   refine ⟨by decide,[5000],[],rfl,rfl,?_,?_⟩ <;> simp only[go_sem,An,Aw]
   rw[hq,List.length_drop]
   omega
theorem Aaz {l:List UInt8} (h:l.length=4):C2 (Ds l)=l:=by
 match l,h with
 | [a,b,c,d],_=>
  have ha:=a.toNat_lt
  have hb:=b.toNat_lt
  have hc:=c.toNat_lt
  have hd:=d.toNat_lt
  have e:Ds [a,b,c,d]=(((16777216*a.toNat+65536*b.toNat+256*c.toNat+d.toNat:Nat):Int)+2147483648)%4294967296 - 2147483648:=by
   unfold Ds
   rw[IntKind.wrap_i32]
   rfl
  have f:∀(x:Int) (y:UInt8),x%256=y.toNat→Bi x=y:=fun x y hxy=> by
   have:=JM x
   exact UInt8.toNat_inj.1 (by omega)
  unfold C2
  rw[e]
  have e':((16777216*a.toNat+65536*b.toNat+256*c.toNat+d.toNat:Nat):Int)=16777216*(a.toNat:Int)+65536*(b.toNat:Int)+256*(c.toNat:Int)+(d.toNat:Int):=by omega
  rw[e']
  rw[f _ a (by omega),f _ b (by omega),f _ c (by omega),f _ d (by omega)]
theorem WY {l r:List UInt8} {p:AI} (h:Fs l=some (p,r)):l=CY p++r:=by
 unfold Fs at h
 split at h
 ·cases h
 ·rename_i k q hk
  have h1:=(Ef hk).2.2
  split at h
  ·cases h
  ·rename_i kd q
   split at h
   ·rename_i h2
    split at h
    ·cases h
    ·rename_i t q2 ht
     have h3:=(Ef ht).2.2
     cases h
     have hb:Bi 2=kd:=by
      have:=KR kd
      rw[h2] at this
      exact this
     rw[h1,h3]
     simp[CY,Bw,hb]
   ·rename_i h2
    split at h
    ·cases h
    ·rename_i h4
     cases h
     have hb:=KR kd
     have h2':¬(kd.toNat:Int)=2:=by omega
     rw[h1]
     simp only[CY,h2',if_false,Bw,hb,Aaz (show (q.take 4).length=4 by rw[List.length_take];omega)]
     simp
theorem PA:∀{k:Nat} {l r:List UInt8} {ps:List AI},D1 k l=some (ps,r)→l=ps.flatMap CY++r
 | 0,l,r,ps,h=> by
  cases h
  simp
 | k+1,l,r,ps,h=> by
  rw[D1] at h
  split at h
  ·cases h
  ·rename_i p q hp
   have h1:=WY hp
   obtain ⟨⟨ps',r'⟩,hx,he⟩:=Option.map_eq_some_iff.1 h
   cases he
   rw[h1,PA hx]
   simp
theorem Vz (l:List UInt8):((A5 l).2.2≠0∧(A5 l).1=Ah∧(A5 l).2.1=0)∨
  ((A5 l).2.2=0∧AZ (A5 l).1=0∧2≤(A5 l).2.1∧(A5 l).2.1≤l.length∧BT (A5 l).1=l.take (A5 l).2.1):=by
 cases l with
 | nil=> exact .inl ⟨by decide,rfl,rfl⟩
 | cons c r=>
  rw[A5]
  split
  ·exact .inl ⟨by simp,rfl,rfl⟩
  ·split
   ·exact .inl ⟨by simp,rfl,rfl⟩
   ·rename_i ps q hps
    split
    ·exact .inl ⟨by simp,rfl,rfl⟩
    ·rename_i b q2 hb
     split
     ·rename_i hw
      have h1:=PA hps
      have h2:=Ef hb
      have h3:=PB hps
      have hl:c::r=BT ⟨ps,b⟩++q2:=by
       rw[h1,h2.2.2]
       simp only[BT,Bw,h3.2.1,KR,List.cons_append,List.append_assoc]
      have hn:(c::r).length - q2.length=(BT ⟨ps,b⟩).length:=by
       rw[hl,List.length_append,Nat.add_sub_cancel]
      refine .inr ⟨rfl,hw,?_,?_,?_⟩
      ·simp only[hn]
       simp[BT,Bw]
       omega
      ·simp only
       omega
      ·simp only[hn]
       rw[hl]
       simp
     ·rename_i hw
      exact .inl ⟨hw,rfl,rfl⟩
theorem Qn (l:List UInt8):(A5 l).1.Fits:=by
 rcases Vz l with ⟨_,h,_⟩ | ⟨_,h,_⟩
 ·rw[h];exact CV
 ·exact EQ h
theorem Y1 {p:AI} (h:A9 p=0):(CY p).length≤23:=by
 obtain ⟨h1,h2⟩:=Gm h
 have:=JI p.key
 have:=JI p.text
 simp only[CY,Bw,List.length_append,List.length_cons]
 split
 ·simp only[List.length_cons];omega
 ·simp only[C2,List.length_cons,List.length_nil];omega
theorem Vg:∀{l:List AI},(∀p∈l,A9 p=0)→(l.flatMap CY).length≤23*l.length
 | [],_=> by simp
 | p::l,h=> by
  have h1:=Y1 (h p (by simp))
  have h2:=Vg (l:=l) fun q hq=> h q (by simp[hq])
  simp only[List.flatMap_cons,List.length_append,List.length_cons]
  omega
theorem EX {n:AP} (h:AZ n=0):(BT n).length≤134:=by
 obtain ⟨h1,h2,h3⟩:=E7 h
 have h4:=Vg h2
 simp only[BT,Bw,List.length_append,List.length_cons]
 omega
def DB:BH Tryz.prog D:=⟨177,AP,fun n=> [An n],fun n=> n.Fits∧(BT n).length≤4194304,fun n=> ⟨.os 0,[(5,1,(BT n).map Ac)]⟩,fun x y _ _ h=> by
 simp only[List.cons.injEq,and_true] at h
 rw[Ec h],fun n h=> X6 n h.1 h.2⟩
def A6:BH Tryz.prog D:=⟨135,AP,fun n=> [An n],fun n=> n.Fits∧(BT n).length≤4194304,fun n=> ⟨.sl 1 ((BT n).map Ac),[]⟩,fun x y _ _ h=> by
 simp only[List.cons.injEq,and_true] at h
 rw[Ec h],fun n h=> SJ n h.1 h.2⟩
def Qk:BH Tryz.prog D:=⟨208,List UInt8,fun l=> [.sl 1 (l.map Ac)],fun l=> l.length≤4194304,fun l=> ⟨.tup [An (A5 l).1,.int .i64 (A5 l).2.1,.int .i64 (A5 l).2.2],[]⟩,fun x y _ _ h=> by
 simp only[List.cons.injEq,AV.sl.injEq,true_and,and_true] at h
 rw[AN h],Ye⟩
def Ih:BH Tryz.prog D:=⟨115,List UInt8,fun l=> [.sl 1 (l.map Ac)],fun l=> l.length≤4194304,fun l=> ⟨.tup [An (A5 l).1,.int .i64 (A5 l).2.1,.int .i64 (A5 l).2.2],[]⟩,fun x y _ _ h=> by
 simp only[List.cons.injEq,AV.sl.injEq,true_and,and_true] at h
 rw[AN h],SK⟩
section
variable {D:Nat→TI} {S N0:Nat→Prop} {B:Nat} {w0:W0} {ρ:BI} {σ:AS} {a:Act} {w:World}
end
mutual
def ice (n:Nat) (cs:List AV):AV→AV
 | .os t=> if t=n then .junk else .os t
 | .ptr v o=> if v=n then .iptr (cs.drop o) else .ptr v o
 | .tsl v o=> if v=n then .junk else .tsl v o
 | .psl v o=> if v=n then .junk else .psl v o
 | .eptr v i o=> if v=n then .junk else .eptr v i o
 | .agg xs=> .agg (Qw n cs xs)
 | .tup xs=> .tup (Qw n cs xs)
 | .func f xs=> .func f (Qw n cs xs)
 | .opt g v=> .opt g (ice n cs v)
 | v=> v
def Qw (n:Nat) (cs:List AV):List AV→List AV
 | []=> []
 | v::r=> ice n cs v::Qw n cs r
end
theorem KW (n:Nat) (ds:List AV):∀cs:List AV,Qw n ds cs=cs.map (ice n ds)
 | []=> by simp[Qw]
 | c::r=> by simp[Qw,KW n ds r]
mutual
theorem Ir (n:Nat) (cs:List AV):∀x:AV,(∀m∈Ad (ice n cs x),m∈Ad x∧m≠n)
 | .os t=> by simp only[ice];split <;> simp_all [Ad]
 | .ptr v o=> by simp only[ice];split <;> simp_all [Ad]
 | .tsl v o=> by simp only[ice];split <;> simp_all [Ad]
 | .psl v o=> by simp only[ice];split <;> simp_all [Ad]
 | .eptr v i o=> by simp only[ice];split <;> simp_all [Ad]
 | .agg xs=> by simpa only[ice,Ad] using E1 n cs xs
 | .tup xs=> by simpa only[ice,Ad] using E1 n cs xs
 | .func f xs=> by simpa only[ice,Ad] using E1 n cs xs
 | .opt g v=> by simpa only[ice,Ad] using Ir n cs v
 | .junk=> by simp[ice,Ad]
 | .int _ _=> by simp[ice,Ad]
 | .bool _=> by simp[ice,Ad]
 | .str _=> by simp[ice,Ad]
 | .nils=> by simp[ice,Ad]
 | .sl _ _=> by simp[ice,Ad]
 | .iptr _=> by simp[ice,Ad]
 | .lsl _=> by simp[ice,Ad]
 | .imap _=> by simp[ice,Ad]
 | .nilp=> by simp[ice,Ad]
 | .ifc _=> by simp[ice,Ad]
theorem E1 (n:Nat) (cs:List AV):∀xs:List AV,(∀m∈Af (Qw n cs xs),m∈Af xs∧m≠n)
 | []=> by simp[Qw,Af]
 | c::r=> by
  simp only[Qw,Af,List.mem_append]
  rintro m (hn | hn)
  ·exact ⟨.inl (Ir n cs c m hn).1,(Ir n cs c m hn).2⟩
  ·exact ⟨.inr (E1 n cs r m hn).1,(E1 n cs r m hn).2⟩
end
theorem Rel.ice {D:Nat→TI} {w:World} {im im':Nat→Prop} {ρ:BI} {n:Nat} {cs:List AV} (hbl:Fv D w im ρ n (.cells cs)) (hcs:Af cs=[]) (him:∀b,im b→im' b)
  (hb:∀b,(ρ n).b=some b→im' b) {x:AV} {v:Value} (h:Rel w im ρ x v):Rel w im' ρ (Ab.ice n cs x) v:=by
 have self:∀{y:AV} {u:Value},Rel w im ρ y u→Rel w im' ρ y u:=fun h=> h.mono him (fun _ _=> rfl) fun n hn'=> rfl
 induction h with
 | junk v=> simp only[Ab.ice];exact .junk v
 | int k n=> simp only[Ab.ice];exact .int k n
 | bool b=> simp only[Ab.ice];exact .bool b
 | str l=> simp only[Ab.ice];exact .str l
 | nils=> simp only[Ab.ice];exact .nils
 | sl sz rs A c b o val hc hm hA hrow hcell hval ih=> simp only[Ab.ice];exact self (.sl sz rs A c b o val hc hm hA hrow hcell hval)
 | os t=> simp only[Ab.ice];split <;> first | exact .junk _ | exact .os t
 | ptr v off b h=>
  simp only[Ab.ice]
  split
  ·rename_i e
   subst e
   obtain ⟨b',arr,T,h1,h2,h3,h5⟩:=hbl
   rw[h] at h1
   cases h1
   have hget:∀i,i < arr.size→arr[i]? =some (arr.getD i undef):=fun i hi=> by simp[Array.getD_eq_getD_getElem?,hi]
   have hat:∀(j:Nat) x,(cs.drop off)[j]? =some x→cs[off+j]? =some x∧off+j < arr.size:=fun j x hj=> by
    rw[List.getElem?_drop] at hj
    exact ⟨hj,by rw[h3];exact (List.getElem?_eq_some_iff.1 hj).1⟩
   refine .iptr _ b off (fun j=> arr.getD (off+j) undef) (hb b h) (fun j x hj=> ?_) (fun j x hj=> ?_)
   ·obtain ⟨q1,q2⟩:=hat j x hj
    refine ⟨?_,(h5 _ x _ q1 (hget _ q2)).1,?_⟩
    ·unfold World.cell?
     rw[h2]
     exact hget _ q2
    ·refine List.eq_nil_iff_forall_not_mem.2 fun m hm=> ?_
     have:=AY q1 hm
     rw[hcs] at this
     cases this
   ·obtain ⟨q1,q2⟩:=hat j x hj
    exact self (h5 _ x _ q1 (hget _ q2)).2
  ·exact .ptr v off b h
 | iptr cs b o val hb hcell hval ih=> simp only[Ab.ice];exact self (.iptr cs b o val hb hcell hval)
 | eptr t i off b h=> simp only[Ab.ice];split <;> first | exact .junk _ | exact .eptr t i off b h
 | lsl n A c hc hm=> simp only[Ab.ice];exact .lsl n A c hc hm
 | imap es b c arr hb ho he=> simp only[Ab.ice];exact .imap es b c arr (him _ hb) ho he
 | nilp=> simp only[Ab.ice];exact .nilp
 | ifc b v h=> simp only[Ab.ice];exact .ifc b v h
 | tsl t i b A' h hA=> simp only[Ab.ice];split <;> first | exact .junk _ | exact .tsl t i b A' h hA
 | psl t n c b h hc hm=> simp only[Ab.ice];split <;> first | exact .junk _ | exact .psl t n c b h hc hm
 | func f cs vs hl hval ih=>
  simp only[Ab.ice,KW]
  refine .func f _ vs (by simpa using hl) fun i x v h1 h2=> ?_
  rw[List.getElem?_map] at h1
  obtain ⟨y,hy,rfl⟩:=Option.map_eq_some_iff.1 h1
  exact ih i y v hy h2
 | agg cs vs hl h1 hval ih=>
  simp only[Ab.ice,KW]
  refine .agg _ vs (by simpa using hl) h1 fun i x v h1 h2=> ?_
  rw[List.getElem?_map] at h1
  obtain ⟨y,hy,rfl⟩:=Option.map_eq_some_iff.1 h1
  exact ih i y v hy h2
 | tup cs vs hl hval ih=>
  simp only[Ab.ice,KW]
  refine .tup _ vs (by simpa using hl) fun i x v h1 h2=> ?_
  rw[List.getElem?_map] at h1
  obtain ⟨y,hy,rfl⟩:=Option.map_eq_some_iff.1 h1
  exact ih i y v hy h2
 | opt g x v h1 h2 ih=> simp only[Ab.ice];exact .opt g _ v ih h2
def S8 (σ:AS) (n:Nat) (cs:List AV):AS:={nt:=σ.nt,tm:=DX (ice n cs) σ.tm,bl:=(n,none)::Df (ice n cs) σ.bl}
theorem GY (σ:AS) (n:Nat) (cs:List AV) (m:Nat):blk (S8 σ n cs) m=if m=n then none else (blk σ m).map (Bo (ice n cs)):=by
 unfold blk S8
 simp only[get]
 by_cases h:n=m
 ·rw[if_pos h,if_pos h.symm];rfl
 ·rw[if_neg h,if_neg (fun e=> h e.symm),G3]
  cases get m σ.bl with
  | none=> rfl
  | some x=> cases x <;> rfl
theorem V7 {n:Nat} {cs:List AV} {x:Be} {m:Nat} (h:m∈Em (Bo (ice n cs) x)):m∈Em x∧m≠n:=by
 cases x with
 | cells ds=>
  have h:m∈Af (ds.map (ice n cs)):=h
  rw[←KW] at h
  exact E1 n cs ds m h
 | rows e sz rs=> cases h
 | deep e sz rs cols foc=>
  obtain ⟨i,j,hm⟩:=BY.1 (show m∈Gh (keepF (ice n cs) foc) from h)
  obtain ⟨h1,k,h2⟩:=Ea hm
  refine ⟨BY.2 ⟨i,j,h1⟩,?_⟩
  simp only[ice] at h2
  split at h2
  ·cases h2
  ·assumption
section
variable {D:Nat→TI} {S N0:Nat→Prop} {B:Nat} {w0:W0} {ρ:BI} {σ:AS} {a:Act} {w:World}
theorem Cu.ice (h:Cu D S N0 B w0 ρ σ a w) {n:Nat} {cs:List AV} (hn:blk σ n=some (.cells cs)) (hcs:Af cs=[]):Cu D S N0 B w0 ρ (S8 σ n cs) a w:=by
 have him:∀b,C1 S N0 B w ρ (blk σ) b→C1 S N0 B w ρ (blk (S8 σ n cs)) b:=by
  rintro b ⟨h1,h2,h3⟩
  refine ⟨h1,h2,fun m x hx=> ?_⟩
  rw[GY] at hx
  split at hx
  ·cases hx
  ·obtain ⟨y,hy,rfl⟩:=AR hx
   rw[BZ]
   exact h3 m y hy
 have hbim:∀b,(ρ n).b=some b→C1 S N0 B w ρ (blk (S8 σ n cs)) b:=by
  intro b hb
  refine ⟨h.named_lt hn hb,.inr (h.own n _ b hn (Ew hb)),fun m y hy hm=> ?_⟩
  rw[GY] at hy
  split at hy
  ·cases hy
  ·rename_i hmn
   obtain ⟨y',hy',rfl⟩:=AR hy
   exact hmn (h.hp.inj m n b y' _ hy' hn (BZ.1 hm) (Ew hb))
 have frel:∀x v,Rel w (C1 S N0 B w ρ (blk σ)) ρ x v→Rel w (C1 S N0 B w ρ (blk (S8 σ n cs))) ρ (Ab.ice n cs x) v:=fun x v hx=>
  Rel.ice (h.hp.blk n _ hn) hcs him hbim hx
 have bnd:∀m,(blk σ m).isSome=true→m≠n→(blk (S8 σ n cs) m).isSome=true:=by
  intro m hm hne
  rw[GY,if_neg hne]
  simpa using hm
 refine ⟨fun t x hx=> ?_,⟨fun m x hx=> ?_,fun m k b x y hx hy=> ?_,fun m x b hx hb hm=> ?_,fun b hb=> hb.1,fun m ds hx k hk=> ?_⟩,h.nt,h.base,h.frm,fun m x b hx hb=> ?_,h.defers⟩
 ·have hx':get t (DX (Ab.ice n cs) σ.tm)=some x:=hx
  rw[Io] at hx'
  obtain ⟨y,hy,rfl⟩:=Option.map_eq_some_iff.1 hx'
  obtain ⟨h1,h2⟩:=h.tm t y hy
  exact ⟨frel y _ h1,fun m hm=> bnd m (h2 m (Ir n cs y m hm).1) (Ir n cs y m hm).2⟩
 ·rw[GY] at hx
  split at hx
  ·cases hx
  ·obtain ⟨y,hy,rfl⟩:=AR hx
   have hy':=h.hp.blk m y hy
   cases y with
   | rows e sz rs=> exact hy'.mono rfl (fun _ _=> rfl) him (fun _ _=> rfl) (fun _ _=> rfl)
   | deep e sz rs cols foc=> exact (hy'.keepF (h:=Ab.ice n cs)).mono rfl (fun _ _=> rfl) him (fun _ _=> rfl) (fun _ _=> rfl)
   | cells ds=>
    obtain ⟨b,arr,T,h1,h2,h3,h5⟩:=hy'
    refine ⟨b,arr,T,h1,h2,by simpa using h3,fun i x v hx hv=> ?_⟩
    rw[List.getElem?_map] at hx
    obtain ⟨z,hz,rfl⟩:=Option.map_eq_some_iff.1 hx
    exact ⟨(h5 i z v hz hv).1,frel z v (h5 i z v hz hv).2⟩
 ·rw[GY] at hx hy
  split at hx
  ·cases hx
  split at hy
  ·cases hy
  obtain ⟨x',hx',rfl⟩:=AR hx
  obtain ⟨y',hy',rfl⟩:=AR hy
  rw[BZ,BZ]
  exact h.hp.inj m k b x' y' hx' hy'
 ·exact hm.2.2 m x hx hb
 ·rw[GY] at hx
  split at hx
  ·cases hx
  ·obtain ⟨y,hy,rfl⟩:=AR hx
   obtain ⟨h1,h2⟩:=V7 hk
   exact bnd k (h.hp.clos m y hy k h1) h2
 ·rw[GY] at hx
  split at hx
  ·cases hx
  ·obtain ⟨y,hy,rfl⟩:=AR hx
   exact h.own m y b hy (BZ.1 hb)
end
theorem Wk.ice {X:Cx} {σ:AS} (n:Nat) {cs:List AV} (hn:blk σ n=some (.cells cs)) (hcs:Af cs=[]):Wk X σ (S8 σ n cs):=fun γ a w ⟨ρ,h⟩=> ⟨ρ,h.ice hn hcs⟩
attribute [go_sem] S8 ice Qw
open Go Go.RowKit Go.ChangeShapes Go.WideShapes
def U5 (D:Nat→TI):List (Nat×Nat)→Nat→Nat→Bool
 | [],o,n=> decide (o=n)
 | (o',t)::r,o,n=> decide (o'=o)&&U5 D r (o+(D t).n) n
def Hc (D:Nat→TI):Nat→Nat→Bool
 | 0,_=> false
 | f+1,t=> match (D t).k with
  | .int _=> decide ((D t).n=1)
  | .bool=> decide ((D t).n=1)
  | .str=> decide ((D t).n=1)
  | .slice e=> decide ((D t).n=1)&&Hc D f e
  | .struct fs=> U5 D fs 0 (D t).n&&fs.all (fun x=> Hc D f x.2)
  | _=> false
def UJ (S:Nat→List AV→Prop):List (Nat×Nat)→List AV→Prop
 | [],cs=> cs=[]
 | (_,t)::r,cs=> ∃a b,cs=a++b∧S t a∧UJ S r b
def PL (D:Nat→TI) (B:Nat):Nat→Nat→List AV→Prop
 | 0,_,_=> False
 | f+1,t,cs=> match (D t).k with
  | .int k=> ∃n,cs=[.int k n]∧(Lit.int k n).wf=true
  | .bool=> ∃b,cs=[.bool b]
  | .str=> ∃l,cs=[.str l]∧l.length≤B
  | .slice e=> ∃rs,cs=[.sl (D e).n rs]∧rs.length≤B∧∀row∈rs,PL D B f e row
  | .struct fs=> UJ (PL D B f) fs cs
  | _=> False
theorem Lq {P:Program} {D:Nat→TI} (hT:Hu P D) {t:Nat} (h:Cc (D t).k=false):P.cellsOf t=(D t).n:=by
 obtain ⟨i,z,h1,h2,_⟩:=Fo hT h
 simp[Program.cellsOf,h1,h2]
theorem JC {D:Nat→TI} {f t:Nat} (h:Hc D f t=true):Cc (D t).k=false:=by
 cases f with
 | zero=> cases h
 | succ f=>
  unfold Hc at h
  cases hk:(D t).k <;> rw[hk] at h <;> first | rfl | cases h
section
variable {H:Type} {enc:TypeId×Value→H} {P:Program} {W:World} {D:Nat→TI} {B:Nat}
def GV (W:World) (us:List AV) (cs:List Value):Prop:=us.length=cs.length∧∀(i:Nat) a v,us[i]? =some a→cs[i]? =some v→Rel W (· < W.heap.size) ρ0 a v∧v.oneCell'=true∧Ad a=[]
theorem GV.one {a:AV} {v:Value} (h:Rel W (· < W.heap.size) ρ0 a v) (h1:v.oneCell'=true) (h2:Ad a=[]):GV W [a] [v]:=by
 refine ⟨rfl,fun i x u hx hu=> ?_⟩
 cases i with
 | zero=> simp at hx hu;subst hx hu;exact ⟨h,h1,h2⟩
 | succ i=> simp at hx
theorem GV.append {us bs:List AV} {cs ds:List Value} (h:GV W us cs) (k:GV W bs ds):GV W (us++bs) (cs++ds):=by
 refine ⟨by simp[h.1,k.1],fun i x u hx hu=> ?_⟩
 by_cases hi:i < us.length
 ·rw[List.getElem?_append_left hi] at hx
  rw[List.getElem?_append_left (by rw[←h.1];exact hi)] at hu
  exact h.2 i x u hx hu
 ·rw[List.getElem?_append_right (by omega)] at hx
  rw[List.getElem?_append_right (by rw[←h.1];omega),←h.1] at hu
  exact k.2 _ x u hx hu
theorem Pw (hT:Hu P D) {S:Nat→List AV→Prop} {m N:Nat} {cs:List Value} (hN:cs.length=N)
  (hS:∀(t:Nat) (ds:List Value) (y:DataW H×List MemPlace),Cc (D t).k=false→Hc D m t=true→∀n,DataW.trod enc P W 0 (fun _=> true) true n t ds=some y→Rows.uptoBulk y.1≤B→∃us,S t us∧us.length=(D t).n∧GV W us ds)
  {n:Nat}:∀(fs:List (Nat×Nat)) (flds:List Field) (xs:List (DataW H×List MemPlace)) (o:Nat),DH P D fs flds=true→U5 D fs o N=true→fs.all (fun x=> Hc D m x.2)=true→o≤N→xs.length=flds.length→
   (∀(i:Nat) (f:Field),flds[i]? =some f→DataW.trod enc P W 0 (fun _=> true) true n f.type ((cs.drop f.offset).take (P.cellsOf f.type))=xs[i]?)→(∀x∈xs,Rows.uptoBulk x.1≤B)→
   ∃us,UJ S fs us∧o+us.length=N∧GV W us (cs.drop o)
 | [],[],xs,o,_,hc,_,ho,_,_,_=> by
  simp only[U5,decide_eq_true_eq] at hc
  refine ⟨[],rfl,by simpa using hc,by simp;omega,fun i a v ha=> by simp at ha⟩
 | [],_::_,_,_,h,_,_,_,_,_,_=> by simp[DH] at h
 | _::_,[],_,_,h,_,_,_,_,_,_=> by simp[DH] at h
 | (o',t)::r,f::flds,xs,o,h,hc,hp,ho,hl,hf,hb=> by
  simp only[DH,Bool.and_eq_true,decide_eq_true_eq] at h
  obtain ⟨⟨⟨h1,h2⟩,h3⟩,h4⟩:=h
  simp only[U5,Bool.and_eq_true,decide_eq_true_eq] at hc
  obtain ⟨rfl,hc⟩:=hc
  rw[List.all_cons,Bool.and_eq_true] at hp
  match xs,hl with
  | x::xs,hl=>
   have hot:=JC hp.1
   have hx:=hf 0 f rfl
   rw[h1,h2,Lq hT hot] at hx
   simp only[List.getElem?_cons_zero] at hx
   obtain ⟨us,a1,a2,a3⟩:=hS t _ x hot hp.1 n hx (hb x (by simp))
   have hlen:((cs.drop o').take (D t).n).length=(D t).n:=by rw[←a3.1,a2]
   rw[List.length_take,List.length_drop] at hlen
   obtain ⟨bs,b1,b2,b3⟩:=Pw hT hN hS r flds xs (o'+(D t).n) h4 hc hp.2 (by omega) (by simpa using hl) (fun i f hi=> by simpa using hf (i+1) f (by simpa using hi)) (fun y hy=> hb y (by simp[hy]))
   refine ⟨us++bs,⟨us,bs,rfl,a1,b1⟩,by rw[List.length_append];omega,?_⟩
   have:=a3.append b3
   rwa [←List.drop_drop,List.take_append_drop] at this
theorem QS (hT:Hu P D):∀(m t:Nat),Hc D m t=true→∀(n:Nat) (cs:List Value) (x:DataW H×List MemPlace),DataW.trod enc P W 0 (fun _=> true) true n t cs=some x→Rows.uptoBulk x.1≤B→
  ∃us,PL D B m t us∧us.length=(D t).n∧GV W us cs
 | 0,t,hp,_,_,_,_,_=> by cases hp
 | m+1,t,hp,n,cs,x,h,hb=> by
  have hot:=JC hp
  unfold Hc at hp
  unfold PL
  cases hk:(D t).k with
  | int k=>
   rw[hk] at hp
   obtain ⟨z,rfl,rfl,hw⟩:=DataW.trod_int (JJ hT hk) h
   exact ⟨[.int k z],⟨z,rfl,hw⟩,by simpa using (of_decide_eq_true hp).symm,GV.one (.int _ _) rfl rfl⟩
  | bool=>
   rw[hk] at hp
   have hu:P.underlying t=some .bool:=by
    have h1:=(Fp hT (T:=t) hot).1
    rw[hk] at h1
    cases hu:P.underlying t with
    | none=> rw[hu] at h1;cases h1
    | some u=> rw[hu] at h1;cases u <;> simp[I6] at h1;rfl
   obtain ⟨z,rfl,rfl⟩:=DataW.trod_bool hu h
   exact ⟨[.bool z],⟨z,rfl⟩,by simpa using (of_decide_eq_true hp).symm,GV.one (.bool _) rfl rfl⟩
  | str=>
   rw[hk] at hp
   obtain ⟨s,rfl,rfl,hs⟩:=DataW.trod_string (Hl hT hk) h
   refine ⟨[.str s.data.toList],⟨_,rfl,?_⟩,by simpa using (of_decide_eq_true hp).symm,GV.one (.str _) rfl rfl⟩
   simp only[Rows.uptoBulk] at hb
   omega
  | slice e=>
   rw[hk] at hp
   simp only[Bool.and_eq_true,decide_eq_true_eq] at hp
   obtain ⟨hu,he,hpos⟩:=Cy hT hk
   have hce:=Lq hT he
   rcases Deep.open_slice hu h with ⟨rfl,rfl⟩ | ⟨a,len,cap,mm,n',Dd,Pl,rfl,_,h1,h2,h3,rfl,hc⟩
   ·refine ⟨[.sl (D e).n []],⟨[],rfl,Nat.zero_le _,by simp⟩,by simp[hp.1],GV.one (.sl _ [] none 0 0 0 (fun _ _=> .nilIface) (Nat.le_refl _) (Nat.zero_le _) (fun h=> absurd h (by simp)) (by simp) (by simp) (by simp)) rfl rfl⟩
   ·simp only[if_true] at h3
    subst h3
    simp only[Rows.uptoBulk] at hb
    have hbl:=ZD ((List.range len).map Dd)
    rw[List.length_map,List.length_range] at hbl
    have each:∀i,i < len→∃y:List AV×List Value,PL D B m e y.1∧y.1.length=(D e).n∧GV W y.1 y.2∧∀j v,y.2[j]? =some v→W.cell? ((a.add (i*(D e).n)).add j)=some v:=fun i hi=> by
     obtain ⟨cs',q1,q2⟩:=hc i (by omega)
     rw[hce] at q1
     obtain ⟨_,ql,qc⟩:=World.cells?_some q1
     have hm:=UR (l:=(List.range len).map Dd) (d:=Dd i) (List.mem_map.2 ⟨i,List.mem_range.2 hi,rfl⟩)
     obtain ⟨us,p1,p2,p3⟩:=QS hT m e hp.2 n' cs' (Dd i,Pl i) q2 (by simp only;omega)
     refine ⟨(us,cs'),p1,p2,p3,fun j v hj=> ?_⟩
     have hj':=(List.getElem?_eq_some_iff.1 hj).1
     simp only at hj hj'
     rw[qc j (by omega),hj]
    obtain ⟨Y,hY⟩:=Deep.choose_lt each
    have hrow:∀{i:Nat} {row:List AV},((List.range len).map fun i=> (Y i).1)[i]? =some row→i < len∧row=(Y i).1:=fun {i row} hi=> by
     rw[List.getElem?_map] at hi
     obtain ⟨k,hk1,rfl⟩:=Option.map_eq_some_iff.1 hi
     obtain ⟨hlt,e1⟩:=List.getElem?_eq_some_iff.1 hk1
     simp at hlt e1
     subst e1
     exact ⟨hlt,rfl⟩
    have hadr:0 < len→∃b o,a=⟨b,o,none⟩∧b < W.heap.size:=fun hl=> by
     obtain ⟨q1,q2,q3,q4⟩:=hY 0 hl
     have hpos':0 < (Y 0).2.length:=by rw[←q3.1,q2];exact hpos
     have hc0:=q4 0 _ (List.getElem?_eq_getElem hpos')
     obtain ⟨⟨b',o',e'⟩,hb'⟩:=X5 hc0
     obtain ⟨b,o,s⟩:=a
     rw[KQ,KQ] at hb'
     have hs:s=none:=by
      cases s with
      | none=> rfl
      | some k=> simp[Addr.add] at e'
     subst hs
     exact ⟨b,o,rfl,hb'⟩
    refine ⟨[.sl (D e).n ((List.range len).map fun i=> (Y i).1)],⟨_,rfl,by rw[List.length_map,List.length_range];omega,fun row hr=> ?_⟩,by simp[hp.1],GV.one ?_ rfl rfl⟩
    ·obtain ⟨i,hi,rfl⟩:=List.mem_map.1 hr
     exact (hY i (List.mem_range.1 hi)).1
    ·have hll:((List.range len).map fun i=> (Y i).1).length=len:=by simp
     by_cases hl:0 < len
     ·obtain ⟨b,o,rfl,hblt⟩:=hadr hl
      have:=Rel.sl (w:=W) (im:=(· < W.heap.size)) (ρ:=ρ0) (D e).n ((List.range len).map fun i=> (Y i).1) (some ⟨b,o,none⟩) mm b o (fun i j=> (Y i).2.getD j .nilIface) (by omega) h2 (fun _=> ⟨rfl,hblt⟩) (fun i row hi=> ?_) (fun i j row x hi hj=> ?_) (fun i j row x hi hj=> ?_)
      ·rw[hll] at this;exact this
      ·obtain ⟨hlt,rfl⟩:=hrow hi
       exact (hY i hlt).2.1
      ·obtain ⟨hlt,rfl⟩:=hrow hi
       obtain ⟨p1,p2,p3,p4⟩:=hY i hlt
       have hjl:=(List.getElem?_eq_some_iff.1 hj).1
       have hj2:j < (Y i).2.length:=by rw[←p3.1];exact hjl
       have hv:(Y i).2[j]? =some (Y i).2[j]:=List.getElem?_eq_getElem hj2
       have hg:(Y i).2.getD j .nilIface=(Y i).2[j]:=by simp[hj2]
       have hc1:=p4 j _ hv
       rw[KM,KM] at hc1
       simp only[hg]
       exact ⟨by rw[←Nat.add_assoc];exact hc1,(p3.2 j x _ hj hv).2⟩
      ·obtain ⟨hlt,rfl⟩:=hrow hi
       obtain ⟨p1,p2,p3,p4⟩:=hY i hlt
       have hjl:=(List.getElem?_eq_some_iff.1 hj).1
       have hj2:j < (Y i).2.length:=by rw[←p3.1];exact hjl
       have hv:(Y i).2[j]? =some (Y i).2[j]:=List.getElem?_eq_getElem hj2
       have hg:(Y i).2.getD j .nilIface=(Y i).2[j]:=by simp[hj2]
       simp only[hg]
       exact (p3.2 j x _ hj hv).1
     ·have hl0:len=0:=by omega
      subst hl0
      exact .sl (D e).n [] (some a) mm 0 0 (fun _ _=> .nilIface) (Nat.zero_le _) h2 (fun h=> absurd h (by simp)) (by simp) (by simp) (by simp)
  | struct fs=>
   rw[hk] at hp
   simp only[Bool.and_eq_true] at hp
   obtain ⟨flds,hu,hfb⟩:=F4 hT hk
   obtain ⟨xs,n',rfl,rfl,hl,hxl,hf⟩:=DataW.trod_struct hu h
   rw[Lq hT hot] at hl
   simp only[Rows.uptoBulk] at hb
   obtain ⟨us,a1,a2,a3⟩:=Pw hT (S:=PL D B m) (m:=m) (B:=B) hl (fun t' ds y _ hpt n hy hyb=> QS hT m t' hpt n ds y hy hyb) fs flds.toList xs 0 hfb hp.1 hp.2 (Nat.zero_le _) (by simpa using hxl) (fun i f hi=> hf i f (by simpa using hi))
    (fun y hy=> by have:=UR (l:=xs.map (·.1)) (d:=y.1) (List.mem_map.2 ⟨y,hy,rfl⟩);omega)
   rw[Nat.zero_add] at a2
   exact ⟨us,a1,a2,by simpa using a3⟩
  | ref=> rw[hk] at hp;cases hp
  | iface=> rw[hk] at hp;cases hp
  | other=> rw[hk] at hp;cases hp
theorem open_arg (hT:Hu P D) {m t:Nat} (hp:Hc D m t=true) {r:Reach} {b0:Nat} {v:Value} {d:DataW H} {ps:List MemPlace} (hval:Value.okWide P W r b0 t v) (h:DataW.Trod enc P W 0 (fun _=> true) true t v d ps) (hb:Rows.uptoBulk d≤B):
  ∃us,PL D B m t us∧us.length=(D t).n∧Rel W (· < W.heap.size) ρ0 (match (D t).k with | .struct _=> .agg us | _=> us.headD .junk) v:=by
 obtain ⟨n,hn⟩:=h
 obtain ⟨us,h1,h2,h3⟩:=QS hT m t hp n _ _ hn hb
 refine ⟨us,h1,h2,?_⟩
 have hot:=JC hp
 have one:v.cells=#[v]→Rel W (· < W.heap.size) ρ0 (us.headD .junk) v:=fun hc=> by
  rw[hc] at h3
  match us,h3 with
  | [a],h3=> exact (h3.2 0 a v rfl rfl).1
  | [],h3=> have:=h3.1;simp at this
  | _::_::_,h3=> have:=h3.1;simp at this
 cases hk:(D t).k with
 | int k=>
  obtain ⟨z,rfl⟩:=okWide_int (JJ hT hk) hval
  exact one rfl
 | bool=>
  have hu:P.underlying t=some .bool:=by
   have h1:=(Fp hT (T:=t) hot).1
   rw[hk] at h1
   cases hu:P.underlying t with
   | none=> rw[hu] at h1;cases h1
   | some u=> rw[hu] at h1;cases u <;> simp[I6] at h1;rfl
  obtain ⟨z,rfl⟩:=okWide_bool hu hval
  exact one rfl
 | str=>
  obtain ⟨z,rfl⟩:=okWide_string (Hl hT hk) hval
  exact one rfl
 | slice e=>
  obtain ⟨a,l,c,rfl⟩:=okWide_slice (Cy hT hk).1 hval
  exact one rfl
 | struct fs=>
  obtain ⟨flds,hu,_⟩:=F4 hT hk
  obtain ⟨vs,rfl,hsz⟩:=okWide_struct hu hval
  simp only[Value.cells] at h3
  exact .agg us vs (by have:=h3.1;simp at this;omega) (fun i u hu=> by
   have hi:=(Array.getElem?_eq_some_iff.1 hu).1
   have hi2:i < us.length:=by have:=h3.1;simp at this;omega
   exact (h3.2 i us[i] u (List.getElem?_eq_getElem hi2) (by simpa using hu)).2.1) (fun i a u ha hu=> (h3.2 i a u ha (by simpa using hu)).1)
 | ref=> unfold Hc at hp;cases m <;> simp[hk] at hp
 | iface=> unfold Hc at hp;cases m <;> simp[hk] at hp
 | other=> rw[hk] at hot;cases hot
end
theorem AbU {t:Nat} (hk:(D t).k=.str) {m:Nat} {B:Nat} {us:List AV} (h:PL D B (m+1) t us):∃s:ByteArray,us=[.str s.data.toList]∧s.size≤B:=by
 simp only[PL,hk] at h
 obtain ⟨l,rfl,hl⟩:=h
 exact ⟨⟨⟨l⟩⟩,rfl,hl⟩
theorem shp_i64 {t:Nat} (hk:(D t).k=.int .i64) {m:Nat} {B:Nat} {us:List AV} (h:PL D B (m+1) t us):∃n:Int,us=[.int .i64 n]∧-9223372036854775808≤n∧n≤9223372036854775807:=by
 simp only[PL,hk] at h
 obtain ⟨n,rfl,hw⟩:=h
 exact ⟨n,rfl,by simpa[Lit.wf,IntKind.min,IntKind.max,IntKind.signed,IntKind.bits] using hw⟩
theorem Zf {t e:Nat} (hk:(D t).k=.slice e) {m:Nat} {B:Nat} {us:List AV} (h:PL D B (m+1) t us):∃rs,us=[.sl (D e).n rs]∧rs.length≤B∧∀row∈rs,PL D B m e row:=by
 unfold PL at h
 rw[hk] at h
 exact h
theorem KE {t:Nat} {fs:List (Nat×Nat)} (hk:(D t).k=.struct fs) {m:Nat} {B:Nat} {us:List AV} (h:PL D B (m+1) t us):UJ (PL D B m) fs us:=by
 unfold PL at h
 rw[hk] at h
 exact h
theorem VR {α:Type} {f:α→List AV} {Q:α→Prop}:∀{rs:List (List AV)},(∀row∈rs,∃x,row=f x∧Q x)→∃l:List α,rs=l.map f∧∀x∈l,Q x
 | [],_=> ⟨[],rfl,by simp⟩
 | r::rs,h=> by
  obtain ⟨x,rfl,hx⟩:=h r (by simp)
  obtain ⟨l,rfl,hl⟩:=VR (rs:=rs) (f:=f) (Q:=Q) fun row hrow=> h row (by simp[hrow])
  refine ⟨x::l,rfl,fun y hy=> ?_⟩
  rcases List.mem_cons.1 hy with rfl | hy
  ·exact hx
  ·exact hl y hy
theorem Aa3 {m:Nat} {B:Nat} {us:List AV} (h:PL D B (m+2) 101 us):∃p:AI,us=Aq p∧p.key.size≤B∧p.text.size≤B:=by
 simp only[PL,UJ,D_1,D_2,Kf,Xj,Kg,D_6,D_7,D_8,Kh,Tp,Tq,Ts,Tt,Tu,Tv,Tw,Tx,Ty,Tz,TA,P4,EN,EO,TB,EP,TC,I9,TD,TE,TF,TG,TH,TJ,TK,TL,TM,TN,TO,TP,TQ,TR,TS,TT,TU,TV,KL,TW,TX,TY,TZ,PJ,T0,T1,T4,T5,T6,T7,T8,T9,Ua,Ub,Uc,Ud,Ue,Uf,Ug,Uh,Ui,Uj,Uk,Ul,Um,Un,Uo,Up,Uq,Ur,Us,Ut,Uu,Uv,Uw,Ux,Uy,Uz,UA,UB,UC,UD,UE,UF,LR,CH,LS,LT,LU,LV,LW,LX,LY,LZ,L0,L1,L2,L3,L4,L5,L6,L7,L8,L9,Ma,Mb,Md,Me,Mf,Mg,Mh,Mi,Mj,Mk,Ml,Mm,Mn,Mo,Mp,Mq,Mr,Ms,Mt,Mu,Mv,Mx,My,Mz,MA,MB,MC,MD,ME,MF,MG,MH,MI,MJ,MK,ML,MM,MN,MO,MP,Jb,MQ,MR,MS,MT,MU,MV,MW,MX,MY,MZ,M0,M1,M2,M3,M4,M5,M6,M7,M8,M9,Na,Nb,Nc,Nd,Nf,Ng,Nh,Ni,Nj,Nk,Nl,Nm,Nn,No,Np,Nq,Nr,Ns,Nt,Nu,Nv,Nx,Ny,Nz,NA,NB,NC,ND,NE,NF,NG,NH,NJ,NK,NL,NM,NN,NO,NP,NQ,NR,NS,NT,NU,NV,NW,NX,NY,NZ,N1,N2,N3,N4,N5,N6,N7,N8,N9,Oa,Ob,Oc,Od,Oe,Of,Og,Oh,Oi,Oj,Ol,Om,Jc,On,Jd,Oo,Oq,Ot,Ou,Ov,Ow,Ox,Oy,Oz,OA,OB,OC,OD,OE,OF,OG,OH,OI,OJ,OK,OL,OM,ON,OO,OP,OQ,OR,OS,OT,OU,OV,OW,OX,OY,OZ,O0,O1,O2,O3,O4,O5,O6,O7,O8,O9,Pa,Pb,Pc,Pd,Pe,Pf,Pg] at h
 obtain ⟨_,_,rfl,⟨k,rfl,hk⟩,_,_,rfl,⟨a,rfl,ha⟩,_,_,rfl,⟨b,rfl,hb⟩,_,_,rfl,⟨t,rfl,ht⟩,rfl⟩:=h
 exact ⟨⟨⟨⟨k⟩⟩,a,b,⟨⟨t⟩⟩⟩,rfl,hk,ht⟩
theorem Ze {m:Nat} {B:Nat} {us:List AV} (h:PL D B (m+3) 22 us):∃l:List AI,us=[.sl 4 (l.map Aq)]∧l.length≤B∧∀p∈l,p.key.size≤B∧p.text.size≤B:=by
 obtain ⟨rs,rfl,hl,hr⟩:=Zf (e:=101) (by simp only[D_1,D_2,Kf,Xj,Kg,D_6,D_7,D_8,Kh,Tp,Tq,Ts,Tt,Tu,Tv,Tw,Tx,Ty,Tz,TA,P4,EN,EO,TB,EP,TC,I9,TD,TE,TF,TG,TH,TJ,TK,TL,TM,TN,TO,TP,TQ,TR,TS,TT,TU,TV,KL,TW,TX,TY,TZ,PJ,T0,T1,T4,T5,T6,T7,T8,T9,Ua,Ub,Uc,Ud,Ue,Uf,Ug,Uh,Ui,Uj,Uk,Ul,Um,Un,Uo,Up,Uq,Ur,Us,Ut,Uu,Uv,Uw,Ux,Uy,Uz,UA,UB,UC,UD,UE,UF,LR,CH,LS,LT,LU,LV,LW,LX,LY,LZ,L0,L1,L2,L3,L4,L5,L6,L7,L8,L9,Ma,Mb,Md,Me,Mf,Mg,Mh,Mi,Mj,Mk,Ml,Mm,Mn,Mo,Mp,Mq,Mr,Ms,Mt,Mu,Mv,Mx,My,Mz,MA,MB,MC,MD,ME,MF,MG,MH,MI,MJ,MK,ML,MM,MN,MO,MP,Jb,MQ,MR,MS,MT,MU,MV,MW,MX,MY,MZ,M0,M1,M2,M3,M4,M5,M6,M7,M8,M9,Na,Nb,Nc,Nd,Nf,Ng,Nh,Ni,Nj,Nk,Nl,Nm,Nn,No,Np,Nq,Nr,Ns,Nt,Nu,Nv,Nx,Ny,Nz,NA,NB,NC,ND,NE,NF,NG,NH,NJ,NK,NL,NM,NN,NO,NP,NQ,NR,NS,NT,NU,NV,NW,NX,NY,NZ,N1,N2,N3,N4,N5,N6,N7,N8,N9,Oa,Ob,Oc,Od,Oe,Of,Og,Oh,Oi,Oj,Ol,Om,Jc,On,Jd,Oo,Oq,Ot,Ou,Ov,Ow,Ox,Oy,Oz,OA,OB,OC,OD,OE,OF,OG,OH,OI,OJ,OK,OL,OM,ON,OO,OP,OQ,OR,OS,OT,OU,OV,OW,OX,OY,OZ,O0,O1,O2,O3,O4,O5,O6,O7,O8,O9,Pa,Pb,Pc,Pd,Pe,Pf,Pg]) h
 obtain ⟨l,rfl,h2⟩:=VR (f:=Aq) (Q:=fun p=> p.key.size≤B∧p.text.size≤B) fun row hrow=> Aa3 (hr row hrow)
 refine ⟨l,by simp only[D_1,D_2,Kf,Xj,Kg,D_6,D_7,D_8,Kh,Tp,Tq,Ts,Tt,Tu,Tv,Tw,Tx,Ty,Tz,TA,P4,EN,EO,TB,EP,TC,I9,TD,TE,TF,TG,TH,TJ,TK,TL,TM,TN,TO,TP,TQ,TR,TS,TT,TU,TV,KL,TW,TX,TY,TZ,PJ,T0,T1,T4,T5,T6,T7,T8,T9,Ua,Ub,Uc,Ud,Ue,Uf,Ug,Uh,Ui,Uj,Uk,Ul,Um,Un,Uo,Up,Uq,Ur,Us,Ut,Uu,Uv,Uw,Ux,Uy,Uz,UA,UB,UC,UD,UE,UF,LR,CH,LS,LT,LU,LV,LW,LX,LY,LZ,L0,L1,L2,L3,L4,L5,L6,L7,L8,L9,Ma,Mb,Md,Me,Mf,Mg,Mh,Mi,Mj,Mk,Ml,Mm,Mn,Mo,Mp,Mq,Mr,Ms,Mt,Mu,Mv,Mx,My,Mz,MA,MB,MC,MD,ME,MF,MG,MH,MI,MJ,MK,ML,MM,MN,MO,MP,Jb,MQ,MR,MS,MT,MU,MV,MW,MX,MY,MZ,M0,M1,M2,M3,M4,M5,M6,M7,M8,M9,Na,Nb,Nc,Nd,Nf,Ng,Nh,Ni,Nj,Nk,Nl,Nm,Nn,No,Np,Nq,Nr,Ns,Nt,Nu,Nv,Nx,Ny,Nz,NA,NB,NC,ND,NE,NF,NG,NH,NJ,NK,NL,NM,NN,NO,NP,NQ,NR,NS,NT,NU,NV,NW,NX,NY,NZ,N1,N2,N3,N4,N5,N6,N7,N8,N9,Oa,Ob,Oc,Od,Oe,Of,Og,Oh,Oi,Oj,Ol,Om,Jc,On,Jd,Oo,Oq,Ot,Ou,Ov,Ow,Ox,Oy,Oz,OA,OB,OC,OD,OE,OF,OG,OH,OI,OJ,OK,OL,OM,ON,OO,OP,OQ,OR,OS,OT,OU,OV,OW,OX,OY,OZ,O0,O1,O2,O3,O4,O5,O6,O7,O8,O9,Pa,Pb,Pc,Pd,Pe,Pf,Pg],by simpa using hl,h2⟩
theorem shp_bytes {m:Nat} {B:Nat} {us:List AV} (h:PL D B (m+2) 23 us):∃l:List UInt8,us=[.sl 1 (l.map Ac)]∧l.length≤B:=by
 simp only[PL,D_1,D_2,Kf,Xj,Kg,D_6,D_7,D_8,Kh,Tp,Tq,Ts,Tt,Tu,Tv,Tw,Tx,Ty,Tz,TA,P4,EN,EO,TB,EP,TC,I9,TD,TE,TF,TG,TH,TJ,TK,TL,TM,TN,TO,TP,TQ,TR,TS,TT,TU,TV,KL,TW,TX,TY,TZ,PJ,T0,T1,T4,T5,T6,T7,T8,T9,Ua,Ub,Uc,Ud,Ue,Uf,Ug,Uh,Ui,Uj,Uk,Ul,Um,Un,Uo,Up,Uq,Ur,Us,Ut,Uu,Uv,Uw,Ux,Uy,Uz,UA,UB,UC,UD,UE,UF,LR,CH,LS,LT,LU,LV,LW,LX,LY,LZ,L0,L1,L2,L3,L4,L5,L6,L7,L8,L9,Ma,Mb,Md,Me,Mf,Mg,Mh,Mi,Mj,Mk,Ml,Mm,Mn,Mo,Mp,Mq,Mr,Ms,Mt,Mu,Mv,Mx,My,Mz,MA,MB,MC,MD,ME,MF,MG,MH,MI,MJ,MK,ML,MM,MN,MO,MP,Jb,MQ,MR,MS,MT,MU,MV,MW,MX,MY,MZ,M0,M1,M2,M3,M4,M5,M6,M7,M8,M9,Na,Nb,Nc,Nd,Nf,Ng,Nh,Ni,Nj,Nk,Nl,Nm,Nn,No,Np,Nq,Nr,Ns,Nt,Nu,Nv,Nx,Ny,Nz,NA,NB,NC,ND,NE,NF,NG,NH,NJ,NK,NL,NM,NN,NO,NP,NQ,NR,NS,NT,NU,NV,NW,NX,NY,NZ,N1,N2,N3,N4,N5,N6,N7,N8,N9,Oa,Ob,Oc,Od,Oe,Of,Og,Oh,Oi,Oj,Ol,Om,Jc,On,Jd,Oo,Oq,Ot,Ou,Ov,Ow,Ox,Oy,Oz,OA,OB,OC,OD,OE,OF,OG,OH,OI,OJ,OK,OL,OM,ON,OO,OP,OQ,OR,OS,OT,OU,OV,OW,OX,OY,OZ,O0,O1,O2,O3,O4,O5,O6,O7,O8,O9,Pa,Pb,Pc,Pd,Pe,Pf,Pg] at h
 obtain ⟨rs,rfl,hl,hr⟩:=h
 have hB:∀row∈rs,∃b:UInt8,row=Ac b:=fun row hrow=> by
  obtain ⟨n,rfl,hw⟩:=hr row hrow
  have hx:0≤n∧n≤255:=by simpa[Lit.wf,IntKind.min,IntKind.max,IntKind.signed,IntKind.bits] using hw
  refine ⟨UInt8.ofNat n.toNat,?_⟩
  have e:((UInt8.ofNat n.toNat).toNat:Int)=n:=by
   rw[UInt8.toNat_ofNat']
   omega
  rw[Ac,e]
 clear hr
 have:∃l:List UInt8,rs=l.map Ac:=by
  clear hl
  induction rs with
  | nil=> exact ⟨[],rfl⟩
  | cons x r ih=>
   obtain ⟨b,rfl⟩:=hB x (by simp)
   obtain ⟨l,rfl⟩:=ih fun row hrow=> hB row (by simp[hrow])
   exact ⟨b::l,rfl⟩
 obtain ⟨l,rfl⟩:=this
 exact ⟨l,rfl,by simpa using hl⟩
theorem VQ {m:Nat} {B:Nat} {us:List AV} (h:PL D B (m+4) 25 us):∃n:AP,AV.agg us=An n∧us=[.sl 4 (n.props.map Aq),.sl 1 (n.body.map Ac)]∧n.props.length≤B∧n.body.length≤B∧∀p∈n.props,p.key.size≤B∧p.text.size≤B:=by
 have h:=KE (fs:=[(0,22),(1,23)]) (by simp only[D_1,D_2,Kf,Xj,Kg,D_6,D_7,D_8,Kh,Tp,Tq,Ts,Tt,Tu,Tv,Tw,Tx,Ty,Tz,TA,P4,EN,EO,TB,EP,TC,I9,TD,TE,TF,TG,TH,TJ,TK,TL,TM,TN,TO,TP,TQ,TR,TS,TT,TU,TV,KL,TW,TX,TY,TZ,PJ,T0,T1,T4,T5,T6,T7,T8,T9,Ua,Ub,Uc,Ud,Ue,Uf,Ug,Uh,Ui,Uj,Uk,Ul,Um,Un,Uo,Up,Uq,Ur,Us,Ut,Uu,Uv,Uw,Ux,Uy,Uz,UA,UB,UC,UD,UE,UF,LR,CH,LS,LT,LU,LV,LW,LX,LY,LZ,L0,L1,L2,L3,L4,L5,L6,L7,L8,L9,Ma,Mb,Md,Me,Mf,Mg,Mh,Mi,Mj,Mk,Ml,Mm,Mn,Mo,Mp,Mq,Mr,Ms,Mt,Mu,Mv,Mx,My,Mz,MA,MB,MC,MD,ME,MF,MG,MH,MI,MJ,MK,ML,MM,MN,MO,MP,Jb,MQ,MR,MS,MT,MU,MV,MW,MX,MY,MZ,M0,M1,M2,M3,M4,M5,M6,M7,M8,M9,Na,Nb,Nc,Nd,Nf,Ng,Nh,Ni,Nj,Nk,Nl,Nm,Nn,No,Np,Nq,Nr,Ns,Nt,Nu,Nv,Nx,Ny,Nz,NA,NB,NC,ND,NE,NF,NG,NH,NJ,NK,NL,NM,NN,NO,NP,NQ,NR,NS,NT,NU,NV,NW,NX,NY,NZ,N1,N2,N3,N4,N5,N6,N7,N8,N9,Oa,Ob,Oc,Od,Oe,Of,Og,Oh,Oi,Oj,Ol,Om,Jc,On,Jd,Oo,Oq,Ot,Ou,Ov,Ow,Ox,Oy,Oz,OA,OB,OC,OD,OE,OF,OG,OH,OI,OJ,OK,OL,OM,ON,OO,OP,OQ,OR,OS,OT,OU,OV,OW,OX,OY,OZ,O0,O1,O2,O3,O4,O5,O6,O7,O8,O9,Pa,Pb,Pc,Pd,Pe,Pf,Pg]) h
 simp only[UJ] at h
 obtain ⟨_,_,rfl,h1,_,_,rfl,h2,rfl⟩:=h
 obtain ⟨l,rfl,q1,q2⟩:=Ze h1
 obtain ⟨b,rfl,q3⟩:=shp_bytes h2
 exact ⟨⟨l,b⟩,rfl,rfl,q1,q3,q2⟩
end Go.Proofs.YtlkmgccikgnaeaaGreatDoor.Ab
