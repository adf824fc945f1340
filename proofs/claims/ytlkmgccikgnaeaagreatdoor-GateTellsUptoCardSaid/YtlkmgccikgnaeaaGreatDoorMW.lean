/-
  Texts of the proof, one behind the other: RwA RwU RwB RwC RwD.
  No condition but those that each theorem names.
-/
import Derived.Test.YtlkmgccikgnaeaaGreatDoorMU
import Derived.Test.YtlkmgccikgnaeaaGreatDoorMC
import Derived.Test.YtlkmgccikgnaeaaGreatDoorMI
import Derived.Test.YtlkmgccikgnaeaaGreatDoorMJ
import Derived.Test.YtlkmgccikgnaeaaGreatDoorMK
set_option linter.unusedVariables false
set_option linter.unusedSimpArgs false
set_option maxRecDepth 100000
set_option maxHeartbeats 16000000
namespace Go.Proofs.YtlkmgccikgnaeaaGreatDoor.Ab
open Go Go.RowKit
def Xv (l:List AI):Wd:=l.flatMap fun p=> [13,10,112,45]++p.key.data.toList++[58,32]++BU p
theorem Xw:∀(l:List AI),(∀p∈l,Xl p∧p.key.size+(BU p).length≤1000000)→(Xv l).length≤1000006*l.length
 | [],_=> by simp[Xv]
 | p::r,h=> by
  have ih:=Xw r fun q hq=> h q (List.mem_cons_of_mem p hq)
  have hp:=(h p (List.mem_cons_self ..)).2
  have hk:p.key.data.toList.length=p.key.size:=rfl
  unfold Xv at *
  simp only[List.flatMap_cons,List.length_append,List.length_cons,List.length_nil]
  omega
theorem Aab {l:List AI} {i:Nat} (h:i < l.length):Xv (l.take (i+1))=Xv (l.take i)++([13,10,112,45]++(l.getD i ED).key.data.toList++[58,32]++BU (l.getD i ED)):=by
 rw[J0 h]
 simp[Xv]
def EU (first:Wd) (n:AP):Wd:=first++Xv n.props++[13,10]++Jh n.body.length++[13,10,13,10]++n.body
def HU (l:List Wd):Wd:=l.flatMap fun w=> [13,10]++w
theorem G6 (w:Wd):∀l:List Wd,Lib.join (w::l) [13,10]=w++HU l
 | []=> by rw[Lib.join_one];simp[HU]
 | v::r=> by
  rw[G7,G6 v r]
  simp[HU]
theorem KD (first:Wd) (hs:List Wd) (n:AP):EU (Lib.join (first::hs) [13,10]) n=D0 first hs n:=by
 unfold EU D0 I7
 rw[G6,List.cons_append,List.nil_append,List.cons_append,List.cons_append,G6]
 have h:∀l:List AI,HU (Ct l)=Xv l:=fun l=> by
  induction l with
  | nil=> rfl
  | cons p r ih=>
   have e:HU (Ct (p::r))=[13,10]++Px p++HU (Ct r):=by simp[HU,Ct]
   rw[e,ih]
   simp[Xv,Px]
 have e:∀a b:List Wd,HU (a++b)=HU a++HU b:=fun a b=> by simp[HU]
 rw[e,e,h]
 simp[HU]
theorem LM (first:Wd) (n:AP):EU first n=D0 first [] n:=by
 have:=KD first [] n
 rwa [Lib.join_one] at this
def Adf (first:Wd) (n:AP):Prop:=first.length≤16777216∧P7 n
theorem RI (first:Wd) (n:AP) (hf:first.length≤16777216) (hn:P7 n):A8 Tryz.prog D 140 [.str first,An n] ⟨.sl 1 ((EU first n).map Ac),[]⟩:=by
 have hok:Cl Tryz.prog D (Ao [AB,EK]):=Ar _
 have g1:=Ag (T:=[AB,EK]) (E:=AB) (i:=0) rfl (by decide) ((n.body.length:Int)) (⟨by omega,by have:=hn.2.1;omega⟩)
 have g2:=fun (p:AI) (h:Xl p)=> Ag (T:=[AB,EK]) (E:=EK) (i:=1) rfl (by decide) (p) (h)
 generalize Ao [AB,EK]=G at *
 dsimp only[AB] at g1
 dsimp only[EK] at g2
 obtain ⟨hn1,hn2,hn3⟩:=hn
 have hwl:∀i,(Xv (n.props.take i)).length≤1000006*i:=fun i=> by
  have h1:=Xw (n.props.take i) fun p hp=> hn3 p (List.mem_of_mem_take hp)
  have h2:(n.props.take i).length≤i:=by rw[List.length_take];omega
  have:=Nat.mul_le_mul_left 1000006 h2
  omega
 have hil:=Lib.itoa_length_le (n.body.length:Int) (by omega) (by omega)
 unfold EU Jh
 obtain ⟨ps,bs⟩:=n
 simp only at g1 hn1 hn2 hn3 hwl hil
 generalize Lib.itoa (bs.length:Int)=it at *
 refine Bx (G:=G) (rs:=[(4,none)]) hok Tryz.func140 Tryz.results140 Tryz.ntmps140 (fun _=> {}) fun X hP hD hG' hX=> ?_
 simp only[AU,Bz,An]
 simp (disch:=omega) only[go_sem,hD,hG',Aa]
 refine Tr.loop (ι:=Nat) (fun i=> i≤ps.length) (fun i=> {nt:=39,tm:=[(3,.ptr 3 0),(5,.str (first++Xv (ps.take i))),(10,.sl 4 (ps.map Aq)),(11,.int .i64 ps.length),(12,.int .i64 i)],bl:=[(3,some (.cells [.sl 4 (ps.map Aq),.sl 1 (bs.map Ac)]))]}) (fun i=> ps.length - i) 0
  ⟨Nat.zero_le _,AG hD [(3,3)] rfl rfl (by simp only[go_sem];simp[Xv]) (by simp only[go_sem])⟩ ?_
 intro i hi
 refine Al hX (fun _=> {}) _ _ _ ?_
 simp (disch:=omega) only[go_sem,hD,hG',Aa]
 refine Ai (fun h=> ?_) (fun h=> ?_)
 ·rw[decide_eq_true_eq] at h
  have hi1:i < ps.length:=by omega
  have hgx:=HJ hi1
  have hti:=Aab hi1
  obtain ⟨hv,hk⟩:=hn3 _ (Dr (d:=ED) hi1)
  have hvl:=hwl i
  have g2:=g2 _ hv
  generalize ps.getD i ED=p at *
  generalize Xv (ps.take i)=acc at *
  have hkl:p.key.data.toList.length=p.key.size:=rfl
  generalize BU p=vs at *
  obtain ⟨p1,p2,p3,p4⟩:=p
  simp only at hkl hti hk
  simp only[Aq] at hgx g2
  simp (disch:=omega) only[go_sem,hD,hG',hgx,g2,Aa]
  (repeat (with_reducible refine aI ?_))
  refine ⟨i+1,⟨by omega,by omega⟩,AG hD [(3,3)] rfl rfl ?_ ?_⟩ <;> simp only[go_sem]
  simp[hti]
 ·rw[decide_eq_false_iff_not] at h
  have hie:i=ps.length:=by omega
  subst hie
  have hvl:=hwl ps.length
  rw[List.take_length] at *
  generalize Xv ps=acc at *
  simp (disch:=omega) only[go_sem,hD,hG',g1,Aa]
  (repeat (with_reducible refine aI ?_))
  refine Aj [] [] (by simp) rfl rfl rfl ?_ ?_ <;> simp only[go_sem]
  simp
def CI:BH Tryz.prog D:=⟨140,Wd×AP×Bool,fun x=> [.str x.1,XL x.2.2 x.2.1],fun x=> Adf x.1 x.2.1∧(x.2.2=true→x.2.1=Ah),fun x=> ⟨.sl 1 ((EU x.1 x.2.1).map Ac),[]⟩,fun x y hx hy h=> by
 obtain ⟨a,n,b⟩:=x
 obtain ⟨a',n',b'⟩:=y
 simp only[List.cons.injEq,AV.str.injEq,and_true] at h
 have this:n=n':=XM hx.2 hy.2 h.2
 simp only
 rw[h.1,this],fun x h=> by
 obtain ⟨a,n,b⟩:=x
 obtain ⟨⟨h1,h2⟩,h3⟩:=h
 simp only at h1 h2 h3
 cases b
 ·exact RI a n h1 h2
 ·have h3:=h3 rfl
  subst h3
  exact A8.weak (RI a Ah h1 h2) (by simp[XL,An,Ah,Aw,cov])⟩
section
variable {X:Cx} {γ:Nat→Value} {ops:Array Oper} {Qx:Exit→Act→World→Prop} {σ:AS} {ρ:BI} {wb:World}
variable {hv:List (Nat×Value)} {mp:Option (Nat×List MapEntry)} {a:Act} {w:World} {K:Act→World→Prop}
theorem Eb (h:Mc X γ σ ρ wb hv mp a w) {i ad T T2 ty:Nat} {x y:Operand} {u it:List UInt8} {p:String} {af:Array Edge} (ho:ops[i]? =some ⟨some ad,.binOp .add T x y T2,ty,p,af,none⟩)
  (e1:a.eval x=.string ⟨⟨u⟩⟩) (e2:a.eval y=.string ⟨⟨it⟩⟩) (hl:u.length+it.length≤1099511627776) (hm:ad < σ.nt) (hn:get ad σ.tm=none) (hp:∀p∈hv,ad≠p.1)
  (hK:∀a' w',Mc X γ σ ρ wb ((ad,.string ⟨⟨u++it⟩⟩)::hv) mp a' w'→K a' w'):wpOp X.P ops Qx i K a w:=by
 have hex:execOp a.eval ⟨some ad,.binOp .add T x y T2,ty,p,af,none⟩=(do pure (.value (←(do eqGuard .add T x y (a.eval x) (a.eval y);binOp .add T (a.eval x) (a.eval y))))):=rfl
 refine Bd ho rfl (Ax hex (v:=.string ⟨⟨u++it⟩⟩) (w':=w) ?_ (hK _ _ (h.put hm hn hp _)))
 rw[e1,e2]
 have z1:(⟨⟨u⟩⟩:ByteArray).size=u.length:=rfl
 have z2:(⟨⟨it⟩⟩:ByteArray).size=it.length:=rfl
 have ha:(⟨⟨u⟩⟩:ByteArray)++⟨⟨it⟩⟩=⟨⟨u++it⟩⟩:=ByteArray.ext (by simp)
 simp[eqGuard,binOp,Op.stringOp,ha,z1,z2,IntKind.max,IntKind.signed,IntKind.bits]
 omega
theorem AbG {b m:Nat} {es:List MapEntry} (h:Mc X γ σ ρ wb hv (some (b,es)) a w) (hm:(m,Value.map (some b))∈hv) (hmt:m < σ.nt):
  X.St γ {σ with tm:=(m,.imap (es.map fun e=> (e.key,e.val)))::σ.tm} a w:=by
 obtain ⟨h1,h2,h3⟩:=h.mp b es rfl
 have hst:=h.st.more h.fr
 have hme:=h.hv _ hm
 simp only at hme
 have h4:=hst.put (d:=m) (x:=.imap (es.map fun e=> (e.key,e.val))) (v:=.map (some b)) hmt ?_ (by simp[Ad])
 ·have e:a.put (some m) (.map (some b))=a:=by
   have hlt:m < a.tmps.size:=by rw[h.st.nt.1];exact hmt
   have hg:a.tmps[m]=.map (some b):=by
    have:a.tmps.getD m undef=.map (some b):=hme
    simpa[hlt] using this
   unfold Act.put
   rw[←hg]
   have e2:a.tmps.setIfInBounds m a.tmps[m]=a.tmps:=by
    apply Array.ext
    ·simp
    ·intro j h1 h2
     rw[Array.getElem_setIfInBounds (by simpa using h1)]
     split
     ·rename_i e;subst e;rfl
     ·rfl
   simp only[e2]
  rw[e] at h4
  exact ⟨ρ,h4⟩
 ·refine .imap _ b es.length es.toArray ⟨h2,.inr (.inl ?_),fun n x hx hb=> ?_⟩ h3 (by simp)
  ·exact Nat.le_trans (Nat.le_trans h.st.base.1 h.st.frm.size) h1
  ·have:=h.st.owns_lt hx hb
   omega
theorem W5 (hX:X.Ok) {Q:Exit→AS→Prop} {r:List Oper} {k:Nat} {σ':AS} (hl:∀j,r[j]? =ops[k+j]?) (hs:X.St γ σ' a w) (h:EE X [] ops r (Q .normal) σ'):
  wpOps X.P ops (fun e a w=> ∃σ',Q e σ'∧X.St γ σ' a w) (List.range' k r.length) a w:=F1 hX (fun σ' a' w' h1 h2=> ⟨σ',h1,h2⟩) r k σ' a w hl hs h
def Rh (P:Program) (ops:Array Oper) (Qx:Exit→Act→World→Prop):List Nat→(Act→World→Prop)→Act→World→Prop
 | [],K=> K
 | i::r,K=> fun a w=> wpOp P ops Qx i (Rh P ops Qx r K) a w
theorem Su:∀(l rest:List Nat) (a:Act) (w:World),Rh X.P ops Qx l (wpOps X.P ops Qx rest) a w→wpOps X.P ops Qx (l++rest) a w
 | [],rest,a,w,h=> h
 | i::r,rest,a,w,h=> by
  rw[List.cons_append,wpOps_cons]
  exact wpOp_mono (fun a' w' h'=> Su r rest a' w' h') h
theorem Db {k n:Nat} (h:wpOp X.P ops Qx k (Rh X.P ops Qx (List.range' (k+1) n) K) a w):Rh X.P ops Qx (List.range' k (n+1)) K a w:=h
theorem Cq {k n:Nat} (h:wpOp X.P ops Qx k (fun a' w'=> Fw (fun _=> False) wb.heap.size wb w'∧Rh X.P ops Qx (List.range' (k+1) n) K a' w') a w):Rh X.P ops Qx (List.range' k (n+1)) K a w:=
 wpOp_mono (fun _ _ h=> h.2) h
theorem Tr.pend (hX:X.Ok) {id:Nat} {Q:Exit→AS→Prop} (k:Nat) {m:Nat} {kvs:List (Value×Value)} (hk:k≤ops.size) (hm:m < σ.nt)
  (hA:∀(γ:Nat→Value) (ρ:BI) (a:Act) (w:World) (Qx:Exit→Act→World→Prop) (K:Act→World→Prop),Cu X.D X.S X.N0 X.B ⟨X.w0,γ⟩ ρ σ a w→
   (∀b es hv a' w',(es.map fun e:MapEntry=> (e.key,e.val))=kvs→(m,Value.map (some b))∈hv→Mc X γ σ ρ w hv (some (b,es)) a' w'→K a' w')→Rh X.P ops Qx (List.range' 0 k) K a w)
  (hB:EE X [] ops (ops.toList.drop k) (Q .normal) {σ with tm:=(m,.imap kvs)::σ.tm}):Tr X (.region id ops false) Q σ:=by
 rintro γ a w ⟨ρ,hs⟩
 refine wp_region ?_
 rw[JE ops.size k hk]
 refine Su _ _ a w (hA γ ρ a w _ _ hs fun b es hv a' w' he hmm hmc=> ?_)
 have hst:=AbG hmc hmm hm
 rw[he] at hst
 have hl:(ops.toList.drop k).length=ops.size - k:=by simp
 rw[←hl]
 exact W5 hX (fun j=> by simp) hst hB
end
def XG (qp it:Wd):List (Value×Value):=[(.int .i64 1,.string ⟨⟨[71,69,84,32,47,112,105,110,103]⟩⟩),(.int .i64 2,.string ⟨⟨[80,85,84,32]++qp++[47]++it⟩⟩),(.int .i64 3,.string ⟨⟨[68,69,76,69,84,69,32]++qp⟩⟩),(.int .i64 4,.string ⟨⟨[80,79,83,84,32]++qp⟩⟩),(.int .i64 5,.string ⟨⟨[71,69,84,32]++qp⟩⟩),(.int .i64 6,.string ⟨⟨[71,69,84,32]++qp++[47]++it⟩⟩),(.int .i64 7,.string ⟨⟨[68,69,76,69,84,69,32,47,116,97,103,47]++it⟩⟩),(.int .i64 8,.string ⟨⟨[80,79,83,84,32,47,116,97,103,47]++it⟩⟩),(.int .i64 9,.string ⟨⟨[68,69,76,69,84,69,32]++qp++[47,105,116,101,109,115]⟩⟩)]
theorem WM (k:Int) (q it:Wd) (hk:1≤k∧k≤9):Ey (.int .i64) (.int .i64 k) (.string ⟨#[]⟩) (XG ([47,113,117,101,117,101,47]++q) it)=some (.string ⟨⟨(GJ k q it).1++[32]++(GJ k q it).2⟩⟩):=by
 have:k=1∨k=2∨k=3∨k=4∨k=5∨k=6∨k=7∨k=8∨k=9:=by omega
 rcases this with rfl | rfl | rfl | rfl | rfl | rfl | rfl | rfl | rfl <;> simp[XG,Ey,Instr.sameNow,GJ]
structure Zw (a:AX):Prop where
 k:1≤a.kind∧a.kind≤9
 q:a.queue.size≤1048576
 n: -9223372036854775808≤a.n∧a.n≤9223372036854775807
 o:P7 a.note
def XP:Nat→Lo:=fun id=> match id with | 3=> {hand:=true} | _=> {}
theorem SI (a:AX) (ha:Zw a):A8 Tryz.prog D 82 [askA a] ⟨.sl 1 ((KO a).map Ac),[]⟩:=by
 have hil:=Lib.itoa_length_le a.n ha.n.1 ha.n.2
 have hq:a.queue.data.toList.length≤1048576:=ha.q
 have hpl:(Fg a).1.length≤6∧(Fg a).2.length≤1048616:=by
  unfold Fg GJ
  repeat' split
  all_goals (simp only[List.length_append,List.length_cons,List.length_nil];omega)
 have hfl:(Fe a).length≤16777216:=by
  unfold Fe
  simp only[List.length_append,List.length_cons,List.length_nil]
  omega
 have hok:Cl Tryz.prog D (Ao [AB,CI]):=Ar _
 have g1:=Ag (T:=[AB,CI]) (E:=AB) (i:=0) rfl (by decide) (a.n) (ha.n)
 have g2:=Ag (T:=[AB,CI]) (E:=CI) (i:=1) rfl (by decide) ((Fe a,a.note,false)) (⟨⟨hfl,ha.o⟩,fun h=> by cases h⟩)
 generalize Ao [AB,CI]=G at *
 dsimp only[AB] at g1
 dsimp only[CI] at g2
 have hlk:=WM a.kind a.queue.data.toList (Lib.itoa a.n) ha.k
 have hpe:Fe a=(GJ a.kind a.queue.data.toList (Lib.itoa a.n)).1++[32]++(GJ a.kind a.queue.data.toList (Lib.itoa a.n)).2++[32,72,84,84,80,47,49,46,49]:=rfl
 have hpl':((GJ a.kind a.queue.data.toList (Lib.itoa a.n)).1++[32]++(GJ a.kind a.queue.data.toList (Lib.itoa a.n)).2).length≤1048640:=by
  have h1:(GJ a.kind a.queue.data.toList (Lib.itoa a.n)).1.length≤6:=hpl.1
  have h2:(GJ a.kind a.queue.data.toList (Lib.itoa a.n)).2.length≤1048616:=hpl.2
  simp only[List.length_append,List.length_cons,List.length_nil]
  omega
 unfold KO
 rw[←LM]
 rw[hpe] at g2 ⊢
 clear hpl hfl ha hpe
 obtain ⟨k,q,n,⟨ps,bs⟩⟩:=a
 simp only at hil hq g1 g2 hlk hpl'
 simp only[askA]
 generalize (GJ k q.data.toList (Lib.itoa n)).1++[32]++(GJ k q.data.toList (Lib.itoa n)).2=fw at *
 generalize Lib.itoa n=it at *
 generalize q.data.toList=qs at *
 simp only[An,XL] at g2
 generalize EU _ _=rr at *
 refine Bx (G:=G) (rs:=[(2,none)]) hok Tryz.func82 Tryz.results82 Tryz.ntmps82 (XP) fun X hP hD hG' hX=> ?_
 simp only[AU,Bz]
 simp (disch:=omega) only[go_sem,hD,hG',XP,g1,Aa]
 (repeat (with_reducible refine aI ?_))
 have hu:X.P.underlying 187=some (.map 3 9):=by rw[hP];exact Tryz.underlying187
 have hk:X.P.underlying 3=some (.int .i64):=by rw[hP];exact Tryz.underlying3
 have hql:([47,113,117,101,117,101,47]++qs).length≤1048590:=by simp only[List.length_append,List.length_cons,List.length_nil];omega
 simp only[List.cons_append,List.nil_append] at hql hlk
 generalize hqp:(47::113::117::101::117::101::47::qs:Wd)=qp at *
 refine Tr.pend hX 33 (m:=12) (kvs:=XG qp it) (by decide) (show 12 < 45 by decide) (fun γ ρ a w Qx K hst hK=> ?_) ?_
 ·have v4:a.eval (.tmp 4)=.string ⟨⟨qp⟩⟩:=(hst.ev (.tmp 4)).1.str_
  have v3:a.eval (.tmp 3)=.string ⟨⟨it⟩⟩:=(hst.ev (.tmp 3)).1.str_
  have hm:Mc X γ _ ρ w [(4,.string ⟨⟨qp⟩⟩),(3,.string ⟨⟨it⟩⟩)] none a w:=⟨hst,Vj w,fun p hp=> by
   simp only[List.mem_cons,List.not_mem_nil,or_false] at hp
   rcases hp with rfl | rfl
   ·exact v4
   ·exact v3,fun b es e=> by cases e⟩
  clear v3 v4 hst
  refine Cq (Tb hm rfl (show 12 < 45 by decide) rfl (by simp) fun a w b hm=> ?_)
  refine Cq (DY (k:=.int .i64 1) (v:=.string ⟨⟨[71,69,84,32,47,112,105,110,103]⟩⟩) hm rfl rfl rfl hu hk (by simp) rfl rfl fun a w hm=> ?_)
  refine Cq (EM (s:=4) (v:=.string ⟨⟨qp⟩⟩) hm rfl (by simp) (show 13 < 45 by decide) rfl (by simp) fun a w hm=> ?_)
  refine Db (Eb (u:=[80,85,84,32]) (it:=qp) hm rfl rfl (hm.hv (13,.string ⟨⟨qp⟩⟩) (by simp)) (by simp only[List.length_append,List.length_cons,List.length_nil];omega) (show 14 < 45 by decide) rfl (by simp) fun a w hm=> ?_)
  refine Db (Eb (u:=[80,85,84,32]++qp) (it:=[47]) hm rfl (hm.hv (14,.string ⟨⟨[80,85,84,32]++qp⟩⟩) (by simp)) rfl (by simp only[List.length_append,List.length_cons,List.length_nil];omega) (show 15 < 45 by decide) rfl (by simp) fun a w hm=> ?_)
  refine Cq (EM (s:=3) (v:=.string ⟨⟨it⟩⟩) hm rfl (by simp) (show 16 < 45 by decide) rfl (by simp) fun a w hm=> ?_)
  refine Db (Eb (u:=[80,85,84,32]++qp++[47]) (it:=it) hm rfl (hm.hv (15,.string ⟨⟨[80,85,84,32]++qp++[47]⟩⟩) (by simp)) (hm.hv (16,.string ⟨⟨it⟩⟩) (by simp)) (by simp only[List.length_append,List.length_cons,List.length_nil];omega) (show 17 < 45 by decide) rfl (by simp) fun a w hm=> ?_)
  refine Cq (DY (k:=.int .i64 2) (v:=.string ⟨⟨[80,85,84,32]++qp++[47]++it⟩⟩) hm rfl rfl (hm.hv (17,.string ⟨⟨[80,85,84,32]++qp++[47]++it⟩⟩) (by simp)) hu hk (by simp) rfl rfl fun a w hm=> ?_)
  refine Cq (EM (s:=4) (v:=.string ⟨⟨qp⟩⟩) hm rfl (by simp) (show 18 < 45 by decide) rfl (by simp) fun a w hm=> ?_)
  refine Db (Eb (u:=[68,69,76,69,84,69,32]) (it:=qp) hm rfl rfl (hm.hv (18,.string ⟨⟨qp⟩⟩) (by simp)) (by simp only[List.length_append,List.length_cons,List.length_nil];omega) (show 19 < 45 by decide) rfl (by simp) fun a w hm=> ?_)
  refine Cq (DY (k:=.int .i64 3) (v:=.string ⟨⟨[68,69,76,69,84,69,32]++qp⟩⟩) hm rfl rfl (hm.hv (19,.string ⟨⟨[68,69,76,69,84,69,32]++qp⟩⟩) (by simp)) hu hk (by simp) rfl rfl fun a w hm=> ?_)
  refine Cq (EM (s:=4) (v:=.string ⟨⟨qp⟩⟩) hm rfl (by simp) (show 20 < 45 by decide) rfl (by simp) fun a w hm=> ?_)
  refine Db (Eb (u:=[80,79,83,84,32]) (it:=qp) hm rfl rfl (hm.hv (20,.string ⟨⟨qp⟩⟩) (by simp)) (by simp only[List.length_append,List.length_cons,List.length_nil];omega) (show 21 < 45 by decide) rfl (by simp) fun a w hm=> ?_)
  refine Cq (DY (k:=.int .i64 4) (v:=.string ⟨⟨[80,79,83,84,32]++qp⟩⟩) hm rfl rfl (hm.hv (21,.string ⟨⟨[80,79,83,84,32]++qp⟩⟩) (by simp)) hu hk (by simp) rfl rfl fun a w hm=> ?_)
  refine Cq (EM (s:=4) (v:=.string ⟨⟨qp⟩⟩) hm rfl (by simp) (show 22 < 45 by decide) rfl (by simp) fun a w hm=> ?_)
  refine Db (Eb (u:=[71,69,84,32]) (it:=qp) hm rfl rfl (hm.hv (22,.string ⟨⟨qp⟩⟩) (by simp)) (by simp only[List.length_append,List.length_cons,List.length_nil];omega) (show 23 < 45 by decide) rfl (by simp) fun a w hm=> ?_)
  refine Cq (DY (k:=.int .i64 5) (v:=.string ⟨⟨[71,69,84,32]++qp⟩⟩) hm rfl rfl (hm.hv (23,.string ⟨⟨[71,69,84,32]++qp⟩⟩) (by simp)) hu hk (by simp) rfl rfl fun a w hm=> ?_)
  refine Cq (EM (s:=4) (v:=.string ⟨⟨qp⟩⟩) hm rfl (by simp) (show 24 < 45 by decide) rfl (by simp) fun a w hm=> ?_)
  refine Db (Eb (u:=[71,69,84,32]) (it:=qp) hm rfl rfl (hm.hv (24,.string ⟨⟨qp⟩⟩) (by simp)) (by simp only[List.length_append,List.length_cons,List.length_nil];omega) (show 25 < 45 by decide) rfl (by simp) fun a w hm=> ?_)
  refine Db (Eb (u:=[71,69,84,32]++qp) (it:=[47]) hm rfl (hm.hv (25,.string ⟨⟨[71,69,84,32]++qp⟩⟩) (by simp)) rfl (by simp only[List.length_append,List.length_cons,List.length_nil];omega) (show 26 < 45 by decide) rfl (by simp) fun a w hm=> ?_)
  refine Cq (EM (s:=3) (v:=.string ⟨⟨it⟩⟩) hm rfl (by simp) (show 27 < 45 by decide) rfl (by simp) fun a w hm=> ?_)
  refine Db (Eb (u:=[71,69,84,32]++qp++[47]) (it:=it) hm rfl (hm.hv (26,.string ⟨⟨[71,69,84,32]++qp++[47]⟩⟩) (by simp)) (hm.hv (27,.string ⟨⟨it⟩⟩) (by simp)) (by simp only[List.length_append,List.length_cons,List.length_nil];omega) (show 28 < 45 by decide) rfl (by simp) fun a w hm=> ?_)
  refine Cq (DY (k:=.int .i64 6) (v:=.string ⟨⟨[71,69,84,32]++qp++[47]++it⟩⟩) hm rfl rfl (hm.hv (28,.string ⟨⟨[71,69,84,32]++qp++[47]++it⟩⟩) (by simp)) hu hk (by simp) rfl rfl fun a w hm=> ?_)
  refine Cq (EM (s:=3) (v:=.string ⟨⟨it⟩⟩) hm rfl (by simp) (show 29 < 45 by decide) rfl (by simp) fun a w hm=> ?_)
  refine Db (Eb (u:=[68,69,76,69,84,69,32,47,116,97,103,47]) (it:=it) hm rfl rfl (hm.hv (29,.string ⟨⟨it⟩⟩) (by simp)) (by simp only[List.length_append,List.length_cons,List.length_nil];omega) (show 30 < 45 by decide) rfl (by simp) fun a w hm=> ?_)
  refine Cq (DY (k:=.int .i64 7) (v:=.string ⟨⟨[68,69,76,69,84,69,32,47,116,97,103,47]++it⟩⟩) hm rfl rfl (hm.hv (30,.string ⟨⟨[68,69,76,69,84,69,32,47,116,97,103,47]++it⟩⟩) (by simp)) hu hk (by simp) rfl rfl fun a w hm=> ?_)
  refine Cq (EM (s:=3) (v:=.string ⟨⟨it⟩⟩) hm rfl (by simp) (show 31 < 45 by decide) rfl (by simp) fun a w hm=> ?_)
  refine Db (Eb (u:=[80,79,83,84,32,47,116,97,103,47]) (it:=it) hm rfl rfl (hm.hv (31,.string ⟨⟨it⟩⟩) (by simp)) (by simp only[List.length_append,List.length_cons,List.length_nil];omega) (show 32 < 45 by decide) rfl (by simp) fun a w hm=> ?_)
  refine Cq (DY (k:=.int .i64 8) (v:=.string ⟨⟨[80,79,83,84,32,47,116,97,103,47]++it⟩⟩) hm rfl rfl (hm.hv (32,.string ⟨⟨[80,79,83,84,32,47,116,97,103,47]++it⟩⟩) (by simp)) hu hk (by simp) rfl rfl fun a w hm=> ?_)
  refine Cq (EM (s:=4) (v:=.string ⟨⟨qp⟩⟩) hm rfl (by simp) (show 33 < 45 by decide) rfl (by simp) fun a w hm=> ?_)
  refine Db (Eb (u:=[68,69,76,69,84,69,32]) (it:=qp) hm rfl rfl (hm.hv (33,.string ⟨⟨qp⟩⟩) (by simp)) (by simp only[List.length_append,List.length_cons,List.length_nil];omega) (show 34 < 45 by decide) rfl (by simp) fun a w hm=> ?_)
  refine Db (Eb (u:=[68,69,76,69,84,69,32]++qp) (it:=[47,105,116,101,109,115]) hm rfl (hm.hv (34,.string ⟨⟨[68,69,76,69,84,69,32]++qp⟩⟩) (by simp)) rfl (by simp only[List.length_append,List.length_cons,List.length_nil];omega) (show 35 < 45 by decide) rfl (by simp) fun a w hm=> ?_)
  refine Cq (DY (k:=.int .i64 9) (v:=.string ⟨⟨[68,69,76,69,84,69,32]++qp++[47,105,116,101,109,115]⟩⟩) hm rfl rfl (hm.hv (35,.string ⟨⟨[68,69,76,69,84,69,32]++qp++[47,105,116,101,109,115]⟩⟩) (by simp)) hu hk (by simp) rfl rfl fun a w hm=> ?_)
  exact hK _ _ _ _ _ rfl (by simp) hm
 ·generalize hmp:XG qp it=mp at *
  simp (disch:=omega) only[go_sem,hD,hG',XP,Aa]
  (repeat (with_reducible refine aI ?_))
  refine Gi (dk:=.int .i64) (key:=.int .i64 k) (z:=.string ⟨#[]⟩) (v:=.string ⟨⟨fw⟩⟩) (av:=.str fw) hu hk rfl rfl rfl (by rw[hP];exact V1) (by simp[cst]) hlk (fun _ _ _=> .str _) rfl (by simp) ?_
  simp (disch:=omega) only[go_sem,hD,hG',XP,g2,Aa]
  (repeat (with_reducible refine aI ?_))
  refine Aj [] [] (by simp) rfl rfl rfl ?_ ?_ <;> simp only[go_sem]
def FD:BH Tryz.prog D:=⟨82,AX,fun a=> [askA a],Zw,fun a=> ⟨.sl 1 ((KO a).map Ac),[]⟩,fun x y _ _ h=> by
 simp only[List.cons.injEq,and_true] at h
 rw[Cv h],SI⟩
structure Zy (s:A0):Prop where
 n: -9223372036854775808≤s.n∧s.n≤9223372036854775807
 m: -9223372036854775808≤s.m∧s.m≤9223372036854775807
 e: -9223372036854775808≤s.err∧s.err≤9223372036854775807
 o:s.kind=2→P7 s.note
theorem wn0:P7 Ah:=⟨Nat.zero_le _,Nat.zero_le _,fun p h=> by cases h⟩
def Km (s:A0):Wd:=[72,84,84,80,47,49,46,49,32,50,48,48,32,79,75,13,10,116,97,103,58,32]++Lib.itoa s.n++[13,10,116,114,105,101,115,58,32]++Lib.itoa s.m
def Jn (s:A0):Wd:=[72,84,84,80,47,49,46,49,32,52,48,48,32,87,114,111,110,103,13,10,101,114,114,111,114,58,32]++Lib.itoa s.err
theorem Aa1 (s:A0):Kd s=if s.kind=2 then EU (Km s) s.note else if s.kind=3 then EU EB Ah else if s.kind=4 then EU (Jn s) Ah else EU KK Ah:=by
 have e2:Km s=Lib.join [KK,EH++Lib.itoa s.n,BO++Lib.itoa s.m] [13,10]:=by
  rw[G6]
  simp[Km,HU,KK,EH,BO]
 have e4:Jn s=Lib.join [DE,BL++Lib.itoa s.err] [13,10]:=by
  rw[G6]
  simp[Jn,HU,DE,BL]
 unfold Kd
 rw[e2,e4,KD,KD,LM,LM]
theorem SR (s:A0) (hs:Zy s):A8 Tryz.prog D 85 [sayA s] ⟨.sl 1 ((Kd s).map Ac),[]⟩:=by
 have hi1:=Lib.itoa_length_le s.n hs.n.1 hs.n.2
 have hi2:=Lib.itoa_length_le s.m hs.m.1 hs.m.2
 have hi3:=Lib.itoa_length_le s.err hs.e.1 hs.e.2
 have hf2:(Km s).length≤16777216:=by unfold Km;simp only[List.length_append,List.length_cons,List.length_nil];omega
 have hf4:(Jn s).length≤16777216:=by unfold Jn;simp only[List.length_append,List.length_cons,List.length_nil];omega
 have hok:Cl Tryz.prog D (Ao [AB,CI]):=Ar _
 have g1:=Ag (T:=[AB,CI]) (E:=AB) (i:=0) rfl (by decide) (s.n) (hs.n)
 have g2:=Ag (T:=[AB,CI]) (E:=AB) (i:=0) rfl (by decide) (s.m) (hs.m)
 have g3:=Ag (T:=[AB,CI]) (E:=AB) (i:=0) rfl (by decide) (s.err) (hs.e)
 have g4:=fun (h:s.kind=2)=> Ag (T:=[AB,CI]) (E:=CI) (i:=1) rfl (by decide) ((Km s,s.note,false)) (⟨⟨hf2,hs.o h⟩,fun h=> (by cases h)⟩)
 have g5:=Ag (T:=[AB,CI]) (E:=CI) (i:=1) rfl (by decide) ((Jn s,Ah,true)) (⟨⟨hf4,wn0⟩,fun _=> rfl⟩)
 have g6:=Ag (T:=[AB,CI]) (E:=CI) (i:=1) rfl (by decide) ((EB,Ah,true)) (⟨⟨by decide,wn0⟩,fun _=> rfl⟩)
 have g7:=Ag (T:=[AB,CI]) (E:=CI) (i:=1) rfl (by decide) ((KK,Ah,true)) (⟨⟨by decide,wn0⟩,fun _=> rfl⟩)
 generalize Ao [AB,CI]=G at *
 dsimp only[AB] at g1
 dsimp only[AB] at g2
 dsimp only[AB] at g3
 dsimp only[CI] at g4
 dsimp only[CI] at g5
 dsimp only[CI] at g6
 dsimp only[CI] at g7
 rw[Aa1]
 clear hf2 hf4 hs
 obtain ⟨k,n,m,e,⟨ps,bs⟩⟩:=s
 generalize EU _ ⟨ps,bs⟩=r4 at *
 generalize EU (Jn _) _=r5 at *
 generalize EU EB _=r6 at *
 generalize EU KK _=r7 at *
 simp only[Km,Jn,EB,KK,XL,An,List.cons_append,List.nil_append] at g1 g2 g3 g4 g5 g6 g7 hi1 hi2 hi3
 simp only[sayA]
 generalize Lib.itoa n=it at *
 generalize Lib.itoa m=jt at *
 generalize Lib.itoa e=et at *
 refine Bx (G:=G) (rs:=[(2,none)]) hok Tryz.func85 Tryz.results85 Tryz.ntmps85 (fun _=> {}) fun X hP hD hG' hX=> ?_
 simp only[AU,Bz]
 by_cases h2:k=2
 ·have e2:(k==2)=true:=by simp[h2]
  have g4:=g4 h2
  rw[if_pos h2]
  simp (disch:=omega) only[go_sem,hD,hG',e2,g1,g2,g4,Aa]
  (repeat (with_reducible refine aI ?_))
  refine Aj [] [] (by simp) rfl rfl rfl ?_ ?_ <;> simp only[go_sem]
 have e2:(k==2)=false:=by simp[h2]
 rw[if_neg h2]
 by_cases h3:k=3
 ·have e3:(k==3)=true:=by simp[h3]
  rw[if_pos h3]
  simp (disch:=omega) only[go_sem,hD,hG',e2,e3,g6,Aa]
  (repeat (with_reducible refine aI ?_))
  refine Aj [] [] (by simp) rfl rfl rfl ?_ ?_ <;> simp only[go_sem]
 have e3:(k==3)=false:=by simp[h3]
 rw[if_neg h3]
 by_cases h4:k=4
 ·have e4:(k==4)=true:=by simp[h4]
  rw[if_pos h4]
  simp (disch:=omega) only[go_sem,hD,hG',e2,e3,e4,g3,g5,Aa]
  (repeat (with_reducible refine aI ?_))
  refine Aj [] [] (by simp) rfl rfl rfl ?_ ?_ <;> simp only[go_sem]
 have e4:(k==4)=false:=by simp[h4]
 rw[if_neg h4]
 simp (disch:=omega) only[go_sem,hD,hG',e2,e3,e4,g7,Aa]
 (repeat (with_reducible refine aI ?_))
 refine Aj [] [] (by simp) rfl rfl rfl ?_ ?_ <;> simp only[go_sem]
def FJ:BH Tryz.prog D:=⟨85,A0,fun s=> [sayA s],Zy,fun s=> ⟨.sl 1 ((Kd s).map Ac),[]⟩,fun x y _ _ h=> by
 simp only[List.cons.injEq,and_true] at h
 rw[CJ h],SR⟩
def VF (m p:Wd):AX:=if (Bl m p).2=true then (Bl m p).1 else At
def Hh:Nat→Lo:=fun id=> match id with | 8=> {hand:=true} | 12=> {hand:=true} | 18=> {hand:=true} | _=> {}
theorem We (m p:Wd) (h:Abe m p):A8 Tryz.prog D 150 [.str m,.str p] ⟨askA (VF m p),[]⟩:=by
 have hok:Cl Tryz.prog D (Ao [Bm,AH]):=Ar _
 have g1:=Ag (T:=[Bm,AH]) (E:=Bm) (i:=0) rfl (by decide) ((p,[47])) (⟨by have:=h.p;show p.length≤16777216;omega,by show 1≤([47]:Wd).length;decide,by show ([47]:Wd).length≤256;decide⟩)
 have g2:=fun (w:Wd) (h:w.length≤1000)=> Ag (T:=[Bm,AH]) (E:=AH) (i:=1) rfl (by decide) (w) (by show w.length≤281474976710656;omega)
 generalize Ao [Bm,AH]=G at *
 dsimp only[Bm] at g1
 dsimp only[AH] at g2
 have hsp:=Q9 p [47] (by decide) h.p
 clear h
 have z0:(0:Int).toNat=0:=rfl
 have z1:(1:Int).toNat=1:=rfl
 have z2:(2:Int).toNat=2:=rfl
 have z3:(3:Int).toNat=3:=rfl
 have n1:((1:Nat):Int)=1:=rfl
 have n2:((2:Nat):Int)=2:=rfl
 have n3:((3:Nat):Int)=3:=rfl
 have n4:((4:Nat):Int)=4:=rfl
 have i3:(3:Int) - 1=2:=rfl
 have i4:(4:Int) - 1=3:=rfl
 have hcon:∀r,r=VF m p→A8 Tryz.prog D 150 [.str m,.str p] ⟨askA r,[]⟩:=by
  intro r hr
  unfold VF Bl at hr
  refine Bx (G:=G) (rs:=[(4,some 48)]) hok Tryz.func150 Tryz.results150 Tryz.ntmps150 (Hh) fun X hP hD hG' hX=> ?_
  have hu:X.P.underlying 255=some (.map 9 3):=by rw[hP];exact Tryz.underlying255
  have hku:X.P.underlying 9=some .string:=by rw[hP];exact Tryz.underlying9
  simp only[AU,Bz]
  by_cases hping:m=Qq∧p=QX
  ·rw[if_pos hping] at hr
   simp at hr
   obtain ⟨rfl,rfl⟩:=hping
   simp only[Qq,QX]
   iterate 7 ((try (refine Au.mk [] ?_));(try (simp (disch:=omega) only[go_sem,hD,hG',Hh,Ae,z0,z1,z2,z3,n1,n2,n3,n4,i3,i4,Int.reduceBEq,Int.reduceBNe,Int.reduceGT,Int.reduceSub,Aa]));(repeat (with_reducible refine aI ?_)))
   refine Aj [] [] (by simp) rfl rfl rfl ?_ ?_ <;> simp only[go_sem]
   simp[hr,askA,At,Ah,bA,Aw,cov,Az,Ad,Af]
  rw[if_neg hping] at hr
  have hpp:(if (m==[71,69,84])=true then (p==[47,112,105,110,103]) else false)=false:=by
   split
   ·rename_i h1
    rw[beq_eq_false_iff_ne]
    exact fun h2=> hping ⟨eq_of_beq h1,h2⟩
   ·rfl
  clear hping
  generalize Lib.split p [47]=l at *
  obtain ⟨hne,HL⟩:=hsp
  cases l with
  | nil=> exact absurd rfl hne
  | cons a l=>
  cases l with
  | nil=>
   simp[B2] at hr
   iterate 7 ((try (refine Au.mk [] ?_));(try (simp (disch:=omega) only[go_sem,hD,hG',Hh,Ae,z0,z1,z2,z3,n1,n2,n3,n4,i3,i4,Int.reduceBEq,Int.reduceBNe,Int.reduceGT,Int.reduceSub,hpp,g1,Aa]));(repeat (with_reducible refine aI ?_)))
   refine Aj [] [] (by simp) rfl rfl rfl ?_ ?_ <;> simp only[go_sem]
   simp[hr,askA,At,Ah,bA,Aw,cov,Az,Ad,Af]
  | cons b l=>
  cases l with
  | nil=>
   simp[B2] at hr
   iterate 7 ((try (refine Au.mk [] ?_));(try (simp (disch:=omega) only[go_sem,hD,hG',Hh,Ae,z0,z1,z2,z3,n1,n2,n3,n4,i3,i4,Int.reduceBEq,Int.reduceBNe,Int.reduceGT,Int.reduceSub,hpp,g1,Aa]));(repeat (with_reducible refine aI ?_)))
   refine Aj [] [] (by simp) rfl rfl rfl ?_ ?_ <;> simp only[go_sem]
   simp[hr,askA,At,Ah,bA,Aw,cov,Az,Ad,Af]
  | cons c l=>
  have gc:=g2 c HL.tail.tail.head
  cases l with
  | nil=>
   by_cases ha:a=[]
   ·subst ha
    by_cases hq:b=Gx
    ·have bq:(b==[113,117,101,117,101])=true:=by simp[hq,Gx]
     have hr:r=if decide (0 < GF m)=true then ⟨GF m,bA c,0,Ah⟩ else At:=by rw[hr];simp[B2,hq]
     generalize Ak c=nc at *
     obtain ⟨nn,nb⟩:=nc
     simp only at gc
     iterate 7 ((try (refine Au.mk [] ?_));(try (simp (disch:=omega) only[go_sem,hD,hG',Hh,Ae,z0,z1,z2,z3,n1,n2,n3,n4,i3,i4,Int.reduceBEq,Int.reduceBNe,Int.reduceGT,Int.reduceSub,hpp,g1,gc,bq,Aa]));(repeat (with_reducible refine aI ?_)))
     refine Tr.lit hX 0 (d:=55) PU hu hku (by decide) ⟨_,rfl,rfl,rfl,rfl⟩ (by decide) ?_ ?_ ?_
     ·unfold PU DW
      repeat (first | exact trivial | refine ⟨⟨_,rfl,_,_,rfl,rfl,rfl,fun _=> rfl,fun _=> rfl⟩,?_⟩ | unfold DW)
     ·unfold PU DV
      repeat (first | exact trivial | refine ⟨trivial,rfl,?_⟩ | unfold DV)
     have hlen:PU.length=3:=rfl
     have hlook:=R0 m
     generalize hnm:PU=nm at hlen hlook ⊢
     simp (disch:=omega) only[go_sem,hD,hG',Hh,Ae,z0,z1,z2,z3,n1,n2,n3,n4,i3,i4,Int.reduceBEq,Int.reduceBNe,Int.reduceGT,Int.reduceSub,hlen,Aa]
     refine Gi (dk:=.string) (key:=sv m) (z:=.int .i64 0) (v:=.int .i64 (GF m)) (av:=.int .i64 (GF m)) hu hku rfl rfl trivial (by rw[hP];exact A4) (by simp[cst,sv]) hlook (fun _ _ _=> .int _ _) rfl (by simp) ?_
     have hdk:decide (GF m > 0)=decide (0 < GF m):=rfl
     generalize GF m=kk at *
     by_cases hk:0 < kk
     ·have dk:decide (0 < kk)=true:=by simp[hk]
      simp only[dk,if_true] at hr
      iterate 7 ((try (refine Au.mk [] ?_));(try (simp (disch:=omega) only[go_sem,hD,hG',Hh,Ae,z0,z1,z2,z3,n1,n2,n3,n4,i3,i4,Int.reduceBEq,Int.reduceBNe,Int.reduceGT,Int.reduceSub,hpp,g1,gc,bq,hlen,hdk,dk,Aa]));(repeat (with_reducible refine aI ?_)))
      refine Aj [] [] (by simp) rfl rfl rfl ?_ ?_ <;> simp only[go_sem]
      simp[hr,askA,At,Ah,bA,Aw,cov,Az,Ad,Af]
     ·have dk:decide (0 < kk)=false:=by simp[hk]
      simp only[dk,Bool.false_eq_true,if_false] at hr
      iterate 7 ((try (refine Au.mk [] ?_));(try (simp (disch:=omega) only[go_sem,hD,hG',Hh,Ae,z0,z1,z2,z3,n1,n2,n3,n4,i3,i4,Int.reduceBEq,Int.reduceBNe,Int.reduceGT,Int.reduceSub,hpp,g1,gc,bq,hlen,hdk,dk,Aa]));(repeat (with_reducible refine aI ?_)))
      refine Aj [] [] (by simp) rfl rfl rfl ?_ ?_ <;> simp only[go_sem]
      simp[hr,askA,At,Ah,bA,Aw,cov,Az,Ad,Af]
    have bq:(b==[113,117,101,117,101])=false:=by rw[beq_eq_false_iff_ne];exact hq
    by_cases ht:b=Tl∧(Ak c).2=true
    ·have bt:(b==[116,97,103])=true:=by simp[ht.1,Tl]
     have hr:r=if decide (0 < GG m)=true then ⟨GG m,⟨#[]⟩,(Ak c).1,Ah⟩ else At:=by rw[hr];simp[B2,ht.1,ht.2,Tl,Gx]
     have hnt:=ht.2
     generalize Ak c=nc at *
     obtain ⟨nn,nb⟩:=nc
     simp only at gc hnt
     subst hnt
     iterate 7 ((try (refine Au.mk [] ?_));(try (simp (disch:=omega) only[go_sem,hD,hG',Hh,Ae,z0,z1,z2,z3,n1,n2,n3,n4,i3,i4,Int.reduceBEq,Int.reduceBNe,Int.reduceGT,Int.reduceSub,hpp,g1,gc,bq,bt,Aa]));(repeat (with_reducible refine aI ?_)))
     refine Tr.lit hX 0 (d:=79) PS hu hku (by decide) ⟨_,rfl,rfl,rfl,rfl⟩ (by decide) ?_ ?_ ?_
     ·unfold PS DW
      repeat (first | exact trivial | refine ⟨⟨_,rfl,_,_,rfl,rfl,rfl,fun _=> rfl,fun _=> rfl⟩,?_⟩ | unfold DW)
     ·unfold PS DV
      repeat (first | exact trivial | refine ⟨trivial,rfl,?_⟩ | unfold DV)
     have hlen:PS.length=2:=rfl
     have hlook:=RY m
     generalize hnm:PS=nm at hlen hlook ⊢
     simp (disch:=omega) only[go_sem,hD,hG',Hh,Ae,z0,z1,z2,z3,n1,n2,n3,n4,i3,i4,Int.reduceBEq,Int.reduceBNe,Int.reduceGT,Int.reduceSub,hlen,Aa]
     refine Gi (dk:=.string) (key:=sv m) (z:=.int .i64 0) (v:=.int .i64 (GG m)) (av:=.int .i64 (GG m)) hu hku rfl rfl trivial (by rw[hP];exact A4) (by simp[cst,sv]) hlook (fun _ _ _=> .int _ _) rfl (by simp) ?_
     have hdk:decide (GG m > 0)=decide (0 < GG m):=rfl
     generalize GG m=kk at *
     by_cases hk:0 < kk
     ·have dk:decide (0 < kk)=true:=by simp[hk]
      simp only[dk,if_true] at hr
      iterate 7 ((try (refine Au.mk [] ?_));(try (simp (disch:=omega) only[go_sem,hD,hG',Hh,Ae,z0,z1,z2,z3,n1,n2,n3,n4,i3,i4,Int.reduceBEq,Int.reduceBNe,Int.reduceGT,Int.reduceSub,hpp,g1,gc,bq,bt,hlen,hdk,dk,Aa]));(repeat (with_reducible refine aI ?_)))
      refine Aj [] [] (by simp) rfl rfl rfl ?_ ?_ <;> simp only[go_sem]
      simp[hr,askA,At,Ah,bA,Aw,cov,Az,Ad,Af]
     ·have dk:decide (0 < kk)=false:=by simp[hk]
      simp only[dk,Bool.false_eq_true,if_false] at hr
      iterate 7 ((try (refine Au.mk [] ?_));(try (simp (disch:=omega) only[go_sem,hD,hG',Hh,Ae,z0,z1,z2,z3,n1,n2,n3,n4,i3,i4,Int.reduceBEq,Int.reduceBNe,Int.reduceGT,Int.reduceSub,hpp,g1,gc,bq,bt,hlen,hdk,dk,Aa]));(repeat (with_reducible refine aI ?_)))
      refine Aj [] [] (by simp) rfl rfl rfl ?_ ?_ <;> simp only[go_sem]
      simp[hr,askA,At,Ah,bA,Aw,cov,Az,Ad,Af]
    have hr:r=At:=by rw[hr];simp[B2,hq,ht]
    have btn:(if (b==[116,97,103])=true then (Ak c).2 else false)=false:=by
     split
     ·rename_i h1
      have h2:b=Tl:=eq_of_beq h1
      simpa[h2] using ht
     ·rfl
    generalize Ak c=nc at *
    obtain ⟨nn,nb⟩:=nc
    simp only at gc btn
    iterate 7 ((try (refine Au.mk [(13,true)] ?_));(try (simp (disch:=omega) only[go_sem,hD,hG',Hh,Ae,z0,z1,z2,z3,n1,n2,n3,n4,i3,i4,Int.reduceBEq,Int.reduceBNe,Int.reduceGT,Int.reduceSub,hpp,g1,gc,bq,btn,Aa]));(repeat (with_reducible refine aI ?_)))
    refine Aj [] [] (by simp) rfl rfl rfl ?_ ?_ <;> simp only[go_sem]
    simp[hr,askA,At,Ah,bA,Aw,cov,Az,Ad,Af]
   ·have aa:(!(a==[]))=true:=by simp[ha]
    have hr:r=At:=by rw[hr];simp[B2,ha]
    iterate 7 ((try (refine Au.mk [] ?_));(try (simp (disch:=omega) only[go_sem,hD,hG',Hh,Ae,z0,z1,z2,z3,n1,n2,n3,n4,i3,i4,Int.reduceBEq,Int.reduceBNe,Int.reduceGT,Int.reduceSub,hpp,g1,aa,Aa]));(repeat (with_reducible refine aI ?_)))
    refine Aj [] [] (by simp) rfl rfl rfl ?_ ?_ <;> simp only[go_sem]
    simp[hr,askA,At,Ah,bA,Aw,cov,Az,Ad,Af]
  | cons d l=>
  have gd:=g2 d HL.tail.tail.tail.head
  cases l with
  | nil=>
   by_cases ha:a=[]
   ·subst ha
    by_cases hq:b=Gx
    ·have bq:(b==[113,117,101,117,101])=true:=by simp[hq,Gx]
     by_cases hi:m=Qj∧d=QD
     ·have hr:r=⟨9,bA c,0,Ah⟩:=by rw[hr];simp[B2,hq,hi.1,hi.2]
      have bm:(m==[68,69,76,69,84,69])=true:=by simp[hi.1,Qj]
      have bd:(d==[105,116,101,109,115])=true:=by simp[hi.2,QD]
      generalize Ak d=nc at *
      obtain ⟨nn,nb⟩:=nc
      simp only at gd
      iterate 7 ((try (refine Au.mk [] ?_));(try (simp (disch:=omega) only[go_sem,hD,hG',Hh,Ae,z0,z1,z2,z3,n1,n2,n3,n4,i3,i4,Int.reduceBEq,Int.reduceBNe,Int.reduceGT,Int.reduceSub,hpp,g1,gd,bq,bm,bd,Aa]));(repeat (with_reducible refine aI ?_)))
      refine Aj [] [] (by simp) rfl rfl rfl ?_ ?_ <;> simp only[go_sem]
      simp[hr,askA,At,Ah,bA,Aw,cov,Az,Ad,Af]
     have bi:(if (m==[68,69,76,69,84,69])=true then (d==[105,116,101,109,115]) else false)=false:=by
      split
      ·rename_i h1
       rw[beq_eq_false_iff_ne]
       exact fun h2=> hi ⟨eq_of_beq h1,h2⟩
      ·rfl
     by_cases hn:(Ak d).2=true
     ·have hr:r=if decide (0 < GE m)=true then ⟨GE m,bA c,(Ak d).1,Ah⟩ else At:=by rw[hr];simp[B2,hq,hi,hn]
      generalize Ak d=nc at *
      obtain ⟨nn,nb⟩:=nc
      simp only at gd hn
      subst hn
      iterate 7 ((try (refine Au.mk [] ?_));(try (simp (disch:=omega) only[go_sem,hD,hG',Hh,Ae,z0,z1,z2,z3,n1,n2,n3,n4,i3,i4,Int.reduceBEq,Int.reduceBNe,Int.reduceGT,Int.reduceSub,hpp,g1,gd,bq,bi,Aa]));(repeat (with_reducible refine aI ?_)))
      refine Tr.lit hX 0 (d:=125) PT hu hku (by decide) ⟨_,rfl,rfl,rfl,rfl⟩ (by decide) ?_ ?_ ?_
      ·unfold PT DW
       repeat (first | exact trivial | refine ⟨⟨_,rfl,_,_,rfl,rfl,rfl,fun _=> rfl,fun _=> rfl⟩,?_⟩ | unfold DW)
      ·unfold PT DV
       repeat (first | exact trivial | refine ⟨trivial,rfl,?_⟩ | unfold DV)
      have hlen:PT.length=2:=rfl
      have hlook:=RZ m
      generalize hnm:PT=nm at hlen hlook ⊢
      simp (disch:=omega) only[go_sem,hD,hG',Hh,Ae,z0,z1,z2,z3,n1,n2,n3,n4,i3,i4,Int.reduceBEq,Int.reduceBNe,Int.reduceGT,Int.reduceSub,hlen,Aa]
      refine Gi (dk:=.string) (key:=sv m) (z:=.int .i64 0) (v:=.int .i64 (GE m)) (av:=.int .i64 (GE m)) hu hku rfl rfl trivial (by rw[hP];exact A4) (by simp[cst,sv]) hlook (fun _ _ _=> .int _ _) rfl (by simp) ?_
      have hdk:decide (GE m > 0)=decide (0 < GE m):=rfl
      generalize GE m=kk at *
      by_cases hk:0 < kk
      ·have dk:decide (0 < kk)=true:=by simp[hk]
       simp only[dk,if_true] at hr
       iterate 7 ((try (refine Au.mk [] ?_));(try (simp (disch:=omega) only[go_sem,hD,hG',Hh,Ae,z0,z1,z2,z3,n1,n2,n3,n4,i3,i4,Int.reduceBEq,Int.reduceBNe,Int.reduceGT,Int.reduceSub,hpp,g1,gd,bq,bi,hlen,hdk,dk,Aa]));(repeat (with_reducible refine aI ?_)))
       refine Aj [] [] (by simp) rfl rfl rfl ?_ ?_ <;> simp only[go_sem]
       simp[hr,askA,At,Ah,bA,Aw,cov,Az,Ad,Af]
      ·have dk:decide (0 < kk)=false:=by simp[hk]
       simp only[dk,Bool.false_eq_true,if_false] at hr
       iterate 7 ((try (refine Au.mk [] ?_));(try (simp (disch:=omega) only[go_sem,hD,hG',Hh,Ae,z0,z1,z2,z3,n1,n2,n3,n4,i3,i4,Int.reduceBEq,Int.reduceBNe,Int.reduceGT,Int.reduceSub,hpp,g1,gd,bq,bi,hlen,hdk,dk,Aa]));(repeat (with_reducible refine aI ?_)))
       refine Aj [] [] (by simp) rfl rfl rfl ?_ ?_ <;> simp only[go_sem]
       simp[hr,askA,At,Ah,bA,Aw,cov,Az,Ad,Af]
     have hr:r=At:=by rw[hr];simp[B2,hq,hi,hn]
     have hn:(Ak d).2=false:=by simpa using hn
     generalize Ak d=nc at *
     obtain ⟨nn,nb⟩:=nc
     simp only at gd hn
     subst hn
     iterate 7 ((try (refine Au.mk [] ?_));(try (simp (disch:=omega) only[go_sem,hD,hG',Hh,Ae,z0,z1,z2,z3,n1,n2,n3,n4,i3,i4,Int.reduceBEq,Int.reduceBNe,Int.reduceGT,Int.reduceSub,hpp,g1,gd,bq,bi,Aa]));(repeat (with_reducible refine aI ?_)))
     refine Aj [] [] (by simp) rfl rfl rfl ?_ ?_ <;> simp only[go_sem]
     simp[hr,askA,At,Ah,bA,Aw,cov,Az,Ad,Af]
    have bq:(b==[113,117,101,117,101])=false:=by rw[beq_eq_false_iff_ne];exact hq
    have hr:r=At:=by rw[hr];simp[B2,hq]
    generalize Ak d=nc at *
    obtain ⟨nn,nb⟩:=nc
    simp only at gd
    iterate 7 ((try (refine Au.mk [] ?_));(try (simp (disch:=omega) only[go_sem,hD,hG',Hh,Ae,z0,z1,z2,z3,n1,n2,n3,n4,i3,i4,Int.reduceBEq,Int.reduceBNe,Int.reduceGT,Int.reduceSub,hpp,g1,gd,bq,Aa]));(repeat (with_reducible refine aI ?_)))
    refine Aj [] [] (by simp) rfl rfl rfl ?_ ?_ <;> simp only[go_sem]
    simp[hr,askA,At,Ah,bA,Aw,cov,Az,Ad,Af]
   ·have aa:(!(a==[]))=true:=by simp[ha]
    have hr:r=At:=by rw[hr];simp[B2,ha]
    iterate 7 ((try (refine Au.mk [] ?_));(try (simp (disch:=omega) only[go_sem,hD,hG',Hh,Ae,z0,z1,z2,z3,n1,n2,n3,n4,i3,i4,Int.reduceBEq,Int.reduceBNe,Int.reduceGT,Int.reduceSub,hpp,g1,aa,Aa]));(repeat (with_reducible refine aI ?_)))
    refine Aj [] [] (by simp) rfl rfl rfl ?_ ?_ <;> simp only[go_sem]
    simp[hr,askA,At,Ah,bA,Aw,cov,Az,Ad,Af]
  | cons e l=>
  have hr:r=At:=by rw[hr];simp[B2]
  have l5:decide ((((l.length+1+1+1+1+1:Nat)):Int) < 3)=false:=by simp;omega
  have l6:decide ((((l.length+1+1+1+1+1:Nat)):Int) > 4)=true:=by simp;omega
  iterate 7 ((try (refine Au.mk [] ?_));(try (simp (disch:=omega) only[go_sem,hD,hG',Hh,Ae,z0,z1,z2,z3,n1,n2,n3,n4,i3,i4,Int.reduceBEq,Int.reduceBNe,Int.reduceGT,Int.reduceSub,hpp,g1,l5,l6,Aa]));(repeat (with_reducible refine aI ?_)))
  refine Aj [] [] (by simp) rfl rfl rfl ?_ ?_ <;> simp only[go_sem]
  simp[hr,askA,At,Ah,bA,Aw,cov,Az,Ad,Af]
 exact hcon _ rfl
def GM:BH Tryz.prog D:=⟨150,Wd×Wd,fun x=> [.str x.1,.str x.2],fun x=> Abe x.1 x.2,fun x=> ⟨askA (VF x.1 x.2),[]⟩,fun x y _ _ h=> by
 obtain ⟨a,b⟩:=x
 obtain ⟨a',b'⟩:=y
 simp only[List.cons.injEq,AV.str.injEq,and_true] at h
 rw[h.1,h.2],fun x h=> We x.1 x.2 h⟩
def Kv (n:Int):List AV:=[.int .i64 n]
def Zr:List Int→List Wd→List Wd→List Int×Bool
 | acc,h::hs,w::ws=> if (BD w h).2=true then Zr (acc++[(BD w h).1]) hs ws else ([],false)
 | acc,_,_=> (acc,true)
def DI (hs ws:List Wd):List Int×Bool:=if hs.length=ws.length then Zr [] hs ws else ([],false)
theorem UX (hs ws:List Wd) (h1:hs.length≤1000∧∀w∈hs,w.length≤1000) (h2:ws.length≤1000∧∀w∈ws,w.length≤1000):A8 Tryz.prog D 153 [.sl 1 (hs.map Ae),.sl 1 (ws.map Ae)] ⟨.tup [.sl 1 ((DI hs ws).1.map Kv),.bool (DI hs ws).2],[]⟩:=by
 have hok:Cl Tryz.prog D (Ao [AH]):=Ar _
 have g1:=fun (w:Wd) (h:w.length≤1000)=> Ag (T:=[AH]) (E:=AH) (i:=0) rfl (by decide) (w) (by show w.length≤281474976710656;omega)
 generalize Ao [AH]=G at *
 dsimp only[AH] at g1
 have hcon:∀r,r=DI hs ws→A8 Tryz.prog D 153 [.sl 1 (hs.map Ae),.sl 1 (ws.map Ae)] ⟨.tup [.sl 1 (r.1.map Kv),.bool r.2],[]⟩:=by
  intro r hr
  unfold DI at hr
  refine Bx (G:=G) (rs:=[(4,none),(5,none)]) hok Tryz.func153 Tryz.results153 Tryz.ntmps153 (fun _=> {}) fun X hP hD hG' hX=> ?_
  simp only[AU,Bz]
  by_cases hl:hs.length=ws.length
  ·rw[if_pos hl] at hr
   have dl:((hs.length:Int) !=(ws.length:Int))=false:=by simp[hl]
   simp (disch:=omega) only[go_sem,hD,hG',dl,Aa]
   refine Tr.loop (ι:=Nat×List Int) (fun x=> x.1≤hs.length∧x.2.length≤x.1∧r=Zr x.2 (hs.drop x.1) (ws.drop x.1)) (fun x=> {nt:=64,tm:=[(0,.sl 1 (hs.map Ae)),(1,.sl 1 (ws.map Ae)),(6,.os 5000),(16,.sl 1 (hs.map Ae)),(17,.int .i64 hs.length),(18,.int .i64 x.1)],bl:=[(5000,some (.rows 3 1 (x.2.map Kv)))]}) (fun x=> hs.length - x.1) (0,[])
    ⟨⟨Nat.zero_le _,by simp,by simpa using hr⟩,AG hD [] rfl rfl (by simp only[go_sem];simp) (by simp only[go_sem])⟩ ?_
   rintro ⟨i,acc⟩ ⟨hi,hal,hinv⟩
   simp only at hi hal hinv
   refine Al hX (fun _=> {}) _ _ _ ?_
   simp (disch:=omega) only[go_sem,hD,hG',Aa]
   refine Ai (fun h=> ?_) (fun h=> ?_)
   ·rw[decide_eq_true_eq] at h
    have hi1:i < hs.length:=by omega
    have hi2:i < ws.length:=by omega
    have hgx:=Hi hi1
    have hgy:=Hi hi2
    have hd1:hs.drop i=hs.getD i []::hs.drop (i+1):=by
     rw[List.drop_eq_getElem_cons hi1]
     simp[hi1]
    have hd2:ws.drop i=ws.getD i []::ws.drop (i+1):=by
     rw[List.drop_eq_getElem_cons hi2]
     simp[hi2]
    have hx1:=h1.2 _ (Dr (d:=[]) hi1)
    have hx2:=h2.2 _ (Dr (d:=[]) hi2)
    rw[hd1,hd2,Zr] at hinv
    generalize hs.getD i []=x at *
    generalize ws.getD i []=y at *
    have hot:=Lib.hasPrefix_of_take x y
    have htd:Lib.hasPrefix x y=true→Lib.trimPrefix x y=x.drop y.length:=fun h=> by
     unfold Lib.trimPrefix
     rw[if_pos h]
    have hdl:(y.length:Int).toNat=y.length:=Int.toNat_natCast _
    have g1:=g1 (x.drop y.length) (by rw[List.length_drop];omega)
    simp only[Ae] at hgx hgy
    unfold BD at hinv
    by_cases hc:x.length < y.length
    ·have dc:decide ((x.length:Int) < (y.length:Int))=true:=by simp;omega
     rw[decide_eq_false (by omega),Bool.false_and] at hot
     rw[←hot] at hinv
     simp only[Bool.false_and,Bool.false_eq_true,if_false] at hinv
     simp (disch:=omega) only[go_sem,hD,hG',hgx,hgy,dc,Aa]
     (repeat (with_reducible refine aI ?_))
     refine CP.mk [(8,false)] (by decide) ?_
     simp (disch:=omega) only[go_sem,hD,hG',hgx,hgy,dc,Aa]
     (repeat (with_reducible refine aI ?_))
     refine Aj [] [] (by simp) rfl rfl rfl ?_ ?_ <;> simp only[go_sem]
     simp[hinv]
    have dc:decide ((x.length:Int) < (y.length:Int))=false:=by simp;omega
    rw[decide_eq_true (by omega),Bool.true_and] at hot
    cases hp:Lib.hasPrefix x y
    ·rw[hp] at hot hinv
     simp only[Bool.false_and,Bool.false_eq_true,if_false] at hinv
     simp (disch:=omega) only[go_sem,hD,hG',hgx,hgy,dc,Aa]
     (repeat (with_reducible refine aI ?_))
     refine CP.mk [] (by decide) ?_
     simp (disch:=omega) only[go_sem,hD,hG',hgx,hgy,dc,hdl,hot,Aa]
     (repeat (with_reducible refine aI ?_))
     refine Aj [] [] (by simp) rfl rfl rfl ?_ ?_ <;> simp only[go_sem]
     simp[hinv]
    ·rw[hp,htd hp] at hinv
     rw[hp] at hot
     generalize Ak (x.drop y.length)=nx at *
     obtain ⟨nn,nb⟩:=nx
     simp only[Bool.true_and] at g1 hinv
     cases nb
     ·simp only[Bool.false_eq_true,if_false] at hinv
      simp (disch:=omega) only[go_sem,hD,hG',hgx,hgy,dc,Aa]
      (repeat (with_reducible refine aI ?_))
      refine CP.mk [] (by decide) ?_
      simp (disch:=omega) only[go_sem,hD,hG',hgx,hgy,dc,hdl,hot,List.take_length,g1,Aa]
      (repeat (with_reducible refine aI ?_))
      refine Aj [] [] (by simp) rfl rfl rfl ?_ ?_ <;> simp only[go_sem]
      simp[hinv]
     ·simp only[if_true] at hinv
      simp (disch:=omega) only[go_sem,hD,hG',hgx,hgy,dc,Aa]
      (repeat (with_reducible refine aI ?_))
      refine CP.mk [] (by decide) ?_
      simp (disch:=omega) only[go_sem,hD,hG',hgx,hgy,dc,hdl,hot,List.take_length,g1,Aa]
      (repeat (with_reducible refine aI ?_))
      refine ⟨(i+1,acc++[nn]),⟨⟨by omega,by simp;omega,hinv⟩,by simp only;omega⟩,AG hD [(5000,61)] rfl rfl ?_ ?_⟩ <;> simp only[go_sem]
      ·simp
      ·simp[Kv]
   ·rw[decide_eq_false_iff_not] at h
    have hd1:hs.drop i=[]:=List.drop_eq_nil_of_le (by omega)
    rw[hd1,Zr] at hinv
    simp (disch:=omega) only[go_sem,hD,hG',Aa]
    (repeat (with_reducible refine aI ?_))
    refine Aj [5000] [] (by simp) rfl rfl rfl ?_ ?_ <;> simp only[go_sem]
    simp[hinv]
    all_goals (intro a b c;simp)
  ·rw[if_neg hl] at hr
   have dl:((hs.length:Int) !=(ws.length:Int))=true:=by simp;omega
   simp (disch:=omega) only[go_sem,hD,hG',dl,Aa]
   refine Aj [] [] (by simp) rfl rfl rfl ?_ ?_ <;> simp only[go_sem]
   simp[hr]
 exact hcon _ rfl
def DR:BH Tryz.prog D:=⟨153,List Wd×List Wd,fun x=> [.sl 1 (x.1.map Ae),.sl 1 (x.2.map Ae)],fun x=> (x.1.length≤1000∧∀w∈x.1,w.length≤1000)∧(x.2.length≤1000∧∀w∈x.2,w.length≤1000),fun x=> ⟨.tup [.sl 1 ((DI x.1 x.2).1.map Kv),.bool (DI x.1 x.2).2],[]⟩,fun x y _ _ h=> by
 obtain ⟨a,b⟩:=x
 obtain ⟨a',b'⟩:=y
 simp only[List.cons.injEq,AV.sl.injEq,true_and,and_true] at h
 rw[EF h.1,EF h.2],fun x h=> UX x.1 x.2 h.1 h.2⟩
end Go.Proofs.YtlkmgccikgnaeaaGreatDoor.Ab
