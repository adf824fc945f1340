/-
  Texts of the proof, one behind the other: Cva WbS WbA WbP WbB WbC.
  No condition but those that each theorem names.
-/
import Derived.Test.YtlkmgccikgnaeaaGreatDoorMC
import Derived.Lib.FrozenHead
import Derived.Test.YtlkmgccikgnaeaaGreatDoorMF
import Derived.Test.YtlkmgccikgnaeaaGreatDoorME
set_option linter.unusedVariables false
set_option linter.unusedSimpArgs false
set_option maxRecDepth 100000
set_option maxHeartbeats 16000000
namespace Go.Proofs.YtlkmgccikgnaeaaGreatDoor.Ab
open Go
theorem Fu (P:Program) (g o:Nat) (t:TypeId) (fz:Nat×Nat):∀(vs:List Value) (i:Nat) (cur:Array Value) (w:World),w.heap[g]? =some (.cells cur t fz)→cur.size≤fz.1→o+i+vs.length≤cur.size→(∀v∈vs,v.oneCell'=true)→
  (storeCells ⟨g,o,none⟩ vs i).run P w=.ok () (w.setRow g (cur.toList.take (o+i)++vs++cur.toList.drop (o+i+vs.length)).toArray)
 | [],i,cur,w,hg,hfz,hl,h1=> by
  simp only[storeCells,List.append_nil,List.length_nil,Nat.add_zero,List.take_append_drop,Array.toArray_toList]
  rw[setRow_self w g cur t fz hg]
  rfl
 | v::rest,i,cur,w,hg,hfz,hl,h1=> by
  have hi:o+i < cur.size:=by simp at hl;omega
  have hadd:(⟨g,o,none⟩:Addr).add i=⟨g,o+i,none⟩:=by unfold Addr.add;split <;> simp_all
  have hcell:w.cell? ⟨g,o+i,none⟩=some cur[o+i]:=by simp[World.cell?,hg,hi]
  have hfro:w.frozen? ⟨g,o+i,none⟩=false:=by
   obtain ⟨lo,hi'⟩:=fz
   simp only[World.frozen?,hg,Bool.and_eq_false_iff,decide_eq_false_iff_not]
   left
   simp only at hfz
   omega
  have hst:(store ((⟨g,o,none⟩:Addr).add i) v).run P w=.ok () (w.setRow g (cur.setIfInBounds (o+i) v)):=by
   rw[hadd,run_store P w _ v _ (h1 v (by simp)),hcell]
   simp[hfro,setCell_eq_setRow w g (o+i) cur t fz v hg]
  have ih:=Fu P g o t fz rest (i+1) (cur.setIfInBounds (o+i) v) (w.setRow g (cur.setIfInBounds (o+i) v)) (setRow_heap w g cur _ t _ hg) (by simpa using hfz) (by simp at hl ⊢;omega) (fun x hx=> h1 x (by simp[hx]))
  simp only[storeCells,Sem.run_bind,hst,Result.andThen_ok,ih,setRow_setRow]
  congr 3
  have e:=list_seg_step cur.toList (o+i) v rest (by simp at hl ⊢;omega)
  simpa[Array.toList_setIfInBounds,Nat.add_assoc] using e
theorem K7 {P:Program} (w:World) (t ty e:TypeId) (i:TypeInfo) (ht:P.underlying t=some (.slice e)) (hi:P.info? e=some i)
  (g sLen sCap:Nat) (cur:Array Value) (fz:Nat×Nat) (hg:w.heap[g]? =some (.cells cur e fz)) (hfz:cur.size≤fz.1)
  (a:Addr) (m c:Nat) (news:List Value) (hl:news.length=m*i.size) (hnews:∀j u,news[j]? =some u→w.cell? (a.add j)=some u) (h1:∀u∈news,u.oneCell'=true)
  (hroom:sLen+m≤sCap) (hfit:sLen*i.size+news.length≤cur.size):
  (Builtin.append_ #[t,t] ty #[.slice (some ⟨g,0,none⟩) sLen sCap,.slice (some a) m c]).run P w=
   .ok (.slice (some ⟨g,0,none⟩) (sLen+m) sCap) (w.setRow g (cur.toList.take (sLen*i.size)++news++cur.toList.drop (sLen*i.size+news.length)).toArray):=by
 have hf:=run_firstCells_some (P:=P) w i.size m a m c news hl hnews
 have hst:=Fu P g (sLen*i.size) e fz news 0 cur w hg (by simpa using hfz) (by simpa using hfit) h1
 simp only[Nat.add_zero] at hst
 simp[Builtin.append_,run_underlying ht,sizeOf,typeInfo,hi,Builtin.lenOf,hroom,hf,Addr.add_lit,hst]
section
variable {P:Program} {D:Nat→TI} {S N0:Nat→Prop} {B:Nat} {w0:W0} {σ:AS} {a:Act} {w:World} {ρ:BI}
def BA (l:List UInt8):List Value:=l.map fun b=> Value.int .u8 b.toNat
theorem U6 {R T ty e:Nat} {l bs:List UInt8} {i:TypeInfo} (w:World) (hR:P.underlying R=some .string) (hu:P.underlying T=some (.slice e)) (he:P.underlying e=some (.int .u8))
  (hi:P.info? e=some i) (hz:i.zero=some (.int .u8 0)) (hsize:i.size=1) (hby:i.bytes=1) (hb:l.length+bs.length≤1099511627776)
  (A:Option Addr) (c:Nat) (hA:0 < bs.length→∃ad,A=some ad∧∀(j:Nat) (u:Value),(BA bs)[j]? =some u→w.cell? (ad.add j)=some u):
  ∃(w1:World) (g cap:Nat) (cur:Array Value) (fz:Nat×Nat) (w':World) (gc:Nat),(convert R T (.string ⟨⟨l⟩⟩)).run P w=.ok (.slice (some ⟨w.heap.size,0,none⟩) l.length gc) w1∧(Builtin.append_ #[T,T] ty #[.slice (some ⟨w.heap.size,0,none⟩) l.length gc,.slice A bs.length c]).run P w1=.ok (.slice (some ⟨g,0,none⟩) (l.length+bs.length) cap) w'∧
   w.heap.size≤g∧w'.heap[g]? =some (.cells cur e fz)∧l.length+bs.length≤cap∧cap≤maxLen∧(∀(j:Nat) (u:Value),(BA (l++bs))[j]? =some u→cur[j]? =some u)∧
   w'.os=w.os∧w'.tape=w.tape∧w'.output=w.output∧g < w'.heap.size∧(∀k,k < w.heap.size→w'.heap[k]? =w.heap[k]?)∧∀k,k < w.heap.size→w1.heap[k]? =w.heap[k]?:=by
 have hrun:=run_bytes_of_string (P:=P) w R T e ⟨⟨l⟩⟩ hR hu he
 have hlz:(⟨⟨l⟩⟩:ByteArray).size=l.length:=rfl
 rw[hlz] at hrun
 have hcm:grownCap w l.length 0 e≤maxLen:=grownCap_le_maxLen w l.length 0 e (Nat.le_trans (by omega) (show (1099511627776:Nat)≤maxLen by decide))
 have hge:=grownCap_ge w l.length 0 e
 generalize hgc:grownCap w l.length 0 e=gc at *
 have hbr:(bytesRow ⟨⟨l⟩⟩ gc).toList=BA l++List.replicate (gc - l.length) (.int .u8 0):=by
  unfold bytesRow BA
  simp[hlz]
 have hbs:(bytesRow ⟨⟨l⟩⟩ gc).size=gc:=by
  rw[←Array.length_toList,hbr]
  simp[BA]
  omega
 rw[hbs] at hrun
 have hg1:(w.drew.alloc (.cells (bytesRow ⟨⟨l⟩⟩ gc) e (gc,gc+1))).heap[w.heap.size]? =some (.cells (bytesRow ⟨⟨l⟩⟩ gc) e (gc,gc+1)):=heap_alloc_new w.drew _
 have hold:∀k,k < w.heap.size→(w.drew.alloc (.cells (bytesRow ⟨⟨l⟩⟩ gc) e (gc,gc+1))).heap[k]? =w.heap[k]?:=fun k hk=> heap_alloc_old w.drew _ hk
 have hsz1:(w.drew.alloc (.cells (bytesRow ⟨⟨l⟩⟩ gc) e (gc,gc+1))).heap.size=w.heap.size+1:=by simp
 have hbl:(BA bs).length=bs.length:=by simp[BA]
 have hbo:∀u∈BA bs,u.oneCell'=true:=fun u hu=> by
  obtain ⟨b,_,rfl⟩:=List.mem_map.1 hu
  rfl
 have hmx:l.length+bs.length≤maxLen:=Nat.le_trans hb (by decide)
 have hll:(BA l).length=l.length:=by simp[BA]
 have happ:BA (l++bs)=BA l++BA bs:=by simp[BA]
 have hcl:∀(j:Nat) (u:Value),(BA l)[j]? =some u→(bytesRow ⟨⟨l⟩⟩ gc)[j]? =some u:=fun j u hj=> by
  rw[←Array.getElem?_toList,hbr,List.getElem?_append_left (by rw[List.getElem?_eq_some_iff] at hj;exact hj.1)]
  exact hj
 by_cases h0:bs.length=0
 ·have hb0:bs=[]:=List.eq_nil_of_length_eq_zero h0
  subst hb0
  refine ⟨_,w.heap.size,gc,_,_,w.drew.alloc (.cells (bytesRow ⟨⟨l⟩⟩ gc) e (gc,gc+1)),gc,hrun,?_,Nat.le_refl _,hg1,by simpa using hge,hcm,?_,rfl,rfl,rfl,by rw[hsz1];omega,hold,hold⟩
  ·cases A <;> simp[Builtin.append_,run_underlying hu,sizeOf,typeInfo,hi,Builtin.lenOf,Builtin.firstCells,hge,storeCells,loadCells,loadCellsFrom]
  ·rw[List.append_nil]
   exact hcl
 ·obtain ⟨ad,rfl,hcells⟩:=hA (by omega)
  have hcells':∀(j:Nat) (u:Value),(BA bs)[j]? =some u→(w.drew.alloc (.cells (bytesRow ⟨⟨l⟩⟩ gc) e (gc,gc+1))).cell? (ad.add j)=some u:=fun j u hj=> by
   have h1:=hcells j u hj
   have hlt:(ad.add j).block < w.heap.size:=World.block_lt_of_cell? w _ h1
   rw[←h1]
   exact World.cell?_of_block (hold _ hlt)
  by_cases hroom:l.length+bs.length≤gc
  ·have hr:=K7 (P:=P) (w.drew.alloc (.cells (bytesRow ⟨⟨l⟩⟩ gc) e (gc,gc+1))) T ty e i hu hi w.heap.size l.length gc _ (gc,gc+1) hg1 (by rw[hbs];exact Nat.le_refl _) ad bs.length c (BA bs) (by rw[hbl,hsize,Nat.mul_one]) hcells' hbo hroom
    (by rw[hbl,hbs,hsize];omega)
   refine ⟨_,w.heap.size,gc,_,_,_,gc,hrun,hr,Nat.le_refl _,setRow_heap _ _ _ _ _ _ hg1,hroom,hcm,fun j u hj=> ?_,rfl,rfl,rfl,by simp,fun k hk=> ?_,hold⟩
   ·rw[happ] at hj
    rw[hsize,Nat.mul_one,hbr,List.take_append_of_le_length (by rw[hll];exact Nat.le_refl _),List.take_of_length_le (by rw[hll];exact Nat.le_refl _)]
    rw[List.getElem?_toArray,List.getElem?_append_left (by rw[List.getElem?_eq_some_iff] at hj;exact hj.1)]
    exact hj
   ·rw[setRow_other _ _ _ _ (by omega)]
    exact hold k hk
  ·have hr:=run_append_grow (P:=P) (w.drew.alloc (.cells (bytesRow ⟨⟨l⟩⟩ gc) e (gc,gc+1))) T ty e i (.int .u8 0) hu hi hz ⟨w.heap.size,0,none⟩ l.length gc (BA l) (by rw[hll,hsize,Nat.mul_one]) (fun j u hj=> by
     have hadd:(⟨w.heap.size,0,none⟩:Addr).add j=⟨w.heap.size,j,none⟩:=by unfold Addr.add;split <;> simp_all
     rw[hadd,cell_of_row _ _ _ _ _ _ hg1]
     exact hcl j u hj) ad bs.length c (BA bs) (by rw[hbl,hsize,Nat.mul_one]) hcells' (by omega) (by omega) (by rw[hby];exact growslice_fits (by omega) (by omega))
   have hge2:=grownCap_ge (w.drew.alloc (.cells (bytesRow ⟨⟨l⟩⟩ gc) e (gc,gc+1))) (l.length+bs.length) gc e
   have hcm2:=grownCap_le_maxLen (w.drew.alloc (.cells (bytesRow ⟨⟨l⟩⟩ gc) e (gc,gc+1))) (l.length+bs.length) gc e hmx
   refine ⟨_,_,_,_,_,_,gc,hrun,hr,?_,heap_alloc_new (w.drew.alloc (.cells (bytesRow ⟨⟨l⟩⟩ gc) e (gc,gc+1))).drew _,hge2,hcm2,fun j u hj=> ?_,rfl,rfl,rfl,by simp,fun k hk=> ?_,hold⟩
   ·rw[hsz1];omega
   ·rw[happ] at hj
    rw[←Array.getElem?_toList]
    simp only[Array.toList_append]
    rw[List.getElem?_append_left (by rw[List.getElem?_eq_some_iff] at hj;simpa using hj.1)]
    exact hj
   ·rw[heap_alloc_old (w.drew.alloc (.cells (bytesRow ⟨⟨l⟩⟩ gc) e (gc,gc+1))).drew _ (by rw[show (w.drew.alloc (.cells (bytesRow ⟨⟨l⟩⟩ gc) e (gc,gc+1))).drew.heap.size=(w.drew.alloc (.cells (bytesRow ⟨⟨l⟩⟩ gc) e (gc,gc+1))).heap.size from rfl,hsz1];omega)]
    exact hold k hk
theorem Cu.retm (h:Cu D S N0 B w0 ρ σ a w) {tm:List (Nat×AV)} (ht:∀t x,get t tm=some x→get t σ.tm=some x):Cu D S N0 B w0 ρ {σ with tm:=tm} a w:=
 ⟨fun t x hx=> h.tm t x (ht t x hx),h.hp,h.nt,h.base,h.frm,h.own,h.defers⟩
theorem J6 (hT:Hu P D) (h:Cu D S N0 B w0 ρ σ a w) {R T ty e:Nat} {l bs:List UInt8} {v:Value} (hR:(D R).k=.str) (hk:(D T).k=.slice e) (hk8:(D e).k=.int .u8) (hb1:(D e).bytes=1)
  (hy:Rel w (Im S N0 B w ρ σ) ρ (.sl 1 (bs.map Ac)) v) (hb:l.length+bs.length≤1099511627776) {c d:Nat} (hc:c < σ.nt) (hd:d < σ.nt):
  ∃u w1 r w',(convert R T (.string ⟨⟨l⟩⟩)).run P w=.ok u w1∧(Builtin.append_ #[T,T] ty #[u,v]).run P w1=.ok r w'∧(∀k,k < w.heap.size→w1.heap[k]? =w.heap[k]?)∧
   Cu D S N0 B w0 ρ {σ with tm:=(d,.sl 1 ((l++bs).map Ac))::(c,.junk)::σ.tm} ((a.put (some c) u).put (some d) r) w':=by
 obtain ⟨hu,hne,hpz⟩:=Cy hT hk
 obtain ⟨i,z,hi,hi1,hi2,hi3,hi4,hi5⟩:=Fo hT hne
 have hz:=To hT hk8 hi
 rw[hz] at hi3
 cases hi3
 have hin:i.size=1:=by
  have h1:=De hi4
  rw[hi1,←hi5,←h1.1]
  rfl
 have he:=JJ hT hk8
 obtain ⟨A,c',hv2,hv3⟩:∃A:Option Addr,∃c:Nat,v=.slice A bs.length c∧(0 < bs.length→∃ad,A=some ad∧∀(j:Nat) (u:Value),(BA bs)[j]? =some u→w.cell? (ad.add j)=some u):=by
  cases hy with
  | sl sz rs A c b o val hc hm hA hrow hcell hval=>
   refine ⟨A,c,by simp,fun h0=> ?_⟩
   obtain ⟨rfl,hb⟩:=hA (by simpa using h0)
   refine ⟨_,rfl,fun j u hj=> ?_⟩
   unfold BA at hj
   rw[List.getElem?_map] at hj
   obtain ⟨x,hx,rfl⟩:=Option.map_eq_some_iff.1 hj
   have h1:(bs.map Ac)[j]? =some (Ac x):=by rw[List.getElem?_map,hx];rfl
   have h2:=(hcell j 0 _ _ h1 rfl).1
   have h3:=(hval j 0 _ _ h1 rfl).int_
   rw[h3] at h2
   rw[BV]
   simpa using h2
 obtain ⟨w1,g,cap,cur,fz,w',gc,k1,k2,k3,k4,k5,k6,k7,k8,k9,k10,k11,k12,k13⟩:=U6 (P:=P) (ty:=ty) (l:=l) (bs:=bs) w (Hl hT hR) hu he hi hz hin (by rw[hi2];exact hb1) hb A c' hv3
 refine ⟨_,w1,_,w',k1,by rw[hv2];exact k2,k13,?_⟩
 have hst:=(h.step (w':=w') (ks:=[]) (nw:=[]) (up:=[]) k8 k9 k10 (Nat.le_of_lt (Nat.lt_of_le_of_lt k3 k11)) (fun b hb _=> k12 b hb) (fun _ _ _=> rfl) (fun m hm=> by simp[AF] at hm) (fun m hm=> by simp[AF] at hm)
   (fun _ n y hy=> by simp[get] at hy) (fun n y b hn=> by simp[get] at hn) (fun n m y z b hn=> by simp[get] at hn) (fun n y z b hn=> by simp[get] at hn)).1
 rw[Iu] at hst
 refine (hst.put hc (.junk _) (by simp[Ad])).put hd ?_ (by simp[Ad])
 have hz':((l++bs).map Ac).length=l.length+bs.length:=by simp
 rw[←hz']
 refine .sl 1 ((l++bs).map Ac) _ _ g 0 (fun i j=> .int .u8 ((l++bs).getD i 0).toNat) (by rw[hz'];exact k5) k6 (fun _=> ⟨rfl,?_⟩) (fun i row hi=> ?_) (fun i j row x hi hj=> ?_) (fun i j row x hi hj=> ?_)
 ·refine ⟨k11,.inr (.inl (Nat.le_trans (Nat.le_trans h.base.1 h.frm.size) k3)),fun n x hx hb=> ?_⟩
  have:=h.owns_lt hx hb
  omega
 ·rw[List.getElem?_map] at hi
  obtain ⟨c,hc,rfl⟩:=Option.map_eq_some_iff.1 hi
  rfl
 ·rw[List.getElem?_map] at hi
  obtain ⟨c,hc,rfl⟩:=Option.map_eq_some_iff.1 hi
  cases j with
  | succ j=> simp[Ac] at hj
  | zero=>
   simp[Ac] at hj
   subst hj
   refine ⟨?_,rfl,by simp[Ad]⟩
   have h1:=k7 i (.int .u8 c.toNat) (by unfold BA;rw[List.getElem?_map,hc];rfl)
   rw[Nat.zero_add,Nat.mul_one,Nat.add_zero]
   have h2:(l++bs).getD i 0=c:=by rw[List.getD_eq_getElem?_getD,hc];rfl
   rw[h2]
   unfold World.cell?
   rw[k4]
   simpa using h1
 ·rw[List.getElem?_map] at hi
  obtain ⟨c,hc,rfl⟩:=Option.map_eq_some_iff.1 hi
  cases j with
  | succ j=> simp[Ac] at hj
  | zero=>
   simp[Ac] at hj
   subst hj
   simp only[List.getD_eq_getElem?_getD,hc,Option.getD_some]
   exact .int _ _
end
section
variable {X:Cx} {γ:Nat→Value} {ops:Array Oper} {Qx:Exit→Act→World→Prop}
theorem JV (hX:X.Ok) {Q:AS→Prop} {o:Oper} {i:Nat} {σ:AS} {a:Act} {w:World} {K:Act→World→Prop} (ho:ops[i]? =some o) (hst:X.St γ σ a w) (hr:EE X [] ops [o] Q σ)
  (hK:∀σ' a' w',Q σ'→X.St γ σ' a' w'→K a' w'):wpOp X.P ops Qx i K a w:=by
 rw[EE] at hr
 obtain ⟨ρ,hst0⟩:=hst
 cases he:opEff X.D X.G X.M X.nb [] ops σ o with
 | none=>
  rw[he] at hr
  exact wpOp_mono (fun a' w' ⟨σ',h4,h5⟩=> hK σ' a' w' h4 h5) (hr.1 γ a w i Qx ho ⟨ρ,hst0⟩)
 | some e=>
  rw[he] at hr
  exact wpOp_mono (fun a' w' h5=> hK _ a' w' hr.2 h5) (KZ hX.types hX.calls hst0 ho he hr.1.1 hr.1.2 fun hg hm=> wpOp_mono (fun a' w' ⟨σ',e1,e2⟩=> e2.congr e1.symm) ((hX.mok ops _ σ e hg hm hr.1.2 hr.1.1).1 γ a w i Qx ho ⟨ρ,hst0⟩))
theorem HC {a:Act} {t:Nat} {v:Value} (h:t < a.tmps.size):(a.put (some t) v).eval (.tmp t)=v:=by simp[Act.eval,Act.put,h]
theorem Il {a:Act} {t s:Nat} {v:Value} (h:t≠s):(a.put (some t) v).eval (.tmp s)=a.eval (.tmp s):=Act.eval_put fun d hd e=> by
 cases hd
 cases e
 exact h rfl
def Xq (ops:Array Oper):Bool:=
 ops.size==7&&Region.noSelect ops&&Region.free .any ops #[false,false,false,false,false,false,false] 0&&(Region.ready .any ops #[false,false,false,false,false,false,false]).contains 0&&
 Region.free .any ops #[true,false,false,false,false,false,false] 3&&(Region.ready .any ops #[true,false,false,false,false,false,false]).contains 3&&
 Region.ready .any ops #[true,false,false,true,false,false,false]==[1,4]&&Region.ready .any ops #[true,true,false,true,false,false,false]==[2,4]&&
 Region.ready .any ops #[true,false,false,true,true,false,false]==[1]&&Region.ready .any ops #[true,true,false,true,true,false,false]==[2]&&
 Region.ready .any ops #[true,true,true,true,false,false,false]==[4]&&Region.ready .any ops #[true,true,true,true,true,false,false]==[5]&&
 Region.ready .any ops #[true,true,true,true,true,true,false]==[6]&&Region.ready .any ops #[true,true,true,true,true,true,true]==[]
theorem Tr.convapp (hX:X.Ok) {id:Nat} {Q:Exit→AS→Prop} {σ:AS} (hrd:Xq ops=true) {t0 t1 t2 t3 t4 t5 s0 s3:Nat} {R T T3 f e v off fo ty0 ty2 ty3 ty4 ty5:Nat} {p0 p2 p3 p4 p5:String} {af0 af2 af3 af4 af5:Array Edge} {o1 o6:Oper}
  (h0:ops[0]? =some ⟨some t0,.move (.tmp s0),ty0,p0,af0,none⟩) (h1:ops[1]? =some o1) (h2:ops[2]? =some ⟨some t2,.convert R T (.tmp t1),ty2,p2,af2,none⟩)
  (h3:ops[3]? =some ⟨some t3,.fieldAddr T3 (.tmp s3) f,ty3,p3,af3,none⟩) (h4:ops[4]? =some ⟨some t4,.load T (.tmp t3),ty4,p4,af4,none⟩)
  (h5:ops[5]? =some ⟨some t5,.call {callee:=.builtin .append,args:=#[.tmp t2,.tmp t4],argTypes:=#[T,T]},ty5,p5,af5,none⟩) (h6:ops[6]? =some o6)
  {l bs:List UInt8} {cs:List AV} {fs:List (Nat×Nat)} (hR:(X.D R).k=.str) (hk:(X.D T).k=.slice e) (hk8:(X.D e).k=.int .u8) (hb1:(X.D e).bytes=1) (hk3:(X.D T3).k=.struct fs) (hf:fs[f]? =some (fo,T))
  (hlt:t0 < σ.nt∧t1 < σ.nt∧t2 < σ.nt∧t3 < σ.nt∧t4 < σ.nt∧t5 < σ.nt) (hne:t0≠s3∧t2≠t4∧t1≠t3∧t1≠t4∧t2≠t3∧t4≠t1) (hE3:ev σ (.tmp s3)=.ptr v off) (hbl:blk σ v=some (.cells cs)) (hcs:cs[off+fo]? =some (.sl 1 (bs.map Ac)))
  (hb:l.length+bs.length≤1099511627776) (hQ:∀c σ',¬Q (.panic c) σ')
  (H1a:EE X [] ops [o1] (fun σ'=> σ'={σ with tm:=(t1,.str l)::(t3,.ptr v (off+fo))::(t0,ev σ (.tmp s0))::σ.tm}) {σ with tm:=(t3,.ptr v (off+fo))::(t0,ev σ (.tmp s0))::σ.tm})
  (H1b:EE X [] ops [o1] (fun σ'=> σ'={σ with tm:=(t1,.str l)::(t4,.sl 1 (bs.map Ac))::(t3,.ptr v (off+fo))::(t0,ev σ (.tmp s0))::σ.tm}) {σ with tm:=(t4,.sl 1 (bs.map Ac))::(t3,.ptr v (off+fo))::(t0,ev σ (.tmp s0))::σ.tm})
  (H6:EE X [] ops [o6] (Q .normal) {σ with tm:=(t5,.sl 1 ((l++bs).map Ac))::(t2,.junk)::(t1,.str l)::(t4,.sl 1 (bs.map Ac))::(t3,.ptr v (off+fo))::(t0,ev σ (.tmp s0))::σ.tm}):Tr X (.region id ops true) Q σ:=by
 intro γ a w hst
 simp only[Xq,Bool.and_eq_true,beq_iff_eq] at hrd
 obtain ⟨⟨⟨⟨⟨⟨⟨⟨⟨⟨⟨⟨⟨hsz,hns⟩,f0⟩,c0⟩,f3⟩,c3⟩,r2⟩,r3⟩,r4⟩,r5⟩,r6⟩,r7⟩,r8⟩,r9⟩:=hrd
 obtain ⟨q0,q1,q2,q3,q4,q5⟩:=hlt
 obtain ⟨n1,n2,n3,n4,n5,n6⟩:=hne
 have l65:σ.nt≤65536:=by obtain ⟨_,h⟩:=hst;exact h.nt.2
 have l1:t1 < 65536:=by omega
 have l3:t3 < 65536:=by omega
 have l4:t4 < 65536:=by omega
 refine wp_region_any hX.mixed ?_
 rw[hsz]
 change wpAny _ _ _ _ 7 #[false,false,false,false,false,false,false] _ _
 obtain ⟨ρ,hst⟩:=hst
 have hst:=hst.same (w':={w with drawn:=w.drawn+1}) rfl rfl rfl rfl
 generalize ({w with drawn:=w.drawn+1}:World)=w at hst ⊢
 have hQ':∀(oi:Oper) (v:Value),∀(c:_) (a:Act) (w:World),(∃σ',Q (.panic c) σ'∧X.St γ σ' (a.put oi.dst v) w)→∃σ',Q (.panic c) σ'∧X.St γ σ' a w:=fun oi v c a w ⟨σ',h,_⟩=> absurd h (hQ c σ')
 have hag:∀w,(isAgg T).run X.P w=.ok false w:=fun w=> by
  have:=Le hX.types (T:=T) (by rw[hk];rfl) w
  rw[hk] at this
  exact this
 obtain ⟨flds,hu3,hfb⟩:=F4 hX.types hk3
 obtain ⟨fd,g1,g2,g3,g4,g5⟩:=Ld hfb f fo T hf
 have hv3:=(hst.ev (.tmp s3)).1
 rw[hE3] at hv3
 obtain ⟨b0,hb0,hv3⟩:∃b0,(ρ v).b=some b0∧a.eval (.tmp s3)=.pointer (some ⟨b0,off,none⟩):=by
  generalize a.eval (.tmp s3)=u at hv3
  cases hv3 with
  | ptr _ _ b h=> exact ⟨b,h,rfl⟩
 refine wpAny_take (i:=0) (v:=a.eval (.tmp s0)) h0 hns f0 c0 (hQ' _ _) (.inl ⟨rfl,fun w=> rfl⟩) ?_
 change wpAny _ _ _ _ 6 #[true,false,false,false,false,false,false] _ _
 have hst1:=hst.put q0 (hst.ev (.tmp s0)).1 (hst.ev (.tmp s0)).2
 have hva:(a.put (some t0) (a.eval (.tmp s0))).eval (.tmp s3)=.pointer (some ⟨b0,off,none⟩):=by rw[Il n1];exact hv3
 generalize a.put (some t0) (a.eval (.tmp s0))=a at hst1 hva ⊢
 refine wpAny_take (i:=3) (v:=.pointer (some ⟨b0,off+fo,none⟩)) h3 hns f3 c3 (hQ' _ _) (.inl ⟨rfl,fun w=> ?_⟩) ?_
 ·have hsz:(sizeOf fd.type).run X.P w=.ok (X.D T).n w:=by
   unfold PE at g4
   rw[g3]
   obtain ⟨i,hi,hi2⟩:=Option.map_eq_some_iff.1 g4
   simp[sizeOf,typeInfo,hi,hi2]
  have g1':flds[f]? =some fd:=by rw[←g1];simp
  have hex:execOp a.eval ⟨some t3,.fieldAddr T3 (.tmp s3) f,ty3,p3,af3,none⟩=(do pure (.value (←Instr.fieldAt T3 (a.eval (.tmp s3)) f))):=rfl
  rw[hex,hva]
  have hrun:(Instr.fieldAt T3 (.pointer (some ⟨b0,off,none⟩)) f).run X.P w=.ok (.pointer (some ⟨b0,off+fo,none⟩)) w:=by
   have h6:¬(X.D T).n=0:=by omega
   simp[Instr.fieldAt,run_underlying hu3,g1',Instr.sureAddr,fieldPlace,hsz,h6,g2,BV]
  simp only[Sem.run_bind,hrun,Result.andThen_ok,Sem.run_pure]
 change wpAny _ _ _ _ 5 #[true,false,false,true,false,false,false] _ _
 have hst2:=hst1.put (d:=t3) (x:=.ptr v (off+fo)) q3 (.ptr v (off+fo) b0 hb0) (fun n hn=> by
  simp[Ad] at hn
  subst hn
  show (blk σ n).isSome=true
  rw[hbl];rfl)
 generalize a.put (some t3) (.pointer (some ⟨b0,off+fo,none⟩))=a at hst2 ⊢
 have fin:∀(a:Act) (w:World),X.St γ {σ with tm:=(t1,.str l)::(t4,.sl 1 (bs.map Ac))::(t3,.ptr v (off+fo))::(t0,ev σ (.tmp s0))::σ.tm} a w→wpAny X.P .any ops (fun e a w=> ∃σ',Q e σ'∧X.St γ σ' a w) 3 #[true,true,false,true,true,false,false] a w:=by
  rintro a w ⟨ρ,hst⟩
  have hu:=(hst.ev (.tmp t1)).1
  rw[show ev {σ with tm:=(t1,.str l)::(t4,.sl 1 (bs.map Ac))::(t3,.ptr v (off+fo))::(t0,ev σ (.tmp s0))::σ.tm} (.tmp t1)=.str l by simp[Ab.ev,Fq,get,l1,l3,l4]] at hu
  have hu:=hu.str_
  have hy:=(hst.ev (.tmp t4)).1
  rw[show ev {σ with tm:=(t1,.str l)::(t4,.sl 1 (bs.map Ac))::(t3,.ptr v (off+fo))::(t0,ev σ (.tmp s0))::σ.tm} (.tmp t4)=.sl 1 (bs.map Ac) by simp[Ab.ev,Fq,get,l1,l3,l4,Ne.symm n6,n4]] at hy
  obtain ⟨u,w1,r,w',k1,k2,k3,k4⟩:=J6 (P:=X.P) (ty:=ty5) hX.types hst hR hk hk8 hb1 hy hb (c:=t2) (d:=t5) q2 q5
  refine wpAny_all r5 (by simp) fun i hi=> ?_
  obtain rfl:i=2:=by simpa using hi
  refine Bd h2 rfl (Ax (s:=convert R T (a.eval (.tmp t1))) rfl (by rw[hu];exact k1) ?_)
  change wpAny _ _ _ _ 2 #[true,true,true,true,true,false,false] _ _
  refine wpAny_all r7 (by simp) fun i hi=> ?_
  obtain rfl:i=5:=by simpa using hi
  have ev2:(a.put (some t2) u).eval (.tmp t2)=u:=HC (by rw[hst.nt.1];exact q2)
  have ev4:(a.put (some t2) u).eval (.tmp t4)=a.eval (.tmp t4):=Il n2
  refine Bd h5 rfl (Ax (s:=Builtin.append_ #[T,T] ty5 #[(a.put (some t2) u).eval (.tmp t2),(a.put (some t2) u).eval (.tmp t4)]) (by simp[execOp,resolve,invoke,builtin]) (by rw[ev2,ev4];exact k2) ?_)
  change wpAny _ _ _ _ 1 #[true,true,true,true,true,true,false] _ _
  refine wpAny_all r8 (by simp) fun i hi=> ?_
  obtain rfl:i=6:=by simpa using hi
  refine JV hX h6 ⟨ρ,k4⟩ H6 fun σ' a' w' hq hst'=> ?_
  change wpAny _ _ _ _ 0 #[true,true,true,true,true,true,true] _ _
  exact wpAny_done r9 ⟨σ',hq,hst'⟩ 0
 refine wpAny_all r2 (by simp) fun i hi=> ?_
 have hi:i=1∨i=4:=by simpa using hi
 rcases hi with rfl | rfl
 ·refine JV hX h1 ⟨ρ,hst2⟩ H1a fun σ' a' w' hq hst'=> ?_
  subst hq
  clear hst2 hst1 hst
  change wpAny _ _ _ _ 4 #[true,true,false,true,false,false,false] _ _
  obtain ⟨ρ',hst'⟩:=hst'
  have hp:=(hst'.ev (.tmp t3)).1
  rw[show ev {σ with tm:=(t1,.str l)::(t3,.ptr v (off+fo))::(t0,ev σ (.tmp s0))::σ.tm} (.tmp t3)=.ptr v (off+fo) by simp[Ab.ev,Fq,get,l1,l3,l4,n3]] at hp
  obtain ⟨b1,hb1',hp⟩:∃b1,(ρ' v).b=some b1∧a'.eval (.tmp t3)=.pointer (some ⟨b1,off+fo,none⟩):=by
   generalize a'.eval (.tmp t3)=u at hp
   cases hp with
   | ptr _ _ b h=> exact ⟨b,h,rfl⟩
  obtain ⟨b2,arr,T',z1,z2,z3,z4⟩:=hst'.hp.blk v (.cells cs) hbl
  rw[hb1'] at z1
  cases z1
  have hlt:off+fo < arr.size:=by have:=(List.getElem?_eq_some_iff.1 hcs).1;omega
  obtain ⟨y1,y2⟩:=z4 (off+fo) _ arr[off+fo] hcs (by simp[hlt])
  have hc:w'.cell? ⟨b1,off+fo,none⟩=some arr[off+fo]:=by
   unfold World.cell?
   rw[z2]
   simp[hlt]
  have hstL:=(hst'.put (d:=t4) q4 y2 (by simp[Ad])).retm (tm:=(t1,.str l)::(t4,.sl 1 (bs.map Ac))::(t3,.ptr v (off+fo))::(t0,ev σ (.tmp s0))::σ.tm) (fun t x hx=> by
   simp only[get] at hx ⊢
   by_cases e1:t1=t
   ·rw[if_pos e1] at hx
    rw[if_neg (by omega),if_pos e1]
    exact hx
   ·rw[if_neg e1] at hx
    rw[if_neg e1]
    exact hx)
  refine wpAny_all r3 (by simp) fun i hi=> ?_
  have hi:i=2∨i=4:=by simpa using hi
  rcases hi with rfl | rfl
  ·have hu:=(hst'.ev (.tmp t1)).1
   rw[show ev {σ with tm:=(t1,.str l)::(t3,.ptr v (off+fo))::(t0,ev σ (.tmp s0))::σ.tm} (.tmp t1)=.str l by simp[Ab.ev,Fq,get,l1,l3,l4]] at hu
   have hu:=hu.str_
   have hy:=(hstL.ev (.tmp t4)).1
   have e4:(a'.put (some t4) arr[off+fo]).eval (.tmp t4)=arr[off+fo]:=HC (by rw[hst'.nt.1];exact q4)
   rw[show ev {σ with tm:=(t1,.str l)::(t4,.sl 1 (bs.map Ac))::(t3,.ptr v (off+fo))::(t0,ev σ (.tmp s0))::σ.tm} (.tmp t4)=.sl 1 (bs.map Ac) by simp[Ab.ev,Fq,get,l1,l3,l4,Ne.symm n6,n4],e4] at hy
   obtain ⟨u,w1,r,w2,k1,k2,k3,k4⟩:=J6 (P:=X.P) (ty:=ty5) hX.types hstL hR hk hk8 hb1 hy hb (c:=t2) (d:=t5) q2 q5
   refine Bd h2 rfl (Ax (s:=convert R T (a'.eval (.tmp t1))) rfl (by rw[hu];exact k1) ?_)
   change wpAny _ _ _ _ 3 #[true,true,true,true,false,false,false] _ _
   refine wpAny_all r6 (by simp) fun i hi=> ?_
   obtain rfl:i=4:=by simpa using hi
   have ep:(a'.put (some t2) u).eval (.tmp t3)=.pointer (some ⟨b1,off+fo,none⟩):=by rw[Il n5];exact hp
   have hc1:w1.cell? ⟨b1,off+fo,none⟩=some arr[off+fo]:=by
    rw[←hc]
    exact World.cell?_of_block (k3 b1 (Array.getElem?_eq_some_iff.1 z2).1)
   refine Bd h4 rfl (Ax (s:=Instr.loadAt T ((a'.put (some t2) u).eval (.tmp t3))) rfl (v:=arr[off+fo]) (w':=w1) (by rw[ep];simp[Instr.loadAt,Instr.sureAddr,loadVar,hag w1,load,Sem.run,hc1]) ?_)
   change wpAny _ _ _ _ 2 #[true,true,true,true,true,false,false] _ _
   have ecomm:(a'.put (some t2) u).put (some t4) arr[off+fo]=(a'.put (some t4) arr[off+fo]).put (some t2) u:=Act.put_comm a' u _ (fun d hd e=> by
    cases hd
    cases e
    exact n2 rfl)
   rw[ecomm]
   refine wpAny_all r7 (by simp) fun i hi=> ?_
   obtain rfl:i=5:=by simpa using hi
   generalize a'.put (some t4) arr[off+fo]=a1 at *
   have ev2:(a1.put (some t2) u).eval (.tmp t2)=u:=HC (by rw[hstL.nt.1];exact q2)
   have ev4:(a1.put (some t2) u).eval (.tmp t4)=arr[off+fo]:=by rw[Il n2];exact e4
   refine Bd h5 rfl (Ax (s:=Builtin.append_ #[T,T] ty5 #[(a1.put (some t2) u).eval (.tmp t2),(a1.put (some t2) u).eval (.tmp t4)]) (by simp[execOp,resolve,invoke,builtin]) (by rw[ev2,ev4];exact k2) ?_)
   change wpAny _ _ _ _ 1 #[true,true,true,true,true,true,false] _ _
   refine wpAny_all r8 (by simp) fun i hi=> ?_
   obtain rfl:i=6:=by simpa using hi
   refine JV hX h6 ⟨_,k4⟩ H6 fun σ' a' w' hq hst'=> ?_
   change wpAny _ _ _ _ 0 #[true,true,true,true,true,true,true] _ _
   exact wpAny_done r9 ⟨σ',hq,hst'⟩ 0
  ·refine Bd h4 rfl (Ax (s:=Instr.loadAt T (a'.eval (.tmp t3))) rfl (v:=arr[off+fo]) (w':=w') (by rw[hp];simp[Instr.loadAt,Instr.sureAddr,loadVar,hag w',load,Sem.run,hc]) ?_)
   change wpAny _ _ _ _ 3 #[true,true,false,true,true,false,false] _ _
   exact fin _ _ ⟨_,hstL⟩
 ·have hp:=(hst2.ev (.tmp t3)).1
  rw[show ev {σ with tm:=(t3,.ptr v (off+fo))::(t0,ev σ (.tmp s0))::σ.tm} (.tmp t3)=.ptr v (off+fo) by simp[Ab.ev,Fq,get,l1,l3,l4]] at hp
  obtain ⟨b1,hb1',hp⟩:∃b1,(ρ v).b=some b1∧a.eval (.tmp t3)=.pointer (some ⟨b1,off+fo,none⟩):=by
   generalize a.eval (.tmp t3)=u at hp
   cases hp with
   | ptr _ _ b h=> exact ⟨b,h,rfl⟩
  obtain ⟨b2,arr,T',z1,z2,z3,z4⟩:=hst2.hp.blk v (.cells cs) hbl
  rw[hb1'] at z1
  cases z1
  have hlt:off+fo < arr.size:=by have:=(List.getElem?_eq_some_iff.1 hcs).1;omega
  obtain ⟨y1,y2⟩:=z4 (off+fo) _ arr[off+fo] hcs (by simp[hlt])
  have hc:w.cell? ⟨b1,off+fo,none⟩=some arr[off+fo]:=by
   unfold World.cell?
   rw[z2]
   simp[hlt]
  refine Bd h4 rfl (Ax (s:=Instr.loadAt T (a.eval (.tmp t3))) rfl (v:=arr[off+fo]) (w':=w) (by rw[hp];simp[Instr.loadAt,Instr.sureAddr,loadVar,hag w,load,Sem.run,hc]) ?_)
  change wpAny _ _ _ _ 4 #[true,false,false,true,true,false,false] _ _
  have hst3:=hst2.put (d:=t4) q4 y2 (by simp[Ad])
  refine wpAny_all r4 (by simp) fun i hi=> ?_
  obtain rfl:i=1:=by simpa using hi
  refine JV hX h1 ⟨ρ,hst3⟩ H1b fun σ' a' w' hq hst'=> ?_
  subst hq
  change wpAny _ _ _ _ 3 #[true,true,false,true,true,false,false] _ _
  exact fin _ _ hst'
end
open Go Go.RowKit
def GJ (k:Int) (q it:Wd):Wd×Wd:=
 if k=2 then ([80,85,84],[47,113,117,101,117,101,47]++q++[47]++it) else
 if k=3 then ([68,69,76,69,84,69],[47,113,117,101,117,101,47]++q) else
 if k=4 then ([80,79,83,84],[47,113,117,101,117,101,47]++q) else
 if k=5 then ([71,69,84],[47,113,117,101,117,101,47]++q) else
 if k=6 then ([71,69,84],[47,113,117,101,117,101,47]++q++[47]++it) else
 if k=7 then ([68,69,76,69,84,69],[47,116,97,103,47]++it) else
 if k=8 then ([80,79,83,84],[47,116,97,103,47]++it) else
 if k=9 then ([68,69,76,69,84,69],[47,113,117,101,117,101,47]++q++[47,105,116,101,109,115]) else
 ([71,69,84],[47,112,105,110,103])
def Fg (a:AX):Wd×Wd:=GJ a.kind a.queue.data.toList (Lib.itoa a.n)
def Px (p:AI):Wd:=[112,45]++p.key.data.toList++[58,32]++BU p
def Ct (l:List AI):List Wd:=l.map Px
def Jh (n:Nat):Wd:=[99,111,110,116,101,110,116,45,108,101,110,103,116,104,58,32]++Lib.itoa n
def I7 (first:Wd) (heads:List Wd) (n:AP):List Wd:=[first]++heads++Ct n.props++[Jh n.body.length,[],[]]
def D0 (first:Wd) (heads:List Wd) (n:AP):Wd:=Lib.join (I7 first heads n) [13,10]++n.body
def Abg (a:AX):Prop:=a.queue.size≤1000000∧-1073741824≤a.n∧a.n≤1073741824
theorem ZM (a:AX) (ha:Abg a):A8 Tryz.prog D 188 [askA a] ⟨.tup [.str (Fg a).1,.str (Fg a).2],[]⟩:=by
 have hok:Cl Tryz.prog D (Ao [AB]):=Ar _
 have g1:=Ag (T:=[AB]) (E:=AB) (i:=0) rfl (by decide) (a.n) (by have:=ha.2;show -9223372036854775808≤a.n∧a.n≤9223372036854775807;omega)
 generalize Ao [AB]=G at *
 dsimp only[AB] at g1
 have hil:=Lib.itoa_length_le a.n (by have:=ha.2;omega) (by have:=ha.2;omega)
 have hql:a.queue.data.toList.length≤1000000:=ha.1
 unfold Fg
 obtain ⟨k,q,n,⟨ps,bs⟩⟩:=a
 simp only at g1 hil hql
 simp only[askA]
 clear ha
 generalize Lib.itoa n=it at *
 generalize q.data.toList=q at *
 refine Bx (G:=G) (rs:=[(2,none),(3,none)]) hok Tryz.func188 Tryz.results188 Tryz.ntmps188 (fun _=> {}) fun X hP hD hG' hX=> ?_
 simp only[AU,Bz]
 unfold GJ
 by_cases e2:k=2
 ·have d2:(k==2)=true:=by simp[e2]
  rw[if_pos e2]
  simp (disch:=omega) only[go_sem,hD,hG',g1,d2,Aa]
  (repeat (with_reducible refine aI ?_))
  refine Aj [] [] (by simp) rfl rfl rfl ?_ ?_ <;> simp only[go_sem]
 have d2:(k==2)=false:=by simp[e2]
 rw[if_neg e2]
 by_cases e3:k=3
 ·have d3:(k==3)=true:=by simp[e3]
  rw[if_pos e3]
  simp (disch:=omega) only[go_sem,hD,hG',g1,d2,d3,Aa]
  (repeat (with_reducible refine aI ?_))
  refine Aj [] [] (by simp) rfl rfl rfl ?_ ?_ <;> simp only[go_sem]
 have d3:(k==3)=false:=by simp[e3]
 rw[if_neg e3]
 by_cases e4:k=4
 ·have d4:(k==4)=true:=by simp[e4]
  rw[if_pos e4]
  simp (disch:=omega) only[go_sem,hD,hG',g1,d2,d3,d4,Aa]
  (repeat (with_reducible refine aI ?_))
  refine Aj [] [] (by simp) rfl rfl rfl ?_ ?_ <;> simp only[go_sem]
 have d4:(k==4)=false:=by simp[e4]
 rw[if_neg e4]
 by_cases e5:k=5
 ·have d5:(k==5)=true:=by simp[e5]
  rw[if_pos e5]
  simp (disch:=omega) only[go_sem,hD,hG',g1,d2,d3,d4,d5,Aa]
  (repeat (with_reducible refine aI ?_))
  refine Aj [] [] (by simp) rfl rfl rfl ?_ ?_ <;> simp only[go_sem]
 have d5:(k==5)=false:=by simp[e5]
 rw[if_neg e5]
 by_cases e6:k=6
 ·have d6:(k==6)=true:=by simp[e6]
  rw[if_pos e6]
  simp (disch:=omega) only[go_sem,hD,hG',g1,d2,d3,d4,d5,d6,Aa]
  (repeat (with_reducible refine aI ?_))
  refine Aj [] [] (by simp) rfl rfl rfl ?_ ?_ <;> simp only[go_sem]
 have d6:(k==6)=false:=by simp[e6]
 rw[if_neg e6]
 by_cases e7:k=7
 ·have d7:(k==7)=true:=by simp[e7]
  rw[if_pos e7]
  simp (disch:=omega) only[go_sem,hD,hG',g1,d2,d3,d4,d5,d6,d7,Aa]
  (repeat (with_reducible refine aI ?_))
  refine Aj [] [] (by simp) rfl rfl rfl ?_ ?_ <;> simp only[go_sem]
 have d7:(k==7)=false:=by simp[e7]
 rw[if_neg e7]
 by_cases e8:k=8
 ·have d8:(k==8)=true:=by simp[e8]
  rw[if_pos e8]
  simp (disch:=omega) only[go_sem,hD,hG',g1,d2,d3,d4,d5,d6,d7,d8,Aa]
  (repeat (with_reducible refine aI ?_))
  refine Aj [] [] (by simp) rfl rfl rfl ?_ ?_ <;> simp only[go_sem]
 have d8:(k==8)=false:=by simp[e8]
 rw[if_neg e8]
 by_cases e9:k=9
 ·have d9:(k==9)=true:=by simp[e9]
  rw[if_pos e9]
  simp (disch:=omega) only[go_sem,hD,hG',g1,d2,d3,d4,d5,d6,d7,d8,d9,Aa]
  (repeat (with_reducible refine aI ?_))
  refine Aj [] [] (by simp) rfl rfl rfl ?_ ?_ <;> simp only[go_sem]
 have d9:(k==9)=false:=by simp[e9]
 rw[if_neg e9]
 simp (disch:=omega) only[go_sem,hD,hG',g1,d2,d3,d4,d5,d6,d7,d8,d9,Aa]
 (repeat (with_reducible refine aI ?_))
 refine Aj [] [] (by simp) rfl rfl rfl ?_ ?_ <;> simp only[go_sem]
def RL:BH Tryz.prog D:=⟨188,AX,fun a=> [askA a],Abg,fun a=> ⟨.tup [.str (Fg a).1,.str (Fg a).2],[]⟩,fun x y _ _ h=> by
 simp only[List.cons.injEq,and_true] at h
 rw[Cv h],ZM⟩
def Qe:Wd:=[99,111,110,116,101,110,116,45,108,101,110,103,116,104]
def Ci:List AI→List Wd→Int→List Wd→Option (List AI×List Wd×Int)
 | ps,hs,n,[]=> some (ps,hs,n)
 | ps,hs,n,h::r=>
  if (Lib.cut h [58,32]).2.2=false then none
  else if Lib.hasPrefix (Lib.cut h [58,32]).1 [112,45]=true then
   (if (E3 (Lib.trimPrefix (Lib.cut h [58,32]).1 [112,45]) (Lib.cut h [58,32]).2.1).2=false then none
    else Ci (ps++[(E3 (Lib.trimPrefix (Lib.cut h [58,32]).1 [112,45]) (Lib.cut h [58,32]).2.1).1]) hs n r)
  else if (Lib.cut h [58,32]).1=Qe then
   (if (Ak (Lib.cut h [58,32]).2.1).2=false∨(Ak (Lib.cut h [58,32]).2.1).1 < 0∨0≤n then none
    else Ci ps hs (Ak (Lib.cut h [58,32]).2.1).1 r)
  else Ci ps (hs++[h]) n r
structure P6 where
 first:Wd
 heads:List Wd
 note:AP
 all:Int
 err:Int
def Bn (e:Int):P6:=⟨[],[],Ah,0,e⟩
def RC (b:Wd):Wd×Wd×Bool:=Lib.cut (b.take 400) [13,10,13,10]
def FZ (b:Wd):List Wd:=Lib.split (RC b).1 [13,10]
def Cs (b:Wd) (hl:Nat) (first:Wd):Option (List AI×List Wd×Int)→P6
 | none=> Bn 2
 | some (ps,hs,n)=>
  if n < 0 then Bn 2
  else if 400 < (hl:Int)+4+n then Bn 4
  else if (b.length:Int) < (hl:Int)+4+n then Bn 9
  else ⟨first,hs,⟨ps,(b.take ((hl:Int)+4+n).toNat).drop (hl+4)⟩,(hl:Int)+4+n,0⟩
def Ca (b:Wd):P6:=
 if (RC b).2.2=false then (if b.length < 400 then Bn 9 else Bn 4)
 else Cs b (RC b).1.length ((FZ b).getD 0 []) (Ci [] [] (-1) (FZ b).tail)
def Qq:Wd:=[71,69,84]
def AcC:Wd:=[80,85,84]
def Sd:Wd:=[80,79,83,84]
def Qj:Wd:=[68,69,76,69,84,69]
def QX:Wd:=[47,112,105,110,103]
def Gx:Wd:=[113,117,101,117,101]
def Tl:Wd:=[116,97,103]
def QD:Wd:=[105,116,101,109,115]
def GF (m:Wd):Int:=if m=Qj then 3 else if m=Sd then 4 else if m=Qq then 5 else 0
def GG (m:Wd):Int:=if m=Qj then 7 else if m=Sd then 8 else 0
def GE (m:Wd):Int:=if m=AcC then 2 else if m=Qq then 6 else 0
def B2 (m:Wd):List Wd→AX×Bool
 | [a,b,c]=>
  if a=[]∧b=Gx then (⟨GF m,bA c,0,Ah⟩,decide (0 < GF m))
  else if a=[]∧b=Tl∧(Ak c).2=true then (⟨GG m,⟨#[]⟩,(Ak c).1,Ah⟩,decide (0 < GG m))
  else (At,false)
 | [a,b,c,d]=>
  if a=[]∧b=Gx then
   (if m=Qj∧d=QD then (⟨9,bA c,0,Ah⟩,true)
    else if (Ak d).2=true then (⟨GE m,bA c,(Ak d).1,Ah⟩,decide (0 < GE m))
    else (At,false))
  else (At,false)
 | _=> (At,false)
def Bl (m path:Wd):AX×Bool:=if m=Qq∧path=QX then (⟨1,⟨#[]⟩,0,Ah⟩,true) else B2 m (Lib.split path [47])
def Aah:Wd:=[72,84,84,80,47,49,46,49]
def EI (hs:List Wd) (n:AP):List Wd→AX×Int
 | [m,p,v]=>
  if v=Aah∧hs=[] then
   (if (Bl m p).2=true then (⟨(Bl m p).1.kind,(Bl m p).1.queue,(Bl m p).1.n,n⟩,Ap ⟨(Bl m p).1.kind,(Bl m p).1.queue,(Bl m p).1.n,n⟩) else (At,1))
  else (At,2)
 | _=> (At,2)
def Ss (x:P6):AX×Int×Int:=
 if x.err≠0 then (At,0,x.err)
 else if (EI x.heads x.note (Lib.split x.first [32])).2≠0 then (At,0,(EI x.heads x.note (Lib.split x.first [32])).2)
 else ((EI x.heads x.note (Lib.split x.first [32])).1,x.all,0)
def DL (b:Wd):AX×Int×Int:=Ss (Ca b)
def KK:Wd:=[72,84,84,80,47,49,46,49,32,50,48,48,32,79,75]
def EB:Wd:=[72,84,84,80,47,49,46,49,32,50,48,52,32,78,111,110,101]
def DE:Wd:=[72,84,84,80,47,49,46,49,32,52,48,48,32,87,114,111,110,103]
def EH:Wd:=[116,97,103,58,32]
def BO:Wd:=[116,114,105,101,115,58,32]
def BL:Wd:=[101,114,114,111,114,58,32]
def BD (want h:Wd):Int×Bool:=((Ak (Lib.trimPrefix h want)).1,Lib.hasPrefix h want&&(Ak (Lib.trimPrefix h want)).2)
def B6 (first:Wd) (hs:List Wd) (n:AP):A0×Int:=
 if first=KK∧hs≠[] then
  (match hs with
   | [a,b]=> if (BD EH a).2=true∧(BD BO b).2=true then (⟨2,(BD EH a).1,(BD BO b).1,0,n⟩,Am ⟨2,(BD EH a).1,(BD BO b).1,0,n⟩) else (AE,2)
   | _=> (AE,2))
 else if first=KK then (⟨1,0,0,0,n⟩,Am ⟨1,0,0,0,n⟩)
 else if first=EB then (if hs=[] then (⟨3,0,0,0,n⟩,Am ⟨3,0,0,0,n⟩) else (AE,2))
 else if first=DE then
  (match hs with
   | [a]=> if (BD BL a).2=true then (⟨4,0,0,(BD BL a).1,n⟩,Am ⟨4,0,0,(BD BL a).1,n⟩) else (AE,2)
   | _=> (AE,2))
 else (AE,1)
def Sv (x:P6):A0×Int×Int:=
 if x.err≠0 then (AE,0,x.err)
 else if (B6 x.first x.heads x.note).2≠0 then (AE,0,(B6 x.first x.heads x.note).2)
 else ((B6 x.first x.heads x.note).1,x.all,0)
def DM (b:Wd):A0×Int×Int:=Sv (Ca b)
def Fe (a:AX):Wd:=(Fg a).1++[32]++(Fg a).2++[32,72,84,84,80,47,49,46,49]
def KO (a:AX):Wd:=D0 (Fe a) [] a.note
def Kd (s:A0):Wd:=
 if s.kind=2 then D0 KK [EH++Lib.itoa s.n,BO++Lib.itoa s.m] s.note
 else if s.kind=3 then D0 EB [] Ah
 else if s.kind=4 then D0 DE [BL++Lib.itoa s.err] Ah
 else D0 KK [] Ah
structure UH (f:Wd) (hs:List Wd) (n:AP):Prop where
 nk:NOk n
 hk:hs.length≤1000000
 jk:(Lib.join (I7 f hs n) [13,10]).length≤1000000
def LF:Nat→Lo:=fun id=> match id with | 5=> {uo:=[9],kn:=[5000],ex:=[0]} | 8=> {hand:=true} | _=> {}
theorem ZL (f:Wd) (hs:List Wd) (n:AP) (hp:UH f hs n):A8 Tryz.prog D 189 [.str f,.sl 1 (hs.map Ae),An n] ⟨.sl 1 ((D0 f hs n).map Ac),[]⟩:=by
 have hpl:(I7 f hs n).length=hs.length+n.props.length+4:=by simp[I7,Ct];omega
 have hok:Cl Tryz.prog D (Ao [AB,FL,DF]):=Ar _
 have g1:=Ag (T:=[AB,FL,DF]) (E:=AB) (i:=0) rfl (by decide) ((n.body.length:Int)) (by have:=hp.nk.2.1;show -9223372036854775808≤(n.body.length:Int)∧(n.body.length:Int)≤9223372036854775807;omega)
 have g2:=fun (p:AI) (h:Xl p)=> Ag (T:=[AB,FL,DF]) (E:=FL) (i:=1) rfl (by decide) (p) (h)
 have g3:=Ag (T:=[AB,FL,DF]) (E:=DF) (i:=2) rfl (by decide) ((I7 f hs n,[13,10])) (⟨by have:=hp.jk;show (Lib.join (I7 f hs n) [13,10]).length≤1099511627776;omega,by have:=hp.hk;have:=hp.nk.1;show (I7 f hs n).length≤1099511627776;omega⟩)
 generalize Ao [AB,FL,DF]=G at *
 dsimp only[AB] at g1
 dsimp only[FL] at g2
 dsimp only[DF] at g3
 obtain ⟨⟨hn1,hn2,hn3⟩,hh,hl⟩:=hp
 have hil:=Lib.itoa_length_le (n.body.length:Int) (by omega) (by omega)
 unfold D0
 obtain ⟨ps,bs⟩:=n
 simp only[I7,Jh] at g1 g3 hn1 hn2 hn3 hil hl
 simp only[I7,Jh]
 generalize Lib.itoa (bs.length:Int)=it at *
 have hcon:∀r:Wd,r.length≤1000000→G 183 [.sl 1 (([f]++hs++Ct ps++[[99,111,110,116,101,110,116,45,108,101,110,103,116,104,58,32]++it,[],[]]).map Ae),.str [13,10]]=some ⟨.str r,[]⟩→
   A8 Tryz.prog D 189 [.str f,.sl 1 (hs.map Ae),An ⟨ps,bs⟩] ⟨.sl 1 ((r++bs).map Ac),[]⟩:=by
  intro r hrl g3
  refine Bx (G:=G) (rs:=[(6,none)]) hok Tryz.func189 Tryz.results189 Tryz.ntmps189 (LF) fun X hP hD hG' hX=> ?_
  simp only[AU,Bz,An]
  simp (disch:=omega) only[go_sem,hD,hG',LF,Aa]
  refine ⟨by omega,?_⟩
  refine Tr.loop (ι:=Nat) (fun i=> i≤ps.length) (fun i=> {nt:=46,tm:=[(5,.ptr 5 0),(7,.os 5000),(15,.sl 4 (ps.map Aq)),(16,.int .i64 ps.length),(17,.int .i64 i)],bl:=[(5,some (.cells [.sl 4 (ps.map Aq),.sl 1 (bs.map Ac)])),(5000,some (.rows 9 1 (([f]++hs++Ct (ps.take i)).map Ae)))]}) (fun i=> ps.length - i) 0
   ⟨Nat.zero_le _,AG hD [(5,5),(5000,13)] rfl rfl (by simp only[go_sem];simp) (by simp only[go_sem];simp[Ct,Ae])⟩ ?_
  intro i hi
  refine Al hX LF _ _ _ ?_
  simp (disch:=omega) only[go_sem,hD,hG',LF,Aa]
  refine Ai (fun h=> ?_) (fun h=> ?_)
  ·rw[decide_eq_true_eq] at h
   have hi1:i < ps.length:=by omega
   have hgx:=HJ hi1
   have hti:=J0 hi1
   obtain ⟨hv,hk⟩:=hn3 _ (Dr (d:=ED) hi1)
   have hvl:=Rf hv
   have g2:=g2 _ hv
   have htl:(Ct (ps.take i)).length≤ps.length:=by unfold Ct;rw[List.length_map,List.length_take];omega
   generalize ps.getD i ED=p at *
   obtain ⟨p1,p2,p3,p4⟩:=p
   have hk:p1.data.toList.length≤8388608:=hk
   simp only[Aq] at hgx g2
   simp (disch:=omega) only[go_sem,hD,hG',hgx,g2,LF,Aa]
   (repeat (with_reducible refine aI ?_))
   refine ⟨i+1,⟨by omega,by omega⟩,AG hD [(5,5),(5000,30)] rfl rfl ?_ ?_⟩ <;> simp only[go_sem]
   ·simp
   ·simp[hti,Ct,Px,Ae]
  ·rw[decide_eq_false_iff_not] at h
   have hie:i=ps.length:=by omega
   subst hie
   rw[List.take_length] at *
   have htl:(Ct ps).length≤ps.length:=by unfold Ct;rw[List.length_map];omega
   simp only[List.map_append,List.map_cons,List.map_nil,Ae,List.append_assoc,List.cons_append,List.nil_append] at g3
   simp (disch:=omega) only[go_sem,hD,hG',g1,LF,Aa]
   refine ⟨by omega,by simp only[List.length_append];omega,?_⟩
   generalize (99::111::110::116::101::110::116::45::108::101::110::103::116::104::58::32::it:Wd)=cl at g3 ⊢
   refine Tr.wk (Wk.freeze [39]) ?_
   simp only[go_sem]
   refine (Tr.convapp hX (o1:=⟨some 41,.call ⟨.value (.func 183),#[.tmp 40,.const (.string ⟨#[13,10]⟩)],_⟩,_,_,_,none⟩) (o6:=⟨some 6,.assign (.tmp 45),_,_,_,none⟩) (t0:=40) (t1:=41) (t2:=42) (t3:=43) (t4:=44) (t5:=45) (s0:=7) (s3:=5) (v:=5) (off:=0) (l:=r) (bs:=bs) (cs:=[.sl 4 (ps.map Aq),.sl 1 (bs.map Ac)]) (by decide+kernel) rfl rfl rfl rfl rfl rfl rfl (by rw[hD.1];rfl) (by rw[hD.1];rfl) (by rw[hD.1];rfl) (by rw[hD.1];rfl) (by rw[hD.1];rfl) rfl (show 40 < 46∧41 < 46∧42 < 46∧43 < 46∧44 < 46∧45 < 46 from by decide) (by decide) ?_ ?_ rfl (by omega) ?_ ?_ ?_ ?_)
   ·simp (disch:=omega) only[go_sem,hD,hG',Aa]
   ·simp (disch:=omega) only[go_sem,hD,hG',Aa]
   ·intro c σ' h
    rcases h.1 with h | h <;> cases h
   ·simp (disch:=omega) only[go_sem,hD,hG',g3,Ae,List.map_append,List.append_assoc,List.cons_append,List.nil_append,Aa]
   ·simp (disch:=omega) only[go_sem,hD,hG',g3,Ae,List.map_append,List.append_assoc,List.cons_append,List.nil_append,Aa]
   ·simp (disch:=omega) only[go_sem,hD,hG',Aa]
    refine Aj [] [] (by simp) rfl rfl rfl ?_ ?_ <;> simp only[go_sem]
 exact hcon _ hl g3
def pgH (b:Bool) (hs:List Wd):AV:=match b with | true=> .nils | false=> .sl 1 (hs.map Ae)
def XL (b:Bool) (n:AP):AV:=match b with | true=> .agg [.nils,.nils] | false=> An n
def pgE (x:Wd×List Wd×AP×Bool×Bool):List AV:=[.str x.1,pgH x.2.2.2.1 x.2.1,XL x.2.2.2.2 x.2.2.1]
theorem AbQ {b b':Bool} {hs hs':List Wd} (h1:b=true→hs=[]) (h2:b'=true→hs'=[]) (h:pgH b hs=pgH b' hs'):hs=hs':=by
 cases b <;> cases b' <;> simp only[pgH,AV.sl.injEq,true_and,reduceCtorEq] at h
 ·exact EF h
 ·rw[h1 rfl,h2 rfl]
theorem XM {b b':Bool} {n n':AP} (h1:b=true→n=Ah) (h2:b'=true→n'=Ah) (h:XL b n=XL b' n'):n=n':=by
 cases b <;> cases b' <;> simp only[XL] at h
 ·exact Ec h
 ·simp[An] at h
 ·simp[An] at h
 ·rw[h1 rfl,h2 rfl]
def DQ:BH Tryz.prog D:=⟨189,Wd×List Wd×AP×Bool×Bool,pgE,fun x=> UH x.1 x.2.1 x.2.2.1∧(x.2.2.2.1=true→x.2.1=[])∧(x.2.2.2.2=true→x.2.2.1=Ah),fun x=> ⟨.sl 1 ((D0 x.1 x.2.1 x.2.2.1).map Ac),[]⟩,fun x y hx hy h=> by
 obtain ⟨f,hs,n,b,c⟩:=x
 obtain ⟨f',hs',n',b',c'⟩:=y
 obtain ⟨_,x2,x3⟩:=hx
 obtain ⟨_,y2,y3⟩:=hy
 simp only[pgE,List.cons.injEq,AV.str.injEq,and_true] at h x2 x3 y2 y3
 obtain ⟨rfl,h2,h3⟩:=h
 have e2:=AbQ x2 y2 h2
 have e3:=XM x3 y3 h3
 simp only
 rw[e2,e3],fun x h=> by
 obtain ⟨f,hs,n,b,c⟩:=x
 obtain ⟨h1,h2,h3⟩:=h
 simp only at h1 h2 h3
 refine A8.weak (ZL f hs n h1) ?_
 cases b <;> cases c
 ·simp[pgE,pgH,XL,An,Aw,cov]
 ·have h3:=h3 rfl
  subst h3
  simp[pgE,pgH,XL,An,Ah,Aw,cov]
 ·have h2:=h2 rfl
  subst h2
  simp[pgE,pgH,XL,An,Aw,cov]
 ·have h2:=h2 rfl
  have h3:=h3 rfl
  subst h2 h3
  simp[pgE,pgH,XL,An,Ah,Aw,cov]⟩
theorem YZ {a:AX} (h:Abg a):(Fg a).1.length≤6∧(Fg a).2.length≤1000040:=by
 have hil:=Lib.itoa_length_le a.n (by have:=h.2;omega) (by have:=h.2;omega)
 have hq:a.queue.data.toList.length≤1000000:=h.1
 unfold Fg GJ
 repeat' split
 all_goals (simp only[List.length_append,List.length_cons,List.length_nil];omega)
def Aci (a:AX):Prop:=Abg a∧UH (Fe a) [] a.note
theorem Ru (a:AX) (ha:Aci a):A8 Tryz.prog D 128 [askA a] ⟨.sl 1 ((KO a).map Ac),[]⟩:=by
 have hok:Cl Tryz.prog D (Ao [RL,DQ]):=Ar _
 have g1:=Ag (T:=[RL,DQ]) (E:=RL) (i:=0) rfl (by decide) (a) (ha.1)
 have g2:=Ag (T:=[RL,DQ]) (E:=DQ) (i:=1) rfl (by decide) ((Fe a,[],a.note,true,false)) (⟨ha.2,fun _=> rfl,fun h=> by cases h⟩)
 generalize Ao [RL,DQ]=G at *
 dsimp only[RL] at g1
 dsimp only[DQ] at g2
 obtain ⟨hp1,hp2⟩:=YZ ha.1
 unfold KO
 generalize D0 (Fe a) [] a.note=r at *
 unfold Fe at g2
 generalize Fg a=pw at *
 obtain ⟨m,p⟩:=pw
 simp only at hp1 hp2
 clear ha
 obtain ⟨k,q,n,⟨ps,bs⟩⟩:=a
 simp only[askA,pgE,pgH,XL,An] at g1 g2
 refine Bx (G:=G) (rs:=[(2,none)]) hok Tryz.func128 Tryz.results128 Tryz.ntmps128 (fun _=> {}) fun X hP hD hG' hX=> ?_
 simp only[AU,Bz,askA]
 simp (disch:=omega) only[go_sem,hD,hG',g1,g2,Aa]
 (repeat (with_reducible refine aI ?_))
 refine Aj [] [] (by simp) rfl rfl rfl ?_ ?_ <;> simp only[go_sem]
def Dp:BH Tryz.prog D:=⟨128,AX,fun a=> [askA a],Aci,fun a=> ⟨.sl 1 ((KO a).map Ac),[]⟩,fun x y _ _ h=> by
 simp only[List.cons.injEq,and_true] at h
 rw[Cv h],Ru⟩
structure Aco (s:A0):Prop where
 n: -9223372036854775808≤s.n∧s.n≤9223372036854775807
 m: -9223372036854775808≤s.m∧s.m≤9223372036854775807
 e: -9223372036854775808≤s.err∧s.err≤9223372036854775807
 o2:s.kind=2→UH KK [EH++Lib.itoa s.n,BO++Lib.itoa s.m] s.note
 o4:s.kind=4→UH DE [BL++Lib.itoa s.err] Ah
def Rj:Nat→Lo:=fun id=> match id with | 3=> {lo:=[11]} | _=> {}
theorem Y0:UH EB [] Ah:=⟨⟨by decide,by decide,fun p h=> by cases h⟩,by decide,by decide+kernel⟩
theorem AbR:UH KK [] Ah:=⟨⟨by decide,by decide,fun p h=> by cases h⟩,by decide,by decide+kernel⟩
theorem Rv (s:A0) (hs:Aco s):A8 Tryz.prog D 130 [sayA s] ⟨.sl 1 ((Kd s).map Ac),[]⟩:=by
 have hok:Cl Tryz.prog D (Ao [AB,DQ]):=Ar _
 have g1:=Ag (T:=[AB,DQ]) (E:=AB) (i:=0) rfl (by decide) (s.n) (hs.n)
 have g2:=Ag (T:=[AB,DQ]) (E:=AB) (i:=0) rfl (by decide) (s.m) (hs.m)
 have g3:=Ag (T:=[AB,DQ]) (E:=AB) (i:=0) rfl (by decide) (s.err) (hs.e)
 have g4:=fun (h:s.kind=2)=> Ag (T:=[AB,DQ]) (E:=DQ) (i:=1) rfl (by decide) ((KK,[EH++Lib.itoa s.n,BO++Lib.itoa s.m],s.note,false,false)) (⟨hs.o2 h,fun h=> (by cases h),fun h=> (by cases h)⟩)
 have g5:=fun (h:s.kind=4)=> Ag (T:=[AB,DQ]) (E:=DQ) (i:=1) rfl (by decide) ((DE,[BL++Lib.itoa s.err],Ah,false,true)) (⟨hs.o4 h,fun h=> (by cases h),fun _=> rfl⟩)
 have g6:=Ag (T:=[AB,DQ]) (E:=DQ) (i:=1) rfl (by decide) ((EB,[],Ah,true,true)) (⟨Y0,fun _=> rfl,fun _=> rfl⟩)
 have g7:=Ag (T:=[AB,DQ]) (E:=DQ) (i:=1) rfl (by decide) ((KK,[],Ah,true,true)) (⟨AbR,fun _=> rfl,fun _=> rfl⟩)
 generalize Ao [AB,DQ]=G at *
 dsimp only[AB] at g1
 dsimp only[AB] at g2
 dsimp only[AB] at g3
 dsimp only[DQ] at g4
 dsimp only[DQ] at g5
 dsimp only[DQ] at g6
 dsimp only[DQ] at g7
 have hi1:=Lib.itoa_length_le s.n hs.n.1 hs.n.2
 have hi2:=Lib.itoa_length_le s.m hs.m.1 hs.m.2
 have hi3:=Lib.itoa_length_le s.err hs.e.1 hs.e.2
 unfold Kd
 clear hs
 generalize D0 KK [EH++Lib.itoa s.n,BO++Lib.itoa s.m] s.note=r4 at *
 generalize D0 DE [BL++Lib.itoa s.err] Ah=r5 at *
 generalize D0 EB [] Ah=r6 at *
 generalize D0 KK [] Ah=r7 at *
 obtain ⟨k,n,m,e,⟨ps,bs⟩⟩:=s
 simp only at g1 g2 g3 g4 g5 hi1 hi2 hi3
 generalize Lib.itoa n=it at *
 generalize Lib.itoa m=jt at *
 generalize Lib.itoa e=et at *
 simp only[pgE,pgH,XL,An,KK,EB,DE,EH,BO,BL,List.map_cons,List.map_nil,Ae,List.cons_append,List.nil_append] at g4 g5 g6 g7
 refine Bx (G:=G) (rs:=[(2,none)]) hok Tryz.func130 Tryz.results130 Tryz.ntmps130 (Rj) fun X hP hD hG' hX=> ?_
 simp only[AU,Bz,sayA]
 by_cases h2:k=2
 ·have e2:(k==2)=true:=by simp[h2]
  have g4:=g4 h2
  rw[if_pos h2]
  simp (disch:=omega) only[go_sem,hD,hG',Rj,e2,g1,g2,g4,Aa]
  (repeat (with_reducible refine aI ?_))
  refine Aj [] [] (by simp) rfl rfl rfl ?_ ?_ <;> simp only[go_sem]
 have e2:(k==2)=false:=by simp[h2]
 rw[if_neg h2]
 by_cases h3:k=3
 ·have e3:(k==3)=true:=by simp[h3]
  rw[if_pos h3]
  simp (disch:=omega) only[go_sem,hD,hG',Rj,e2,e3,g6,Aa]
  (repeat (with_reducible refine aI ?_))
  refine Aj [] [] (by simp) rfl rfl rfl ?_ ?_ <;> simp only[go_sem]
 have e3:(k==3)=false:=by simp[h3]
 rw[if_neg h3]
 by_cases h4:k=4
 ·have e4:(k==4)=true:=by simp[h4]
  have g5:=g5 h4
  rw[if_pos h4]
  simp (disch:=omega) only[go_sem,hD,hG',Rj,e2,e3,e4,g3,g5,Aa]
  (repeat (with_reducible refine aI ?_))
  refine Aj [] [] (by simp) rfl rfl rfl ?_ ?_ <;> simp only[go_sem]
 have e4:(k==4)=false:=by simp[h4]
 rw[if_neg h4]
 simp (disch:=omega) only[go_sem,hD,hG',Rj,e2,e3,e4,g7,Aa]
 (repeat (with_reducible refine aI ?_))
 refine Aj [] [] (by simp) rfl rfl rfl ?_ ?_ <;> simp only[go_sem]
def Dq:BH Tryz.prog D:=⟨130,A0,fun s=> [sayA s],Aco,fun s=> ⟨.sl 1 ((Kd s).map Ac),[]⟩,fun x y _ _ h=> by
 simp only[List.cons.injEq,and_true] at h
 rw[CJ h],Rv⟩
end Go.Proofs.YtlkmgccikgnaeaaGreatDoor.Ab
