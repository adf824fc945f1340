/-
  Texts of the proof, one behind the other: Data Base Laws Map NoteA NoteB NoteC Law Open.
  No condition but those that each theorem names.
-/
import Derived.WalkKit
import Derived.Lib.Hide
import Derived.Maps.AppendAt
import Derived.Deep.AppendLies
import Derived.Deep.Draws
import Derived.RegionTactic
import Derived.OwnWalk
import Derived.Deep.QuietTactic
import Derived.BigQuiet
import Derived.Deep.RegionWith
import Derived.WalkSpells
import Derived.WalkLawsBesides
import Derived.Deep.RegionLaw
import Derived.MapKept
import Derived.Test.YtlkmgccikgnaeaaGreatDoorChecked
import Derived.KernelRfl
import Derived.Deep.RegionHeld3
import Derived.Lib.SliceRun
import Derived.Test.YtlkmgccikgnaeaaGreatDoorRows
import Derived.ProofKit
import Derived.OpenShut
import Derived.JoinedCond
import Derived.Carry
import Derived.ChangeSlices
import Derived.ChangeAt
import Derived.Deep.Slices
set_option linter.unusedVariables false
set_option linter.unusedSimpArgs false
set_option maxRecDepth 100000
set_option maxHeartbeats 16000000
namespace Go.Proofs.YtlkmgccikgnaeaaGreatDoor
structure AI where
 key:ByteArray
 kind:Int
 n:Int
 text:ByteArray
 deriving DecidableEq
structure AP where
 props:List AI
 body:List UInt8
 deriving DecidableEq
structure Ads where
 bytes:List UInt8
 sure:Int
 deriving DecidableEq
def AI.Fits (p:AI):Prop:=p.key.size≤1048576∧p.text.size≤1048576
def AP.Fits (n:AP):Prop:=(∀p∈n.props,p.Fits)∧n.props.length≤1048576∧n.body.length≤1048576
def Ip (c:UInt8):Bool:=97≤c.toNat&&c.toNat≤122
def DT (s:ByteArray):Bool:=s.data.toList.all Ip&&decide (1≤s.size)&&decide (s.size≤8)
def A9 (p:AI):Int:=
 if DT p.key=false then 7
 else if p.kind < 1∨3 < p.kind then 1
 else if (p.kind=1∧(p.n < -1073741824∨1073741824 < p.n))∨(p.kind=3∧(p.n < 0∨1 < p.n)) then 3
 else if p.kind=2∧12 < p.text.size then 4
 else if (p.kind=2∧p.n≠0)∨(p.kind≠2∧0 < p.text.size) then 2
 else 0
def Du:List AI→Int
 | []=> 0
 | p::r=> if A9 p=0 then Du r else A9 p
def AZ (n:AP):Int:=
 if 4 < n.props.length then 5
 else if Du n.props≠0 then Du n.props
 else if 40 < n.body.length then 4
 else 0
def Ada (l:List UInt8):Nat:=l.foldl (fun s c=> (s*33+c.toNat+1)%65521) 7
def SC (n:Nat):UInt8:=UInt8.ofNat n
def AC (r:List UInt8):List UInt8:=
 let h:=SC (r.length/256)::SC r.length::r
 h++[SC (Ada h/256),SC (Ada h)]
theorem G2 (r:List UInt8):(AC r).length=r.length+4:=by simp[AC]
open Go.RowKit
theorem CB {k:IntKind} {a b:Int} (h:a=b):Ending.returned (.int k a)=.returned (.int k b):=by rw[h]
theorem Fi {a b:Bool} (h:a=b):Ending.returned (.bool a)=.returned (.bool b):=by rw[h]
theorem IN (t:ByteArray):t.toList.isEmpty=decide (t.size=0):=by
 rw[ByteArray.toList_eq,Bool.eq_iff_iff,List.isEmpty_iff_length_eq_zero]
 simp only[decide_eq_true_eq]
 rfl
theorem I0 {W w1:World} (hb:Below W.heap.size W w1):(∀b o,b < W.heap.size→w1.cell? ⟨b,o,none⟩=W.cell? ⟨b,o,none⟩)∧(∀b o,b < W.heap.size→w1.frozen? ⟨b,o,none⟩=W.frozen? ⟨b,o,none⟩):=
 ⟨fun b o h=> hb.cell (p:=⟨b,o,none⟩) h,fun b o h=> hb.frozen (p:=⟨b,o,none⟩) h⟩
theorem KQ (a:Addr) (n:Nat):(a.add n).block=a.block:=by unfold Addr.add;split <;> rfl
theorem KM (b o n:Nat):(⟨b,o,none⟩:Addr).add n=⟨b,o+n,none⟩:=by unfold Addr.add;split <;> simp_all
def IC (S:Nat→Prop) (w w':World):Prop:=∀b,S b→w'.heap[b]? =w.heap[b]?
theorem IC.refl (S:Nat→Prop) (w:World):IC S w w:=fun _ _=> rfl
theorem IC.trans {S:Nat→Prop} {a b c:World} (h:IC S a b) (k:IC S b c):IC S a c:=fun i hi=> (k i hi).trans (h i hi)
theorem IC.cell {S:Nat→Prop} {w w':World} (h:IC S w w') {p:Addr} (hp:S p.block):w'.cell? p=w.cell? p:=World.cell?_of_block (h _ hp)
theorem IC.below {B:Nat} {w w':World} (h:Below B w w') {S:Nat→Prop} (hS:∀b,S b→b < B):IC S w w':=fun b hb=> h.block b (hS b hb)
def Dh (w:World) (S:Nat→Prop) (size:Nat) (A:Option Addr) (n:Nat) (xs:List Value):Prop:=
 xs.length=n*size∧(0 < n→∃b o,A=some ⟨b,o,none⟩∧S b∧∀j u,xs[j]? =some u→w.cell? ⟨b,o+j,none⟩=some u)
section
variable {w w':World} {S S':Nat→Prop} {size n:Nat} {A:Option Addr} {xs:List Value}
theorem Dh.nil:Dh w S size A 0 []:=⟨by simp,fun h=> absurd h (by omega)⟩
theorem Dh.keep (h:Dh w S size A n xs) (hk:IC S w w'):Dh w' S size A n xs:=
 ⟨h.1,fun hn=> by
  obtain ⟨b,o,e,hb,hc⟩:=h.2 hn
  exact ⟨b,o,e,hb,fun j u hu=> (hk.cell hb).trans (hc j u hu)⟩⟩
theorem Dh.mono (h:Dh w S size A n xs) (hS:∀b,S b→S' b):Dh w S' size A n xs:=
 ⟨h.1,fun hn=> by
  obtain ⟨b,o,e,hb,hc⟩:=h.2 hn
  exact ⟨b,o,e,hS b hb,hc⟩⟩
end
theorem UP {a w:World} (h:Below a.heap.size a w) (o:Obj):Below a.heap.size a (w.alloc o):=h.alloc h.size o
theorem Pj {B:Nat} {a w:World} (h:Below B a w) (n:Nat):Below B a (w.drewN n):=⟨h.os,h.tape,h.output,h.size,h.block⟩
theorem Dh.later {w W:World} {size n:Nat} {A:Option Addr} {xs:List Value} (h:Dh w (· < w.heap.size) size A n xs) (hb:Below w.heap.size w W):Dh W (· < W.heap.size) size A n xs:=
 (h.keep (IC.below hb fun _ h=> h)).mono fun b hb'=> Nat.lt_of_lt_of_le hb' hb.size
def Ic (b:UInt8):Value:=.int .u8 b.toNat
def CZ (w:World) (S:Nat→Prop) (A:Option Addr) (l:List UInt8):Prop:=Dh w S 1 A l.length (l.map Ic)
section
variable {w w':World} {S S':Nat→Prop} {A:Option Addr} {l:List UInt8}
theorem CZ.keep (h:CZ w S A l) (hk:IC S w w'):CZ w' S A l:=Dh.keep h hk
theorem CZ.mono (h:CZ w S A l) (hS:∀b,S b→S' b):CZ w S' A l:=Dh.mono h hS
theorem CZ.at_ (h:CZ w S A l) (hl:0 < l.length):∃b o,A=some ⟨b,o,none⟩∧S b∧∀(k:Nat) (hk:k < l.length),w.cell? ⟨b,o+k,none⟩=some (.int .u8 l[k].toNat):=by
 obtain ⟨b,o,e,hb,hc⟩:=h.2 hl
 exact ⟨b,o,e,hb,fun k hk=> hc k _ (by simp[hk,Ic])⟩
end
theorem CZ.take {w:World} {S:Nat→Prop} {A:Option Addr} {l:List UInt8} (h:CZ w S A l) (k:Nat):CZ w S A (l.take k):=by
 refine ⟨by simp,fun hk=> ?_⟩
 have hl:0 < l.length:=by rw[List.length_take] at hk;omega
 obtain ⟨b,o,e,hb,hc⟩:=h.at_ hl
 refine ⟨b,o,e,hb,fun j u hu=> ?_⟩
 rw[List.map_take,List.getElem?_take] at hu
 split at hu
 ·have hj:j < l.length:=by
   rcases Nat.lt_or_ge j l.length with h' | h'
   ·exact h'
   ·rw[List.getElem?_eq_none (by simpa using h')] at hu;cases hu
  rw[hc j hj]
  rw[List.getElem?_map,List.getElem?_eq_getElem hj] at hu
  exact hu
 ·cases hu
theorem CZ.drop {w:World} {S:Nat→Prop} {b o:Nat} {l:List UInt8} (h:CZ w S (some ⟨b,o,none⟩) l) (k:Nat) (A:Option Addr) (hA:k < l.length→A=some ⟨b,o+k,none⟩):CZ w S A (l.drop k):=by
 refine ⟨by simp,fun hk=> ?_⟩
 rw[List.length_drop] at hk
 have hl:k < l.length:=by omega
 obtain ⟨b',o',e,hb,hc⟩:=h.at_ (by omega)
 injection e with e
 injection e with e1 e2 e3
 subst e1 e2
 refine ⟨b,o+k,hA hl,hb,fun j u hu=> ?_⟩
 rw[List.getElem?_map,List.getElem?_drop] at hu
 have hj:k+j < l.length:=by
  rcases Nat.lt_or_ge (k+j) l.length with h' | h'
  ·exact h'
  ·rw[List.getElem?_eq_none h'] at hu;cases hu
 rw[Nat.add_assoc,hc (k+j) hj]
 rw[List.getElem?_eq_getElem hj] at hu
 exact hu
def Hd (p:AI):List Value:=[.string p.key,.int .i64 p.kind,.int .i64 p.n,.string p.text]
def Gt (w:World) (S:Nat→Prop) (A:Option Addr) (l:List AI):Prop:=Dh w S 4 A l.length (l.flatMap Hd)
theorem Pp {α:Type} (f:α→List Value) (m:Nat) (hf:∀x,(f x).length=m) (l:List α):∀(k:Nat) (hk:k < l.length) (j:Nat) (_hj:j < m),(l.flatMap f)[k*m+j]? =(f l[k])[j]?:=by
 induction l with
 | nil=> intro k hk;simp at hk
 | cons x r ih=>
  intro k hk j hj
  rw[List.flatMap_cons]
  cases k with
  | zero=> rw[List.getElem?_append_left (by rw[hf];omega)];simp
  | succ k=>
   rw[List.getElem?_append_right (by rw[hf,Nat.add_mul];omega),hf]
   have e:(k+1)*m+j - m=k*m+j:=by rw[Nat.add_mul];omega
   rw[e]
   exact ih k (by simpa using hk) j hj
theorem Pq {α:Type} (f:α→List Value) (m:Nat) (hf:∀x,(f x).length=m) (l:List α):(l.flatMap f).length=l.length*m:=by
 induction l with
 | nil=> simp
 | cons x r ih=> rw[List.flatMap_cons,List.length_append,hf,ih,List.length_cons,Nat.add_mul];omega
section
variable {w w':World} {S S':Nat→Prop} {A:Option Addr} {l:List AI}
theorem Gt.keep (h:Gt w S A l) (hk:IC S w w'):Gt w' S A l:=Dh.keep h hk
theorem Gt.mono (h:Gt w S A l) (hS:∀b,S b→S' b):Gt w S' A l:=Dh.mono h hS
theorem Gt.at_ (h:Gt w S A l) (hl:0 < l.length):∃b o,A=some ⟨b,o,none⟩∧S b∧∀(k:Nat) (hk:k < l.length),
  w.cell? ⟨b,o+k*4,none⟩=some (.string l[k].key)∧w.cell? ⟨b,o+k*4+1,none⟩=some (.int .i64 l[k].kind)∧
  w.cell? ⟨b,o+k*4+2,none⟩=some (.int .i64 l[k].n)∧w.cell? ⟨b,o+k*4+3,none⟩=some (.string l[k].text):=by
 obtain ⟨b,o,e,hb,hc⟩:=h.2 hl
 refine ⟨b,o,e,hb,fun k hk=> ?_⟩
 have hg:=Pp Hd 4 (fun _=> rfl) l k hk
 refine ⟨hc _ _ ((hg 0 (by omega)).trans rfl),?_,?_,?_⟩
 ·rw[Nat.add_assoc];exact hc _ _ ((hg 1 (by omega)).trans rfl)
 ·rw[Nat.add_assoc];exact hc _ _ ((hg 2 (by omega)).trans rfl)
 ·rw[Nat.add_assoc];exact hc _ _ ((hg 3 (by omega)).trans rfl)
end
def Adj (h:Option Addr×Nat) (r:List UInt8):Value:=.slice h.1 r.length h.2
def Je (w:World) (S S2:Nat→Prop) (A:Option Addr) (rs:List (List UInt8)):Prop:=
 ∃hs:List (Option Addr×Nat),hs.length=rs.length∧Dh w S 1 A rs.length (List.zipWith Adj hs rs)∧
  ∀(i:Nat) (h1:i < hs.length) (h2:i < rs.length),CZ w S2 hs[i].1 rs[i]∧rs[i].length≤hs[i].2∧hs[i].2≤maxLen
theorem Je.keep {w w':World} {S S2:Nat→Prop} {A:Option Addr} {rs:List (List UInt8)} (h:Je w S S2 A rs) (hk:IC S w w') (hk2:IC S2 w w'):Je w' S S2 A rs:=by
 obtain ⟨hs,h1,h2,h3⟩:=h
 exact ⟨hs,h1,h2.keep hk,fun i a b=> ⟨(h3 i a b).1.keep hk2,(h3 i a b).2⟩⟩
theorem Je.mono {w:World} {S S2 S' S2':Nat→Prop} {A:Option Addr} {rs:List (List UInt8)} (h:Je w S S2 A rs) (hk:∀b,S b→S' b) (hk2:∀b,S2 b→S2' b):Je w S' S2' A rs:=by
 obtain ⟨hs,h1,h2,h3⟩:=h
 exact ⟨hs,h1,h2.mono hk,fun i a b=> ⟨(h3 i a b).1.mono hk2,(h3 i a b).2⟩⟩
theorem Je.later {w W:World} {A:Option Addr} {rs:List (List UInt8)} (h:Je w (· < w.heap.size) (· < w.heap.size) A rs) (hb:Below w.heap.size w W):Je W (· < W.heap.size) (· < W.heap.size) A rs:=
 (h.keep (IC.below hb fun _ h=> h) (IC.below hb fun _ h=> h)).mono (fun b hb'=> Nat.lt_of_lt_of_le hb' hb.size) (fun b hb'=> Nat.lt_of_lt_of_le hb' hb.size)
theorem Je.at_ {w:World} {S S2:Nat→Prop} {A:Option Addr} {rs:List (List UInt8)} (h:Je w S S2 A rs) (hl:0 < rs.length):∃b o,A=some ⟨b,o,none⟩∧S b∧
  ∀(k:Nat) (hk:k < rs.length),∃A1 c1,w.cell? ⟨b,o+k,none⟩=some (.slice A1 rs[k].length c1)∧CZ w S2 A1 rs[k]∧rs[k].length≤c1∧c1≤maxLen:=by
 obtain ⟨hs,h1,h2,h3⟩:=h
 obtain ⟨b,o,e,hb,hc⟩:=h2.2 hl
 refine ⟨b,o,e,hb,fun k hk=> ?_⟩
 have hk':k < hs.length:=by omega
 obtain ⟨r1,r2,r3⟩:=h3 k hk' hk
 exact ⟨hs[k].1,hs[k].2,hc k _ (by rw[List.getElem?_zipWith,List.getElem?_eq_getElem hk',List.getElem?_eq_getElem hk];rfl),r1,r2,r3⟩
theorem Dh.ext {w:World} {S:Nat→Prop} {size n:Nat} {A:Option Addr} {xs:List Value} (h:Dh w S size A n xs) (hn:0 < n):
  ∃b o,A=some ⟨b,o,none⟩∧S b∧∀j u,xs[j]? =some u→w.cell? ((⟨b,o,none⟩:Addr).add j)=some u:=by
 obtain ⟨b,o,e,hb,hc⟩:=h.2 hn
 exact ⟨b,o,e,hb,fun j u hu=> by rw[KM];exact hc j u hu⟩
theorem R9 {w:World} {base e size n:Nat} {v:Value} {xs:List Value} (h:w.ownsRow base e size v n xs):
  ∃A c,v=.slice A n c∧n≤c∧c≤maxLen∧Dh w (fun b=> base≤b∧b < w.heap.size∧v.ownBlock=some b) size A n xs:=by
 rcases h.2 with ⟨rfl,rfl⟩ | ⟨g,cap,cur,rfl,hb,hg,h1,h2,h3,h4⟩
 ·exact ⟨none,0,rfl,Nat.le_refl _,by simp,h.1,fun hn=> absurd hn (by omega)⟩
 ·refine ⟨_,_,rfl,h1,h2,h.1,fun _=> ⟨g,0,rfl,⟨hb,(Array.getElem?_eq_some_iff.1 hg).1,by simp[Value.ownBlock]⟩,?_⟩⟩
  intro j u hu
  have:=h.cells (g:=g) (by simp[Value.ownBlock]) j u hu
  rw[KM] at this
  exact this
theorem Y8 (w:World) (cs:Array Value) (e size n:Nat) (hs:cs.size=n*size):Dh (w.alloc (.cells cs e)) (·=w.heap.size) size (some ⟨w.heap.size,0,none⟩) n cs.toList:=by
 refine ⟨by simpa using hs,fun _=> ⟨_,0,rfl,rfl,fun j u hu=> ?_⟩⟩
 rw[Nat.zero_add,World.cell?_alloc_new]
 simpa using hu
theorem AaN {w w':World} {base e size n:Nat} {v:Value} {xs:List Value} (h:w.ownsRow base e size v n xs) (hk:∀g,v.ownBlock=some g→w'.heap[g]? =w.heap[g]?):w'.ownsRow base e size v n xs:=by
 refine ⟨h.1,?_⟩
 rcases h.2 with h2 | ⟨g,cap,cur,rfl,hg,hh,r⟩
 ·exact .inl h2
 ·exact .inr ⟨g,cap,cur,rfl,hg,(hk g (by simp[Value.ownBlock])).trans hh,r⟩
theorem YY {w w':World} {base e size n:Nat} {v:Value} {xs:List Value} (h:w.ownsRow base e size v n xs) (hb:Below w.heap.size w w'):w'.ownsRow base e size v n xs:=
 AaN h fun g hg=> hb.block g (h.lt g hg).2
def Be (w:World) (g:Nat) (t:TypeId) (cs:Array Value):Prop:=w.heap[g]? =some (.cells cs t (0,0))
section
variable {w w':World} {g:Nat} {t:TypeId} {cs:Array Value}
theorem Be.lt (h:Be w g t cs):g < w.heap.size:=by
 rcases Nat.lt_or_ge g w.heap.size with hlt | hge
 ·exact hlt
 ·unfold Be at h;rw[Array.getElem?_eq_none hge] at h;cases h
theorem Be.cell (h:Be w g t cs) (i:Nat):w.cell? ⟨g,i,none⟩=cs[i]?:=cell_of_row w g i cs t (0,0) h
theorem Be.frozen (h:Be w g t cs) (i:Nat):w.frozen? ⟨g,i,none⟩=false:=by
 unfold Be at h
 simp[World.frozen?,h]
theorem Be.new (w:World) (t:TypeId) (cs:Array Value):Be (w.alloc (.cells cs t)) w.heap.size t cs:=heap_alloc_new w _
theorem Be.drew (h:Be w g t cs):Be w.drew g t cs:=h
theorem Be.drewN (h:Be w g t cs) (n:Nat):Be (w.drewN n) g t cs:=h
theorem Be.alloc (h:Be w g t cs) (o:Obj):Be (w.alloc o) g t cs:=(Below.heap_alloc w o g h.lt).trans h
theorem Be.far (h:Be w g t cs) {p:Addr} (hp:g≠p.block) (u:Value):Be (w.setCell p u) g t cs:=(Below.heap_setCell w p u g hp).trans h
theorem Be.below {B:Nat} (h:Be w g t cs) (hb:Below B w w') (hg:g < B):Be w' g t cs:=(hb.block g hg).trans h
theorem Be.later (h:Be w g t cs) (hb:Below w.heap.size w w'):Be w' g t cs:=h.below hb h.lt
theorem Be.grown {row:Option Nat} (h:Be w g t cs) (hb:w.grownBy w' row) (hg:some g≠row):Be w' g t cs:=(hb.block g h.lt hg).trans h
end
section
variable {P:Program} (w:World)
theorem IY {ops:Array Oper} {rest:List Oper} {o:Oper} {a:Act} {Q:Exit→Act→World→Prop} (hgd:o.guard=none) (x:Operand) (src dst e:TypeId)
  (ho:o.op=.convert src dst x) (hs:P.underlying src=some .string) (hd:P.underlying dst=some (.slice e)) (he:P.underlying e=some (.int .u8)) (s:ByteArray) (l:List UInt8) (hsl:s.data.toList=l) (hx:a.eval x=.string s)
  (h:∀c w',s.size≤c→c≤maxLen→CZ w' (fun b=> w.heap.size≤b∧b < w'.heap.size) (some ⟨w.heap.size,0,none⟩) l→Below w.heap.size w w'→
   wpList P ops Q rest (a.put o.dst (.slice (some ⟨w.heap.size,0,none⟩) l.length c)) w') (hm:s.size≤4294967296):wpList P ops Q (o::rest) a w:=by
 subst hsl
 refine wpList_plain hgd fun K hK=> ?_
 have hrun:=run_bytes_of_string (P:=P) w src dst e s hs hd he
 unfold Oper.wp execOp
 simp only[ho,hx,Sem.run_bind,hrun,Result.andThen_ok,Sem.run_pure]
 have hl:s.data.toList.length=s.size:=rfl
 rw[←hl]
 refine hK _ _ (h _ _ (grownCap_ge _ _ _ _) (grownCap_le_maxLen _ _ _ _ (Nat.le_trans hm (by decide))) ⟨by simp,fun _=> ⟨_,0,rfl,⟨Nat.le_refl _,by simp⟩,?_⟩⟩ ((Below.refl _ w).drew.alloc (Nat.le_refl _) _))
 intro j u hu
 have hj:j < s.data.size:=by
  have:=(List.getElem?_eq_some_iff.1 hu).1
  simpa using this
 have h1:=World.cell?_alloc_mark w.drew (bytesRow s (grownCap w s.size 0 e)) e ((bytesRow s (grownCap w s.size 0 e)).size,(bytesRow s (grownCap w s.size 0 e)).size+1) j
 rw[bytesRow_at s _ j hj] at h1
 rw[Nat.zero_add]
 refine h1.trans ?_
 rw[←hu,List.getElem?_map,Array.getElem?_toList,Array.getElem?_eq_getElem hj]
 rfl
theorem K8 (base:Nat) (t ty e:TypeId) (i:TypeInfo) (size:Nat) (ht:P.underlying t=some (.slice e)) (hi:P.info? e=some i)
  (v:Value) (n:Nat) (xs:List Value) (hown:w.ownsRow base e size v n xs) (c:Nat):(Builtin.append_ #[t,t] ty #[v,.slice none 0 c]).run P w=.ok v w:=by
 rcases hown.2 with ⟨rfl,rfl⟩ | ⟨g,cap,cur,rfl,_,_,hnc,_⟩
 ·simp[Builtin.append_,run_underlying ht,sizeOf,typeInfo,hi,Builtin.lenOf,Builtin.firstCells]
 ·simp[Builtin.append_,run_underlying ht,sizeOf,typeInfo,hi,Builtin.lenOf,Builtin.firstCells,hnc,storeCells]
theorem Q3 (base:Nat) (t ty e:TypeId) (i:TypeInfo) (z:Value) (size bytes:Nat) (ht:P.underlying t=some (.slice e)) (hi:P.info? e=some i) (hz:i.zero=some z)
  (hsize:i.size=size) (hby:i.bytes=bytes) (hzs:z.cells.size=size) (hsz:0 < size)
  (v:Value) (n:Nat) (xs:List Value) (hown:w.ownsRow base e size v n xs)
  (S:Nat→Prop) (A:Option Addr) (m c:Nat) (news:List Value) (hr:Dh w S size A m news) (h1:∀u∈news,u.oneCell'=true)
  (h63:n+m≤maxLen) (hbytes:(n+m)*bytes≤140737488355328) (hbase:base≤w.heap.size):
  ∃v' w',(Builtin.append_ #[t,t] ty #[v,.slice A m c]).run P w=.ok v' w'∧w'.ownsRow base e size v' (n+m) (xs++news)∧w.grownBy w' v.ownBlock∧
   (v'.ownBlock=v.ownBlock∨v'.ownBlock=some w.heap.size):=by
 rcases A with _ | ad
 ·have hm:m=0:=by
   rcases Nat.eq_zero_or_pos m with h0 | h0
   ·exact h0
   ·obtain ⟨b,o,h,_⟩:=hr.2 h0
    cases h
  subst hm
  have hn:news=[]:=List.eq_nil_of_length_eq_zero (by simpa using hr.1)
  subst hn
  exact ⟨v,w,K8 w base t ty e i size ht hi v n xs hown c,by simpa using hown,World.grownBy.refl w _,.inl rfl⟩
 ·have hcells:∀j u,news[j]? =some u→w.cell? (ad.add j)=some u:=by
   intro j u hu
   rcases Nat.eq_zero_or_pos m with h0 | h0
   ·subst h0
    have hn:news=[]:=List.eq_nil_of_length_eq_zero (by simpa using hr.1)
    subst hn
    simp at hu
   ·obtain ⟨b,o,h,_,hc⟩:=hr.ext h0
    injection h with h
    subst h
    exact hc j u hu
  obtain ⟨v',w',hrun,h2,h3,_,h5⟩:=run_append_own_at (P:=P) w base t ty e i z size bytes ht hi hz hsize hby hzs hsz v n xs hown ad m c news hr.1 hcells h1 h63 hbytes hbase
  exact ⟨v',w',hrun,h2,h3,h5⟩
theorem RG {o:Oper} {a:Act} {K:Act→World→Prop} {Q:Exit→Act→World→Prop} (s x:Operand) (t:TypeId)
  (ho:o.op=.call {callee:=.builtin .append,args:=#[s,x],argTypes:=#[t,t]})
  (base:Nat) (e:TypeId) (i:TypeInfo) (z:Value) (size bytes:Nat) (ht:P.underlying t=some (.slice e)) (hi:P.info? e=some i) (hz:i.zero=some z)
  (hsize:i.size=size) (hby:i.bytes=bytes) (hzs:z.cells.size=size) (hsz:0 < size)
  (v:Value) (n:Nat) (xs:List Value) (hs:a.eval s=v) (hown:w.ownsRow base e size v n xs)
  (S:Nat→Prop) (A:Option Addr) (m c:Nat) (news:List Value) (hx:a.eval x=.slice A m c) (hr:Dh w S size A m news) (h1:∀u∈news,u.oneCell'=true)
  (h63:n+m≤maxLen) (hbytes:(n+m)*bytes≤140737488355328) (hbase:base≤w.heap.size)
  (h:∀v' w',w'.ownsRow base e size v' (n+m) (xs++news)→w.grownBy w' v.ownBlock→(v'.ownBlock=v.ownBlock∨v'.ownBlock=some w.heap.size)→K (a.put o.dst v') w'):o.wp P a w K Q:=by
 obtain ⟨v',w',hrun,h2,h3,h4⟩:=Q3 (P:=P) w base t o.type e i z size bytes ht hi hz hsize hby hzs hsz v n xs hown S A m c news hr h1 h63 hbytes hbase
 unfold Oper.wp execOp
 simp only[ho,resolve,invoke,builtin,Sem.run_bind,Sem.run_pure,Result.andThen_ok,List.map_toArray,List.map_cons,List.map_nil,hs,hx,hrun]
 exact h v' w' h2 h3 h4
theorem H2 {ops:Array Oper} {rest:List Oper} {o:Oper} {a:Act} {Q:Exit→Act→World→Prop} (hgd:o.guard=none) (s x:Operand) (t:TypeId)
  (ho:o.op=.call {callee:=.builtin .append,args:=#[s,x],argTypes:=#[t,t]})
  (base:Nat) (e:TypeId) (i:TypeInfo) (z:Value) (size bytes:Nat) (ht:P.underlying t=some (.slice e)) (hi:P.info? e=some i) (hz:i.zero=some z)
  (hsize:i.size=size) (hby:i.bytes=bytes) (hzs:z.cells.size=size) (hsz:0 < size)
  (v:Value) (n:Nat) (xs:List Value) (hs:a.eval s=v) (hown:w.ownsRow base e size v n xs)
  (S:Nat→Prop) (A:Option Addr) (m c:Nat) (news:List Value) (hx:a.eval x=.slice A m c) (hr:Dh w S size A m news) (h1:∀u∈news,u.oneCell'=true)
  (h63:n+m≤maxLen) (hbytes:(n+m)*bytes≤140737488355328) (hbase:base≤w.heap.size)
  (h:∀v' w',w'.ownsRow base e size v' (n+m) (xs++news)→w.grownBy w' v.ownBlock→(v'.ownBlock=v.ownBlock∨v'.ownBlock=some w.heap.size)→wpList P ops Q rest (a.put o.dst v') w'):wpList P ops Q (o::rest) a w:=
 wpList_plain hgd fun _ hK=> RG w s x t ho base e i z size bytes ht hi hz hsize hby hzs hsz v n xs hs hown S A m c news hx hr h1 h63 hbytes hbase fun v' w' h2 h3 h4=> hK _ _ (h v' w' h2 h3 h4)
end
section
variable {P:Program} (w:World)
end
section
variable {P:Program}
theorem Tj (W:World) (o o':Obj):({W.alloc o with heap:=(W.alloc o).heap.setIfInBounds W.heap.size o'}:World)=W.alloc o':=by
 simp only[World.alloc]
 congr 1
 apply Array.ext
 ·simp
 ·intro i h1 h2
  rw[Array.getElem_setIfInBounds (by simpa using h1),Array.getElem_push,Array.getElem_push]
  by_cases h:W.heap.size=i
  ·subst h;simp
  ·have hi:i < W.heap.size:=by simp at h1;omega
   simp[h,hi]
theorem Ed (t kt et:TypeId) (hu:P.underlying t=some (.map kt et)) (d:TypeDesc) (hk:P.underlying kt=some d) (W:World) (es:Array MapEntry) (c:Nat) (k v:Value)
  (hik:MapKept.IsKey d k) (hf:Instr.findNow d k es.toList 0=some none):
  (Instr.mapUpdate t (.map (some W.heap.size)) k v).run P (W.alloc (.map es c))=.ok () (W.alloc (.map (es.push ⟨k,v,c⟩) (c+1))):=by
 have h0:(W.alloc (.map es c)).heap[W.heap.size]? =some (.map es c):=heap_alloc_new W _
 simp[Instr.mapUpdate,run_underlying hu,MapKept.run_getObj_map h0,MapKept.run_checkKey hk hik,MapKept.run_findKey hk hf,MapKept.run_setObj_map _ h0,Result.andThen]
 exact Tj W _ _
theorem Hg (t kt et:TypeId) (hu:P.underlying t=some (.map kt et)) (d:TypeDesc) (hk:P.underlying kt=some d) (W:World) (r:Nat) (es:Array MapEntry) (c:Nat) (k:Value) (ok:Bool)
  (hg:W.heap[r]? =some (.map es c)) (z:Value) (hz:(zeroValue et).run P W=.ok z W) (hik:MapKept.IsKey d k) (f:Option (Nat×Value)) (hf:Instr.findNow d k es.toList 0=some f):
  (Instr.lookup t (.map (some r)) k ok).run P W=.ok (if ok then .tuple #[(f.map (·.2)).getD z,.bool f.isSome] else (f.map (·.2)).getD z) W:=by
 cases f with
 | none=> simp[Instr.lookup,run_underlying hu,MapKept.run_getObj_map hg,MapKept.run_checkKey hk hik,MapKept.run_findKey hk hf,hz,Result.andThen]
 | some x=> obtain ⟨i,v⟩:=x;simp[Instr.lookup,run_underlying hu,MapKept.run_getObj_map hg,MapKept.run_checkKey hk hik,MapKept.run_findKey hk hf,Result.andThen]
theorem Aar {t kt et:TypeId} (hu:P.underlying t=some (.map kt et)) (hk:P.underlying kt=some (.int .i64)):∀(W:World) (k:Int) (v:Value),
  (Instr.mapUpdate t (.map (some W.heap.size)) (.int .i64 k) v).run P (W.alloc (.map #[] 0))=.ok () (W.alloc (.map #[⟨.int .i64 k,v,0⟩] 1)):=
 fun W _ _=> Ed t kt et hu _ hk W #[] 0 _ _ rfl rfl
theorem Aas {t kt et:TypeId} (hu:P.underlying t=some (.map kt et)) (hk:P.underlying kt=some (.int .i64)):∀(W:World) (k0:Int) (v0:Value) (k:Int) (v:Value),(k==k0)=false→
  (Instr.mapUpdate t (.map (some W.heap.size)) (.int .i64 k) v).run P (W.alloc (.map #[⟨.int .i64 k0,v0,0⟩] 1))=.ok () (W.alloc (.map #[⟨.int .i64 k0,v0,0⟩,⟨.int .i64 k,v,1⟩] 2)):=
 fun W k0 v0 k _ h=> Ed t kt et hu _ hk W #[⟨.int .i64 k0,v0,0⟩] 1 _ _ rfl (by simp[Instr.findNow,Instr.sameNow,h])
theorem Aat {t kt et:TypeId} (hu:P.underlying t=some (.map kt et)) (hk:P.underlying kt=some (.int .i64)):∀(W:World) (k0:Int) (v0:Value) (k1:Int) (v1:Value) (k:Int) (v:Value),(k==k0)=false→(k==k1)=false→
  (Instr.mapUpdate t (.map (some W.heap.size)) (.int .i64 k) v).run P (W.alloc (.map #[⟨.int .i64 k0,v0,0⟩,⟨.int .i64 k1,v1,1⟩] 2))=.ok () (W.alloc (.map #[⟨.int .i64 k0,v0,0⟩,⟨.int .i64 k1,v1,1⟩,⟨.int .i64 k,v,2⟩] 3)):=
 fun W k0 v0 k1 v1 k _ h h'=> Ed t kt et hu _ hk W #[⟨.int .i64 k0,v0,0⟩,⟨.int .i64 k1,v1,1⟩] 2 _ _ rfl (by simp[Instr.findNow,Instr.sameNow,h,h'])
theorem Bt {t kt et:TypeId} (hu:P.underlying t=some (.map kt et)) (hk:P.underlying kt=some (.int .i64)) (es:Array MapEntry) (c:Nat) (k:Int) (ok:Bool) (z:Value) (hz:∀W,(zeroValue et).run P W=.ok z W)
  (f:Option (Nat×Value)) (hf:Instr.findNow (.int .i64) (.int .i64 k) es.toList 0=some f):∀(W:World),
  (Instr.lookup t (.map (some W.heap.size)) (.int .i64 k) ok).run P (W.alloc (.map es c))=.ok (if ok then .tuple #[(f.map (·.2)).getD z,.bool f.isSome] else (f.map (·.2)).getD z) (W.alloc (.map es c)):=
 fun W=> Hg t kt et hu _ hk _ _ es c (.int .i64 k) ok (heap_alloc_new W _) z (hz _) rfl f hf
end
theorem HH (c:UInt8):Ip c=(!decide ((c.toNat:Int) < 97)&&!decide ((122:Int) < c.toNat)):=by
 unfold Ip
 rw[Bool.eq_iff_iff]
 simp
 omega
theorem J5 {l:List UInt8} {k:Nat} (h:k < l.length) (p:UInt8→Bool):(l.take (k+1)).all p=((l.take k).all p&&p l[k]):=by
 rw[List.take_succ_eq_append_getElem h,List.all_append];simp
theorem KN {l:List UInt8} {k:Nat} (h:k < l.length) (p:UInt8→Bool) (hp:p l[k]=false):l.all p=false:=by
 rw[List.all_eq_false]
 exact ⟨l[k],List.getElem_mem h,by simp[hp]⟩
theorem Ta (s:ByteArray) (w:World) (hs:s.size≤1048576):
  Calls Tryz.prog 131 #[.string s] w fun e w'=> e=.returned (.bool (DT s))∧w=w':=by
 go_enter Tryz.func131,Tryz.ntmps131
 go_wp2
 go_loop [3,6] (fun _ i=> ∃k:Nat,k≤s.size∧i=.int .i64 k∧(s.data.toList.take k).all Ip=true) (fun _ i=> s.size - (intOf i).toNat)
 case atStart=> exact ⟨0,Nat.zero_le _,rfl,rfl⟩
 case round=>
  obtain ⟨k,hk,rfl,hal⟩:=hrel
  have HAL:=Lib.hid hal
  clear hal
  by_cases hlt:k < s.size
  ·have hb:s[k].toNat < 256:=UInt8.toNat_lt _
   have hl:k < s.data.toList.length:=by simpa using hlt
   have he:s[k]=s.data.toList[k]:=rfl
   cases hlow:Ip s[k] with
   | true=>
    have h1:=HH s[k]
    rw[hlow] at h1
    have h97:decide ((s[k].toNat:Int) < 97)=false:=by simp at h1;simp;omega
    have h122:decide ((122:Int) < s[k].toNat)=false:=by simp at h1;simp;omega
    have HL:=Lib.hid hlow
    have HE:=Lib.hid he
    clear hlow h1 he
    go_wp2
    go_round
    case rel=> exact ⟨k+1,by omega,by go_num,by rw[J5 hl,HAL.out,←HE.out,HL.out];rfl⟩
    case measure=> simp[intOf];omega
   | false=>
    have h1:=HH s[k]
    rw[hlow] at h1
    have hall:s.data.toList.all Ip=false:=KN hl Ip (by rw[←he];exact hlow)
    have hkey:DT s=false:=by simp[DT,hall]
    have HK:=Lib.hid hkey
    clear hkey hall hlow he
    by_cases h97:(s[k].toNat:Int) < 97
    ·have h97':decide ((s[k].toNat:Int) < 97)=true:=by simpa using h97
     clear h1 h97
     go_wp2
     go_ret
     exact ⟨Fi HK.out.symm,rfl⟩
    ·have h97':decide ((s[k].toNat:Int) < 97)=false:=by simpa using h97
     have h122:decide ((122:Int) < s[k].toNat)=true:=by simp at h1;simp;omega
     clear h1 h97
     go_wp2
     go_ret
     exact ⟨Fi HK.out.symm,rfl⟩
  ·have e:k=s.size:=by omega
   have ha:DT s=(decide (1≤s.size)&&decide (s.size≤8)):=by
    have h2:=HAL.out
    rw[List.take_of_length_le (by simp;omega)] at h2
    simp[DT,h2]
   have HA:=Lib.hid ha
   clear ha
   by_cases h1:(1≤s.size)
   ·go_wp2
    go_ret
    refine ⟨Fi ?_,rfl⟩
    rw[HA.out];simp[h1];omega
   ·go_wp2
    go_ret
    refine ⟨Fi ?_,rfl⟩
    rw[HA.out];simp;omega
theorem VA (p:AI) (w:World) (hs:p.key.size≤1048576):
  Calls Tryz.prog 192 #[.agg #[.string p.key,.int .i64 p.kind,.int .i64 p.n,.string p.text]] w fun e w'=> e=.returned (.int .i64 (A9 p))∧Below w.heap.size w w':=by
 obtain ⟨k,kind,n,t⟩:=p
 simp only at hs ⊢
 cases hk:DT k with
 | false=>
  have hfin:A9 ⟨k,kind,n,t⟩=7:=by simp[A9,hk]
  generalize A9 ⟨k,kind,n,t⟩=r at *
  have HK:=Lib.hid hk
  have HF:=Lib.hid hfin
  clear hk hfin
  go_enter Tryz.func192,Tryz.ntmps192
  go_wp2_with (go_at_call 131;refine (Ta _ _ hs).mono ?_;rw[HK.out];rintro e w' ⟨rfl,rfl⟩)
  go_ret
  exact ⟨CB HF.out.symm,by repeat (first | exact Below.refl _ _ | apply Below.drew | apply Below.alloc _ (Nat.le_refl _))⟩
 | true=>
  have hfin:A9 ⟨k,kind,n,t⟩=if kind < 1∨3 < kind then 1
   else if (kind=1∧(n < -1073741824∨1073741824 < n))∨(kind=3∧(n < 0∨1 < n)) then 3
   else if kind=2∧12 < t.size then 4
   else if (kind=2∧n≠0)∨(kind≠2∧0 < t.size) then 2 else 0:=by simp[A9,hk]
  generalize A9 ⟨k,kind,n,t⟩=r at *
  have HK:=Lib.hid hk
  have HF:=Lib.hid hfin
  clear hk hfin
  go_enter Tryz.func192,Tryz.ntmps192
  go_wp2_with (go_at_call 131;refine (Ta _ _ hs).mono ?_;rw[HK.out];rintro e w' ⟨rfl,rfl⟩)
  all_goals go_ret
  all_goals refine ⟨CB ?_,by repeat (first | exact Below.refl _ _ | apply Below.drew | apply Below.alloc _ (Nat.le_refl _))⟩
  all_goals rw[HF.out]
  all_goals try simp only[IN,Bool.not_eq_true',Bool.not_eq_false',decide_eq_false_iff_not,decide_eq_true_eq] at *
  all_goals (repeat' split)
  all_goals first | rfl | (exfalso;omega)
theorem It (l:List AI) (k:Nat) (h:k < l.length) (h0:Du (l.take k)=0):Du l=if A9 l[k]=0 then Du (l.drop (k+1)) else A9 l[k]:=by
 induction l generalizing k with
 | nil=> simp at h
 | cons p r ih=>
  cases k with
  | zero=> simp[Du]
  | succ k=>
   have hp:A9 p=0:=by
    by_cases e:A9 p=0
    ·exact e
    ·simp[Du,e] at h0
   simp[Du,hp] at h0 ⊢
   exact ih k (by simpa using h) h0
theorem Is (l:List AI) (k:Nat) (h:k < l.length) (h0:Du (l.take k)=0) (hp:A9 l[k]=0):Du (l.take (k+1))=0:=by
 induction l generalizing k with
 | nil=> simp at h
 | cons p r ih=>
  cases k with
  | zero=> simp[Du] at hp ⊢;simp[hp]
  | succ k=>
   have hq:A9 p=0:=by
    by_cases e:A9 p=0
    ·exact e
    ·simp[Du,e] at h0
   simp[Du,hq] at h0 ⊢
   exact ih k (by simpa using h) h0 (by simpa using hp)
theorem Zn (n:AP) (A A':Option Addr) (c c':Nat) (w:World) (hn:n.Fits) (hp:Gt w (· < w.heap.size) A n.props):
  Calls Tryz.prog 132 #[.agg #[.slice A n.props.length c,.slice A' n.body.length c']] w fun e w'=> e=.returned (.int .i64 (AZ n))∧Below w.heap.size w w':=by
 obtain ⟨hn1,hn2,hn3⟩:=hn
 generalize hr:AZ n=r
 have HR:=Lib.hid hr
 have HP:=Lib.hid hp
 have HN1:=Lib.hid hn1
 clear hr hp hn1
 by_cases h4:4 < n.props.length
 ·go_enter Tryz.func132,Tryz.ntmps132
  go_wp2_with fail
  go_ret
  exact ⟨CB (by rw[←HR.out];simp[AZ,h4]),by repeat (first | exact Below.refl _ _ | apply Below.drew | apply Below.alloc _ (Nat.le_refl _))⟩
 ·go_enter Tryz.func132,Tryz.ntmps132
  go_wp2_with fail
  go_loopw [4,5,13] (fun _ _ i wr=> ∃k:Nat,k≤n.props.length∧i=.int .i64 k∧Hid (Du (n.props.take k)=0)∧
   Below (w.heap.size+1) (w.alloc (.cells #[.slice A n.props.length c,.slice A' n.body.length c'] 25)) wr) (fun _ _ i _=> n.props.length - (intOf i).toNat)
  case atStart=> exact ⟨0,Nat.zero_le _,rfl,Lib.hid rfl,Below.refl _ _⟩
  case round=>
   obtain ⟨k,hk,rfl,H0,hb⟩:=hrel
   have hsz:=hb.size
   simp only[World.size_alloc] at hsz
   have c0:wr.cell? ⟨w.heap.size,1,none⟩=some (.slice A' n.body.length c'):=by
    rw[hb.cell (by simp)];simp
   by_cases hlt:k < n.props.length
   ·obtain ⟨b,o,rfl,hS,hc⟩:=(HP.out).at_ (by omega)
    obtain ⟨f0,f1,f2,f3⟩:=hc k hlt
    have hS':b < w.heap.size:=hS
    have e0:∀j,wr.cell? ⟨b,j,none⟩=w.cell? ⟨b,j,none⟩:=fun j=> by
     rw[hb.cell (p:=⟨b,j,none⟩) (by show b < _;omega)]
     exact World.cell?_alloc_lt _ _ _ hS'
    rw[←e0] at f0 f1 f2 f3
    clear hc e0
    have hfit:=HN1.out n.props[k] (List.getElem_mem hlt)
    have hks:=hfit.1
    have HFT:=Lib.hid hfit
    clear hfit
    by_cases hz:A9 n.props[k]=0
    ·have H1:=Lib.hid (Is n.props k hlt H0.out hz)
     have HZ:=Lib.hid hz
     clear hz
     go_wp2_with fail
     refine (VA n.props[k] _ hks).mono ?_
     rw[HZ.out]
     rintro e w1 ⟨rfl,hb1⟩
     have hz1:=hb1.size
     simp at hz1
     have hb2:Below (w.heap.size+1) (w.alloc (.cells #[.slice (some ⟨b,o,none⟩) n.props.length c,.slice A' n.body.length c'] 25)) w1:=
      (hb.alloc (by omega) _).trans (hb1.mono (by simp;omega))
     clear hb1 f0 f1 f2 f3
     go_wp2_with fail
     go_roundw
     case rel=> exact ⟨k+1,by omega,by go_num,H1,hb2⟩
     case measure=> simp[intOf];omega
    ·have hfin:A9 n.props[k]=r:=by
      rw[←HR.out]
      have h1:=It n.props k hlt H0.out
      rw[if_neg hz] at h1
      simp[AZ,h4,h1,hz]
     have hz':((A9 n.props[k]) !=0)=true:=by simpa using hz
     have HF:=Lib.hid hfin
     clear hfin hz
     go_wp2_with fail
     refine (VA n.props[k] _ hks).mono ?_
     rintro e w1 ⟨rfl,hb1⟩
     have hb2:Below w.heap.size w w1:=
      (((Below.refl _ _).alloc (Nat.le_refl _) _).trans ((hb.alloc (by omega) _).mono (by omega))).trans (hb1.mono (by simp;omega))
     clear hb1 f0 f1 f2 f3
     go_wp2_with fail
     go_ret
     exact ⟨CB HF.out,hb2⟩
   ·have e:k=n.props.length:=by omega
    have hfin:r=if 40 < n.body.length then 4 else 0:=by
     have h0:=H0.out
     rw[List.take_of_length_le (by omega)] at h0
     rw[←HR.out]
     simp[AZ,h4,h0]
    have HF:=Lib.hid hfin
    clear hfin e
    have hb2:Below w.heap.size w wr:=((Below.refl _ _).alloc (Nat.le_refl _) _).trans (hb.mono (by omega))
    by_cases h40:40 < n.body.length
    ·go_wp2_with fail
     go_ret
     exact ⟨CB (by rw[HF.out,if_pos h40]),hb2⟩
    ·go_wp2_with fail
     go_ret
     exact ⟨CB (by rw[HF.out,if_neg h40]),hb2⟩
theorem B5 (s:ByteArray) (w:World) (hs:s.size≤1048576):
  Calls Tryz.prog 52 #[.string s] w fun e w'=> e=.returned (.bool (DT s))∧Below w.heap.size w w':=by
 generalize hr:DT s=r
 have HR:=Lib.hid hr
 clear hr
 by_cases h1:s.size=0
 ·have he:s.toList.isEmpty=true:=by rw[IN];simp[h1]
  have hfin:r=false:=by rw[←HR.out];simp[DT,h1]
  have HF:=Lib.hid hfin
  clear hfin
  go_enter Tryz.func52,Tryz.ntmps52
  go_wp2_with fail
  go_ret
  exact ⟨Fi HF.out.symm,Below.refl _ _⟩
 ·have he:s.toList.isEmpty=false:=by rw[IN];simp[h1]
  by_cases h8:8 < s.size
  ·have hfin:r=false:=by rw[←HR.out];simp[DT];omega
   have HF:=Lib.hid hfin
   clear hfin
   go_enter Tryz.func52,Tryz.ntmps52
   go_wp2_with fail
   go_ret
   exact ⟨Fi HF.out.symm,Below.refl _ _⟩
  ·have hkey:DT s=(s.data.toList.all Ip&&decide (1≤s.size)&&decide (s.size≤8)):=rfl
   have hl:s.data.toList.length=s.size:=rfl
   generalize hdl:s.data.toList=l at *
   have HL:=Lib.hid hl
   have HD:=Lib.hid hdl
   have HK:=Lib.hid hkey
   clear hl hdl hkey
   go_enter Tryz.func52,Tryz.ntmps52
   go_wp2_with (refine IY _ rfl (.tmp 12) 9 23 5 rfl Tryz.underlying9 Tryz.underlying23 Tryz.underlying5 s l HD.out rfl ?_ (by omega);intro c w1 hc1 hc2 hr1 hb1)
   go_loop [4,15] (fun _ i=> ∃k:Nat,k≤l.length∧i=.int .i64 k∧Hid ((l.take k).all Ip=true)) (fun _ i=> l.length - (intOf i).toNat)
   case atStart=> exact ⟨0,Nat.zero_le _,rfl,Lib.hid rfl⟩
   case round=>
    obtain ⟨k,hk,rfl,HAL⟩:=hrel
    have hb20:l.length≤1048576:=by rw[HL.out];exact hs
    by_cases hlt:k < l.length
    ·obtain ⟨b,o,e,hS,hc⟩:=hr1.at_ (by omega)
     injection e with e
     injection e with e1 e2 e3
     subst e1 e2
     have hk1:=hc k hlt
     rw[Nat.zero_add] at hk1
     have h256:l[k].toNat < 256:=UInt8.toNat_lt _
     cases hlow:Ip l[k] with
     | true=>
      have h1:=HH l[k]
      rw[hlow] at h1
      have h97:decide ((l[k].toNat:Int) < 97)=false:=by simp at h1;simp;omega
      have h122:decide ((122:Int) < l[k].toNat)=false:=by simp at h1;simp;omega
      have HW:=Lib.hid hlow
      clear hlow h1 hc
      go_wp2
      go_round
      case rel=> exact ⟨k+1,by omega,by go_num,Lib.hid (by rw[J5 hlt,HAL.out,HW.out];rfl)⟩
      case measure=> simp[intOf];omega
     | false=>
      have h1:=HH l[k]
      rw[hlow] at h1
      have hall:l.all Ip=false:=KN hlt Ip hlow
      have hfin:r=false:=by rw[←HR.out,HK.out];simp[hall]
      have HF:=Lib.hid hfin
      clear hfin hall hlow hc
      by_cases h97:(l[k].toNat:Int) < 97
      ·have h97':decide ((l[k].toNat:Int) < 97)=true:=by simpa using h97
       clear h1 h97
       go_wp2
       go_ret
       exact ⟨Fi HF.out.symm,hb1⟩
      ·have h97':decide ((l[k].toNat:Int) < 97)=false:=by simpa using h97
       have h122:decide ((122:Int) < l[k].toNat)=true:=by simp at h1;simp;omega
       clear h1 h97
       go_wp2
       go_ret
       exact ⟨Fi HF.out.symm,hb1⟩
    ·have hfin:r=true:=by
      have h2:=HAL.out
      rw[List.take_of_length_le (by omega)] at h2
      rw[←HR.out,HK.out]
      have:=HL.out
      simp only[h2,Bool.true_and,Bool.and_eq_true,decide_eq_true_eq]
      omega
     have HF:=Lib.hid hfin
     clear hfin
     go_wp2
     go_ret
     exact ⟨Fi HF.out.symm,hb1⟩
theorem W1 (p:AI) (hk:DT p.key=true):
  (((p.kind==1)=false∧(p.kind==2)=false∧(p.kind==3)=false)∧A9 p=1)∨((p.kind=1∧p.n < -1073741824)∧A9 p=3)∨((p.kind=1∧-1073741824≤p.n∧1073741824 < p.n)∧A9 p=3)∨
  ((p.kind=1∧-1073741824≤p.n∧p.n≤1073741824∧0 < p.text.size)∧A9 p=2)∨((p.kind=1∧-1073741824≤p.n∧p.n≤1073741824∧p.text.size=0)∧A9 p=0)∨
  ((p.kind=2∧12 < p.text.size)∧A9 p=4)∨((p.kind=2∧p.text.size≤12∧(p.n !=0)=true)∧A9 p=2)∨((p.kind=2∧p.text.size≤12∧(p.n !=0)=false)∧A9 p=0)∨
  ((p.kind=3∧p.n < 0)∧A9 p=3)∨((p.kind=3∧0≤p.n∧1 < p.n)∧A9 p=3)∨((p.kind=3∧0≤p.n∧p.n≤1∧0 < p.text.size)∧A9 p=2)∨((p.kind=3∧0≤p.n∧p.n≤1∧p.text.size=0)∧A9 p=0):=by
 have hp:A9 p=if p.kind < 1∨3 < p.kind then 1
   else if (p.kind=1∧(p.n < -1073741824∨1073741824 < p.n))∨(p.kind=3∧(p.n < 0∨1 < p.n)) then 3
   else if p.kind=2∧12 < p.text.size then 4
   else if (p.kind=2∧p.n≠0)∨(p.kind≠2∧0 < p.text.size) then 2 else 0:=by simp[A9,hk]
 by_cases k1:p.kind=1
 ·have h1:A9 p=if p.n < -1073741824∨1073741824 < p.n then 3 else if 0 < p.text.size then 2 else 0:=by rw[hp,k1];simp
  by_cases a:p.n < -1073741824
  ·exact .inr (.inl ⟨⟨k1,a⟩,by rw[h1,if_pos (.inl a)]⟩)
  ·by_cases b:1073741824 < p.n
   ·exact .inr (.inr (.inl ⟨⟨k1,by omega,b⟩,by rw[h1,if_pos (.inr b)]⟩))
   ·by_cases c:0 < p.text.size
    ·exact .inr (.inr (.inr (.inl ⟨⟨k1,by omega,by omega,c⟩,by rw[h1,if_neg (by omega),if_pos c]⟩)))
    ·exact .inr (.inr (.inr (.inr (.inl ⟨⟨k1,by omega,by omega,by omega⟩,by rw[h1,if_neg (by omega),if_neg c]⟩))))
 by_cases k2:p.kind=2
 ·have h1:A9 p=if 12 < p.text.size then 4 else if p.n≠0 then 2 else 0:=by rw[hp,k2];simp
  by_cases a:12 < p.text.size
  ·exact .inr (.inr (.inr (.inr (.inr (.inl ⟨⟨k2,a⟩,by rw[h1,if_pos a]⟩)))))
  ·by_cases b:p.n≠0
   ·exact .inr (.inr (.inr (.inr (.inr (.inr (.inl ⟨⟨k2,by omega,by simpa using b⟩,by rw[h1,if_neg a,if_pos b]⟩))))))
   ·exact .inr (.inr (.inr (.inr (.inr (.inr (.inr (.inl ⟨⟨k2,by omega,by simpa using b⟩,by rw[h1,if_neg a,if_neg b]⟩)))))))
 by_cases k3:p.kind=3
 ·have h1:A9 p=if p.n < 0∨1 < p.n then 3 else if 0 < p.text.size then 2 else 0:=by rw[hp,k3];simp
  by_cases a:p.n < 0
  ·exact .inr (.inr (.inr (.inr (.inr (.inr (.inr (.inr (.inl ⟨⟨k3,a⟩,by rw[h1,if_pos (.inl a)]⟩))))))))
  ·by_cases b:1 < p.n
   ·exact .inr (.inr (.inr (.inr (.inr (.inr (.inr (.inr (.inr (.inl ⟨⟨k3,by omega,b⟩,by rw[h1,if_pos (.inr b)]⟩)))))))))
   ·by_cases c:0 < p.text.size
    ·exact .inr (.inr (.inr (.inr (.inr (.inr (.inr (.inr (.inr (.inr (.inl ⟨⟨k3,by omega,by omega,c⟩,by rw[h1,if_neg (by omega),if_pos c]⟩))))))))))
    ·exact .inr (.inr (.inr (.inr (.inr (.inr (.inr (.inr (.inr (.inr (.inr ⟨⟨k3,by omega,by omega,by omega⟩,by rw[h1,if_neg (by omega),if_neg c]⟩))))))))))
 exact .inl ⟨⟨by simpa using k1,by simpa using k2,by simpa using k3⟩,by rw[hp,if_pos (by omega)]⟩
theorem A4 (w:World):(zeroValue 3).run Tryz.prog w=.ok (.int .i64 0) w:=by kernel_rfl
theorem Tf (n:AP) (A A':Option Addr) (c c':Nat) (w:World) (hn:n.Fits) (hp:Gt w (· < w.heap.size) A n.props):
  Calls Tryz.prog 17 #[.agg #[.slice A n.props.length c,.slice A' n.body.length c']] w fun e w'=> e=.returned (.int .i64 (AZ n))∧Below w.heap.size w w':=by
 obtain ⟨hn1,hn2,hn3⟩:=hn
 generalize hr:AZ n=r
 have HR:=Lib.hid hr
 have HP:=Lib.hid hp
 have HN1:=Lib.hid hn1
 clear hr hp hn1
 by_cases h4:4 < n.props.length
 ·go_enter Tryz.func17,Tryz.ntmps17
  go_wp2_with fail
  go_ret
  exact ⟨CB (by rw[←HR.out];simp[AZ,h4]),by repeat (first | exact Below.refl _ _ | apply Below.drew | apply Below.alloc _ (Nat.le_refl _))⟩
 ·have hmm:=@run_makeMap Tryz.prog
  have hi0:=Aar (P:=Tryz.prog) Tryz.underlying103 Tryz.underlying3
  have hi1:=Aas (P:=Tryz.prog) Tryz.underlying103 Tryz.underlying3
  have hi2:=Aat (P:=Tryz.prog) Tryz.underlying103 Tryz.underlying3
  go_enter Tryz.func17,Tryz.ntmps17
  go_wp2_with fail
  go_loopw [4,5,6,7,15] (fun _ _ _ _ i wr=> ∃k:Nat,k≤n.props.length∧i=.int .i64 k∧Hid (Du (n.props.take k)=0)∧
   Below (w.heap.size+1) (w.alloc (.cells #[.slice A n.props.length c,.slice A' n.body.length c'] 25)) wr) (fun _ _ _ _ i _=> n.props.length - (intOf i).toNat)
  case atStart=> exact ⟨0,Nat.zero_le _,rfl,Lib.hid rfl,Below.refl _ _⟩
  case round=>
   obtain ⟨k,hk,rfl,H0,hb⟩:=hrel
   have hsz:=hb.size
   simp only[World.size_alloc] at hsz
   have c0:wr.cell? ⟨w.heap.size,1,none⟩=some (.slice A' n.body.length c'):=by
    rw[hb.cell (by simp)];simp
   by_cases hlt:k < n.props.length
   ·obtain ⟨b,o,rfl,hS,hc⟩:=(HP.out).at_ (by omega)
    obtain ⟨f0,f1,f2,f3⟩:=hc k hlt
    have hS':b < w.heap.size:=hS
    have e0:∀j,wr.cell? ⟨b,j,none⟩=w.cell? ⟨b,j,none⟩:=fun j=> by
     rw[hb.cell (p:=⟨b,j,none⟩) (by show b < _;omega)]
     exact World.cell?_alloc_lt _ _ _ hS'
    rw[←e0] at f0 f1 f2 f3
    clear hc e0
    have hfit:=HN1.out n.props[k] (List.getElem_mem hlt)
    have hks:=hfit.1
    have HFT:=Lib.hid hfit
    clear hfit
    have hb9:Below w.heap.size w wr:=((Below.refl _ _).alloc (Nat.le_refl _) _).trans (hb.mono (by omega))
    have HF:Hid (A9 n.props[k]≠0→r=A9 n.props[k]):=Lib.hid fun hz=> by
     rw[←HR.out]
     have h1:=It n.props k hlt H0.out
     rw[if_neg hz] at h1
     simp[AZ,h4,h1,hz]
    have H1:Hid (A9 n.props[k]=0→Du (n.props.take (k+1))=0):=Lib.hid fun hz=> Is n.props k hlt H0.out hz
    have HB:Hid (∀(o:Obj) (w1:World),Below (wr.heap.size+1) (wr.alloc o) w1→Below w.heap.size w w1∧∀o',Below (w.heap.size+1) (w.alloc o') wr→Below (w.heap.size+1) (w.alloc o') w1):=
     Lib.hid fun o w1 h=> ⟨hb9.trans (((Below.refl _ _).alloc (by omega) _).trans (h.mono (by omega))),fun o' ho=> (ho.alloc (by omega) _).trans (h.mono (by omega))⟩
    cases hkey:DT n.props[k].key with
    | false=>
     have hv:A9 n.props[k]=7:=by simp[A9,hkey]
     have HV:=Lib.hid hv
     have HKY:=Lib.hid hkey
     clear hv hkey
     generalize n.props[k]=p at *
     go_wp2_with (go_at_call 52;refine (B5 _ _ hks).mono ?_;rw[HKY.out];rintro e w1 ⟨rfl,hb1⟩)
     go_ret
     exact ⟨CB (by rw[HF.out (by rw[HV.out];decide),HV.out]),(HB.out _ _ (by simpa using hb1)).1⟩
    | true=>
     have hcases:=W1 n.props[k] hkey
     have HKY:=Lib.hid hkey
     clear hkey
     generalize n.props[k]=p at *
     obtain ⟨key,kind,pn,text⟩:=p
     simp only at hcases f0 f1 f2 f3 hks
     clear hb9
     rcases hcases with ⟨⟨q1,q2,q3⟩,hv⟩ | ⟨⟨rfl,q1⟩,hv⟩ | ⟨⟨rfl,q1,q2⟩,hv⟩ | ⟨⟨rfl,q1,q2,q3⟩,hv⟩ | ⟨⟨rfl,q1,q2,q3⟩,hv⟩ | ⟨⟨rfl,q1⟩,hv⟩ | ⟨⟨rfl,q1,q2⟩,hv⟩ | ⟨⟨rfl,q1,q2⟩,hv⟩ | ⟨⟨rfl,q1⟩,hv⟩ | ⟨⟨rfl,q1,q2⟩,hv⟩ | ⟨⟨rfl,q1,q2,q3⟩,hv⟩ | ⟨⟨rfl,q1,q2,q3⟩,hv⟩
     ·have hl1:=Bt (P:=Tryz.prog) Tryz.underlying103 Tryz.underlying3 #[⟨.int .i64 1,.int .i64 1073741824,0⟩,⟨.int .i64 2,.int .i64 0,1⟩,⟨.int .i64 3,.int .i64 1,2⟩] 3 kind true _ A4 none (by simp[Instr.findNow,Instr.sameNow,q1,q2,q3])
      simp only[Option.map_none,Option.getD_none,Option.isSome_none,if_true] at hl1
      have HV:=Lib.hid hv
      clear hv
      go_wp2_with (go_at_call 52;refine (B5 _ _ hks).mono ?_;rw[HKY.out];rintro e w1 ⟨rfl,hb1⟩;obtain ⟨hc1,hf1⟩:=I0 hb1;have hz1:wr.heap.size < w1.heap.size:=by have:=hb1.size;simp at this;omega)
      have hb1':=HB.out _ _ (by simpa using hb1)
      go_ret
      exact ⟨CB (by rw[HF.out (by rw[HV.out];decide),HV.out]),hb1'.1.trans ((Below.refl _ _).alloc (by omega) _)⟩
     ·have hl1:=Bt (P:=Tryz.prog) Tryz.underlying103 Tryz.underlying3 #[⟨.int .i64 1,.int .i64 1073741824,0⟩,⟨.int .i64 2,.int .i64 0,1⟩,⟨.int .i64 3,.int .i64 1,2⟩] 3 1 true _ A4 (some (0,.int .i64 1073741824)) rfl
      simp only[Option.map_some,Option.getD_some,Option.isSome_some,if_true,Bool.false_eq_true,if_false] at hl1
      have hl2:=Bt (P:=Tryz.prog) Tryz.underlying103 Tryz.underlying3 #[⟨.int .i64 1,.int .i64 1073741824,0⟩,⟨.int .i64 2,.int .i64 0,1⟩,⟨.int .i64 3,.int .i64 1,2⟩] 3 1 false _ A4 (some (0,.int .i64 1073741824)) rfl
      simp only[Option.map_some,Option.getD_some,Option.isSome_some,if_true,Bool.false_eq_true,if_false] at hl2
      have HV:=Lib.hid hv
      clear hv
      go_wp2_with (go_at_call 52;refine (B5 _ _ hks).mono ?_;rw[HKY.out];rintro e w1 ⟨rfl,hb1⟩;obtain ⟨hc1,hf1⟩:=I0 hb1;have hz1:wr.heap.size < w1.heap.size:=by have:=hb1.size;simp at this;omega)
      have hb1':=HB.out _ _ (by simpa using hb1)
      go_ret
      exact ⟨CB (by rw[HF.out (by rw[HV.out];decide),HV.out]),hb1'.1.trans ((Below.refl _ _).alloc (by omega) _)⟩
     ·have hl1:=Bt (P:=Tryz.prog) Tryz.underlying103 Tryz.underlying3 #[⟨.int .i64 1,.int .i64 1073741824,0⟩,⟨.int .i64 2,.int .i64 0,1⟩,⟨.int .i64 3,.int .i64 1,2⟩] 3 1 true _ A4 (some (0,.int .i64 1073741824)) rfl
      simp only[Option.map_some,Option.getD_some,Option.isSome_some,if_true,Bool.false_eq_true,if_false] at hl1
      have hl2:=Bt (P:=Tryz.prog) Tryz.underlying103 Tryz.underlying3 #[⟨.int .i64 1,.int .i64 1073741824,0⟩,⟨.int .i64 2,.int .i64 0,1⟩,⟨.int .i64 3,.int .i64 1,2⟩] 3 1 false _ A4 (some (0,.int .i64 1073741824)) rfl
      simp only[Option.map_some,Option.getD_some,Option.isSome_some,if_true,Bool.false_eq_true,if_false] at hl2
      have HV:=Lib.hid hv
      clear hv
      go_wp2_with (go_at_call 52;refine (B5 _ _ hks).mono ?_;rw[HKY.out];rintro e w1 ⟨rfl,hb1⟩;obtain ⟨hc1,hf1⟩:=I0 hb1;have hz1:wr.heap.size < w1.heap.size:=by have:=hb1.size;simp at this;omega)
      have hb1':=HB.out _ _ (by simpa using hb1)
      go_ret
      exact ⟨CB (by rw[HF.out (by rw[HV.out];decide),HV.out]),hb1'.1.trans ((Below.refl _ _).alloc (by omega) _)⟩
     ·have hl1:=Bt (P:=Tryz.prog) Tryz.underlying103 Tryz.underlying3 #[⟨.int .i64 1,.int .i64 1073741824,0⟩,⟨.int .i64 2,.int .i64 0,1⟩,⟨.int .i64 3,.int .i64 1,2⟩] 3 1 true _ A4 (some (0,.int .i64 1073741824)) rfl
      simp only[Option.map_some,Option.getD_some,Option.isSome_some,if_true,Bool.false_eq_true,if_false] at hl1
      have hl2:=Bt (P:=Tryz.prog) Tryz.underlying103 Tryz.underlying3 #[⟨.int .i64 1,.int .i64 1073741824,0⟩,⟨.int .i64 2,.int .i64 0,1⟩,⟨.int .i64 3,.int .i64 1,2⟩] 3 1 false _ A4 (some (0,.int .i64 1073741824)) rfl
      simp only[Option.map_some,Option.getD_some,Option.isSome_some,if_true,Bool.false_eq_true,if_false] at hl2
      have HV:=Lib.hid hv
      clear hv
      go_wp2_with (go_at_call 52;refine (B5 _ _ hks).mono ?_;rw[HKY.out];rintro e w1 ⟨rfl,hb1⟩;obtain ⟨hc1,hf1⟩:=I0 hb1;have hz1:wr.heap.size < w1.heap.size:=by have:=hb1.size;simp at this;omega)
      have hb1':=HB.out _ _ (by simpa using hb1)
      go_ret
      exact ⟨CB (by rw[HF.out (by rw[HV.out];decide),HV.out]),hb1'.1.trans ((Below.refl _ _).alloc (by omega) _)⟩
     ·have hl1:=Bt (P:=Tryz.prog) Tryz.underlying103 Tryz.underlying3 #[⟨.int .i64 1,.int .i64 1073741824,0⟩,⟨.int .i64 2,.int .i64 0,1⟩,⟨.int .i64 3,.int .i64 1,2⟩] 3 1 true _ A4 (some (0,.int .i64 1073741824)) rfl
      simp only[Option.map_some,Option.getD_some,Option.isSome_some,if_true,Bool.false_eq_true,if_false] at hl1
      have hl2:=Bt (P:=Tryz.prog) Tryz.underlying103 Tryz.underlying3 #[⟨.int .i64 1,.int .i64 1073741824,0⟩,⟨.int .i64 2,.int .i64 0,1⟩,⟨.int .i64 3,.int .i64 1,2⟩] 3 1 false _ A4 (some (0,.int .i64 1073741824)) rfl
      simp only[Option.map_some,Option.getD_some,Option.isSome_some,if_true,Bool.false_eq_true,if_false] at hl2
      have HV:=Lib.hid hv
      clear hv
      go_wp2_with (go_at_call 52;refine (B5 _ _ hks).mono ?_;rw[HKY.out];rintro e w1 ⟨rfl,hb1⟩;obtain ⟨hc1,hf1⟩:=I0 hb1;have hz1:wr.heap.size < w1.heap.size:=by have:=hb1.size;simp at this;omega)
      have hb1':=HB.out _ _ (by simpa using hb1)
      go_roundw
      case rel=> exact ⟨k+1,by omega,by go_num,Lib.hid (H1.out HV.out),(hb1'.2 _ hb).alloc (by omega) _⟩
      case measure=> simp[intOf];omega
     ·have hl1:=Bt (P:=Tryz.prog) Tryz.underlying103 Tryz.underlying3 #[⟨.int .i64 1,.int .i64 1073741824,0⟩,⟨.int .i64 2,.int .i64 0,1⟩,⟨.int .i64 3,.int .i64 1,2⟩] 3 2 true _ A4 (some (1,.int .i64 0)) rfl
      simp only[Option.map_some,Option.getD_some,Option.isSome_some,if_true,Bool.false_eq_true,if_false] at hl1
      have hl2:=Bt (P:=Tryz.prog) Tryz.underlying103 Tryz.underlying3 #[⟨.int .i64 1,.int .i64 1073741824,0⟩,⟨.int .i64 2,.int .i64 0,1⟩,⟨.int .i64 3,.int .i64 1,2⟩] 3 2 false _ A4 (some (1,.int .i64 0)) rfl
      simp only[Option.map_some,Option.getD_some,Option.isSome_some,if_true,Bool.false_eq_true,if_false] at hl2
      have HV:=Lib.hid hv
      clear hv
      go_wp2_with (go_at_call 52;refine (B5 _ _ hks).mono ?_;rw[HKY.out];rintro e w1 ⟨rfl,hb1⟩;obtain ⟨hc1,hf1⟩:=I0 hb1;have hz1:wr.heap.size < w1.heap.size:=by have:=hb1.size;simp at this;omega)
      have hb1':=HB.out _ _ (by simpa using hb1)
      go_ret
      exact ⟨CB (by rw[HF.out (by rw[HV.out];decide),HV.out]),hb1'.1.trans ((Below.refl _ _).alloc (by omega) _)⟩
     ·have hl1:=Bt (P:=Tryz.prog) Tryz.underlying103 Tryz.underlying3 #[⟨.int .i64 1,.int .i64 1073741824,0⟩,⟨.int .i64 2,.int .i64 0,1⟩,⟨.int .i64 3,.int .i64 1,2⟩] 3 2 true _ A4 (some (1,.int .i64 0)) rfl
      simp only[Option.map_some,Option.getD_some,Option.isSome_some,if_true,Bool.false_eq_true,if_false] at hl1
      have hl2:=Bt (P:=Tryz.prog) Tryz.underlying103 Tryz.underlying3 #[⟨.int .i64 1,.int .i64 1073741824,0⟩,⟨.int .i64 2,.int .i64 0,1⟩,⟨.int .i64 3,.int .i64 1,2⟩] 3 2 false _ A4 (some (1,.int .i64 0)) rfl
      simp only[Option.map_some,Option.getD_some,Option.isSome_some,if_true,Bool.false_eq_true,if_false] at hl2
      have HV:=Lib.hid hv
      clear hv
      go_wp2_with (go_at_call 52;refine (B5 _ _ hks).mono ?_;rw[HKY.out];rintro e w1 ⟨rfl,hb1⟩;obtain ⟨hc1,hf1⟩:=I0 hb1;have hz1:wr.heap.size < w1.heap.size:=by have:=hb1.size;simp at this;omega)
      have hb1':=HB.out _ _ (by simpa using hb1)
      go_ret
      exact ⟨CB (by rw[HF.out (by rw[HV.out];decide),HV.out]),hb1'.1.trans ((Below.refl _ _).alloc (by omega) _)⟩
     ·have hl1:=Bt (P:=Tryz.prog) Tryz.underlying103 Tryz.underlying3 #[⟨.int .i64 1,.int .i64 1073741824,0⟩,⟨.int .i64 2,.int .i64 0,1⟩,⟨.int .i64 3,.int .i64 1,2⟩] 3 2 true _ A4 (some (1,.int .i64 0)) rfl
      simp only[Option.map_some,Option.getD_some,Option.isSome_some,if_true,Bool.false_eq_true,if_false] at hl1
      have hl2:=Bt (P:=Tryz.prog) Tryz.underlying103 Tryz.underlying3 #[⟨.int .i64 1,.int .i64 1073741824,0⟩,⟨.int .i64 2,.int .i64 0,1⟩,⟨.int .i64 3,.int .i64 1,2⟩] 3 2 false _ A4 (some (1,.int .i64 0)) rfl
      simp only[Option.map_some,Option.getD_some,Option.isSome_some,if_true,Bool.false_eq_true,if_false] at hl2
      have HV:=Lib.hid hv
      clear hv
      go_wp2_with (go_at_call 52;refine (B5 _ _ hks).mono ?_;rw[HKY.out];rintro e w1 ⟨rfl,hb1⟩;obtain ⟨hc1,hf1⟩:=I0 hb1;have hz1:wr.heap.size < w1.heap.size:=by have:=hb1.size;simp at this;omega)
      have hb1':=HB.out _ _ (by simpa using hb1)
      go_roundw
      case rel=> exact ⟨k+1,by omega,by go_num,Lib.hid (H1.out HV.out),(hb1'.2 _ hb).alloc (by omega) _⟩
      case measure=> simp[intOf];omega
     ·have hl1:=Bt (P:=Tryz.prog) Tryz.underlying103 Tryz.underlying3 #[⟨.int .i64 1,.int .i64 1073741824,0⟩,⟨.int .i64 2,.int .i64 0,1⟩,⟨.int .i64 3,.int .i64 1,2⟩] 3 3 true _ A4 (some (2,.int .i64 1)) rfl
      simp only[Option.map_some,Option.getD_some,Option.isSome_some,if_true,Bool.false_eq_true,if_false] at hl1
      have hl2:=Bt (P:=Tryz.prog) Tryz.underlying103 Tryz.underlying3 #[⟨.int .i64 1,.int .i64 1073741824,0⟩,⟨.int .i64 2,.int .i64 0,1⟩,⟨.int .i64 3,.int .i64 1,2⟩] 3 3 false _ A4 (some (2,.int .i64 1)) rfl
      simp only[Option.map_some,Option.getD_some,Option.isSome_some,if_true,Bool.false_eq_true,if_false] at hl2
      have HV:=Lib.hid hv
      clear hv
      go_wp2_with (go_at_call 52;refine (B5 _ _ hks).mono ?_;rw[HKY.out];rintro e w1 ⟨rfl,hb1⟩;obtain ⟨hc1,hf1⟩:=I0 hb1;have hz1:wr.heap.size < w1.heap.size:=by have:=hb1.size;simp at this;omega)
      have hb1':=HB.out _ _ (by simpa using hb1)
      go_ret
      exact ⟨CB (by rw[HF.out (by rw[HV.out];decide),HV.out]),hb1'.1.trans ((Below.refl _ _).alloc (by omega) _)⟩
     ·have hl1:=Bt (P:=Tryz.prog) Tryz.underlying103 Tryz.underlying3 #[⟨.int .i64 1,.int .i64 1073741824,0⟩,⟨.int .i64 2,.int .i64 0,1⟩,⟨.int .i64 3,.int .i64 1,2⟩] 3 3 true _ A4 (some (2,.int .i64 1)) rfl
      simp only[Option.map_some,Option.getD_some,Option.isSome_some,if_true,Bool.false_eq_true,if_false] at hl1
      have hl2:=Bt (P:=Tryz.prog) Tryz.underlying103 Tryz.underlying3 #[⟨.int .i64 1,.int .i64 1073741824,0⟩,⟨.int .i64 2,.int .i64 0,1⟩,⟨.int .i64 3,.int .i64 1,2⟩] 3 3 false _ A4 (some (2,.int .i64 1)) rfl
      simp only[Option.map_some,Option.getD_some,Option.isSome_some,if_true,Bool.false_eq_true,if_false] at hl2
      have HV:=Lib.hid hv
      clear hv
      go_wp2_with (go_at_call 52;refine (B5 _ _ hks).mono ?_;rw[HKY.out];rintro e w1 ⟨rfl,hb1⟩;obtain ⟨hc1,hf1⟩:=I0 hb1;have hz1:wr.heap.size < w1.heap.size:=by have:=hb1.size;simp at this;omega)
      have hb1':=HB.out _ _ (by simpa using hb1)
      go_ret
      exact ⟨CB (by rw[HF.out (by rw[HV.out];decide),HV.out]),hb1'.1.trans ((Below.refl _ _).alloc (by omega) _)⟩
     ·have hl1:=Bt (P:=Tryz.prog) Tryz.underlying103 Tryz.underlying3 #[⟨.int .i64 1,.int .i64 1073741824,0⟩,⟨.int .i64 2,.int .i64 0,1⟩,⟨.int .i64 3,.int .i64 1,2⟩] 3 3 true _ A4 (some (2,.int .i64 1)) rfl
      simp only[Option.map_some,Option.getD_some,Option.isSome_some,if_true,Bool.false_eq_true,if_false] at hl1
      have hl2:=Bt (P:=Tryz.prog) Tryz.underlying103 Tryz.underlying3 #[⟨.int .i64 1,.int .i64 1073741824,0⟩,⟨.int .i64 2,.int .i64 0,1⟩,⟨.int .i64 3,.int .i64 1,2⟩] 3 3 false _ A4 (some (2,.int .i64 1)) rfl
      simp only[Option.map_some,Option.getD_some,Option.isSome_some,if_true,Bool.false_eq_true,if_false] at hl2
      have HV:=Lib.hid hv
      clear hv
      go_wp2_with (go_at_call 52;refine (B5 _ _ hks).mono ?_;rw[HKY.out];rintro e w1 ⟨rfl,hb1⟩;obtain ⟨hc1,hf1⟩:=I0 hb1;have hz1:wr.heap.size < w1.heap.size:=by have:=hb1.size;simp at this;omega)
      have hb1':=HB.out _ _ (by simpa using hb1)
      go_ret
      exact ⟨CB (by rw[HF.out (by rw[HV.out];decide),HV.out]),hb1'.1.trans ((Below.refl _ _).alloc (by omega) _)⟩
     ·have hl1:=Bt (P:=Tryz.prog) Tryz.underlying103 Tryz.underlying3 #[⟨.int .i64 1,.int .i64 1073741824,0⟩,⟨.int .i64 2,.int .i64 0,1⟩,⟨.int .i64 3,.int .i64 1,2⟩] 3 3 true _ A4 (some (2,.int .i64 1)) rfl
      simp only[Option.map_some,Option.getD_some,Option.isSome_some,if_true,Bool.false_eq_true,if_false] at hl1
      have hl2:=Bt (P:=Tryz.prog) Tryz.underlying103 Tryz.underlying3 #[⟨.int .i64 1,.int .i64 1073741824,0⟩,⟨.int .i64 2,.int .i64 0,1⟩,⟨.int .i64 3,.int .i64 1,2⟩] 3 3 false _ A4 (some (2,.int .i64 1)) rfl
      simp only[Option.map_some,Option.getD_some,Option.isSome_some,if_true,Bool.false_eq_true,if_false] at hl2
      have HV:=Lib.hid hv
      clear hv
      go_wp2_with (go_at_call 52;refine (B5 _ _ hks).mono ?_;rw[HKY.out];rintro e w1 ⟨rfl,hb1⟩;obtain ⟨hc1,hf1⟩:=I0 hb1;have hz1:wr.heap.size < w1.heap.size:=by have:=hb1.size;simp at this;omega)
      have hb1':=HB.out _ _ (by simpa using hb1)
      go_roundw
      case rel=> exact ⟨k+1,by omega,by go_num,Lib.hid (H1.out HV.out),(hb1'.2 _ hb).alloc (by omega) _⟩
      case measure=> simp[intOf];omega
   ·have e:k=n.props.length:=by omega
    have hfin:r=if 40 < n.body.length then 4 else 0:=by
     have h0:=H0.out
     rw[List.take_of_length_le (by omega)] at h0
     rw[←HR.out]
     simp[AZ,h4,h0]
    have HF:=Lib.hid hfin
    clear hfin e
    have hb2:Below w.heap.size w wr:=((Below.refl _ _).alloc (Nat.le_refl _) _).trans (hb.mono (by omega))
    by_cases h40:40 < n.body.length
    ·go_wp2_with fail
     go_ret
     exact ⟨CB (by rw[HF.out,if_pos h40]),hb2⟩
    ·go_wp2_with fail
     go_ret
     exact ⟨CB (by rw[HF.out,if_neg h40]),hb2⟩
theorem Xe (a b:ByteArray):a.toList=b.toList↔a=b:=by
 rw[ByteArray.toList_eq,ByteArray.toList_eq]
 constructor
 ·intro h
  cases a;cases b
  simp at h
  rw[h]
 ·rintro rfl;rfl
theorem VB:Tryz.prog.underlying 101=some (.struct (Tryz.prog.fieldsOf 101)):=by kernel_rfl
theorem Y6:Tryz.prog.stoodInHeld 101=false:=by kernel_rfl
theorem W2:Tryz.prog.eqGuardType Tryz.prog.depth 101=false:=by kernel_rfl
theorem AaR (d:Nat) (p q:AI) (w:World):(Op.eqFields (d+1) (Hd p).toArray (Hd q).toArray (Tryz.prog.fieldsOf 101).toList).run Tryz.prog w=.ok (decide (p=q)) w:=by
 have h:(p=q)↔(p.key=q.key∧p.kind=q.kind∧p.n=q.n∧p.text=q.text):=by
  cases p;cases q;simp
 have hd:decide (p=q)=(decide (p.key.toList=q.key.toList)&&decide (p.kind=q.kind)&&decide (p.n=q.n)&&decide (p.text.toList=q.text.toList)):=by
  rw[Bool.eq_iff_iff]
  simp only[decide_eq_true_eq,Bool.and_eq_true,Xe,h,and_assoc]
 rw[hd]
 simp[go_sem,Hd]
 by_cases h1:p.key.toList=q.key.toList <;> by_cases h2:p.kind=q.kind <;> by_cases h3:p.n=q.n <;> by_cases h4:p.text.toList=q.text.toList <;> simp[h1,h2,h3,h4]
theorem AaS (p q:AI) (w:World):(binOp .neq 101 (.agg #[.string p.key,.int .i64 p.kind,.int .i64 p.n,.string p.text]) (.agg #[.string q.key,.int .i64 q.kind,.int .i64 q.n,.string q.text])).run Tryz.prog w=.ok (.bool (!decide (p=q))) w:=by
 rw[run_neq_struct,run_equalIn_struct w 9999 _ _ _ VB Y6]
 have:=AaR 9998 p q w
 simp only[Hd] at this
 rw[this]
 rfl
theorem XB:(Tryz.prog.info? 5).map (fun i=> (i.zero,i.size,i.bytes))=some (some (.int .u8 0),1,1):=by kernel_rfl
theorem R7 (l:List UInt8):∀u∈l.map Ic,u.oneCell'=true:=by
 intro u hu
 obtain ⟨b,_,rfl⟩:=List.mem_map.1 hu
 rfl
theorem YX (w:World) (e size:Nat):(w.alloc (.cells #[] e)).ownsRow w.heap.size e size (.slice (some ⟨w.heap.size,0,none⟩) 0 0) 0 []:=
 World.ownsRow_lit w #[] 0 (Nat.le_refl _) (Nat.zero_le _) (by simp)
theorem UT (l:List UInt8) (n:Nat) (hn:n=l.length) (A:Option Addr) (c:Nat) (w:World) (hl:l.length≤8388608) (hr:CZ w (· < w.heap.size) A l):
  Calls Tryz.prog 109 #[.slice A n c] w fun e w'=> ∃A1 c1,e=.returned (.slice A1 l.length c1)∧w'.ownsRow w.heap.size 5 1 (.slice A1 l.length c1) l.length (l.map Ic)∧Below w.heap.size w w':=by
 subst hn
 obtain ⟨i0,hi0,hz0,hz1,hz2⟩:=info_parts XB
 have HR:=Lib.hid hr
 clear hr
 cases A with
 | none=>
  have hl0:l=[]:=by
   rcases Nat.eq_zero_or_pos l.length with h | h
   ·exact List.eq_nil_of_length_eq_zero h
   ·obtain ⟨b,o,e,_⟩:=HR.out.at_ h
    cases e
  subst hl0
  have hq:∀wx,(binOp .eql 23 (.slice none 0 c) (.slice none 0 0)).run Tryz.prog wx=.ok (.bool true) wx:=fun wx=> by
   rw[Lib.run_eql_slice_nil wx _ _ _ _ _ _ _ Tryz.underlying23];rfl
  go_enter Tryz.func109,Tryz.ntmps109
  go_wp2_with fail
  go_ret
  exact ⟨none,0,rfl,World.ownsRow_nil _ _ _ _,Below.refl _ _⟩
 | some ad=>
  have hq:∀wx,(binOp .eql 23 (.slice (some ad) l.length c) (.slice none 0 0)).run Tryz.prog wx=.ok (.bool false) wx:=fun wx=> by
   rw[Lib.run_eql_slice_nil wx _ _ _ _ _ _ _ Tryz.underlying23];rfl
  go_enter Tryz.func109,Tryz.ntmps109
  go_wp2_with (at_builtin;refine H2 _ rfl (.tmp 5) (.tmp 6) _ rfl w.heap.size 5 i0 _ 1 1 Tryz.underlying23 hi0 hz0 hz1 hz2 rfl (by omega) (.slice (some ⟨w.heap.size,0,none⟩) 0 0) 0 [] rfl (YX _ _ _) (· < w.heap.size) (some ad) l.length c _ rfl (Dh.keep HR.out (IC.below ((Below.refl _ _).alloc (Nat.le_refl _) _) (fun _ h=> h))) (R7 _) (by simp only[maxLen];omega) (by omega) (by simp) ?_;intro v1 w1 hown1 hg1 hat1)
  obtain ⟨A1,c1,rfl,_⟩:=R9 hown1
  simp only[Nat.zero_add,List.nil_append] at hown1
  go_ret
  refine ⟨A1,c1,by simp,hown1,?_⟩
  exact ((Below.refl _ _).alloc (Nat.le_refl _) _).grown hg1 (by simp) (by simp[Value.ownBlock])
open Go.ChangeShapes Go.WideShapes Go.ChangeAt Go.RowKit
theorem AbE:laidOutB Tryz.prog=true:=by kernel_rfl
theorem AaO:ownKnob Tryz.prog.godebug=none:=by kernel_rfl
theorem Ke {H:Type} {enc:TypeId×Value→H} {P:Program} (hl:laidOutB P=true) {W W':World} (hb:Below W.heap.size W W') (sp:Nat→Bool):
  ∀{ts:List TypeId} {vs:List Value} {ds:List (DataW H)} {ps:List MemPlace},ts.all (fun t=> P.readableRec t&&decide (t < P.types.size))=true→DataW.TrodAll enc P W 0 (fun _=> true) true ts vs ds ps→(∀x∈ps,x.block < W.heap.size)→(∀x∈ps,sp x.block=true)→
   DataW.TrodAll enc P W' 0 sp true ts vs ds ps
 | [],_,_,_,_,h,_,_=> by
  obtain ⟨rfl,rfl,rfl⟩:=trodAll_nil h
  exact trodAll_mk0
 | t::ts,_,_,_,hr,h,hlt,hsp=> by
  obtain ⟨v,vs1,d,ds1,a,b,rfl,rfl,rfl,h1,h2⟩:=trodAll_cons h
  simp only[List.all_cons,Bool.and_eq_true,decide_eq_true_eq] at hr
  exact ⟨a,b,WideElems.Trod_stays hl hr.1.1 hr.1.2 h1 (fun x hx=> hb.same (hlt x (by simp[hx]))) (fun x hx=> hsp x (by simp[hx])),
   Ke hl hb sp hr.2 h2 (fun x hx=> hlt x (by simp[hx])) (fun x hx=> hsp x (by simp[hx])),rfl⟩
theorem Aaq {H:Type} {enc:TypeId×Value→H} {f:Func} {s:ChangeSpec} {fresh handsOn again:Bool} {W W':World} {args:Array Value} {ds gs:List (DataW H)} {before:List MemPlace}
  (hv:s.vars=[]) (hp:f.params.toList.all (fun t=> Tryz.prog.readableRec t&&decide (t < Tryz.prog.types.size))=true) (hrt:f.resultTypes=#[4])
  (hs:s.fn H ds={results:=[.lit (.bool true)],args:=ds})
  (hW:DataW.Whole enc Tryz.prog f.params.toList s.vars false W args.toList ds gs before) (hb:Below W.heap.size W W'):
  s.post enc Tryz.prog f false fresh handsOn again W args (.bool true) W':=by
 have hlt:∀p∈before,p.block < W.heap.size:=fun p hp=> by simpa using hW.lt p hp
 have hW':=hW
 obtain ⟨pa,pv,hA,hV,hps,hz,hn⟩:=hW'
 rw[hv] at hV
 obtain ⟨rfl,rfl⟩:=trodVars_none hV
 rw[List.append_nil] at hps
 subst hps
 have hA':∀sp:Nat→Bool,(∀p∈before,sp p.block=true)→DataW.TrodAll enc Tryz.prog W' 0 sp true f.params.toList args.toList ds before:=
  fun sp hsp=> Ke AbE hb sp hp hA hlt hsp
 have hR:∀(b:Nat) (sp:Nat→Bool) (hd:Bool),DataW.TrodAll enc Tryz.prog W' b sp hd f.resultTypes.toList ((Value.bool true).resultList f.resultTypes.size) [.lit (.bool true)] []:=by
  intro b sp hd
  rw[hrt]
  exact trodAll_cons_mk (shut_bool Tryz.underlying4 _) trodAll_mk0
 have hV0:DataW.TrodVars enc Tryz.prog W' (fun _=> true) [] [] []:=rfl
 have hold:∀p∈before,(fun b=> decide (b < W.heap.size)) p.block=true:=fun p hp=> by simpa using hlt p hp
 have hok:∀(j:Nat) (t:TypeId) (r:Value),f.resultTypes[j]? =some t→((Value.bool true).resultList f.resultTypes.size)[j]? =some r→Value.okWide Tryz.prog W' .any 0 t r:=
  ok_one hrt rfl (okWide_bool_mk Tryz.underlying4 _)
 have hs':s.fn H (ds++[])={results:=[.lit (.bool true)],args:=ds}:=by rw[List.append_nil];exact hs
 refine ⟨ds,[],before,[],before,[],hW,by rw[hs'];exact hR _ _ _,by rw[hs'];exact hA' _ hold,by rw[hs',hv];rfl,World.keptBut_mono (fun p hp=> ⟨hp,?_⟩) (hb.frame (·∈before)),fun _=> ?_⟩
 ·exact Or.inr (by simpa using hp)
 ·refine ⟨hok,_,_,([]++before)++[],⟨[]++before,[],trodAll_append (hA' _ (fun _ _=> rfl)) (hR _ _ _),(show DataW.TrodVars enc Tryz.prog W' (fun _=> true) s.vars [] [] by rw[hv];exact hV0),rfl,?_,?_⟩,?_⟩
  ·intro b off hp
   simp only[List.nil_append,List.append_nil] at hp
   rw[hb.frozen (p:=⟨b,off,none⟩) (hlt _ hp)]
   exact hz b off hp
  ·intro ha
   have:=hn ha
   simpa using this
  ·intro p hp _
   simpa using hp
open Go.ChangeShapes Go.WideShapes Go.RowKit
theorem X5 {w:World} {a:Addr} {u:Value} (h:w.cell? a=some u):(∃b o,a=⟨b,o,none⟩)∧a.block < w.heap.size:=by
 obtain ⟨b,o,s⟩:=a
 unfold World.cell? at h
 cases hh:w.heap[b]? with
 | none=> simp[hh] at h
 | some x=>
  refine ⟨⟨b,o,?_⟩,(Array.getElem?_eq_some_iff.1 hh).1⟩
  cases s with
  | none=> rfl
  | some k=> cases x <;> simp[hh] at h
theorem UR {H:Type} {d:DataW H} {l:List (DataW H)} (h:d∈l):Rows.uptoBulk d≤Rows.uptoBulkAll l:=by
 induction l with
 | nil=> cases h
 | cons x r ih=>
  simp only[Rows.uptoBulkAll]
  cases List.mem_cons.1 h with
  | inl e=> subst e;omega
  | inr e=> have:=ih e;omega
theorem ZE {H:Type} (d:DataW H):1≤Rows.uptoBulk d:=by
 cases d with
 | lit l=> cases l <;> simp[Rows.uptoBulk]
 | nil=> simp[Rows.uptoBulk]
 | ptr d=> simp[Rows.uptoBulk]
 | slice elems spare=> simp[Rows.uptoBulk]
 | agg parts=> simp[Rows.uptoBulk]
 | iface t d=> simp[Rows.uptoBulk]
 | map entries=> simp[Rows.uptoBulk]
 | held h=> simp[Rows.uptoBulk]
theorem ZD {H:Type} (l:List (DataW H)):l.length≤Rows.uptoBulkAll l:=by
 induction l with
 | nil=> simp[Rows.uptoBulkAll]
 | cons x r ih=> have:=ZE x;simp only[Rows.uptoBulkAll,List.length_cons];omega
end Go.Proofs.YtlkmgccikgnaeaaGreatDoor
