/-
  Texts of the proof, one behind the other: Gl AbA AbB AbC AbD AbE AbF AbG AbH AbI AbJ AbK AbL.
  No condition but those that each theorem names.
-/
import Derived.WalkKit
import Derived.Below
import Derived.Lib.LaidTab
import Derived.Shelf.Strconv.Itoa3
import Derived.Test.YtlkmgccikgnaeaaGreatDoorProg
import Derived.Laws.Cells
import Derived.Laws.IdiomCopy
import Derived.Laws.Entries
import Derived.Laws.Slices
import Derived.Laws.IdiomStrings
import Derived.Laws.BytesArg
import Derived.Maps.AppendAt
import Derived.Lib.AppendStr
import Derived.Laws.Tables
import Derived.Great.BuildSlice
import Derived.Laws.CopyRow
import Derived.Laws.Rows
import Derived.Laws.MakeOwn
set_option linter.unusedVariables false
set_option linter.unusedSimpArgs false
set_option maxRecDepth 100000
set_option maxHeartbeats 16000000
namespace Go.Proofs.YtlkmgccikgnaeaaGreatDoor.Ab
theorem aI {a b:Prop} (hb:b) (h:a:=by first | omega | decide | (simp;done) | (simp only[List.length_append,List.length_cons,List.length_nil,List.length_map];omega)):a∧b:=⟨h,hb⟩
open Go
def gL:List Nat:=[0,3,1,2]
def GI (w:World):Prop:=
 (∃t f,w.heap[0]? =some (.cells (Lib.pow10Tab.map fun z=> Value.int .u64 z).toArray t f))∧
 (∃m cs t f,w.heap[3]? =some (.cells cs t f)∧w.cell? ⟨3,0,none⟩=some (.int .i64 m))∧
 (∃tp p t f,w.heap[1]? =some (.cells #[.iface tp p] t f))∧
 ∃tp p t f,w.heap[2]? =some (.cells #[.iface tp p] t f)
theorem GI.stays {w w':World} (h:GI w) (hb:∀b∈gL,w'.heap[b]? =w.heap[b]?):GI w':=by
 obtain ⟨⟨t,f,h1⟩,⟨m,cs,t2,f2,h2,h3⟩,⟨tp,p,t4,f4,h4⟩,tp5,p5,t5,f5,h5⟩:=h
 have e2:=hb 3 (by simp[gL])
 exact ⟨⟨t,f,(hb _ (by simp[gL])).trans h1⟩,⟨m,cs,t2,f2,e2.trans h2,(World.cell?_of_block e2).trans h3⟩,⟨tp,p,t4,f4,(hb _ (by simp[gL])).trans h4⟩,tp5,p5,t5,f5,(hb _ (by simp[gL])).trans h5⟩
def Ack (w:World) (im:Nat→Prop):Prop:=(∀b,im b→b < w.heap.size)∧(∀b∈gL,im b)∧GI w
def Bs (S N0:Nat→Prop) (B:Nat) (w:World):Prop:=B≤w.heap.size∧(∀b∈gL,S b∧b < B∧¬N0 b)∧GI w
inductive AV where
 | junk | int (k:IntKind) (n:Int) | bool (b:Bool) | str (l:List UInt8)
 | nils | sl (sz:Nat) (rs:List (List AV)) | os (t:Nat)
 | ptr (v off:Nat) | iptr (cs:List AV) | eptr (t i off:Nat)
 | lsl (n:Nat) | imap (es:List (Value×Value)) | nilp | ifc (b:Bool) | tsl (t i:Nat) | psl (t n:Nat)
 | func (f:Nat) (caps:List AV)
 | agg (cs:List AV) | tup (vs:List AV)
 | opt (g:Bool) (v:AV)
 deriving Inhabited
inductive K where
 | int (k:IntKind) | bool | str | slice (e:Nat) | struct (fs:List (Nat×Nat)) | ref | iface | other
def Cc:K→Bool
 | .other=> true
 | _=> false
structure TI where
 k:K
 n:Nat
 bytes:Nat
 zero:List AV
inductive Be where
 | cells (cs:List AV)
 | rows (e sz:Nat) (rs:List (List AV))
 | deep (e sz:Nat) (rs:List (List AV)) (cols foc:List (Nat×Nat×Nat))
structure AS where
 nt:Nat
 tm:List (Nat×AV)
 bl:List (Nat×Option Be)
def get {α:Type} (n:Nat):List (Nat×α)→Option α
 | []=> none
 | (k,v)::r=> if k=n then some v else get n r
def Cg (n:Nat):List Nat→Bool
 | []=> false
 | k::r=> if n=k then true else Cg n r
def KX:List Nat→Bool
 | []=> true
 | _=> false
def cst:Value→AV
 | .int k n=> .int k n
 | .bool b=> .bool b
 | .string s=> .str s.data.toList
 | .slice none 0 0=> .nils
 | .pointer none=> .nilp
 | .nilIface=> .ifc false
 | _=> .junk
def Fq (σ:AS) (t:Nat):AV:=if t < 65536 then (get t σ.tm).getD .junk else .junk
def ev (σ:AS):Operand→AV
 | .tmp t=> Fq σ t
 | .const v=> cst v
 | .func f=> .func f []
 | .global _=> .junk
def jn:Option (Option Be)→Option Be
 | some b=> b
 | none=> none
def blk (σ:AS) (n:Nat):Option Be:=jn (get n σ.bl)
def uv:AV→AV
 | .opt _ v=> v
 | v=> v
def ug:AV→Bool
 | .opt g _=> g
 | _=> true
def cellsOf:AV→List AV
 | .agg cs=> cs
 | v=> [v]
def Rz:AV→Bool
 | .junk=> false
 | .tup _=> false
 | .ifc _=> false
 | .opt _ _=> false
 | _=> true
def GB (off:Nat) (new old:List AV):List AV:=old.take off++new++old.drop (off+new.length)
def Hm (d:TI) (cs:List AV):Option AV:=
 match d.k with
 | .struct _=> if d.n≤cs.length then some (.agg (cs.take d.n)) else none
 | .other=> none
 | _=> cs.head?
def Ac (b:UInt8):List AV:=[.int .u8 b.toNat]
def Cb (rs:List (List AV)):List UInt8:=rs.map fun r=> match r with | [.int _ n]=> UInt8.ofNat n.toNat | _=> 0
def isB (rs:List (List AV)):Prop:=rs=(Cb rs).map Ac
mutual
def Ad:AV→List Nat
 | .os t=> [t]
 | .ptr v _=> [v]
 | .tsl v _=> [v]
 | .psl v _=> [v]
 | .eptr t _ _=> [t]
 | .agg cs=> Af cs
 | .tup cs=> Af cs
 | .func _ cs=> Af cs
 | .opt _ v=> Ad v
 | _=> []
def Af:List AV→List Nat
 | []=> []
 | v::r=> Ad v++Af r
end
def A3 (bl:Nat→Option Be) (t:Nat):Option (Nat×Nat×List (List AV)):=
 match bl t with
 | some (.rows e sz rs)=> some (e,sz,rs)
 | _=> none
def Fc (bl:Nat→Option Be) (t:Nat):Option (Nat×Nat×List (List AV)×List (Nat×Nat×Nat)×List (Nat×Nat×Nat)):=
 match bl t with
 | some (.deep e sz rs cols foc)=> some (e,sz,rs,cols,foc)
 | _=> none
def Id:List (Nat×Nat×Nat)→Nat→Option (Nat×Nat)
 | [],_=> none
 | (c,e,s)::r,j=> if c=j then some (e,s) else Id r j
def Vh:List (Nat×Nat×Nat)→Nat→Nat→Option Nat
 | [],_,_=> none
 | (a,b,m)::r,i,j=> if a=i∧b=j then some m else Vh r i j
def Gh:List (Nat×Nat×Nat)→List Nat
 | []=> []
 | (_,_,m)::r=> m::Gh r
def keepF (h:AV→AV):List (Nat×Nat×Nat)→List (Nat×Nat×Nat)
 | []=> []
 | (i,j,m)::r=> match h (.os m) with
  | .os _=> (i,j,m)::keepF h r
  | _=> keepF h r
def Lv (i off n:Nat):List (Nat×Nat×Nat)→List (Nat×Nat×Nat)
 | []=> []
 | (a,b,m)::r=> if a=i∧off≤b∧b < off+n then Lv i off n r else (a,b,m)::Lv i off n r
def I4 (k:Nat):List (Nat×Nat×Nat)→List (Nat×Nat×Nat)
 | []=> []
 | (i,j,m)::r=> (k+i,j,m)::I4 k r
def Gw:AV→Bool
 | .nils=> true
 | _=> false
def HY (cols foc:List (Nat×Nat×Nat)) (i:Nat):Nat→List AV→List AV
 | _,[]=> []
 | j,x::r=> (match Vh foc i j with
  | some m=> .os m
  | none=> if (Id cols j).isNone=true∨Gw x=true then x else .junk)::HY cols foc i (j+1) r
def DA (cols:List (Nat×Nat×Nat)) (bl:Nat→Option Be) (i:Nat):Nat→List AV→Option (List AV×List (Nat×Nat×Nat))
 | _,[]=> some ([],[])
 | j,x::r=> match DA cols bl i (j+1) r with
  | none=> none
  | some (cs,fs)=> match x with
   | .os m=> match Id cols j,A3 bl m with
    | some (e,s),some (e',s',_)=> if e=e'∧s=s' then some (.junk::cs,(i,j,m)::fs) else none
    | _,_=> none
   | x=> if KX (Ad x)=true∧((Id cols j).isNone=true∨Gw x=true) then some (x::cs,fs) else none
def Ji (bl:Nat→Option Be):Nat→List AV→List (Nat×Nat×Nat)
 | _,[]=> []
 | j,x::r=> match x with
  | .os m=> match A3 bl m with
   | some (e,s,_)=> (j,e,s)::Ji bl (j+1) r
   | none=> Ji bl (j+1) r
  | _=> Ji bl (j+1) r
def QB:AV→Bool
 | .junk=> true
 | _=> false
def WS (cols:List (Nat×Nat×Nat)):Nat→List AV→Bool
 | _,[]=> true
 | j,x::r=> ((Id cols j).isNone || (Gw x || QB x))&&WS cols (j+1) r
def QP (cols:List (Nat×Nat×Nat)):List (List AV)→Bool
 | []=> true
 | x::r=> WS cols 0 x&&QP cols r
def Vx:List Nat→List Nat→Bool
 | [],_=> true
 | n::r,l=> !Cg n l&&Vx r l
def plain:Option (Nat×Nat×List (List AV))→AV
 | some (_,sz,rs)=> .sl sz rs
 | none=> .junk
mutual
def fz (ns:List Nat) (bl:Nat→Option Be):AV→AV
 | .os t=> if Cg t ns then plain (A3 bl t) else .os t
 | .ptr v o=> if Cg v ns then .junk else .ptr v o
 | .tsl v o=> if Cg v ns then .junk else .tsl v o
 | .psl v o=> if Cg v ns then .junk else .psl v o
 | .eptr v i o=> if Cg v ns then .junk else .eptr v i o
 | .agg cs=> .agg (Hq ns bl cs)
 | .tup cs=> .tup (Hq ns bl cs)
 | .func f cs=> .func f (Hq ns bl cs)
 | .opt g v=> .opt g (fz ns bl v)
 | v=> v
def Hq (ns:List Nat) (bl:Nat→Option Be):List AV→List AV
 | []=> []
 | v::r=> fz ns bl v::Hq ns bl r
end
mutual
def kl (ns:List Nat):AV→AV
 | .os t=> if Cg t ns then .junk else .os t
 | .ptr v o=> if Cg v ns then .junk else .ptr v o
 | .tsl v o=> if Cg v ns then .junk else .tsl v o
 | .psl v o=> if Cg v ns then .junk else .psl v o
 | .eptr v i o=> if Cg v ns then .junk else .eptr v i o
 | .agg cs=> .agg (Pt ns cs)
 | .tup cs=> .tup (Pt ns cs)
 | .func f cs=> .func f (Pt ns cs)
 | .opt g v=> .opt g (kl ns v)
 | v=> v
def Pt (ns:List Nat):List AV→List AV
 | []=> []
 | v::r=> kl ns v::Pt ns r
end
mutual
def ren (m:Nat):AV→AV
 | .os t=> .os (m+4096*(t+1))
 | .agg cs=> .agg (rens m cs)
 | .tup cs=> .tup (rens m cs)
 | v=> v
def rens (m:Nat):List AV→List AV
 | []=> []
 | v::r=> ren m v::rens m r
end
mutual
def Bc:AV→Bool
 | .int _ _=> true
 | .bool _=> true
 | .str _=> true
 | .agg cs=> GO cs
 | .tup cs=> GO cs
 | _=> false
def GO:List AV→Bool
 | []=> true
 | v::r=> Bc v&&GO r
end
def Hf (bl:Nat→Option Be):AV→Option (Nat×List (List AV))
 | .nils=> some (0,[])
 | .sl sz rs=> some (sz,rs)
 | .os t=> (A3 bl t).map fun x=> (x.2.1,x.2.2)
 | _=> none
def J3:AV→List Nat
 | .os t=> [t]
 | _=> []
def Ba:List AV→List Nat
 | []=> []
 | .os t::r=> t::Ba r
 | .agg cs::r=> Ba cs++Ba r
 | _::r=> Ba r
structure Sy where
 v:AV
 own:List (Nat×Nat×List (List AV)):=[]
structure Ck where
 v:AV
 nw:List (Nat×Be):=[]
 up:List (Nat×Be):=[]
 fr:List Nat:=[]
 kl:List Nat:=[]
 pre:Prop:=True
abbrev PW:=Nat→List AV→Option Sy
def PX (n:Nat) (x:AV):Bool:=Rz x&&decide ((cellsOf x).length=n)&&KX (Af (cellsOf x))
def RM (fs:List (Nat×Nat)) (D:Nat→TI):List AV→List (Nat×AV)→Option (List AV)
 | cs,[]=> some cs
 | cs,(i,v)::r=> match fs[i]? with
  | some (o,t)=> if Rz v=true∧(cellsOf v).length=(D t).n∧o+(D t).n≤cs.length then RM fs D (GB o (cellsOf v) cs) r else none
  | none=> none
def Lb (k:IntKind) (a b:Int):Int:=k.wrap (a*2^(min b.toNat k.bits))
def W7 (k:IntKind) (a b:Int):Int:=a.fdiv (2^(min b.toNat k.bits))
def Zt (k:IntKind) (a b:Int):Int:=k.wrap (BitVec.ofInt k.bits a ||| BitVec.ofInt k.bits b).toNat
def Abi (k:IntKind) (a b:Int):Int:=k.wrap (BitVec.ofInt k.bits a&&&BitVec.ofInt k.bits b).toNat
def bin (op:BinOp) (x y:AV):Option Ck:=
 match op,x,y with
 | .shl,.int k a,.int _ b=> some {v:=.int k (Lb k a b),pre:=0≤b}
 | .shr,.int k a,.int _ b=> some {v:=.int k (W7 k a b),pre:=0≤b}
 | .add,.int k a,.int k' b=> if k=k' then some {v:=.int k (k.wrap (a+b))} else none
 | .sub,.int k a,.int k' b=> if k=k' then some {v:=.int k (k.wrap (a - b))} else none
 | .mul,.int k a,.int k' b=> if k=k' then some {v:=.int k (k.wrap (a*b))} else none
 | .quo,.int k a,.int k' b=> if k=k' then some {v:=.int k (k.wrap (a.tdiv b)),pre:=b≠0} else none
 | .rem,.int k a,.int k' b=> if k=k' then some {v:=.int k (a.tmod b),pre:=b≠0} else none
 | .or,.int k a,.int k' b=> if k=k' then some {v:=.int k (Zt k a b)} else none
 | .and,.int k a,.int k' b=> if k=k' then some {v:=.int k (Abi k a b)} else none
 | .eql,.int k a,.int k' b=> if k=k' then some {v:=.bool (a==b)} else none
 | .neq,.int k a,.int k' b=> if k=k' then some {v:=.bool (a !=b)} else none
 | .lss,.int k a,.int k' b=> if k=k' then some {v:=.bool (a < b)} else none
 | .leq,.int k a,.int k' b=> if k=k' then some {v:=.bool (a≤b)} else none
 | .gtr,.int k a,.int k' b=> if k=k' then some {v:=.bool (a > b)} else none
 | .geq,.int k a,.int k' b=> if k=k' then some {v:=.bool (a≥b)} else none
 | .eql,.str a,.str b=> some {v:=.bool (a==b)}
 | .neq,.str a,.str b=> some {v:=.bool (!(a==b))}
 | .add,.str a,.str b=> some {v:=.str (a++b),pre:=a.length+b.length≤1099511627776}
 | _,_,_=> none
def isC:Operand→Bool
 | .const _=> true
 | _=> false
def Ls (D:Nat→TI) (T:Nat) (c:Bool) (op:BinOp) (x y:AV):Option Ck:=
 match x with
 | .bool a=> match (D T).k,y,op with
  | .bool,.bool b,.eql=> some {v:=.bool (a==b)}
  | .bool,.bool b,.neq=> some {v:=.bool (!(a==b))}
  | _,_,_=> none
 | .ifc a=> match (D T).k,c,y,op with
  | .iface,true,.ifc false,.eql=> some {v:=.bool (!a)}
  | .iface,true,.ifc false,.neq=> some {v:=.bool a}
  | _,_,_,_=> none
 | x=> bin op x y
def bound (n:Nat) (d:Int):Option Operand→List AV→Option Int
 | none,_=> some d
 | some _,xs=> match xs[n]? with | some (.int _ m)=> some m | _=> none
def Ij (D:Nat→TI) (bl:Nat→Option Be) (T:Nat) (lo hi:Option Operand) (xs:List AV):Option Ck:=
 let hn:=if lo.isSome then 2 else 1
 match (D T).k with
 | .str=> match xs.getD 0 AV.junk with
  | AV.str s=> match bound 1 0 lo xs,bound hn s.length hi xs with
   | some l,some h=> some {v:=.str ((s.take h.toNat).drop l.toNat),pre:=0≤l∧l≤h∧h≤s.length}
   | _,_=> none
  | _=> none
 | .slice e=> match Hf bl (xs.getD 0 AV.junk) with
  | some r=> match bound 1 0 lo xs,bound hn r.2.length hi xs with
   | some l,some h=> some {v:=.sl r.1 ((r.2.take h.toNat).drop l.toNat),fr:=J3 (xs.getD 0 AV.junk),pre:=(0≤l∧l≤h∧h≤r.2.length)∧(r.1=(D e).n∨h=0)}
   | _,_=> none
  | _=> none
 | _=> none
def Hz (D:Nat→TI) (bl:Nat→Option Be) (T:Nat):AV→Option Ck
 | .ptr v off=> match bl v with
  | some (.cells cs)=> (Hm (D T) (cs.drop off)).map fun x=> {v:=x}
  | _=> none
 | .iptr cs=> (Hm (D T) cs).map fun x=> {v:=x}
 | .eptr t i off=> match A3 bl t with
  | some (_,_,rs)=> (Hm (D T) ((rs.getD i []).drop off)).map fun x=> {v:=x}
  | none=> match Fc bl t with
   | some (_,_,rs,cols,foc)=> (Hm (D T) ((HY cols foc i 0 (rs.getD i [])).drop off)).map fun x=> {v:=x}
   | none=> none
 | _=> none
def Ik (D:Nat→TI) (bl:Nat→Option Be) (T:Nat) (x:AV):AV→Option Ck
 | .ptr v off=> match bl v with
  | some (.cells cs)=> some {v:=.junk,up:=[(v,.cells (GB off (cellsOf x) cs))],pre:=Rz x=true∧(cellsOf x).length=(D T).n∧off+(D T).n≤cs.length}
  | _=> none
 | .eptr t i off=> match A3 bl t with
  | some (e,sz,rs)=> some {v:=.junk,up:=[(t,.rows e sz (rs.set i (GB off (cellsOf x) (rs.getD i []))))],pre:=Rz x=true∧((cellsOf x).length=(D T).n∧off+(D T).n≤(rs.getD i []).length)∧Af (cellsOf x)=[]∧i < rs.length}
  | none=> match Fc bl t with
   | some (e,sz,rs,cols,foc)=> match DA cols bl i off (cellsOf x) with
    | some p=> some {v:=.junk,up:=[(t,.deep e sz (rs.set i (GB off p.1 (rs.getD i []))) cols (p.2++Lv i off p.1.length foc))],pre:=Rz x=true∧((cellsOf x).length=(D T).n∧off+(D T).n≤(rs.getD i []).length)∧i < rs.length}
    | none=> none
   | none=> none
 | _=> none
def D7 (D:Nat→TI) (T f:Nat) (x:AV):Option Ck:=
 match (D T).k with
 | .struct fs=> match fs[f]? with
  | some (o,_)=> match x with
   | .ptr v off=> some {v:=.ptr v (off+o)}
   | .iptr cs=> some {v:=.iptr (cs.drop o)}
   | .eptr t i off=> some {v:=.eptr t i (off+o)}
   | _=> none
  | none=> none
 | _=> none
def Ii (D:Nat→TI) (T f:Nat):AV→Option Ck
 | .agg cs=> match (D T).k with
  | .struct fs=> match fs[f]? with
   | some (o,ft)=> (Hm (D ft) (cs.drop o)).map fun x=> {v:=x}
   | none=> none
  | _=> none
 | _=> none
def D8 (D:Nat→TI) (bl:Nat→Option Be) (T:Nat) (x:AV):AV→Option Ck
 | .int _ n=> match (D T).k with
  | .slice e=> match x with
   | .sl sz rs=> if sz=(D e).n then some {v:=.iptr (rs.getD n.toNat []),pre:=0≤n∧n < rs.length} else none
   | .os t=> match A3 bl t with
    | some (_,sz,rs)=> if sz=(D e).n then some {v:=.eptr t n.toNat 0,pre:=0≤n∧n < rs.length} else none
    | none=> match Fc bl t with
     | some (_,sz,rs,_,_)=> if sz=(D e).n then some {v:=.eptr t n.toNat 0,pre:=0≤n∧n < rs.length} else none
     | none=> none
   | .psl t m=> if (D e).n=1 then some {v:=.ptr t n.toNat,pre:=0≤n∧n < m} else none
   | _=> none
  | _=> none
 | _=> none
def QC:K→Bool
 | .int .u8=> true
 | _=> false
def FO (D:Nat→TI) (bl:Nat→Option Be) (S T:Nat) (x:AV):Option Ck:=
 match (D S).k,(D T).k with
 | .int _,.int k=> match x with | .int _ n=> some {v:=.int k (k.wrap n)} | _=> none
 | .str,.str=> match x with | .str l=> some {v:=.str l} | _=> none
 | .slice e,.str=> if QC (D e).k then (Hf bl x).map fun r=> {v:=.str (Cb r.2),pre:=isB r.2} else none
 | .str,.slice e=> match x with
  | .str l=> if QC (D e).k then some {v:=.sl 1 (l.map Ac),pre:=l.length≤1099511627776} else none
  | _=> none
 | .slice _,.slice e'=> match x with
  | .os t=> match A3 bl t with
   | some (_,sz,rs)=> if S=T∧QC (D e').k=true then some {v:=.sl sz rs,kl:=[t],pre:=rs≠[]} else none
   | none=> none
  | _=> none
 | _,_=> none
def V6 (el n:Nat) (bl:Nat→Option Be):AV→Option (List (List AV))
 | .nils=> some []
 | .os t=> match A3 bl t with
  | some (e,sz,rs)=> if e=el∧sz=n then some rs else none
  | none=> none
 | _=> none
def Tm (D:Nat→TI) (bl:Nat→Option Be) (T U:Nat):AV→Option (Nat×List (List AV))
 | .str l=> match (D U).k with
  | .str=> some (1,l.map Ac)
  | _=> none
 | y=> if U=T then Hf bl y else none
def Aam:AV→Bool
 | .str _=> true
 | _=> false
def Xn (el n:Nat) (bl:Nat→Option Be):AV→Option (List (List AV)×Option (List (Nat×Nat×Nat))×List (Nat×Nat×Nat))
 | .nils=> some ([],none,[])
 | .os t=> match Fc bl t with
  | some (e,sz,rs,cols,foc)=> if e=el∧sz=n then some (rs,some cols,foc) else none
  | none=> none
 | _=> none
def XT (el n:Nat) (bl:Nat→Option Be):AV→Option (List (List AV)×Option (List (Nat×Nat×Nat))×List (Nat×Nat×Nat))
 | .os t=> match Fc bl t with
  | some (e,sz,rs,cols,foc)=> if e=el∧sz=n then some (rs,some cols,foc) else none
  | none=> match A3 bl t with
   | some (e,sz,rs)=> if e=el∧sz=n then some (rs,none,[]) else none
   | none=> none
 | _=> none
def Xp:Option (List (Nat×Nat×Nat))→Option (List (Nat×Nat×Nat))→Option (List (Nat×Nat×Nat))
 | some a,some b=> if a=b then some a else none
 | some a,none=> some a
 | none,some b=> some b
 | none,none=> none
def FN (D:Nat→TI) (bl:Nat→Option Be) (dst e T U:Nat) (x y:AV):Option Ck:=
 match Xn e (D e).n bl x,XT e (D e).n bl y with
 | some r,some q=> match Xp r.2.1 q.2.1 with
  | some cols=> if T=U∧(D e).bytes≤4096 then some {v:=.os dst,kl:=J3 x,nw:=[(dst,.deep e (D e).n (r.1++q.1) cols (r.2.2++I4 r.1.length q.2.2))],pre:=r.1.length+q.1.length≤16777216∧QP cols q.1=true∧Vx (J3 x) (Gh (r.2.2++I4 r.1.length q.2.2))=true} else none
  | none=> none
 | _,_=> none
def FM (D:Nat→TI) (bl:Nat→Option Be) (dst T U:Nat) (x y:AV):Option Ck:=
 match (D T).k with
 | .slice e=> match V6 e (D e).n bl x,Tm D bl T U y with
  | some r,some q=> if (D e).bytes≤128∧(Aam y=false∨(QC (D e).k=true∧(D e).n=1∧(D e).bytes=1)) then some {v:=.os dst,kl:=J3 x,nw:=[(dst,.rows e (D e).n (r++q.2))],pre:=r.length+q.2.length≤1099511627776∧(q.1=(D e).n∨q.2=[])} else none
  | _,_=> FN D bl dst e T U x y
 | _=> none
def DZ (dst:Nat) (k:Nat):List (Nat×Nat×List (List AV))→List (Nat×Be)
 | []=> []
 | (e,sz,rs)::r=> (dst+4096*(k+1),.rows e sz rs)::DZ dst (k+1) r
mutual
def Cw:AV→Bool
 | .int _ _=> true
 | .bool _=> true
 | .str _=> true
 | .nils=> true
 | .sl _ _=> true
 | .os _=> true
 | .ifc _=> true
 | .agg cs=> IQ cs
 | .tup cs=> IQ cs
 | _=> false
def IQ:List AV→Bool
 | []=> true
 | v::r=> Cw v&&IQ r
end
def Lu (dst:Nat) (args:List AV):Option Sy→Option Ck
 | some ⟨v,[]⟩=> if Bc v then some {v:=v} else if Cw v then some {v:=v,fr:=Ba args} else none
 | some ⟨v,o::os⟩=> if Cw v then some {v:=ren dst v,nw:=DZ dst 0 (o::os),fr:=Ba args} else none
 | none=> none
def KT (G:PW) (bl:Nat→Option Be) (dst:Nat) (args:List AV):AV→Option Ck
 | .func f caps=>
  if KX (Af (Hq (Ba (args++caps)) bl (args++caps))) then Lu dst (args++caps) (G f (Hq (Ba (args++caps)) bl (args++caps))) else none
 | _=> none
def Lt (D:Nat→TI) (bl:Nat→Option Be) (T:Nat) (x:AV):Option Ck:=
 match (D T).k with
 | .str=> match x with | .str l=> some {v:=.int .i64 l.length} | _=> none
 | .slice _=> match Hf bl x with
  | some r=> some {v:=.int .i64 r.2.length}
  | none=> match x with
   | .os t=> (Fc bl t).map fun d=> {v:=.int .i64 d.2.2.1.length}
   | _=> none
 | _=> none
def RQ:AV→Bool
 | .ptr _ _=> true
 | _=> false
def KV:List AV→Bool
 | [x]=> !KX (Af (cellsOf x))
 | _=> false
def GP (D:Nat→TI) (bl:Nat→Option Be) (dst e:Nat) (x:AV):Option Ck:=
 match DA (Ji bl 0 (cellsOf x)) bl 0 0 (cellsOf x) with
 | some p=> some {v:=.os dst,nw:=[(dst,.deep e (D e).n [p.1] (Ji bl 0 (cellsOf x)) p.2)],pre:=Rz x=true∧(cellsOf x).length=(D e).n∧(D e).n≤65536}
 | none=> none
def Zp (D:Nat→TI) (G:PW) (bl:Nat→Option Be) (dst:Nat) (op:Op) (xs:List AV):Option Ck:=
 match op with
 | .move _=> match xs with | [x]=> some {v:=x} | _=> none
 | .assign _=> match xs with | [x]=> some {v:=x} | _=> none
 | .alloc T=> if Cc (D T).k then none else some {v:=.ptr dst 0,nw:=[(dst,.cells (D T).zero)]}
 | .box T _=> match xs with | [x]=> some {v:=.ptr dst 0,nw:=[(dst,.cells (cellsOf x))],pre:=Rz x=true} | _=> none
 | .build T ps=> match (D T).k with
  | .struct fs=> (RM fs D (D T).zero ((ps.toList.map (·.1)).zip xs)).map fun cs=> {v:=.agg cs}
  | _=> none
 | .buildSlice T n ps=> match (D T).k with
  | .slice e=> if ps.toList.map (·.1)=List.range n then if RQ (xs.getD 0 .junk)=true∧(D e).n=1 then some {v:=.psl dst n,nw:=[(dst,.cells xs)],pre:=xs.all RQ=true∧n≤65536} else if KV xs=true then GP D bl dst e (xs.getD 0 .junk) else some {v:=.os dst,nw:=[(dst,.rows e (D e).n (xs.map cellsOf))],pre:=xs.all (PX (D e).n)=true∧n*(D e).n≤16777216} else none
  | _=> none
 | .load T _=> match xs with | [a]=> Hz D bl T a | _=> none
 | .store T _ _=> match xs with | [a,x]=> if Cc (D T).k then none else Ik D bl T x a | _=> none
 | .nilCheck _=> match xs with
  | [.ptr v o]=> some {v:=.ptr v o}
  | [.iptr cs]=> some {v:=.iptr cs}
  | [.eptr t i o]=> some {v:=.eptr t i o}
  | _=> none
 | .binOp op T _ z _=> match xs with | [x,y]=> Ls D T (isC z) op x y | _=> none
 | .unOp u _ _=> match u,xs with
  | .not,[.bool b]=> some {v:=.bool (!b)}
  | .neg,[.int k n]=> some {v:=.int k (k.wrap (0 - n))}
  | _,_=> none
 | .convert S T _=> match xs with | [x]=> FO D bl S T x | _=> none
 | .slice T _ lo hi mx=> match mx with | none=> Ij D bl T lo hi xs | some _=> none
 | .fieldAddr T _ f=> match xs with | [x]=> D7 D T f x | _=> none
 | .field T _ f=> match xs with | [x]=> Ii D T f x | _=> none
 | .indexAddr T _ _=> match xs with | [x,i]=> D8 D bl T x i | _=> none
 | .index T _ _=> match (D T).k,xs with
  | .str,[.str l,.int _ n]=> some {v:=.int .u8 (l.getD n.toNat 0).toNat,pre:=0≤n∧n < l.length}
  | _,_=> none
 | .makeSlice T _ _=> match (D T).k with
  | .slice e=> match xs with
   | [.int _ n,.int _ m]=> if QC (D e).k=true∧(D e).bytes=1 then some {v:=.sl 1 ((List.replicate n.toNat (0:UInt8)).map Ac),pre:=0≤n∧n≤65536∧n=m} else none
   | _=> none
  | _=> none
 | .extract _ i=> match xs with
  | [.tup vs]=> (vs[i]?).map fun v=> {v:=v}
  | _=> none
 | .makeFunc fn first caps=> match fn with
  | .func f=> if first=#[] then some {v:=.func f xs} else none
  | _=> none
 | .call c=> match c.callee with
  | .builtin b=> match b with
   | .len=> match c.argTypes.toList with
    | [T]=> match xs with | [x]=> Lt D bl T x | _=> none
    | _=> none
   | .append=> match c.argTypes.toList with
    | [T,U]=> match xs with | [x,y]=> FM D bl dst T U x y | _=> none
    | _=> none
   | .max=> match xs with | [.int k a,.int k' b]=> if k=k' then some {v:=.int k (if b > a then b else a)} else none | _=> none
   | .min=> match xs with | [.int k a,.int k' b]=> if k=k' then some {v:=.int k (if b < a then b else a)} else none | _=> none
   | _=> none
  | .value _=> match xs with | f::args=> KT G bl dst args f | _=> none
  | _=> none
 | _=> none
def B4 (σ:AS) (ops:Array Oper):Option (Nat×Bool)→Option (Option Bool)
 | none=> some none
 | some (j,want)=> match (ops[j]?).bind (·.dst) with
  | none=> none
  | some t=> match Fq σ t with
   | .bool b=> some (some (if want then b else !b))
   | .opt g (.bool b)=> some (some (g&&(if want then b else !b)))
   | _=> none
def GA (σ:AS) (ns:List Nat) (n:Nat):Option Be:=if Cg n ns then blk σ n else none
def Aby {α:Type} (l:List (Nat×α)) (n:Nat):Option α:=get n l
def AF {α:Type}:List (Nat×α)→List Nat
 | []=> []
 | (k,_)::r=> k::AF r
def XO (c a b:AV):Option Ck:=
 match uv c,uv a,uv b with
 | .bool g,.bool x,.bool y=> some {v:=.bool (if g then x else y),pre:=ug c=true∧(g=true→ug a=true)∧(g=false→ug b=true)}
 | _,_,_=> none
def WI:Op→Bool
 | .pick _ _ _=> true
 | _=> false
def XN:List AV→Option Ck
 | [c,a,b]=> XO c a b
 | _=> none
def UL (ys:List AV):Option Ck→Option Ck
 | some e=> some {e with pre:=ys.all ug=true∧e.pre}
 | none=> none
def GC (D:Nat→TI) (G:PW) (σ:AS) (dst:Nat) (op:Op) (ys:List AV):Option Ck:=
 if WI op then XN ys else UL ys (Zp D G (GA σ (Af ys)) dst op (ys.map uv))
def CC (σ:AS):List Nat→Bool
 | []=> true
 | n::r=> (blk σ n).isNone&&CC σ r
def Az:List Nat→List Nat→Bool
 | [],_=> true
 | n::r,l=> Cg n l&&Az r l
def F5 (bl:Nat→Option Be):List Nat→List Nat
 | []=> []
 | n::r=> match bl n with
  | some (.cells cs)=> Af cs++F5 bl r
  | some (.deep _ _ _ _ foc)=> Gh foc++F5 bl r
  | _=> F5 bl r
def BG:List (Nat×Be)→List Nat
 | []=> []
 | (_,.cells cs)::r=> Af cs++BG r
 | (_,.rows _ _ _)::r=> BG r
 | (_,.deep _ _ _ _ foc)::r=> Gh foc++BG r
def okN (ks ns bs vs:List Nat):Bool:=Az vs (ks++(ns++bs))
def EJ:Op→Bool
 | .move _=> true
 | .assign _=> true
 | .nilCheck _=> true
 | .fieldAddr _ _ _=> true
 | .field _ _ _=> true
 | .extract _ _=> true
 | .binOp _ _ _ _ _=> true
 | .unOp _ _ _=> true
 | .build _ _=> true
 | .pick _ _ _=> true
 | _=> false
def Kk (σ:AS) (op:Op) (ns:List Nat):List Nat:=if EJ op=true then [] else F5 (GA σ ns) ns
def IL (σ:AS) (ns bs:List Nat) (g:Bool):Option Ck→Option Ck
 | none=> none
 | some e=> if (e.fr=[]∧e.up=[]∧e.kl=[])∧CC σ (AF e.nw)=true∧okN [] ns bs (Ad (fz (AF e.nw) (Aby e.nw) e.v))=true then some {v:=.opt g (fz (AF e.nw) (Aby e.nw) e.v),pre:=g=true→e.pre} else none
abbrev ID:=Nat→Nat→List AV→(Nat→Option Be)→Option Ck
def XK:ID:=fun _ _ _ _=> none
def US (M:ID) (dn:Nat) (bl:Nat→Option Be) (args:List AV):AV→Option Ck
 | .func g caps=> M dn g (args++caps) bl
 | _=> none
def Jv (M:ID) (dn:Nat) (σ:AS) (o:Oper):Option Ck:=match o.op with
 | .call c=> match c.callee with
  | .value f=> US M dn (GA σ (Af (o.op.operands.toList.map (ev σ)))) (c.args.toList.map (ev σ)) (ev σ f)
  | _=> none
 | _=> none
def YM (dn:Nat):List (Nat×Be)→Bool
 | []=> true
 | (k,_)::r=> decide (k%4096=dn%4096)&&YM dn r
def orM (dn:Nat):Option Ck→Option Ck→Option Ck
 | some e,_=> some e
 | none,some e=> if YM dn e.nw=true then some e else none
 | none,none=> none
def eqB:Bool→Bool→Bool
 | true,true=> true
 | false,false=> true
 | _,_=> false
def Acz (j:Nat) (w:Bool):List (Nat×Bool)→Bool
 | []=> false
 | (k,u)::r=> (decide (j=k)&&eqB w u) || Acz j w r
def Ab9 (off:List (Nat×Bool)):Option (Nat×Bool)→Bool
 | none=> false
 | some (j,w)=> Acz j w off
def XS:Option (Option Bool)→Option Ck
 | some (some g)=> some {v:=.opt false (.bool false),pre:=g=false}
 | _=> none
def opEff (D:Nat→TI) (G:PW) (M:ID) (nb:Nat) (off:List (Nat×Bool)) (ops:Array Oper) (σ:AS) (o:Oper):Option Ck:=
 if Ab9 off o.guard=true then XS (B4 σ ops o.guard) else
 match B4 σ ops o.guard with
 | none=> none
 | some none=> orM (nb+o.dst.getD 0) (GC D G σ (nb+o.dst.getD 0) o.op (o.op.operands.toList.map (ev σ))) (Jv M (nb+o.dst.getD 0) σ o)
 | some (some g)=> IL σ (Af (o.op.operands.toList.map (ev σ))) (Kk σ o.op (Af (o.op.operands.toList.map (ev σ)))) g (GC D G σ (nb+o.dst.getD 0) o.op (o.op.operands.toList.map (ev σ)))
def DX (h:AV→AV):List (Nat×AV)→List (Nat×AV)
 | []=> []
 | (t,v)::r=> (t,h v)::DX h r
def ES (h:AV→AV):List AV→List AV
 | []=> []
 | v::r=> h v::ES h r
def Df (h:AV→AV):List (Nat×Option Be)→List (Nat×Option Be)
 | []=> []
 | (n,some (.cells cs))::r=> (n,some (.cells (ES h cs)))::Df h r
 | (n,some (.rows e sz rs))::r=> (n,some (.rows e sz rs))::Df h r
 | (n,some (.deep e sz rs cols foc))::r=> (n,some (.deep e sz rs cols (keepF h foc)))::Df h r
 | (n,none)::r=> (n,none)::Df h r
def D9:List Nat→List (Nat×Option Be)
 | []=> []
 | n::r=> (n,none)::D9 r
def Vm:List (Nat×Be)→List (Nat×Option Be)
 | []=> []
 | (n,b)::r=> (n,some b)::Vm r
def freeze (σ:AS):List Nat→AS
 | []=> σ
 | n::ns=> {nt:=σ.nt,tm:=DX (fz (n::ns) (blk σ)) σ.tm,bl:=D9 (n::ns)++Df (fz (n::ns) (blk σ)) σ.bl}
def kill (σ:AS):List Nat→AS
 | []=> σ
 | n::ns=> {nt:=σ.nt,tm:=DX (kl (n::ns)) σ.tm,bl:=D9 (n::ns)++Df (kl (n::ns)) σ.bl}
def VD (d:Option Nat) (v:AV) (tm:List (Nat×AV)):List (Nat×AV):=match d with | some d=> (d,v)::tm | none=> tm
def apply (σ:AS) (dst:Option Nat) (e:Ck):AS:=
 {nt:=σ.nt,tm:=VD dst e.v (kill (freeze σ e.fr) e.kl).tm,bl:=Vm e.nw++Vm e.up++(kill (freeze σ e.fr) e.kl).bl}
def fresh (σ:AS) (dst:Option Nat) (e:Ck):Bool:=CC σ (AF e.nw)&&(match dst with | some d=> decide (d < σ.nt) | none=> true)
def Aca (h:AV→AV) (tm:List (Nat×AV)):List Nat→List (Nat×AV)
 | []=> []
 | t::r=> (t,h ((get t tm).getD .junk))::Aca h tm r
def Vp (h:AV→AV) (bl:Nat→Option Be):List Nat→List (Nat×Option Be)
 | []=> []
 | n::r=> match bl n with
  | some (.cells cs)=> (n,some (.cells (ES h cs)))::Vp h bl r
  | some (.rows e sz rs)=> (n,some (.rows e sz rs))::Vp h bl r
  | some (.deep e sz rs cols foc)=> (n,some (.deep e sz rs cols (keepF h foc)))::Vp h bl r
  | none=> Vp h bl r
def Te (bs:List Nat):List Nat→List Nat
 | []=> []
 | n::r=> if Cg n bs then Te bs r else n::Te bs r
def AS.keep (σ:AS) (ts bs:List Nat):AS:=
 {nt:=σ.nt,tm:=Aca (fz (Te bs (AF σ.bl)) (blk σ)) σ.tm ts,bl:=Vp (fz (Te bs (AF σ.bl)) (blk σ)) (blk σ) bs}
variable {D:Nat→TI} {G:PW} {off:List (Nat×Bool)} {ops:Array Oper} {σ:AS}
theorem V5 {ys:List AV} {e:Ck}:UL ys (some e)=some {e with pre:=ys.all ug=true∧e.pre}:=rfl
structure NI where
 b:Option Nat
 A:Option Addr
 n:Nat
 c:Nat
 sz:Nat
 h:Nat→Option Nat:=fun _=> none
def NI.sv (i:NI):Value:=.slice i.A i.n i.c
abbrev BI:=Nat→NI
def I5:Bool→Value→Bool
 | true,.iface _ _=> true
 | false,.nilIface=> true
 | _,_=> false
inductive Rel (w:World) (im:Nat→Prop) (ρ:BI):AV→Value→Prop
 | junk (v:Value):Rel w im ρ .junk v
 | int (k:IntKind) (n:Int):Rel w im ρ (.int k n) (.int k n)
 | bool (b:Bool):Rel w im ρ (.bool b) (.bool b)
 | str (l:List UInt8):Rel w im ρ (.str l) (.string ⟨⟨l⟩⟩)
 | nils:Rel w im ρ .nils (.slice none 0 0)
 | sl (sz:Nat) (rs:List (List AV)) (A:Option Addr) (c b o:Nat) (val:Nat→Nat→Value) (hc:rs.length≤c) (hm:c≤maxLen)
   (hA:0 < rs.length→A=some ⟨b,o,none⟩∧im b)
   (hrow:∀(i:Nat) row,rs[i]? =some row→row.length=sz)
   (hcell:∀(i j:Nat) row x,rs[i]? =some row→row[j]? =some x→w.cell? ⟨b,o+(i*sz+j),none⟩=some (val i j)∧(val i j).oneCell'=true∧Ad x=[])
   (hval:∀(i j:Nat) row x,rs[i]? =some row→row[j]? =some x→Rel w im ρ x (val i j)):Rel w im ρ (.sl sz rs) (.slice A rs.length c)
 | os (t:Nat):Rel w im ρ (.os t) (ρ t).sv
 | ptr (v off b:Nat) (h:(ρ v).b=some b):Rel w im ρ (.ptr v off) (.pointer (some ⟨b,off,none⟩))
 | iptr (cs:List AV) (b o:Nat) (val:Nat→Value) (hb:im b)
   (hcell:∀(j:Nat) x,cs[j]? =some x→w.cell? ⟨b,o+j,none⟩=some (val j)∧(val j).oneCell'=true∧Ad x=[])
   (hval:∀(j:Nat) x,cs[j]? =some x→Rel w im ρ x (val j)):Rel w im ρ (.iptr cs) (.pointer (some ⟨b,o,none⟩))
 | eptr (t i off b:Nat) (h:(ρ t).b=some b):Rel w im ρ (.eptr t i off) (.pointer (some ⟨b,i*(ρ t).sz+off,none⟩))
 | lsl (n:Nat) (A:Option Addr) (c:Nat) (hc:n≤c) (hm:c≤maxLen):Rel w im ρ (.lsl n) (.slice A n c)
 | imap (es:List (Value×Value)) (b c:Nat) (arr:Array MapEntry) (hb:im b) (ho:w.heap[b]? =some (.map arr c)) (he:arr.toList.map (fun e=> (e.key,e.val))=es):Rel w im ρ (.imap es) (.map (some b))
 | nilp:Rel w im ρ .nilp (.pointer none)
 | ifc (b:Bool) (v:Value) (h:I5 b v=true):Rel w im ρ (.ifc b) v
 | tsl (t i b:Nat) (A':Option Addr) (h:(ρ t).b=some b) (hA:i < (ρ t).n→A'=some ⟨b,i*(ρ t).sz,none⟩):Rel w im ρ (.tsl t i) (.slice A' ((ρ t).n - i) ((ρ t).c - i))
 | psl (t n c b:Nat) (h:(ρ t).b=some b) (hc:n≤c) (hm:c≤maxLen):Rel w im ρ (.psl t n) (.slice (some ⟨b,0,none⟩) n c)
 | func (f:Nat) (cs:List AV) (vs:Array Value) (hl:vs.size=cs.length) (hval:∀(i:Nat) x v,cs[i]? =some x→vs[i]? =some v→Rel w im ρ x v):Rel w im ρ (.func f cs) (.func (.func f) #[] vs)
 | agg (cs:List AV) (vs:Array Value) (hl:vs.size=cs.length) (h1:∀(i:Nat) v,vs[i]? =some v→v.oneCell'=true) (hval:∀(i:Nat) x v,cs[i]? =some x→vs[i]? =some v→Rel w im ρ x v):Rel w im ρ (.agg cs) (.agg vs)
 | tup (cs:List AV) (vs:Array Value) (hl:vs.size=cs.length) (hval:∀(i:Nat) x v,cs[i]? =some x→vs[i]? =some v→Rel w im ρ x v):Rel w im ρ (.tup cs) (.tuple vs)
 | opt (g:Bool) (x:AV) (v:Value) (h1:g=true→Rel w im ρ x v) (h2:g=false→v=undef):Rel w im ρ (.opt g x) v
theorem AY {n i:Nat} {x:AV}:∀{cs:List AV},cs[i]? =some x→n∈Ad x→n∈Af cs
 | [],h,_=> by simp at h
 | c::r,h,hn=> by
  rw[Af]
  cases i with
  | zero=> simp at h;subst h;exact List.mem_append_left _ hn
  | succ i=> simp at h;exact List.mem_append_right _ (AY h hn)
theorem Cr {n:Nat}:∀{cs:List AV},n∈Af cs→∃(i:Nat) (x:AV),cs[i]? =some x∧n∈Ad x
 | [],h=> by simp[Af] at h
 | c::r,h=> by
  rw[Af] at h
  rcases List.mem_append.1 h with h | h
  ·exact ⟨0,c,by simp,h⟩
  ·obtain ⟨i,x,h1,h2⟩:=Cr h
   exact ⟨i+1,x,by simpa using h1,h2⟩
theorem Rel.mono {w w':World} {im im':Nat→Prop} {ρ ρ':BI} {x:AV} {v:Value} (h:Rel w im ρ x v) (him:∀b,im b→im' b) (hw:∀b,im b→w'.heap[b]? =w.heap[b]?)
  (hρ:∀n,n∈Ad x→ρ' n=ρ n):Rel w' im' ρ' x v:=by
 induction h with
 | junk v=> exact .junk v
 | int k n=> exact .int k n
 | bool b=> exact .bool b
 | str l=> exact .str l
 | nils=> exact .nils
 | sl sz rs A c b o val hc hm hA hrow hcell hval ih=>
  refine .sl sz rs A c b o val hc hm (fun h=> ⟨(hA h).1,him _ (hA h).2⟩) hrow (fun i j row x h1 h2=> ?_) (fun i j row x h1 h2=> ih i j row x h1 h2 (fun n hn=> ?_))
  ·obtain ⟨hc1,hc2,hc3⟩:=hcell i j row x h1 h2
   have hpos:0 < rs.length:=by have:=(List.getElem?_eq_some_iff.1 h1).1;omega
   exact ⟨(World.cell?_of_block (hw b (hA hpos).2)).trans hc1,hc2,hc3⟩
  ·rw[(hcell i j row x h1 h2).2.2] at hn;cases hn
 | os t=> rw[←hρ t (by simp[Ad])];exact .os t
 | ptr v off b h=> exact .ptr v off b (by rw[hρ v (by simp[Ad])];exact h)
 | iptr cs b o val hb hcell hval ih=>
  refine .iptr cs b o val (him _ hb) (fun j x h1=> ?_) (fun j x h1=> ih j x h1 (fun n hn=> ?_))
  ·obtain ⟨hc1,hc2,hc3⟩:=hcell j x h1
   exact ⟨(World.cell?_of_block (hw b hb)).trans hc1,hc2,hc3⟩
  ·rw[(hcell j x h1).2.2] at hn;cases hn
 | eptr t i off b h=>
  have:=hρ t (by simp[Ad])
  rw[←this]
  exact .eptr t i off b (by rw[this];exact h)
 | lsl n A c hc hm=> exact .lsl n A c hc hm
 | imap es b c arr hb ho he=> exact .imap es b c arr (him _ hb) ((hw b hb).trans ho) he
 | nilp=> exact .nilp
 | ifc b v h=> exact .ifc b v h
 | tsl t i b A' h hA=>
  have:=hρ t (by simp[Ad])
  rw[←this]
  exact .tsl t i b A' (by rw[this];exact h) (by rw[this];exact hA)
 | psl t n c b h hc hm=> exact .psl t n c b (by rw[hρ t (by simp[Ad])];exact h) hc hm
 | func f cs vs hl hval ih=> exact .func f cs vs hl fun i x v h1 h2=> ih i x v h1 h2 fun n hn=> hρ n (by rw[Ad];exact AY h1 hn)
 | agg cs vs hl h1 hval ih=> exact .agg cs vs hl h1 fun i x v h1 h2=> ih i x v h1 h2 fun n hn=> hρ n (by rw[Ad];exact AY h1 hn)
 | tup cs vs hl hval ih=> exact .tup cs vs hl fun i x v h1 h2=> ih i x v h1 h2 fun n hn=> hρ n (by rw[Ad];exact AY h1 hn)
 | opt g x v h1 h2 ih=> exact .opt g x v (fun hg=> ih hg fun n hn=> hρ n (by rw[Ad];exact hn)) h2
theorem Rel.int_ {w im ρ k n v} (h:Rel w im ρ (.int k n) v):v=.int k n:=by cases h;rfl
theorem Rel.bool_ {w im ρ b v} (h:Rel w im ρ (.bool b) v):v=.bool b:=by cases h;rfl
theorem Rel.str_ {w im ρ l v} (h:Rel w im ρ (.str l) v):v=.string ⟨⟨l⟩⟩:=by cases h;rfl
theorem Cz {n:Nat}:∀{l:List Nat},Cg n l=true↔n∈l
 | []=> by simp[Cg]
 | k::r=> by
  rw[Cg]
  by_cases h:n=k
  ·simp[h]
  ·simp[h,Cz]
theorem Ce {n:Nat} {l:List Nat}:Cg n l=false↔n∉l:=by
 rw[←Cz];simp
theorem Io {h:AV→AV} (t:Nat):∀(l:List (Nat×AV)),get t (DX h l)=(get t l).map h
 | []=> rfl
 | (k,v)::r=> by
  simp only[DX,get]
  split
  ·rfl
  ·exact Io t r
theorem Jt (ns:List Nat):∀cs:List AV,Pt ns cs=cs.map (kl ns)
 | []=> by simp[Pt]
 | c::r=> by simp[Pt,Jt ns r]
theorem Kn (ns:List Nat) (bl:Nat→Option Be):∀cs:List AV,Hq ns bl cs=cs.map (fz ns bl)
 | []=> by simp[Hq]
 | c::r=> by simp[Hq,Kn ns bl r]
theorem Rel.kill {w:World} {im:Nat→Prop} {ρ:BI} {x:AV} {v:Value} (h:Rel w im ρ x v) (ns:List Nat):Rel w im ρ (kl ns x) v:=by
 induction h with
 | junk v=> simp only[kl];exact .junk v
 | int k n=> simp only[kl];exact .int k n
 | bool b=> simp only[kl];exact .bool b
 | str l=> simp only[kl];exact .str l
 | nils=> simp only[kl];exact .nils
 | sl sz rs A c b o val hc hm hA hrow hcell hval ih=> simp only[kl];exact .sl sz rs A c b o val hc hm hA hrow hcell hval
 | os t=> simp only[kl];split <;> first | exact .junk _ | exact .os t
 | ptr v off b h=> simp only[kl];split <;> first | exact .junk _ | exact .ptr v off b h
 | iptr cs b o val hb hcell hval ih=> simp only[kl];exact .iptr cs b o val hb hcell hval
 | eptr t i off b h=> simp only[kl];split <;> first | exact .junk _ | exact .eptr t i off b h
 | lsl n A c hc hm=> simp only[kl];exact .lsl n A c hc hm
 | imap es b c arr hb ho he=> simp only[kl];exact .imap es b c arr hb ho he
 | nilp=> simp only[kl];exact .nilp
 | ifc b v h=> simp only[kl];exact .ifc b v h
 | tsl t i b A' h hA=> simp only[kl];split <;> first | exact .junk _ | exact .tsl t i b A' h hA
 | psl t n c b h hc hm=> simp only[kl];split <;> first | exact .junk _ | exact .psl t n c b h hc hm
 | func f cs vs hl hval ih=>
  simp only[kl,Jt]
  refine .func f _ vs (by simpa using hl) fun i x v h1 h2=> ?_
  rw[List.getElem?_map] at h1
  obtain ⟨y,hy,rfl⟩:=Option.map_eq_some_iff.1 h1
  exact ih i y v hy h2
 | agg cs vs hl h1 hval ih=>
  simp only[kl,Jt]
  refine .agg _ vs (by simpa using hl) h1 fun i x v h1 h2=> ?_
  rw[List.getElem?_map] at h1
  obtain ⟨y,hy,rfl⟩:=Option.map_eq_some_iff.1 h1
  exact ih i y v hy h2
 | tup cs vs hl hval ih=>
  simp only[kl,Jt]
  refine .tup _ vs (by simpa using hl) fun i x v h1 h2=> ?_
  rw[List.getElem?_map] at h1
  obtain ⟨y,hy,rfl⟩:=Option.map_eq_some_iff.1 h1
  exact ih i y v hy h2
 | opt g x v h1 h2 ih=> simp only[kl];exact .opt g _ v ih h2
mutual
theorem G8 (ns:List Nat):∀x:AV,(∀n∈Ad (kl ns x),n∈Ad x∧n∉ns)
 | .os t=> by simp only[kl];split <;> simp_all [Ad,Cz]
 | .ptr v o=> by simp only[kl];split <;> simp_all [Ad,Cz]
 | .tsl v o=> by simp only[kl];split <;> simp_all [Ad,Cz]
 | .psl v o=> by simp only[kl];split <;> simp_all [Ad,Cz]
 | .eptr v i o=> by simp only[kl];split <;> simp_all [Ad,Cz]
 | .agg cs=> by simpa only[kl,Ad] using FX ns cs
 | .tup cs=> by simpa only[kl,Ad] using FX ns cs
 | .func f cs=> by simpa only[kl,Ad] using FX ns cs
 | .opt g v=> by simpa only[kl,Ad] using G8 ns v
 | .junk=> by simp[kl,Ad]
 | .int _ _=> by simp[kl,Ad]
 | .bool _=> by simp[kl,Ad]
 | .str _=> by simp[kl,Ad]
 | .nils=> by simp[kl,Ad]
 | .sl _ _=> by simp[kl,Ad]
 | .iptr _=> by simp[kl,Ad]
 | .lsl _=> by simp[kl,Ad]
 | .imap _=> by simp[kl,Ad]
 | .nilp=> by simp[kl,Ad]
 | .ifc _=> by simp[kl,Ad]
theorem FX (ns:List Nat):∀cs:List AV,(∀n∈Af (Pt ns cs),n∈Af cs∧n∉ns)
 | []=> by simp[Pt,Af]
 | c::r=> by
  simp only[Pt,Af,List.mem_append]
  rintro n (hn | hn)
  ·exact ⟨.inl (G8 ns c n hn).1,(G8 ns c n hn).2⟩
  ·exact ⟨.inr (FX ns r n hn).1,(FX ns r n hn).2⟩
end
mutual
theorem Jx (ns:List Nat) (bl:Nat→Option Be):∀x:AV,(∀n∈Ad (fz ns bl x),n∈Ad x∧n∉ns)
 | .os t=> by
  simp only[fz]
  split
  ·cases A3 bl t with
   | none=> simp[plain,Ad]
   | some r=> obtain ⟨e,sz,rs⟩:=r;simp[plain,Ad]
  ·simp_all [Ad,Cz]
 | .ptr v o=> by simp only[fz];split <;> simp_all [Ad,Cz]
 | .tsl v o=> by simp only[fz];split <;> simp_all [Ad,Cz]
 | .psl v o=> by simp only[fz];split <;> simp_all [Ad,Cz]
 | .eptr v i o=> by simp only[fz];split <;> simp_all [Ad,Cz]
 | .agg cs=> by simpa only[fz,Ad] using FW ns bl cs
 | .tup cs=> by simpa only[fz,Ad] using FW ns bl cs
 | .func f cs=> by simpa only[fz,Ad] using FW ns bl cs
 | .opt g v=> by simpa only[fz,Ad] using Jx ns bl v
 | .junk=> by simp[fz,Ad]
 | .int _ _=> by simp[fz,Ad]
 | .bool _=> by simp[fz,Ad]
 | .str _=> by simp[fz,Ad]
 | .nils=> by simp[fz,Ad]
 | .sl _ _=> by simp[fz,Ad]
 | .iptr _=> by simp[fz,Ad]
 | .lsl _=> by simp[fz,Ad]
 | .imap _=> by simp[fz,Ad]
 | .nilp=> by simp[fz,Ad]
 | .ifc _=> by simp[fz,Ad]
theorem FW (ns:List Nat) (bl:Nat→Option Be):∀cs:List AV,(∀n∈Af (Hq ns bl cs),n∈Af cs∧n∉ns)
 | []=> by simp[Hq,Af]
 | c::r=> by
  simp only[Hq,Af,List.mem_append]
  rintro n (hn | hn)
  ·exact ⟨.inl (Jx ns bl c n hn).1,(Jx ns bl c n hn).2⟩
  ·exact ⟨.inr (FW ns bl r n hn).1,(FW ns bl r n hn).2⟩
end
def Xk (w:World) (im:Nat→Prop) (ρ:BI) (sz:Nat) (rs:List (List AV)) (arr:Array Value):Prop:=
 ∀(i:Nat) row,rs[i]? =some row→row.length=sz∧∀(j:Nat) x,row[j]? =some x→Ad x=[]∧∃v,arr[i*sz+j]? =some v∧v.oneCell'=true∧Rel w im ρ x v
def Lj (D:Nat→TI) (w:World) (im:Nat→Prop) (ρ:BI) (i:NI) (e sz:Nat) (rs:List (List AV)):Prop:=
 i.sz=sz∧0 < sz∧sz=(D e).n∧∃A c,i.sv=.slice A rs.length c∧rs.length≤c∧c≤maxLen∧
   ((rs=[]∧A=none∧c=0∧i.b=none)∨∃b arr,i.b=some b∧A=some ⟨b,0,none⟩∧w.heap[b]? =some (.cells arr e (0,0))∧arr.size=c*sz∧Xk w im ρ sz rs arr)
def GU (D:Nat→TI) (w:World) (im:Nat→Prop) (ρ:BI) (hb:Option Nat) (col:Option (Nat×Nat)) (x:AV) (v:Value):Prop:=
 match col,x with
 | some (e,s),.sl s' rs=> s'=s∧∃i:NI,i.b=hb∧i.sv=v∧Lj D w im ρ i e s rs
 | _,x=> Rel w im ρ x v
def AcU (D:Nat→TI) (w:World) (im:Nat→Prop) (ρ:BI) (h:Nat→Option Nat) (sz:Nat) (rs:List (List AV)) (cols:List (Nat×Nat×Nat)) (arr:Array Value):Prop:=
 ∀(i:Nat) row,rs[i]? =some row→row.length=sz∧∀(j:Nat) x,row[j]? =some x→Ad x=[]∧∃v,arr[i*sz+j]? =some v∧v.oneCell'=true∧GU D w im ρ (h (i*sz+j)) (Id cols j) x v
def J4 (n:Nat) (foc:List (Nat×Nat×Nat)):Prop:=∀i j m,(i,j,m)∈foc→i < n
def Ade (ρ:BI) (sz:Nat) (rs:List (List AV)) (foc:List (Nat×Nat×Nat)) (arr:Array Value):Prop:=
 ∀i j m,(i,j,m)∈foc→∀row x,rs[i]? =some row→row[j]? =some x→arr[i*sz+j]? =some (ρ m).sv
def UG (w:World) (i:NI):Prop:=(∀k b,i.h k=some b→i.b≠some b∧b < w.heap.size)∧∀k l b,i.h k=some b→i.h l=some b→k=l
def Fv (D:Nat→TI) (w:World) (im:Nat→Prop) (ρ:BI) (n:Nat):Be→Prop
 | .cells cs=> ∃b arr T,(ρ n).b=some b∧w.heap[b]? =some (.cells arr T (0,0))∧arr.size=cs.length∧
   ∀(i:Nat) x v,cs[i]? =some x→arr[i]? =some v→v.oneCell'=true∧Rel w im ρ x v
 | .rows e sz rs=> (ρ n).sz=sz∧0 < sz∧sz=(D e).n∧∃A c,(ρ n).sv=.slice A rs.length c∧rs.length≤c∧c≤maxLen∧
   ((rs=[]∧A=none∧c=0∧(ρ n).b=none)∨∃b arr,(ρ n).b=some b∧A=some ⟨b,0,none⟩∧w.heap[b]? =some (.cells arr e (0,0))∧arr.size=c*sz∧Xk w im ρ sz rs arr)
 | .deep e sz rs cols foc=> (ρ n).sz=sz∧0 < sz∧sz=(D e).n∧UG w (ρ n)∧J4 rs.length foc∧∃A c,(ρ n).sv=.slice A rs.length c∧rs.length≤c∧c≤maxLen∧
   ((rs=[]∧A=none∧c=0∧(ρ n).b=none)∨∃b arr,(ρ n).b=some b∧A=some ⟨b,0,none⟩∧w.heap[b]? =some (.cells arr e (0,0))∧arr.size=c*sz∧AcU D w im ρ (ρ n).h sz rs cols arr∧Ade ρ sz rs foc arr)
def Em:Be→List Nat
 | .cells cs=> Af cs
 | .rows _ _ _=> []
 | .deep _ _ _ _ foc=> Gh foc
def owns (ρ:BI) (n:Nat) (x:Be) (b:Nat):Prop:=
 match x with
 | .deep _ _ _ _ _=> (ρ n).b=some b∨∃k,(ρ n).h k=some b
 | _=> (ρ n).b=some b
theorem Ew {ρ:BI} {n b:Nat} {x:Be} (h:(ρ n).b=some b):owns ρ n x b:=by
 cases x <;> first | exact h | exact .inl h
theorem Ky {ρ ρ':BI} {n b:Nat} {x:Be} (h:ρ' n=ρ n):owns ρ' n x b↔owns ρ n x b:=by
 cases x <;> simp only[owns,h]
structure Hp (D:Nat→TI) (w:World) (im:Nat→Prop) (ρ:BI) (bl:Nat→Option Be):Prop where
 blk:∀n x,bl n=some x→Fv D w im ρ n x
 inj:∀n m b x y,bl n=some x→bl m=some y→owns ρ n x b→owns ρ m y b→n=m
 off:∀n x b,bl n=some x→owns ρ n x b→¬im b
 lt:∀b,im b→b < w.heap.size
 clos:∀n x,bl n=some x→∀m∈Em x,(bl m).isSome=true
theorem Hp.closed {D:Nat→TI} {w:World} {im:Nat→Prop} {ρ:BI} {bl:Nat→Option Be} (h:Hp D w im ρ bl) (n:Nat) (cs:List AV) (hn:bl n=some (.cells cs)):∀m∈Af cs,(bl m).isSome=true:=h.clos n _ hn
structure Fw (N0:Nat→Prop) (B:Nat) (w w':World):Prop where
 os:w'.os=w.os
 tape:w'.tape=w.tape
 output:w'.output=w.output
 size:w.heap.size≤w'.heap.size
 block:∀b,b < B→¬N0 b→w'.heap[b]? =w.heap[b]?
def C1 (S N0:Nat→Prop) (B:Nat) (w:World) (ρ:BI) (bl:Nat→Option Be) (b:Nat):Prop:=
 b < w.heap.size∧(S b∨B≤b∨N0 b)∧∀n x,bl n=some x→¬owns ρ n x b
structure W0 where
 w:World
 γ:Nat→Value
def vl (γ:Nat→Value) (a:Act) (t:Nat):Value:=if t < 65536 then a.tmps.getD t undef else γ (t - 65536)
structure Cu (D:Nat→TI) (S N0:Nat→Prop) (B:Nat) (w0:W0) (ρ:BI) (σ:AS) (a:Act) (w:World):Prop where
 tm:∀t x,get t σ.tm=some x→Rel w (C1 S N0 B w ρ (blk σ)) ρ x (vl w0.γ a t)∧∀n∈Ad x,(Ab.blk σ n).isSome=true
 hp:Hp D w (C1 S N0 B w ρ (Ab.blk σ)) ρ (Ab.blk σ)
 nt:a.tmps.size=σ.nt∧σ.nt≤65536
 base:Bs S N0 B w0.w
 frm:Fw N0 B w0.w w
 own:∀n x b,Ab.blk σ n=some x→owns ρ n x b→B≤b∨N0 b
 defers:a.defers=[]
def St (D:Nat→TI) (S N0:Nat→Prop) (B:Nat) (w0:W0) (σ:AS) (a:Act) (w:World):Prop:=∃ρ,Cu D S N0 B w0 ρ σ a w
def Bo (h:AV→AV):Be→Be
 | .cells cs=> .cells (cs.map h)
 | .rows e sz rs=> .rows e sz rs
 | .deep e sz rs cols foc=> .deep e sz rs cols (keepF h foc)
theorem XF (h:AV→AV):∀cs:List AV,ES h cs=cs.map h
 | []=> rfl
 | c::r=> by simp[ES,XF h r]
theorem G3 (h:AV→AV) (n:Nat):∀l,get n (Df h l)=(get n l).map (Option.map (Bo h))
 | []=> rfl
 | (k,none)::r=> by
  simp only[Df,get]
  split
  ·rfl
  ·exact G3 h n r
 | (k,some (.cells cs))::r=> by
  simp only[Df,get]
  split
  ·simp[Bo,XF]
  ·exact G3 h n r
 | (k,some (.rows e sz rs))::r=> by
  simp only[Df,get]
  split
  ·simp[Bo]
  ·exact G3 h n r
 | (k,some (.deep e sz rs cols foc))::r=> by
  simp only[Df,get]
  split
  ·simp[Bo]
  ·exact G3 h n r
theorem Jr {h:AV→AV} (hh:∀m,h (.os m)=.os m):∀foc,keepF h foc=foc
 | []=> rfl
 | (i,j,m)::r=> by simp only[keepF,hh,Jr hh r]
theorem Ea {h:AV→AV} {i j m:Nat}:∀{foc:List (Nat×Nat×Nat)},(i,j,m)∈keepF h foc→(i,j,m)∈foc∧∃k,h (.os m)=.os k
 | [],hm=> by simp[keepF] at hm
 | (a,b,c)::r,hm=> by
  simp only[keepF] at hm
  split at hm
  ·rename_i k hk
   rcases List.mem_cons.1 hm with e | e
   ·cases e;exact ⟨List.mem_cons_self,k,hk⟩
   ·exact ⟨List.mem_cons_of_mem _ (Ea e).1,(Ea e).2⟩
  ·exact ⟨List.mem_cons_of_mem _ (Ea hm).1,(Ea hm).2⟩
theorem BY {m:Nat}:∀{foc:List (Nat×Nat×Nat)},m∈Gh foc↔∃i j,(i,j,m)∈foc
 | []=> by simp[Gh]
 | (a,b,c)::r=> by
  simp only[Gh,List.mem_cons,BY (foc:=r),Prod.mk.injEq]
  constructor
  ·rintro (rfl | ⟨i,j,h⟩)
   ·exact ⟨a,b,.inl ⟨rfl,rfl,rfl⟩⟩
   ·exact ⟨i,j,.inr h⟩
  ·rintro ⟨i,j,⟨_,_,rfl⟩ | h⟩
   ·exact .inl rfl
   ·exact .inr ⟨i,j,h⟩
theorem FP {α:Type} (n:Nat):∀(l m:List (Nat×α)),get n (l++m)=match get n l with | some x=> some x | none=> get n m
 | [],m=> rfl
 | (k,v)::r,m=> by
  simp only[List.cons_append,get]
  split
  ·rfl
  ·exact FP n r m
theorem Qr (n:Nat):∀ns:List Nat,get n (D9 ns)=if n∈ns then some none else none
 | []=> by simp[D9,get]
 | k::r=> by
  simp only[D9,get,List.mem_cons]
  by_cases h:k=n
  ·subst h;simp
  ·have h':¬n=k:=fun e=> h e.symm
   simp only[h,if_false,h',false_or]
   exact Qr n r
theorem Qs (n:Nat):∀l:List (Nat×Be),get n (Vm l)=(get n l).map some
 | []=> rfl
 | (k,b)::r=> by
  simp only[Vm,get]
  split
  ·rfl
  ·exact Qs n r
theorem BS (σ:AS) (ns:List Nat) (n:Nat):blk (freeze σ ns) n=if n∈ns then none else (blk σ n).map (Bo (fz ns (blk σ))):=by
 cases ns with
 | nil=>
  simp only[freeze,List.not_mem_nil,if_false]
  cases hb:blk σ n with
  | none=> rfl
  | some x=>
   cases x with
   | cells cs=>
    have:∀x:AV,fz [] (blk σ) x=x:=by
     intro x
     exact (AV.rec (motive_1:=fun x=> fz [] (blk σ) x=x) (motive_2:=fun _=> True) (motive_3:=fun cs=> Hq [] (blk σ) cs=cs)
      (by simp[fz]) (by simp[fz]) (by simp[fz]) (by simp[fz]) (by simp[fz]) (by simp[fz]) (by simp[fz,Cg]) (by simp[fz,Cg]) (by simp[fz]) (by simp[fz,Cg]) (by simp[fz]) (by simp[fz]) (by simp[fz]) (by simp[fz]) (by simp[fz,Cg])
      (by simp[fz,Cg]) (fun f cs ih=> by simp[fz,ih]) (fun cs ih=> by simp[fz,ih]) (fun cs ih=> by simp[fz,ih]) (fun g v ih=> by simp[fz,ih])
      trivial (fun _ _ _ _=> trivial) (by simp[Hq]) (fun c r h1 h2=> by simp[Hq,h1,h2]) x)
    simp only[Option.map_some,Bo,List.map_congr_left (fun x _=> this x),List.map_id']
   | rows e sz rs=> rfl
   | deep e sz rs cols foc=> simp only[Option.map_some,Bo,Jr (h:=fz [] (blk σ)) (fun m=> by simp[fz,Cg])]
 | cons m ms=>
  simp only[freeze,blk,FP,Qr,G3]
  by_cases h:n∈m::ms
  ·simp only[h,if_true,jn]
  ·simp only[h,if_false]
   cases get n σ.bl with
   | none=> rfl
   | some x=> rfl
theorem KP (σ:AS) (ns:List Nat) (n:Nat):blk (kill σ ns) n=if n∈ns then none else (blk σ n).map (Bo (kl ns)):=by
 cases ns with
 | nil=>
  simp only[kill,List.not_mem_nil,if_false]
  cases hb:blk σ n with
  | none=> rfl
  | some x=>
   cases x with
   | cells cs=>
    have:∀x:AV,kl [] x=x:=by
     intro x
     exact (AV.rec (motive_1:=fun x=> kl [] x=x) (motive_2:=fun _=> True) (motive_3:=fun cs=> Pt [] cs=cs)
      (by simp[kl]) (by simp[kl]) (by simp[kl]) (by simp[kl]) (by simp[kl]) (by simp[kl]) (by simp[kl,Cg]) (by simp[kl,Cg]) (by simp[kl]) (by simp[kl,Cg]) (by simp[kl]) (by simp[kl]) (by simp[kl]) (by simp[kl]) (by simp[kl,Cg])
      (by simp[kl,Cg]) (fun f cs ih=> by simp[kl,ih]) (fun cs ih=> by simp[kl,ih]) (fun cs ih=> by simp[kl,ih]) (fun g v ih=> by simp[kl,ih])
      trivial (fun _ _ _ _=> trivial) (by simp[Pt]) (fun c r h1 h2=> by simp[Pt,h1,h2]) x)
    simp only[Option.map_some,Bo,List.map_congr_left (fun x _=> this x),List.map_id']
   | rows e sz rs=> rfl
   | deep e sz rs cols foc=> simp only[Option.map_some,Bo,Jr (h:=kl []) (fun m=> by simp[kl,Cg])]
 | cons m ms=>
  simp only[kill,blk,FP,Qr,G3]
  by_cases h:n∈m::ms
  ·simp only[h,if_true,jn]
  ·simp only[h,if_false]
   cases get n σ.bl with
   | none=> rfl
   | some x=> rfl
theorem Ry (σ:AS) (ns:List Nat) (t:Nat) (x:AV) (h:get t (freeze σ ns).tm=some x):∃y,get t σ.tm=some y∧(x=fz ns (blk σ) y∨(ns=[]∧x=y)):=by
 cases ns with
 | nil=> exact ⟨x,h,.inr ⟨rfl,rfl⟩⟩
 | cons m ms=>
  simp only[freeze,Io] at h
  obtain ⟨y,hy,rfl⟩:=Option.map_eq_some_iff.1 h
  exact ⟨y,hy,.inl rfl⟩
theorem Vl (σ:AS) (ns:List Nat) (t:Nat) (x:AV) (h:get t (kill σ ns).tm=some x):∃y,get t σ.tm=some y∧(x=kl ns y∨(ns=[]∧x=y)):=by
 cases ns with
 | nil=> exact ⟨x,h,.inr ⟨rfl,rfl⟩⟩
 | cons m ms=>
  simp only[kill,Io] at h
  obtain ⟨y,hy,rfl⟩:=Option.map_eq_some_iff.1 h
  exact ⟨y,hy,.inl rfl⟩
theorem Rel.plain {D:Nat→TI} {w:World} {im im':Nat→Prop} {ρ:BI} {t e sz:Nat} {rs:List (List AV)} (h:Fv D w im ρ t (.rows e sz rs)) (him:∀b,im b→im' b) (hb:∀b,(ρ t).b=some b→im' b):
  Rel w im' ρ (.sl sz rs) (ρ t).sv:=by
 obtain ⟨h1,h2,_,A,c,h3,h4,h5,h6⟩:=h
 rw[h3]
 rcases h6 with ⟨rfl,rfl,rfl,_⟩ | ⟨b,arr,hb1,rfl,hh,hsz,hr⟩
 ·exact .sl sz [] none 0 0 0 (fun _ _=> .nilIface) h4 h5 (fun h=> absurd h (by simp)) (by simp) (by simp) (by simp)
 ·refine .sl sz rs _ c b 0 (fun i j=> arr.getD (i*sz+j) undef) h4 h5 (fun _=> ⟨rfl,hb b hb1⟩) (fun i row hi=> (hr i row hi).1) (fun i j row x hi hj=> ?_) (fun i j row x hi hj=> ?_)
  ·obtain ⟨hn,v,hv,h1v,hrel⟩:=(hr i row hi).2 j x hj
   have hg:arr.getD (i*sz+j) undef=v:=by
    rw[Array.getD_eq_getD_getElem?,hv];rfl
   rw[hg]
   refine ⟨?_,h1v,hn⟩
   rw[Nat.zero_add]
   unfold World.cell?
   rw[hh]
   simp[hv]
  ·obtain ⟨hn,v,hv,h1v,hrel⟩:=(hr i row hi).2 j x hj
   have hg:arr.getD (i*sz+j) undef=v:=by
    rw[Array.getD_eq_getD_getElem?,hv];rfl
   rw[hg]
   exact hrel.mono him (fun _ _=> rfl) (fun n hn'=> rfl)
theorem Rel.fz {D:Nat→TI} {w:World} {im im':Nat→Prop} {ρ:BI} {bl:Nat→Option Be} {ns:List Nat} (hbl:∀n x,n∈ns→bl n=some x→Fv D w im ρ n x) (him:∀b,im b→im' b)
  (hb:∀n x b,n∈ns→bl n=some x→(ρ n).b=some b→im' b) {x:AV} {v:Value} (h:Rel w im ρ x v):Rel w im' ρ (fz ns bl x) v:=by
 induction h with
 | junk v=> simp only[Ab.fz];exact .junk v
 | int k n=> simp only[Ab.fz];exact .int k n
 | bool b=> simp only[Ab.fz];exact .bool b
 | str l=> simp only[Ab.fz];exact .str l
 | nils=> simp only[Ab.fz];exact .nils
 | sl sz rs A c b o val hc hm hA hrow hcell hval ih=>
  simp only[Ab.fz]
  exact (Rel.sl sz rs A c b o val hc hm hA hrow hcell hval).mono him (fun _ _=> rfl) (fun _ _=> rfl)
 | os t=>
  simp only[Ab.fz]
  split
  ·rename_i ht
   unfold A3
   cases hbt:bl t with
   | none=> exact .junk _
   | some y=>
    cases y with
    | cells cs=> exact .junk _
    | rows e sz rs=> exact Rel.plain (hbl t _ (Cz.1 ht) hbt) him (fun b hb'=> hb t _ b (Cz.1 ht) hbt hb')
    | deep e sz rs cols foc=> exact .junk _
  ·exact .os t
 | ptr v off b h=> simp only[Ab.fz];split <;> first | exact .junk _ | exact .ptr v off b h
 | iptr cs b o val hb hcell hval ih=>
  simp only[Ab.fz]
  exact (Rel.iptr cs b o val hb hcell hval).mono him (fun _ _=> rfl) (fun _ _=> rfl)
 | eptr t i off b h=> simp only[Ab.fz];split <;> first | exact .junk _ | exact .eptr t i off b h
 | lsl n A c hc hm=> simp only[Ab.fz];exact .lsl n A c hc hm
 | imap es b c arr hb ho he=> simp only[Ab.fz];exact .imap es b c arr (him _ hb) ho he
 | nilp=> simp only[Ab.fz];exact .nilp
 | ifc b v h=> simp only[Ab.fz];exact .ifc b v h
 | tsl t i b A' h hA=> simp only[Ab.fz];split <;> first | exact .junk _ | exact .tsl t i b A' h hA
 | psl t n c b h hc hm=> simp only[Ab.fz];split <;> first | exact .junk _ | exact .psl t n c b h hc hm
 | func f cs vs hl hval ih=>
  simp only[Ab.fz,Kn]
  refine .func f _ vs (by simpa using hl) fun i x v h1 h2=> ?_
  rw[List.getElem?_map] at h1
  obtain ⟨y,hy,rfl⟩:=Option.map_eq_some_iff.1 h1
  exact ih i y v hy h2
 | agg cs vs hl h1 hval ih=>
  simp only[Ab.fz,Kn]
  refine .agg _ vs (by simpa using hl) h1 fun i x v h1 h2=> ?_
  rw[List.getElem?_map] at h1
  obtain ⟨y,hy,rfl⟩:=Option.map_eq_some_iff.1 h1
  exact ih i y v hy h2
 | tup cs vs hl hval ih=>
  simp only[Ab.fz,Kn]
  refine .tup _ vs (by simpa using hl) fun i x v h1 h2=> ?_
  rw[List.getElem?_map] at h1
  obtain ⟨y,hy,rfl⟩:=Option.map_eq_some_iff.1 h1
  exact ih i y v hy h2
 | opt g x v h1 h2 ih=> simp only[Ab.fz];exact .opt g _ v ih h2
theorem Lj.mono {D:Nat→TI} {w w':World} {im im':Nat→Prop} {ρ ρ':BI} {i:NI} {e sz:Nat} {rs:List (List AV)} (h:Lj D w im ρ i e sz rs) (hb:∀b,i.b=some b→w'.heap[b]? =w.heap[b]?)
  (him:∀b,im b→im' b) (hw:∀b,im b→w'.heap[b]? =w.heap[b]?):Lj D w' im' ρ' i e sz rs:=by
 obtain ⟨h1,h2,h2',A,c,h3,h4,h5,h6⟩:=h
 refine ⟨h1,h2,h2',A,c,h3,h4,h5,?_⟩
 rcases h6 with ⟨e1,e0,e2,e3⟩ | ⟨b,arr,hb1,hA,hh,hsz,hr⟩
 ·exact .inl ⟨e1,e0,e2,e3⟩
 ·refine .inr ⟨b,arr,hb1,hA,(hb b hb1).trans hh,hsz,fun i row hi=> ⟨(hr i row hi).1,fun j x hj=> ?_⟩⟩
  obtain ⟨hn',v,hv,h1v,hrel⟩:=(hr i row hi).2 j x hj
  exact ⟨hn',v,hv,h1v,hrel.mono him hw (fun m hm=> by rw[hn'] at hm;cases hm)⟩
theorem GU.mono {D:Nat→TI} {w w':World} {im im':Nat→Prop} {ρ ρ':BI} {hb:Option Nat} {col:Option (Nat×Nat)} {x:AV} {v:Value} (h:GU D w im ρ hb col x v) (hn:Ad x=[]) (hbk:∀b,hb=some b→w'.heap[b]? =w.heap[b]?)
  (him:∀b,im b→im' b) (hw:∀b,im b→w'.heap[b]? =w.heap[b]?):GU D w' im' ρ' hb col x v:=by
 unfold GU at *
 split at h
 ·obtain ⟨h1,i,h2,h3,h4⟩:=h
  exact ⟨h1,i,h2,h3,h4.mono (fun b hb=> hbk b (h2 ▸hb)) him hw⟩
 ·exact h.mono him hw (fun m hm=> by rw[hn] at hm;cases hm)
theorem UG.mono {w w':World} {i:NI} (h:UG w i) (hb:∀k b,i.h k=some b→w'.heap[b]? =w.heap[b]?):UG w' i:=
 ⟨fun k b hk=> ⟨(h.1 k b hk).1,by
  have h1:=hb k b hk
  have h2:=(h.1 k b hk).2
  rw[Array.getElem?_eq_getElem h2] at h1
  exact (Array.getElem?_eq_some_iff.1 h1).1⟩,h.2⟩
theorem Fv.mono {D:Nat→TI} {w w':World} {im im':Nat→Prop} {ρ ρ':BI} {n:Nat} {x:Be} (h:Fv D w im ρ n x) (hn:ρ' n=ρ n) (hb:∀b,owns ρ n x b→w'.heap[b]? =w.heap[b]?)
  (him:∀b,im b→im' b) (hw:∀b,im b→w'.heap[b]? =w.heap[b]?) (hρ:∀m∈Em x,ρ' m=ρ m):Fv D w' im' ρ' n x:=by
 cases x with
 | cells cs=>
  obtain ⟨b,arr,T,h1,h2,h3,h5⟩:=h
  exact ⟨b,arr,T,by rw[hn];exact h1,(hb b h1).trans h2,h3,fun i x v hx hv=> ⟨(h5 i x v hx hv).1,(h5 i x v hx hv).2.mono him hw fun m hm=> hρ m (AY hx hm)⟩⟩
 | rows e sz rs=>
  have h':Lj D w im ρ (ρ n) e sz rs:=h
  have:Lj D w' im' ρ' (ρ n) e sz rs:=h'.mono hb him hw
  rw[←hn] at this
  exact this
 | deep e sz rs cols foc=>
  obtain ⟨h1,h2,h2',h0,hI,A,c,h3,h4,h5,h6⟩:=h
  refine ⟨by rw[hn];exact h1,h2,h2',by rw[hn];exact h0.mono fun k b hk=> hb b (.inr ⟨k,hk⟩),hI,A,c,by rw[hn];exact h3,h4,h5,?_⟩
  rcases h6 with ⟨e1,e0,e2,e3⟩ | ⟨b,arr,hb1,hA,hh,hsz,hr,hf⟩
  ·exact .inl ⟨e1,e0,e2,by rw[hn];exact e3⟩
  ·refine .inr ⟨b,arr,by rw[hn];exact hb1,hA,(hb b (.inl hb1)).trans hh,hsz,fun i row hi=> ⟨(hr i row hi).1,fun j x hj=> ?_⟩,fun i j m hm row x h1 h2=> ?_⟩
   ·obtain ⟨hn',v,hv,h1v,hrel⟩:=(hr i row hi).2 j x hj
    refine ⟨hn',v,hv,h1v,?_⟩
    rw[hn]
    exact hrel.mono hn' (fun b hk=> hb b (.inr ⟨_,hk⟩)) him hw
   ·rw[hρ m (BY.2 ⟨i,j,hm⟩)]
    exact hf i j m hm row x h1 h2
theorem Fv.lt {D:Nat→TI} {w:World} {im:Nat→Prop} {ρ:BI} {n b:Nat} {x:Be} (hx:Fv D w im ρ n x) (hb:owns ρ n x b):b < w.heap.size:=by
 cases x with
 | cells cs=>
  obtain ⟨b',arr,T,h1,h2,_⟩:=hx
  have hb:(ρ n).b=some b:=hb
  rw[hb] at h1
  cases h1
  exact (Array.getElem?_eq_some_iff.1 h2).1
 | rows e sz rs=>
  obtain ⟨_,_,_,A,c,_,_,_,h6⟩:=hx
  have hb:(ρ n).b=some b:=hb
  rcases h6 with ⟨_,_,_,h0⟩ | ⟨b',arr,h1,_,h2,_⟩
  ·rw[hb] at h0;cases h0
  ·rw[hb] at h1
   cases h1
   exact (Array.getElem?_eq_some_iff.1 h2).1
 | deep e sz rs cols foc=>
  obtain ⟨_,_,_,h0,_,A,c,_,_,_,h6⟩:=hx
  rcases hb with hb | ⟨k,hk⟩
  ·rcases h6 with ⟨_,_,_,h0⟩ | ⟨b',arr,h1,_,h2,_⟩
   ·rw[hb] at h0;cases h0
   ·rw[hb] at h1
    cases h1
    exact (Array.getElem?_eq_some_iff.1 h2).1
  ·exact (h0.1 k b hk).2
section
variable {D:Nat→TI} {S N0:Nat→Prop} {B:Nat} {w0:W0} {ρ:BI} {σ:AS} {a:Act} {w:World}
theorem AR {h:AV→AV} {o:Option Be} {x:Be} (e:o.map (Bo h)=some x):∃y,o=some y∧x=Bo h y:=by
 cases o with
 | none=> cases e
 | some y=> exact ⟨y,rfl,by simpa using e.symm⟩
theorem BZ {h:AV→AV} {ρ:BI} {n b:Nat} {x:Be}:owns ρ n (Bo h x) b↔owns ρ n x b:=by
 cases x <;> exact Iff.rfl
theorem AcY {ns:List Nat} {bl:Nat→Option Be} {m k:Nat} (h:fz ns bl (.os m)=.os k):m∉ns:=by
 simp only[fz] at h
 split at h
 ·exfalso
  unfold Ab.plain at h
  split at h <;> cases h
 ·rename_i hm
  exact fun hn=> hm (Cz.2 hn)
theorem Ac0 {ns:List Nat} {m k:Nat} (h:kl ns (.os m)=.os k):m∉ns:=by
 simp only[kl] at h
 split at h
 ·cases h
 ·rename_i hm
  exact fun hn=> hm (Cz.2 hn)
theorem Tc {ns:List Nat} {bl:Nat→Option Be} {cs:List AV} {m:Nat} (h:m∈Af (cs.map (fz ns bl))):m∈Af cs∧m∉ns:=by
 rw[←Kn] at h
 exact FW ns bl cs m h
theorem Td {ns:List Nat} {cs:List AV} {m:Nat} (h:m∈Af (cs.map (kl ns))):m∈Af cs∧m∉ns:=by
 rw[←Jt] at h
 exact FX ns cs m h
theorem X1 {ns:List Nat} {bl:Nat→Option Be} {x:Be} {m:Nat} (h:m∈Em (Bo (fz ns bl) x)):m∈Em x∧m∉ns:=by
 cases x with
 | cells cs=> exact Tc h
 | rows e sz rs=> cases h
 | deep e sz rs cols foc=>
  obtain ⟨i,j,hm⟩:=BY.1 (show m∈Gh (keepF (fz ns bl) foc) from h)
  obtain ⟨h1,k,h2⟩:=Ea hm
  exact ⟨BY.2 ⟨i,j,h1⟩,AcY h2⟩
theorem Lm {ns:List Nat} {x:Be} {m:Nat} (h:m∈Em (Bo (kl ns) x)):m∈Em x∧m∉ns:=by
 cases x with
 | cells cs=> exact Td h
 | rows e sz rs=> cases h
 | deep e sz rs cols foc=>
  obtain ⟨i,j,hm⟩:=BY.1 (show m∈Gh (keepF (kl ns) foc) from h)
  obtain ⟨h1,k,h2⟩:=Ea hm
  exact ⟨BY.2 ⟨i,j,h1⟩,Ac0 h2⟩
theorem Fv.keepF {D:Nat→TI} {w:World} {im:Nat→Prop} {ρ:BI} {n e sz:Nat} {rs:List (List AV)} {cols foc:List (Nat×Nat×Nat)} {h:AV→AV} (hb:Fv D w im ρ n (.deep e sz rs cols foc)):Fv D w im ρ n (.deep e sz rs cols (keepF h foc)):=by
 obtain ⟨h1,h2,h2',h0,hI,A,c,h3,h4,h5,h6⟩:=hb
 refine ⟨h1,h2,h2',h0,fun i j m hm=> hI i j m (Ea hm).1,A,c,h3,h4,h5,h6.imp id ?_⟩
 rintro ⟨b,arr,q1,q2,q3,q4,q5,q6⟩
 exact ⟨b,arr,q1,q2,q3,q4,q5,fun i j m hm=> q6 i j m (Ea hm).1⟩
theorem Cu.freeze (h:Cu D S N0 B w0 ρ σ a w) (ns:List Nat):Cu D S N0 B w0 ρ (freeze σ ns) a w:=by
 by_cases hns:ns=[]
 ·subst hns;exact h
 have him:∀b,C1 S N0 B w ρ (blk σ) b→C1 S N0 B w ρ (blk (Ab.freeze σ ns)) b:=by
  rintro b ⟨h1,h2,h3⟩
  refine ⟨h1,h2,fun n x hx=> ?_⟩
  rw[BS] at hx
  split at hx
  ·cases hx
  ·obtain ⟨y,hy,rfl⟩:=AR hx
   rw[BZ]
   exact h3 n y hy
 have hbim:∀n x b,n∈ns→blk σ n=some x→(ρ n).b=some b→C1 S N0 B w ρ (blk (Ab.freeze σ ns)) b:=by
  intro n x b hn hx hb
  refine ⟨(h.hp.blk n x hx).lt (Ew hb),.inr (h.own n x b hx (Ew hb)),fun m y hy hm=> ?_⟩
  rw[BS] at hy
  split at hy
  ·cases hy
  ·rename_i hmn
   obtain ⟨y',hy',rfl⟩:=AR hy
   rw[BZ] at hm
   exact hmn (h.hp.inj n m b x y' hx hy' (Ew hb) hm ▸hn)
 have frel:∀x v,Rel w (C1 S N0 B w ρ (blk σ)) ρ x v→Rel w (C1 S N0 B w ρ (blk (Ab.freeze σ ns))) ρ (fz ns (blk σ) x) v:=fun x v hx=>
  Rel.fz (fun n x _ hn=> h.hp.blk n x hn) him hbim hx
 have bnd:∀n,(blk σ n).isSome=true→n∉ns→(blk (Ab.freeze σ ns) n).isSome=true:=by
  intro n hn hns
  rw[BS,if_neg hns]
  simpa using hn
 refine ⟨fun t x hx=> ?_,⟨fun n x hx=> ?_,fun n m b x y hx hy=> ?_,fun n x b hx hb hm=> ?_,fun b hb=> hb.1,fun n cs hx m hm=> ?_⟩,?_,h.base,h.frm,fun n x b hx hb=> ?_,h.defers⟩
 ·obtain ⟨y,hy,hxy⟩:=Ry σ ns t x hx
  rcases hxy with rfl | ⟨e,_⟩
  ·obtain ⟨h1,h2⟩:=h.tm t y hy
   exact ⟨frel y _ h1,fun n hn=> bnd n (h2 n (Jx ns _ y n hn).1) (Jx ns _ y n hn).2⟩
  ·exact absurd e hns
 ·rw[BS] at hx
  split at hx
  ·cases hx
  ·obtain ⟨y,hy,rfl⟩:=AR hx
   have hy':=h.hp.blk n y hy
   cases y with
   | rows e sz rs=> exact hy'.mono rfl (fun _ _=> rfl) him (fun _ _=> rfl) (fun _ _=> rfl)
   | deep e sz rs cols foc=> exact (hy'.mono rfl (fun _ _=> rfl) him (fun _ _=> rfl) (fun _ _=> rfl)).keepF
   | cells cs=>
    obtain ⟨b,arr,T,h1,h2,h3,h5⟩:=hy'
    refine ⟨b,arr,T,h1,h2,by simpa using h3,fun i x v hx hv=> ?_⟩
    rw[List.getElem?_map] at hx
    obtain ⟨z,hz,rfl⟩:=Option.map_eq_some_iff.1 hx
    exact ⟨(h5 i z v hz hv).1,frel z v (h5 i z v hz hv).2⟩
 ·rw[BS] at hx hy
  split at hx
  ·cases hx
  split at hy
  ·cases hy
  obtain ⟨x',hx',rfl⟩:=AR hx
  obtain ⟨y',hy',rfl⟩:=AR hy
  rw[BZ,BZ]
  exact h.hp.inj n m b x' y' hx' hy'
 ·exact hm.2.2 n x hx hb
 ·rw[BS] at hx
  split at hx
  ·cases hx
  ·obtain ⟨y,hy,rfl⟩:=AR hx
   obtain ⟨h1,h2⟩:=X1 hm
   exact bnd m (h.hp.clos n y hy m h1) h2
 ·cases ns with
  | nil=> exact absurd rfl hns
  | cons m ms=> exact h.nt
 ·rw[BS] at hx
  split at hx
  ·cases hx
  ·obtain ⟨y,hy,rfl⟩:=AR hx
   exact h.own n y b hy (BZ.1 hb)
theorem Cu.put (h:Cu D S N0 B w0 ρ σ a w) {d:Nat} {x:AV} {v:Value} (hd:d < σ.nt) (hx:Rel w (C1 S N0 B w ρ (blk σ)) ρ x v) (hn:∀n∈Ad x,(blk σ n).isSome=true):
  Cu D S N0 B w0 ρ {σ with tm:=(d,x)::σ.tm} (a.put (some d) v) w:=by
 refine ⟨fun t y hy=> ?_,h.hp,⟨by simp[Act.put,h.nt.1],h.nt.2⟩,h.base,h.frm,h.own,h.defers⟩
 simp only[get] at hy
 split at hy
 ·rename_i e
  subst e
  cases hy
  have:vl w0.γ (a.put (some d) v) d=v:=by
   unfold vl
   rw[if_pos (Nat.lt_of_lt_of_le hd h.nt.2),Array.getD_eq_getD_getElem?]
   simp[Act.put,Array.getElem?_setIfInBounds_self,h.nt.1,hd]
  rw[this]
  exact ⟨hx,hn⟩
 ·rename_i e
  have:vl w0.γ (a.put (some d) v) t=vl w0.γ a t:=by
   unfold vl
   split
   ·rw[Array.getD_eq_getD_getElem?,Array.getD_eq_getD_getElem?]
    simp[Act.put,Array.getElem?_setIfInBounds_ne e]
   ·rfl
  rw[this]
  exact h.tm t y hy
theorem BM {α:Type} {n:Nat}:∀{l:List (Nat×α)},n∈AF l↔∃y,get n l=some y
 | []=> by simp[AF,get]
 | (k,v)::r=> by
  simp only[AF,List.mem_cons,get]
  by_cases h:k=n
  ·simp[h]
  ·have h':¬n=k:=fun e=> h e.symm
   simp[h,h',BM (l:=r)]
theorem B3 {α:Type} {n:Nat} {l:List (Nat×α)}:get n l=none↔n∉AF l:=by
 rw[BM]
 cases h:get n l <;> simp
theorem Cu.named_lt (h:Cu D S N0 B w0 ρ σ a w) {n:Nat} {x:Be} {b:Nat} (hn:blk σ n=some x) (hb:(ρ n).b=some b):b < w.heap.size:=(h.hp.blk n x hn).lt (Ew hb)
theorem Cu.owns_lt (h:Cu D S N0 B w0 ρ σ a w) {n:Nat} {x:Be} {b:Nat} (hn:blk σ n=some x) (hb:owns ρ n x b):b < w.heap.size:=(h.hp.blk n x hn).lt hb
def Bv (σ:AS) (ks:List Nat) (nw up:List (Nat×Be)):AS:={nt:=σ.nt,tm:=(kill σ ks).tm,bl:=Vm nw++Vm up++(kill σ ks).bl}
theorem BW (σ:AS) (ks:List Nat) (nw up:List (Nat×Be)) (n:Nat):blk (Bv σ ks nw up) n=match get n nw with
  | some y=> some y
  | none=> match get n up with
   | some y=> some y
   | none=> if n∈ks then none else (blk σ n).map (Bo (kl ks)):=by
 rw[←KP]
 simp only[Bv,blk,FP,Qs]
 cases get n nw with
 | some y=> rfl
 | none=>
  simp only[Option.map_none]
  cases get n up with
  | some y=> rfl
  | none=> simp only[Option.map_none]
theorem Cu.step (h:Cu D S N0 B w0 ρ σ a w) {w':World} {ρ':BI} {ks:List Nat} {nw up:List (Nat×Be)}
  (o1:w'.os=w.os) (o2:w'.tape=w.tape) (o3:w'.output=w.output) (o4:w.heap.size≤w'.heap.size)
  (c2:∀b,b < w.heap.size→(∀n x,n∈ks∨n∈AF up→blk σ n=some x→¬owns ρ n x b)→w'.heap[b]? =w.heap[b]?)
  (c3:∀n,(blk σ n).isSome=true→n∉ks→ρ' n=ρ n)
  (c4:∀n,n∈AF nw→blk σ n=none) (c4':∀n,n∈AF up→(blk σ n).isSome=true∧n∉ks)
  (c5:(∀b,C1 S N0 B w ρ (blk σ) b→C1 S N0 B w' ρ' (blk (Bv σ ks nw up)) b)→∀n y,get n nw=some y∨(get n nw=none∧get n up=some y)→Fv D w' (C1 S N0 B w' ρ' (blk (Bv σ ks nw up))) ρ' n y∧∀m∈Em y,(blk (Bv σ ks nw up) m).isSome=true)
  (c6:∀n y b,get n nw=some y→owns ρ' n y b→(w.heap.size≤b∨∃k x,k∈ks∧blk σ k=some x∧owns ρ k x b)∧b < w'.heap.size)
  (c7:∀n m y z b,get n nw=some y→get m nw=some z→owns ρ' n y b→owns ρ' m z b→n=m)
  (c8:∀n y z b,get n up=some y→blk σ n=some z→owns ρ n y b→owns ρ n z b):
  Cu D S N0 B w0 ρ' (Bv σ ks nw up) a w'∧∀b,C1 S N0 B w ρ (blk σ) b→C1 S N0 B w' ρ' (blk (Bv σ ks nw up)) b∧w'.heap[b]? =w.heap[b]?:=by
 have old:∀n x,blk (Bv σ ks nw up) n=some x→n∉AF nw→(∃y,blk σ n=some y∧n∉ks∧∀b,owns ρ' n x b→owns ρ n y b):=by
  intro n x hx hn
  rw[BW,B3.2 hn] at hx
  simp only at hx
  by_cases hu:n∈AF up
  ·obtain ⟨h1,h2⟩:=c4' n hu
   obtain ⟨y,hy⟩:=Option.isSome_iff_exists.1 h1
   obtain ⟨z,hz⟩:=BM.1 hu
   rw[hz] at hx
   cases hx
   exact ⟨y,hy,h2,fun b hb=> c8 n _ y b hz hy ((Ky (c3 n h1 h2)).1 hb)⟩
  ·rw[B3.2 hu] at hx
   simp only at hx
   split at hx
   ·cases hx
   ·rename_i hk
    obtain ⟨y,hy,rfl⟩:=AR hx
    exact ⟨y,hy,hk,fun b hb=> (Ky (c3 n (by rw[hy];rfl) hk)).1 (BZ.1 hb)⟩
 have new:∀n x,blk (Bv σ ks nw up) n=some x→n∈AF nw→get n nw=some x:=by
  intro n x hx hn
  obtain ⟨y,hy⟩:=BM.1 hn
  rw[BW,hy] at hx
  rw[hy]
  exact hx
 have him:∀b,C1 S N0 B w ρ (blk σ) b→C1 S N0 B w' ρ' (blk (Bv σ ks nw up)) b:=by
  rintro b ⟨h1,h2,h3⟩
  refine ⟨by omega,h2,fun n x hx hb=> ?_⟩
  by_cases hn:n∈AF nw
  ·obtain ⟨h4,_⟩:=c6 n x b (new n x hx hn) hb
   rcases h4 with h4 | ⟨k,y,_,hy,hk⟩
   ·omega
   ·exact h3 k y hy hk
  ·obtain ⟨y,hy,hk,ho⟩:=old n x hx hn
   exact h3 n y hy (ho b hb)
 have hw:∀b,C1 S N0 B w ρ (blk σ) b→w'.heap[b]? =w.heap[b]?:=fun b hb=> c2 b hb.1 fun n x _ hx hb'=> hb.2.2 n x hx hb'
 have bnd:∀n,(blk σ n).isSome=true→n∉ks→(blk (Bv σ ks nw up) n).isSome=true:=by
  intro n hn hk
  rw[BW]
  split
  ·rfl
  ·split
   ·rfl
   ·rw[if_neg hk];simpa using hn
 have rel:∀x v,Rel w (C1 S N0 B w ρ (blk σ)) ρ x v→(∀n∈Ad x,(blk σ n).isSome=true∧n∉ks)→Rel w' (C1 S N0 B w' ρ' (blk (Bv σ ks nw up))) ρ' x v:=
  fun x v hx hn=> hx.mono him hw fun n hn'=> c3 n (hn n hn').1 (hn n hn').2
 have size0:B≤w.heap.size:=Nat.le_trans h.base.1 h.frm.size
 refine ⟨⟨fun t x hx=> ?_,⟨fun n x hx=> ?_,fun n m b x y hx hy hb hb'=> ?_,fun n x b hx hb hm=> hm.2.2 n x hx hb,fun b hb=> hb.1,fun n cs hx m hm=> ?_⟩,h.nt,h.base,?_,fun n x b hx hb=> ?_,h.defers⟩,fun b hb=> ⟨him b hb,hw b hb⟩⟩
 ·obtain ⟨y,hy,hxy⟩:=Vl σ ks t x hx
  obtain ⟨h1,h2⟩:=h.tm t y hy
  rcases hxy with rfl | ⟨rfl,rfl⟩
  ·have hnm:∀n∈Ad (kl ks y),(blk σ n).isSome=true∧n∉ks:=fun n hn=> ⟨h2 n (G8 ks y n hn).1,(G8 ks y n hn).2⟩
   exact ⟨rel _ _ (h1.kill ks) hnm,fun n hn=> bnd n (hnm n hn).1 (hnm n hn).2⟩
  ·exact ⟨rel _ _ h1 fun n hn=> ⟨h2 n hn,by simp⟩,fun n hn=> bnd n (h2 n hn) (by simp)⟩
 ·by_cases hn:n∈AF nw
  ·obtain ⟨y,hy⟩:=BM.1 hn
   have:x=y:=by rw[BW,hy] at hx;exact (Option.some.inj hx).symm
   subst this
   exact (c5 him n x (.inl hy)).1
  ·have hn':=B3.2 hn
   by_cases hu:n∈AF up
   ·obtain ⟨y,hy⟩:=BM.1 hu
    have:x=y:=by rw[BW,hn',hy] at hx;exact (Option.some.inj hx).symm
    subst this
    exact (c5 him n x (.inr ⟨hn',hy⟩)).1
   ·rw[BW,hn',B3.2 hu] at hx
    simp only at hx
    split at hx
    ·cases hx
    ·rename_i hk
     obtain ⟨y,hy,rfl⟩:=AR hx
     have hy':=h.hp.blk n y hy
     have hρn:=c3 n (by rw[hy];rfl) hk
     have hkeep:∀b,owns ρ n y b→w'.heap[b]? =w.heap[b]?:=fun b hb=> c2 b (h.owns_lt hy hb) fun m z hm hz hb'=> by
      have:=h.hp.inj n m b y z hy hz hb hb'
      subst this
      rcases hm with hm | hm
      ·exact hk hm
      ·exact hu hm
     cases y with
     | rows e sz rs=> exact hy'.mono hρn hkeep him hw (fun _ hm=> by cases hm)
     | deep e sz rs cols foc=>
      refine (hy'.keepF (h:=kl ks)).mono hρn hkeep him hw (fun m hm=> ?_)
      obtain ⟨q1,q2⟩:=Lm (ns:=ks) (x:=.deep e sz rs cols foc) hm
      exact c3 m (h.hp.clos n _ hy m q1) q2
     | cells cs=>
      obtain ⟨b,arr,T,h1,h2,h3,h5⟩:=hy'
      refine ⟨b,arr,T,by rw[hρn];exact h1,(hkeep b h1).trans h2,by simpa using h3,fun i x v hx' hv=> ?_⟩
      rw[List.getElem?_map] at hx'
      obtain ⟨z,hz,rfl⟩:=Option.map_eq_some_iff.1 hx'
      refine ⟨(h5 i z v hz hv).1,rel _ v ((h5 i z v hz hv).2.kill ks) fun m hm=> ?_⟩
      obtain ⟨q1,q2⟩:=G8 ks z m hm
      exact ⟨h.hp.closed n cs hy m (AY hz q1),q2⟩
 ·by_cases hn:n∈AF nw
  ·by_cases hm:m∈AF nw
   ·exact c7 n m x y b (new n x hx hn) (new m y hy hm) hb hb'
   ·exfalso
    obtain ⟨y',hy',hk',ho⟩:=old m y hy hm
    have hb':=ho b hb'
    obtain ⟨h4,_⟩:=c6 n x b (new n x hx hn) hb
    rcases h4 with h4 | ⟨k,z,hk,hz,hkb⟩
    ·have:=h.owns_lt hy' hb';omega
    ·have:=h.hp.inj k m b z y' hz hy' hkb hb'
     subst this
     exact hk' hk
  ·obtain ⟨x',hx',hk,ho⟩:=old n x hx hn
   have hb:=ho b hb
   by_cases hm:m∈AF nw
   ·exfalso
    obtain ⟨h4,_⟩:=c6 m y b (new m y hy hm) hb'
    rcases h4 with h4 | ⟨k,z,hk2,hz,hkb⟩
    ·have:=h.owns_lt hx' hb;omega
    ·have:=h.hp.inj k n b z x' hz hx' hkb hb
     subst this
     exact hk hk2
   ·obtain ⟨y',hy',hk',ho'⟩:=old m y hy hm
    exact h.hp.inj n m b x' y' hx' hy' hb (ho' b hb')
 ·by_cases hn:n∈AF nw
  ·exact (c5 him n cs (.inl (new n cs hx hn))).2 m hm
  ·have hn':=B3.2 hn
   by_cases hu:n∈AF up
   ·obtain ⟨y,hy⟩:=BM.1 hu
    have:cs=y:=by rw[BW,hn',hy] at hx;exact (Option.some.inj hx).symm
    subst this
    exact (c5 him n cs (.inr ⟨hn',hy⟩)).2 m hm
   ·rw[BW,hn',B3.2 hu] at hx
    simp only at hx
    split at hx
    ·cases hx
    ·obtain ⟨y,hy,rfl⟩:=AR hx
     obtain ⟨q1,q2⟩:=Lm hm
     exact bnd m (h.hp.clos n y hy m q1) q2
 ·refine ⟨o1.trans h.frm.os,o2.trans h.frm.tape,o3.trans h.frm.output,Nat.le_trans h.frm.size o4,fun b hb hN=> ?_⟩
  refine (c2 b (by omega) fun n x _ hx hb'=> ?_).trans (h.frm.block b hb hN)
  rcases h.own n x b hx hb' with h1 | h1
  ·omega
  ·exact hN h1
 ·by_cases hn:n∈AF nw
  ·obtain ⟨h4,_⟩:=c6 n x b (new n x hx hn) hb
   rcases h4 with h4 | ⟨k,z,hk,hz,hkb⟩
   ·exact .inl (by omega)
   ·exact h.own k z b hz hkb
  ·obtain ⟨y,hy,hk,ho⟩:=old n x hx hn
   exact h.own n y b hy (ho b hb)
end
def Gs:List AV→List Value→Bool
 | [],[]=> true
 | .int k n::r,.int k' n'::s=> decide (k=k')&&decide (n=n')&&Gs r s
 | .bool b::r,.bool b'::s=> (b==b')&&Gs r s
 | .str []::r,.string x::s=> decide (x.data.toList=[])&&Gs r s
 | .nils::r,.slice none 0 0::s=> Gs r s
 | .junk::r,.pointer none::s=> Gs r s
 | .junk::r,.nilFunc::s=> Gs r s
 | .junk::r,.nilIface::s=> Gs r s
 | _,_=> false
def PE (P:Program) (T:Nat):Option Nat:=(P.info? T).map (·.size)
def DH (P:Program) (D:Nat→TI):List (Nat×Nat)→List Field→Bool
 | [],[]=> true
 | (o,t)::r,f::s=> decide (f.offset=o)&&decide (f.type=t)&&(match PE P t with | some n=> decide (0 < n)&&decide (n=(D t).n) | none=> false)&&DH P D r s
 | _,_=> false
def I6 (P:Program) (D:Nat→TI) (k:K) (u:Option TypeDesc):Bool:=
 match k,u with
 | .int k,some (.int k')=> decide (k=k')
 | .bool,some .bool=> true
 | .str,some .string=> true
 | .slice e,some (.slice e')=> decide (e=e')&&!Cc (D e).k&&decide (0 < (D e).n)
 | .struct fs,some (.struct flds)=> DH P D fs flds.toList
 | .ref,some (.pointer _)=> true
 | .ref,some (.func _ _ _)=> true
 | .iface,some (.interface _)=> true
 | .other,_=> true
 | _,_=> false
def Acg (k:K) (z:Option Value):Bool:=
 match k,z with
 | .int k,some (.int k' n)=> decide (k=k')&&decide (n=0)
 | .int _,_=> false
 | _,_=> true
def XA (P:Program) (T:Nat) (d:TI):Bool:=
 match P.info? T with
 | some i=> decide (i.size=d.n)&&decide (i.bytes=d.bytes)&&(match i.zero with | some z=> Gs d.zero z.cells.toList | none=> false)&&decide (d.zero.length=d.n)&&Acg d.k i.zero
 | none=> false
def tyB (P:Program) (D:Nat→TI) (T:Nat) (d:TI):Bool:=Cc d.k || (I6 P D d.k (P.underlying T)&&XA P T d)
def Hu (P:Program) (D:Nat→TI):Prop:=∀T,tyB P D T (D T)=true
theorem De:∀{xs:List AV} {vs:List Value},Gs xs vs=true→vs.length=xs.length∧Af xs=[]∧∀(i:Nat) x v,xs[i]? =some x→vs[i]? =some v→v.oneCell'=true∧∀w im ρ,Rel w im ρ x v
 | [],[],_=> by simp[Af]
 | .int k n::r,.int k' n'::s,h=> by
  simp only[Gs,Bool.and_eq_true,decide_eq_true_eq] at h
  obtain ⟨⟨rfl,rfl⟩,h⟩:=h
  obtain ⟨h1,h2,h3⟩:=De h
  refine ⟨by simp[h1],by simp[Af,Ad,h2],fun i x v hx hv=> ?_⟩
  cases i with
  | zero=> simp at hx hv;subst hx hv;exact ⟨rfl,fun _ _ _=> .int k n⟩
  | succ i=> simp at hx hv;exact h3 i x v hx hv
 | .bool b::r,.bool b'::s,h=> by
  simp only[Gs,Bool.and_eq_true,beq_iff_eq] at h
  obtain ⟨rfl,h⟩:=h
  obtain ⟨h1,h2,h3⟩:=De h
  refine ⟨by simp[h1],by simp[Af,Ad,h2],fun i x v hx hv=> ?_⟩
  cases i with
  | zero=> simp at hx hv;subst hx hv;exact ⟨rfl,fun _ _ _=> .bool b⟩
  | succ i=> simp at hx hv;exact h3 i x v hx hv
 | .str []::r,.string y::s,h=> by
  simp only[Gs,Bool.and_eq_true,decide_eq_true_eq] at h
  obtain ⟨h0,h⟩:=h
  obtain ⟨h1,h2,h3⟩:=De h
  refine ⟨by simp[h1],by simp[Af,Ad,h2],fun i x v hx hv=> ?_⟩
  cases i with
  | zero=>
   simp at hx hv;subst hx hv
   refine ⟨rfl,fun _ _ _=> ?_⟩
   have:y=⟨⟨[]⟩⟩:=by
    obtain ⟨⟨l⟩⟩:=y
    simp at h0
    rw[h0]
   rw[this]
   exact .str []
  | succ i=> simp at hx hv;exact h3 i x v hx hv
 | .nils::r,.slice none 0 0::s,h=> by
  simp only[Gs] at h
  obtain ⟨h1,h2,h3⟩:=De h
  refine ⟨by simp[h1],by simp[Af,Ad,h2],fun i x v hx hv=> ?_⟩
  cases i with
  | zero=> simp at hx hv;subst hx hv;exact ⟨rfl,fun _ _ _=> .nils⟩
  | succ i=> simp at hx hv;exact h3 i x v hx hv
 | .junk::r,.pointer none::s,h=> by
  simp only[Gs] at h
  obtain ⟨h1,h2,h3⟩:=De h
  refine ⟨by simp[h1],by simp[Af,Ad,h2],fun i x v hx hv=> ?_⟩
  cases i with
  | zero=> simp at hx hv;subst hx hv;exact ⟨rfl,fun _ _ _=> .junk _⟩
  | succ i=> simp at hx hv;exact h3 i x v hx hv
 | .junk::r,.nilFunc::s,h=> by
  simp only[Gs] at h
  obtain ⟨h1,h2,h3⟩:=De h
  refine ⟨by simp[h1],by simp[Af,Ad,h2],fun i x v hx hv=> ?_⟩
  cases i with
  | zero=> simp at hx hv;subst hx hv;exact ⟨rfl,fun _ _ _=> .junk _⟩
  | succ i=> simp at hx hv;exact h3 i x v hx hv
 | .junk::r,.nilIface::s,h=> by
  simp only[Gs] at h
  obtain ⟨h1,h2,h3⟩:=De h
  refine ⟨by simp[h1],by simp[Af,Ad,h2],fun i x v hx hv=> ?_⟩
  cases i with
  | zero=> simp at hx hv;subst hx hv;exact ⟨rfl,fun _ _ _=> .junk _⟩
  | succ i=> simp at hx hv;exact h3 i x v hx hv
section
variable {P:Program} {D:Nat→TI} (hT:Hu P D) {T:Nat}
include hT
theorem Fp (h:Cc (D T).k=false):I6 P D (D T).k (P.underlying T)=true∧XA P T (D T)=true:=by
 have:=hT T
 simpa[tyB,h] using this
theorem Fo (h:Cc (D T).k=false):∃i z,P.info? T=some i∧i.size=(D T).n∧i.bytes=(D T).bytes∧i.zero=some z∧Gs (D T).zero z.cells.toList=true∧(D T).zero.length=(D T).n:=by
 have h2:=(Fp hT h).2
 unfold XA at h2
 cases hi:P.info? T with
 | none=> rw[hi] at h2;cases h2
 | some i=>
  rw[hi] at h2
  simp only[Bool.and_eq_true,decide_eq_true_eq] at h2
  obtain ⟨⟨⟨⟨h3,h4⟩,h5⟩,h6⟩,h7⟩:=h2
  cases hz:i.zero with
  | none=> rw[hz] at h5;cases h5
  | some z=> rw[hz] at h5;exact ⟨i,z,rfl,h3,h4,hz,h5,h6⟩
theorem To {k:IntKind} (h:(D T).k=.int k) {i:TypeInfo} (hi:P.info? T=some i):i.zero=some (.int k 0):=by
 have h2:=(Fp hT (T:=T) (by rw[h];rfl)).2
 unfold XA at h2
 rw[hi] at h2
 simp only[Bool.and_eq_true] at h2
 have h3:=h2.2
 rw[h] at h3
 cases hz:i.zero with
 | none=> rw[hz] at h3;cases h3
 | some z=>
  rw[hz] at h3
  cases z <;> simp[Acg] at h3
  rw[h3.1,h3.2]
theorem J2 (h:Cc (D T).k=false) (w:World):(sizeOf T).run P w=.ok (D T).n w:=by
 obtain ⟨i,z,h1,h2,_⟩:=Fo hT h
 simp[sizeOf,typeInfo,h1,h2]
theorem Cy {e:Nat} (h:(D T).k=.slice e):P.underlying T=some (.slice e)∧Cc (D e).k=false∧0 < (D e).n:=by
 have h1:=(Fp hT (T:=T) (by rw[h];rfl)).1
 rw[h] at h1
 cases hu:P.underlying T with
 | none=> rw[hu] at h1;cases h1
 | some u=> rw[hu] at h1;cases u <;> simp[I6] at h1;rw[h1.1.1];exact ⟨rfl,by rw[←h1.1.1] at *;exact h1.1.2,by rw[←h1.1.1] at *;exact h1.2⟩
theorem JJ {k:IntKind} (h:(D T).k=.int k):P.underlying T=some (.int k):=by
 have h1:=(Fp hT (T:=T) (by rw[h];rfl)).1
 rw[h] at h1
 cases hu:P.underlying T with
 | none=> rw[hu] at h1;cases h1
 | some u=> rw[hu] at h1;cases u <;> simp[I6] at h1;rw[h1]
theorem Hl (h:(D T).k=.str):P.underlying T=some .string:=by
 have h1:=(Fp hT (T:=T) (by rw[h];rfl)).1
 rw[h] at h1
 cases hu:P.underlying T with
 | none=> rw[hu] at h1;cases h1
 | some u=> rw[hu] at h1;cases u <;> simp[I6] at h1;rfl
theorem F4 {fs:List (Nat×Nat)} (h:(D T).k=.struct fs):∃flds,P.underlying T=some (.struct flds)∧DH P D fs flds.toList=true:=by
 have h1:=(Fp hT (T:=T) (by rw[h];rfl)).1
 rw[h] at h1
 cases hu:P.underlying T with
 | none=> rw[hu] at h1;cases h1
 | some u=> rw[hu] at h1;cases u <;> simp[I6] at h1;exact ⟨_,rfl,h1⟩
theorem Le (h:Cc (D T).k=false) (w:World):(isAgg T).run P w=.ok (match (D T).k with | .struct _=> true | _=> false) w:=by
 have h1:=(Fp hT h).1
 cases hu:P.underlying T with
 | none=> rw[hu] at h1;cases hk:(D T).k <;> rw[hk] at h1 h <;> simp[I6,Cc] at h1 h
 | some u=>
  rw[hu] at h1
  cases hk:(D T).k <;> rw[hk] at h1 h <;> cases u <;> simp[I6,Cc] at h1 h <;> simp[isAgg,run_underlying hu]
omit hT in
theorem Ld:∀{fs:List (Nat×Nat)} {flds:List Field},DH P D fs flds=true→∀(i o t:Nat),fs[i]? =some (o,t)→∃f,flds[i]? =some f∧f.offset=o∧f.type=t∧PE P t=some (D t).n∧0 < (D t).n:=by
 intro fs flds h
 induction fs generalizing flds with
 | nil=> intro i o t hi;simp at hi
 | cons x r ih=>
  obtain ⟨o',t'⟩:=x
  cases flds with
  | nil=> simp[DH] at h
  | cons f s=>
   simp only[DH,Bool.and_eq_true,decide_eq_true_eq] at h
   obtain ⟨⟨⟨h1,h2⟩,h3⟩,h4⟩:=h
   intro i o t hi
   cases i with
   | zero=>
    simp at hi
    obtain ⟨e1,e2⟩:=hi
    rw[←e1,←e2]
    refine ⟨f,rfl,h1,h2,?_⟩
    cases hs':PE P t' with
    | none=> rw[hs'] at h3;cases h3
    | some n=>
     rw[hs'] at h3
     simp only[Bool.and_eq_true,decide_eq_true_eq] at h3
     obtain ⟨h5,rfl⟩:=h3
     exact ⟨rfl,h5⟩
   | succ i=> simp at hi ⊢;exact ih h4 i o t hi
end
theorem BV (b o n:Nat):(⟨b,o,none⟩:Addr).add n=⟨b,o+n,none⟩:=by unfold Addr.add;split <;> simp_all
section
variable {P:Program} {D:Nat→TI} {w:World} {im:Nat→Prop} {ρ:BI}
theorem F7 (hT:Hu P D) {T b o:Nat} {cs:List AV} {val:Nat→Value} {y:AV}
  (hc:∀(j:Nat) x,cs[j]? =some x→w.cell? ⟨b,o+j,none⟩=some (val j)∧(val j).oneCell'=true) (hr:∀(j:Nat) x,cs[j]? =some x→Rel w im ρ x (val j)) (he:Hm (D T) cs=some y):
  ∃u,(loadVar T ⟨b,o,none⟩).run P w=.ok u w∧Rel w im ρ y u:=by
 have hno:Cc (D T).k=false:=by
  cases hk:(D T).k <;> simp[Cc]
  unfold Hm at he;rw[hk] at he;cases he
 have hag:=Le hT hno w
 unfold Hm at he
 have scal:cs.head? =some y→(isAgg T).run P w=.ok false w→∃u,(loadVar T ⟨b,o,none⟩).run P w=.ok u w∧Rel w im ρ y u:=by
  intro he hag
  have h0:cs[0]? =some y:=by cases cs <;> simp_all
  have h1:=(hc 0 y h0).1
  rw[Nat.add_zero] at h1
  exact ⟨val 0,by simp[loadVar,hag,load,Sem.run,h1],hr 0 y h0⟩
 cases hk:(D T).k with
 | struct fs=>
  rw[hk] at he hag
  simp only at he hag
  split at he
  ·rename_i hle
   cases he
   have hl:=run_loadCells_list (P:=P) w (⟨b,o,none⟩:Addr) ((List.range (D T).n).map val) (fun j v hv=> by
    rw[List.getElem?_map] at hv
    obtain ⟨j',hj',rfl⟩:=Option.map_eq_some_iff.1 hv
    have hj:=(List.getElem?_eq_some_iff.1 hj').1
    simp at hj
    have:j'=j:=by simpa[hj] using hj'.symm
    subst this
    rw[BV]
    exact (hc j' _ (List.getElem?_eq_getElem (by omega))).1)
   simp only[List.length_map,List.length_range] at hl
   refine ⟨.agg ((List.range (D T).n).map val).toArray,?_,?_⟩
   ·simp[loadVar,hag,J2 hT hno,hl]
   ·refine .agg _ _ (by simp;omega) (fun i v hv=> ?_) (fun i x v hx hv=> ?_)
    ·simp only[List.getElem?_toArray,List.getElem?_map] at hv
     obtain ⟨j',hj',rfl⟩:=Option.map_eq_some_iff.1 hv
     have hj:=(List.getElem?_eq_some_iff.1 hj').1
     simp at hj
     have:j'=i:=by simpa[hj] using hj'.symm
     subst this
     exact (hc j' _ (List.getElem?_eq_getElem (by omega))).2
    ·simp only[List.getElem?_toArray,List.getElem?_map] at hv
     obtain ⟨j',hj',rfl⟩:=Option.map_eq_some_iff.1 hv
     have hj:=(List.getElem?_eq_some_iff.1 hj').1
     simp at hj
     have:j'=i:=by simpa[hj] using hj'.symm
     subst this
     rw[List.getElem?_take,if_pos hj] at hx
     exact hr _ _ hx
  ·cases he
 | other=> rw[hk] at hno;cases hno
 | int k=> rw[hk] at he hag;exact scal he hag
 | bool=> rw[hk] at he hag;exact scal he hag
 | str=> rw[hk] at he hag;exact scal he hag
 | slice e=> rw[hk] at he hag;exact scal he hag
 | ref=> rw[hk] at he hag;exact scal he hag
 | iface=> rw[hk] at he hag;exact scal he hag
theorem WU (hT:Hu P D) {T o:Nat} {cs:List AV} {vs:Array Value} {y:AV} (hl:vs.size=cs.length) (h1:∀(i:Nat) v,vs[i]? =some v→v.oneCell'=true)
  (hr:∀(i:Nat) x v,cs[i]? =some x→vs[i]? =some v→Rel w im ρ x v) (he:Hm (D T) (cs.drop o)=some y):∃u,(part T vs o).run P w=.ok u w∧Rel w im ρ y u:=by
 have hno:Cc (D T).k=false:=by
  cases hk:(D T).k <;> simp[Cc]
  unfold Hm at he;rw[hk] at he;cases he
 have hag:=Le hT hno w
 unfold Hm at he
 have scal:(cs.drop o).head? =some y→(isAgg T).run P w=.ok false w→∃u,(part T vs o).run P w=.ok u w∧Rel w im ρ y u:=by
  intro he hag
  have h0:cs[o]? =some y:=by rw[List.head?_drop] at he;exact he
  have hlt:o < vs.size:=by have:=(List.getElem?_eq_some_iff.1 h0).1;omega
  exact ⟨vs[o],by simp[part,hag,hlt],hr o y _ h0 (by simp[hlt])⟩
 cases hk:(D T).k with
 | struct fs=>
  rw[hk] at he hag
  simp only at he hag
  split at he
  ·rename_i hle
   cases he
   rw[List.length_drop] at hle
   refine ⟨.agg (vs.extract o (o+(D T).n)),by simp[part,hag,J2 hT hno],.agg _ _ (by simp;omega) (fun i v hv=> ?_) (fun i x v hx hv=> ?_)⟩
   ·rw[Array.getElem?_extract] at hv
    split at hv
    ·exact h1 _ v hv
    ·cases hv
   ·rw[Array.getElem?_extract] at hv
    split at hv
    ·rw[List.getElem?_take] at hx
     split at hx
     ·rw[List.getElem?_drop] at hx
      exact hr _ x v hx hv
     ·cases hx
    ·cases hv
  ·cases he
 | other=> rw[hk] at hno;cases hno
 | int k=> rw[hk] at he hag;exact scal he hag
 | bool=> rw[hk] at he hag;exact scal he hag
 | str=> rw[hk] at he hag;exact scal he hag
 | slice e=> rw[hk] at he hag;exact scal he hag
 | ref=> rw[hk] at he hag;exact scal he hag
 | iface=> rw[hk] at he hag;exact scal he hag
end
def XW (e:Ck):Prop:=e.nw=[]∧e.up=[]∧e.kl=[]∧e.fr=[]
section
variable {w:World} {im:Nat→Prop} {ρ:BI}
theorem Rel.uv {x:AV} {v:Value} (h:Rel w im ρ x v) (hg:ug x=true):Rel w im ρ (uv x) v:=by
 cases h with
 | opt g x v h1 h2=> exact h1 hg
 | junk v=> exact .junk v
 | int k n=> exact .int k n
 | bool b=> exact .bool b
 | str l=> exact .str l
 | nils=> exact .nils
 | sl sz rs A c b o val hc hm hA hrow hcell hval=> exact .sl sz rs A c b o val hc hm hA hrow hcell hval
 | os t=> exact .os t
 | ptr v off b h=> exact .ptr v off b h
 | iptr cs b o val hb hcell hval=> exact .iptr cs b o val hb hcell hval
 | eptr t i off b h=> exact .eptr t i off b h
 | lsl n A c hc hm=> exact .lsl n A c hc hm
 | imap es b c arr hb ho he=> exact .imap es b c arr hb ho he
 | nilp=> exact .nilp
 | ifc b v h=> exact .ifc b v h
 | tsl t i b A' h hA=> exact .tsl t i b A' h hA
 | psl t n c b h hc hm=> exact .psl t n c b h hc hm
 | func f cs vs hl hval=> exact .func f cs vs hl hval
 | agg cs vs hl h1 hval=> exact .agg cs vs hl h1 hval
 | tup cs vs hl hval=> exact .tup cs vs hl hval
theorem Aay (x:AV):Ad (uv x)=Ad x:=by
 cases x <;> simp[uv,Ad]
theorem Rel.cst (v:Value):Rel w im ρ (cst v) v:=by
 unfold Ab.cst
 split
 ·exact .int _ _
 ·exact .bool _
 ·exact .str _
 ·exact .nils
 ·exact .nilp
 ·exact .ifc _ _ rfl
 ·exact .junk _
theorem YI (v:Value):Ad (cst v)=[]:=by
 unfold cst
 split <;> simp[Ad]
end
section
variable {P:Program} {D:Nat→TI} {S N0:Nat→Prop} {B:Nat} {w0:W0} {ρ:BI} {σ:AS} {a:Act} {w:World}
theorem Cu.ev (h:Cu D S N0 B w0 ρ σ a w) (x:Operand):Rel w (C1 S N0 B w ρ (blk σ)) ρ (Ab.ev σ x) (a.eval x)∧∀n∈Ad (Ab.ev σ x),(blk σ n).isSome=true:=by
 cases x with
 | tmp t=>
  simp only[Ab.ev,Fq,Act.eval]
  by_cases hlt:t < 65536
  ·rw[if_pos hlt]
   cases hg:get t σ.tm with
   | none=> exact ⟨.junk _,by simp[Ad]⟩
   | some y=>
    have:=h.tm t y hg
    rw[vl,if_pos hlt] at this
    exact this
  ·rw[if_neg hlt]
   exact ⟨.junk _,by simp[Ad]⟩
 | const v=> exact ⟨Rel.cst v,by simp[Ab.ev,YI]⟩
 | global g=> exact ⟨.junk _,by simp[Ab.ev,Ad]⟩
 | func f=> exact ⟨.func f [] #[] rfl (by simp),by simp[Ab.ev,Ad,Af]⟩
theorem F9 {ns:List Nat} {n:Nat} {x:Be} (h:GA σ ns n=some x):blk σ n=some x:=by
 unfold GA at h
 split at h
 ·exact h
 ·cases h
theorem Cu.rows (h:Cu D S N0 B w0 ρ σ a w) {bl:Nat→Option Be} (hbl:∀n x,bl n=some x→blk σ n=some x) {x:AV} {v:Value} {sz:Nat} {rs:List (List AV)}
  (hx:Rel w (C1 S N0 B w ρ (blk σ)) ρ x v) (he:Hf bl x=some (sz,rs)):Rel w (C1 S N0 B w ρ (blk (Ab.freeze σ (J3 x)))) ρ (.sl sz rs) v:=by
 cases hx <;> simp[Hf] at he
 case nils=>
  obtain ⟨rfl,rfl⟩:=he
  exact .sl 0 [] none 0 0 0 (fun _ _=> .nilIface) (Nat.le_refl _) (Nat.zero_le _) (fun h=> absurd h (by simp)) (by simp) (by simp) (by simp)
 case sl A c b o val hc hm hA hrow hcell hval=>
  obtain ⟨rfl,rfl⟩:=he
  exact .sl _ _ A c b o val hc hm hA hrow hcell hval
 case os t=>
  obtain ⟨e,he⟩:=he
  have hb:bl t=some (.rows e sz rs):=by
   unfold A3 at he
   split at he
   ·rename_i q;rw[q];simp at he;obtain ⟨rfl,rfl,rfl⟩:=he;rfl
   ·cases he
  have hb':=hbl t _ hb
  refine Rel.plain (h.hp.blk t _ hb') (fun b hb=> ?_) (fun b hb=> ?_)
  ·refine ⟨hb.1,hb.2.1,fun n y hy=> ?_⟩
   simp only[J3] at hy
   rw[BS] at hy
   split at hy
   ·cases hy
   ·obtain ⟨z,hz,rfl⟩:=AR hy
    rw[BZ]
    exact hb.2.2 n z hz
  ·refine ⟨h.named_lt hb' hb,.inr (h.own t _ b hb' hb),fun n y hy hn=> ?_⟩
   simp only[J3] at hy
   rw[BS] at hy
   split at hy
   ·cases hy
   ·rename_i hnt
    obtain ⟨z,hz,rfl⟩:=AR hy
    exact hnt (by simp[h.hp.inj n t b z _ hz hb' (BZ.1 hn) hb])
theorem X0 {op:BinOp} {T:TypeId} {x y:AV} {X Y:Operand} {u v:Value} {e:Ck} {im:Nat→Prop} (hx:Rel w im ρ x u) (hy:Rel w im ρ y v) (he:bin op x y=some e) (hp:e.pre):
  XW e∧∃r,(do eqGuard op T X Y u v;binOp op T u v:Sem Value).run P w=.ok r w∧Rel w im ρ e.v r∧Ad e.v=[]:=by
 cases x <;> cases y <;> try (cases op <;> simp[bin] at he;done)
 case int.int k a k' b=>
  have h1:=hx.int_
  have h2:=hy.int_
  subst h1 h2
  have key:∀(r:AV) (p:Prop) (q:Value),(k=k'→p→(do eqGuard op T X Y (.int k a) (.int k' b);binOp op T (.int k a) (.int k' b):Sem Value).run P w=.ok q w)→Rel w im ρ r q→Ad r=[]→(if k=k' then some ({v:=r,pre:=p}:Ck) else none)=some e→
    XW e∧∃r,(do eqGuard op T X Y (.int k a) (.int k' b);binOp op T (.int k a) (.int k' b):Sem Value).run P w=.ok r w∧Rel w im ρ e.v r∧Ad e.v=[]:=by
   intro r p q h1 h2 h3 h4
   split at h4
   ·rename_i hk
    cases h4
    exact ⟨⟨rfl,rfl,rfl,rfl⟩,q,h1 hk hp,h2,h3⟩
   ·cases h4
  cases op <;> simp only[bin,Lb,W7,Zt,Abi] at he
  case add=> exact key _ _ _ (fun hk _=> by subst hk;simp[eqGuard,binOp,Op.intArith]) (.int _ _) (by simp[Ad]) he
  case sub=> exact key _ _ _ (fun hk _=> by subst hk;simp[eqGuard,binOp,Op.intArith]) (.int _ _) (by simp[Ad]) he
  case mul=> exact key _ _ _ (fun hk _=> by subst hk;simp[eqGuard,binOp,Op.intArith]) (.int _ _) (by simp[Ad]) he
  case quo=> exact key _ _ _ (fun hk hp=> by subst hk;simp[eqGuard,binOp,Op.intDiv,hp]) (.int _ _) (by simp[Ad]) he
  case rem=> exact key _ _ _ (fun hk hp=> by subst hk;simp[eqGuard,binOp,Op.intDiv,hp]) (.int _ _) (by simp[Ad]) he
  case and=> exact key _ _ _ (fun hk _=> by subst hk;simp[eqGuard,binOp,Op.intBits]) (.int _ _) (by simp[Ad]) he
  case or=> exact key _ _ _ (fun hk _=> by subst hk;simp[eqGuard,binOp,Op.intBits]) (.int _ _) (by simp[Ad]) he
  case eql=> exact key _ _ _ (fun hk _=> by subst hk;simp[eqGuard,binOp,Op.intCmp]) (.bool _) (by simp[Ad]) he
  case neq=> exact key _ _ _ (fun hk _=> by subst hk;simp[eqGuard,binOp,Op.intCmp]) (.bool _) (by simp[Ad]) he
  case lss=> exact key _ _ _ (fun hk _=> by subst hk;simp[eqGuard,binOp,Op.intCmp]) (.bool _) (by simp[Ad]) he
  case leq=> exact key _ _ _ (fun hk _=> by subst hk;simp[eqGuard,binOp,Op.intCmp]) (.bool _) (by simp[Ad]) he
  case gtr=> exact key _ _ _ (fun hk _=> by subst hk;simp[eqGuard,binOp,Op.intCmp]) (.bool _) (by simp[Ad]) he
  case geq=> exact key _ _ _ (fun hk _=> by subst hk;simp[eqGuard,binOp,Op.intCmp]) (.bool _) (by simp[Ad]) he
  case shl=>
   cases he
   simp only at hp
   have hb:¬b < 0:=by omega
   exact ⟨⟨rfl,rfl,rfl,rfl⟩,_,by simp[eqGuard,binOp,Op.shift,hb],.int _ _,by simp[Ad]⟩
  case shr=>
   cases he
   simp only at hp
   have hb:¬b < 0:=by omega
   exact ⟨⟨rfl,rfl,rfl,rfl⟩,_,by simp[eqGuard,binOp,Op.shift,hb],.int _ _,by simp[Ad]⟩
  all_goals cases he
 case str.str l m=>
  have h1:=hx.str_
  have h2:=hy.str_
  subst h1 h2
  cases op <;> simp only[bin] at he
  case eql=> cases he;exact ⟨⟨rfl,rfl,rfl,rfl⟩,_,by simp[eqGuard,binOp,Op.stringOp,ByteArray.toList_eq],.bool _,by simp[Ad]⟩
  case neq=> cases he;exact ⟨⟨rfl,rfl,rfl,rfl⟩,_,by simp[eqGuard,binOp,Op.stringOp,ByteArray.toList_eq],.bool _,by simp[Ad]⟩
  case add=>
   cases he
   simp only at hp
   have ha:(⟨⟨l⟩⟩:ByteArray)++⟨⟨m⟩⟩=⟨⟨l++m⟩⟩:=by
    apply ByteArray.ext
    simp
   have z1:(⟨⟨l⟩⟩:ByteArray).size=l.length:=rfl
   have z2:(⟨⟨m⟩⟩:ByteArray).size=m.length:=rfl
   exact ⟨⟨rfl,rfl,rfl,rfl⟩,.string ⟨⟨l++m⟩⟩,by simp[eqGuard,binOp,Op.stringOp,ha,z1,z2,IntKind.max,IntKind.signed,IntKind.bits];omega,.str _,by simp[Ad]⟩
  all_goals cases he
theorem Zg (T:TypeId) (e:TypeId) (A:Option Addr) (len cap l h s:Nat) (lo hi:Option Value) (hu:P.underlying T=some (.slice e)) (hs:(sizeOf e).run P w=.ok s w)
  (hlo:(lo=none∧l=0)∨∃k,lo=some (.int k l)) (hhi:(hi=none∧h=len)∨∃k,hi=some (.int k h)) (h1:l≤h) (h2:h≤cap):
  (Instr.sliceAt T (.slice A len cap) lo hi none).run P w=.ok (.slice (if cap=l then A else A.map (·.add (l*s))) (h - l) (cap - l)) w:=by
 have h3:(l:Int)≤h:=by omega
 have h4:(h:Int)≤cap:=by omega
 have h5:0≤(l:Int):=by omega
 have h6:0≤(h:Int):=by omega
 rcases hlo with ⟨rfl,rfl⟩ | ⟨k,rfl⟩ <;> rcases hhi with ⟨rfl,rfl⟩ | ⟨k',rfl⟩ <;>
  simp[Instr.sliceAt,Instr.slice,run_underlying hu,Instr.sliceBounds,Instr.sliceBound,asIntOf,hs,h3,h4,h1,h2]
theorem RE (T:TypeId) (x:ByteArray) (l h:Nat) (lo hi:Option Value) (hu:P.underlying T=some .string)
  (hlo:(lo=none∧l=0)∨∃k,lo=some (.int k l)) (hhi:(hi=none∧h=x.size)∨∃k,hi=some (.int k h)) (h1:l≤h) (h2:h≤x.size):
  (Instr.sliceAt T (.string x) lo hi none).run P w=.ok (.string (x.extract l h)) w:=by
 have h3:(l:Int)≤h:=by omega
 have h4:(h:Int)≤x.size:=by omega
 have h5:0≤(l:Int):=by omega
 have h6:0≤(h:Int):=by omega
 rcases hlo with ⟨rfl,rfl⟩ | ⟨k,rfl⟩ <;> rcases hhi with ⟨rfl,rfl⟩ | ⟨k',rfl⟩ <;>
  simp[Instr.sliceAt,Instr.slice,run_underlying hu,Instr.sliceBounds,Instr.sliceBound,asIntOf,h3,h4,h1,h2]
theorem S0 (l:List UInt8) (i j:Nat):(⟨⟨l⟩⟩:ByteArray).extract i j=⟨⟨(l.take j).drop i⟩⟩:=by
 apply ByteArray.ext
 simp[List.drop_take]
theorem Rel.piece {im:Nat→Prop} {sz:Nat} {rs:List (List AV)} {A:Option Addr} {n c l h s:Nat} (hr:Rel w im ρ (.sl sz rs) (.slice A n c)) (h1:l≤h) (h2:h≤rs.length) (hs:s=sz∨h=0):
  Rel w im ρ (.sl sz ((rs.take h).drop l)) (.slice (if c=l then A else A.map (·.add (l*s))) (h - l) (c - l)):=by
 cases hr with
 | sl sz rs A c b o val hc hm hA hrow hcell hval=>
 have hlen:((rs.take h).drop l).length=h - l:=by simp;omega
 rw[←hlen]
 have hget:∀(i:Nat) row,((rs.take h).drop l)[i]? =some row→rs[l+i]? =some row:=by
  intro i row hi
  rw[List.getElem?_drop,List.getElem?_take] at hi
  split at hi
  ·exact hi
  ·cases hi
 refine .sl sz _ _ _ b (o+l*sz) (fun i j=> val (l+i) j) (by omega) (by omega) (fun hpos=> ?_) (fun i row hi=> hrow _ row (hget i row hi)) (fun i j row x hi hj=> ?_) (fun i j row x hi hj=> hval _ j row x (hget i row hi) hj)
 ·rw[hlen] at hpos
  obtain ⟨rfl,hb⟩:=hA (by omega)
  have hcl:¬c=l:=by omega
  have hs':s=sz:=by rcases hs with h | h <;> omega
  subst hs'
  rw[if_neg hcl,Option.map_some,BV]
  exact ⟨rfl,hb⟩
 ·have:=hcell (l+i) j row x (hget i row hi) hj
  rw[Nat.add_mul] at this
  rw[show o+l*sz+(i*sz+j)=o+(l*sz+i*sz+j) by omega]
  exact this
end
section
variable {P:Program} {D:Nat→TI} {S N0:Nat→Prop} {B:Nat} {w0:W0} {ρ:BI} {σ:AS} {a:Act} {w:World}
def Fa (P:Program) (S N0:Nat→Prop) (B:Nat) (ρ:BI) (σ:AS) (w:World) (s:Sem Value) (e:Ck):Prop:=
 e.nw=[]∧e.up=[]∧e.kl=[]∧∃v,s.run P w=.ok v w∧Rel w (C1 S N0 B w ρ (blk (freeze σ e.fr))) ρ e.v v∧∀n∈Ad e.v,(blk (freeze σ e.fr) n).isSome=true
theorem Fa.only {s:Sem Value} {e:Ck} (ho:XW e) {v:Value} (h1:s.run P w=.ok v w) (h2:Rel w (C1 S N0 B w ρ (blk σ)) ρ e.v v) (h3:∀n∈Ad e.v,(blk σ n).isSome=true):Fa P S N0 B ρ σ w s e:=by
 obtain ⟨a1,a2,a3,a4⟩:=ho
 exact ⟨a1,a2,a3,v,h1,by rw[a4];exact h2,by rw[a4];exact h3⟩
abbrev Im (S N0:Nat→Prop) (B:Nat) (w:World) (ρ:BI) (σ:AS):Nat→Prop:=C1 S N0 B w ρ (blk σ)
theorem E5 {bl:Nat→Option Be} {t e sz:Nat} {rs:List (List AV)} (h:A3 bl t=some (e,sz,rs)):bl t=some (.rows e sz rs):=by
 unfold A3 at h
 split at h
 ·rename_i q;simp at h;obtain ⟨rfl,rfl,rfl⟩:=h;exact q
 ·cases h
theorem EY {bl:Nat→Option Be} {t e sz:Nat} {rs:List (List AV)} {cols foc:List (Nat×Nat×Nat)} (h:Fc bl t=some (e,sz,rs,cols,foc)):bl t=some (.deep e sz rs cols foc):=by
 unfold Fc at h
 split at h
 ·rename_i q;simp at h;obtain ⟨rfl,rfl,rfl,rfl,rfl⟩:=h;exact q
 ·cases h
theorem RN {i j m:Nat}:∀{foc:List (Nat×Nat×Nat)},Vh foc i j=some m→(i,j,m)∈foc
 | [],h=> by cases h
 | (a,b,c)::r,h=> by
  simp only[Vh] at h
  split at h
  ·rename_i e
   obtain ⟨rfl,rfl⟩:=e
   cases h
   exact List.mem_cons_self
  ·exact List.mem_cons_of_mem _ (RN h)
theorem PH {cols foc:List (Nat×Nat×Nat)} {i:Nat} {x':AV}:∀{row:List AV} {j0 j:Nat},(HY cols foc i j0 row)[j]? =some x'→∃x,row[j]? =some x∧
  ((∃m,(i,j0+j,m)∈foc∧x'=.os m)∨(x'=x∧((Id cols (j0+j)).isNone=true∨Gw x=true))∨x'=.junk)
 | [],j0,j,h=> by simp[HY] at h
 | y::r,j0,0,h=> by
  simp only[HY,List.getElem?_cons_zero,Option.some.injEq] at h
  refine ⟨y,rfl,?_⟩
  split at h
  ·rename_i m hm
   exact .inl ⟨m,RN hm,h.symm⟩
  ·split at h
   ·rename_i hc
    exact .inr (.inl ⟨h.symm,hc⟩)
   ·exact .inr (.inr h.symm)
 | y::r,j0,j+1,h=> by
  simp only[HY,List.getElem?_cons_succ] at h
  obtain ⟨x,h1,h2⟩:=PH h
  have e:j0+1+j=j0+(j+1):=by omega
  rw[e] at h2
  exact ⟨x,by simpa using h1,h2⟩
theorem GU.plain {D:Nat→TI} {w:World} {im:Nat→Prop} {ρ:BI} {hb:Option Nat} {col:Option (Nat×Nat)} {x:AV} {v:Value} (h:GU D w im ρ hb col x v) (hp:col.isNone=true∨Gw x=true):Rel w im ρ x v:=by
 unfold GU at h
 split at h
 ·rcases hp with hp | hp <;> cases hp
 ·exact h
theorem R3 {w:World} {im:Nat→Prop} {cs:List AV} (h:∀(j:Nat) x,cs[j]? =some x→Ad x=[]):Af cs=[]:=by
 induction cs with
 | nil=> rfl
 | cons c r ih=>
  rw[Af,h 0 c rfl,ih (fun j x hj=> h (j+1) x hj)]
  rfl
theorem Gk {d:TI} {cs:List AV} {y:AV} (h:Hm d cs=some y) {n:Nat} (hn:n∈Ad y):n∈Af cs:=by
 have hd:cs.head? =some y→n∈Af cs:=by
  intro h
  cases cs with
  | nil=> cases h
  | cons c r=> simp at h;subst h;rw[Af];exact List.mem_append_left _ hn
 unfold Hm at h
 split at h
 ·split at h
  ·cases h
   rw[Ad] at hn
   obtain ⟨i,x,hi,hx⟩:=Cr hn
   rw[List.getElem?_take] at hi
   split at hi
   ·exact AY hi hx
   ·cases hi
  ·cases h
 ·cases h
 ·exact hd h
theorem QN {cs:List AV} {k n:Nat} (h:n∈Af (cs.drop k)):n∈Af cs:=by
 obtain ⟨i,x,hi,hx⟩:=Cr h
 rw[List.getElem?_drop] at hi
 exact AY hi hx
theorem QH (hT:Hu P D) (h:Cu D S N0 B w0 ρ σ a w) {bl:Nat→Option Be} (hbl:∀n x,bl n=some x→blk σ n=some x) {T:Nat} {x:AV} {v:Value} {e:Ck}
  (hx:Rel w (Im S N0 B w ρ σ) ρ x v) (he:Hz D bl T x=some e):Fa P S N0 B ρ σ w (Instr.loadAt T v) e:=by
 cases hx <;> simp only[Hz] at he <;> try (cases he;done)
 case ptr n off b hb=>
  cases hbn:bl n with
  | none=> rw[hbn] at he;cases he
  | some y=>
   rw[hbn] at he
   cases y with
   | rows e' sz rs=> cases he
   | deep e' sz rs cols foc=> cases he
   | cells cs=>
    simp only at he
    obtain ⟨y,hy,rfl⟩:=Option.map_eq_some_iff.1 he
    have hs:=hbl n _ hbn
    obtain ⟨b',arr,T',h1,h2,h3,h5⟩:=h.hp.blk n _ hs
    rw[hb] at h1
    cases h1
    have hcell:∀(j:Nat) x,(cs.drop off)[j]? =some x→w.cell? ⟨b,off+j,none⟩=some (arr.getD (off+j) undef)∧(arr.getD (off+j) undef).oneCell'=true∧Rel w (Im S N0 B w ρ σ) ρ x (arr.getD (off+j) undef):=by
     intro j x hj
     rw[List.getElem?_drop] at hj
     have hlt:off+j < arr.size:=by have:=(List.getElem?_eq_some_iff.1 hj).1;omega
     have hv:arr[off+j]? =some arr[off+j]:=by simp[hlt]
     have hg:arr.getD (off+j) undef=arr[off+j]:=by simp[Array.getD_eq_getD_getElem?,hlt]
     rw[hg]
     refine ⟨?_,h5 _ _ _ hj hv⟩
     unfold World.cell?
     rw[h2]
     simp[hlt]
    obtain ⟨u,hu,hr⟩:=F7 (P:=P) hT (w:=w) (b:=b) (o:=off) (fun j x hj=> ⟨(hcell j x hj).1,(hcell j x hj).2.1⟩) (fun j x hj=> (hcell j x hj).2.2) hy
    exact Fa.only ⟨rfl,rfl,rfl,rfl⟩ (by simpa[Instr.loadAt,Instr.sureAddr] using hu) hr fun m hm=> h.hp.closed n cs hs m (QN (Gk hy hm))
 case iptr cs b o val hb hcell hval=>
  obtain ⟨y,hy,rfl⟩:=Option.map_eq_some_iff.1 he
  obtain ⟨u,hu,hr⟩:=F7 (P:=P) hT (w:=w) (b:=b) (o:=o) (fun j x hj=> ⟨(hcell j x hj).1,(hcell j x hj).2.1⟩) (fun j x hj=> hval j x hj) hy
  refine Fa.only ⟨rfl,rfl,rfl,rfl⟩ (by simpa[Instr.loadAt,Instr.sureAddr] using hu) hr fun m hm=> ?_
  have:=Gk hy hm
  rw[R3 (w:=w) (im:=Im S N0 B w ρ σ) fun j x hj=> (hcell j x hj).2.2] at this
  cases this
 case eptr t i off b hb=>
  cases hrt:A3 bl t with
  | none=>
   rw[hrt] at he
   simp only at he
   cases hdt:Fc bl t with
   | none=> rw[hdt] at he;cases he
   | some r=>
   obtain ⟨e',sz,rs,cols,foc⟩:=r
   rw[hdt] at he
   simp only at he
   obtain ⟨y,hy,rfl⟩:=Option.map_eq_some_iff.1 he
   have hs:=hbl t _ (EY hdt)
   obtain ⟨g1,g2,g3,_,_,A,c,g4,g5,g6,g7⟩:=h.hp.blk t _ hs
   rcases g7 with ⟨_,_,_,g8⟩ | ⟨b',arr,g8,g9,g10,g11,g14,g15⟩
   ·rw[hb] at g8;cases g8
   rw[hb] at g8
   cases g8
   have hcell:∀(j:Nat) x,((HY cols foc i 0 (rs.getD i [])).drop off)[j]? =some x→w.cell? ⟨b,i*(ρ t).sz+off+j,none⟩=some (arr.getD (i*(ρ t).sz+off+j) undef)∧(arr.getD (i*(ρ t).sz+off+j) undef).oneCell'=true∧(∀m∈Ad x,(blk σ m).isSome=true)∧Rel w (Im S N0 B w ρ σ) ρ x (arr.getD (i*(ρ t).sz+off+j) undef):=by
    intro j x' hj
    rw[List.getElem?_drop] at hj
    obtain ⟨x,hj,hx'⟩:=PH hj
    have hi:rs[i]? =some (rs.getD i []):=by
     cases hri:rs[i]? with
     | none=> rw[List.getD_eq_getElem?_getD,hri] at hj;simp at hj
     | some row=> simp[List.getD_eq_getElem?_getD,hri]
    obtain ⟨hn,v,hv,h1v,hrel⟩:=(g14 i _ hi).2 _ x hj
    have hfo:=fun m hm=> g15 i (off+j) m hm _ x hi hj
    rw[←g1] at hv hfo
    have ee:i*(ρ t).sz+off+j=i*(ρ t).sz+(off+j):=by omega
    have hg:arr.getD (i*(ρ t).sz+off+j) undef=v:=by rw[ee,Array.getD_eq_getD_getElem?,hv];rfl
    rw[hg]
    refine ⟨?_,h1v,?_,?_⟩
    ·unfold World.cell?
     rw[g10]
     simp[ee,hv]
    ·intro k hk
     rcases hx' with ⟨m,hm,rfl⟩ | ⟨rfl,_⟩ | rfl
     ·simp only[Ad,List.mem_singleton] at hk
      subst hk
      rw[Nat.zero_add] at hm
      exact h.hp.clos t _ hs k (BY.2 ⟨i,off+j,hm⟩)
     ·rw[hn] at hk;cases hk
     ·cases hk
    ·rcases hx' with ⟨m,hm,rfl⟩ | ⟨rfl,hp⟩ | rfl
     ·rw[Nat.zero_add] at hm
      have:=hfo m hm
      rw[hv] at this
      cases this
      exact .os m
     ·rw[Nat.zero_add] at hp
      exact hrel.plain hp
     ·exact .junk _
   obtain ⟨u,hu,hr⟩:=F7 (P:=P) hT (w:=w) (b:=b) (o:=i*(ρ t).sz+off) (fun j x hj=> ⟨(hcell j x hj).1,(hcell j x hj).2.1⟩) (fun j x hj=> (hcell j x hj).2.2.2) hy
   refine Fa.only ⟨rfl,rfl,rfl,rfl⟩ (by simpa[Instr.loadAt,Instr.sureAddr] using hu) hr fun m hm=> ?_
   obtain ⟨j,x,hj,hx⟩:=Cr (Gk hy hm)
   exact (hcell j x hj).2.2.1 m hx
  | some r=>
   obtain ⟨e',sz,rs⟩:=r
   rw[hrt] at he
   simp only at he
   obtain ⟨y,hy,rfl⟩:=Option.map_eq_some_iff.1 he
   have hs:=hbl t _ (E5 hrt)
   obtain ⟨g1,g2,g3,A,c,g4,g5,g6,g7⟩:=h.hp.blk t _ hs
   rcases g7 with ⟨_,_,_,g8⟩ | ⟨b',arr,g8,g9,g10,g11,g14⟩
   ·rw[hb] at g8;cases g8
   rw[hb] at g8
   cases g8
   have hcell:∀(j:Nat) x,((rs.getD i []).drop off)[j]? =some x→w.cell? ⟨b,i*(ρ t).sz+off+j,none⟩=some (arr.getD (i*(ρ t).sz+off+j) undef)∧(arr.getD (i*(ρ t).sz+off+j) undef).oneCell'=true∧Ad x=[]∧Rel w (Im S N0 B w ρ σ) ρ x (arr.getD (i*(ρ t).sz+off+j) undef):=by
    intro j x hj
    rw[List.getElem?_drop] at hj
    have hi:rs[i]? =some (rs.getD i []):=by
     cases hri:rs[i]? with
     | none=> rw[List.getD_eq_getElem?_getD,hri] at hj;simp at hj
     | some row=> simp[List.getD_eq_getElem?_getD,hri]
    obtain ⟨hn,v,hv,h1v,hrel⟩:=(g14 i _ hi).2 _ x hj
    rw[←g1] at hv
    have ee:i*(ρ t).sz+off+j=i*(ρ t).sz+(off+j):=by omega
    have hg:arr.getD (i*(ρ t).sz+off+j) undef=v:=by rw[ee,Array.getD_eq_getD_getElem?,hv];rfl
    rw[hg]
    refine ⟨?_,h1v,hn,hrel⟩
    unfold World.cell?
    rw[g10]
    simp[ee,hv]
   obtain ⟨u,hu,hr⟩:=F7 (P:=P) hT (w:=w) (b:=b) (o:=i*(ρ t).sz+off) (fun j x hj=> ⟨(hcell j x hj).1,(hcell j x hj).2.1⟩) (fun j x hj=> (hcell j x hj).2.2.2) hy
   refine Fa.only ⟨rfl,rfl,rfl,rfl⟩ (by simpa[Instr.loadAt,Instr.sureAddr] using hu) hr fun m hm=> ?_
   have:=Gk hy hm
   rw[R3 (w:=w) (im:=Im S N0 B w ρ σ) fun j x hj=> (hcell j x hj).2.2.1] at this
   cases this
theorem PQ (hT:Hu P D) {T f:Nat} {x:AV} {v:Value} {e:Ck} (hx:Rel w (Im S N0 B w ρ σ) ρ x v) (hn:∀n∈Ad x,(blk σ n).isSome=true) (he:D7 D T f x=some e):
  Fa P S N0 B ρ σ w (Instr.fieldAt T v f) e:=by
 unfold D7 at he
 cases hk:(D T).k <;> rw[hk] at he <;> try (cases he;done)
 rename_i fs
 simp only at he
 cases hf:fs[f]? with
 | none=> rw[hf] at he;cases he
 | some ot=>
  obtain ⟨o,t⟩:=ot
  rw[hf] at he
  obtain ⟨flds,hu,hfb⟩:=F4 hT hk
  obtain ⟨fd,h1,h2,h3,h4,h5⟩:=Ld hfb f o t hf
  have h1':flds[f]? =some fd:=by rw[←h1];simp
  have hsz:(sizeOf fd.type).run P w=.ok (D t).n w:=by
   unfold PE at h4
   rw[h3]
   obtain ⟨i,hi,hi2⟩:=Option.map_eq_some_iff.1 h4
   simp[sizeOf,typeInfo,hi,hi2]
  have run:∀ad:Addr,(Instr.fieldAt T (.pointer (some ad)) f).run P w=.ok (.pointer (some (ad.add o))) w:=by
   intro ad
   have h6:¬(D t).n=0:=by omega
   simp[Instr.fieldAt,run_underlying hu,h1',Instr.sureAddr,fieldPlace,hsz,h6,h2]
  cases hx <;> simp only at he <;> try (cases he;done)
  case ptr n off b hb=>
   cases he
   exact Fa.only ⟨rfl,rfl,rfl,rfl⟩ (run _) (by rw[BV];exact .ptr n (off+o) b hb) (by simpa[Ad] using hn)
  case iptr cs b o' val hb hcell hval=>
   cases he
   refine Fa.only ⟨rfl,rfl,rfl,rfl⟩ (run _) ?_ (by simp[Ad])
   rw[BV]
   refine .iptr _ b (o'+o) (fun j=> val (o+j)) hb (fun j x hj=> ?_) (fun j x hj=> ?_)
   ·rw[List.getElem?_drop] at hj
    have:=hcell _ x hj
    rwa [←Nat.add_assoc] at this
   ·rw[List.getElem?_drop] at hj
    exact hval _ x hj
  case eptr t i off b hb=>
   cases he
   refine Fa.only ⟨rfl,rfl,rfl,rfl⟩ (run _) ?_ (by simpa[Ad] using hn)
   rw[BV,Nat.add_assoc]
   exact .eptr t i (off+o) b hb
theorem Vf (hT:Hu P D) {T f:Nat} {x:AV} {v:Value} {e:Ck} (hx:Rel w (Im S N0 B w ρ σ) ρ x v) (hn:∀n∈Ad x,(blk σ n).isSome=true) (he:Ii D T f x=some e):
  Fa P S N0 B ρ σ w (Instr.field T v f) e:=by
 cases hx <;> simp only[Ii] at he <;> try (cases he;done)
 rename_i cs vs hl h1 hval
 cases hk:(D T).k <;> rw[hk] at he <;> try (cases he;done)
 rename_i fs
 simp only at he
 cases hf:fs[f]? with
 | none=> rw[hf] at he;cases he
 | some ot=>
  obtain ⟨o,t⟩:=ot
  rw[hf] at he
  simp only at he
  obtain ⟨y,hy,rfl⟩:=Option.map_eq_some_iff.1 he
  obtain ⟨flds,hu,hfb⟩:=F4 hT hk
  obtain ⟨fd,h1',h2,h3,h4,h5⟩:=Ld hfb f o t hf
  have h1'':flds[f]? =some fd:=by rw[←h1'];simp
  obtain ⟨u,hu',hr⟩:=WU (P:=P) hT hl h1 hval hy
  refine Fa.only ⟨rfl,rfl,rfl,rfl⟩ (by simpa[Instr.field,run_underlying hu,h1'',asAgg,h2,h3] using hu') hr fun m hm=> hn m ?_
  rw[Ad]
  exact QN (Gk hy hm)
theorem PR (hT:Hu P D) (h:Cu D S N0 B w0 ρ σ a w) {bl:Nat→Option Be} (hbl:∀n x,bl n=some x→blk σ n=some x) {T:Nat} {x i:AV} {v u:Value} {e:Ck}
  (hx:Rel w (Im S N0 B w ρ σ) ρ x v) (hi:Rel w (Im S N0 B w ρ σ) ρ i u) (he:D8 D bl T x i=some e) (hp:e.pre) (hn:∀m∈Ad x,(blk σ m).isSome=true):Fa P S N0 B ρ σ w (Instr.indexAt T v u) e:=by
 cases hi <;> simp only[D8] at he <;> try (cases he;done)
 rename_i k n
 cases hk:(D T).k <;> rw[hk] at he <;> try (cases he;done)
 rename_i el
 simp only at he
 obtain ⟨hu,hne,hpz⟩:=Cy hT hk
 have run:∀(ad:Addr) (len c s:Nat),(sizeOf el).run P w=.ok s w→0≤n→n < len→(Instr.indexAt T (.slice (some ad) len c) (.int k n)).run P w=.ok (.pointer (some (ad.add (n.toNat*s)))) w:=by
  intro ad len c s hs h0 h1
  simp[Instr.indexAt,run_underlying hu,asIntOf,h0,h1,hs]
 have hsz:=J2 hT hne w
 cases hx <;> simp only at he <;> try (cases he;done)
 case sl sz rs A c b o val hc hm hA hrow hcell hval=>
  split at he
  ·rename_i hse
   cases he
   simp only at hp
   obtain ⟨h0,h1⟩:=hp
   have hpos:0 < rs.length:=by omega
   obtain ⟨rfl,hb⟩:=hA hpos
   have hlt:n.toNat < rs.length:=by omega
   have hri:rs[n.toNat]? =some (rs.getD n.toNat []):=by simp[List.getD_eq_getElem?_getD,hlt]
   refine Fa.only ⟨rfl,rfl,rfl,rfl⟩ (run _ _ _ _ hsz h0 h1) ?_ (by simp[Ad])
   rw[BV,←hse]
   refine .iptr _ b _ (fun j=> val n.toNat j) hb (fun j x hj=> ?_) (fun j x hj=> hval _ j _ x hri hj)
   have:=hcell _ j _ x hri hj
   rwa [←Nat.add_assoc] at this
  ·cases he
 case os t=>
  cases hrt:A3 bl t with
  | none=>
   rw[hrt] at he
   simp only at he
   cases hdt:Fc bl t with
   | none=> rw[hdt] at he;cases he
   | some r=>
   obtain ⟨e',sz,rs,cols,foc⟩:=r
   rw[hdt] at he
   simp only at he
   split at he
   ·rename_i hse
    cases he
    simp only at hp
    obtain ⟨h0,h1⟩:=hp
    have hs:=hbl t _ (EY hdt)
    obtain ⟨g1,g2,g3,_,_,A,c,g4,g5,g6,g7⟩:=h.hp.blk t _ hs
    rcases g7 with ⟨rfl,_,_,g8⟩ | ⟨b,arr,g8,rfl,g10,g11,g14⟩
    ·simp at h1;omega
    rw[g4]
    refine Fa.only ⟨rfl,rfl,rfl,rfl⟩ (run _ _ _ _ hsz h0 h1) ?_ (fun m hm=> ?_)
    ·rw[BV,←hse,←g1,Nat.zero_add]
     exact .eptr t n.toNat 0 b g8
    ·simp[Ad] at hm
     subst hm
     rw[hs];rfl
   ·cases he
  | some r=>
   obtain ⟨e',sz,rs⟩:=r
   rw[hrt] at he
   simp only at he
   split at he
   ·rename_i hse
    cases he
    simp only at hp
    obtain ⟨h0,h1⟩:=hp
    have hs:=hbl t _ (E5 hrt)
    obtain ⟨g1,g2,g3,A,c,g4,g5,g6,g7⟩:=h.hp.blk t _ hs
    rcases g7 with ⟨rfl,_,_,g8⟩ | ⟨b,arr,g8,rfl,g10,g11,g14⟩
    ·simp at h1;omega
    rw[g4]
    refine Fa.only ⟨rfl,rfl,rfl,rfl⟩ (run _ _ _ _ hsz h0 h1) ?_ (fun m hm=> ?_)
    ·rw[BV,←hse,←g1,Nat.zero_add]
     exact .eptr t n.toNat 0 b g8
    ·simp[Ad] at hm
     subst hm
     rw[hs];rfl
   ·cases he
 case psl t m c b hb hc hm=>
  split at he
  ·rename_i hse
   cases he
   simp only at hp
   obtain ⟨h0,h1⟩:=hp
   refine Fa.only ⟨rfl,rfl,rfl,rfl⟩ (run _ _ _ _ hsz h0 h1) ?_ (fun k hk=> hn k (by simpa[Ad] using hk))
   rw[BV,hse,Nat.mul_one,Nat.zero_add]
   exact .ptr t n.toNat b hb
  ·cases he
end
section
variable {P:Program} {D:Nat→TI} {S N0:Nat→Prop} {B:Nat} {w0:W0} {ρ:BI} {σ:AS} {a:Act} {w:World}
def E8 (w:World) (im:Nat→Prop) (ρ:BI) (xs:List AV) (vs:List Value):Prop:=vs.length=xs.length∧∀(i:Nat) x v,xs[i]? =some x→vs[i]? =some v→Rel w im ρ x v
theorem E8.at_ {w:World} {im:Nat→Prop} {ρ:BI} {xs:List AV} {vs:List Value} (h:E8 w im ρ xs vs) {i:Nat} {x:AV} (hx:xs[i]? =some x):∃v,vs[i]? =some v∧Rel w im ρ x v:=by
 have hlt:i < vs.length:=by rw[h.1];exact (List.getElem?_eq_some_iff.1 hx).1
 exact ⟨vs[i],by simp[hlt],h.2 i x _ hx (by simp[hlt])⟩
theorem JL {im:Nat→Prop} {n:Nat} {d m:Int} {o:Option Operand} {ρ':Operand→Value} {xs:List AV} {vs:List Value} (hr:E8 w im ρ xs vs) (hb:bound n d o xs=some m) (hv:∀x,o=some x→vs[n]? =some (ρ' x)):
  (o.map ρ'=none∧m=d)∨∃k,o.map ρ'=some (.int k m):=by
 cases o with
 | none=> simp[bound] at hb;exact .inl ⟨rfl,hb.symm⟩
 | some x=>
  simp only[bound] at hb
  split at hb
  ·rename_i k m' hx
   cases hb
   obtain ⟨v,hv',hrel⟩:=hr.at_ hx
   rw[hv x rfl] at hv'
   cases hv'
   exact .inr ⟨k,by rw[Option.map_some,hrel.int_]⟩
  ·cases hb
theorem VS (hT:Hu P D) (h:Cu D S N0 B w0 ρ σ a w) {bl:Nat→Option Be} (hbl:∀n x,bl n=some x→blk σ n=some x) {T:Nat} {x:Operand} {lo hi:Option Operand} {xs:List AV} {e:Ck}
  (hr:E8 w (Im S N0 B w ρ σ) ρ xs ((#[x]++lo.toArray++hi.toArray).toList.map a.eval)) (he:Ij D bl T lo hi xs=some e) (hp:e.pre):
  Fa P S N0 B ρ σ w (Instr.sliceAt T (a.eval x) (lo.map a.eval) (hi.map a.eval) none) e:=by
 have h0:((#[x]++lo.toArray++hi.toArray).toList.map a.eval)[0]? =some (a.eval x):=by simp
 have hl:∀y,lo=some y→((#[x]++lo.toArray++hi.toArray).toList.map a.eval)[1]? =some (a.eval y):=by rintro y rfl;simp
 have hh:∀y,hi=some y→((#[x]++lo.toArray++hi.toArray).toList.map a.eval)[if lo.isSome then 2 else 1]? =some (a.eval y):=by
  rintro y rfl
  cases lo <;> simp
 have hx0:Rel w (Im S N0 B w ρ σ) ρ (xs.getD 0 .junk) (a.eval x):=by
  have hlt:0 < xs.length:=by rw[←hr.1];simp
  exact hr.2 0 _ _ (by simp[List.getD_eq_getElem?_getD,hlt]) h0
 unfold Ij at he
 cases hk:(D T).k <;> simp only[hk] at he <;> try (cases he;done)
 case str=>
  split at he
  ·rename_i s hs
   rw[hs] at hx0
   have hv:=hx0.str_
   split at he
   ·rename_i l m hbl' hbh
    cases he
    simp only at hp
    obtain ⟨p1,p2,p3⟩:=hp
    obtain ⟨l,rfl⟩:=Int.eq_ofNat_of_zero_le p1
    obtain ⟨m,rfl⟩:=Int.eq_ofNat_of_zero_le (show 0≤m by omega)
    have q1:=JL hr hbl' hl
    have q2:=JL hr hbh hh
    have hrun:=RE (P:=P) (w:=w) T ⟨⟨s⟩⟩ l m (lo.map a.eval) (hi.map a.eval) (Hl hT hk) (by rcases q1 with ⟨q,q'⟩ | q;exact .inl ⟨q,by omega⟩;exact .inr q)
     (by rcases q2 with ⟨q,q'⟩ | q;exact .inl ⟨q,by have:(⟨⟨s⟩⟩:ByteArray).size=s.length:=rfl;omega⟩;exact .inr q) (by omega) (by have:(⟨⟨s⟩⟩:ByteArray).size=s.length:=rfl;omega)
    rw[S0] at hrun
    rw[hv]
    exact Fa.only ⟨rfl,rfl,rfl,rfl⟩ hrun (by simpa using Rel.str _) (by simp[Ad])
   ·cases he
  ·cases he
 case slice el=>
  split at he
  ·rename_i r hrw
   obtain ⟨sz,rs⟩:=r
   have hrel:=h.rows hbl hx0 hrw
   split at he
   ·rename_i l m hbl' hbh
    cases he
    simp only at hp hbh
    obtain ⟨⟨p1,p2,p3⟩,p4⟩:=hp
    obtain ⟨l,rfl⟩:=Int.eq_ofNat_of_zero_le p1
    obtain ⟨m,rfl⟩:=Int.eq_ofNat_of_zero_le (show 0≤m by omega)
    have q1:=JL hr hbl' hl
    have q2:=JL hr hbh hh
    obtain ⟨hu,hne,hpz⟩:=Cy hT hk
    generalize hv:a.eval x=v at hrel
    cases hrel with
    | sl sz rs A c b o val hc hm hA hrow hcell hval=>
    have hrun:=Zg (P:=P) (w:=w) T el A rs.length c l m (D el).n (lo.map a.eval) (hi.map a.eval) hu (J2 hT hne w) (by rcases q1 with ⟨q,q'⟩ | q;exact .inl ⟨q,by omega⟩;exact .inr q)
     (by rcases q2 with ⟨q,q'⟩ | q;exact .inl ⟨q,by omega⟩;exact .inr q) (by omega) (by omega)
    have hpc:=Rel.piece (s:=(D el).n) (l:=l) (h:=m) (Rel.sl sz rs A c b o val hc hm hA hrow hcell hval) (by omega) (by omega) (by rcases p4 with p4 | p4;exact .inl p4.symm;exact .inr (by omega))
    refine ⟨rfl,rfl,rfl,_,hrun,by simpa using hpc,by simp[Ad]⟩
   ·cases he
  ·cases he
theorem YG (hT:Hu P D) (h:Cu D S N0 B w0 ρ σ a w) {bl:Nat→Option Be} (hbl:∀n x,bl n=some x→blk σ n=some x) {T ty:Nat} {x:AV} {v:Value} {e:Ck}
  (hx:Rel w (Im S N0 B w ρ σ) ρ x v) (he:Lt D bl T x=some e):Fa P S N0 B ρ σ w (Builtin.len_ #[T] ty #[v]) e:=by
 unfold Lt at he
 split at he
 ·rename_i hk
  split at he
  ·rename_i l
   cases he
   rw[hx.str_]
   exact Fa.only ⟨rfl,rfl,rfl,rfl⟩ (v:=.int .i64 l.length) (by simp[Builtin.len_,run_underlying (Hl hT hk),goInt];rfl) (.int _ _) (by simp[Ad])
  ·cases he
 ·rename_i el hk
  split at he
  case h_2=>
   split at he
   case h_2=> cases he
   rename_i t _
   obtain ⟨d,hd,rfl⟩:=Option.map_eq_some_iff.1 he
   obtain ⟨e',sz,rs,cols,foc⟩:=d
   obtain ⟨_,_,_,_,_,A,c,g4,_⟩:=h.hp.blk t _ (hbl t _ (EY hd))
   cases hx
   rw[g4]
   exact Fa.only ⟨rfl,rfl,rfl,rfl⟩ (v:=.int .i64 rs.length) (by simp[Builtin.len_,run_underlying (Cy hT hk).1,goInt]) (.int _ _) (by simp[Ad])
  rename_i r hr
  cases he
  obtain ⟨sz,rs⟩:=r
  have hrel:=h.rows hbl hx hr
  clear hx
  cases hrel with
  | sl sz rs A c b o val hc hm hA hrow hcell hval=>
  exact Fa.only ⟨rfl,rfl,rfl,rfl⟩ (v:=.int .i64 rs.length) (by simp[Builtin.len_,run_underlying (Cy hT hk).1,goInt]) (.int _ _) (by simp[Ad])
 ·cases he
theorem P0 {k:K} (h:QC k=true):k=.int .u8:=by
 cases k with
 | int k=> cases k <;> simp[QC] at h;rfl
 | _=> simp[QC] at h
theorem Lp (hT:Hu P D) (h:Cu D S N0 B w0 ρ σ a w) {bl:Nat→Option Be} (hbl:∀n x,bl n=some x→blk σ n=some x) {R T el sz:Nat} {rs:List (List AV)} {x:AV} {v:Value}
  (hk2:(D R).k=.slice el) (hk:(D T).k=.str) (hk3:(D el).k=.int .u8) (hx:Rel w (Im S N0 B w ρ σ) ρ x v) (hr:Hf bl x=some (sz,rs)) (hp:isB rs):(convert R T v).run P w=.ok (.string ⟨⟨Cb rs⟩⟩) w:=by
 have hrel:=h.rows hbl hx hr
 obtain ⟨hu,hne,hpz⟩:=Cy hT hk2
 have hu8:=JJ hT hk3
 have hd:=Hl hT hk
 unfold isB at hp
 generalize hbo:Cb rs=l at *
 subst hp
 clear hx
 cases hrel with
 | sl sz rs A c b o val hc hm hA hrow hcell hval=>
 have hl:(l.map Ac).length=l.length:=by simp
 rw[hl]
 cases A with
 | none=>
  have:l=[]:=by
   cases l with
   | nil=> rfl
   | cons x r=> have:=(hA (by simp)).1;cases this
  subst this
  exact run_convert_bytes_nil w R el hu hu8 _ _ T hd
 | some ad=>
  have hcell':∀j (hj:j < l.length),w.cell? (ad.add j)=some (.int .u8 (l[j].toNat:Int)):=by
   intro j hj
   obtain ⟨hA1,hA2⟩:=hA (by simp;omega)
   cases hA1
   have hr1:(l.map Ac)[j]? =some (Ac l[j]):=by simp[hj]
   have hr2:(Ac l[j])[0]? =some (.int .u8 l[j].toNat):=rfl
   have hsz:sz=1:=by rw[←hrow j _ hr1];rfl
   have h1:=(hcell j 0 _ _ hr1 hr2).1
   have h2:=(hval j 0 _ _ hr1 hr2).int_
   rw[h2,hsz] at h1
   rw[BV]
   simpa using h1
  exact run_convert_bytes_back w R T el ad c l hu hu8 hd hcell'
theorem Vo (hT:Hu P D) {T:Nat} {l:List UInt8} {k:IntKind} {n:Int} (hk:(D T).k=.str) (h0:0≤n) (h1:n < l.length):
  (Instr.index T (.string ⟨⟨l⟩⟩) (.int k n)).run P w=.ok (.int .u8 (l.getD n.toNat 0).toNat) w:=by
 have hlt:n.toNat < l.length:=by omega
 have hg:(⟨⟨l⟩⟩:ByteArray)[n.toNat]? =some l[n.toNat]:=by
  have hs:n.toNat < (⟨⟨l⟩⟩:ByteArray).size:=hlt
  rw[getElem?_pos (⟨⟨l⟩⟩:ByteArray) n.toNat hs]
  rfl
 simp[Instr.index,asIntOf,run_underlying (Hl hT hk),h0,hg,List.getD_eq_getElem?_getD,hlt]
theorem IT {o:Nat} {new old:List AV} (h:o+new.length≤old.length):(GB o new old).length=old.length:=by simp[GB];omega
theorem F3 {o:Nat} {new old:List AV} (h:o+new.length≤old.length) (i:Nat):(GB o new old)[i]? =if o≤i∧i < o+new.length then new[i - o]? else old[i]?:=by
 unfold GB
 by_cases h1:i < o
 ·rw[if_neg (by omega),List.append_assoc,List.getElem?_append_left (by simp;omega),List.getElem?_take,if_pos h1]
 ·by_cases h2:i < o+new.length
  ·rw[if_pos (by omega),List.append_assoc,List.getElem?_append_right (by simp;omega),List.getElem?_append_left (by simp;omega)]
   congr 1
   simp;omega
  ·rw[if_neg (by omega),List.append_assoc,List.getElem?_append_right (by simp;omega),List.getElem?_append_right (by simp;omega),List.getElem?_drop]
   congr 1
   simp;omega
theorem Lw (off:Nat):∀(vs:List Value) (k:Nat) (cs:Array Value),off+k+vs.length≤cs.size→
  ((vs.zipIdx k).foldl (fun cs (c,j)=> cs.setIfInBounds (off+j) c) cs).size=cs.size∧
  ∀i,((vs.zipIdx k).foldl (fun cs (c,j)=> cs.setIfInBounds (off+j) c) cs)[i]? =if off+k≤i∧i < off+k+vs.length then vs[i - (off+k)]? else cs[i]?
 | [],k,cs,h=> by
  refine ⟨rfl,fun i=> ?_⟩
  simp only[List.zipIdx_nil,List.foldl_nil,List.length_nil,Nat.add_zero]
  rw[if_neg (by omega)]
 | v::r,k,cs,h=> by
  simp only[List.length_cons] at h
  obtain ⟨h1,h2⟩:=Lw off r (k+1) (cs.setIfInBounds (off+k) v) (by rw[Array.size_setIfInBounds];omega)
  rw[List.zipIdx_cons,List.foldl_cons]
  refine ⟨by rw[h1];simp,fun i=> ?_⟩
  rw[h2 i]
  by_cases e:i=off+k
  ·subst e
   rw[if_neg (by omega),if_pos (by simp),Nat.sub_self,List.getElem?_cons_zero,Array.getElem?_setIfInBounds_self_of_lt (by omega)]
  ·by_cases e2:off+(k+1)≤i∧i < off+(k+1)+r.length
   ·rw[if_pos e2,if_pos (by simp;omega)]
    have:i - (off+k)=(i - (off+(k+1)))+1:=by omega
    rw[this,List.getElem?_cons_succ]
   ·rw[if_neg e2,if_neg (by simp;omega),Array.getElem?_setIfInBounds_ne (by omega)]
def PI (w:World) (im:Nat→Prop) (ρ:BI) (cs:List AV) (vs:Array Value):Prop:=
 vs.size=cs.length∧∀(i:Nat) x v,cs[i]? =some x→vs[i]? =some v→v.oneCell'=true∧Rel w im ρ x v
theorem Fx {w:World} {im:Nat→Prop} {ρ:BI} {x:AV} {v:Value} (h:Rel w im ρ x v) (hg:Rz x=true):PI w im ρ (cellsOf x) v.cells:=by
 have one:∀{y:AV} {u:Value},Rel w im ρ y u→u.oneCell'=true→u.cells=#[u]→cellsOf y=[y]→PI w im ρ (cellsOf y) u.cells:=by
  intro y u h1 h2 h3 h4
  rw[h3,h4]
  refine ⟨rfl,fun i z v hz hv=> ?_⟩
  cases i with
  | zero=> simp at hz hv;subst hz hv;exact ⟨h2,h1⟩
  | succ i=> simp at hz
 cases h with
 | junk v=> cases hg
 | int k n=> exact one (.int k n) rfl rfl rfl
 | bool b=> exact one (.bool b) rfl rfl rfl
 | str l=> exact one (.str l) rfl rfl rfl
 | nils=> exact one .nils rfl rfl rfl
 | sl sz rs A c b o val hc hm hA hrow hcell hval=> exact one (.sl sz rs A c b o val hc hm hA hrow hcell hval) rfl rfl rfl
 | os t=> exact one (.os t) rfl rfl rfl
 | ptr v off b h=> exact one (.ptr v off b h) rfl rfl rfl
 | iptr cs b o val hb hcell hval=> exact one (.iptr cs b o val hb hcell hval) rfl rfl rfl
 | eptr t i off b h=> exact one (.eptr t i off b h) rfl rfl rfl
 | lsl n A c hc hm=> exact one (.lsl n A c hc hm) rfl rfl rfl
 | imap es b c arr hb ho he=> exact one (.imap es b c arr hb ho he) rfl rfl rfl
 | nilp=> exact one .nilp rfl rfl rfl
 | ifc b v h=> cases hg
 | tsl t i b A' h hA=> exact one (.tsl t i b A' h hA) rfl rfl rfl
 | psl t n c b h hc hm=> exact one (.psl t n c b h hc hm) rfl rfl rfl
 | func f cs vs hl hval=> exact one (.func f cs vs hl hval) rfl rfl rfl
 | agg cs vs hl h1 hval=> exact ⟨hl,fun i x v hx hv=> ⟨h1 i v hv,hval i x v hx hv⟩⟩
 | tup cs vs hl hval=> cases hg
 | opt g x v h1 h2=> cases hg
end
section
variable {P:Program} {D:Nat→TI} {S N0:Nat→Prop} {B:Nat} {w0:W0} {ρ:BI} {σ:AS} {a:Act} {w:World}
def BQ (w:World) (im:Nat→Prop) (ρ:BI) (sz:Nat) (rs:List (List AV)) (vs:List Value):Prop:=
 vs.length=rs.length*sz∧∀(i:Nat) row,rs[i]? =some row→row.length=sz∧∀(j:Nat) x,row[j]? =some x→Ad x=[]∧∃v,vs[i*sz+j]? =some v∧v.oneCell'=true∧Rel w im ρ x v
theorem WF {n i j sz:Nat} (hi:i < n) (hj:j < sz):i*sz+j < n*sz:=by
 have:(i+1)*sz≤n*sz:=Nat.mul_le_mul_right _ hi
 rw[Nat.add_mul] at this
 omega
theorem BQ.append {im:Nat→Prop} {sz:Nat} {rs qs:List (List AV)} {xs ys:List Value} (h:BQ w im ρ sz rs xs) (k:BQ w im ρ sz qs ys):BQ w im ρ sz (rs++qs) (xs++ys):=by
 refine ⟨by rw[List.length_append,List.length_append,h.1,k.1,Nat.add_mul],fun i row hi=> ?_⟩
 by_cases hlt:i < rs.length
 ·rw[List.getElem?_append_left hlt] at hi
  refine ⟨(h.2 i row hi).1,fun j x hj=> ?_⟩
  obtain ⟨h1,v,h2,h3,h4⟩:=(h.2 i row hi).2 j x hj
  exact ⟨h1,v,by rw[List.getElem?_append_left (List.getElem?_eq_some_iff.1 h2).1];exact h2,h3,h4⟩
 ·rw[List.getElem?_append_right (by omega)] at hi
  refine ⟨(k.2 _ row hi).1,fun j x hj=> ?_⟩
  obtain ⟨h1,v,h2,h3,h4⟩:=(k.2 _ row hi).2 j x hj
  refine ⟨h1,v,?_,h3,h4⟩
  have hm:i*sz=rs.length*sz+(i - rs.length)*sz:=by rw[←Nat.add_mul];congr 1;omega
  rw[List.getElem?_append_right (by rw[h.1];omega),h.1]
  rw[←h2]
  congr 1
  omega
theorem BQ.nil {im:Nat→Prop} {sz:Nat}:BQ w im ρ sz [] []:=⟨by simp,by simp⟩
theorem BQ.mono {w':World} {im im':Nat→Prop} {ρ':BI} {sz:Nat} {rs:List (List AV)} {vs:List Value} (h:BQ w im ρ sz rs vs) (him:∀b,im b→im' b) (hw:∀b,im b→w'.heap[b]? =w.heap[b]?):BQ w' im' ρ' sz rs vs:=
 ⟨h.1,fun i row hi=> ⟨(h.2 i row hi).1,fun j x hj=> by
  obtain ⟨h1,v,h2,h3,h4⟩:=(h.2 i row hi).2 j x hj
  exact ⟨h1,v,h2,h3,h4.mono him hw fun n hn=> by rw[h1] at hn;cases hn⟩⟩⟩
theorem Rel.flat {im:Nat→Prop} {sz:Nat} {rs:List (List AV)} {A:Option Addr} {n c:Nat} (h:Rel w im ρ (.sl sz rs) (.slice A n c)) (hpos:0 < sz):
  n=rs.length∧∃vs,BQ w im ρ sz rs vs∧(∀u∈vs,u.oneCell'=true)∧(0 < rs.length→∃ad,A=some ad∧∀j u,vs[j]? =some u→w.cell? (ad.add j)=some u):=by
 cases h with
 | sl sz rs A c b o val hc hm hA hrow hcell hval=>
 have key:∀k,k < rs.length*sz→∃row x,rs[k/sz]? =some row∧row[k%sz]? =some x:=by
  intro k hk
  have h1:k/sz < rs.length:=Nat.div_lt_of_lt_mul (by rw[Nat.mul_comm];exact hk)
  refine ⟨rs[k/sz],?_⟩
  have h2:=hrow (k/sz) rs[k/sz] (by simp[h1])
  have h3:k%sz < (rs[k/sz]).length:=by rw[h2];exact Nat.mod_lt _ hpos
  exact ⟨(rs[k/sz])[k%sz],by simp[h1],by simp[h3]⟩
 refine ⟨rfl,(List.range (rs.length*sz)).map fun k=> val (k/sz) (k%sz),⟨by simp,fun i row hi=> ⟨hrow i row hi,fun j x hj=> ?_⟩⟩,fun u hu=> ?_,fun hp=> ?_⟩
 ·have hj':j < sz:=by rw[←hrow i row hi];exact (List.getElem?_eq_some_iff.1 hj).1
  have hi':=(List.getElem?_eq_some_iff.1 hi).1
  have hlt:=WF hi' hj'
  have e1:(i*sz+j)/sz=i:=by rw[Nat.mul_comm,Nat.mul_add_div hpos,Nat.div_eq_of_lt hj',Nat.add_zero]
  have e2:(i*sz+j)%sz=j:=by rw[Nat.mul_comm,Nat.mul_add_mod,Nat.mod_eq_of_lt hj']
  refine ⟨(hcell i j row x hi hj).2.2,val i j,?_,(hcell i j row x hi hj).2.1,hval i j row x hi hj⟩
  simp[hlt,e1,e2]
 ·obtain ⟨k,hk,rfl⟩:=List.mem_map.1 hu
  obtain ⟨row,x,h1,h2⟩:=key k (by simpa using hk)
  exact (hcell _ _ row x h1 h2).2.1
 ·obtain ⟨rfl,hb⟩:=hA hp
  refine ⟨_,rfl,fun k u hu=> ?_⟩
  rw[List.getElem?_map] at hu
  obtain ⟨k',hk',rfl⟩:=Option.map_eq_some_iff.1 hu
  have hk:=(List.getElem?_eq_some_iff.1 hk').1
  simp at hk
  have:k'=k:=by simpa[hk] using hk'.symm
  subst this
  obtain ⟨row,x,h1,h2⟩:=key k' hk
  rw[BV]
  have:=(hcell _ _ row x h1 h2).1
  rwa [Nat.div_add_mod'] at this
theorem Fv.owns {im:Nat→Prop} {t e sz:Nat} {rs:List (List AV)} (h:Fv D w im ρ t (.rows e sz rs)):∃xs,w.ownsRow 0 e sz (ρ t).sv rs.length xs∧BQ w im ρ sz rs xs:=by
 obtain ⟨h1,h2,h2',A,c,h3,h4,h5,h6⟩:=h
 rw[h3]
 rcases h6 with ⟨rfl,rfl,rfl,_⟩ | ⟨b,arr,hb,rfl,hh,hsz,hr⟩
 ·exact ⟨[],⟨by simp,.inl ⟨rfl,rfl⟩⟩,.nil⟩
 ·have hle:rs.length*sz≤arr.size:=by rw[hsz];exact Nat.mul_le_mul_right _ h4
  have hlen:(arr.toList.take (rs.length*sz)).length=rs.length*sz:=by simp;omega
  refine ⟨arr.toList.take (rs.length*sz),⟨hlen,.inr ⟨b,c,arr,rfl,Nat.zero_le _,hh,h4,h5,hsz,rfl⟩⟩,hlen,fun i row hi=> ⟨(hr i row hi).1,fun j x hj=> ?_⟩⟩
  obtain ⟨q1,v,q2,q3,q4⟩:=(hr i row hi).2 j x hj
  refine ⟨q1,v,?_,q3,q4⟩
  have hj':j < sz:=by rw[←(hr i row hi).1];exact (List.getElem?_eq_some_iff.1 hj).1
  have hi':=(List.getElem?_eq_some_iff.1 hi).1
  rw[List.getElem?_take,if_pos (WF hi' hj')]
  simpa using q2
theorem Fv.of_owns {w:World} {im:Nat→Prop} {ρ:BI} {t e sz base:Nat} {rs:List (List AV)} {v:Value} {xs:List Value} (h:w.ownsRow base e sz v rs.length xs) (hf:BQ w im ρ sz rs xs) (hsz:0 < sz) (hD:sz=(D e).n)
  (hρ:∃A c,v=.slice A rs.length c∧ρ t=⟨v.ownBlock,A,rs.length,c,sz,fun _=> none⟩):Fv D w im ρ t (.rows e sz rs):=by
 obtain ⟨A,c,hv,hρt⟩:=hρ
 rcases h.2 with ⟨hv',hn⟩ | ⟨g,cap,cur,hv',hb,hg,h1,h2,h3,h4⟩
 ·rw[hv] at hv'
  have hrs:rs=[]:=List.eq_nil_of_length_eq_zero hn
  subst hrs
  injection hv' with e1 e2 e3
  subst e1 e3
  exact ⟨by rw[hρt],hsz,hD,none,0,by rw[hρt];rfl,Nat.le_refl _,Nat.zero_le _,.inl ⟨rfl,rfl,rfl,by rw[hρt,hv];rfl⟩⟩
 ·rw[hv] at hv'
  cases hv'
  refine ⟨by rw[hρt],hsz,hD,_,c,by rw[hρt];rfl,h1,h2,.inr ⟨g,cur,by rw[hρt,hv];rfl,rfl,hg,h3,fun i row hi=> ⟨(hf.2 i row hi).1,fun j x hj=> ?_⟩⟩⟩
  obtain ⟨q1,u,q2,q3,q4⟩:=(hf.2 i row hi).2 j x hj
  refine ⟨q1,u,?_,q3,q4⟩
  rw[←h4,List.getElem?_take] at q2
  split at q2
  ·simpa using q2
  ·cases q2
def Ib (D:Nat→TI) (w:World) (im:Nat→Prop) (ρ:BI) (h:Nat→Option Nat) (sz:Nat) (rs:List (List AV)) (cols:List (Nat×Nat×Nat)) (vs:List Value):Prop:=
 vs.length=rs.length*sz∧∀(i:Nat) row,rs[i]? =some row→row.length=sz∧∀(j:Nat) x,row[j]? =some x→Ad x=[]∧∃v,vs[i*sz+j]? =some v∧v.oneCell'=true∧GU D w im ρ (h (i*sz+j)) (Id cols j) x v
def P5 (ρ:BI) (sz:Nat) (rs:List (List AV)) (foc:List (Nat×Nat×Nat)) (vs:List Value):Prop:=
 ∀i j m,(i,j,m)∈foc→∀row x,rs[i]? =some row→row[j]? =some x→vs[i*sz+j]? =some (ρ m).sv
theorem Fv.ownsD {D:Nat→TI} {w:World} {im:Nat→Prop} {ρ:BI} {t e sz:Nat} {rs:List (List AV)} {cols foc:List (Nat×Nat×Nat)} (h:Fv D w im ρ t (.deep e sz rs cols foc)):
  ∃xs,w.ownsRow 0 e sz (ρ t).sv rs.length xs∧Ib D w im ρ (ρ t).h sz rs cols xs∧P5 ρ sz rs foc xs∧J4 rs.length foc:=by
 obtain ⟨h1,h2,h2',h0,hI,A,c,h3,h4,h5,h6⟩:=h
 rw[h3]
 rcases h6 with ⟨rfl,rfl,rfl,_⟩ | ⟨b,arr,hb1,rfl,hh,hsz,hr,hf⟩
 ·exact ⟨[],⟨by simp,.inl ⟨rfl,rfl⟩⟩,⟨by simp,by simp⟩,by simp[P5],hI⟩
 ·have hle:rs.length*sz≤arr.size:=by rw[hsz];exact Nat.mul_le_mul_right sz h4
  have hlen:(arr.toList.take (rs.length*sz)).length=rs.length*sz:=by simp;omega
  have get:∀(i j:Nat) row x,rs[i]? =some row→row[j]? =some x→(arr.toList.take (rs.length*sz))[i*sz+j]? =arr[i*sz+j]?:=fun i j row x hi hj=> by
   have hj':j < sz:=by rw[←(hr i row hi).1];exact (List.getElem?_eq_some_iff.1 hj).1
   have hi':=(List.getElem?_eq_some_iff.1 hi).1
   rw[List.getElem?_take,if_pos (WF hi' hj')]
   simp
  refine ⟨arr.toList.take (rs.length*sz),⟨hlen,.inr ⟨b,c,arr,rfl,Nat.zero_le _,hh,h4,h5,hsz,rfl⟩⟩,⟨hlen,fun i row hi=> ⟨(hr i row hi).1,fun j x hj=> ?_⟩⟩,fun i j m hm row x hi hj=> ?_,hI⟩
  ·obtain ⟨q1,v,q2,q3,q4⟩:=(hr i row hi).2 j x hj
   exact ⟨q1,v,by rw[get i j row x hi hj];exact q2,q3,q4⟩
  ·rw[get i j row x hi hj]
   exact hf i j m hm row x hi hj
theorem Fv.of_ownsD {D:Nat→TI} {w:World} {im:Nat→Prop} {ρ:BI} {t e sz base:Nat} {rs:List (List AV)} {cols foc:List (Nat×Nat×Nat)} {v:Value} {xs:List Value} {h:Nat→Option Nat} (ho:w.ownsRow base e sz v rs.length xs) (hf:Ib D w im ρ h sz rs cols xs) (hfo:P5 ρ sz rs foc xs) (hI:J4 rs.length foc) (hsz:0 < sz) (hD:sz=(D e).n)
  (hρ:∃A c,v=.slice A rs.length c∧ρ t=⟨v.ownBlock,A,rs.length,c,sz,h⟩) (hh:UG w (ρ t)):Fv D w im ρ t (.deep e sz rs cols foc):=by
 obtain ⟨A,c,hv,hρt⟩:=hρ
 rcases ho.2 with ⟨hv',hn⟩ | ⟨g,cap,cur,hv',hb,hg,h1,h2,h3,h4⟩
 ·rw[hv] at hv'
  have hrs:rs=[]:=List.eq_nil_of_length_eq_zero hn
  subst hrs
  injection hv' with e1 e2 e3
  subst e1 e3
  exact ⟨by rw[hρt],hsz,hD,hh,hI,none,0,by rw[hρt];rfl,Nat.le_refl _,Nat.zero_le _,.inl ⟨rfl,rfl,rfl,by rw[hρt,hv];rfl⟩⟩
 ·rw[hv] at hv'
  cases hv'
  have get:∀(i:Nat) (u:Value),xs[i]? =some u→cur[i]? =some u:=fun i u hu=> by
   rw[←h4,List.getElem?_take] at hu
   split at hu
   ·simpa using hu
   ·cases hu
  refine ⟨by rw[hρt],hsz,hD,hh,hI,_,c,by rw[hρt];rfl,h1,h2,.inr ⟨g,cur,by rw[hρt,hv];rfl,rfl,hg,h3,fun i row hi=> ⟨(hf.2 i row hi).1,fun j x hj=> ?_⟩,fun i j m hm row x hi hj=> get _ _ (hfo i j m hm row x hi hj)⟩⟩
  obtain ⟨q1,u,q2,q3,q4⟩:=(hf.2 i row hi).2 j x hj
  exact ⟨q1,u,get _ _ q2,q3,by rw[hρt];exact q4⟩
def BI.set (ρ:BI) (n:Nat) (i:NI):BI:=fun m=> if m=n then i else ρ m
theorem BI.set_eq {ρ:BI} {n:Nat} {i:NI}:(ρ.set n i) n=i:=by simp[BI.set]
theorem BI.set_ne {ρ:BI} {n m:Nat} {i:NI} (h:m≠n):(ρ.set n i) m=ρ m:=by simp[BI.set,h]
theorem Cu.new1 (h:Cu D S N0 B w0 ρ σ a w) {w':World} {n:Nat} {y:Be} {i:NI} {ks:List Nat} (hn:blk σ n=none) (o1:w'.os=w.os) (o2:w'.tape=w.tape) (o3:w'.output=w.output) (o4:w.heap.size≤w'.heap.size)
  (c2:∀b,b < w.heap.size→(∀k x,k∈ks→blk σ k=some x→¬owns ρ k x b)→w'.heap[b]? =w.heap[b]?)
  (hb:∀b,owns (ρ.set n i) n y b→(w.heap.size≤b∨∃k x,k∈ks∧blk σ k=some x∧owns ρ k x b)∧b < w'.heap.size)
  (hy:∀im':Nat→Prop,(∀b,Im S N0 B w ρ σ b→im' b)→(∀b,Im S N0 B w ρ σ b→w'.heap[b]? =w.heap[b]?)→Fv D w' im' (ρ.set n i) n y)
  (hcl:∀m∈Em y,(blk σ m).isSome=true∧m∉ks):
  Cu D S N0 B w0 (ρ.set n i) (Bv σ ks [(n,y)] []) a w'∧∀b,Im S N0 B w ρ σ b→Im S N0 B w' (ρ.set n i) (Bv σ ks [(n,y)] []) b∧w'.heap[b]? =w.heap[b]?:=by
 have hget:get n [(n,y)]=some y:=by simp[get]
 have hne:∀m,(blk σ m).isSome=true→m≠n:=by
  rintro m hm rfl
  rw[hn] at hm;cases hm
 have hw:∀b,Im S N0 B w ρ σ b→w'.heap[b]? =w.heap[b]?:=fun b hb=> c2 b hb.1 fun k x _ hx hb'=> hb.2.2 k x hx hb'
 refine h.step (ks:=ks) (nw:=[(n,y)]) (up:=[]) o1 o2 o3 o4 (fun b hlt hk=> c2 b hlt fun k x hk' hx=> hk k x (.inl hk') hx) (fun m hm _=> BI.set_ne (hne m hm)) (fun m hm=> ?_) (fun m hm=> by simp[AF] at hm) (fun him m z hz=> ?_) (fun m z b hm hb'=> ?_) (fun m k z z' b hm hk _ _=> ?_) (fun m z z' b hm=> by simp[get] at hm)
 ·simp[AF] at hm;subst hm;exact hn
 ·have e:m=n∧z=y:=by
   rcases hz with hz | ⟨_,hz⟩
   ·simp only[get] at hz
    split at hz
    ·rename_i e;exact ⟨e.symm,(Option.some.inj hz).symm⟩
    ·cases hz
   ·simp[get] at hz
  obtain ⟨rfl,rfl⟩:=e
  refine ⟨hy _ him hw,fun k hk=> ?_⟩
  obtain ⟨q1,q2⟩:=hcl k hk
  rw[BW]
  split
  ·rfl
  ·simp only[get]
   rw[if_neg q2]
   simpa using q1
 ·have e:n=m∧y=z:=by simpa[get] using hm
  obtain ⟨rfl,rfl⟩:=e
  exact hb b hb'
 ·have e:n=m∧y=z:=by simpa[get] using hm
  have e':n=k∧y=z':=by simpa[get] using hk
  rw[←e.1,←e'.1]
theorem F0 {h:Array Obj} {o:Obj} {b:Nat} (hb:b < h.size):(h.push o)[b]? =h[b]?:=by
 rw[Array.getElem?_push,if_neg (by omega)]
theorem Cu.newCells (h:Cu D S N0 B w0 ρ σ a w) {n:Nat} {cs:List AV} {arr:Array Value} {T:TypeId} (hn:blk σ n=none) (hc:PI w (Im S N0 B w ρ σ) ρ cs arr) (hcl:∀m∈Af cs,(blk σ m).isSome=true):
  Cu D S N0 B w0 (ρ.set n ⟨some w.heap.size,none,0,0,0,fun _=> none⟩) (Bv σ [] [(n,.cells cs)] []) a (w.alloc (.cells arr T))∧
   ∀b,Im S N0 B w ρ σ b→Im S N0 B (w.alloc (.cells arr T)) (ρ.set n ⟨some w.heap.size,none,0,0,0,fun _=> none⟩) (Bv σ [] [(n,.cells cs)] []) b∧(w.alloc (.cells arr T)).heap[b]? =w.heap[b]?:=by
 refine h.new1 hn rfl rfl rfl (by simp) (fun b hb _=> F0 hb) (fun b hb=> ?_) (fun im' him hw=> ?_) (fun m hm=> ?_)
 ·have hb:((ρ.set n ⟨some w.heap.size,none,0,0,0,fun _=> none⟩) n).b=some b:=hb
  rw[BI.set_eq] at hb
  cases hb
  exact ⟨.inl (Nat.le_refl _),by simp⟩
 ·refine ⟨w.heap.size,arr,T,by rw[BI.set_eq],heap_alloc_new w _,hc.1,fun i x v hx hv=> ⟨(hc.2 i x v hx hv).1,(hc.2 i x v hx hv).2.mono him hw fun m hm=> ?_⟩⟩
  refine BI.set_ne ?_
  rintro rfl
  have:=hcl m (AY hx hm)
  rw[hn] at this;cases this
 ·exact ⟨hcl m hm,by simp⟩
theorem Cu.newRows (hT:Hu P D) (h:Cu D S N0 B w0 ρ σ a w) {w':World} {n e:Nat} {rs:List (List AV)} {v:Value} {vs:List Value} {ks:List Nat} {row:Option Nat} (hn:blk σ n=none) (hpos:0 < (D e).n)
  (hown:w'.ownsRow 0 e (D e).n v rs.length vs) (hf:BQ w (Im S N0 B w ρ σ) ρ (D e).n rs vs) (hg:w.grownBy w' row)
  (hrow:∀b,row=some b→∃k x,k∈ks∧blk σ k=some x∧(ρ k).b=some b)
  (hv:∀b,v.ownBlock=some b→(row=some b∨w.heap.size≤b)):
  ∃i:NI,i.sv=v∧Cu D S N0 B w0 (ρ.set n i) (Bv σ ks [(n,.rows e (D e).n rs)] []) a w'∧
   ∀b,Im S N0 B w ρ σ b→Im S N0 B w' (ρ.set n i) (Bv σ ks [(n,.rows e (D e).n rs)] []) b∧w'.heap[b]? =w.heap[b]?:=by
 have hsl:∃A c,v=.slice A rs.length c:=by
  rcases hown.2 with ⟨rfl,h0⟩ | ⟨g,cap,cur,rfl,_⟩
  ·exact ⟨none,0,by rw[h0]⟩
  ·exact ⟨_,_,rfl⟩
 obtain ⟨A,c,rfl⟩:=hsl
 refine ⟨⟨Value.ownBlock (.slice A rs.length c),A,rs.length,c,(D e).n,fun _=> none⟩,rfl,h.new1 hn hg.os hg.tape hg.output hg.size (fun b hb hk=> hg.block b hb ?_) (fun b hb=> ⟨?_,?_⟩) (fun im' him hw=> ?_) (fun m hm=> by cases hm)⟩
 ·rintro hr
  obtain ⟨k,x,h1,h2,h3⟩:=hrow b hr.symm
  exact hk k x h1 h2 (Ew h3)
 ·have hb:((ρ.set n ⟨Value.ownBlock (.slice A rs.length c),A,rs.length,c,(D e).n,fun _=> none⟩) n).b=some b:=hb
  rw[BI.set_eq] at hb
  rcases hv b hb with h1 | h1
  ·obtain ⟨k,x,q1,q2,q3⟩:=hrow b h1
   exact .inr ⟨k,x,q1,q2,Ew q3⟩
  ·exact .inl h1
 ·have hb:((ρ.set n ⟨Value.ownBlock (.slice A rs.length c),A,rs.length,c,(D e).n,fun _=> none⟩) n).b=some b:=hb
  rw[BI.set_eq] at hb
  have hb':Value.ownBlock (.slice A rs.length c)=some b:=hb
  rcases hown.2 with ⟨hv',_⟩ | ⟨g,cap,cur,hv',_,hgg,_⟩
  ·rw[hv'] at hb'
   simp[Value.ownBlock] at hb'
  ·rw[hv'] at hb'
   simp[Value.ownBlock] at hb'
   subst hb'
   exact (Array.getElem?_eq_some_iff.1 hgg).1
 ·exact Fv.of_owns (v:=.slice A rs.length c) hown (hf.mono him hw) hpos rfl ⟨A,c,rfl,by rw[BI.set_eq]⟩
theorem BQ.one {im:Nat→Prop} {sz:Nat} {rs:List (List AV)} {vs:List Value} (h:BQ w im ρ sz rs vs) (hpos:0 < sz):∀u∈vs,u.oneCell'=true:=by
 intro u hu
 obtain ⟨k,hk⟩:=List.getElem?_of_mem hu
 have hlt:=(List.getElem?_eq_some_iff.1 hk).1
 rw[h.1] at hlt
 have h1:k/sz < rs.length:=Nat.div_lt_of_lt_mul (by rw[Nat.mul_comm];exact hlt)
 have h2:=h.2 (k/sz) rs[k/sz] (by simp[h1])
 have h3:k%sz < (rs[k/sz]).length:=by rw[h2.1];exact Nat.mod_lt _ hpos
 obtain ⟨_,v,h4,h5,_⟩:=h2.2 (k%sz) _ (List.getElem?_eq_getElem h3)
 rw[Nat.div_add_mod'] at h4
 rw[h4] at hk
 cases hk
 exact h5
theorem Cu.tail (h:Cu D S N0 B w0 ρ σ a w) {bl:Nat→Option Be} (hbl:∀n x,bl n=some x→blk σ n=some x) {y:AV} {v:Value} {sz:Nat} {qs:List (List AV)}
  (hy:Rel w (Im S N0 B w ρ σ) ρ y v) (he:Hf bl y=some (sz,qs)) {s:Nat} (hs:sz=s∨qs=[]) (hpos:0 < s):
  ∃A c news,v=.slice A qs.length c∧BQ w (Im S N0 B w ρ σ) ρ s qs news∧(0 < qs.length→∃ad,A=some ad∧∀j u,news[j]? =some u→w.cell? (ad.add j)=some u):=by
 cases hy <;> simp[Hf] at he
 case nils=>
  obtain ⟨rfl,rfl⟩:=he
  exact ⟨none,0,[],rfl,.nil,by simp⟩
 case sl A c b o val hc hm hA hrow hcell hval=>
  obtain ⟨rfl,rfl⟩:=he
  rcases hs with rfl | rfl
  ·obtain ⟨_,vs,h1,h2,h3⟩:=Rel.flat (Rel.sl _ _ A c b o val hc hm hA hrow hcell hval) hpos
   exact ⟨A,c,vs,rfl,h1,h3⟩
  ·exact ⟨A,c,[],rfl,.nil,by simp⟩
 case os t=>
  obtain ⟨e,he⟩:=he
  have hb:bl t=some (.rows e sz qs):=by
   unfold A3 at he
   split at he
   ·rename_i q;rw[q];simp at he;obtain ⟨rfl,rfl,rfl⟩:=he;rfl
   ·cases he
  have hB:=h.hp.blk t _ (hbl t _ hb)
  obtain ⟨xs,hown,hf⟩:=hB.owns
  obtain ⟨h1,h2,h2',A,c,h3,h4,h5,h6⟩:=hB
  refine ⟨A,c,xs,h3,?_,fun hq=> ?_⟩
  ·rcases hs with rfl | rfl
   ·exact hf
   ·exact ⟨by simpa using hf.1,by simp⟩
  ·rw[h3] at hown
   rcases hown.2 with ⟨hv,hn⟩ | ⟨g,cap,cur,hv,_,hg,_,_,_,htake⟩
   ·omega
   ·injection hv with e1 e2 e3
    refine ⟨_,e1,fun j u hu=> ?_⟩
    rw[←htake,List.getElem?_take] at hu
    split at hu
    ·rw[BV,Nat.zero_add]
     unfold World.cell?
     rw[hg]
     simpa using hu
    ·cases hu
theorem I8 (t ty e:TypeId) (i:TypeInfo) (size base:Nat) (ht:P.underlying t=some (.slice e)) (hi:P.info? e=some i)
  (v:Value) (n:Nat) (xs:List Value) (hown:w.ownsRow base e size v n xs) (c:Nat):(Builtin.append_ #[t,t] ty #[v,.slice none 0 c]).run P w=.ok v w:=by
 rcases hown.2 with ⟨rfl,rfl⟩ | ⟨g,cap,cur,rfl,_,_,hnc,_⟩
 ·simp[Builtin.append_,run_underlying ht,sizeOf,typeInfo,hi,Builtin.lenOf,Builtin.firstCells]
 ·simp[Builtin.append_,run_underlying ht,sizeOf,typeInfo,hi,Builtin.lenOf,Builtin.firstCells,hnc,storeCells]
theorem PV (t u ty e:TypeId) (i:TypeInfo) (ht:P.underlying t=some (.slice e)) (hu:P.underlying u=some .string) (hi:P.info? e=some i) (hz:i.zero=some (.int .u8 0)) (hsize:i.size=1) (hby:i.bytes=1)
  (v:Value) (n:Nat) (xs:List Value) (hown:w.ownsRow 0 e 1 v n xs) (s:ByteArray) (hb:n+s.size≤1099511627776):
  ∃v' w',(Builtin.append_ #[t,u] ty #[v,.string s]).run P w=.ok v' w'∧w'.ownsRow 0 e 1 v' (n+s.size) (xs++Lib.strCells s)∧w.grownBy w' v.ownBlock∧∀b,v'.ownBlock=some b→(v.ownBlock=some b∨w.heap.size≤b):=by
 have hm:n+s.size≤maxLen:=Nat.le_trans hb (by decide)
 have hl:=Lib.run_append_own_string (P:=P) w 0 t u ty e i ht hu hi hz hsize hby v n xs hown s hm (Nat.le_trans hb (by decide)) (Nat.zero_le _)
 obtain ⟨v',w',h1,h2,h3,h4⟩:=hl
 refine ⟨v',w',h1,h2,h3,fun b hvb=> ?_⟩
 rcases hown.2 with ⟨rfl,rfl⟩ | ⟨g,cap,cur,rfl,_,hg,hnc,hcm,hcs,htake⟩
 ·-- nil: the new block lies behind
  have hown':w.ownsRow w.heap.size e 1 (.slice none 0 0) 0 xs:=⟨hown.1,.inl ⟨rfl,rfl⟩⟩
  obtain ⟨v2,w2,k1,k2,_,_⟩:=Lib.run_append_own_string (P:=P) w w.heap.size t u ty e i ht hu hi hz hsize hby _ 0 xs hown' s hm (Nat.le_trans hb (by decide)) (Nat.le_refl _)
  rw[h1] at k1
  cases k1
  rcases k2.2 with ⟨rfl,_⟩ | ⟨g,cap,cur,rfl,hbg,_⟩
  ·simp[Value.ownBlock] at hvb
  ·simp[Value.ownBlock] at hvb
   exact .inr (by omega)
 ·by_cases hroom:n+s.size≤cap
  ·have hr:=Lib.run_append_room_string (P:=P) w t u ty e i ht hu hi hsize g n cap cur hg s hroom (by omega)
   rw[h1] at hr
   cases hr
   exact .inl hvb
  ·have hc:∀j v,xs[j]? =some v→w.cell? ((⟨g,0,none⟩:Addr).add j)=some v:=by
    intro j v hj
    rw[←htake,List.getElem?_take] at hj
    split at hj
    ·rw[BV,Nat.zero_add]
     unfold World.cell?
     rw[hg]
     simpa using hj
    ·cases hj
   have hfit:Builtin.nextslicecap (n+s.size) cap*i.bytes≤281474976710656:=by
    rw[hby,Nat.mul_one]
    have:=nextslicecap_le (need:=n+s.size) (old:=cap) (by omega)
    omega
   have hr:=Lib.run_append_grow_string (P:=P) w t u ty e i _ ht hu hi hz ⟨g,0,none⟩ n cap xs (by rw[hsize];exact hown.1) hc s (by omega) (by omega) hfit
   rw[h1] at hr
   cases hr
   simp[Value.ownBlock] at hvb
   exact .inr (by omega)
def Sx (D:Nat→TI) (S N0:Nat→Prop) (B:Nat) (w0:W0) (σ:AS) (a:Act) (e:Ck) (v:Value) (w':World):Prop:=
 ∃ρ',Cu D S N0 B w0 ρ' (Bv (freeze σ e.fr) e.kl e.nw e.up) a w'∧Rel w' (Im S N0 B w' ρ' (Bv (freeze σ e.fr) e.kl e.nw e.up)) ρ' e.v v∧∀n∈Ad e.v,(blk (Bv (freeze σ e.fr) e.kl e.nw e.up) n).isSome=true
theorem CW {σ:AS} {ks:List Nat} {n:Nat} {y:Be}:blk (Bv σ ks [(n,y)] []) n=some y:=by
 rw[BW];simp[get]
theorem UM (h:Cu D S N0 B w0 ρ σ a w) {bl:Nat→Option Be} (hbl:∀n x,bl n=some x→blk σ n=some x) {e n:Nat} {x:AV} {u:Value} {r:List (List AV)} {oc:Option (List (Nat×Nat×Nat))} {foc:List (Nat×Nat×Nat)}
  (hx:Rel w (Im S N0 B w ρ σ) ρ x u) (hr:Xn e n bl x=some (r,oc,foc)):
  ∃(hh:Nat→Option Nat) (xs:List Value),w.ownsRow 0 e n u r.length xs∧(∀cols,(oc=none∨oc=some cols)→Ib D w (Im S N0 B w ρ σ) ρ hh n r cols xs)∧P5 ρ n r foc xs∧J4 r.length foc∧
   (∀b,u.ownBlock=some b→∃k z,k∈J3 x∧blk σ k=some z∧owns ρ k z b)∧(∀l b,hh l=some b→∃k z,k∈J3 x∧blk σ k=some z∧owns ρ k z b)∧
   (∀k b,hh k=some b→u.ownBlock≠some b∧b < w.heap.size)∧(∀k l b,hh k=some b→hh l=some b→k=l)∧∀m∈Gh foc,(blk σ m).isSome=true:=by
 cases hx <;> simp only[Xn] at hr <;> try (cases hr;done)
 case nils=>
  cases hr
  exact ⟨fun _=> none,[],⟨by simp,.inl ⟨rfl,rfl⟩⟩,fun _ _=> ⟨by simp,by simp⟩,by simp[P5],by simp[J4],by simp[Value.ownBlock],fun l b hl=> (by cases hl),fun l b hl=> (by cases hl),fun k l b hl=> (by cases hl),by simp[Gh]⟩
 case os t=>
  cases hdt:Fc bl t with
  | none=> rw[hdt] at hr;cases hr
  | some y=>
   obtain ⟨e',sz,rs,cols,foc'⟩:=y
   rw[hdt] at hr
   simp only at hr
   split at hr
   case isFalse=> cases hr
   rename_i hes
   obtain ⟨rfl,rfl⟩:=hes
   cases hr
   have hs:=hbl t _ (EY hdt)
   have hB:=h.hp.blk t _ hs
   obtain ⟨xs,h1,h2,h3,hI⟩:=hB.ownsD
   obtain ⟨_,_,_,h0,_,A,c,h4,_,_,h7⟩:=hB
   have hob:∀b,(ρ t).sv.ownBlock=some b→(ρ t).b=some b:=fun b hb=> by
    rw[h4] at hb
    rcases h7 with ⟨_,rfl,_,_⟩ | ⟨b',arr,hb',rfl,_⟩
    ·simp[Value.ownBlock] at hb
    ·simp[Value.ownBlock] at hb
     rw[hb',hb]
   refine ⟨(ρ t).h,xs,h1,fun cols' hc=> ?_,h3,hI,fun b hb=> ⟨t,_,by simp[J3],hs,.inl (hob b hb)⟩,fun l b hl=> ⟨t,_,by simp[J3],hs,.inr ⟨l,hl⟩⟩,fun k b hk=> ⟨fun he=> (h0.1 k b hk).1 (hob b he),(h0.1 k b hk).2⟩,h0.2,h.hp.clos t _ hs⟩
   rcases hc with hc | hc
   ·cases hc
   ·cases hc;exact h2
theorem QO {cols:List (Nat×Nat×Nat)} {x:AV}:∀{row:List AV} {j0 j:Nat},WS cols j0 row=true→row[j]? =some x→(Id cols (j0+j)).isNone=true∨Gw x=true∨QB x=true
 | [],_,_,_,h=> by simp at h
 | y::r,j0,0,h,hx=> by
  simp only[WS,Bool.and_eq_true,Bool.or_eq_true] at h
  simp only[List.getElem?_cons_zero,Option.some.injEq] at hx
  subst hx
  exact h.1
 | y::r,j0,j+1,h,hx=> by
  simp only[WS,Bool.and_eq_true] at h
  have:=QO h.2 (j:=j) (by simpa using hx)
  rwa [show j0+1+j=j0+(j+1) by omega] at this
theorem LC {cols:List (Nat×Nat×Nat)} {row:List AV}:∀{rs:List (List AV)} {i:Nat},QP cols rs=true→rs[i]? =some row→WS cols 0 row=true
 | [],_,_,h=> by simp at h
 | y::r,0,h,hx=> by
  simp only[QP,Bool.and_eq_true] at h
  simp only[List.getElem?_cons_zero,Option.some.injEq] at hx
  subst hx
  exact h.1
 | y::r,i+1,h,hx=> by
  simp only[QP,Bool.and_eq_true] at h
  exact LC h.2 (i:=i) (by simpa using hx)
theorem GU.of_rel {D:Nat→TI} {w:World} {im:Nat→Prop} {ρ:BI} {hb:Option Nat} {col:Option (Nat×Nat)} {x:AV} {v:Value} (h:Rel w im ρ x v) (hp:col.isNone=true∨Gw x=true∨QB x=true):GU D w im ρ hb col x v:=by
 unfold GU
 split
 ·rcases hp with hp | hp | hp <;> cases hp
 ·exact h
theorem GU.rel {D:Nat→TI} {w:World} {im:Nat→Prop} {ρ:BI} {hb:Option Nat} {col:Option (Nat×Nat)} {x:AV} {v:Value} (h:GU D w im ρ hb col x v) (hp:col.isNone=true∨Gw x=true∨QB x=true):Rel w im ρ x v:=by
 unfold GU at h
 split at h
 ·rcases hp with hp | hp | hp <;> cases hp
 ·exact h
theorem Ib.one {D:Nat→TI} {w:World} {im:Nat→Prop} {ρ:BI} {hh:Nat→Option Nat} {sz:Nat} {rs:List (List AV)} {cols:List (Nat×Nat×Nat)} {vs:List Value} (h:Ib D w im ρ hh sz rs cols vs) (hpos:0 < sz):∀u∈vs,u.oneCell'=true:=by
 intro u hu
 obtain ⟨k,hk⟩:=List.getElem?_of_mem hu
 have hlt:=(List.getElem?_eq_some_iff.1 hk).1
 rw[h.1] at hlt
 have h1:k/sz < rs.length:=Nat.div_lt_of_lt_mul (by rw[Nat.mul_comm];exact hlt)
 have h2:=h.2 (k/sz) rs[k/sz] (by simp[h1])
 have h3:k%sz < (rs[k/sz]).length:=by rw[h2.1];exact Nat.mod_lt _ hpos
 obtain ⟨_,v,h4,h5,_⟩:=h2.2 (k%sz) _ (List.getElem?_eq_getElem h3)
 rw[Nat.div_add_mod'] at h4
 rw[h4] at hk
 cases hk
 exact h5
theorem VU (h:Cu D S N0 B w0 ρ σ a w) {bl:Nat→Option Be} (hbl:∀n x,bl n=some x→blk σ n=some x) {e n:Nat} {y:AV} {v:Value} {q:List (List AV)} {oc:Option (List (Nat×Nat×Nat))} {foc:List (Nat×Nat×Nat)}
  (hpos:0 < n) (hy:Rel w (Im S N0 B w ρ σ) ρ y v) (hq:XT e n bl y=some (q,oc,foc)):
  ∃(A:Option Addr) (c:Nat) (news:List Value),v=.slice A q.length c∧(∀cols,(oc=none∨oc=some cols)→QP cols q=true→∀hh,Ib D w (Im S N0 B w ρ σ) ρ hh n q cols news)∧news.length=q.length*n∧(∀u∈news,u.oneCell'=true)∧P5 ρ n q foc news∧J4 q.length foc∧
   (0 < q.length→∃ad,A=some ad∧∀j u,news[j]? =some u→w.cell? (ad.add j)=some u)∧∀m∈Gh foc,(blk σ m).isSome=true:=by
 cases hy <;> simp only[XT] at hq <;> try (cases hq;done)
 rename_i t
 have cells:∀{A:Option Addr} {c:Nat} {xs:List Value},w.ownsRow 0 e n (.slice A q.length c) q.length xs→0 < q.length→∃ad,A=some ad∧∀j u,xs[j]? =some u→w.cell? (ad.add j)=some u:=by
  intro A c xs hown hq
  rcases hown.2 with ⟨hv,hn⟩ | ⟨g,cap,cur,hv,_,hg,_,_,_,htake⟩
  ·omega
  ·injection hv with e1 e2 e3
   refine ⟨_,e1,fun j u hu=> ?_⟩
   rw[←htake,List.getElem?_take] at hu
   split at hu
   ·rw[BV,Nat.zero_add]
    unfold World.cell?
    rw[hg]
    simpa using hu
   ·cases hu
 cases hdt:Fc bl t with
 | some d=>
  obtain ⟨e',sz,rs,cols,foc'⟩:=d
  rw[hdt] at hq
  simp only at hq
  split at hq
  case isFalse=> cases hq
  rename_i hes
  obtain ⟨rfl,rfl⟩:=hes
  cases hq
  have hs:=hbl t _ (EY hdt)
  have hB:=h.hp.blk t _ hs
  obtain ⟨xs,h1,h2,h3,hI⟩:=hB.ownsD
  obtain ⟨_,_,_,h0,_,A,c,h4,_⟩:=hB
  rw[h4] at h1
  refine ⟨A,c,xs,h4,fun cols' hc hn hh=> ⟨h2.1,fun i row hi=> ⟨(h2.2 i row hi).1,fun j x hj=> ?_⟩⟩,h2.1,h2.one hpos,h3,hI,cells h1,h.hp.clos t _ hs⟩
  obtain ⟨q1,u,q2,q3,q4⟩:=(h2.2 i row hi).2 j x hj
  rcases hc with hc | hc
  ·cases hc
  ·cases hc
   have:=QO (LC hn hi) hj
   rw[Nat.zero_add] at this
   exact ⟨q1,u,q2,q3,.of_rel (q4.rel this) this⟩
 | none=>
  rw[hdt] at hq
  simp only at hq
  cases hrt:A3 bl t with
  | none=> rw[hrt] at hq;cases hq
  | some d=>
   obtain ⟨e',sz,rs⟩:=d
   rw[hrt] at hq
   simp only at hq
   split at hq
   case isFalse=> cases hq
   rename_i hes
   obtain ⟨rfl,rfl⟩:=hes
   cases hq
   have hs:=hbl t _ (E5 hrt)
   have hB:=h.hp.blk t _ hs
   obtain ⟨xs,h1,h2⟩:=hB.owns
   obtain ⟨_,_,_,A,c,h4,_⟩:=hB
   rw[h4] at h1
   refine ⟨A,c,xs,h4,fun cols' hc hn hh=> ⟨h2.1,fun i row hi=> ⟨(h2.2 i row hi).1,fun j x hj=> ?_⟩⟩,h2.1,h2.one hpos,by simp[P5],by simp[J4],cells h1,by simp[Gh]⟩
   obtain ⟨q1,u,q2,q3,q4⟩:=(h2.2 i row hi).2 j x hj
   have:=QO (LC hn hi) hj
   rw[Nat.zero_add] at this
   exact ⟨q1,u,q2,q3,.of_rel q4 this⟩
theorem Ib.append {D:Nat→TI} {w:World} {im:Nat→Prop} {ρ:BI} {hh:Nat→Option Nat} {sz:Nat} {r q:List (List AV)} {cols:List (Nat×Nat×Nat)} {xs ys:List Value} (h1:Ib D w im ρ hh sz r cols xs)
  (h2:Ib D w im ρ (fun k=> hh (r.length*sz+k)) sz q cols ys):Ib D w im ρ hh sz (r++q) cols (xs++ys):=by
 refine ⟨by rw[List.length_append,List.length_append,h1.1,h2.1,Nat.add_mul],fun i row hi=> ?_⟩
 by_cases hlt:i < r.length
 ·rw[List.getElem?_append_left hlt] at hi
  refine ⟨(h1.2 i row hi).1,fun j x hj=> ?_⟩
  obtain ⟨q1,v,q2,q3,q4⟩:=(h1.2 i row hi).2 j x hj
  refine ⟨q1,v,?_,q3,q4⟩
  rw[List.getElem?_append_left (List.getElem?_eq_some_iff.1 q2).1]
  exact q2
 ·have hge:r.length≤i:=Nat.le_of_not_lt hlt
  rw[List.getElem?_append_right hge] at hi
  refine ⟨(h2.2 _ row hi).1,fun j x hj=> ?_⟩
  obtain ⟨q1,v,q2,q3,q4⟩:=(h2.2 _ row hi).2 j x hj
  have e:r.length*sz+((i - r.length)*sz+j)=i*sz+j:=by
   rw[←Nat.add_assoc,←Nat.add_mul,Nat.add_sub_cancel' hge]
  refine ⟨q1,v,?_,q3,by rw[←e];exact q4⟩
  rw[←e,List.getElem?_append_right (by rw[h1.1];exact Nat.le_add_right _ _),h1.1,Nat.add_sub_cancel_left]
  exact q2
theorem Ib.mono {D:Nat→TI} {w w':World} {im im':Nat→Prop} {ρ ρ':BI} {hh:Nat→Option Nat} {sz:Nat} {rs:List (List AV)} {cols:List (Nat×Nat×Nat)} {vs:List Value} (h:Ib D w im ρ hh sz rs cols vs)
  (hk:∀k b,hh k=some b→w'.heap[b]? =w.heap[b]?) (him:∀b,im b→im' b) (hw:∀b,im b→w'.heap[b]? =w.heap[b]?):Ib D w' im' ρ' hh sz rs cols vs:=
 ⟨h.1,fun i row hi=> ⟨(h.2 i row hi).1,fun j x hj=> by
  obtain ⟨h1,v,h2,h3,h4⟩:=(h.2 i row hi).2 j x hj
  exact ⟨h1,v,h2,h3,h4.mono h1 (fun b hb=> hk _ b hb) him hw⟩⟩⟩
theorem In {k i j m:Nat}:∀{foc:List (Nat×Nat×Nat)},(i,j,m)∈I4 k foc→∃i',i=k+i'∧(i',j,m)∈foc
 | [],h=> by simp[I4] at h
 | (a,b,c)::r,h=> by
  simp only[I4,List.mem_cons,Prod.mk.injEq] at h
  rcases h with ⟨rfl,rfl,rfl⟩ | h
  ·exact ⟨a,rfl,List.mem_cons_self⟩
  ·obtain ⟨i',h1,h2⟩:=In h
   exact ⟨i',h1,List.mem_cons_of_mem _ h2⟩
theorem P5.append {ρ:BI} {sz:Nat} {r q:List (List AV)} {f g:List (Nat×Nat×Nat)} {xs ys:List Value} (hl:xs.length=r.length*sz) (h1:P5 ρ sz r f xs) (i1:J4 r.length f) (h2:P5 ρ sz q g ys) (i2:J4 q.length g):
  P5 ρ sz (r++q) (f++I4 r.length g) (xs++ys)∧J4 (r++q).length (f++I4 r.length g):=by
 refine ⟨fun i j m hm row x hi hj=> ?_,fun i j m hm=> ?_⟩
 ·rcases List.mem_append.1 hm with hm | hm
  ·have hlt:=i1 i j m hm
   rw[List.getElem?_append_left hlt] at hi
   have:=h1 i j m hm row x hi hj
   rw[List.getElem?_append_left (List.getElem?_eq_some_iff.1 this).1]
   exact this
  ·obtain ⟨i',rfl,hm2⟩:=In hm
   rw[List.getElem?_append_right (Nat.le_add_right _ _),Nat.add_sub_cancel_left] at hi
   have:=h2 i' j m hm2 row x hi hj
   rw[Nat.add_mul,Nat.add_assoc,←hl,List.getElem?_append_right (Nat.le_add_right _ _),Nat.add_sub_cancel_left]
   exact this
 ·rw[List.length_append]
  rcases List.mem_append.1 hm with hm | hm
  ·have:=i1 i j m hm;omega
  ·obtain ⟨i',rfl,hm2⟩:=In hm
   have:=i2 i' j m hm2;omega
theorem X2 {a b:Option (List (Nat×Nat×Nat))} {c:List (Nat×Nat×Nat)} (h:Xp a b=some c):(a=none∨a=some c)∧(b=none∨b=some c):=by
 cases a <;> cases b <;> simp only[Xp] at h
 ·cases h
 ·exact ⟨.inl rfl,.inr h⟩
 ·exact ⟨.inr h,.inl rfl⟩
 ·split at h
  ·rename_i e;subst e;exact ⟨.inr h,.inr h⟩
  ·cases h
theorem R4 {l:List Nat}:∀{m:List Nat},Vx m l=true→∀n∈l,n∉m
 | [],_,n,_,h=> by cases h
 | k::r,hm,n,hn,h=> by
  simp only[Vx,Bool.and_eq_true,Bool.not_eq_true'] at hm
  rcases List.mem_cons.1 h with rfl | h
  ·exact (Ce.1 hm.1) hn
  ·exact R4 hm.2 n hn h
theorem Rn (hT:Hu P D) (h:Cu D S N0 B w0 ρ σ a w) {bl:Nat→Option Be} (hbl:∀n x,bl n=some x→blk σ n=some x) {T U ty dst el:Nat} {x y:AV} {u v:Value} {e:Ck} (hk:(D T).k=.slice el)
  (hx:Rel w (Im S N0 B w ρ σ) ρ x u) (hy:Rel w (Im S N0 B w ρ σ) ρ y v) (he:FN D bl dst el T U x y=some e) (hp:e.pre) (hd:blk σ dst=none):
  ∃r w',(Builtin.append_ #[T,U] ty #[u,v]).run P w=.ok r w'∧Sx D S N0 B w0 σ a e r w':=by
 obtain ⟨hu,hne,hpz⟩:=Cy hT hk
 obtain ⟨i,z,hi,hi1,hi2,hi3,hi4,hi5⟩:=Fo hT hne
 obtain ⟨hz1,hz2,hz3⟩:=De hi4
 unfold FN at he
 split at he
 case h_2=> cases he
 rename_i r q hr hq
 obtain ⟨r,oc,f⟩:=r
 obtain ⟨q,oc',g⟩:=q
 simp only at he
 split at he
 case h_2=> cases he
 rename_i cols hb
 split at he
 case isFalse=> cases he
 rename_i hTU
 obtain ⟨rfl,hbytes⟩:=hTU
 cases he
 simp only at hp
 obtain ⟨p1,p2,p3⟩:=hp
 obtain ⟨c1,c2⟩:=X2 hb
 obtain ⟨hh,xs,hown,hf,hfo,hfi,hob,hho,hha,hhi,hfb⟩:=UM h hbl hx hr
 have hf0:xs.length=r.length*(D el).n:=hown.1
 obtain ⟨A,c,news,rfl,tf,tl,t1,tfo,tfi,hcells,tfb⟩:=VU h hbl hpz hy hq
 have hlen:(r++q).length=r.length+q.length:=List.length_append
 have hmax:r.length+q.length≤maxLen:=Nat.le_trans p1 (by decide)
 have hby:(r.length+q.length)*i.bytes≤140737488355328:=by
  rw[hi2]
  exact Nat.le_trans (Nat.mul_le_mul p1 hbytes) (by decide)
 have key:∃r' w',(Builtin.append_ #[T,T] ty #[u,.slice A q.length c]).run P w=.ok r' w'∧w'.ownsRow 0 el (D el).n r' (r++q).length (xs++news)∧w.grownBy w' u.ownBlock∧
   ∀b,r'.ownBlock=some b→u.ownBlock=some b∨w.heap.size≤b:=by
  cases A with
  | none=>
   have hq:q=[]:=by
    rcases Nat.eq_zero_or_pos q.length with h0 | h0
    ·exact List.eq_nil_of_length_eq_zero h0
    ·obtain ⟨ad,hA,_⟩:=hcells h0;cases hA
   subst hq
   have hn:news=[]:=List.eq_nil_of_length_eq_zero (by simpa using tl)
   subst hn
   exact ⟨u,w,I8 T ty el i _ 0 hu hi u _ xs hown c,by simpa using hown,World.grownBy.refl w _,fun b hb=> .inl hb⟩
  | some ad=>
   have hc:∀j u,news[j]? =some u→w.cell? (ad.add j)=some u:=by
    intro j u hj
    rcases Nat.eq_zero_or_pos q.length with h0 | h0
    ·have:news=[]:=List.eq_nil_of_length_eq_zero (by rw[tl,h0,Nat.zero_mul])
     subst this
     simp at hj
    ·obtain ⟨ad',hA,hc⟩:=hcells h0
     cases hA
     exact hc j u hj
   obtain ⟨v',w',k1,k2,k3,_,k5⟩:=run_append_own_at (P:=P) w 0 T ty el i z (D el).n i.bytes hu hi hi3 hi1 rfl (by have:=hz1;simpa[hi5] using this) hpz u r.length xs hown ad q.length c news tl hc t1 hmax hby (Nat.zero_le _)
   refine ⟨v',w',k1,by rw[hlen];exact k2,k3,fun b hb=> ?_⟩
   rcases k5 with k5 | k5
   ·exact .inl (k5 ▸hb)
   ·rw[k5] at hb
    cases hb
    exact .inr (Nat.le_refl _)
 obtain ⟨r',w',k1,k2,k4,k5⟩:=key
 have hsl:∃A c,r'=.slice A (r++q).length c:=by
  rcases k2.2 with ⟨rfl,h0⟩ | ⟨g,cap,cur,rfl,_⟩
  ·exact ⟨none,0,by rw[h0]⟩
  ·exact ⟨_,_,rfl⟩
 obtain ⟨A',c',rfl⟩:=hsl
 have hne':∀k b,hh k=some b→u.ownBlock≠some b∧b < w.heap.size:=hha
 have hkp:∀k b,hh k=some b→w'.heap[b]? =w.heap[b]?:=fun k b hk=> k4.block b (hha k b hk).2 (fun e=> (hha k b hk).1 e.symm)
 have hst:=h.new1 (n:=dst) (y:=.deep el (D el).n (r++q) cols (f++I4 r.length g)) (i:=⟨Value.ownBlock (.slice A' (r++q).length c'),A',(r++q).length,c',(D el).n,hh⟩) (ks:=J3 x) hd k4.os k4.tape k4.output k4.size
  (fun b hb hk=> k4.block b hb fun e=> by obtain ⟨k,z,h1,h2,h3⟩:=hob b e.symm;exact hk k z h1 h2 h3)
  (fun b hb=> by
   have hb:((ρ.set dst ⟨Value.ownBlock (.slice A' (r++q).length c'),A',(r++q).length,c',(D el).n,hh⟩) dst).b=some b∨∃k,((ρ.set dst ⟨Value.ownBlock (.slice A' (r++q).length c'),A',(r++q).length,c',(D el).n,hh⟩) dst).h k=some b:=hb
   rw[BI.set_eq] at hb
   rcases hb with hb | ⟨k,hb⟩
   ·have hb':Value.ownBlock (.slice A' (r++q).length c')=some b:=hb
    refine ⟨?_,?_⟩
    ·rcases k5 b hb' with h1 | h1
     ·obtain ⟨k,z,q1,q2,q3⟩:=hob b h1
      exact .inr ⟨k,z,q1,q2,q3⟩
     ·exact .inl h1
    ·rcases k2.2 with ⟨hv',_⟩ | ⟨gg,cap,cur,hv',_,hgg,_⟩
     ·rw[hv'] at hb'
      simp[Value.ownBlock] at hb'
     ·rw[hv'] at hb'
      simp[Value.ownBlock] at hb'
      subst hb'
      exact (Array.getElem?_eq_some_iff.1 hgg).1
   ·obtain ⟨k',z,q1,q2,q3⟩:=hho k b hb
    exact ⟨.inr ⟨k',z,q1,q2,q3⟩,Nat.lt_of_lt_of_le (hha k b hb).2 k4.size⟩)
  (fun im' him hw=> by
   have hbd:∀m∈Gh (f++I4 r.length g),(blk σ m).isSome=true:=fun m hm=> by
    obtain ⟨i,j,h1⟩:=BY.1 hm
    rcases List.mem_append.1 h1 with h1 | h1
    ·exact hfb m (BY.2 ⟨i,j,h1⟩)
    ·obtain ⟨i',_,h2⟩:=In h1
     exact tfb m (BY.2 ⟨i',j,h2⟩)
   have hset:∀m∈Gh (f++I4 r.length g),(ρ.set dst ⟨Value.ownBlock (.slice A' (r++q).length c'),A',(r++q).length,c',(D el).n,hh⟩) m=ρ m:=fun m hm=> BI.set_ne (by
    rintro rfl
    have:=hbd m hm
    rw[hd] at this;cases this)
   obtain ⟨fo1,fo2⟩:=hfo.append hf0 hfi tfo tfi
   refine Fv.of_ownsD (v:=.slice A' (r++q).length c') k2 (((hf cols c1).append (tf cols c2 p2 _)).mono hkp him hw) (fun i j m hm row x h1 h2=> ?_) fo2 hpz rfl ⟨A',c',rfl,by rw[BI.set_eq]⟩ ?_
   ·rw[hset m (BY.2 ⟨i,j,hm⟩)]
    exact fo1 i j m hm row x h1 h2
   ·rw[BI.set_eq]
    refine ⟨fun k b hk=> ⟨fun he=> ?_,Nat.lt_of_lt_of_le (hha k b hk).2 k4.size⟩,hhi⟩
    rcases k5 b he with h1 | h1
    ·exact (hha k b hk).1 h1
    ·have:=(hha k b hk).2
     omega)
  (fun m hm=> ⟨by
    obtain ⟨i,j,h1⟩:=BY.1 hm
    rcases List.mem_append.1 h1 with h1 | h1
    ·exact hfb m (BY.2 ⟨i,j,h1⟩)
    ·obtain ⟨i',_,h2⟩:=In h1
     exact tfb m (BY.2 ⟨i',j,h2⟩),R4 p3 m hm⟩)
 refine ⟨_,w',k1,_,hst.1,?_,fun m hm=> ?_⟩
 ·have:((ρ.set dst ⟨Value.ownBlock (.slice A' (r++q).length c'),A',(r++q).length,c',(D el).n,hh⟩) dst).sv=.slice A' (r++q).length c':=by rw[BI.set_eq];rfl
  exact Eq.mp (congrArg (Rel _ _ _ (.os dst)) this) (.os dst)
 ·simp[Ad] at hm
  subst hm
  show (blk (Bv σ _ [(m,_)] []) m).isSome=true
  rw[CW];rfl
theorem Sz (hT:Hu P D) (h:Cu D S N0 B w0 ρ σ a w) {bl:Nat→Option Be} (hbl:∀n x,bl n=some x→blk σ n=some x) {T U ty dst:Nat} {x y:AV} {u v:Value} {e:Ck}
  (hx:Rel w (Im S N0 B w ρ σ) ρ x u) (hy:Rel w (Im S N0 B w ρ σ) ρ y v) (he:FM D bl dst T U x y=some e) (hp:e.pre) (hd:blk σ dst=none):
  ∃r w',(Builtin.append_ #[T,U] ty #[u,v]).run P w=.ok r w'∧Sx D S N0 B w0 σ a e r w':=by
 unfold FM at he
 cases hk:(D T).k <;> simp only[hk] at he <;> try (cases he;done)
 rename_i el
 obtain ⟨hu,hne,hpz⟩:=Cy hT hk
 obtain ⟨i,z,hi,hi1,hi2,hi3,hi4,hi5⟩:=Fo hT hne
 obtain ⟨hz1,hz2,hz3⟩:=De hi4
 split at he
 case h_2=> exact Rn hT h hbl hk hx hy he hp hd
 rename_i r q hr hq
 obtain ⟨qz,qs⟩:=q
 split at he
 case isFalse=> cases he
 rename_i hbytes
 cases he
 simp only at hp hq
 obtain ⟨p1,p2⟩:=hp
 have base:∃xs,w.ownsRow 0 el (D el).n u r.length xs∧BQ w (Im S N0 B w ρ σ) ρ (D el).n r xs∧∀b,u.ownBlock=some b→∃k z,k∈J3 x∧blk σ k=some z∧(ρ k).b=some b:=by
  cases hx <;> simp only[V6] at hr <;> try (cases hr;done)
  case nils=>
   cases hr
   exact ⟨[],⟨by simp,.inl ⟨rfl,rfl⟩⟩,.nil,by simp[Value.ownBlock]⟩
  case os t=>
   cases hrt:A3 bl t with
   | none=> rw[hrt] at hr;cases hr
   | some y'=>
    obtain ⟨e',sz,rs⟩:=y'
    rw[hrt] at hr
    simp only at hr
    split at hr
    case isFalse=> cases hr
    rename_i hes
    obtain ⟨rfl,rfl⟩:=hes
    cases hr
    have hb:=hbl t _ (E5 hrt)
    have hB:=h.hp.blk t _ hb
    obtain ⟨xs,hown,hf⟩:=hB.owns
    refine ⟨xs,hown,hf,fun b hob=> ⟨t,_,by simp[J3],hb,?_⟩⟩
    obtain ⟨h1,h2,h3,A,c,h4,h5,h6,h7⟩:=hB
    rw[h4] at hob
    rcases h7 with ⟨_,rfl,_,_⟩ | ⟨b',arr,hb',rfl,_⟩
    ·simp[Value.ownBlock] at hob
    ·simp[Value.ownBlock] at hob
     rw[hb',hob]
 obtain ⟨xs,hown,hf,hob⟩:=base
 suffices key:∃r' w' news,(Builtin.append_ #[T,U] ty #[u,v]).run P w=.ok r' w'∧w'.ownsRow 0 el (D el).n r' (r++qs).length (xs++news)∧BQ w (Im S N0 B w ρ σ) ρ (D el).n qs news∧w.grownBy w' u.ownBlock∧
   ∀b,r'.ownBlock=some b→u.ownBlock=some b∨w.heap.size≤b by
  obtain ⟨r',w',news,k1,k2,k3,k4,k5⟩:=key
  obtain ⟨i',hi',hst,_⟩:=h.newRows hT (n:=dst) (ks:=J3 x) (rs:=r++qs) hd hpz k2 (hf.append k3) k4 hob k5
  refine ⟨r',w',k1,_,hst,?_,fun m hm=> ?_⟩
  ·have:((ρ.set dst i') dst).sv=r':=by rw[BI.set_eq];exact hi'
   rw[←this]
   exact .os dst
  ·simp[Ad] at hm
   subst hm
   show (blk (Bv σ _ [(m,_)] []) m).isSome=true
   rw[CW];rfl
 have hlen:(r++qs).length=r.length+qs.length:=List.length_append
 have hmax:r.length+qs.length≤maxLen:=Nat.le_trans p1 (by decide)
 have hby:(r.length+qs.length)*i.bytes≤140737488355328:=by
  rw[hi2]
  exact Nat.le_trans (Nat.mul_le_mul p1 hbytes.1) (by decide)
 have slice:U=T→Hf bl y=some (qz,qs)→∃r' w' news,(Builtin.append_ #[T,U] ty #[u,v]).run P w=.ok r' w'∧w'.ownsRow 0 el (D el).n r' (r++qs).length (xs++news)∧BQ w (Im S N0 B w ρ σ) ρ (D el).n qs news∧w.grownBy w' u.ownBlock∧
   ∀b,r'.ownBlock=some b→u.ownBlock=some b∨w.heap.size≤b:=by
  rintro rfl hrw
  obtain ⟨A,c,news,rfl,hfn,hcells⟩:=h.tail hbl hy hrw p2 hpz
  cases A with
  | none=>
   have hq:qs=[]:=by
    rcases Nat.eq_zero_or_pos qs.length with h0 | h0
    ·exact List.eq_nil_of_length_eq_zero h0
    ·obtain ⟨ad,hA,_⟩:=hcells h0;cases hA
   subst hq
   have hn:news=[]:=List.eq_nil_of_length_eq_zero (by simpa using hfn.1)
   subst hn
   exact ⟨u,w,[],I8 U ty el i _ 0 hu hi u _ xs hown c,by simpa using hown,hfn,World.grownBy.refl w _,fun b hb=> .inl hb⟩
  | some ad=>
   have hc:∀j u,news[j]? =some u→w.cell? (ad.add j)=some u:=by
    intro j u hj
    rcases Nat.eq_zero_or_pos qs.length with h0 | h0
    ·have:news=[]:=List.eq_nil_of_length_eq_zero (by rw[hfn.1,h0,Nat.zero_mul])
     subst this
     simp at hj
    ·obtain ⟨ad',hA,hc⟩:=hcells h0
     cases hA
     exact hc j u hj
   obtain ⟨v',w',k1,k2,k3,_,k5⟩:=run_append_own_at (P:=P) w 0 U ty el i z (D el).n i.bytes hu hi hi3 hi1 rfl (by have:=hz1;simpa[hi5] using this) hpz u r.length xs hown ad qs.length c news hfn.1 hc (hfn.one hpz) hmax hby (Nat.zero_le _)
   refine ⟨v',w',news,k1,by rw[hlen];exact k2,hfn,k3,fun b hb=> ?_⟩
   rcases k5 with k5 | k5
   ·exact .inl (k5 ▸hb)
   ·rw[k5] at hb
    cases hb
    exact .inr (Nat.le_refl _)
 cases hy
 case str l=>
  simp only[Tm] at hq
  split at hq
  case h_2=> cases hq
  rename_i hkU
  cases hq
  have hU:=Hl hT hkU
  rcases hbytes.2 with hb | ⟨hb1,hb2,hb3⟩
  ·simp[Aam] at hb
  have hku8:(D el).k=.int .u8:=by
   cases hk8:(D el).k with
   | int k=> rw[hk8] at hb1;cases k <;> simp[QC] at hb1;rfl
   | _=> rw[hk8] at hb1;simp[QC] at hb1
  have hzero:i.zero=some (.int .u8 0):=To hT hku8 hi
  have hlz:(⟨⟨l⟩⟩:ByteArray).size=l.length:=rfl
  rw[hb2] at hown hf
  obtain ⟨v',w',k1,k2,k3,k4⟩:=PV (P:=P) T U ty el i hu hU hi hzero (by rw[hi1,hb2]) (by rw[hi2,hb3]) u r.length xs hown ⟨⟨l⟩⟩ (by rw[hlz];simpa using p1)
  refine ⟨v',w',Lib.strCells ⟨⟨l⟩⟩,k1,by rw[hb2,hlen];rw[hlz] at k2;simpa using k2,?_,k3,k4⟩
  rw[hb2]
  refine ⟨by simp[Lib.strCells],fun i row hi=> ?_⟩
  rw[List.getElem?_map] at hi
  obtain ⟨c,hc,rfl⟩:=Option.map_eq_some_iff.1 hi
  refine ⟨rfl,fun j x hj=> ?_⟩
  cases j with
  | zero=>
   simp[Ac] at hj
   subst hj
   refine ⟨by simp[Ad],.int .u8 c.toNat,?_,rfl,.int _ _⟩
   simp[Lib.strCells,hc]
  | succ j=> simp[Ac] at hj
 all_goals
  simp only[Tm] at hq
  split at hq
  ·rename_i hUT
   exact slice hUT hq
  ·cases hq
end
section
variable {P:Program} {D:Nat→TI} {S N0:Nat→Prop} {B:Nat} {w0:W0} {ρ:BI} {σ:AS} {a:Act} {w:World}
theorem H9 {o:Nat} {new old:List Value} (h:o+new.length≤old.length) (i:Nat):(old.take o++new++old.drop (o+new.length))[i]? =if o≤i∧i < o+new.length then new[i - o]? else old[i]?:=by
 by_cases h1:i < o
 ·rw[if_neg (by omega),List.append_assoc,List.getElem?_append_left (by simp;omega),List.getElem?_take,if_pos h1]
 ·by_cases h2:i < o+new.length
  ·rw[if_pos (by omega),List.append_assoc,List.getElem?_append_right (by simp;omega),List.getElem?_append_left (by simp;omega)]
   congr 1
   simp;omega
  ·rw[if_neg (by omega),List.append_assoc,List.getElem?_append_right (by simp;omega),List.getElem?_append_right (by simp;omega),List.getElem?_drop]
   congr 1
   simp;omega
theorem IU (hT:Hu P D) {T b o:Nat} {t:TypeId} {arr:Array Value} {v:Value} (hno:Cc (D T).k=false) (hs:v.cells.size=(D T).n) (h1:∀u∈v.cells.toList,u.oneCell'=true) (hh:w.heap[b]? =some (.cells arr t (0,0))) (hb:o+(D T).n≤arr.size):
  (Instr.storeAt T (.pointer (some ⟨b,o,none⟩)) v).run P w=.ok () (w.setRow b (arr.toList.take o++v.cells.toList++arr.toList.drop (o+(D T).n)).toArray):=by
 have:=run_storeCells_at P b o t v.cells.toList 0 arr w hh (by simpa[hs] using hb) h1
 simp only[Nat.add_zero,Array.length_toList,hs] at this
 simp[Instr.storeAt,Instr.sureAddr,storeVar,J2 hT hno,hs,this]
theorem Qi {im:Nat→Prop} {cs:List AV} {vs:Array Value} (h:PI w im ρ cs vs):∀u∈vs.toList,u.oneCell'=true:=by
 intro u hu
 obtain ⟨k,hk⟩:=List.getElem?_of_mem hu
 have hlt:=(List.getElem?_eq_some_iff.1 hk).1
 simp at hk hlt
 exact (h.2 k _ u (List.getElem?_eq_getElem (by rw[←h.1];exact hlt)) hk).1
theorem Cu.upd (h:Cu D S N0 B w0 ρ σ a w) {n b:Nat} {x y:Be} {arr:Array Value} (hn:blk σ n=some x) (hb:(ρ n).b=some b) (ho:∀c,owns ρ n y c→owns ρ n x c)
  (hy:(∀c,Im S N0 B w ρ σ c→(w.setRow b arr).heap[c]? =w.heap[c]?)→∀im',(∀c,Im S N0 B w ρ σ c→im' c)→Fv D (w.setRow b arr) im' ρ n y) (hcl:∀m∈Em y,(blk σ m).isSome=true):
  Cu D S N0 B w0 ρ (Bv σ [] [] [(n,y)]) a (w.setRow b arr)∧∀c,Im S N0 B w ρ σ c→Im S N0 B (w.setRow b arr) ρ (Bv σ [] [] [(n,y)]) c∧(w.setRow b arr).heap[c]? =w.heap[c]?:=by
 have hw:∀c,Im S N0 B w ρ σ c→(w.setRow b arr).heap[c]? =w.heap[c]?:=fun c hc=> setRow_other w b c arr (by rintro rfl;exact hc.2.2 n x hn (Ew hb))
 refine h.step (ks:=[]) (nw:=[]) (up:=[(n,y)]) rfl rfl rfl (by simp) (fun c hc hk=> setRow_other w b c arr ?_) (fun _ _ _=> rfl) (fun m hm=> by simp[AF] at hm) (fun m hm=> ?_) (fun him m z hz=> ?_) (fun m z c hm _=> by simp[get] at hm) (fun m k z z' c hm _ _ _=> by simp[get] at hm) (fun m z z' c hm hz hc=> ?_)
 ·rintro rfl
  exact hk n x (.inr (by simp[AF])) hn (Ew hb)
 ·simp[AF] at hm
  subst hm
  exact ⟨by rw[hn];rfl,by simp⟩
 ·have e:m=n∧z=y:=by
   rcases hz with hz | ⟨_,hz⟩
   ·simp[get] at hz
   ·simp only[get] at hz
    split at hz
    ·rename_i e;exact ⟨e.symm,(Option.some.inj hz).symm⟩
    ·cases hz
  obtain ⟨rfl,rfl⟩:=e
  refine ⟨hy hw _ him,fun k hk=> ?_⟩
  have:=hcl k hk
  rw[BW]
  simp only[get]
  split
  ·rfl
  ·rename_i hq
   rw[if_neg (by simp)]
   simpa using this
 ·have e:n=m∧y=z:=by simpa[get] using hm
  obtain ⟨rfl,rfl⟩:=e
  rw[hn] at hz
  cases hz
  exact ho c hc
theorem H3 {cols:List (Nat×Nat×Nat)} {bl:Nat→Option Be} {i:Nat}:∀{xs:List AV} {o:Nat} {cs:List AV} {fs:List (Nat×Nat×Nat)},DA cols bl i o xs=some (cs,fs)→
  cs.length=xs.length∧(∀(j:Nat) x',cs[j]? =some x'→∃x,xs[j]? =some x∧((x'=.junk∧∃m,x=.os m∧(i,o+j,m)∈fs)∨(x'=x∧Ad x=[]∧((Id cols (o+j)).isNone=true∨Gw x=true))))∧
   ∀a b m,(a,b,m)∈fs→a=i∧∃j,b=o+j∧xs[j]? =some (.os m)
 | [],o,cs,fs,h=> by
  simp only[DA,Option.some.injEq,Prod.mk.injEq] at h
  obtain ⟨rfl,rfl⟩:=h
  exact ⟨rfl,by simp,by simp⟩
 | y::r,o,cs,fs,h=> by
  simp only[DA] at h
  cases hr:DA cols bl i (o+1) r with
  | none=> rw[hr] at h;cases h
  | some p=>
   obtain ⟨cs',fs'⟩:=p
   rw[hr] at h
   simp only at h
   obtain ⟨i1,i2,i3⟩:=H3 hr
   have step:∀{y':AV} {fs0:List (Nat×Nat×Nat)},(∀q∈fs',q∈fs0)→((y'=.junk∧∃m,y=.os m∧(i,o,m)∈fs0)∨(y'=y∧Ad y=[]∧((Id cols o).isNone=true∨Gw y=true)))→
     (∀a b m,(a,b,m)∈fs0→(a,b,m)∈fs'∨(a=i∧b=o∧y=.os m))→
     (y'::cs').length=(y::r).length∧(∀(j:Nat) x',(y'::cs')[j]? =some x'→∃x,(y::r)[j]? =some x∧((x'=.junk∧∃m,x=.os m∧(i,o+j,m)∈fs0)∨(x'=x∧Ad x=[]∧((Id cols (o+j)).isNone=true∨Gw x=true))))∧
      ∀a b m,(a,b,m)∈fs0→a=i∧∃j,b=o+j∧(y::r)[j]? =some (.os m):=by
    intro y' fs0 h1 h2 h3
    refine ⟨by simp[i1],fun j x' hx=> ?_,fun a b m hm=> ?_⟩
    ·cases j with
     | zero=>
      simp only[List.getElem?_cons_zero,Option.some.injEq] at hx
      subst hx
      exact ⟨y,rfl,h2⟩
     | succ j=>
      simp only[List.getElem?_cons_succ] at hx
      obtain ⟨x,q1,q2⟩:=i2 j x' hx
      have e:o+1+j=o+(j+1):=by omega
      rw[e] at q2
      refine ⟨x,by simpa using q1,?_⟩
      rcases q2 with ⟨q2,m,q3,q4⟩ | q2
      ·exact .inl ⟨q2,m,q3,h1 _ q4⟩
      ·exact .inr q2
    ·rcases h3 a b m hm with hm | ⟨rfl,rfl,rfl⟩
     ·obtain ⟨q1,j,q2,q3⟩:=i3 a b m hm
      exact ⟨q1,j+1,by omega,by simpa using q3⟩
     ·exact ⟨rfl,0,rfl,rfl⟩
   split at h
   ·rename_i m
    split at h
    ·split at h
     ·simp only[Option.some.injEq,Prod.mk.injEq] at h
      obtain ⟨rfl,rfl⟩:=h
      refine step (fun q hq=> List.mem_cons_of_mem _ hq) (.inl ⟨rfl,m,rfl,List.mem_cons_self⟩) fun a b m' hm=> ?_
      rcases List.mem_cons.1 hm with e | e
      ·cases e;exact .inr ⟨rfl,rfl,rfl⟩
      ·exact .inl e
     ·cases h
    ·cases h
   ·split at h
    ·rename_i hc
     simp only[Option.some.injEq,Prod.mk.injEq] at h
     obtain ⟨rfl,rfl⟩:=h
     refine step (fun q hq=> hq) (.inr ⟨rfl,?_,hc.2⟩) fun a b m' hm=> .inl hm
     have:=hc.1
     cases hq:Ad y with
     | nil=> rfl
     | cons c r=> rw[hq] at this;cases this
    ·cases h
theorem ER {i off n a b m:Nat}:∀{foc:List (Nat×Nat×Nat)},(a,b,m)∈Lv i off n foc→(a,b,m)∈foc∧¬(a=i∧off≤b∧b < off+n)
 | [],h=> by cases h
 | (c,d,k)::r,h=> by
  simp only[Lv] at h
  split at h
  ·exact ⟨List.mem_cons_of_mem _ (ER h).1,(ER h).2⟩
  ·rename_i hc
   rcases List.mem_cons.1 h with e | e
   ·cases e;exact ⟨List.mem_cons_self,hc⟩
   ·exact ⟨List.mem_cons_of_mem _ (ER e).1,(ER e).2⟩
theorem Aai {i i' j off n sz:Nat} (hii:i'≠i) (hj:j < sz) (hn:off+n≤sz):¬(i*sz+off≤i'*sz+j∧i'*sz+j < i*sz+off+n):=by
 rcases Nat.lt_or_gt_of_ne hii with hlt | hgt
 ·have:(i'+1)*sz≤i*sz:=Nat.mul_le_mul_right _ hlt
  rw[Nat.add_mul] at this
  omega
 ·have:(i+1)*sz≤i'*sz:=Nat.mul_le_mul_right _ hgt
  rw[Nat.add_mul] at this
  omega
theorem VT (hT:Hu P D) (h:Cu D S N0 B w0 ρ σ a w) {bl:Nat→Option Be} (hbl:∀n x,bl n=some x→blk σ n=some x) {T:Nat} {x y:AV} {u v:Value} {e:Ck} (hno:Cc (D T).k=false)
  (hx:Rel w (Im S N0 B w ρ σ) ρ x u) (hnx:∀n∈Ad x,(blk σ n).isSome=true) (hy:Rel w (Im S N0 B w ρ σ) ρ y v) (he:Ik D bl T x y=some e) (hp:e.pre):
  ∃w',(Instr.storeAt T v u).run P w=.ok () w'∧e.v=.junk∧∃ρ',Cu D S N0 B w0 ρ' (Bv (freeze σ e.fr) e.kl e.nw e.up) a w':=by
 cases hy <;> simp only[Ik] at he <;> try (cases he;done)
 case ptr n off b hb=>
  cases hbn:bl n with
  | none=> rw[hbn] at he;cases he
  | some z=>
   rw[hbn] at he
   cases z with
   | rows e' sz rs=> cases he
   | deep e' sz rs cols foc=> cases he
   | cells cs=>
    cases he
    simp only at hp
    obtain ⟨p0,p1,p2⟩:=hp
    have hs:=hbl n _ hbn
    obtain ⟨b',arr,T',h1,h2,h3,h5⟩:=h.hp.blk n _ hs
    rw[hb] at h1
    cases h1
    have hc:=Fx hx p0
    have hsz:u.cells.size=(D T).n:=by rw[hc.1,p1]
    have hrun:=IU (P:=P) (w:=w) hT (T:=T) (o:=off) hno hsz (Qi hc) h2 (by omega)
    refine ⟨_,hrun,rfl,ρ,?_⟩
    refine (h.upd (n:=n) (b:=b) hs hb (fun c hc=> by exact hc) (fun hw im' him=> ?_) (fun m hm=> ?_)).1
    ·have hl:off+(cellsOf x).length≤cs.length:=by omega
     refine ⟨b,_,T',hb,setRow_heap w b arr _ T' _ h2,by simp[GB];omega,fun i z q hz hq=> ?_⟩
     rw[F3 hl] at hz
     simp only[List.getElem?_toArray] at hq
     have hq':=H9 (o:=off) (new:=u.cells.toList) (old:=arr.toList) (by simp;omega) i
     rw[Array.length_toList,hsz] at hq'
     rw[hq'] at hq
     rw[p1] at hz
     split at hz
     ·rename_i hin
      rw[if_pos hin] at hq
      simp only[Array.getElem?_toList] at hq
      obtain ⟨q1,q2⟩:=hc.2 _ z q hz hq
      exact ⟨q1,q2.mono him hw fun _ _=> rfl⟩
     ·rename_i hin
      rw[if_neg hin] at hq
      simp only[Array.getElem?_toList] at hq
      obtain ⟨q1,q2⟩:=h5 i z q hz hq
      exact ⟨q1,q2.mono him hw fun _ _=> rfl⟩
    ·have hm:m∈Af (GB off (cellsOf x) cs):=hm
     obtain ⟨i,z,hz,hmz⟩:=Cr hm
     have hl:off+(cellsOf x).length≤cs.length:=by omega
     rw[F3 hl] at hz
     split at hz
     ·refine hnx m ?_
      have:=AY hz hmz
      cases x <;> simp[cellsOf,Af,Ad] at this ⊢ <;> exact this
     ·exact h.hp.closed n cs hs m (AY hz hmz)
 case eptr t i off b hb=>
  cases hrt:A3 bl t with
  | none=>
   rw[hrt] at he
   simp only at he
   cases hdt:Fc bl t with
   | none=> rw[hdt] at he;cases he
   | some r=>
   obtain ⟨e',sz,rs,cols,foc⟩:=r
   rw[hdt] at he
   simp only at he
   cases hdc:DA cols bl i off (cellsOf x) with
   | none=> rw[hdc] at he;cases he
   | some p=>
   obtain ⟨ncs,fs⟩:=p
   rw[hdc] at he
   cases he
   simp only at hp
   obtain ⟨p0,⟨p1,p2⟩,p4⟩:=hp
   obtain ⟨d1,d2,d3⟩:=H3 hdc
   have hs:=hbl t _ (EY hdt)
   obtain ⟨g1,g2,g3,gh,gI,A,c,g4,g5,g6,g7⟩:=h.hp.blk t _ hs
   rcases g7 with ⟨_,_,_,g8⟩ | ⟨b',arr,g8,g9,g10,g11,g14,g15⟩
   ·rw[hb] at g8;cases g8
   rw[hb] at g8
   cases g8
   have hc:=Fx hx p0
   have hsz:u.cells.size=(D T).n:=by rw[hc.1,p1]
   have hri:rs[i]? =some (rs.getD i []):=by simp[List.getD_eq_getElem?_getD,p4]
   have hrl:=(g14 i _ hri).1
   have hidx:i*sz+sz≤arr.size:=by
    have:(i+1)*sz≤c*sz:=Nat.mul_le_mul_right _ (by omega)
    rw[Nat.add_mul] at this
    omega
   have hrun:=IU (P:=P) (w:=w) hT (T:=T) (o:=i*(ρ t).sz+off) hno hsz (Qi hc) g10 (by rw[g1];omega)
   have hget:∀k,(arr.toList.take (i*(ρ t).sz+off)++u.cells.toList++arr.toList.drop (i*(ρ t).sz+off+(D T).n)).toArray[k]? =if i*sz+off≤k∧k < i*sz+off+(D T).n then u.cells[k - (i*sz+off)]? else arr[k]?:=by
    intro k
    simp only[List.getElem?_toArray]
    have hq':=H9 (o:=i*(ρ t).sz+off) (new:=u.cells.toList) (old:=arr.toList) (by simp[hsz];rw[g1];omega) k
    rw[Array.length_toList,hsz] at hq'
    rw[hq',g1]
    split
    ·simp
    ·simp
   have hl:off+ncs.length≤(rs.getD i []).length:=by omega
   refine ⟨_,hrun,rfl,ρ,?_⟩
   refine (h.upd (n:=t) (b:=b) hs hb (fun c hc=> by exact hc) (fun hw im' him=> ?_) (fun m hm=> ?_)).1
   ·have hhid:∀k q,(ρ t).h k=some q→(w.setRow b (arr.toList.take (i*(ρ t).sz+off)++u.cells.toList++arr.toList.drop (i*(ρ t).sz+off+(D T).n)).toArray).heap[q]? =w.heap[q]?:=fun k q hk=> setRow_other w b q _ (by
     rintro rfl
     exact (gh.1 k q hk).1 hb)
    refine ⟨g1,g2,g3,gh.mono hhid,fun a k m hm=> ?_,A,c,by simpa using g4,by simpa using g5,g6,.inr ⟨b,_,hb,g9,setRow_heap w b arr _ e' _ g10,by simp[g1,hsz];omega,fun i' row hi'=> ?_,fun a k m hm row z hi' hz=> ?_⟩⟩
    ·rw[List.length_set]
     rcases List.mem_append.1 hm with hm | hm
     ·rw[(d3 a k m hm).1];exact p4
     ·exact gI a k m (ER hm).1
    ·by_cases hii:i'=i
     ·subst hii
      rw[List.getElem?_set_self p4] at hi'
      cases hi'
      refine ⟨by rw[IT hl];exact hrl,fun j z hz=> ?_⟩
      rw[F3 hl] at hz
      split at hz
      ·rename_i hin
       have hlt:j - off < u.cells.size:=by rw[hsz];omega
       obtain ⟨z0,q0,hz'⟩:=d2 _ z hz
       obtain ⟨q1,q2⟩:=hc.2 _ z0 u.cells[j - off] q0 (by simp[hlt])
       rw[show off+(j - off)=j by omega] at hz'
       refine ⟨?_,u.cells[j - off],?_,q1,?_⟩
       ·rcases hz' with ⟨rfl,_⟩ | ⟨rfl,hn,_⟩
        ·rfl
        ·exact hn
       ·rw[hget,if_pos (by omega)]
        have e:i'*sz+j - (i'*sz+off)=j - off:=by omega
        rw[e]
        simp[hlt]
       ·rcases hz' with ⟨rfl,_⟩ | ⟨rfl,hn,hp'⟩
        ·exact .of_rel (.junk _) (.inr (.inr rfl))
        ·exact .of_rel (q2.mono him hw fun _ _=> rfl) (by rcases hp' with hp' | hp';exact .inl hp';exact .inr (.inl hp'))
      ·rename_i hin
       obtain ⟨q1,q,q2,q3,q4⟩:=(g14 i' _ hri).2 j z hz
       refine ⟨q1,q,?_,q3,q4.mono q1 (fun b' hb'=> hhid _ b' hb') him hw⟩
       have hj:j < sz:=by rw[←hrl];exact (List.getElem?_eq_some_iff.1 hz).1
       rw[hget,if_neg (by omega)]
       exact q2
     ·rw[List.getElem?_set_ne (fun e=> hii e.symm)] at hi'
      refine ⟨(g14 i' row hi').1,fun j z hz=> ?_⟩
      obtain ⟨q1,q,q2,q3,q4⟩:=(g14 i' row hi').2 j z hz
      refine ⟨q1,q,?_,q3,q4.mono q1 (fun b' hb'=> hhid _ b' hb') him hw⟩
      have hj:j < sz:=by rw[←(g14 i' row hi').1];exact (List.getElem?_eq_some_iff.1 hz).1
      rw[hget,if_neg (Aai hii hj (by omega))]
      exact q2
    ·rcases List.mem_append.1 hm with hm | hm
     ·obtain ⟨rfl,j,rfl,hj⟩:=d3 a k m hm
      have hjl:j < (cellsOf x).length:=(List.getElem?_eq_some_iff.1 hj).1
      have hlt:j < u.cells.size:=by rw[hsz];omega
      obtain ⟨_,q2⟩:=hc.2 _ _ u.cells[j] hj (by simp[hlt])
      rw[hget,if_pos (by omega)]
      have e:a*sz+(off+j) - (a*sz+off)=j:=by omega
      rw[e]
      have e1:u.cells[j]? =some (u.cells[j]):=by simp[hlt]
      rw[e1]
      generalize u.cells[j]=q at q2
      cases q2
      rfl
     ·obtain ⟨hm1,hm2⟩:=ER hm
      simp only at hm2
      by_cases hai:a=i
      ·subst hai
       rw[List.getElem?_set_self p4] at hi'
       cases hi'
       have hk:k < sz:=by rw[←hrl,←IT hl];exact (List.getElem?_eq_some_iff.1 hz).1
       have hx0:(rs.getD a [])[k]? =some (rs.getD a [])[k]:=by rw[List.getElem?_eq_getElem]
       rw[hget,if_neg (by omega)]
       exact g15 a k m hm1 _ _ hri hx0
      ·rw[List.getElem?_set_ne (fun e=> hai e.symm)] at hi'
       have hk:k < sz:=by rw[←(g14 a row hi').1];exact (List.getElem?_eq_some_iff.1 hz).1
       rw[hget,if_neg (Aai hai hk (by omega))]
       exact g15 a k m hm1 row z hi' hz
   ·obtain ⟨a,k,hm⟩:=BY.1 hm
    rcases List.mem_append.1 hm with hm | hm
    ·obtain ⟨_,j,_,hj⟩:=d3 a k m hm
     refine hnx m ?_
     have:=AY hj (by simp[Ad]:m∈Ad (.os m))
     cases x <;> simp[cellsOf,Af,Ad] at this ⊢ <;> exact this
    ·exact h.hp.clos t _ hs m (BY.2 ⟨a,k,(ER hm).1⟩)
  | some r=>
   obtain ⟨e',sz,rs⟩:=r
   rw[hrt] at he
   cases he
   simp only at hp
   obtain ⟨p0,⟨p1,p2⟩,p3,p4⟩:=hp
   have hs:=hbl t _ (E5 hrt)
   obtain ⟨g1,g2,g3,A,c,g4,g5,g6,g7⟩:=h.hp.blk t _ hs
   rcases g7 with ⟨_,_,_,g8⟩ | ⟨b',arr,g8,g9,g10,g11,g14⟩
   ·rw[hb] at g8;cases g8
   rw[hb] at g8
   cases g8
   have hc:=Fx hx p0
   have hsz:u.cells.size=(D T).n:=by rw[hc.1,p1]
   have hri:rs[i]? =some (rs.getD i []):=by simp[List.getD_eq_getElem?_getD,p4]
   have hrl:=(g14 i _ hri).1
   have hidx:i*sz+sz≤arr.size:=by
    have:(i+1)*sz≤c*sz:=Nat.mul_le_mul_right _ (by omega)
    rw[Nat.add_mul] at this
    omega
   have hrun:=IU (P:=P) (w:=w) hT (T:=T) (o:=i*(ρ t).sz+off) hno hsz (Qi hc) g10 (by rw[g1];omega)
   refine ⟨_,hrun,rfl,ρ,?_⟩
   refine (h.upd (n:=t) (b:=b) hs hb (fun c hc=> by exact hc) (fun hw im' him=> ?_) (fun m hm=> by cases hm)).1
   refine ⟨g1,g2,g3,A,c,by simpa using g4,by simpa using g5,g6,.inr ⟨b,_,hb,g9,setRow_heap w b arr _ e' _ g10,by simp[g1,hsz];omega,fun i' row hi'=> ?_⟩⟩
   have hget:∀k,(arr.toList.take (i*(ρ t).sz+off)++u.cells.toList++arr.toList.drop (i*(ρ t).sz+off+(D T).n)).toArray[k]? =if i*sz+off≤k∧k < i*sz+off+(D T).n then u.cells[k - (i*sz+off)]? else arr[k]?:=by
    intro k
    simp only[List.getElem?_toArray]
    have hq':=H9 (o:=i*(ρ t).sz+off) (new:=u.cells.toList) (old:=arr.toList) (by simp[hsz];rw[g1];omega) k
    rw[Array.length_toList,hsz] at hq'
    rw[hq',g1]
    split
    ·simp
    ·simp
   by_cases hii:i'=i
   ·subst hii
    rw[List.getElem?_set_self p4] at hi'
    cases hi'
    have hl:off+(cellsOf x).length≤(rs.getD i' []).length:=by omega
    refine ⟨by rw[IT hl];exact hrl,fun j z hz=> ?_⟩
    rw[F3 hl] at hz
    split at hz
    ·rename_i hin
     have hlt:j - off < u.cells.size:=by rw[hsz];omega
     obtain ⟨q1,q2⟩:=hc.2 _ z u.cells[j - off] hz (by simp[hlt])
     refine ⟨?_,u.cells[j - off],?_,q1,q2.mono him hw fun _ _=> rfl⟩
     ·have:∀n,n∉Ad z:=fun n hn=> by
       have:=AY hz hn
       rw[p3] at this
       cases this
      exact List.eq_nil_iff_forall_not_mem.2 this
     ·rw[hget,if_pos (by omega)]
      have e:i'*sz+j - (i'*sz+off)=j - off:=by omega
      rw[e]
      simp[hlt]
    ·rename_i hin
     obtain ⟨q1,q,q2,q3,q4⟩:=(g14 i' _ hri).2 j z hz
     refine ⟨q1,q,?_,q3,q4.mono him hw fun _ _=> rfl⟩
     have hj:j < sz:=by rw[←hrl];exact (List.getElem?_eq_some_iff.1 hz).1
     rw[hget,if_neg (by omega)]
     exact q2
   ·rw[List.getElem?_set_ne (fun e=> hii e.symm)] at hi'
    refine ⟨(g14 i' row hi').1,fun j z hz=> ?_⟩
    obtain ⟨q1,q,q2,q3,q4⟩:=(g14 i' row hi').2 j z hz
    refine ⟨q1,q,?_,q3,q4.mono him hw fun _ _=> rfl⟩
    have hj:j < sz:=by rw[←(g14 i' row hi').1];exact (List.getElem?_eq_some_iff.1 hz).1
    rw[hget,if_neg ?_]
    ·exact q2
    ·rcases Nat.lt_or_gt_of_ne hii with hlt | hgt
     ·have:(i'+1)*sz≤i*sz:=Nat.mul_le_mul_right _ hlt
      rw[Nat.add_mul] at this
      omega
     ·have:(i+1)*sz≤i'*sz:=Nat.mul_le_mul_right _ hgt
      rw[Nat.add_mul] at this
      omega
end
section
variable {P:Program} {D:Nat→TI} {S N0:Nat→Prop} {B:Nat} {w0:W0} {ρ:BI} {σ:AS} {a:Act} {w:World}
theorem EA (x:AV):Af (cellsOf x)=Ad x:=by
 cases x <;> simp[cellsOf,Af,Ad]
theorem Qm {im:Nat→Prop} {fs:List (Nat×Nat)} {place:Nat→Option (Nat×Nat)} (hpl:∀(i o t:Nat),fs[i]? =some (o,t)→place i=some (o,(D t).n)):
  ∀{ps:List (Nat×AV)} {qs:List (Nat×Value)} {cs cs':List AV} {arr:Array Value},PI w im ρ cs arr→ps.length=qs.length→(∀(k i:Nat) (x:AV),ps[k]? =some (i,x)→∃v,qs[k]? =some (i,v)∧Rel w im ρ x v)→RM fs D cs ps=some cs'→
   ∃arr',Instr.fill place arr qs=some arr'∧PI w im ρ cs' arr'∧∀n∈Af cs',n∈Af cs∨∃(k i:Nat) (x:AV),ps[k]? =some (i,x)∧n∈Ad x
 | [],[],cs,cs',arr,hc,_,_,he=> by
  cases he
  exact ⟨arr,rfl,hc,fun n hn=> .inl hn⟩
 | [],_::_,_,_,_,_,h,_,_=> by simp at h
 | _::_,[],_,_,_,_,h,_,_=> by simp at h
 | (i,x)::ps,(i',v)::qs,cs,cs',arr,hc,hl,hr,he=> by
  obtain ⟨v',hv',hx⟩:=hr 0 i x rfl
  simp at hv'
  obtain ⟨e1,e2⟩:=hv'
  subst e1 e2
  rw[RM] at he
  split at he
  case h_2=> cases he
  rename_i o t hft
  split at he
  case isFalse=> cases he
  rename_i hcond
  obtain ⟨p0,p1,p2⟩:=hcond
  have hcx:=Fx hx p0
  have hsz:v.cells.size=(D t).n:=by rw[hcx.1,p1]
  have hl':o+(cellsOf x).length≤cs.length:=by omega
  obtain ⟨q1,q2⟩:=Lw o v.cells.toList 0 arr (by rw[Nat.add_zero,Array.length_toList,hc.1];omega)
  have hfold:v.cells.zipIdx.foldl (fun cs (c,j)=> cs.setIfInBounds (o+j) c) arr=(v.cells.toList.zipIdx 0).foldl (fun cs (c,j)=> cs.setIfInBounds (o+j) c) arr:=by
   rw[←Array.foldl_toList]
   simp
  have hc':PI w im ρ (GB o (cellsOf x) cs) (v.cells.zipIdx.foldl (fun cs (c,j)=> cs.setIfInBounds (o+j) c) arr):=by
   rw[hfold]
   refine ⟨by rw[q1,IT hl',hc.1],fun k z u hz hu=> ?_⟩
   rw[F3 hl'] at hz
   rw[q2] at hu
   simp only[Nat.add_zero,Array.length_toList,hcx.1] at hu
   split at hz
   ·rename_i hin
    rw[if_pos hin] at hu
    simp only[Array.getElem?_toList] at hu
    exact hcx.2 _ z u hz hu
   ·rename_i hin
    rw[if_neg hin] at hu
    exact hc.2 k z u hz hu
  obtain ⟨arr',h1,h2,h3⟩:=Qm hpl (ps:=ps) (qs:=qs) hc' (by simpa using hl) (fun k i x hk=> hr (k+1) i x (by simpa using hk)) he
  refine ⟨arr',?_,h2,fun n hn=> ?_⟩
  ·rw[Instr.fill,hpl _ o t hft]
   simp only
   rw[if_neg ?_]
   ·exact h1
   ·simp only[Bool.or_eq_true,decide_eq_true_eq]
    have:=hc.1
    omega
  ·rcases h3 n hn with h4 | ⟨k,j,y,hk,hy⟩
   ·obtain ⟨k,z,hz,hnz⟩:=Cr h4
    rw[F3 hl'] at hz
    split at hz
    ·refine .inr ⟨0,_,x,rfl,?_⟩
     rw[←EA]
     exact AY hz hnz
    ·exact .inl (AY hz hnz)
   ·exact .inr ⟨k+1,j,y,by simpa using hk,hy⟩
theorem Py:∀{fs:List (Nat×Nat)} {flds:List Field},DH P D fs flds=true→
  flds.mapM (fun f=> (P.info? f.type).map fun i=> (f.offset,i.size))=some (fs.map fun x=> (x.1,(D x.2).n))
 | [],[],_=> rfl
 | [],_::_,h=> by simp[DH] at h
 | _::_,[],h=> by simp[DH] at h
 | (o,t)::fs,f::flds,h=> by
  simp only[DH,Bool.and_eq_true,decide_eq_true_eq] at h
  obtain ⟨⟨⟨h1,h2⟩,h3⟩,h4⟩:=h
  have ih:=Py h4
  cases hs:PE P t with
  | none=> rw[hs] at h3;cases h3
  | some n=>
   rw[hs] at h3
   simp only[Bool.and_eq_true,decide_eq_true_eq] at h3
   unfold PE at hs
   obtain ⟨i,hi,hi2⟩:=Option.map_eq_some_iff.1 hs
   simp[List.mapM_cons,h2,hi,ih,h1,hi2,h3.2]
theorem UQ (hT:Hu P D) {T:Nat} {fs:List (Nat×Nat)} {ps:List (Nat×AV)} {parts:Array (Nat×Value)} {im:Nat→Prop} {cs:List AV} (hk:(D T).k=.struct fs) (hl:ps.length=parts.toList.length)
  (hr:∀(k i:Nat) (x:AV),ps[k]? =some (i,x)→∃v,parts.toList[k]? =some (i,v)∧Rel w im ρ x v) (he:RM fs D (D T).zero ps=some cs):
  ∃arr,(Instr.build T parts).run P w=.ok (.agg arr) w∧PI w im ρ cs arr∧∀n∈Af cs,∃(k i:Nat) (x:AV),ps[k]? =some (i,x)∧n∈Ad x:=by
 obtain ⟨flds,hu,hf⟩:=F4 hT hk
 obtain ⟨i,z,hi,hi1,hi2,hi3,hi4,hi5⟩:=Fo hT (T:=T) (by rw[hk];rfl)
 obtain ⟨hz1,hz2,hz3⟩:=De hi4
 have hc:PI w im ρ (D T).zero z.cells:=⟨by simpa using hz1,fun k x v hx hv=> ⟨(hz3 k x v hx (by simpa using hv)).1,(hz3 k x v hx (by simpa using hv)).2 _ _ _⟩⟩
 have hpl:∀(i o t:Nat),fs[i]? =some (o,t)→((fs.map fun x=> (x.1,(D x.2).n)).toArray[i]?)=some (o,(D t).n):=by
  intro i o t h
  simp[h]
 obtain ⟨arr,h1,h2,h3⟩:=Qm (place:=fun i=> (fs.map fun x=> (x.1,(D x.2).n)).toArray[i]?) hpl hc hl hr he
 refine ⟨arr,run_build w T parts arr ?_,h2,fun n hn=> ?_⟩
 ·unfold Program.built
  simp only[hi,hu,hi3,Py hf]
  exact h1
 ·rcases h3 n hn with h4 | h4
  ·rw[hz2] at h4;cases h4
  ·exact h4
theorem KU {sz:Nat}:∀(vs:List Value) (k:Nat) (arr:Array Value),(k+vs.length)*sz≤arr.size→(∀v∈vs,v.cells.size=sz)→
  ∃arr',Instr.fill (fun i=> some (i*sz,sz)) arr ((List.range' k vs.length).zip vs)=some arr'∧arr'.size=arr.size∧(∀i,i < k*sz→arr'[i]? =arr[i]?)∧
   ∀(m:Nat) v j,vs[m]? =some v→j < sz→arr'[(k+m)*sz+j]? =v.cells[j]?
 | [],k,arr,_,_=> ⟨arr,rfl,rfl,fun _ _=> rfl,by simp⟩
 | v::vs,k,arr,hb,hs=> by
  have hv:=hs v (by simp)
  simp only[List.length_cons] at hb
  have hb1:(k+1)*sz≤arr.size:=Nat.le_trans (Nat.mul_le_mul_right _ (by omega)) hb
  have hb2:=hb1
  rw[Nat.add_mul] at hb2
  obtain ⟨q1,q2⟩:=Lw (k*sz) v.cells.toList 0 arr (by rw[Nat.add_zero,Array.length_toList];omega)
  have hfold:v.cells.zipIdx.foldl (fun cs (c,j)=> cs.setIfInBounds (k*sz+j) c) arr=(v.cells.toList.zipIdx 0).foldl (fun cs (c,j)=> cs.setIfInBounds (k*sz+j) c) arr:=by
   rw[←Array.foldl_toList]
   simp
  obtain ⟨arr',h1,h2,h3,h4⟩:=KU vs (k+1) (v.cells.zipIdx.foldl (fun cs (c,j)=> cs.setIfInBounds (k*sz+j) c) arr) (by rw[hfold,q1,show k+1+vs.length=k+(vs.length+1) by omega];exact hb) (fun u hu=> hs u (by simp[hu]))
  refine ⟨arr',?_,by rw[h2,hfold,q1],fun i hi=> ?_,fun m u j hm hj=> ?_⟩
  ·rw[List.length_cons,List.range'_succ,List.zip_cons_cons,Instr.fill]
   simp only
   rw[if_neg ?_]
   ·exact h1
   ·simp only[Bool.or_eq_true,decide_eq_true_eq]
    omega
  ·rw[h3 i (by rw[Nat.add_mul];omega),hfold,q2,if_neg (by omega)]
  ·cases m with
   | zero=>
    simp at hm
    subst hm
    rw[Nat.add_zero,h3 _ (by rw[Nat.add_mul];omega),hfold,q2,if_pos (by rw[Array.length_toList];omega)]
    simp
   | succ m=>
    simp at hm
    have:=h4 m u j hm hj
    rw[show k+(m+1)=k+1+m by omega]
    exact this
theorem Ln (hT:Hu P D) (h:Cu D S N0 B w0 ρ σ a w) {T n dst e:Nat} {xs:List AV} {vs:List Value} (hk:(D T).k=.slice e) (hn:xs.length=n) (hr:E8 w (Im S N0 B w ρ σ) ρ xs vs)
  (hg:xs.all (PX (D e).n)=true) (hsm:n*(D e).n≤16777216) (hd:blk σ dst=none):
  ∃r w',(Instr.buildSlice T n ((List.range n).zip vs).toArray).run P w=.ok r w'∧Sx D S N0 B w0 σ a {v:=.os dst,nw:=[(dst,.rows e (D e).n (xs.map cellsOf))]} r w':=by
 obtain ⟨hu,hne,hpz⟩:=Cy hT hk
 obtain ⟨i,z,hi,hi1,hi2,hi3,hi4,hi5⟩:=Fo hT hne
 have hvl:vs.length=n:=by rw[hr.1,hn]
 have hgood:∀(m:Nat) x,xs[m]? =some x→Rz x=true∧(cellsOf x).length=(D e).n∧Ad x=[]:=by
  intro m x hx
  have:=List.all_eq_true.1 hg x (List.mem_of_getElem? hx)
  simp only[PX,Bool.and_eq_true,decide_eq_true_eq] at this
  refine ⟨this.1.1,this.1.2,?_⟩
  have h2:=this.2
  rw[EA] at h2
  cases hq:Ad x with
  | nil=> rfl
  | cons c r=> rw[hq] at h2;cases h2
 have hcx:∀(m:Nat) v,vs[m]? =some v→∃x,xs[m]? =some x∧PI w (Im S N0 B w ρ σ) ρ (cellsOf x) v.cells:=by
  intro m v hv
  have hlt:m < xs.length:=by rw[←hr.1];exact (List.getElem?_eq_some_iff.1 hv).1
  have hx:xs[m]? =some xs[m]:=by simp[hlt]
  exact ⟨_,hx,Fx (hr.2 m _ v hx hv) (hgood m _ hx).1⟩
 have hcs:∀v∈vs,v.cells.size=(D e).n:=by
  intro v hv
  obtain ⟨m,hm⟩:=List.getElem?_of_mem hv
  obtain ⟨x,hx,hc⟩:=hcx m v hm
  rw[hc.1,(hgood m x hx).2.1]
 have main:∀base:Array Value,base.size=n*(D e).n→∃arr,Instr.fill (fun i=> some (i*(D e).n,(D e).n)) base ((List.range n).zip vs)=some arr∧arr.size=n*(D e).n∧BQ w (Im S N0 B w ρ σ) ρ (D e).n (xs.map cellsOf) arr.toList:=by
  intro base hb
  obtain ⟨arr,h1,h2,_,h4⟩:=KU (sz:=(D e).n) vs 0 base (by rw[hb,hvl];simp) hcs
  rw[hvl,←List.range_eq_range'] at h1
  refine ⟨arr,h1,by rw[h2,hb],by simp[h2,hb,hn],fun m row hm=> ?_⟩
  rw[List.getElem?_map] at hm
  obtain ⟨x,hx,rfl⟩:=Option.map_eq_some_iff.1 hm
  obtain ⟨g1,g2,g3⟩:=hgood m x hx
  refine ⟨g2,fun j y hy=> ?_⟩
  obtain ⟨v,hv,_⟩:=hr.at_ hx
  obtain ⟨x',hx',hc⟩:=hcx m v hv
  rw[hx] at hx'
  cases hx'
  have hj:j < (D e).n:=by rw[←g2];exact (List.getElem?_eq_some_iff.1 hy).1
  have hlt:j < v.cells.size:=by rw[hc.1];exact (List.getElem?_eq_some_iff.1 hy).1
  have hq:=h4 m v j hv hj
  rw[Nat.zero_add] at hq
  obtain ⟨q1,q2⟩:=hc.2 j y v.cells[j] hy (by simp[hlt])
  refine ⟨?_,v.cells[j],by simpa[hlt] using hq,q1,q2⟩
  refine List.eq_nil_iff_forall_not_mem.2 fun k hk=> ?_
  have:=AY hy hk
  rw[EA,g3] at this
  cases this
 have fin:∀arr:Array Value,arr.size=n*(D e).n→BQ w (Im S N0 B w ρ σ) ρ (D e).n (xs.map cellsOf) arr.toList→(Instr.buildSlice T n ((List.range n).zip vs).toArray).run P w=.ok (.slice (some ⟨w.heap.size,0,none⟩) n n) (w.alloc (.cells arr e))→
   ∃r w',(Instr.buildSlice T n ((List.range n).zip vs).toArray).run P w=.ok r w'∧Sx D S N0 B w0 σ a {v:=.os dst,nw:=[(dst,.rows e (D e).n (xs.map cellsOf))]} r w':=by
  intro arr harr hf hrun
  have hlen:(xs.map cellsOf).length=n:=by simp[hn]
  have hmax:n≤maxLen:=by
   have h1:n*1≤n*(D e).n:=Nat.mul_le_mul_left _ hpz
   have h2:n≤16777216:=by omega
   exact Nat.le_trans h2 (by decide)
  obtain ⟨i',hi',hst,_⟩:=h.newRows (w':=w.alloc (.cells arr e)) hT (n:=dst) (e:=e) (ks:=[]) (rs:=xs.map cellsOf) (row:=none) (v:=.slice (some ⟨w.heap.size,0,none⟩) n n) (vs:=arr.toList) hd hpz
   ⟨by simpa[hlen] using harr,.inr ⟨w.heap.size,n,arr,by rw[hlen],Nat.zero_le _,heap_alloc_new w _,by rw[hlen];exact Nat.le_refl _,hmax,harr,by rw[hlen,←harr,←Array.length_toList,List.take_length]⟩⟩
   hf ⟨rfl,rfl,rfl,by simp,fun k hk _=> F0 hk⟩ (fun b hb=> by cases hb) (fun b hb=> by simp[Value.ownBlock] at hb;exact .inr (by omega))
  refine ⟨_,_,hrun,_,hst,?_,fun m hm=> ?_⟩
  ·have:((ρ.set dst i') dst).sv=.slice (some ⟨w.heap.size,0,none⟩) n n:=by rw[BI.set_eq];exact hi'
   rw[←this]
   exact .os dst
  ·simp[Ad] at hm
   subst hm
   show (blk (Bv σ _ [(m,_)] []) m).isSome=true
   rw[CW];rfl
 by_cases h0:n=0
 ·subst h0
  obtain ⟨arr,h1,h2,h3⟩:=main #[] (by simp)
  have hv0:vs=[]:=List.eq_nil_of_length_eq_zero hvl
  subst hv0
  simp[Instr.fill] at h1
  subst h1
  refine fin #[] h2 h3 ?_
  have e0:(Array.map (fun x=> (default:Value)) (Array.range 0))=#[]:=by simp
  simp[Instr.buildSlice,run_underlying hu,J2 hT hne,Instr.fill,newRow,World.alloc_eq]
  congr 2
 ·have hp:0 < n*(D e).n:=Nat.mul_pos (by omega) hpz
  obtain ⟨arr,h1,h2,h3⟩:=main ((Array.range (n*(D e).n)).map (z.cells[·%z.cells.size]!)) (by simp)
  refine fin arr h2 h3 ?_
  refine run_buildSlice w T e n _ arr i z hu hi hi3 (by rw[hi1];omega) (by rw[hi1];omega) ?_
  rw[hi1]
  exact h1
theorem SB (hT:Hu P D) (h:Cu D S N0 B w0 ρ σ a w) {T n dst e:Nat} {xs:List AV} {vs:List Value} (hk:(D T).k=.slice e) (hn:xs.length=n) (hr:E8 w (Im S N0 B w ρ σ) ρ xs vs)
  (hb:∀x∈xs,∀m∈Ad x,(blk σ m).isSome=true) (hg:xs.all RQ=true) (he1:(D e).n=1) (hsm:n≤65536) (hp0:RQ (xs.getD 0 .junk)=true) (hd:blk σ dst=none):
  ∃r w',(Instr.buildSlice T n ((List.range n).zip vs).toArray).run P w=.ok r w'∧Sx D S N0 B w0 σ a {v:=.psl dst n,nw:=[(dst,.cells xs)]} r w':=by
 obtain ⟨hu,hne,hpz⟩:=Cy hT hk
 obtain ⟨i,z,hi,hi1,hi2,hi3,hi4,hi5⟩:=Fo hT hne
 rw[he1] at hi1
 have hvl:vs.length=n:=by rw[hr.1,hn]
 have h0:0 < n:=by
  cases xs with
  | nil=> cases hp0
  | cons x r=> simp at hn;omega
 have hptr:∀(m:Nat) v,vs[m]? =some v→v.cells=#[v]∧v.oneCell'=true:=by
  intro m v hv
  have hlt:m < xs.length:=by rw[←hr.1];exact (List.getElem?_eq_some_iff.1 hv).1
  have hx:xs[m]? =some xs[m]:=by simp[hlt]
  have h1:=List.all_eq_true.1 hg _ (List.mem_of_getElem? hx)
  have h2:=hr.2 m _ v hx hv
  generalize xs[m]=x at h1 h2
  cases h2 <;> simp only[RQ] at h1 <;> try (cases h1;done)
  exact ⟨rfl,rfl⟩
 obtain ⟨arr,h1,h2,_,h4⟩:=KU (sz:=1) vs 0 ((Array.range (n*1)).map (z.cells[·%z.cells.size]!)) (by rw[hvl];simp) (fun v hv=> by
  obtain ⟨m,hm⟩:=List.getElem?_of_mem hv
  rw[(hptr m v hm).1];rfl)
 rw[hvl,←List.range_eq_range'] at h1
 have hsz:arr.size=n:=by rw[h2];simp
 have hcell:∀(m:Nat) v,vs[m]? =some v→arr[m]? =some v:=fun m v hv=> by
  have:=h4 m v 0 hv (by omega)
  rw[(hptr m v hv).1] at this
  simpa using this
 have hc:PI w (Im S N0 B w ρ σ) ρ xs arr:=⟨by rw[hsz,hn],fun m x v hx hv=> by
  obtain ⟨u,hu',hrel⟩:=hr.at_ hx
  have:=hcell m u hu'
  rw[hv] at this
  cases this
  exact ⟨(hptr m v hu').2,hrel⟩⟩
 have hs:=h.newCells (T:=e) hd hc (fun m hm=> by
  obtain ⟨k,x,hx,hmx⟩:=Cr hm
  exact hb x (List.mem_of_getElem? hx) m hmx)
 have hrun:(Instr.buildSlice T n ((List.range n).zip vs).toArray).run P w=.ok (.slice (some ⟨w.heap.size,0,none⟩) n n) (w.alloc (.cells arr e)):=by
  refine run_buildSlice w T e n _ arr i z hu hi hi3 (by rw[hi1];omega) (by rw[hi1];omega) ?_
  rw[hi1]
  exact h1
 refine ⟨_,_,hrun,_,hs.1,.psl dst n n w.heap.size (by rw[BI.set_eq]) (Nat.le_refl _) (Nat.le_trans hsm (by decide)),fun m hm=> ?_⟩
 simp[Ad] at hm
 subst hm
 show (blk (Bv σ _ [(m,_)] []) m).isSome=true
 rw[CW];rfl
theorem SA (hT:Hu P D) (h:Cu D S N0 B w0 ρ σ a w) {bl:Nat→Option Be} {T dst el:Nat} {x:AV} {v:Value} {e:Ck} (hk:(D T).k=.slice el)
  (hx:Rel w (Im S N0 B w ρ σ) ρ x v) (hnx:∀n∈Ad x,(blk σ n).isSome=true) (he:GP D bl dst el x=some e) (hp:e.pre) (hd:blk σ dst=none):
  ∃r w',(Instr.buildSlice T 1 ((List.range 1).zip [v]).toArray).run P w=.ok r w'∧Sx D S N0 B w0 σ a e r w':=by
 obtain ⟨hu,hne,hpz⟩:=Cy hT hk
 obtain ⟨i,z,hi,hi1,hi2,hi3,hi4,hi5⟩:=Fo hT hne
 unfold GP at he
 cases hdc:DA (Ji bl 0 (cellsOf x)) bl 0 0 (cellsOf x) with
 | none=> rw[hdc] at he;cases he
 | some p=>
 obtain ⟨ncs,fs⟩:=p
 rw[hdc] at he
 cases he
 simp only at hp
 obtain ⟨p0,p1,p2⟩:=hp
 obtain ⟨d1,d2,d3⟩:=H3 hdc
 have hc:=Fx hx p0
 have hcs:v.cells.size=(D el).n:=by rw[hc.1,p1]
 have hbz:((Array.range (1*(D el).n)).map (z.cells[·%z.cells.size]!)).size=1*(D el).n:=by simp
 obtain ⟨arr,h1,h2,_,h4⟩:=KU (sz:=(D el).n) [v] 0 ((Array.range (1*(D el).n)).map (z.cells[·%z.cells.size]!)) (by rw[hbz];simp) (fun u hu=> by simp at hu;subst hu;exact hcs)
 rw[hbz,Nat.one_mul] at h2
 have hget:∀j,j < (D el).n→arr[j]? =v.cells[j]?:=fun j hj=> by
  have:=h4 0 v j rfl hj
  simpa using this
 have hr1:(List.range' 0 [v].length).zip [v]=(List.range 1).zip [v]:=rfl
 rw[hr1] at h1
 have hrun:(Instr.buildSlice T 1 ((List.range 1).zip [v]).toArray).run P w=.ok (.slice (some ⟨w.heap.size,0,none⟩) 1 1) (w.alloc (.cells arr el)):=by
  refine run_buildSlice w T el 1 _ arr i z hu hi hi3 (by rw[hi1];omega) (by rw[hi1];omega) ?_
  rw[hi1]
  exact h1
 have hset:∀m∈Gh fs,(ρ.set dst ⟨some w.heap.size,some ⟨w.heap.size,0,none⟩,1,1,(D el).n,fun _=> none⟩) m=ρ m∧(blk σ m).isSome=true:=fun m hm=> by
  obtain ⟨a',b',h1⟩:=BY.1 hm
  obtain ⟨_,j,_,hj⟩:=d3 a' b' m h1
  have hb:(blk σ m).isSome=true:=hnx m (by
   rw[←EA]
   exact AY hj (by simp[Ad]))
  refine ⟨BI.set_ne ?_,hb⟩
  rintro rfl
  rw[hd] at hb;cases hb
 have hst:=h.new1 (w':=w.alloc (.cells arr el)) (n:=dst) (y:=.deep el (D el).n [ncs] (Ji bl 0 (cellsOf x)) fs) (i:=⟨some w.heap.size,some ⟨w.heap.size,0,none⟩,1,1,(D el).n,fun _=> none⟩) (ks:=[]) hd rfl rfl rfl (by simp)
  (fun b hb _=> F0 hb)
  (fun b hb=> by
   have hb:((ρ.set dst ⟨some w.heap.size,some ⟨w.heap.size,0,none⟩,1,1,(D el).n,fun _=> none⟩) dst).b=some b∨∃k,((ρ.set dst ⟨some w.heap.size,some ⟨w.heap.size,0,none⟩,1,1,(D el).n,fun _=> none⟩) dst).h k=some b:=hb
   rw[BI.set_eq] at hb
   rcases hb with hb | ⟨k,hb⟩
   ·cases hb
    exact ⟨.inl (Nat.le_refl _),by simp⟩
   ·cases hb)
  (fun im' him hw=> by
   have hown:(w.alloc (.cells arr el)).ownsRow 0 el (D el).n (.slice (some ⟨w.heap.size,0,none⟩) 1 1) 1 arr.toList:=
    ⟨by simp[h2],.inr ⟨w.heap.size,1,arr,rfl,Nat.zero_le _,heap_alloc_new w _,Nat.le_refl _,by decide,by rw[h2,Nat.one_mul],by rw[Nat.one_mul,←h2,←Array.length_toList,List.take_length]⟩⟩
   refine Fv.of_ownsD (rs:=[ncs]) (v:=.slice (some ⟨w.heap.size,0,none⟩) 1 1) (base:=0) hown ⟨by simp[h2],fun k row hk=> ?_⟩ (fun a' b' m hm row y hk hy=> ?_) (fun a' b' m hm=> ?_) hpz rfl ⟨some ⟨w.heap.size,0,none⟩,1,rfl,by rw[BI.set_eq];rfl⟩ ?_
   ·have e:k=0∧row=ncs:=by
     cases k with
     | zero=> simp at hk;exact ⟨rfl,hk.symm⟩
     | succ k=> simp at hk
    obtain ⟨rfl,rfl⟩:=e
    refine ⟨by rw[d1,p1],fun j y hy=> ?_⟩
    obtain ⟨y0,q0,hy'⟩:=d2 j y hy
    have hj:j < (D el).n:=by rw[←p1];exact (List.getElem?_eq_some_iff.1 q0).1
    have hlt:j < v.cells.size:=by rw[hcs];exact hj
    obtain ⟨q1,q2⟩:=hc.2 j y0 v.cells[j] q0 (by simp[hlt])
    rw[Nat.zero_add] at hy'
    refine ⟨?_,v.cells[j],?_,q1,?_⟩
    ·rcases hy' with ⟨rfl,_⟩ | ⟨rfl,hn,_⟩
     ·rfl
     ·exact hn
    ·rw[Nat.zero_mul,Nat.zero_add,Array.getElem?_toList,hget j hj]
     simp[hlt]
    ·rcases hy' with ⟨rfl,_⟩ | ⟨rfl,hn,hp'⟩
     ·exact .of_rel (.junk _) (.inr (.inr rfl))
     ·exact .of_rel (q2.mono him hw fun m hm=> by rw[hn] at hm;cases hm) (by rcases hp' with hp' | hp';exact .inl hp';exact .inr (.inl hp'))
   ·rw[(hset m (BY.2 ⟨a',b',hm⟩)).1]
    obtain ⟨rfl,j,rfl,hj⟩:=d3 a' b' m hm
    have hjl:j < (D el).n:=by rw[←p1];exact (List.getElem?_eq_some_iff.1 hj).1
    have hlt:j < v.cells.size:=by rw[hcs];exact hjl
    obtain ⟨_,q2⟩:=hc.2 _ _ v.cells[j] hj (by simp[hlt])
    rw[Nat.zero_mul,Nat.zero_add,Nat.zero_add,Array.getElem?_toList,hget j hjl]
    have e:v.cells[j]? =some v.cells[j]:=by simp[hlt]
    rw[e]
    generalize v.cells[j]=u at q2
    cases q2
    rfl
   ·rw[(d3 a' b' m hm).1];simp
   ·rw[BI.set_eq]
    exact ⟨fun k b hk=> (by cases hk),fun k l b hk=> (by cases hk)⟩)
  (fun m hm=> ⟨(hset m hm).2,by simp⟩)
 refine ⟨_,_,hrun,_,hst.1,?_,fun m hm=> ?_⟩
 ·have:((ρ.set dst ⟨some w.heap.size,some ⟨w.heap.size,0,none⟩,1,1,(D el).n,fun _=> none⟩) dst).sv=.slice (some ⟨w.heap.size,0,none⟩) 1 1:=by rw[BI.set_eq];rfl
  exact Eq.mp (congrArg (Rel _ _ _ (.os dst)) this) (.os dst)
 ·simp[Ad] at hm
  subst hm
  show (blk (Bv σ _ [(m,_)] []) m).isSome=true
  rw[CW];rfl
theorem Lr (hT:Hu P D) (h:Cu D S N0 B w0 ρ σ a w) {R T e:Nat} {l:List UInt8} (hR:(P.underlying R)=some .string) (hk:(D T).k=.slice e) (hk8:(D e).k=.int .u8) (hl:l.length≤1099511627776):
  ∃r w',(convert R T (.string ⟨⟨l⟩⟩)).run P w=.ok r w'∧Sx D S N0 B w0 σ a {v:=.sl 1 (l.map Ac)} r w':=by
 obtain ⟨hu,hne,hpz⟩:=Cy hT hk
 have hrun:=run_bytes_of_string (P:=P) w R T e ⟨⟨l⟩⟩ hR hu (JJ hT hk8)
 have hlz:(⟨⟨l⟩⟩:ByteArray).size=l.length:=rfl
 rw[hlz] at hrun
 refine ⟨_,_,hrun,ρ,?_,?_,by simp[Ad]⟩
 ·exact (h.step (w':=w.drew.alloc _) (ks:=[]) (nw:=[]) (up:=[]) rfl rfl rfl (by simp) (fun b hb _=> F0 hb) (fun _ _ _=> rfl) (fun m hm=> by simp[AF] at hm) (fun m hm=> by simp[AF] at hm)
   (fun _ n y hy=> by simp[get] at hy) (fun n y b hn=> by simp[get] at hn) (fun n m y z b hn=> by simp[get] at hn) (fun n y z b hn=> by simp[get] at hn)).1
 ·have hz:(l.map Ac).length=l.length:=by simp
  have hcm:grownCap w l.length 0 e≤maxLen:=grownCap_le_maxLen w l.length 0 e (Nat.le_trans hl (by decide))
  have hge:=grownCap_ge w l.length 0 e
  generalize hgc:grownCap w l.length 0 e=gc at *
  have hsl:(Value.slice (some ⟨w.heap.size,0,none⟩) l.length gc)=.slice (some ⟨w.heap.size,0,none⟩) (l.map Ac).length gc:=by rw[hz]
  rw[hsl]
  refine .sl 1 (l.map Ac) _ _ w.heap.size 0 (fun i j=> .int .u8 (l.getD i 0).toNat) (by rw[hz];exact hge) hcm (fun _=> ⟨rfl,?_⟩) (fun i row hi=> ?_) (fun i j row x hi hj=> ?_) (fun i j row x hi hj=> ?_)
  ·refine ⟨by simp,.inr (.inl (Nat.le_trans h.base.1 h.frm.size)),fun n x hx hb=> ?_⟩
   have hx':blk σ n=some x:=by
    have:blk (Bv σ [] [] []) n=some x:=hx
    rw[BW] at this
    simp only[get,List.not_mem_nil,if_false] at this
    obtain ⟨y,hy,rfl⟩:=AR this
    have hbl:=h.owns_lt hy (BZ.1 hb)
    omega
   have:=h.owns_lt hx' hb
   omega
  ·rw[List.getElem?_map] at hi
   obtain ⟨c,hc,rfl⟩:=Option.map_eq_some_iff.1 hi
   rfl
  ·rw[List.getElem?_map] at hi
   obtain ⟨c,hc,rfl⟩:=Option.map_eq_some_iff.1 hi
   have hi':=(List.getElem?_eq_some_iff.1 hc).1
   cases j with
   | succ j=> simp[Ac] at hj
   | zero=>
    simp[Ac] at hj
    subst hj
    refine ⟨?_,rfl,by simp[Ad]⟩
    have h1:=World.cell?_alloc_mark w.drew (bytesRow ⟨⟨l⟩⟩ gc) e ((bytesRow ⟨⟨l⟩⟩ gc).size,(bytesRow ⟨⟨l⟩⟩ gc).size+1) i
    rw[bytesRow_at ⟨⟨l⟩⟩ _ i (by simpa using hi')] at h1
    rw[Nat.zero_add,Nat.mul_one,Nat.add_zero]
    refine h1.trans ?_
    have:l[i]=c:=by
     have:=hc
     rw[List.getElem?_eq_getElem hi'] at this
     exact Option.some.inj this
    simp[List.getD_eq_getElem?_getD,hc,this]
  ·rw[List.getElem?_map] at hi
   obtain ⟨c,hc,rfl⟩:=Option.map_eq_some_iff.1 hi
   cases j with
   | succ j=> simp[Ac] at hj
   | zero=>
    simp[Ac] at hj
    subst hj
    simp only[List.getD_eq_getElem?_getD,hc,Option.getD_some]
    exact .int _ _
theorem WL (hT:Hu P D) (h:Cu D S N0 B w0 ρ σ a w) {T e n:Nat} {kl kc:IntKind} (hk:(D T).k=.slice e) (hk8:(D e).k=.int .u8) (hb1:(D e).bytes=1) (hn:n≤65536):
  ∃r w',(Instr.makeSlice T (.int kl (n:Int)) (.int kc (n:Int))).run P w=.ok r w'∧Sx D S N0 B w0 σ a {v:=.sl 1 ((List.replicate n (0:UInt8)).map Ac)} r w':=by
 obtain ⟨hu,hne,hpz⟩:=Cy hT hk
 obtain ⟨i,z,hi,hi1,hi2,hi3,hi4,hi5⟩:=Fo hT hne
 have hz:=To hT hk8 hi
 rw[hz] at hi3
 cases hi3
 have hin:i.size=1:=by
  have h1:=De hi4
  rw[hi1,←hi5,←h1.1]
  rfl
 have hbb:(i.bytes:Int)*n≤281474976710656:=by rw[hi2,hb1];omega
 have hrun:=run_make (P:=P) w T e i (.int .u8 0) hu hi hz kl kc n n (by omega) (Int.le_refl _) hbb (by omega)
 rw[hin,Nat.mul_one,Int.toNat_natCast] at hrun
 refine ⟨_,_,hrun,ρ,?_,?_,by simp[Ad]⟩
 ·exact (h.step (w':=w.alloc _) (ks:=[]) (nw:=[]) (up:=[]) rfl rfl rfl (by simp) (fun b hb _=> F0 hb) (fun _ _ _=> rfl) (fun m hm=> by simp[AF] at hm) (fun m hm=> by simp[AF] at hm)
   (fun _ n y hy=> by simp[get] at hy) (fun n y b hn=> by simp[get] at hn) (fun n m y z b hn=> by simp[get] at hn) (fun n y z b hn=> by simp[get] at hn)).1
 ·have hsl:(Value.slice (some ⟨w.heap.size,0,none⟩) n n)=.slice (some ⟨w.heap.size,0,none⟩) ((List.replicate n (0:UInt8)).map Ac).length n:=by simp
  have hcell:∀(i:Nat) row,((List.replicate n (0:UInt8)).map Ac)[i]? =some row→i < n∧row=[.int .u8 0]:=fun i row hi=> by
   rw[List.getElem?_map,List.getElem?_replicate] at hi
   split at hi
   ·rename_i hlt
    cases hi
    exact ⟨hlt,rfl⟩
   ·cases hi
  rw[hsl]
  refine .sl 1 _ _ _ w.heap.size 0 (fun i j=> .int .u8 0) (by simp) (Nat.le_trans hn (by simp[maxLen])) (fun _=> ⟨rfl,?_⟩) (fun i row hi=> ?_) (fun i j row x hi hj=> ?_) (fun i j row x hi hj=> ?_)
  ·refine ⟨by simp,.inr (.inl (Nat.le_trans h.base.1 h.frm.size)),fun n x hx hb=> ?_⟩
   have hx':blk σ n=some x:=by
    have:blk (Bv σ [] [] []) n=some x:=hx
    rw[BW] at this
    simp only[get,List.not_mem_nil,if_false] at this
    obtain ⟨y,hy,rfl⟩:=AR this
    have hbl:=h.owns_lt hy (BZ.1 hb)
    omega
   have:=h.owns_lt hx' hb
   omega
  ·rw[(hcell i row hi).2];rfl
  ·obtain ⟨hlt,rfl⟩:=hcell i row hi
   cases j with
   | succ j=> simp at hj
   | zero=>
    simp at hj
    subst hj
    refine ⟨?_,rfl,by simp[Ad]⟩
    rw[Nat.zero_add,Nat.mul_one,Nat.add_zero]
    unfold World.cell?
    have:(w.alloc (.cells (madeCells (Value.int IntKind.u8 0).cells n) e)).heap[w.heap.size]? =some (.cells (madeCells (Value.int IntKind.u8 0).cells n) e):=by
     show (w.heap.push _)[w.heap.size]? =_
     simp
    rw[this]
    simp[madeCells,hlt,Value.cells,Nat.mod_one]
  ·obtain ⟨hlt,rfl⟩:=hcell i row hi
   cases j with
   | succ j=> simp at hj
   | zero=> simp at hj;subst hj;exact .int _ _
end
section
variable {P:Program} {D:Nat→TI} {G:PW} {S N0:Nat→Prop} {B:Nat} {w0:W0} {ρ:BI} {σ:AS} {a:Act} {w:World}
theorem Ax {o:Oper} {K:Act→World→Prop} {Q:Exit→Act→World→Prop} {s:Sem Value} (hex:execOp a.eval o=(do pure (.value (←s)))) {v:Value} {w':World} (hrun:s.run P w=.ok v w') (hk:K (a.put o.dst v) w'):o.wp P a w K Q:=by
 unfold Oper.wp
 rw[hex]
 simp only[Sem.run_bind,hrun,Result.andThen_ok,Sem.run_pure,Oper.upon]
 exact hk
theorem Iu (τ:AS):Bv τ [] [] []=τ:=rfl
theorem Fa.mak {s:Sem Value} {e:Ck} (h:Cu D S N0 B w0 ρ σ a w) (hy:Fa P S N0 B ρ σ w s e):∃v,s.run P w=.ok v w∧Sx D S N0 B w0 σ a e v w:=by
 obtain ⟨a1,a2,a3,v,h1,h2,h3⟩:=hy
 refine ⟨v,h1,ρ,?_⟩
 rw[a1,a2,a3,Iu]
 exact ⟨h.freeze e.fr,h2,h3⟩
theorem AaB (h:Cu D S N0 B w0 ρ σ a w) {xs:List Operand} (hug:(xs.map (ev σ)).all ug=true):E8 w (Im S N0 B w ρ σ) ρ ((xs.map (ev σ)).map uv) (xs.map a.eval)∧∀x∈(xs.map (ev σ)).map uv,∀n∈Ad x,(blk σ n).isSome=true:=by
 refine ⟨⟨by simp,fun i x v hx hv=> ?_⟩,fun x hx n hn=> ?_⟩
 ·rw[List.map_map,List.getElem?_map] at hx
  obtain ⟨y,hy,rfl⟩:=Option.map_eq_some_iff.1 hx
  rw[List.getElem?_map,hy] at hv
  cases hv
  exact (h.ev y).1.uv (List.all_eq_true.1 hug _ (List.mem_map.2 ⟨y,List.mem_of_getElem? hy,rfl⟩))
 ·rw[List.map_map,List.mem_map] at hx
  obtain ⟨y,hy,rfl⟩:=hx
  simp only[Function.comp,Aay] at hn
  exact (h.ev y).2 n hn
def QA:Op→Bool
 | .call c=> match c.callee with
  | .value _=> true
  | _=> false
 | _=> false
theorem B1:∀{l:List Nat},CC σ l=true→∀n∈l,blk σ n=none
 | [],_,n,hn=> by cases hn
 | k::r,h,n,hn=> by
  simp only[CC,Bool.and_eq_true,Option.isNone_iff_eq_none] at h
  rcases List.mem_cons.1 hn with rfl | hn
  ·exact h.1
  ·exact B1 h.2 n hn
theorem XU (hT:Hu P D) {T:Nat} (h:(D T).k=.bool):P.underlying T=some .bool:=by
 have h1:=(Fp hT (T:=T) (by rw[h];rfl)).1
 rw[h] at h1
 cases hu:P.underlying T with
 | none=> rw[hu] at h1;cases h1
 | some u=> rw[hu] at h1;cases u <;> simp[I6] at h1;rfl
theorem Po {T:Nat} (h:P.underlying T=some .bool) (p q:Bool):(Op.equal T (.bool p) (.bool q)).run P w=.ok (p==q) w:=by
 unfold Op.equal
 rw[show Op.maxDepth=9999+1 from rfl]
 unfold Op.equalIn
 simp[run_underlying h]
theorem VX (hT:Hu P D) {T:Nat} (h:(D T).k=.iface):∃ms,P.underlying T=some (.interface ms):=by
 have h1:=(Fp hT (T:=T) (by rw[h];rfl)).1
 rw[h] at h1
 cases hu:P.underlying T with
 | none=> rw[hu] at h1;cases h1
 | some u=> rw[hu] at h1;cases u <;> simp[I6] at h1;exact ⟨_,rfl⟩
theorem Wy {T:Nat} {ms:Array (String×TypeId)} (h:P.underlying T=some (.interface ms)) {p:Bool} {u v:Value} (hu:I5 p u=true) (hv:I5 false v=true):(Op.equal T u v).run P w=.ok (!p) w:=by
 unfold Op.equal
 rw[show Op.maxDepth=9999+1 from rfl]
 unfold Op.equalIn
 cases v <;> simp only[I5,Bool.false_eq_true] at hv
 cases p <;> cases u <;> simp only[I5,Bool.false_eq_true] at hu <;> simp[run_underlying h]
theorem Pk {T:Nat} {ms:Array (String×TypeId)} (h:P.underlying T=some (.interface ms)) {p:Bool} {u v:Value} (hu:I5 p u=true) (hv:I5 false v=true):(binOp .eql T u v).run P w=.ok (.bool (!p)) w∧(binOp .neq T u v).run P w=.ok (.bool p) w:=by
 have he:=Wy (w:=w) h hu hv
 cases v <;> simp only[I5,Bool.false_eq_true] at hv
 cases p <;> cases u <;> simp only[I5,Bool.false_eq_true] at hu <;> simp[binOp,he]
theorem RP {T:Nat} {op:BinOp} {X:Operand} {k u v:Value} (hv:I5 false v=true):(eqGuard op T X (.const k) u v).run P w=.ok () w:=by
 cases v <;> simp only[I5,Bool.false_eq_true] at hv
 cases op <;> cases u <;> simp[eqGuard]
theorem SY (hT:Hu P D) {op:BinOp} {T:TypeId} {x y:AV} {X Y:Operand} {u v:Value} {e:Ck} {im:Nat→Prop} (hx:Rel w im ρ x u) (hy:Rel w im ρ y v) (he:Ls D T (isC Y) op x y=some e) (hp:e.pre):
  XW e∧∃r,(do eqGuard op T X Y u v;binOp op T u v:Sem Value).run P w=.ok r w∧Rel w im ρ e.v r∧Ad e.v=[]:=by
 unfold Ls at he
 split at he
 ·rename_i p
  split at he
  ·rename_i q hk
   cases he
   rw[hx.bool_,hy.bool_]
   exact ⟨⟨rfl,rfl,rfl,rfl⟩,.bool (p==q),by simp[eqGuard,binOp,Po (XU hT hk)],.bool _,by simp[Ad]⟩
  ·rename_i q hk
   cases he
   rw[hx.bool_,hy.bool_]
   exact ⟨⟨rfl,rfl,rfl,rfl⟩,.bool (!(p==q)),by simp[eqGuard,binOp,Po (XU hT hk)],.bool _,by simp[Ad]⟩
  ·cases he
 ·rename_i p
  split at he
  ·rename_i hk hc
   cases he
   cases Y <;> simp only[isC,Bool.false_eq_true] at hc
   obtain ⟨ms,hu⟩:=VX hT hk
   cases hx with | ifc _ _ h1=> cases hy with | ifc _ _ h2=>
   refine ⟨⟨rfl,rfl,rfl,rfl⟩,.bool (!p),?_,.bool _,by simp[Ad]⟩
   simp only[Sem.run_bind,RP h2,Result.andThen_ok,Pk hu h1 h2]
  ·rename_i hk hc
   cases he
   cases Y <;> simp only[isC,Bool.false_eq_true] at hc
   obtain ⟨ms,hu⟩:=VX hT hk
   cases hx with | ifc _ _ h1=> cases hy with | ifc _ _ h2=>
   refine ⟨⟨rfl,rfl,rfl,rfl⟩,.bool p,?_,.bool _,by simp[Ad]⟩
   simp only[Sem.run_bind,RP h2,Result.andThen_ok,Pk hu h1 h2]
  ·cases he
 ·exact X0 hx hy he hp
theorem WN (hT:Hu P D) (h:Cu D S N0 B w0 ρ σ a w) {t e el T sz:Nat} {rs:List (List AV)} {v:Value} (hb:blk σ t=some (.rows e sz rs)) (hk:(D T).k=.slice el) (h8:(D el).k=.int .u8)
  (hx:Rel w (Im S N0 B w ρ σ) ρ (.os t) v) (hne:rs≠[]):∃r w',(convert T T v).run P w=.ok r w'∧Sx D S N0 B w0 σ a {v:=.sl sz rs,kl:=[t]} r w':=by
 have hv:v=(ρ t).sv:=by cases hx;rfl
 subst hv
 obtain ⟨g1,g2,g3,A,c,g4,g5,g6,g7⟩:=h.hp.blk t _ hb
 rcases g7 with ⟨h0,_⟩ | ⟨b,arr,k1,rfl,k2,k3,k4⟩
 ·exact absurd h0 hne
 have hlt:b < w.heap.size:=(Array.getElem?_eq_some_iff.1 k2).1
 have hsh:w.shape? b=some (e,arr.size):=by unfold World.shape?;rw[k2]
 let w':World:=w.freeze ⟨b,arr.size,none⟩ 1
 have hw':w'={w with heap:=w.heap.modify b fun | .cells c elem (lo,hi)=> .cells c elem (if lo==hi then (arr.size,arr.size+1) else (min lo arr.size,max hi (arr.size+1))) | o=> o}:=by
  simp only[w',World.freeze]
  rfl
 have hrun:(convert T T (.slice (some ⟨b,0,none⟩) rs.length c)).run P w=.ok (.slice (some ⟨b,0,none⟩) rs.length c) w':=by
  simp[convert,run_underlying (Cy hT hk).1,run_underlying (JJ hT h8),markStringish,hsh]
  rfl
 have hsame:∀b',b'≠b→w'.heap[b']? =w.heap[b']?:=fun b' hb'=> by
  rw[hw']
  simp only[Array.getElem?_modify]
  rw[if_neg (fun e=> hb' e.symm)]
 have hself:w'.heap[b]? =some (.cells arr e (arr.size,arr.size+1)):=by
  rw[hw']
  simp only[Array.getElem?_modify,if_true,k2,Option.map_some]
  rfl
 have hsize:w'.heap.size=w.heap.size:=by rw[hw'];simp
 have hst:=h.step (w':=w') (ρ':=ρ) (ks:=[t]) (nw:=[]) (up:=[]) (by rw[hw']) (by rw[hw']) (by rw[hw']) (by omega)
  (fun b' _ hn=> hsame b' fun e=> hn t _ (.inl (by simp)) hb (Ew (e ▸k1))) (fun n _ _=> rfl) (fun n hn=> by simp[AF] at hn) (fun n hn=> by simp[AF] at hn)
  (fun _ n y hy=> by simp[get] at hy) (fun n y b' hn=> by simp[get] at hn) (fun n m y z b' hn=> by simp[get] at hn) (fun n y z b' hn=> by simp[get] at hn)
 refine ⟨_,w',by rw[g4];exact hrun,ρ,hst.1,?_,by simp[Ad]⟩
 have himb:C1 S N0 B w' ρ (blk (Bv σ [t] [] [])) b:=by
  refine ⟨by rw[hsize];exact hlt,.inr (h.own t _ b hb k1),fun n x hx hnb=> ?_⟩
  rw[BW] at hx
  simp only[get,List.mem_singleton] at hx
  split at hx
  ·cases hx
  ·rename_i hnt
   obtain ⟨y,hy,rfl⟩:=AR hx
   exact hnt (h.hp.inj n t b y _ hy hb (BZ.1 hnb) (Ew k1))
 refine .sl sz rs _ c b 0 (fun i j=> arr.getD (i*sz+j) undef) g5 g6 (fun _=> ⟨rfl,himb⟩) (fun i row hi=> (k4 i row hi).1) (fun i j row x hi hj=> ?_) (fun i j row x hi hj=> ?_)
 ·obtain ⟨hn,v,hv,h1v,hrel⟩:=(k4 i row hi).2 j x hj
  have hg:arr.getD (i*sz+j) undef=v:=by rw[Array.getD_eq_getD_getElem?,hv];rfl
  rw[hg]
  refine ⟨?_,h1v,hn⟩
  rw[Nat.zero_add]
  unfold World.cell?
  rw[hself]
  simp[hv]
 ·obtain ⟨hn,v,hv,h1v,hrel⟩:=(k4 i row hi).2 j x hj
  have hg:arr.getD (i*sz+j) undef=v:=by rw[Array.getD_eq_getD_getElem?,hv];rfl
  rw[hg]
  exact hrel.mono (fun b hb=> (hst.2 b hb).1) (fun b hb=> (hst.2 b hb).2) (fun n hn'=> rfl)
theorem Rw (hT:Hu P D) (h:Cu D S N0 B w0 ρ σ a w) {bl:Nat→Option Be} (hbl:∀n x,bl n=some x→blk σ n=some x) {R T:Nat} {x:AV} {v:Value} {e:Ck}
  (hx:Rel w (Im S N0 B w ρ σ) ρ x v) (he:FO D bl R T x=some e) (hp:e.pre):∃r w',(convert R T v).run P w=.ok r w'∧Sx D S N0 B w0 σ a e r w':=by
 have lift:∀{e:Ck} {r:Value},XW e→(convert R T v).run P w=.ok r w→Rel w (Im S N0 B w ρ σ) ρ e.v r→Ad e.v=[]→∃r w',(convert R T v).run P w=.ok r w'∧Sx D S N0 B w0 σ a e r w':=by
  intro e r h1 h2 h3 h4
  obtain ⟨v',k1,k2⟩:=Fa.mak h (P:=P) (Fa.only h1 h2 h3 (by rw[h4];simp))
  exact ⟨v',w,k1,k2⟩
 unfold FO at he
 split at he
 ·rename_i k' k hS hk
  split at he
  ·rename_i k2 n
   cases he
   have hv:=hx.int_
   refine lift ⟨rfl,rfl,rfl,rfl⟩ (r:=.int k (k.wrap n)) ?_ (.int _ _) (by simp[Ad])
   rw[hv]
   simp[convert,run_underlying (JJ hT hS),run_underlying (JJ hT hk),Conv.intToInt]
  ·cases he
 ·rename_i hS hk
  split at he
  ·rename_i l
   cases he
   have hv:=hx.str_
   refine lift ⟨rfl,rfl,rfl,rfl⟩ (r:=.string ⟨⟨l⟩⟩) ?_ (.str _) (by simp[Ad])
   rw[hv]
   simp[convert,run_underlying (Hl hT hS),run_underlying (Hl hT hk)]
  ·cases he
 ·rename_i el hS hk
  split at he
  ·rename_i h8
   obtain ⟨r,hr,rfl⟩:=Option.map_eq_some_iff.1 he
   obtain ⟨sz,rs⟩:=r
   exact lift ⟨rfl,rfl,rfl,rfl⟩ (Lp hT h hbl hS hk (P0 h8) hx hr hp) (.str _) (by simp[Ad])
  ·cases he
 ·rename_i el hS hk
  split at he
  ·rename_i l
   split at he
   ·rename_i h8
    cases he
    rw[hx.str_]
    exact Lr hT h (Hl hT hS) hk (P0 h8) hp
   ·cases he
  ·cases he
 ·rename_i el' el hS hk
  split at he
  ·rename_i t
   split at he
   ·rename_i e0 sz rs hrt
    split at he
    ·rename_i hc
     obtain ⟨rfl,h8⟩:=hc
     cases he
     exact WN hT h (hbl t _ (E5 hrt)) hk (P0 h8) hx hp
    ·cases he
   ·cases he
  ·cases he
 ·cases he
theorem Yu (hT:Hu P D) (h:Cu D S N0 B w0 ρ σ a w) {o:Oper} {e:Ck} {K:Act→World→Prop} {Q:Exit→Act→World→Prop} (hnc:QA o.op=false)
  (hug:(o.op.operands.toList.map (ev σ)).all ug=true) {dn:Nat} (he:Zp D G (GA σ (Af (o.op.operands.toList.map (ev σ)))) dn o.op ((o.op.operands.toList.map (ev σ)).map uv)=some e)
  (hf:CC σ (AF e.nw)=true) (hp:e.pre) (hK:∀v w',Sx D S N0 B w0 σ a e v w'→K (a.put o.dst v) w'):o.wp P a w K Q:=by
 obtain ⟨dst,op,ty,pos,af,gd⟩:=o
 simp only at *
 obtain ⟨hR,hN⟩:=AaB h hug
 generalize hns:Af (op.operands.toList.map (ev σ))=ns at he
 have hbl:∀n x,GA σ ns n=some x→blk σ n=some x:=fun n x hx=> F9 hx
 cases op <;> simp only[Zp] at he <;> try (cases he;done)
 case move x=>
  simp only[Op.operands,List.map_cons,List.map_nil] at he hR hN
  cases he
  have hr:=hR.2 0 _ _ rfl rfl
  obtain ⟨v,h1,h2⟩:=Fa.mak h (P:=P) (s:=pure (a.eval x)) (e:={v:=uv (ev σ x)}) (Fa.only ⟨rfl,rfl,rfl,rfl⟩ rfl hr (hN _ (by simp)))
  exact Ax rfl h1 (hK _ _ h2)
 case assign x=>
  simp only[Op.operands,List.map_cons,List.map_nil] at he hR hN
  cases he
  have hr:=hR.2 0 _ _ rfl rfl
  obtain ⟨v,h1,h2⟩:=Fa.mak h (P:=P) (s:=pure (a.eval x)) (e:={v:=uv (ev σ x)}) (Fa.only ⟨rfl,rfl,rfl,rfl⟩ rfl hr (hN _ (by simp)))
  exact Ax rfl h1 (hK _ _ h2)
 case alloc T=>
  split at he
  ·cases he
  rename_i hno
  simp only[Bool.not_eq_true] at hno
  cases he
  have hd:=B1 hf dn (by simp[AF])
  obtain ⟨i,z,hi,hi1,hi2,hi3,hi4,hi5⟩:=Fo hT hno
  obtain ⟨hz1,hz2,hz3⟩:=De hi4
  have hc:PI w (Im S N0 B w ρ σ) ρ (D T).zero z.cells:=⟨by simpa using hz1,fun k x v hx hv=> ⟨(hz3 k x v hx (by simpa using hv)).1,(hz3 k x v hx (by simpa using hv)).2 _ _ _⟩⟩
  have hs:=h.newCells (T:=T) hd hc (by rw[hz2];simp)
  refine Ax (s:=Instr.alloc T true (.tuple #[])) rfl (v:=.pointer (some ⟨w.heap.size,0,none⟩)) (w':=w.alloc (.cells z.cells T)) ?_ (hK _ _ ⟨_,hs.1,.ptr _ 0 w.heap.size (by rw[BI.set_eq]),fun m hm=> ?_⟩)
  ·simp[Instr.alloc,zeroValue,typeInfo,hi,hi3,newVar,newRow,World.alloc_eq]
  ·simp[Ad] at hm
   subst hm
   show (blk (Bv σ _ [(_,_)] []) _).isSome=true
   rw[CW];rfl
 case box T x=>
  simp only[Op.operands,List.map_cons,List.map_nil] at he hR hN
  cases he
  simp only at hp
  have hr:=hR.2 0 _ _ rfl rfl
  have hd:=B1 hf dn (by simp[AF])
  have hs:=h.newCells (T:=T) hd (Fx hr hp) (fun m hm=> hN (uv (ev σ x)) (by simp) m (by rwa [EA] at hm))
  refine Ax (s:=Instr.box T (a.eval x)) rfl (v:=.pointer (some ⟨w.heap.size,0,none⟩)) (w':=w.alloc (.cells (a.eval x).cells T)) ?_ (hK _ _ ⟨_,hs.1,.ptr _ 0 w.heap.size (by rw[BI.set_eq]),fun m hm=> ?_⟩)
  ·simp[Instr.box,newVar,newRow,World.alloc_eq]
  ·simp[Ad] at hm
   subst hm
   show (blk (Bv σ _ [(_,_)] []) _).isSome=true
   rw[CW];rfl
 case build T ps=>
  split at he
  case h_2=> cases he
  rename_i fs hk
  obtain ⟨cs,hcs,rfl⟩:=Option.map_eq_some_iff.1 he
  have hops:(Op.build T ps).operands.toList=ps.toList.map (·.2):=by simp[Op.operands]
  rw[hops] at hcs hR hN
  have hlen:((ps.toList.map (·.1)).zip ((((ps.toList.map (·.2))).map (ev σ)).map uv)).length=(ps.map fun x=> (x.1,a.eval x.2)).toList.length:=by simp
  obtain ⟨arr,h1,h2,h3⟩:=UQ (P:=P) (w:=w) (ρ:=ρ) (parts:=ps.map fun x=> (x.1,a.eval x.2)) (im:=Im S N0 B w ρ σ) hT hk hlen (fun k i x hkx=> by
   rw[List.getElem?_zip_eq_some] at hkx
   obtain ⟨q1,q2⟩:=hkx
   rw[List.getElem?_map] at q1
   obtain ⟨p,hp',rfl⟩:=Option.map_eq_some_iff.1 q1
   refine ⟨a.eval p.2,by simp[←Array.getElem?_toList,hp'],hR.2 k x _ q2 (by simp[hp'])⟩) hcs
  obtain ⟨v,g1,g2⟩:=Fa.mak h (P:=P) (s:=Instr.build T (ps.map fun x=> (x.1,a.eval x.2))) (e:={v:=.agg cs}) (Fa.only ⟨rfl,rfl,rfl,rfl⟩ h1 (.agg _ _ h2.1 (fun i v hv=> by
    have hlt:=(Array.getElem?_eq_some_iff.1 hv).1
    exact (h2.2 i _ v (List.getElem?_eq_getElem (by rw[←h2.1];exact hlt)) hv).1) (fun i x v hx hv=> (h2.2 i x v hx hv).2)) (fun n hn=> by
   rw[Ad] at hn
   obtain ⟨k,i,x,hkx,hx⟩:=h3 n hn
   rw[List.getElem?_zip_eq_some] at hkx
   exact hN x (List.mem_of_getElem? hkx.2) n hx))
  exact Ax rfl g1 (hK _ _ g2)
 case buildSlice T n ps=>
  split at he
  case h_2=> cases he
  rename_i el hk
  split at he
  case isFalse=> cases he
  rename_i hidx
  have hops:(Op.buildSlice T n ps).operands.toList=ps.toList.map (·.2):=by simp[Op.operands]
  have hpl:ps.toList.length=n:=by have:=congrArg List.length hidx;simpa using this
  split at he
  ·rename_i hpt
   cases he
   simp only at hp
   have hd:=B1 hf dn (by simp[AF])
   rw[hops] at hp hR hN hK hpt
   obtain ⟨r,w',h1,h2⟩:=SB hT h (T:=T) (n:=n) (dst:=dn) hk (by simp[←hpl]) hR (fun x hx m hm=> hN x hx m hm) hp.1 hpt.2 hp.2 hpt.1 hd
   refine Ax (s:=Instr.buildSlice T n (ps.map fun x=> (x.1,a.eval x.2))) rfl (v:=r) (w':=w') ?_ (hK _ _ h2)
   rw[←h1]
   congr 2
   apply Array.ext'
   rw[←hidx]
   simp only[Array.toList_map,List.map_map]
   apply List.ext_getElem?
   intro k
   simp only[List.getElem?_map,List.getElem?_zip_eq_some,List.zip_map',Function.comp]
  split at he
  ·rename_i hhn
   rw[hops] at he hR hN hhn
   match hps:ps.toList,hhn with
   | [q],hhn=>
    rw[hps] at he hR hN
    simp only[List.map_cons,List.map_nil,List.getD_cons_zero] at he hR hN
    have hn1:n=1:=by rw[←hpl,hps];rfl
    subst hn1
    have hnw:∃y,e.nw=[(dn,y)]:=by
     unfold GP at he
     split at he
     ·cases he;exact ⟨_,rfl⟩
     ·cases he
    obtain ⟨y,hnw⟩:=hnw
    have hd:=B1 hf dn (by rw[hnw];simp[AF])
    have hr:=hR.2 0 _ _ rfl rfl
    obtain ⟨r,w',h1,h2⟩:=SA hT h (T:=T) (dst:=dn) hk hr (hN _ (by simp)) he hp hd
    refine Ax (s:=Instr.buildSlice T 1 (ps.map fun x=> (x.1,a.eval x.2))) rfl (v:=r) (w':=w') ?_ (hK _ _ h2)
    rw[←h1]
    congr 2
    apply Array.ext'
    have hq:q.1=0:=by
     rw[hps] at hidx
     simpa using hidx
    rw[Array.toList_map,hps]
    simp[hq]
   | [],hhn=> simp[KV] at hhn
   | _::_::_,hhn=> simp[KV] at hhn
  cases he
  simp only at hp
  have hd:=B1 hf dn (by simp[AF])
  rw[hops] at hp hR hN hK
  obtain ⟨r,w',h1,h2⟩:=Ln hT h (T:=T) (n:=n) (dst:=dn) hk (by simp[←hpl]) hR hp.1 hp.2 hd
  refine Ax (s:=Instr.buildSlice T n (ps.map fun x=> (x.1,a.eval x.2))) rfl (v:=r) (w':=w') ?_ (hK _ _ h2)
  rw[←h1]
  congr 2
  apply Array.ext'
  rw[←hidx]
  simp only[Array.toList_map,List.map_map]
  apply List.ext_getElem?
  intro k
  simp only[List.getElem?_map,List.getElem?_zip_eq_some,List.zip_map',Function.comp]
 case load T x=>
  simp only[Op.operands,List.map_cons,List.map_nil] at he hR hN
  have hr:=hR.2 0 _ _ rfl rfl
  obtain ⟨v,h1,h2⟩:=Fa.mak h (QH (P:=P) hT h hbl hr he)
  exact Ax rfl h1 (hK _ _ h2)
 case store T x y=>
  simp only[Op.operands,List.map_cons,List.map_nil] at he hR hN
  split at he
  ·cases he
  rename_i hno
  simp only[Bool.not_eq_true] at hno
  have hr:=hR.2 0 _ _ rfl rfl
  have hr':=hR.2 1 _ _ rfl rfl
  obtain ⟨w',h1,h2,ρ',h3⟩:=VT (P:=P) hT h hbl hno hr' (hN _ (by simp)) hr he hp
  unfold Oper.wp
  have hex:execOp a.eval ⟨dst,.store T x y,ty,pos,af,gd⟩=(do Instr.storeAt T (a.eval x) (a.eval y);pure .skip):=rfl
  rw[hex]
  simp only[Sem.run_bind,h1,Result.andThen_ok,Sem.run_pure,Oper.upon]
  exact hK _ _ ⟨ρ',h3,by rw[h2];exact .junk _,by rw[h2];simp[Ad]⟩
 case nilCheck x=>
  simp only[Op.operands,List.map_cons,List.map_nil] at he hR hN
  have hr:=hR.2 0 _ _ rfl rfl
  have hn:=hN (uv (ev σ x)) (by simp)
  generalize uv (ev σ x)=X at *
  generalize hv:a.eval x=V at *
  have key:(∃ad,V=.pointer (some ad))∧e={v:=X}:=by
   cases hr <;> simp only at he <;> first
    | (cases he;done)
    | (cases he;exact ⟨⟨_,rfl⟩,rfl⟩)
  obtain ⟨⟨ad,rfl⟩,rfl⟩:=key
  obtain ⟨v,h1,h2⟩:=Fa.mak h (P:=P) (s:=pure (.pointer (some ad))) (e:={v:=X}) (Fa.only ⟨rfl,rfl,rfl,rfl⟩ rfl hr hn)
  have hex:execOp a.eval ⟨dst,.nilCheck x,ty,pos,af,gd⟩=(do pure (.value (←(pure (.pointer (some ad)):Sem Value)))):=by
   simp only[execOp,hv];rfl
  exact Ax hex h1 (hK _ _ h2)
 case binOp bo T x y T'=>
  simp only[Op.operands,List.map_cons,List.map_nil] at he hR hN
  have hr:=hR.2 0 _ _ rfl rfl
  have hr':=hR.2 1 _ _ rfl rfl
  have hex:execOp a.eval ⟨dst,.binOp bo T x y T',ty,pos,af,gd⟩=(do pure (.value (←(do eqGuard bo T x y (a.eval x) (a.eval y);binOp bo T (a.eval x) (a.eval y))))):=rfl
  have key:XW e∧∃r,(do eqGuard bo T x y (a.eval x) (a.eval y);binOp bo T (a.eval x) (a.eval y):Sem Value).run P w=.ok r w∧Rel w (Im S N0 B w ρ σ) ρ e.v r∧Ad e.v=[]:=SY hT hr hr' he hp
  obtain ⟨k1,r,k2,k3,k4⟩:=key
  obtain ⟨v,h1,h2⟩:=Fa.mak h (P:=P) (Fa.only k1 k2 k3 (by rw[k4];simp))
  exact Ax hex h1 (hK _ _ h2)
 case unOp u T x=>
  simp only[Op.operands,List.map_cons,List.map_nil] at he hR hN
  have hr:=hR.2 0 _ _ rfl rfl
  generalize uv (ev σ x)=X at *
  cases u <;> cases X <;> simp only at he <;> try (cases he;done)
  case neg.int k n=>
   cases he
   have hv:=hr.int_
   obtain ⟨v,h1,h2⟩:=Fa.mak h (P:=P) (s:=Op.unary .neg (a.eval x)) (e:={v:=.int k (k.wrap (0 - n))}) (Fa.only ⟨rfl,rfl,rfl,rfl⟩ (v:=.int k (k.wrap (0 - n))) (by rw[hv];rfl) (.int _ _) (by simp[Ad]))
   exact Ax rfl h1 (hK _ _ h2)
  case not.bool b=>
   cases he
   have hv:=hr.bool_
   obtain ⟨v,h1,h2⟩:=Fa.mak h (P:=P) (s:=Op.unary .not (a.eval x)) (e:={v:=.bool (!b)}) (Fa.only ⟨rfl,rfl,rfl,rfl⟩ (v:=.bool (!b)) (by rw[hv];rfl) (.bool _) (by simp[Ad]))
   exact Ax rfl h1 (hK _ _ h2)
 case convert R T x=>
  simp only[Op.operands,List.map_cons,List.map_nil] at he hR hN
  have hr:=hR.2 0 _ _ rfl rfl
  obtain ⟨r,w',h1,h2⟩:=Rw (P:=P) hT h hbl hr he hp
  exact Ax (s:=convert R T (a.eval x)) rfl h1 (hK _ _ h2)
 case makeSlice T ln cp=>
  simp only[Op.operands,List.map_cons,List.map_nil] at he hR hN
  split at he
  case h_2=> cases he
  rename_i el hk
  split at he
  case h_2=> cases he
  rename_i kl n kc m hxs
  split at he
  case isFalse=> cases he
  rename_i h8
  obtain ⟨h8,hb1⟩:=h8
  simp only[List.cons.injEq,and_true] at hxs
  obtain ⟨hx1,hx2⟩:=hxs
  cases he
  simp only at hp
  obtain ⟨p1,p2,rfl⟩:=hp
  have hr1:=hR.2 0 _ _ rfl rfl
  have hr2:=hR.2 1 _ _ rfl rfl
  rw[hx1] at hr1
  rw[hx2] at hr2
  obtain ⟨n,rfl⟩:=Int.eq_ofNat_of_zero_le p1
  obtain ⟨r,w',h1,h2⟩:=WL hT h (n:=n) (kl:=kl) (kc:=kc) hk (P0 h8) hb1 (by omega)
  exact Ax (s:=Instr.makeSlice T (a.eval ln) (a.eval cp)) rfl (by rw[hr1.int_,hr2.int_];exact h1) (hK _ _ h2)
 case slice T x lo hi mx=>
  cases mx with
  | some m=> cases he
  | none=>
   simp only at he
   have hops:(Op.slice T x lo hi none).operands.toList=(#[x]++lo.toArray++hi.toArray).toList:=by simp[Op.operands]
   rw[hops] at he hR
   obtain ⟨v,h1,h2⟩:=Fa.mak h (P:=P) (VS hT h hbl hR he hp)
   exact Ax (s:=Instr.sliceAt T (a.eval x) (lo.map a.eval) (hi.map a.eval) none) rfl h1 (hK _ _ h2)
 case fieldAddr T x f=>
  simp only[Op.operands,List.map_cons,List.map_nil] at he hR hN
  have hr:=hR.2 0 _ _ rfl rfl
  obtain ⟨v,h1,h2⟩:=Fa.mak h (P:=P) (PQ hT hr (hN _ (by simp)) he)
  exact Ax (s:=Instr.fieldAt T (a.eval x) f) rfl h1 (hK _ _ h2)
 case field T x f=>
  simp only[Op.operands,List.map_cons,List.map_nil] at he hR hN
  have hr:=hR.2 0 _ _ rfl rfl
  obtain ⟨v,h1,h2⟩:=Fa.mak h (P:=P) (Vf hT hr (hN _ (by simp)) he)
  exact Ax (s:=Instr.field T (a.eval x) f) rfl h1 (hK _ _ h2)
 case indexAddr T x i=>
  simp only[Op.operands,List.map_cons,List.map_nil] at he hR hN
  have hr:=hR.2 0 _ _ rfl rfl
  have hr':=hR.2 1 _ _ rfl rfl
  obtain ⟨v,h1,h2⟩:=Fa.mak h (P:=P) (PR hT h hbl hr hr' he hp (hN (uv (ev σ x)) (by simp)))
  exact Ax (s:=Instr.indexAt T (a.eval x) (a.eval i)) rfl h1 (hK _ _ h2)
 case index T x i=>
  simp only[Op.operands,List.map_cons,List.map_nil] at he hR hN
  have hr:=hR.2 0 _ _ rfl rfl
  have hr':=hR.2 1 _ _ rfl rfl
  generalize uv (ev σ x)=X at *
  generalize uv (ev σ i)=I at *
  split at he
  ·rename_i l k n hk hxs
   cases he
   simp only at hp
   cases hxs
   have hv:=hr.str_
   have hv':=hr'.int_
   obtain ⟨v,h1,h2⟩:=Fa.mak h (P:=P) (s:=Instr.index T (a.eval x) (a.eval i)) (e:={v:=.int .u8 (l.getD n.toNat 0).toNat}) (Fa.only ⟨rfl,rfl,rfl,rfl⟩ (v:=.int .u8 (l.getD n.toNat 0).toNat) (by rw[hv,hv'];exact Vo hT hk hp.1 hp.2) (.int _ _) (by simp[Ad]))
   exact Ax rfl h1 (hK _ _ h2)
  ·cases he
 case extract x i=>
  simp only[Op.operands,List.map_cons,List.map_nil] at he hR hN
  have hr:=hR.2 0 _ _ rfl rfl
  have hn:=hN (uv (ev σ x)) (by simp)
  generalize uv (ev σ x)=X at *
  cases X <;> simp only at he <;> try (cases he;done)
  rename_i cs
  obtain ⟨y,hy,rfl⟩:=Option.map_eq_some_iff.1 he
  generalize hv:a.eval x=V at hr
  cases hr with
  | tup cs vs hl hval=>
  have hlt:i < vs.size:=by rw[hl];exact (List.getElem?_eq_some_iff.1 hy).1
  obtain ⟨v,h1,h2⟩:=Fa.mak h (P:=P) (s:=Instr.extract (a.eval x) i) (e:={v:=y}) (Fa.only ⟨rfl,rfl,rfl,rfl⟩ (v:=vs[i]) (by rw[hv];simp[Instr.extract,hlt]) (hval i y _ hy (by simp[hlt])) (fun n hn'=> hn n (by rw[Ad];exact AY hy hn')))
  exact Ax rfl h1 (hK _ _ h2)
 case makeFunc fn first caps=>
  split at he
  case h_2=> cases he
  rename_i f
  split at he
  case isFalse=> cases he
  rename_i hfirst
  subst hfirst
  cases he
  have hops:(Op.makeFunc (.func f) #[] caps).operands.toList=caps.toList:=by simp[Op.operands]
  rw[hops] at hR hN hK
  obtain ⟨v,h1,h2⟩:=Fa.mak h (P:=P) (s:=Instr.makeFunc (.func f) (#[].map a.eval) (caps.map a.eval)) (e:={v:=.func f ((caps.toList.map (ev σ)).map uv)}) (Fa.only ⟨rfl,rfl,rfl,rfl⟩ (v:=.func (.func f) #[] (caps.map a.eval)) (by simp[Instr.makeFunc])
   (.func f _ _ (by simp) (fun i x v hx hv=> hR.2 i x v hx (by simpa[←Array.getElem?_toList] using hv))) (fun n hn=> by
    rw[Ad] at hn
    obtain ⟨i,x,hi,hx⟩:=Cr hn
    exact hN x (List.mem_of_getElem? hi) n hx))
  exact Ax rfl h1 (hK _ _ h2)
 case call c=>
  obtain ⟨callee,args,types⟩:=c
  cases callee with
  | value f=> simp[QA] at hnc
  | invoke r m=> cases he
  | builtin b=>
   have hops:(Op.call ⟨.builtin b,args,types⟩).operands.toList=args.toList:=by simp[Op.operands,Call.operands]
   rw[hops] at he hR hN
   have hex:∀s:Sem Value,(builtin b types ty (args.map fun | .const _=> true | _=> false) (args.map a.eval)=(do pure (.value (←s))))→execOp a.eval ⟨dst,.call ⟨.builtin b,args,types⟩,ty,pos,af,gd⟩=(do pure (.value (←s))):=by
    intro s hs
    rw[←hs]
    rfl
   cases b <;> simp only at he <;> try (cases he;done)
   case append=>
    split at he
    case h_2=> cases he
    rename_i T U hty
    split at he
    case h_2=> cases he
    rename_i x y hxs
    have hd:blk σ dn=none:=by
     have:dn∈AF e.nw:=by
      unfold FM at he
      split at he
      ·split at he
       ·split at he
        ·cases he;simp[AF]
        ·cases he
       ·unfold FN at he
        split at he
        ·split at he
         ·split at he
          ·cases he;simp[AF]
          ·cases he
         ·cases he
        ·cases he
      ·cases he
     exact B1 hf _ this
    obtain ⟨va,ha,hra⟩:=hR.at_ (i:=0) (by rw[hxs];rfl)
    obtain ⟨vb,hb,hrb⟩:=hR.at_ (i:=1) (by rw[hxs];rfl)
    have hargs:args.map a.eval=#[va,vb]:=by
     have hl:(args.toList.map a.eval).length=2:=by rw[hR.1,hxs];rfl
     apply Array.ext'
     rw[Array.toList_map]
     apply List.ext_getElem?
     intro k
     match k with
     | 0=> rw[ha];rfl
     | 1=> rw[hb];rfl
     | k+2=> rw[List.getElem?_eq_none (by omega)];rfl
    have htys:types=#[T,U]:=by apply Array.ext';rw[hty]
    obtain ⟨r,w',h1,h2⟩:=Sz (P:=P) (ty:=ty) hT h hbl hra hrb he hp hd
    refine Ax (hex (Builtin.append_ types ty (args.map a.eval)) rfl) ?_ (hK _ _ h2)
    rw[hargs,htys];exact h1
   case len=>
    split at he
    case h_2=> cases he
    rename_i T hty
    split at he
    case h_2=> cases he
    rename_i x hxs
    obtain ⟨va,ha,hra⟩:=hR.at_ (i:=0) (by rw[hxs];rfl)
    have hargs:args.map a.eval=#[va]:=by
     have hl:(args.toList.map a.eval).length=1:=by rw[hR.1,hxs];rfl
     apply Array.ext'
     rw[Array.toList_map]
     apply List.ext_getElem?
     intro k
     match k with
     | 0=> rw[ha];rfl
     | k+1=> rw[List.getElem?_eq_none (by omega)];rfl
    have htys:types=#[T]:=by apply Array.ext';rw[hty]
    obtain ⟨v,h1,h2⟩:=Fa.mak h (P:=P) (YG (ty:=ty) hT h hbl hra he)
    refine Ax (hex (Builtin.len_ types ty (args.map a.eval)) rfl) ?_ (hK _ _ h2)
    rw[hargs,htys];exact h1
   case max=>
    split at he
    case h_2=> cases he
    rename_i k p k' q hxs
    split at he
    case isFalse=> cases he
    rename_i hkk
    subst hkk
    cases he
    obtain ⟨va,ha,hra⟩:=hR.at_ (i:=0) (by rw[hxs];rfl)
    obtain ⟨vb,hb,hrb⟩:=hR.at_ (i:=1) (by rw[hxs];rfl)
    have hv:=hra.int_
    have hv':=hrb.int_
    subst hv hv'
    have hargs:args.map a.eval=#[.int k p,.int k q]:=by
     have hl:(args.toList.map a.eval).length=2:=by rw[hR.1,hxs];rfl
     apply Array.ext'
     rw[Array.toList_map]
     apply List.ext_getElem?
     intro k
     match k with
     | 0=> rw[ha];rfl
     | 1=> rw[hb];rfl
     | k+2=> rw[List.getElem?_eq_none (by omega)];rfl
    obtain ⟨v,h1,h2⟩:=Fa.mak h (P:=P) (s:=Builtin.max_ types ty (args.map a.eval)) (e:={v:=.int k (if q > p then q else p)}) (Fa.only ⟨rfl,rfl,rfl,rfl⟩ (v:=.int k (if q > p then q else p)) (by rw[hargs];simp[Builtin.max_,Builtin.max2]) (.int _ _) (by simp[Ad]))
    exact Ax (hex (Builtin.max_ types ty (args.map a.eval)) rfl) h1 (hK _ _ h2)
   case min=>
    split at he
    case h_2=> cases he
    rename_i k p k' q hxs
    split at he
    case isFalse=> cases he
    rename_i hkk
    subst hkk
    cases he
    obtain ⟨va,ha,hra⟩:=hR.at_ (i:=0) (by rw[hxs];rfl)
    obtain ⟨vb,hb,hrb⟩:=hR.at_ (i:=1) (by rw[hxs];rfl)
    have hv:=hra.int_
    have hv':=hrb.int_
    subst hv hv'
    have hargs:args.map a.eval=#[.int k p,.int k q]:=by
     have hl:(args.toList.map a.eval).length=2:=by rw[hR.1,hxs];rfl
     apply Array.ext'
     rw[Array.toList_map]
     apply List.ext_getElem?
     intro k
     match k with
     | 0=> rw[ha];rfl
     | 1=> rw[hb];rfl
     | k+2=> rw[List.getElem?_eq_none (by omega)];rfl
    obtain ⟨v,h1,h2⟩:=Fa.mak h (P:=P) (s:=Builtin.min_ types ty (args.map a.eval)) (e:={v:=.int k (if q < p then q else p)}) (Fa.only ⟨rfl,rfl,rfl,rfl⟩ (v:=.int k (if q < p then q else p)) (by rw[hargs];simp[Builtin.min_,Builtin.min2]) (.int _ _) (by simp[Ad]))
    exact Ax (hex (Builtin.min_ types ty (args.map a.eval)) rfl) h1 (hK _ _ h2)
end
end Go.Proofs.YtlkmgccikgnaeaaGreatDoor.Ab
