/-
  An abstract evaluator of the loaded program's code: values whose slices are lists, with no memory in sight. Definitions.
  No condition.
-/
import Derived.WalkKit
namespace Go.Proofs.Ytcgdjdlcecnanaa.Ab
open Go
set_option linter.unusedVariables false

/-- what a value is. sl: a slice that is only read, its elements' cells, how many cells an element has. os: a slice of our own, by name.
    ptr: into a block of our own, by name. iptr: into memory that is only read: the cells from there on. eptr: into an element of a slice of our own.
    opt g v: v, where g holds; else anything. -/
inductive AV where
  | junk | int (k : IntKind) (n : Int) | bool (b : Bool) | str (l : List UInt8)
  | nils | sl (sz : Nat) (rs : List (List AV)) | os (t : Nat)
  | ptr (v off : Nat) | iptr (cs : List AV) | eptr (t i off : Nat)
  | func (f : Nat) (caps : List AV)
  | agg (cs : List AV) | tup (vs : List AV)
  | opt (g : Bool) (v : AV)
  deriving Inhabited

/-- kinds of types -/
inductive K where
  | int (k : IntKind) | bool | str | slice (e : Nat) | struct (fs : List (Nat × Nat)) | ref | other
def isOther : K → Bool
  | .other => true
  | _ => false
structure TI where
  k : K
  n : Nat
  bytes : Nat
  zero : List AV
inductive Blk where
  | cells (cs : List AV)
  | rows (e sz : Nat) (rs : List (List AV))
/-- a state: how many temporaries there are; what is known of them, and of the blocks that have a name -/
structure AS where
  nt : Nat
  tm : List (Nat × AV)
  bl : List (Nat × Option Blk)

def get {α : Type} (n : Nat) : List (Nat × α) → Option α
  | [] => none
  | (k, v) :: r => if k = n then some v else get n r

def mem (n : Nat) : List Nat → Bool
  | [] => false
  | k :: r => if n = k then true else mem n r

def isNil : List Nat → Bool
  | [] => true
  | _ => false

def cst : Value → AV
  | .int k n => .int k n
  | .bool b => .bool b
  | .string s => .str s.data.toList
  | .slice none 0 0 => .nils
  | _ => .junk
/-- a temporary of this frame; those from 65536 on are of frames that wait -/
def tmv (σ : AS) (t : Nat) : AV := if t < 65536 then (get t σ.tm).getD .junk else .junk
def ev (σ : AS) : Operand → AV
  | .tmp t => tmv σ t
  | .const v => cst v
  | .func f => .func f []
  | .global _ => .junk
def jn : Option (Option Blk) → Option Blk
  | some b => b
  | none => none
def blk (σ : AS) (n : Nat) : Option Blk := jn (get n σ.bl)
def uv : AV → AV
  | .opt _ v => v
  | v => v
def ug : AV → Bool
  | .opt g _ => g
  | _ => true
def cellsOf : AV → List AV
  | .agg cs => cs
  | v => [v]
/-- a value whose cells are known -/
def good : AV → Bool
  | .junk => false
  | .tup _ => false
  | .opt _ _ => false
  | _ => true
def splice (off : Nat) (new old : List AV) : List AV := old.take off ++ new ++ old.drop (off + new.length)
/-- a value of a type, off its cells -/
def valOf (d : TI) (cs : List AV) : Option AV :=
  match d.k with
  | .struct _ => if d.n ≤ cs.length then some (.agg (cs.take d.n)) else none
  | .other => none
  | _ => cs.head?
def byteRow (b : UInt8) : List AV := [.int .u8 b.toNat]
def bytesOf (rs : List (List AV)) : List UInt8 := rs.map fun r => match r with | [.int _ n] => UInt8.ofNat n.toNat | _ => 0
def isB (rs : List (List AV)) : Prop := rs = (bytesOf rs).map byteRow

mutual
/-- the blocks that a value names -/
def names : AV → List Nat
  | .os t => [t]
  | .ptr v _ => [v]
  | .eptr t _ _ => [t]
  | .agg cs => namess cs
  | .tup cs => namess cs
  | .func _ cs => namess cs
  | .opt _ v => names v
  | _ => []
def namess : List AV → List Nat
  | [] => []
  | v :: r => names v ++ namess r
end
/-- the rows of a name -/
def rowsAt (bl : Nat → Option Blk) (t : Nat) : Option (Nat × Nat × List (List AV)) :=
  match bl t with
  | some (.rows e sz rs) => some (e, sz, rs)
  | _ => none
def plain : Option (Nat × Nat × List (List AV)) → AV
  | some (_, sz, rs) => .sl sz rs
  | none => .junk
mutual
/-- slices of our own become plain: those named in ns -/
def fz (ns : List Nat) (bl : Nat → Option Blk) : AV → AV
  | .os t => if mem t ns then plain (rowsAt bl t) else .os t
  | .ptr v o => if mem v ns then .junk else .ptr v o
  | .eptr v i o => if mem v ns then .junk else .eptr v i o
  | .agg cs => .agg (fzs ns bl cs)
  | .tup cs => .tup (fzs ns bl cs)
  | .func f cs => .func f (fzs ns bl cs)
  | .opt g v => .opt g (fz ns bl v)
  | v => v
def fzs (ns : List Nat) (bl : Nat → Option Blk) : List AV → List AV
  | [] => []
  | v :: r => fz ns bl v :: fzs ns bl r
end
mutual
/-- values that name what is gone are junk -/
def kl (ns : List Nat) : AV → AV
  | .os t => if mem t ns then .junk else .os t
  | .ptr v o => if mem v ns then .junk else .ptr v o
  | .eptr v i o => if mem v ns then .junk else .eptr v i o
  | .agg cs => .agg (kls ns cs)
  | .tup cs => .tup (kls ns cs)
  | .func f cs => .func f (kls ns cs)
  | .opt g v => .opt g (kl ns v)
  | v => v
def kls (ns : List Nat) : List AV → List AV
  | [] => []
  | v :: r => kl ns v :: kls ns r
end
mutual
/-- the names of a callee's new blocks, renamed -/
def ren (m : Nat) : AV → AV
  | .os t => .os (m + 4096 * (t + 1))
  | .agg cs => .agg (rens m cs)
  | .tup cs => .tup (rens m cs)
  | v => v
def rens (m : Nat) : List AV → List AV
  | [] => []
  | v :: r => ren m v :: rens m r
end
mutual
/-- no slice, no pointer, no function -/
def scalar : AV → Bool
  | .int _ _ => true
  | .bool _ => true
  | .str _ => true
  | .agg cs => scalars cs
  | .tup cs => scalars cs
  | _ => false
def scalars : List AV → Bool
  | [] => true
  | v :: r => scalar v && scalars r
end
/-- what a slice is to a reader -/
def rowsOf (bl : Nat → Option Blk) : AV → Option (Nat × List (List AV))
  | .nils => some (0, [])
  | .sl sz rs => some (sz, rs)
  | .os t => (rowsAt bl t).map fun x => (x.2.1, x.2.2)
  | _ => none
def osOf : AV → List Nat
  | .os t => [t]
  | _ => []
def osIn : List AV → List Nat
  | [] => []
  | .os t :: r => t :: osIn r
  | .agg cs :: r => osIn cs ++ osIn r
  | _ :: r => osIn r

/-- what a callee answers: a value, whose own slices are named 0, 1, ..; what these hold -/
structure Res where
  v : AV
  own : List (Nat × Nat × List (List AV)) := []
/-- what an operation does: its value, new blocks, what blocks hold then, slices of our own that are plain from now on, or gone, and what it asks -/
structure Eff where
  v : AV
  nw : List (Nat × Blk) := []
  up : List (Nat × Blk) := []
  fr : List Nat := []
  kl : List Nat := []
  pre : Prop := True
abbrev Ctr := Nat → List AV → Option Res

/-- an element's cells -/
def goodRow (n : Nat) (x : AV) : Bool := good x && decide ((cellsOf x).length = n) && isNil (namess (cellsOf x))

def fillS (fs : List (Nat × Nat)) (D : Nat → TI) : List AV → List (Nat × AV) → Option (List AV)
  | cs, [] => some cs
  | cs, (i, v) :: r => match fs[i]? with
    | some (o, t) => if good v = true ∧ (cellsOf v).length = (D t).n ∧ o + (D t).n ≤ cs.length then fillS fs D (splice o (cellsOf v) cs) r else none
    | none => none

def shlI (k : IntKind) (a b : Int) : Int := k.wrap (a * 2 ^ (min b.toNat k.bits))
def shrI (k : IntKind) (a b : Int) : Int := a.fdiv (2 ^ (min b.toNat k.bits))
def orI (k : IntKind) (a b : Int) : Int := k.wrap (BitVec.ofInt k.bits a ||| BitVec.ofInt k.bits b).toNat
def andI (k : IntKind) (a b : Int) : Int := k.wrap (BitVec.ofInt k.bits a &&& BitVec.ofInt k.bits b).toNat
def bin (op : BinOp) (x y : AV) : Option Eff :=
  match op, x, y with
  | .shl, .int k a, .int _ b => some { v := .int k (shlI k a b), pre := 0 ≤ b }
  | .shr, .int k a, .int _ b => some { v := .int k (shrI k a b), pre := 0 ≤ b }
  | .add, .int k a, .int k' b => if k = k' then some { v := .int k (k.wrap (a + b)) } else none
  | .sub, .int k a, .int k' b => if k = k' then some { v := .int k (k.wrap (a - b)) } else none
  | .mul, .int k a, .int k' b => if k = k' then some { v := .int k (k.wrap (a * b)) } else none
  | .quo, .int k a, .int k' b => if k = k' then some { v := .int k (k.wrap (a.tdiv b)), pre := b ≠ 0 } else none
  | .rem, .int k a, .int k' b => if k = k' then some { v := .int k (a.tmod b), pre := b ≠ 0 } else none
  | .or, .int k a, .int k' b => if k = k' then some { v := .int k (orI k a b) } else none
  | .and, .int k a, .int k' b => if k = k' then some { v := .int k (andI k a b) } else none
  | .eql, .int k a, .int k' b => if k = k' then some { v := .bool (a == b) } else none
  | .neq, .int k a, .int k' b => if k = k' then some { v := .bool (a != b) } else none
  | .lss, .int k a, .int k' b => if k = k' then some { v := .bool (a < b) } else none
  | .leq, .int k a, .int k' b => if k = k' then some { v := .bool (a ≤ b) } else none
  | .gtr, .int k a, .int k' b => if k = k' then some { v := .bool (a > b) } else none
  | .geq, .int k a, .int k' b => if k = k' then some { v := .bool (a ≥ b) } else none
  | .eql, .str a, .str b => some { v := .bool (a == b) }
  | .neq, .str a, .str b => some { v := .bool (!(a == b)) }
  | .add, .str a, .str b => some { v := .str (a ++ b), pre := a.length + b.length ≤ 1099511627776 }
  | _, _, _ => none

/-- the same; truth values too -/
def effBin (D : Nat → TI) (T : Nat) (op : BinOp) (x y : AV) : Option Eff :=
  match x with
  | .bool a => match (D T).k, y, op with
    | .bool, .bool b, .eql => some { v := .bool (a == b) }
    | .bool, .bool b, .neq => some { v := .bool (!(a == b)) }
    | _, _, _ => none
  | x => bin op x y

/-- a bound of a slice expression -/
def bound (n : Nat) (d : Int) : Option Operand → List AV → Option Int
  | none, _ => some d
  | some _, xs => match xs[n]? with | some (.int _ m) => some m | _ => none
def effSlice (D : Nat → TI) (bl : Nat → Option Blk) (T : Nat) (lo hi : Option Operand) (xs : List AV) : Option Eff :=
  let hn := if lo.isSome then 2 else 1
  match (D T).k with
  | .str => match xs.getD 0 AV.junk with
    | AV.str s => match bound 1 0 lo xs, bound hn s.length hi xs with
      | some l, some h => some { v := .str ((s.take h.toNat).drop l.toNat), pre := 0 ≤ l ∧ l ≤ h ∧ h ≤ s.length }
      | _, _ => none
    | _ => none
  | .slice e => match rowsOf bl (xs.getD 0 AV.junk) with
    | some r => match bound 1 0 lo xs, bound hn r.2.length hi xs with
      | some l, some h => some { v := .sl r.1 ((r.2.take h.toNat).drop l.toNat), fr := osOf (xs.getD 0 AV.junk), pre := (0 ≤ l ∧ l ≤ h ∧ h ≤ r.2.length) ∧ (r.1 = (D e).n ∨ h = 0) }
      | _, _ => none
    | _ => none
  | _ => none
def effLoad (D : Nat → TI) (bl : Nat → Option Blk) (T : Nat) : AV → Option Eff
  | .ptr v off => match bl v with
    | some (.cells cs) => (valOf (D T) (cs.drop off)).map fun x => { v := x }
    | _ => none
  | .iptr cs => (valOf (D T) cs).map fun x => { v := x }
  | .eptr t i off => match rowsAt bl t with
    | some (_, _, rs) => (valOf (D T) ((rs.getD i []).drop off)).map fun x => { v := x }
    | _ => none
  | _ => none
def effStore (D : Nat → TI) (bl : Nat → Option Blk) (T : Nat) (x : AV) : AV → Option Eff
  | .ptr v off => match bl v with
    | some (.cells cs) => some { v := .junk, up := [(v, .cells (splice off (cellsOf x) cs))], pre := good x = true ∧ (cellsOf x).length = (D T).n ∧ off + (D T).n ≤ cs.length }
    | _ => none
  | .eptr t i off => match rowsAt bl t with
    | some (e, sz, rs) => some { v := .junk, up := [(t, .rows e sz (rs.set i (splice off (cellsOf x) (rs.getD i []))))], pre := good x = true ∧ ((cellsOf x).length = (D T).n ∧ off + (D T).n ≤ (rs.getD i []).length) ∧ namess (cellsOf x) = [] ∧ i < rs.length }
    | _ => none
  | _ => none
def effFieldAddr (D : Nat → TI) (T f : Nat) (x : AV) : Option Eff :=
  match (D T).k with
  | .struct fs => match fs[f]? with
    | some (o, _) => match x with
      | .ptr v off => some { v := .ptr v (off + o) }
      | .iptr cs => some { v := .iptr (cs.drop o) }
      | .eptr t i off => some { v := .eptr t i (off + o) }
      | _ => none
    | none => none
  | _ => none
def effField (D : Nat → TI) (T f : Nat) : AV → Option Eff
  | .agg cs => match (D T).k with
    | .struct fs => match fs[f]? with
      | some (o, ft) => (valOf (D ft) (cs.drop o)).map fun x => { v := x }
      | none => none
    | _ => none
  | _ => none
def effIndexAddr (D : Nat → TI) (bl : Nat → Option Blk) (T : Nat) (x : AV) : AV → Option Eff
  | .int _ n => match (D T).k with
    | .slice e => match x with
      | .sl sz rs => if sz = (D e).n then some { v := .iptr (rs.getD n.toNat []), pre := 0 ≤ n ∧ n < rs.length } else none
      | .os t => match rowsAt bl t with
        | some (_, sz, rs) => if sz = (D e).n then some { v := .eptr t n.toNat 0, pre := 0 ≤ n ∧ n < rs.length } else none
        | none => none
      | _ => none
    | _ => none
  | _ => none
def isU8 : K → Bool
  | .int .u8 => true
  | _ => false
def effConvert (D : Nat → TI) (bl : Nat → Option Blk) (S T : Nat) (x : AV) : Option Eff :=
  match (D S).k, (D T).k with
  | .int _, .int k => match x with | .int _ n => some { v := .int k (k.wrap n) } | _ => none
  | .str, .str => match x with | .str l => some { v := .str l } | _ => none
  | .slice e, .str => if isU8 (D e).k then (rowsOf bl x).map fun r => { v := .str (bytesOf r.2), pre := isB r.2 } else none
  | .str, .slice e => match x with
    | .str l => if isU8 (D e).k then some { v := .sl 1 (l.map byteRow), pre := l.length ≤ 1099511627776 } else none
    | _ => none
  | .slice _, .slice e' => match x with
    | .os t => match rowsAt bl t with
      | some (_, sz, rs) => if S = T ∧ isU8 (D e').k = true then some { v := .sl sz rs, kl := [t], pre := rs ≠ [] } else none
      | none => none
    | _ => none
  | _, _ => none
/-- the rows of a slice that may be appended to -/
def baseOf (el n : Nat) (bl : Nat → Option Blk) : AV → Option (List (List AV))
  | .nils => some []
  | .os t => match rowsAt bl t with
    | some (e, sz, rs) => if e = el ∧ sz = n then some rs else none
    | none => none
  | _ => none
/-- what is appended -/
def tailOf (D : Nat → TI) (bl : Nat → Option Blk) (T U : Nat) : AV → Option (Nat × List (List AV))
  | .str l => match (D U).k with
    | .str => some (1, l.map byteRow)
    | _ => none
  | y => if U = T then rowsOf bl y else none
def isStr : AV → Bool
  | .str _ => true
  | _ => false
def effAppend (D : Nat → TI) (bl : Nat → Option Blk) (dst T U : Nat) (x y : AV) : Option Eff :=
  match (D T).k with
  | .slice e => match baseOf e (D e).n bl x, tailOf D bl T U y with
    | some r, some q => if (D e).bytes ≤ 128 ∧ (isStr y = false ∨ (isU8 (D e).k = true ∧ (D e).n = 1 ∧ (D e).bytes = 1)) then some { v := .os dst, kl := osOf x, nw := [(dst, .rows e (D e).n (r ++ q.2))], pre := r.length + q.2.length ≤ 1099511627776 ∧ (q.1 = (D e).n ∨ q.2 = []) } else none
    | _, _ => none
  | _ => none
/-- a callee's new blocks, by the names that the caller gives them -/
def ownBl (dst : Nat) (k : Nat) : List (Nat × Nat × List (List AV)) → List (Nat × Blk)
  | [] => []
  | (e, sz, rs) :: r => (dst + 4096 * (k + 1), .rows e sz rs) :: ownBl dst (k + 1) r
mutual
/-- what a callee may answer -/
def okRes : AV → Bool
  | .int _ _ => true
  | .bool _ => true
  | .str _ => true
  | .nils => true
  | .sl _ _ => true
  | .os _ => true
  | .agg cs => okRess cs
  | .tup cs => okRess cs
  | _ => false
def okRess : List AV → Bool
  | [] => true
  | v :: r => okRes v && okRess r
end
def effRes (dst : Nat) (args : List AV) : Option Res → Option Eff
  | some ⟨v, []⟩ => if scalar v then some { v := v } else if okRes v then some { v := v, fr := osIn args } else none
  | some ⟨v, o :: os⟩ => if okRes v then some { v := ren dst v, nw := ownBl dst 0 (o :: os), fr := osIn args } else none
  | none => none
def effCall (G : Ctr) (bl : Nat → Option Blk) (dst : Nat) (args : List AV) : AV → Option Eff
  | .func f caps =>
    if isNil (namess (fzs (osIn (args ++ caps)) bl (args ++ caps))) then effRes dst (args ++ caps) (G f (fzs (osIn (args ++ caps)) bl (args ++ caps))) else none
  | _ => none
def effLen (D : Nat → TI) (bl : Nat → Option Blk) (T : Nat) (x : AV) : Option Eff :=
  match (D T).k with
  | .str => match x with | .str l => some { v := .int .i64 l.length } | _ => none
  | .slice _ => (rowsOf bl x).map fun r => { v := .int .i64 r.2.length }
  | _ => none

def eff (D : Nat → TI) (G : Ctr) (bl : Nat → Option Blk) (dst : Nat) (op : Op) (xs : List AV) : Option Eff :=
  match op with
  | .move _ => match xs with | [x] => some { v := x } | _ => none
  | .assign _ => match xs with | [x] => some { v := x } | _ => none
  | .alloc T => if isOther (D T).k then none else some { v := .ptr dst 0, nw := [(dst, .cells (D T).zero)] }
  | .box T _ => match xs with | [x] => some { v := .ptr dst 0, nw := [(dst, .cells (cellsOf x))], pre := good x = true } | _ => none
  | .build T ps => match (D T).k with
    | .struct fs => (fillS fs D (D T).zero ((ps.toList.map (·.1)).zip xs)).map fun cs => { v := .agg cs }
    | _ => none
  | .buildSlice T n ps => match (D T).k with
    | .slice e => if ps.toList.map (·.1) = List.range n then some { v := .os dst, nw := [(dst, .rows e (D e).n (xs.map cellsOf))], pre := xs.all (goodRow (D e).n) = true ∧ n * (D e).n ≤ 16777216 } else none
    | _ => none
  | .load T _ => match xs with | [a] => effLoad D bl T a | _ => none
  | .store T _ _ => match xs with | [a, x] => if isOther (D T).k then none else effStore D bl T x a | _ => none
  | .nilCheck _ => match xs with
    | [.ptr v o] => some { v := .ptr v o }
    | [.iptr cs] => some { v := .iptr cs }
    | [.eptr t i o] => some { v := .eptr t i o }
    | _ => none
  | .binOp op T _ _ _ => match xs with | [x, y] => effBin D T op x y | _ => none
  | .unOp u _ _ => match u, xs with
    | .not, [.bool b] => some { v := .bool (!b) }
    | .neg, [.int k n] => some { v := .int k (k.wrap (0 - n)) }
    | _, _ => none
  | .convert S T _ => match xs with | [x] => effConvert D bl S T x | _ => none
  | .slice T _ lo hi mx => match mx with | none => effSlice D bl T lo hi xs | some _ => none
  | .fieldAddr T _ f => match xs with | [x] => effFieldAddr D T f x | _ => none
  | .field T _ f => match xs with | [x] => effField D T f x | _ => none
  | .indexAddr T _ _ => match xs with | [x, i] => effIndexAddr D bl T x i | _ => none
  | .index T _ _ => match (D T).k, xs with
    | .str, [.str l, .int _ n] => some { v := .int .u8 (l.getD n.toNat 0).toNat, pre := 0 ≤ n ∧ n < l.length }
    | _, _ => none
  | .makeSlice T _ _ => match (D T).k with
    | .slice e => match xs with
      | [.int _ n, .int _ m] => if isU8 (D e).k = true ∧ (D e).bytes = 1 then some { v := .sl 1 ((List.replicate n.toNat (0 : UInt8)).map byteRow), pre := 0 ≤ n ∧ n ≤ 65536 ∧ n = m } else none
      | _ => none
    | _ => none
  | .extract _ i => match xs with
    | [.tup vs] => (vs[i]?).map fun v => { v := v }
    | _ => none
  | .makeFunc fn first caps => match fn with
    | .func f => if first = #[] then some { v := .func f xs } else none
    | _ => none
  | .call c => match c.callee with
    | .builtin b => match b with
      | .len => match c.argTypes.toList with
        | [T] => match xs with | [x] => effLen D bl T x | _ => none
        | _ => none
      | .append => match c.argTypes.toList with
        | [T, U] => match xs with | [x, y] => effAppend D bl dst T U x y | _ => none
        | _ => none
      | .max => match xs with | [.int k a, .int k' b] => if k = k' then some { v := .int k (if b > a then b else a) } else none | _ => none
      | .min => match xs with | [.int k a, .int k' b] => if k = k' then some { v := .int k (if b < a then b else a) } else none | _ => none
      | _ => none
    | .value _ => match xs with | f :: args => effCall G bl dst args f | _ => none
    | _ => none
  | _ => none

/-- the guard of an operation: none, or when it is wanted -/
def guardOf (σ : AS) (ops : Array Oper) : Option (Nat × Bool) → Option (Option Bool)
  | none => some none
  | some (j, want) => match (ops[j]?).bind (·.dst) with
    | none => none
    | some t => match tmv σ t with
      | .bool b => some (some (if want then b else !b))
      | .opt g (.bool b) => some (some (g && (if want then b else !b)))
      | _ => none
/-- what is known of the blocks that values name -/
def snap (σ : AS) (ns : List Nat) (n : Nat) : Option Blk := if mem n ns then blk σ n else none
def getN {α : Type} (l : List (Nat × α)) (n : Nat) : Option α := get n l
def keys {α : Type} : List (Nat × α) → List Nat
  | [] => []
  | (k, _) :: r => k :: keys r
def pickE (c a b : AV) : Option Eff :=
  match uv c, uv a, uv b with
  | .bool g, .bool x, .bool y => some { v := .bool (if g then x else y), pre := ug c = true ∧ (g = true → ug a = true) ∧ (g = false → ug b = true) }
  | _, _, _ => none
def isPick : Op → Bool
  | .pick _ _ _ => true
  | _ => false
def pick3 : List AV → Option Eff
  | [c, a, b] => pickE c a b
  | _ => none
def asked (ys : List AV) : Option Eff → Option Eff
  | some e => some { e with pre := ys.all ug = true ∧ e.pre }
  | none => none
def baseE (D : Nat → TI) (G : Ctr) (σ : AS) (dst : Nat) (op : Op) (ys : List AV) : Option Eff :=
  if isPick op then pick3 ys else asked ys (eff D G (snap σ (namess ys)) dst op (ys.map uv))
def unbound (σ : AS) : List Nat → Bool
  | [] => true
  | n :: r => (blk σ n).isNone && unbound σ r
def subs : List Nat → List Nat → Bool
  | [], _ => true
  | n :: r, l => mem n l && subs r l
/-- names in the blocks of names -/
def blNames (bl : Nat → Option Blk) : List Nat → List Nat
  | [] => []
  | n :: r => match bl n with
    | some (.cells cs) => namess cs ++ blNames bl r
    | _ => blNames bl r
def nwNames : List (Nat × Blk) → List Nat
  | [] => []
  | (_, .cells cs) :: r => namess cs ++ nwNames r
  | (_, .rows _ _ _) :: r => nwNames r
/-- the names of an answer are those of the operands, or of what they point to, or new -/
def okN (ks ns bs vs : List Nat) : Bool := subs vs (ks ++ (ns ++ bs))
/-- operations that look into no block -/
def blkFree : Op → Bool
  | .move _ => true
  | .assign _ => true
  | .nilCheck _ => true
  | .fieldAddr _ _ _ => true
  | .field _ _ _ => true
  | .extract _ _ => true
  | .binOp _ _ _ _ _ => true
  | .unOp _ _ _ => true
  | .build _ _ => true
  | .pick _ _ _ => true
  | _ => false
def bsOf (σ : AS) (op : Op) (ns : List Nat) : List Nat := if blkFree op = true then [] else blNames (snap σ ns) ns
def guarded (σ : AS) (ns bs : List Nat) (g : Bool) : Option Eff → Option Eff
  | none => none
  | some e => if (e.fr = [] ∧ e.up = [] ∧ e.kl = []) ∧ unbound σ (keys e.nw) = true ∧ okN [] ns bs (names (fz (keys e.nw) (getN e.nw) e.v)) = true then some { v := .opt g (fz (keys e.nw) (getN e.nw) e.v), pre := g = true → e.pre } else none
/-- calls that change what their arguments point to: a table of effects -/
abbrev MCtr := Nat → List AV → (Nat → Option Blk) → Option Eff
def noM : MCtr := fun _ _ _ => none
def callM (M : MCtr) (bl : Nat → Option Blk) (args : List AV) : AV → Option Eff
  | .func g caps => M g (args ++ caps) bl
  | _ => none
def mEff (M : MCtr) (σ : AS) (o : Oper) : Option Eff := match o.op with
  | .call c => match c.callee with
    | .value f => callM M (snap σ (namess (o.op.operands.toList.map (ev σ)))) (c.args.toList.map (ev σ)) (ev σ f)
    | _ => none
  | _ => none
def orM : Option Eff → Option Eff → Option Eff
  | some e, _ => some e
  | none, some e => match e.nw with
    | [] => some e
    | _ :: _ => none
  | none, none => none
/-- guards that do not hold: their operations are passed over -/
def eqB : Bool → Bool → Bool
  | true, true => true
  | false, false => true
  | _, _ => false
def memP (j : Nat) (w : Bool) : List (Nat × Bool) → Bool
  | [] => false
  | (k, u) :: r => (decide (j = k) && eqB w u) || memP j w r
def isOff (off : List (Nat × Bool)) : Option (Nat × Bool) → Bool
  | none => false
  | some (j, w) => memP j w off
def skipE : Option (Option Bool) → Option Eff
  | some (some g) => some { v := .opt false (.bool false), pre := g = false }
  | _ => none
def opEff (D : Nat → TI) (G : Ctr) (M : MCtr) (nb : Nat) (off : List (Nat × Bool)) (ops : Array Oper) (σ : AS) (o : Oper) : Option Eff :=
  if isOff off o.guard = true then skipE (guardOf σ ops o.guard) else
  match guardOf σ ops o.guard with
  | none => none
  | some none => orM (baseE D G σ (nb + o.dst.getD 0) o.op (o.op.operands.toList.map (ev σ))) (mEff M σ o)
  | some (some g) => guarded σ (namess (o.op.operands.toList.map (ev σ))) (bsOf σ o.op (namess (o.op.operands.toList.map (ev σ)))) g (baseE D G σ (nb + o.dst.getD 0) o.op (o.op.operands.toList.map (ev σ)))

def mapT (h : AV → AV) : List (Nat × AV) → List (Nat × AV)
  | [] => []
  | (t, v) :: r => (t, h v) :: mapT h r
def mapL (h : AV → AV) : List AV → List AV
  | [] => []
  | v :: r => h v :: mapL h r
def mapB (h : AV → AV) : List (Nat × Option Blk) → List (Nat × Option Blk)
  | [] => []
  | (n, some (.cells cs)) :: r => (n, some (.cells (mapL h cs))) :: mapB h r
  | (n, some (.rows e sz rs)) :: r => (n, some (.rows e sz rs)) :: mapB h r
  | (n, none) :: r => (n, none) :: mapB h r
def gone : List Nat → List (Nat × Option Blk)
  | [] => []
  | n :: r => (n, none) :: gone r
def here : List (Nat × Blk) → List (Nat × Option Blk)
  | [] => []
  | (n, b) :: r => (n, some b) :: here r
/-- the state behind an operation -/
def freeze (σ : AS) : List Nat → AS
  | [] => σ
  | n :: ns => { nt := σ.nt, tm := mapT (fz (n :: ns) (blk σ)) σ.tm, bl := gone (n :: ns) ++ mapB (fz (n :: ns) (blk σ)) σ.bl }
def kill (σ : AS) : List Nat → AS
  | [] => σ
  | n :: ns => { nt := σ.nt, tm := mapT (kl (n :: ns)) σ.tm, bl := gone (n :: ns) ++ mapB (kl (n :: ns)) σ.bl }
def putT (d : Option Nat) (v : AV) (tm : List (Nat × AV)) : List (Nat × AV) := match d with | some d => (d, v) :: tm | none => tm
def apply (σ : AS) (dst : Option Nat) (e : Eff) : AS :=
  { nt := σ.nt, tm := putT dst e.v (kill (freeze σ e.fr) e.kl).tm, bl := here e.nw ++ here e.up ++ (kill (freeze σ e.fr) e.kl).bl }
/-- new names are new -/
def fresh (σ : AS) (dst : Option Nat) (e : Eff) : Bool := unbound σ (keys e.nw) && (match dst with | some d => decide (d < σ.nt) | none => true)

/-- what is kept: these temporaries, these blocks -/
def keepT (h : AV → AV) (tm : List (Nat × AV)) : List Nat → List (Nat × AV)
  | [] => []
  | t :: r => (t, h ((get t tm).getD .junk)) :: keepT h tm r
def keepB (h : AV → AV) (bl : Nat → Option Blk) : List Nat → List (Nat × Option Blk)
  | [] => []
  | n :: r => match bl n with
    | some (.cells cs) => (n, some (.cells (mapL h cs))) :: keepB h bl r
    | some (.rows e sz rs) => (n, some (.rows e sz rs)) :: keepB h bl r
    | none => keepB h bl r
def others (bs : List Nat) : List Nat → List Nat
  | [] => []
  | n :: r => if mem n bs then others bs r else n :: others bs r
def AS.keep (σ : AS) (ts bs : List Nat) : AS :=
  { nt := σ.nt, tm := keepT (fz (others bs (keys σ.bl)) (blk σ)) σ.tm ts, bl := keepB (fz (others bs (keys σ.bl)) (blk σ)) (blk σ) bs }
end Go.Proofs.Ytcgdjdlcecnanaa.Ab
