/-
  No cell of these rows narrows 'for every input' (looked for: loops, veiled, ifaces, maps, wideKeys, modest, calm, conditions, laid).
  DERIVED. THE GIVEN ROWS OF THIS SEAT. 12 by the template 'for every input the law returns true; each argument reads behind the call as it read before'; 0 by the template 'total and deterministic' (their statements: YtcgdjdlcecnanaaTotals.lean).
  GIVEN WITH THE SEED: the statements are not yours to turn. If you find one false, say at which input.
  Laid BY PROGRAM, IN A SANDBOX (cutbox-rows.mjs): the forced cells as the released guide's own fill.sh prints them over the translation c44e1fac1862ac29… (all of the seat's roots in one cut). By AI agents, Wed Nov 11 2026. No macro, syntax, notation, axiom, sorry.
-/
import Derived.Test.YtcgdjdlcecnanaaChecked
import GoSem.Claim
import GoSem.ClaimJoined
import GoSem.ClaimMapViews
import Derived.JoinedTies
import Derived.KernelRfl
namespace Go.Proofs.Ytcgdjdlcecnanaa
/- THE CELL 'sum', in the pinned program and in every row, IS THE sha256 OF THE DUMP (.gsa) THAT YtcgdjdlcecnanaaProg.lean LOADS. Nothing in Lean hashes anything: it is a label: what it is worth is what the hold of that sum in a sandbox is worth. -/
noncomputable def Try.pinned : Pinned := { name := "ytcgdjdlcecnanaa", sum := "c44e1fac1862ac2955f4fb6e12e55ef97f8987e80b9a304afc1c651a43712722", checked := Try.checked }
namespace Rows
def none {H : Type} : Left H := { results := [], args := [] }

/-- 'tglaw2.StoreTells': WHATEVER THE INPUT: true; the input reads as it did. -/
def storeTellsSpec : ChangeSpec := { name := "storeTells", fn := fun _ => fun
  | [d1, d2, d3, d4] => { results := [.lit (.bool true)], args := [d1, d2, d3, d4] }
  | _ => none }
def storeTellsRow : OpenClaim := { program := "ytcgdjdlcecnanaa", sum := "c44e1fac1862ac2955f4fb6e12e55ef97f8987e80b9a304afc1c651a43712722", func := "trivetgate/tglaw2.StoreTells", spec := "storeTells", recurses := true, apart := false }
def StoreTellsSaid : Prop := storeTellsRow.holds Try.pinned (OpenSpec.ofChange storeTellsSpec)

/-- ITS FALSE NEIGHBOUR: 'it returns false'. Refute it at one input. -/
def storeTellsWrong : ChangeSpec := { name := "storeTells", fn := fun _ => fun
  | [d1, d2, d3, d4] => { results := [.lit (.bool false)], args := [d1, d2, d3, d4] }
  | _ => none }
def StoreTellsWrongFalsely : Prop := storeTellsRow.holds Try.pinned (OpenSpec.ofChange storeTellsWrong)

/-- 'tglaw2.StoreKeeps': WHATEVER THE INPUT: true; the input reads as it did. -/
def storeKeepsSpec : ChangeSpec := { name := "storeKeeps", fn := fun _ => fun
  | [d1, d2, d3] => { results := [.lit (.bool true)], args := [d1, d2, d3] }
  | _ => none }
def storeKeepsRow : OpenClaim := { program := "ytcgdjdlcecnanaa", sum := "c44e1fac1862ac2955f4fb6e12e55ef97f8987e80b9a304afc1c651a43712722", func := "trivetgate/tglaw2.StoreKeeps", spec := "storeKeeps", apart := false }
def StoreKeepsSaid : Prop := storeKeepsRow.holds Try.pinned (OpenSpec.ofChange storeKeepsSpec)

/-- ITS FALSE NEIGHBOUR: 'it returns false'. Refute it at one input. -/
def storeKeepsWrong : ChangeSpec := { name := "storeKeeps", fn := fun _ => fun
  | [d1, d2, d3] => { results := [.lit (.bool false)], args := [d1, d2, d3] }
  | _ => none }
def StoreKeepsWrongFalsely : Prop := storeKeepsRow.holds Try.pinned (OpenSpec.ofChange storeKeepsWrong)

/-- 'tglaw2.StoreByte': WHATEVER THE INPUT: true; the input reads as it did. -/
def storeByteSpec : ChangeSpec := { name := "storeByte", fn := fun _ => fun
  | [d1, d2, d3, d4] => { results := [.lit (.bool true)], args := [d1, d2, d3, d4] }
  | _ => none }
def storeByteRow : OpenClaim := { program := "ytcgdjdlcecnanaa", sum := "c44e1fac1862ac2955f4fb6e12e55ef97f8987e80b9a304afc1c651a43712722", func := "trivetgate/tglaw2.StoreByte", spec := "storeByte", apart := false }
def StoreByteSaid : Prop := storeByteRow.holds Try.pinned (OpenSpec.ofChange storeByteSpec)

/-- ITS FALSE NEIGHBOUR: 'it returns false'. Refute it at one input. -/
def storeByteWrong : ChangeSpec := { name := "storeByte", fn := fun _ => fun
  | [d1, d2, d3, d4] => { results := [.lit (.bool false)], args := [d1, d2, d3, d4] }
  | _ => none }
def StoreByteWrongFalsely : Prop := storeByteRow.holds Try.pinned (OpenSpec.ofChange storeByteWrong)

/-- 'tglaw1.NoteTells': WHATEVER THE INPUT: true; the input reads as it did. -/
def noteTellsSpec : ChangeSpec := { name := "noteTells", fn := fun _ => fun
  | [d1, d2, d3, d4] => { results := [.lit (.bool true)], args := [d1, d2, d3, d4] }
  | _ => none }
def noteTellsRow : OpenClaim := { program := "ytcgdjdlcecnanaa", sum := "c44e1fac1862ac2955f4fb6e12e55ef97f8987e80b9a304afc1c651a43712722", func := "trivetgate/tglaw1.NoteTells", spec := "noteTells", unfollowed := true, recurses := true, apart := false }
def NoteTellsSaid : Prop := noteTellsRow.holds Try.pinned (OpenSpec.ofChange noteTellsSpec)

/-- ITS FALSE NEIGHBOUR: 'it returns false'. Refute it at one input. -/
def noteTellsWrong : ChangeSpec := { name := "noteTells", fn := fun _ => fun
  | [d1, d2, d3, d4] => { results := [.lit (.bool false)], args := [d1, d2, d3, d4] }
  | _ => none }
def NoteTellsWrongFalsely : Prop := noteTellsRow.holds Try.pinned (OpenSpec.ofChange noteTellsWrong)

/-- 'tglaw1.NoteTurns': WHATEVER THE INPUT: true; the input reads as it did. -/
def noteTurnsSpec : ChangeSpec := { name := "noteTurns", fn := fun _ => fun
  | [d1, d2] => { results := [.lit (.bool true)], args := [d1, d2] }
  | _ => none }
def noteTurnsRow : OpenClaim := { program := "ytcgdjdlcecnanaa", sum := "c44e1fac1862ac2955f4fb6e12e55ef97f8987e80b9a304afc1c651a43712722", func := "trivetgate/tglaw1.NoteTurns", spec := "noteTurns", apart := false }
def NoteTurnsSaid : Prop := noteTurnsRow.holds Try.pinned (OpenSpec.ofChange noteTurnsSpec)

/-- ITS FALSE NEIGHBOUR: 'it returns false'. Refute it at one input. -/
def noteTurnsWrong : ChangeSpec := { name := "noteTurns", fn := fun _ => fun
  | [d1, d2] => { results := [.lit (.bool false)], args := [d1, d2] }
  | _ => none }
def NoteTurnsWrongFalsely : Prop := noteTurnsRow.holds Try.pinned (OpenSpec.ofChange noteTurnsWrong)

/-- 'tglaw3.QueueTells': WHATEVER THE INPUT: true; the input reads as it did. -/
def queueTellsSpec : ChangeSpec := { name := "queueTells", fn := fun _ => fun
  | [d1, d2, d3, d4, d5] => { results := [.lit (.bool true)], args := [d1, d2, d3, d4, d5] }
  | _ => none }
def queueTellsRow : OpenClaim := { program := "ytcgdjdlcecnanaa", sum := "c44e1fac1862ac2955f4fb6e12e55ef97f8987e80b9a304afc1c651a43712722", func := "trivetgate/tglaw3.QueueTells", spec := "queueTells", unfollowed := true, recurses := true, apart := false }
def QueueTellsSaid : Prop := queueTellsRow.holds Try.pinned (OpenSpec.ofChange queueTellsSpec)

/-- ITS FALSE NEIGHBOUR: 'it returns false'. Refute it at one input. -/
def queueTellsWrong : ChangeSpec := { name := "queueTells", fn := fun _ => fun
  | [d1, d2, d3, d4, d5] => { results := [.lit (.bool false)], args := [d1, d2, d3, d4, d5] }
  | _ => none }
def QueueTellsWrongFalsely : Prop := queueTellsRow.holds Try.pinned (OpenSpec.ofChange queueTellsWrong)

/-- 'tglaw3.QueueFirst': WHATEVER THE INPUT: true; the input reads as it did. -/
def queueFirstSpec : ChangeSpec := { name := "queueFirst", fn := fun _ => fun
  | [d1, d2] => { results := [.lit (.bool true)], args := [d1, d2] }
  | _ => none }
def queueFirstRow : OpenClaim := { program := "ytcgdjdlcecnanaa", sum := "c44e1fac1862ac2955f4fb6e12e55ef97f8987e80b9a304afc1c651a43712722", func := "trivetgate/tglaw3.QueueFirst", spec := "queueFirst", unfollowed := true, recurses := true, apart := false }
def QueueFirstSaid : Prop := queueFirstRow.holds Try.pinned (OpenSpec.ofChange queueFirstSpec)

/-- ITS FALSE NEIGHBOUR: 'it returns false'. Refute it at one input. -/
def queueFirstWrong : ChangeSpec := { name := "queueFirst", fn := fun _ => fun
  | [d1, d2] => { results := [.lit (.bool false)], args := [d1, d2] }
  | _ => none }
def QueueFirstWrongFalsely : Prop := queueFirstRow.holds Try.pinned (OpenSpec.ofChange queueFirstWrong)

/-- 'tglaw3.QueueTurn': WHATEVER THE INPUT: true; the input reads as it did. -/
def queueTurnSpec : ChangeSpec := { name := "queueTurn", fn := fun _ => fun
  | [d1, d2] => { results := [.lit (.bool true)], args := [d1, d2] }
  | _ => none }
def queueTurnRow : OpenClaim := { program := "ytcgdjdlcecnanaa", sum := "c44e1fac1862ac2955f4fb6e12e55ef97f8987e80b9a304afc1c651a43712722", func := "trivetgate/tglaw3.QueueTurn", spec := "queueTurn", unfollowed := true, recurses := true, apart := false }
def QueueTurnSaid : Prop := queueTurnRow.holds Try.pinned (OpenSpec.ofChange queueTurnSpec)

/-- ITS FALSE NEIGHBOUR: 'it returns false'. Refute it at one input. -/
def queueTurnWrong : ChangeSpec := { name := "queueTurn", fn := fun _ => fun
  | [d1, d2] => { results := [.lit (.bool false)], args := [d1, d2] }
  | _ => none }
def QueueTurnWrongFalsely : Prop := queueTurnRow.holds Try.pinned (OpenSpec.ofChange queueTurnWrong)

/-- 'tglaw7.FramesTells': WHATEVER THE INPUT: true; the input reads as it did. -/
def framesTellsSpec : ChangeSpec := { name := "framesTells", fn := fun _ => fun
  | [d1, d2, d3] => { results := [.lit (.bool true)], args := [d1, d2, d3] }
  | _ => none }
def framesTellsRow : OpenClaim := { program := "ytcgdjdlcecnanaa", sum := "c44e1fac1862ac2955f4fb6e12e55ef97f8987e80b9a304afc1c651a43712722", func := "trivetgate/tglaw7.FramesTells", spec := "framesTells", unfollowed := true, recurses := true, apart := false }
def FramesTellsSaid : Prop := framesTellsRow.holds Try.pinned (OpenSpec.ofChange framesTellsSpec)

/-- ITS FALSE NEIGHBOUR: 'it returns false'. Refute it at one input. -/
def framesTellsWrong : ChangeSpec := { name := "framesTells", fn := fun _ => fun
  | [d1, d2, d3] => { results := [.lit (.bool false)], args := [d1, d2, d3] }
  | _ => none }
def FramesTellsWrongFalsely : Prop := framesTellsRow.holds Try.pinned (OpenSpec.ofChange framesTellsWrong)

/-- 'tglaw7.FramesTurns': WHATEVER THE INPUT: true; the input reads as it did. -/
def framesTurnsSpec : ChangeSpec := { name := "framesTurns", fn := fun _ => fun
  | [d1, d2, d3, d4] => { results := [.lit (.bool true)], args := [d1, d2, d3, d4] }
  | _ => none }
def framesTurnsRow : OpenClaim := { program := "ytcgdjdlcecnanaa", sum := "c44e1fac1862ac2955f4fb6e12e55ef97f8987e80b9a304afc1c651a43712722", func := "trivetgate/tglaw7.FramesTurns", spec := "framesTurns", apart := false }
def FramesTurnsSaid : Prop := framesTurnsRow.holds Try.pinned (OpenSpec.ofChange framesTurnsSpec)

/-- ITS FALSE NEIGHBOUR: 'it returns false'. Refute it at one input. -/
def framesTurnsWrong : ChangeSpec := { name := "framesTurns", fn := fun _ => fun
  | [d1, d2, d3, d4] => { results := [.lit (.bool false)], args := [d1, d2, d3, d4] }
  | _ => none }
def FramesTurnsWrongFalsely : Prop := framesTurnsRow.holds Try.pinned (OpenSpec.ofChange framesTurnsWrong)

/-- 'tgtop.Names': WHATEVER THE INPUT: true; the input reads as it did. -/
def namesSpec : ChangeSpec := { name := "names", fn := fun _ => fun
  | [] => { results := [.lit (.bool true)], args := [] }
  | _ => none }
def namesRow : OpenClaim := { program := "ytcgdjdlcecnanaa", sum := "c44e1fac1862ac2955f4fb6e12e55ef97f8987e80b9a304afc1c651a43712722", func := "trivetgate/tgtop.Names", spec := "names", apart := false }
def NamesSaid : Prop := namesRow.holds Try.pinned (OpenSpec.ofChange namesSpec)

/-- ITS FALSE NEIGHBOUR: 'it returns false'. Refute it at one input. -/
def namesWrong : ChangeSpec := { name := "names", fn := fun _ => fun
  | [] => { results := [.lit (.bool false)], args := [] }
  | _ => none }
def NamesWrongFalsely : Prop := namesRow.holds Try.pinned (OpenSpec.ofChange namesWrong)

/-- 'tglaw7.FramesRight': WHATEVER THE INPUT: true; the input reads as it did. -/
def framesRightSpec : ChangeSpec := { name := "framesRight", fn := fun _ => fun
  | [d] => { results := [.lit (.bool true)], args := [d] }
  | _ => none }
def framesRightRow : OpenClaim := { program := "ytcgdjdlcecnanaa", sum := "c44e1fac1862ac2955f4fb6e12e55ef97f8987e80b9a304afc1c651a43712722", func := "trivetgate/tglaw7.FramesRight", spec := "framesRight", apart := false }
def FramesRightSaid : Prop := framesRightRow.holds Try.pinned (OpenSpec.ofChange framesRightSpec)

/-- ITS FALSE NEIGHBOUR: 'it returns false'. Refute it at one input. -/
def framesRightWrong : ChangeSpec := { name := "framesRight", fn := fun _ => fun
  | [d] => { results := [.lit (.bool false)], args := [d] }
  | _ => none }
def FramesRightWrongFalsely : Prop := framesRightRow.holds Try.pinned (OpenSpec.ofChange framesRightWrong)

/- THE SECOND FORM. 'bulk': how many values and letters a reading holds, each counted each time it is reached (what is shared counts as often as it is met; a slice's spare places count too). A statement '..UptoSaid' is the law's where the arguments, and the package variables that the reading takes, are together of bulk at most 1048576: NARROWER than '..Said'. Prove '..Said' where nothing that the law and all that it calls make is longer than what came in: it says more and counts as full. Else prove '..UptoSaid'. A law counts once. -/
mutual
def uptoBulk {H : Type} : DataW H → Nat
  | .lit (.string bytes) => bytes.length + 1
  | .lit _ => 1
  | .nil => 1
  | .ptr d => uptoBulk d + 1
  | .slice elems spare => uptoBulkAll elems + uptoBulkAll spare + 1
  | .agg parts => uptoBulkAll parts + 1
  | .iface _ d => uptoBulk d + 1
  | .map entries => uptoBulkEntries entries + 1
  | .held _ => 1
def uptoBulkAll {H : Type} : List (DataW H) → Nat
  | [] => 0
  | d :: r => uptoBulk d + uptoBulkAll r
def uptoBulkEntries {H : Type} : List (Lit × DataW H) → Nat
  | [] => 0
  | x :: r => uptoBulkEntry x + uptoBulkEntries r
def uptoBulkEntry {H : Type} : Lit × DataW H → Nat
  | (.string bytes, d) => bytes.length + uptoBulk d + 1
  | (_, d) => uptoBulk d + 1
 end
def uptoSmall : (H : Type) → List (DataW H) → Bool := fun _ ds => decide (uptoBulkAll ds ≤ 1048576)
def OpenSpec.upto (s : _root_.Go.ChangeSpec) : _root_.Go.OpenSpec := { _root_.Go.OpenSpec.ofChange s with cond := some uptoSmall }

/-- 'tglaw2.StoreTells', WHERE WHAT IT READS IS OF BULK AT MOST 1048576: true; the input reads as it did. -/
def storeTellsUptoRow : OpenClaim := { program := "ytcgdjdlcecnanaa", sum := "c44e1fac1862ac2955f4fb6e12e55ef97f8987e80b9a304afc1c651a43712722", func := "trivetgate/tglaw2.StoreTells", spec := "storeTells", recurses := true, apart := false, narrowed := true }
def StoreTellsUptoSaid : Prop := storeTellsUptoRow.holds Try.pinned (OpenSpec.upto storeTellsSpec)

/-- 'tglaw2.StoreKeeps', WHERE WHAT IT READS IS OF BULK AT MOST 1048576: true; the input reads as it did. -/
def storeKeepsUptoRow : OpenClaim := { program := "ytcgdjdlcecnanaa", sum := "c44e1fac1862ac2955f4fb6e12e55ef97f8987e80b9a304afc1c651a43712722", func := "trivetgate/tglaw2.StoreKeeps", spec := "storeKeeps", apart := false, narrowed := true }
def StoreKeepsUptoSaid : Prop := storeKeepsUptoRow.holds Try.pinned (OpenSpec.upto storeKeepsSpec)

/-- 'tglaw2.StoreByte', WHERE WHAT IT READS IS OF BULK AT MOST 1048576: true; the input reads as it did. -/
def storeByteUptoRow : OpenClaim := { program := "ytcgdjdlcecnanaa", sum := "c44e1fac1862ac2955f4fb6e12e55ef97f8987e80b9a304afc1c651a43712722", func := "trivetgate/tglaw2.StoreByte", spec := "storeByte", apart := false, narrowed := true }
def StoreByteUptoSaid : Prop := storeByteUptoRow.holds Try.pinned (OpenSpec.upto storeByteSpec)

/-- 'tglaw1.NoteTells', WHERE WHAT IT READS IS OF BULK AT MOST 1048576: true; the input reads as it did. -/
def noteTellsUptoRow : OpenClaim := { program := "ytcgdjdlcecnanaa", sum := "c44e1fac1862ac2955f4fb6e12e55ef97f8987e80b9a304afc1c651a43712722", func := "trivetgate/tglaw1.NoteTells", spec := "noteTells", unfollowed := true, recurses := true, apart := false, narrowed := true }
def NoteTellsUptoSaid : Prop := noteTellsUptoRow.holds Try.pinned (OpenSpec.upto noteTellsSpec)

/-- 'tglaw1.NoteTurns', WHERE WHAT IT READS IS OF BULK AT MOST 1048576: true; the input reads as it did. -/
def noteTurnsUptoRow : OpenClaim := { program := "ytcgdjdlcecnanaa", sum := "c44e1fac1862ac2955f4fb6e12e55ef97f8987e80b9a304afc1c651a43712722", func := "trivetgate/tglaw1.NoteTurns", spec := "noteTurns", apart := false, narrowed := true }
def NoteTurnsUptoSaid : Prop := noteTurnsUptoRow.holds Try.pinned (OpenSpec.upto noteTurnsSpec)

/-- 'tglaw3.QueueTells', WHERE WHAT IT READS IS OF BULK AT MOST 1048576: true; the input reads as it did. -/
def queueTellsUptoRow : OpenClaim := { program := "ytcgdjdlcecnanaa", sum := "c44e1fac1862ac2955f4fb6e12e55ef97f8987e80b9a304afc1c651a43712722", func := "trivetgate/tglaw3.QueueTells", spec := "queueTells", unfollowed := true, recurses := true, apart := false, narrowed := true }
def QueueTellsUptoSaid : Prop := queueTellsUptoRow.holds Try.pinned (OpenSpec.upto queueTellsSpec)

/-- 'tglaw3.QueueFirst', WHERE WHAT IT READS IS OF BULK AT MOST 1048576: true; the input reads as it did. -/
def queueFirstUptoRow : OpenClaim := { program := "ytcgdjdlcecnanaa", sum := "c44e1fac1862ac2955f4fb6e12e55ef97f8987e80b9a304afc1c651a43712722", func := "trivetgate/tglaw3.QueueFirst", spec := "queueFirst", unfollowed := true, recurses := true, apart := false, narrowed := true }
def QueueFirstUptoSaid : Prop := queueFirstUptoRow.holds Try.pinned (OpenSpec.upto queueFirstSpec)

/-- 'tglaw3.QueueTurn', WHERE WHAT IT READS IS OF BULK AT MOST 1048576: true; the input reads as it did. -/
def queueTurnUptoRow : OpenClaim := { program := "ytcgdjdlcecnanaa", sum := "c44e1fac1862ac2955f4fb6e12e55ef97f8987e80b9a304afc1c651a43712722", func := "trivetgate/tglaw3.QueueTurn", spec := "queueTurn", unfollowed := true, recurses := true, apart := false, narrowed := true }
def QueueTurnUptoSaid : Prop := queueTurnUptoRow.holds Try.pinned (OpenSpec.upto queueTurnSpec)

/-- 'tglaw7.FramesTells', WHERE WHAT IT READS IS OF BULK AT MOST 1048576: true; the input reads as it did. -/
def framesTellsUptoRow : OpenClaim := { program := "ytcgdjdlcecnanaa", sum := "c44e1fac1862ac2955f4fb6e12e55ef97f8987e80b9a304afc1c651a43712722", func := "trivetgate/tglaw7.FramesTells", spec := "framesTells", unfollowed := true, recurses := true, apart := false, narrowed := true }
def FramesTellsUptoSaid : Prop := framesTellsUptoRow.holds Try.pinned (OpenSpec.upto framesTellsSpec)

/-- 'tglaw7.FramesTurns', WHERE WHAT IT READS IS OF BULK AT MOST 1048576: true; the input reads as it did. -/
def framesTurnsUptoRow : OpenClaim := { program := "ytcgdjdlcecnanaa", sum := "c44e1fac1862ac2955f4fb6e12e55ef97f8987e80b9a304afc1c651a43712722", func := "trivetgate/tglaw7.FramesTurns", spec := "framesTurns", apart := false, narrowed := true }
def FramesTurnsUptoSaid : Prop := framesTurnsUptoRow.holds Try.pinned (OpenSpec.upto framesTurnsSpec)

/-- 'tgtop.Names', WHERE WHAT IT READS IS OF BULK AT MOST 1048576: true; the input reads as it did. -/
def namesUptoRow : OpenClaim := { program := "ytcgdjdlcecnanaa", sum := "c44e1fac1862ac2955f4fb6e12e55ef97f8987e80b9a304afc1c651a43712722", func := "trivetgate/tgtop.Names", spec := "names", apart := false, narrowed := true }
def NamesUptoSaid : Prop := namesUptoRow.holds Try.pinned (OpenSpec.upto namesSpec)

/-- 'tglaw7.FramesRight', WHERE WHAT IT READS IS OF BULK AT MOST 1048576: true; the input reads as it did. -/
def framesRightUptoRow : OpenClaim := { program := "ytcgdjdlcecnanaa", sum := "c44e1fac1862ac2955f4fb6e12e55ef97f8987e80b9a304afc1c651a43712722", func := "trivetgate/tglaw7.FramesRight", spec := "framesRight", apart := false, narrowed := true }
def FramesRightUptoSaid : Prop := framesRightUptoRow.holds Try.pinned (OpenSpec.upto framesRightSpec)

end Rows
end Go.Proofs.Ytcgdjdlcecnanaa
