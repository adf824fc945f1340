/-
  No cell of these rows narrows 'for every input' (looked for: loops, veiled, ifaces, maps, wideKeys, modest, calm, conditions, laid).
  DERIVED. THE GIVEN ROWS OF THIS SEAT. 9 by the template 'for every input the law returns true; each argument reads behind the call as it read before'; 0 by the template 'total and deterministic' (their statements: YthbejciebmkclaaTotals.lean).
  GIVEN WITH THE SEED: the statements are not yours to turn. If you find one false, say at which input.
  Laid BY PROGRAM, IN A SANDBOX (cutbox-rows.mjs): the forced cells as the released guide's own fill.sh prints them over the translation 35efc57722ec09a5… (all of the seat's roots in one cut). By AI agents, Wed Nov 11 2026. No macro, syntax, notation, axiom, sorry.
-/
import Derived.Test.YthbejciebmkclaaChecked
import GoSem.Claim
import GoSem.ClaimJoined
import GoSem.ClaimMapViews
import Derived.JoinedTies
import Derived.KernelRfl
namespace Go.Proofs.Ythbejciebmkclaa
/- THE CELL 'sum', in the pinned program and in every row, IS THE sha256 OF THE DUMP (.gsa) THAT YthbejciebmkclaaProg.lean LOADS. Nothing in Lean hashes anything: it is a label: what it is worth is what the hold of that sum in a sandbox is worth. -/
noncomputable def Try.pinned : Pinned := { name := "ythbejciebmkclaa", sum := "35efc57722ec09a52eb41506ce2db81e240447c3284d5f9b38c7ea7a910a2b9a", checked := Try.checked }
namespace Rows
def none {H : Type} : Left H := { results := [], args := [] }

/-- 'tglaw5.JournalTells': WHATEVER THE INPUT: true; the input reads as it did. -/
def journalTellsSpec : ChangeSpec := { name := "journalTells", fn := fun _ => fun
  | [d1, d2, d3, d4] => { results := [.lit (.bool true)], args := [d1, d2, d3, d4] }
  | _ => none }
def journalTellsRow : OpenClaim := { program := "ythbejciebmkclaa", sum := "35efc57722ec09a52eb41506ce2db81e240447c3284d5f9b38c7ea7a910a2b9a", func := "trivetgate/tglaw5.JournalTells", spec := "journalTells", unfollowed := true, recurses := true, apart := false }
def JournalTellsSaid : Prop := journalTellsRow.holds Try.pinned (OpenSpec.ofChange journalTellsSpec)

/-- ITS FALSE NEIGHBOUR: 'it returns false'. Refute it at one input. -/
def journalTellsWrong : ChangeSpec := { name := "journalTells", fn := fun _ => fun
  | [d1, d2, d3, d4] => { results := [.lit (.bool false)], args := [d1, d2, d3, d4] }
  | _ => none }
def JournalTellsWrongFalsely : Prop := journalTellsRow.holds Try.pinned (OpenSpec.ofChange journalTellsWrong)

/-- 'tglaw5.JournalFollows': WHATEVER THE INPUT: true; the input reads as it did. -/
def journalFollowsSpec : ChangeSpec := { name := "journalFollows", fn := fun _ => fun
  | [d1, d2, d3, d4, d5, d6] => { results := [.lit (.bool true)], args := [d1, d2, d3, d4, d5, d6] }
  | _ => none }
def journalFollowsRow : OpenClaim := { program := "ythbejciebmkclaa", sum := "35efc57722ec09a52eb41506ce2db81e240447c3284d5f9b38c7ea7a910a2b9a", func := "trivetgate/tglaw5.JournalFollows", spec := "journalFollows", unfollowed := true, recurses := true, apart := false }
def JournalFollowsSaid : Prop := journalFollowsRow.holds Try.pinned (OpenSpec.ofChange journalFollowsSpec)

/-- ITS FALSE NEIGHBOUR: 'it returns false'. Refute it at one input. -/
def journalFollowsWrong : ChangeSpec := { name := "journalFollows", fn := fun _ => fun
  | [d1, d2, d3, d4, d5, d6] => { results := [.lit (.bool false)], args := [d1, d2, d3, d4, d5, d6] }
  | _ => none }
def JournalFollowsWrongFalsely : Prop := journalFollowsRow.holds Try.pinned (OpenSpec.ofChange journalFollowsWrong)

/-- 'tglaw5.JournalShort': WHATEVER THE INPUT: true; the input reads as it did. -/
def journalShortSpec : ChangeSpec := { name := "journalShort", fn := fun _ => fun
  | [d] => { results := [.lit (.bool true)], args := [d] }
  | _ => none }
def journalShortRow : OpenClaim := { program := "ythbejciebmkclaa", sum := "35efc57722ec09a52eb41506ce2db81e240447c3284d5f9b38c7ea7a910a2b9a", func := "trivetgate/tglaw5.JournalShort", spec := "journalShort", unfollowed := true, recurses := true, apart := false }
def JournalShortSaid : Prop := journalShortRow.holds Try.pinned (OpenSpec.ofChange journalShortSpec)

/-- ITS FALSE NEIGHBOUR: 'it returns false'. Refute it at one input. -/
def journalShortWrong : ChangeSpec := { name := "journalShort", fn := fun _ => fun
  | [d] => { results := [.lit (.bool false)], args := [d] }
  | _ => none }
def JournalShortWrongFalsely : Prop := journalShortRow.holds Try.pinned (OpenSpec.ofChange journalShortWrong)

/-- 'tglaw4.HallTells': WHATEVER THE INPUT: true; the input reads as it did. -/
def hallTellsSpec : ChangeSpec := { name := "hallTells", fn := fun _ => fun
  | [d1, d2, d3, d4, d5, d6] => { results := [.lit (.bool true)], args := [d1, d2, d3, d4, d5, d6] }
  | _ => none }
def hallTellsRow : OpenClaim := { program := "ythbejciebmkclaa", sum := "35efc57722ec09a52eb41506ce2db81e240447c3284d5f9b38c7ea7a910a2b9a", func := "trivetgate/tglaw4.HallTells", spec := "hallTells", unfollowed := true, recurses := true, apart := false }
def HallTellsSaid : Prop := hallTellsRow.holds Try.pinned (OpenSpec.ofChange hallTellsSpec)

/-- ITS FALSE NEIGHBOUR: 'it returns false'. Refute it at one input. -/
def hallTellsWrong : ChangeSpec := { name := "hallTells", fn := fun _ => fun
  | [d1, d2, d3, d4, d5, d6] => { results := [.lit (.bool false)], args := [d1, d2, d3, d4, d5, d6] }
  | _ => none }
def HallTellsWrongFalsely : Prop := hallTellsRow.holds Try.pinned (OpenSpec.ofChange hallTellsWrong)

/-- 'tglaw4.HallErrs': WHATEVER THE INPUT: true; the input reads as it did. -/
def hallErrsSpec : ChangeSpec := { name := "hallErrs", fn := fun _ => fun
  | [d1, d2, d3, d4, d5] => { results := [.lit (.bool true)], args := [d1, d2, d3, d4, d5] }
  | _ => none }
def hallErrsRow : OpenClaim := { program := "ythbejciebmkclaa", sum := "35efc57722ec09a52eb41506ce2db81e240447c3284d5f9b38c7ea7a910a2b9a", func := "trivetgate/tglaw4.HallErrs", spec := "hallErrs", unfollowed := true, recurses := true, apart := false }
def HallErrsSaid : Prop := hallErrsRow.holds Try.pinned (OpenSpec.ofChange hallErrsSpec)

/-- ITS FALSE NEIGHBOUR: 'it returns false'. Refute it at one input. -/
def hallErrsWrong : ChangeSpec := { name := "hallErrs", fn := fun _ => fun
  | [d1, d2, d3, d4, d5] => { results := [.lit (.bool false)], args := [d1, d2, d3, d4, d5] }
  | _ => none }
def HallErrsWrongFalsely : Prop := hallErrsRow.holds Try.pinned (OpenSpec.ofChange hallErrsWrong)

/-- 'tglaw4.HallDead': WHATEVER THE INPUT: true; the input reads as it did. -/
def hallDeadSpec : ChangeSpec := { name := "hallDead", fn := fun _ => fun
  | [d1, d2, d3] => { results := [.lit (.bool true)], args := [d1, d2, d3] }
  | _ => none }
def hallDeadRow : OpenClaim := { program := "ythbejciebmkclaa", sum := "35efc57722ec09a52eb41506ce2db81e240447c3284d5f9b38c7ea7a910a2b9a", func := "trivetgate/tglaw4.HallDead", spec := "hallDead", unfollowed := true, recurses := true, apart := false }
def HallDeadSaid : Prop := hallDeadRow.holds Try.pinned (OpenSpec.ofChange hallDeadSpec)

/-- ITS FALSE NEIGHBOUR: 'it returns false'. Refute it at one input. -/
def hallDeadWrong : ChangeSpec := { name := "hallDead", fn := fun _ => fun
  | [d1, d2, d3] => { results := [.lit (.bool false)], args := [d1, d2, d3] }
  | _ => none }
def HallDeadWrongFalsely : Prop := hallDeadRow.holds Try.pinned (OpenSpec.ofChange hallDeadWrong)

/-- 'tglaw6.SessionTells': WHATEVER THE INPUT: true; the input reads as it did. -/
def sessionTellsSpec : ChangeSpec := { name := "sessionTells", fn := fun _ => fun
  | [d1, d2, d3, d4, d5] => { results := [.lit (.bool true)], args := [d1, d2, d3, d4, d5] }
  | _ => none }
def sessionTellsRow : OpenClaim := { program := "ythbejciebmkclaa", sum := "35efc57722ec09a52eb41506ce2db81e240447c3284d5f9b38c7ea7a910a2b9a", func := "trivetgate/tglaw6.SessionTells", spec := "sessionTells", unfollowed := true, recurses := true, apart := false }
def SessionTellsSaid : Prop := sessionTellsRow.holds Try.pinned (OpenSpec.ofChange sessionTellsSpec)

/-- ITS FALSE NEIGHBOUR: 'it returns false'. Refute it at one input. -/
def sessionTellsWrong : ChangeSpec := { name := "sessionTells", fn := fun _ => fun
  | [d1, d2, d3, d4, d5] => { results := [.lit (.bool false)], args := [d1, d2, d3, d4, d5] }
  | _ => none }
def SessionTellsWrongFalsely : Prop := sessionTellsRow.holds Try.pinned (OpenSpec.ofChange sessionTellsWrong)

/-- 'tglaw6.SessionRefused': WHATEVER THE INPUT: true; the input reads as it did. -/
def sessionRefusedSpec : ChangeSpec := { name := "sessionRefused", fn := fun _ => fun
  | [d1, d2, d3, d4, d5] => { results := [.lit (.bool true)], args := [d1, d2, d3, d4, d5] }
  | _ => none }
def sessionRefusedRow : OpenClaim := { program := "ythbejciebmkclaa", sum := "35efc57722ec09a52eb41506ce2db81e240447c3284d5f9b38c7ea7a910a2b9a", func := "trivetgate/tglaw6.SessionRefused", spec := "sessionRefused", unfollowed := true, recurses := true, apart := false }
def SessionRefusedSaid : Prop := sessionRefusedRow.holds Try.pinned (OpenSpec.ofChange sessionRefusedSpec)

/-- ITS FALSE NEIGHBOUR: 'it returns false'. Refute it at one input. -/
def sessionRefusedWrong : ChangeSpec := { name := "sessionRefused", fn := fun _ => fun
  | [d1, d2, d3, d4, d5] => { results := [.lit (.bool false)], args := [d1, d2, d3, d4, d5] }
  | _ => none }
def SessionRefusedWrongFalsely : Prop := sessionRefusedRow.holds Try.pinned (OpenSpec.ofChange sessionRefusedWrong)

/-- 'tglaw6.SessionTags': WHATEVER THE INPUT: true; the input reads as it did. -/
def sessionTagsSpec : ChangeSpec := { name := "sessionTags", fn := fun _ => fun
  | [d1, d2, d3, d4] => { results := [.lit (.bool true)], args := [d1, d2, d3, d4] }
  | _ => none }
def sessionTagsRow : OpenClaim := { program := "ythbejciebmkclaa", sum := "35efc57722ec09a52eb41506ce2db81e240447c3284d5f9b38c7ea7a910a2b9a", func := "trivetgate/tglaw6.SessionTags", spec := "sessionTags", unfollowed := true, recurses := true, apart := false }
def SessionTagsSaid : Prop := sessionTagsRow.holds Try.pinned (OpenSpec.ofChange sessionTagsSpec)

/-- ITS FALSE NEIGHBOUR: 'it returns false'. Refute it at one input. -/
def sessionTagsWrong : ChangeSpec := { name := "sessionTags", fn := fun _ => fun
  | [d1, d2, d3, d4] => { results := [.lit (.bool false)], args := [d1, d2, d3, d4] }
  | _ => none }
def SessionTagsWrongFalsely : Prop := sessionTagsRow.holds Try.pinned (OpenSpec.ofChange sessionTagsWrong)

/- THE SECOND FORM. 'bulk': how many values and letters a reading holds, each counted each time it is reached (what is shared counts as often as it is met; a slice's spare places count too). A statement '..UptoSaid' is the law's where the arguments, and the package variables that the reading takes, are together of bulk at most 1048576: NARROWER than '..Said'. Prove '..Said' where nothing that the law and all that it calls make is longer than what came in: it says more and counts as full. Else prove '..UptoSaid'. A law counts once. -/
mutual
def uptoBulk {H : Type} : DataW H → Nat
  | .lit (.string bytes) => bytes.length + 1
  | .lit _ => 1
  | .nil => 1
  | .ptr d => uptoBulk d + 1
  | .slice elems spare => uptoBulkAll elems + uptoBulkAll spare + 1
  | .agg parts => uptoBulkAll parts + 1
  | .iface _ d => uptoBulk d + 1
  | .map entries => uptoBulkEntries entries + 1
  | .held _ => 1
def uptoBulkAll {H : Type} : List (DataW H) → Nat
  | [] => 0
  | d :: r => uptoBulk d + uptoBulkAll r
def uptoBulkEntries {H : Type} : List (Lit × DataW H) → Nat
  | [] => 0
  | x :: r => uptoBulkEntry x + uptoBulkEntries r
def uptoBulkEntry {H : Type} : Lit × DataW H → Nat
  | (.string bytes, d) => bytes.length + uptoBulk d + 1
  | (_, d) => uptoBulk d + 1
 end
def uptoSmall : (H : Type) → List (DataW H) → Bool := fun _ ds => decide (uptoBulkAll ds ≤ 1048576)
def OpenSpec.upto (s : _root_.Go.ChangeSpec) : _root_.Go.OpenSpec := { _root_.Go.OpenSpec.ofChange s with cond := some uptoSmall }

/-- 'tglaw5.JournalTells', WHERE WHAT IT READS IS OF BULK AT MOST 1048576: true; the input reads as it did. -/
def journalTellsUptoRow : OpenClaim := { program := "ythbejciebmkclaa", sum := "35efc57722ec09a52eb41506ce2db81e240447c3284d5f9b38c7ea7a910a2b9a", func := "trivetgate/tglaw5.JournalTells", spec := "journalTells", unfollowed := true, recurses := true, apart := false, narrowed := true }
def JournalTellsUptoSaid : Prop := journalTellsUptoRow.holds Try.pinned (OpenSpec.upto journalTellsSpec)

/-- 'tglaw5.JournalFollows', WHERE WHAT IT READS IS OF BULK AT MOST 1048576: true; the input reads as it did. -/
def journalFollowsUptoRow : OpenClaim := { program := "ythbejciebmkclaa", sum := "35efc57722ec09a52eb41506ce2db81e240447c3284d5f9b38c7ea7a910a2b9a", func := "trivetgate/tglaw5.JournalFollows", spec := "journalFollows", unfollowed := true, recurses := true, apart := false, narrowed := true }
def JournalFollowsUptoSaid : Prop := journalFollowsUptoRow.holds Try.pinned (OpenSpec.upto journalFollowsSpec)

/-- 'tglaw5.JournalShort', WHERE WHAT IT READS IS OF BULK AT MOST 1048576: true; the input reads as it did. -/
def journalShortUptoRow : OpenClaim := { program := "ythbejciebmkclaa", sum := "35efc57722ec09a52eb41506ce2db81e240447c3284d5f9b38c7ea7a910a2b9a", func := "trivetgate/tglaw5.JournalShort", spec := "journalShort", unfollowed := true, recurses := true, apart := false, narrowed := true }
def JournalShortUptoSaid : Prop := journalShortUptoRow.holds Try.pinned (OpenSpec.upto journalShortSpec)

/-- 'tglaw4.HallTells', WHERE WHAT IT READS IS OF BULK AT MOST 1048576: true; the input reads as it did. -/
def hallTellsUptoRow : OpenClaim := { program := "ythbejciebmkclaa", sum := "35efc57722ec09a52eb41506ce2db81e240447c3284d5f9b38c7ea7a910a2b9a", func := "trivetgate/tglaw4.HallTells", spec := "hallTells", unfollowed := true, recurses := true, apart := false, narrowed := true }
def HallTellsUptoSaid : Prop := hallTellsUptoRow.holds Try.pinned (OpenSpec.upto hallTellsSpec)

/-- 'tglaw4.HallErrs', WHERE WHAT IT READS IS OF BULK AT MOST 1048576: true; the input reads as it did. -/
def hallErrsUptoRow : OpenClaim := { program := "ythbejciebmkclaa", sum := "35efc57722ec09a52eb41506ce2db81e240447c3284d5f9b38c7ea7a910a2b9a", func := "trivetgate/tglaw4.HallErrs", spec := "hallErrs", unfollowed := true, recurses := true, apart := false, narrowed := true }
def HallErrsUptoSaid : Prop := hallErrsUptoRow.holds Try.pinned (OpenSpec.upto hallErrsSpec)

/-- 'tglaw4.HallDead', WHERE WHAT IT READS IS OF BULK AT MOST 1048576: true; the input reads as it did. -/
def hallDeadUptoRow : OpenClaim := { program := "ythbejciebmkclaa", sum := "35efc57722ec09a52eb41506ce2db81e240447c3284d5f9b38c7ea7a910a2b9a", func := "trivetgate/tglaw4.HallDead", spec := "hallDead", unfollowed := true, recurses := true, apart := false, narrowed := true }
def HallDeadUptoSaid : Prop := hallDeadUptoRow.holds Try.pinned (OpenSpec.upto hallDeadSpec)

/-- 'tglaw6.SessionTells', WHERE WHAT IT READS IS OF BULK AT MOST 1048576: true; the input reads as it did. -/
def sessionTellsUptoRow : OpenClaim := { program := "ythbejciebmkclaa", sum := "35efc57722ec09a52eb41506ce2db81e240447c3284d5f9b38c7ea7a910a2b9a", func := "trivetgate/tglaw6.SessionTells", spec := "sessionTells", unfollowed := true, recurses := true, apart := false, narrowed := true }
def SessionTellsUptoSaid : Prop := sessionTellsUptoRow.holds Try.pinned (OpenSpec.upto sessionTellsSpec)

/-- 'tglaw6.SessionRefused', WHERE WHAT IT READS IS OF BULK AT MOST 1048576: true; the input reads as it did. -/
def sessionRefusedUptoRow : OpenClaim := { program := "ythbejciebmkclaa", sum := "35efc57722ec09a52eb41506ce2db81e240447c3284d5f9b38c7ea7a910a2b9a", func := "trivetgate/tglaw6.SessionRefused", spec := "sessionRefused", unfollowed := true, recurses := true, apart := false, narrowed := true }
def SessionRefusedUptoSaid : Prop := sessionRefusedUptoRow.holds Try.pinned (OpenSpec.upto sessionRefusedSpec)

/-- 'tglaw6.SessionTags', WHERE WHAT IT READS IS OF BULK AT MOST 1048576: true; the input reads as it did. -/
def sessionTagsUptoRow : OpenClaim := { program := "ythbejciebmkclaa", sum := "35efc57722ec09a52eb41506ce2db81e240447c3284d5f9b38c7ea7a910a2b9a", func := "trivetgate/tglaw6.SessionTags", spec := "sessionTags", unfollowed := true, recurses := true, apart := false, narrowed := true }
def SessionTagsUptoSaid : Prop := sessionTagsUptoRow.holds Try.pinned (OpenSpec.upto sessionTagsSpec)

end Rows
end Go.Proofs.Ythbejciebmkclaa
