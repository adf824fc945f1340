/-
  DERIVED. GIVEN WITH THE SEED: THE CARDS: each row of YtlkmgccikgnaeaaGreatDoorRows.lean that lists a variable, with what it lists TIED to the program's text (the seventh form; the later family's looks); each row that meets fmt, with fmt's text TOLD by the authors' own Lean function (tested against real Go, not proved from fmt's source: count such statements apart). THE CARD IS WHAT COUNTS. Prove the row's statement (the work); the ties are given (YtlkmgccikgnaeaaGreatDoorTie.lean); close each card by the builder's one call (the guide's Derived/Test/ToyasCard.lean, 'card_holds'). Laid BY PROGRAM, IN A SANDBOX (cutbox-door.mjs). By AI agents, Wed Nov 11 2026. No macro, syntax, notation, axiom, sorry.
-/
import Derived.Test.YtlkmgccikgnaeaaGreatDoorRows
import GoSem.ClaimSeven
namespace Go.Proofs.YtlkmgccikgnaeaaGreatDoor
namespace Rows

/-- THE TIED CARD OF 'tgtop.TopAcross'. -/
def topAcrossCard : Claim7 := { stood := { row := topAcrossRow, standIns := [], harness := (true, "c990b83778afcb61cb9caf599c52a7b15d33ad5245a7bf25ddabb59c2f33818e"), looks := true }, kinds := [], alts := [], laidByText := true, laidKinds := [.data, .data, .data, .data, .sentinel, .sentinel, .pinned], laidTests := true, laidLooks := .later }
def TopAcrossCardSaid : Prop := Claim7.holds Tryz.pinned (.plain (OpenSpec.ofChange topAcrossSpec)) topAcrossCard

/-- THE TIED CARD OF 'tgtop.TopCrash'. -/
def topCrashCard : Claim7 := { stood := { row := topCrashRow, standIns := [], harness := (true, "c990b83778afcb61cb9caf599c52a7b15d33ad5245a7bf25ddabb59c2f33818e"), looks := true }, kinds := [], alts := [], laidByText := true, laidKinds := [.data, .data, .data, .data, .sentinel, .sentinel, .pinned], laidTests := true, laidLooks := .later }
def TopCrashCardSaid : Prop := Claim7.holds Tryz.pinned (.plain (OpenSpec.ofChange topCrashSpec)) topCrashCard

/-- THE TIED CARD OF 'tglaw11.BridgeTells'. -/
def bridgeTellsCard : Claim7 := { stood := { row := bridgeTellsRow, standIns := [], harness := (true, "c990b83778afcb61cb9caf599c52a7b15d33ad5245a7bf25ddabb59c2f33818e"), looks := true }, kinds := [], alts := [], laidByText := true, laidKinds := [.data, .data, .data, .data, .sentinel, .sentinel, .pinned], laidTests := true, laidLooks := .later }
def BridgeTellsCardSaid : Prop := Claim7.holds Tryz.pinned (.plain (OpenSpec.ofChange bridgeTellsSpec)) bridgeTellsCard

/-- THE TIED CARD OF 'tglaw11.BridgeSplit'. -/
def bridgeSplitCard : Claim7 := { stood := { row := bridgeSplitRow, standIns := [], harness := (true, "c990b83778afcb61cb9caf599c52a7b15d33ad5245a7bf25ddabb59c2f33818e"), looks := true }, kinds := [], alts := [], laidByText := true, laidKinds := [.data, .data, .data, .data, .sentinel, .sentinel, .pinned], laidTests := true, laidLooks := .later }
def BridgeSplitCardSaid : Prop := Claim7.holds Tryz.pinned (.plain (OpenSpec.ofChange bridgeSplitSpec)) bridgeSplitCard

/-- THE TIED CARD OF 'tglaw11.BridgeOthers'. -/
def bridgeOthersCard : Claim7 := { stood := { row := bridgeOthersRow, standIns := [], harness := (true, "c990b83778afcb61cb9caf599c52a7b15d33ad5245a7bf25ddabb59c2f33818e"), looks := true }, kinds := [], alts := [], laidByText := true, laidKinds := [.data, .data, .data, .data, .sentinel, .sentinel, .pinned], laidTests := true, laidLooks := .later }
def BridgeOthersCardSaid : Prop := Claim7.holds Tryz.pinned (.plain (OpenSpec.ofChange bridgeOthersSpec)) bridgeOthersCard

/-- THE TIED CARD OF 'tglaw11.BridgeSafe'. -/
def bridgeSafeCard : Claim7 := { stood := { row := bridgeSafeRow, standIns := [], harness := (true, "c990b83778afcb61cb9caf599c52a7b15d33ad5245a7bf25ddabb59c2f33818e"), looks := true }, kinds := [], alts := [], laidByText := true, laidKinds := [.data, .data, .data, .data, .sentinel, .sentinel, .pinned], laidTests := true, laidLooks := .later }
def BridgeSafeCardSaid : Prop := Claim7.holds Tryz.pinned (.plain (OpenSpec.ofChange bridgeSafeSpec)) bridgeSafeCard

/-- THE TIED CARD OF 'tglaw11.BridgeTwice'. -/
def bridgeTwiceCard : Claim7 := { stood := { row := bridgeTwiceRow, standIns := [], harness := (true, "c990b83778afcb61cb9caf599c52a7b15d33ad5245a7bf25ddabb59c2f33818e"), looks := true }, kinds := [], alts := [], laidByText := true, laidKinds := [.data, .data, .data, .data, .sentinel, .sentinel, .pinned], laidTests := true, laidLooks := .later }
def BridgeTwiceCardSaid : Prop := Claim7.holds Tryz.pinned (.plain (OpenSpec.ofChange bridgeTwiceSpec)) bridgeTwiceCard

/-- THE TIED CARD OF 'tglaw12.PlayTells'. -/
def playTellsCard : Claim7 := { stood := { row := playTellsRow, standIns := [], harness := (true, "c990b83778afcb61cb9caf599c52a7b15d33ad5245a7bf25ddabb59c2f33818e"), looks := true }, kinds := [], alts := [], laidByText := true, laidKinds := [.data, .data, .data, .data, .sentinel, .sentinel, .pinned], laidTests := true, laidLooks := .later }
def PlayTellsCardSaid : Prop := Claim7.holds Tryz.pinned (.plain (OpenSpec.ofChange playTellsSpec)) playTellsCard

/-- THE TIED CARD OF 'tglaw12.PlayHeard'. -/
def playHeardCard : Claim7 := { stood := { row := playHeardRow, standIns := [], harness := (true, "c990b83778afcb61cb9caf599c52a7b15d33ad5245a7bf25ddabb59c2f33818e"), looks := true }, kinds := [], alts := [], laidByText := true, laidKinds := [.data, .data, .data, .data, .sentinel, .sentinel, .pinned], laidTests := true, laidLooks := .later }
def PlayHeardCardSaid : Prop := Claim7.holds Tryz.pinned (.plain (OpenSpec.ofChange playHeardSpec)) playHeardCard

/-- THE TIED CARD OF 'tglaw12.PlayTongues'. -/
def playTonguesCard : Claim7 := { stood := { row := playTonguesRow, standIns := [], harness := (true, "c990b83778afcb61cb9caf599c52a7b15d33ad5245a7bf25ddabb59c2f33818e"), looks := true }, kinds := [], alts := [], laidByText := true, laidKinds := [.data, .data, .data, .data, .sentinel, .sentinel, .pinned], laidTests := true, laidLooks := .later }
def PlayTonguesCardSaid : Prop := Claim7.holds Tryz.pinned (.plain (OpenSpec.ofChange playTonguesSpec)) playTonguesCard

/-- THE TIED CARD OF 'tgtop.TopGone'. -/
def topGoneCard : Claim7 := { stood := { row := topGoneRow, standIns := [], harness := (true, "c990b83778afcb61cb9caf599c52a7b15d33ad5245a7bf25ddabb59c2f33818e"), looks := true }, kinds := [], alts := [], laidByText := true, laidKinds := [.data, .data, .data, .data, .sentinel, .sentinel, .pinned], laidTests := true, laidLooks := .later }
def TopGoneCardSaid : Prop := Claim7.holds Tryz.pinned (.plain (OpenSpec.ofChange topGoneSpec)) topGoneCard

/-- THE TIED CARD OF 'tgtop.TopWait'. -/
def topWaitCard : Claim7 := { stood := { row := topWaitRow, standIns := [], harness := (true, "c990b83778afcb61cb9caf599c52a7b15d33ad5245a7bf25ddabb59c2f33818e"), looks := true }, kinds := [], alts := [], laidByText := true, laidKinds := [.data, .data, .data, .data, .sentinel, .sentinel, .pinned], laidTests := true, laidLooks := .later }
def TopWaitCardSaid : Prop := Claim7.holds Tryz.pinned (.plain (OpenSpec.ofChange topWaitSpec)) topWaitCard

/-- THE TIED CARD OF 'tglaw10.GateTells'. -/
def gateTellsCard : Claim7 := { stood := { row := gateTellsRow, standIns := [], harness := (true, "c990b83778afcb61cb9caf599c52a7b15d33ad5245a7bf25ddabb59c2f33818e"), looks := true }, kinds := [], alts := [], laidByText := true, laidKinds := [.data, .data, .data, .data, .sentinel, .sentinel, .pinned], laidTests := true, laidLooks := .later }
def GateTellsCardSaid : Prop := Claim7.holds Tryz.pinned (.plain (OpenSpec.ofChange gateTellsSpec)) gateTellsCard

/-- THE SECOND FORM's CARD OF 'tgtop.TopAcross'. -/
def topAcrossUptoCard : Claim7 := { stood := { row := topAcrossUptoRow, standIns := [], harness := (true, "c990b83778afcb61cb9caf599c52a7b15d33ad5245a7bf25ddabb59c2f33818e"), looks := true }, kinds := [], alts := [], laidByText := true, laidKinds := [.data, .data, .data, .data, .sentinel, .sentinel, .pinned], laidTests := true, laidLooks := .later }
def TopAcrossUptoCardSaid : Prop := Claim7.holds Tryz.pinned (.plain (OpenSpec.upto topAcrossSpec)) topAcrossUptoCard

/-- THE SECOND FORM's CARD OF 'tgtop.TopCrash'. -/
def topCrashUptoCard : Claim7 := { stood := { row := topCrashUptoRow, standIns := [], harness := (true, "c990b83778afcb61cb9caf599c52a7b15d33ad5245a7bf25ddabb59c2f33818e"), looks := true }, kinds := [], alts := [], laidByText := true, laidKinds := [.data, .data, .data, .data, .sentinel, .sentinel, .pinned], laidTests := true, laidLooks := .later }
def TopCrashUptoCardSaid : Prop := Claim7.holds Tryz.pinned (.plain (OpenSpec.upto topCrashSpec)) topCrashUptoCard

/-- THE SECOND FORM's CARD OF 'tglaw11.BridgeTells'. -/
def bridgeTellsUptoCard : Claim7 := { stood := { row := bridgeTellsUptoRow, standIns := [], harness := (true, "c990b83778afcb61cb9caf599c52a7b15d33ad5245a7bf25ddabb59c2f33818e"), looks := true }, kinds := [], alts := [], laidByText := true, laidKinds := [.data, .data, .data, .data, .sentinel, .sentinel, .pinned], laidTests := true, laidLooks := .later }
def BridgeTellsUptoCardSaid : Prop := Claim7.holds Tryz.pinned (.plain (OpenSpec.upto bridgeTellsSpec)) bridgeTellsUptoCard

/-- THE SECOND FORM's CARD OF 'tglaw11.BridgeSplit'. -/
def bridgeSplitUptoCard : Claim7 := { stood := { row := bridgeSplitUptoRow, standIns := [], harness := (true, "c990b83778afcb61cb9caf599c52a7b15d33ad5245a7bf25ddabb59c2f33818e"), looks := true }, kinds := [], alts := [], laidByText := true, laidKinds := [.data, .data, .data, .data, .sentinel, .sentinel, .pinned], laidTests := true, laidLooks := .later }
def BridgeSplitUptoCardSaid : Prop := Claim7.holds Tryz.pinned (.plain (OpenSpec.upto bridgeSplitSpec)) bridgeSplitUptoCard

/-- THE SECOND FORM's CARD OF 'tglaw11.BridgeOthers'. -/
def bridgeOthersUptoCard : Claim7 := { stood := { row := bridgeOthersUptoRow, standIns := [], harness := (true, "c990b83778afcb61cb9caf599c52a7b15d33ad5245a7bf25ddabb59c2f33818e"), looks := true }, kinds := [], alts := [], laidByText := true, laidKinds := [.data, .data, .data, .data, .sentinel, .sentinel, .pinned], laidTests := true, laidLooks := .later }
def BridgeOthersUptoCardSaid : Prop := Claim7.holds Tryz.pinned (.plain (OpenSpec.upto bridgeOthersSpec)) bridgeOthersUptoCard

/-- THE SECOND FORM's CARD OF 'tglaw11.BridgeSafe'. -/
def bridgeSafeUptoCard : Claim7 := { stood := { row := bridgeSafeUptoRow, standIns := [], harness := (true, "c990b83778afcb61cb9caf599c52a7b15d33ad5245a7bf25ddabb59c2f33818e"), looks := true }, kinds := [], alts := [], laidByText := true, laidKinds := [.data, .data, .data, .data, .sentinel, .sentinel, .pinned], laidTests := true, laidLooks := .later }
def BridgeSafeUptoCardSaid : Prop := Claim7.holds Tryz.pinned (.plain (OpenSpec.upto bridgeSafeSpec)) bridgeSafeUptoCard

/-- THE SECOND FORM's CARD OF 'tglaw11.BridgeTwice'. -/
def bridgeTwiceUptoCard : Claim7 := { stood := { row := bridgeTwiceUptoRow, standIns := [], harness := (true, "c990b83778afcb61cb9caf599c52a7b15d33ad5245a7bf25ddabb59c2f33818e"), looks := true }, kinds := [], alts := [], laidByText := true, laidKinds := [.data, .data, .data, .data, .sentinel, .sentinel, .pinned], laidTests := true, laidLooks := .later }
def BridgeTwiceUptoCardSaid : Prop := Claim7.holds Tryz.pinned (.plain (OpenSpec.upto bridgeTwiceSpec)) bridgeTwiceUptoCard

/-- THE SECOND FORM's CARD OF 'tglaw12.PlayTells'. -/
def playTellsUptoCard : Claim7 := { stood := { row := playTellsUptoRow, standIns := [], harness := (true, "c990b83778afcb61cb9caf599c52a7b15d33ad5245a7bf25ddabb59c2f33818e"), looks := true }, kinds := [], alts := [], laidByText := true, laidKinds := [.data, .data, .data, .data, .sentinel, .sentinel, .pinned], laidTests := true, laidLooks := .later }
def PlayTellsUptoCardSaid : Prop := Claim7.holds Tryz.pinned (.plain (OpenSpec.upto playTellsSpec)) playTellsUptoCard

/-- THE SECOND FORM's CARD OF 'tglaw12.PlayHeard'. -/
def playHeardUptoCard : Claim7 := { stood := { row := playHeardUptoRow, standIns := [], harness := (true, "c990b83778afcb61cb9caf599c52a7b15d33ad5245a7bf25ddabb59c2f33818e"), looks := true }, kinds := [], alts := [], laidByText := true, laidKinds := [.data, .data, .data, .data, .sentinel, .sentinel, .pinned], laidTests := true, laidLooks := .later }
def PlayHeardUptoCardSaid : Prop := Claim7.holds Tryz.pinned (.plain (OpenSpec.upto playHeardSpec)) playHeardUptoCard

/-- THE SECOND FORM's CARD OF 'tglaw12.PlayTongues'. -/
def playTonguesUptoCard : Claim7 := { stood := { row := playTonguesUptoRow, standIns := [], harness := (true, "c990b83778afcb61cb9caf599c52a7b15d33ad5245a7bf25ddabb59c2f33818e"), looks := true }, kinds := [], alts := [], laidByText := true, laidKinds := [.data, .data, .data, .data, .sentinel, .sentinel, .pinned], laidTests := true, laidLooks := .later }
def PlayTonguesUptoCardSaid : Prop := Claim7.holds Tryz.pinned (.plain (OpenSpec.upto playTonguesSpec)) playTonguesUptoCard

/-- THE SECOND FORM's CARD OF 'tgtop.TopGone'. -/
def topGoneUptoCard : Claim7 := { stood := { row := topGoneUptoRow, standIns := [], harness := (true, "c990b83778afcb61cb9caf599c52a7b15d33ad5245a7bf25ddabb59c2f33818e"), looks := true }, kinds := [], alts := [], laidByText := true, laidKinds := [.data, .data, .data, .data, .sentinel, .sentinel, .pinned], laidTests := true, laidLooks := .later }
def TopGoneUptoCardSaid : Prop := Claim7.holds Tryz.pinned (.plain (OpenSpec.upto topGoneSpec)) topGoneUptoCard

/-- THE SECOND FORM's CARD OF 'tgtop.TopWait'. -/
def topWaitUptoCard : Claim7 := { stood := { row := topWaitUptoRow, standIns := [], harness := (true, "c990b83778afcb61cb9caf599c52a7b15d33ad5245a7bf25ddabb59c2f33818e"), looks := true }, kinds := [], alts := [], laidByText := true, laidKinds := [.data, .data, .data, .data, .sentinel, .sentinel, .pinned], laidTests := true, laidLooks := .later }
def TopWaitUptoCardSaid : Prop := Claim7.holds Tryz.pinned (.plain (OpenSpec.upto topWaitSpec)) topWaitUptoCard

/-- THE SECOND FORM's CARD OF 'tglaw10.GateTells'. -/
def gateTellsUptoCard : Claim7 := { stood := { row := gateTellsUptoRow, standIns := [], harness := (true, "c990b83778afcb61cb9caf599c52a7b15d33ad5245a7bf25ddabb59c2f33818e"), looks := true }, kinds := [], alts := [], laidByText := true, laidKinds := [.data, .data, .data, .data, .sentinel, .sentinel, .pinned], laidTests := true, laidLooks := .later }
def GateTellsUptoCardSaid : Prop := Claim7.holds Tryz.pinned (.plain (OpenSpec.upto gateTellsSpec)) gateTellsUptoCard
end Rows
end Go.Proofs.YtlkmgccikgnaeaaGreatDoor
