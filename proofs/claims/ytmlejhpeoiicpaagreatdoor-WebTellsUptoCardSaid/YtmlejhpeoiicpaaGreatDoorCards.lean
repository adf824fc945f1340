/-
  DERIVED. GIVEN WITH THE SEED: THE CARDS: each row of YtmlejhpeoiicpaaGreatDoorRows.lean that lists a variable, with what it lists TIED to the program's text (the seventh form; the later family's looks); each row that meets fmt, with fmt's text TOLD by the authors' own Lean function (tested against real Go, not proved from fmt's source: count such statements apart). THE CARD IS WHAT COUNTS. Prove the row's statement (the work); the ties are given (YtmlejhpeoiicpaaGreatDoorTie.lean); close each card by the builder's one call (the guide's Derived/Test/ToyasCard.lean, 'card_holds'). Laid BY PROGRAM, IN A SANDBOX (cutbox-door.mjs). By AI agents, Wed Nov 11 2026. No macro, syntax, notation, axiom, sorry.
-/
import Derived.Test.YtmlejhpeoiicpaaGreatDoorRows
import GoSem.ClaimSeven
namespace Go.Proofs.YtmlejhpeoiicpaaGreatDoor
namespace Rows

/-- THE TIED CARD OF 'tglaw8.LinesTells'. -/
def linesTellsCard : Claim7 := { stood := { row := linesTellsRow, standIns := [], harness := (true, "6ead8dc6323b0b439c9c27e053209344c87f9f1ce21e192ae250653ae8b39db4"), looks := true }, kinds := [], alts := [], laidByText := true, laidKinds := [.data, .data, .data, .data, .sentinel, .sentinel, .pinned], laidTests := true, laidLooks := .later }
def LinesTellsCardSaid : Prop := Claim7.holds Tryz.pinned (.plain (OpenSpec.ofChange linesTellsSpec)) linesTellsCard

/-- THE TIED CARD OF 'tglaw9.WebTells'. -/
def webTellsCard : Claim7 := { stood := { row := webTellsRow, standIns := [], harness := (true, "6ead8dc6323b0b439c9c27e053209344c87f9f1ce21e192ae250653ae8b39db4"), looks := true }, kinds := [], alts := [], laidByText := true, laidKinds := [.data, .data, .data, .data, .sentinel, .sentinel, .pinned], laidTests := true, laidLooks := .later }
def WebTellsCardSaid : Prop := Claim7.holds Tryz.pinned (.plain (OpenSpec.ofChange webTellsSpec)) webTellsCard

/-- THE TIED CARD OF 'tglaw10.GateTells'. -/
def gateTellsCard : Claim7 := { stood := { row := gateTellsRow, standIns := [], harness := (true, "6ead8dc6323b0b439c9c27e053209344c87f9f1ce21e192ae250653ae8b39db4"), looks := true }, kinds := [], alts := [], laidByText := true, laidKinds := [.data, .data, .data, .data, .sentinel, .sentinel, .pinned], laidTests := true, laidLooks := .later }
def GateTellsCardSaid : Prop := Claim7.holds Tryz.pinned (.plain (OpenSpec.ofChange gateTellsSpec)) gateTellsCard

/-- THE TIED CARD OF 'tglaw10.GateSame'. -/
def gateSameCard : Claim7 := { stood := { row := gateSameRow, standIns := [], harness := (true, "6ead8dc6323b0b439c9c27e053209344c87f9f1ce21e192ae250653ae8b39db4"), looks := true }, kinds := [], alts := [], laidByText := true, laidKinds := [.data, .data, .data, .data, .sentinel, .sentinel, .pinned], laidTests := true, laidLooks := .later }
def GateSameCardSaid : Prop := Claim7.holds Tryz.pinned (.plain (OpenSpec.ofChange gateSameSpec)) gateSameCard

/-- THE TIED CARD OF 'tglaw10.GateSplit'. -/
def gateSplitCard : Claim7 := { stood := { row := gateSplitRow, standIns := [], harness := (true, "6ead8dc6323b0b439c9c27e053209344c87f9f1ce21e192ae250653ae8b39db4"), looks := true }, kinds := [], alts := [], laidByText := true, laidKinds := [.data, .data, .data, .data, .sentinel, .sentinel, .pinned], laidTests := true, laidLooks := .later }
def GateSplitCardSaid : Prop := Claim7.holds Tryz.pinned (.plain (OpenSpec.ofChange gateSplitSpec)) gateSplitCard

/-- THE SECOND FORM's CARD OF 'tglaw8.LinesTells'. -/
def linesTellsUptoCard : Claim7 := { stood := { row := linesTellsUptoRow, standIns := [], harness := (true, "6ead8dc6323b0b439c9c27e053209344c87f9f1ce21e192ae250653ae8b39db4"), looks := true }, kinds := [], alts := [], laidByText := true, laidKinds := [.data, .data, .data, .data, .sentinel, .sentinel, .pinned], laidTests := true, laidLooks := .later }
def LinesTellsUptoCardSaid : Prop := Claim7.holds Tryz.pinned (.plain (OpenSpec.upto linesTellsSpec)) linesTellsUptoCard

/-- THE SECOND FORM's CARD OF 'tglaw9.WebTells'. -/
def webTellsUptoCard : Claim7 := { stood := { row := webTellsUptoRow, standIns := [], harness := (true, "6ead8dc6323b0b439c9c27e053209344c87f9f1ce21e192ae250653ae8b39db4"), looks := true }, kinds := [], alts := [], laidByText := true, laidKinds := [.data, .data, .data, .data, .sentinel, .sentinel, .pinned], laidTests := true, laidLooks := .later }
def WebTellsUptoCardSaid : Prop := Claim7.holds Tryz.pinned (.plain (OpenSpec.upto webTellsSpec)) webTellsUptoCard

/-- THE SECOND FORM's CARD OF 'tglaw10.GateTells'. -/
def gateTellsUptoCard : Claim7 := { stood := { row := gateTellsUptoRow, standIns := [], harness := (true, "6ead8dc6323b0b439c9c27e053209344c87f9f1ce21e192ae250653ae8b39db4"), looks := true }, kinds := [], alts := [], laidByText := true, laidKinds := [.data, .data, .data, .data, .sentinel, .sentinel, .pinned], laidTests := true, laidLooks := .later }
def GateTellsUptoCardSaid : Prop := Claim7.holds Tryz.pinned (.plain (OpenSpec.upto gateTellsSpec)) gateTellsUptoCard

/-- THE SECOND FORM's CARD OF 'tglaw10.GateSame'. -/
def gateSameUptoCard : Claim7 := { stood := { row := gateSameUptoRow, standIns := [], harness := (true, "6ead8dc6323b0b439c9c27e053209344c87f9f1ce21e192ae250653ae8b39db4"), looks := true }, kinds := [], alts := [], laidByText := true, laidKinds := [.data, .data, .data, .data, .sentinel, .sentinel, .pinned], laidTests := true, laidLooks := .later }
def GateSameUptoCardSaid : Prop := Claim7.holds Tryz.pinned (.plain (OpenSpec.upto gateSameSpec)) gateSameUptoCard

/-- THE SECOND FORM's CARD OF 'tglaw10.GateSplit'. -/
def gateSplitUptoCard : Claim7 := { stood := { row := gateSplitUptoRow, standIns := [], harness := (true, "6ead8dc6323b0b439c9c27e053209344c87f9f1ce21e192ae250653ae8b39db4"), looks := true }, kinds := [], alts := [], laidByText := true, laidKinds := [.data, .data, .data, .data, .sentinel, .sentinel, .pinned], laidTests := true, laidLooks := .later }
def GateSplitUptoCardSaid : Prop := Claim7.holds Tryz.pinned (.plain (OpenSpec.upto gateSplitSpec)) gateSplitUptoCard
end Rows
end Go.Proofs.YtmlejhpeoiicpaaGreatDoor
