/-
  DERIVED. GIVEN WITH THE SEED: THE CARDS: each row of YtmlejhpeoiicpaaDoorRows.lean that lists a variable, with what it lists TIED to the program's text (the seventh form; the later family's looks); each row that meets fmt, with fmt's text TOLD by the authors' own Lean function (tested against real Go, not proved from fmt's source: count such statements apart). THE CARD IS WHAT COUNTS. Prove the row's statement (the work); the ties are given (YtmlejhpeoiicpaaDoorTie.lean); close each card by the builder's one call (the guide's Derived/Test/ToyasCard.lean, 'card_holds'). Laid BY PROGRAM, IN A SANDBOX (cutbox-door.mjs). By AI agents, Wed Nov 11 2026. No macro, syntax, notation, axiom, sorry.
-/
import Derived.Test.YtmlejhpeoiicpaaDoorRows
import GoSem.ClaimSeven
namespace Go.Proofs.YtmlejhpeoiicpaaDoor
namespace Rows

/-- THE TIED CARD OF 'tglaw8.LinesTurns'. -/
def linesTurnsCard : Claim7 := { stood := { row := linesTurnsRow, standIns := [], harness := (true, "24b94b188cb98de629f7d070d5aa665eda0c12fc5a79bec3d2507fa8838e99ca"), looks := true }, kinds := [], alts := [], laidByText := true, laidKinds := [.data, .data, .data, .data, .sentinel, .sentinel, .pinned], laidTests := true, laidLooks := .later }
def LinesTurnsCardSaid : Prop := Claim7.holds Tryd.pinned (.plain (OpenSpec.ofChange linesTurnsSpec)) linesTurnsCard

/-- THE TIED CARD OF 'tglaw8.LinesRight'. -/
def linesRightCard : Claim7 := { stood := { row := linesRightRow, standIns := [], harness := (true, "24b94b188cb98de629f7d070d5aa665eda0c12fc5a79bec3d2507fa8838e99ca"), looks := true }, kinds := [], alts := [], laidByText := true, laidKinds := [.data, .data, .data, .data, .sentinel, .sentinel, .pinned], laidTests := true, laidLooks := .later }
def LinesRightCardSaid : Prop := Claim7.holds Tryd.pinned (.plain (OpenSpec.ofChange linesRightSpec)) linesRightCard

/-- THE TIED CARD OF 'tglaw9.WebTurns'. -/
def webTurnsCard : Claim7 := { stood := { row := webTurnsRow, standIns := [], harness := (true, "24b94b188cb98de629f7d070d5aa665eda0c12fc5a79bec3d2507fa8838e99ca"), looks := true }, kinds := [], alts := [], laidByText := true, laidKinds := [.data, .data, .data, .data, .sentinel, .sentinel, .pinned], laidTests := true, laidLooks := .later }
def WebTurnsCardSaid : Prop := Claim7.holds Tryd.pinned (.plain (OpenSpec.ofChange webTurnsSpec)) webTurnsCard

/-- THE TIED CARD OF 'tglaw9.WebRight'. -/
def webRightCard : Claim7 := { stood := { row := webRightRow, standIns := [], harness := (true, "24b94b188cb98de629f7d070d5aa665eda0c12fc5a79bec3d2507fa8838e99ca"), looks := true }, kinds := [], alts := [], laidByText := true, laidKinds := [.data, .data, .data, .data, .sentinel, .sentinel, .pinned], laidTests := true, laidLooks := .later }
def WebRightCardSaid : Prop := Claim7.holds Tryd.pinned (.plain (OpenSpec.ofChange webRightSpec)) webRightCard

/-- THE SECOND FORM's CARD OF 'tglaw8.LinesTurns'. -/
def linesTurnsUptoCard : Claim7 := { stood := { row := linesTurnsUptoRow, standIns := [], harness := (true, "24b94b188cb98de629f7d070d5aa665eda0c12fc5a79bec3d2507fa8838e99ca"), looks := true }, kinds := [], alts := [], laidByText := true, laidKinds := [.data, .data, .data, .data, .sentinel, .sentinel, .pinned], laidTests := true, laidLooks := .later }
def LinesTurnsUptoCardSaid : Prop := Claim7.holds Tryd.pinned (.plain (OpenSpec.upto linesTurnsSpec)) linesTurnsUptoCard

/-- THE SECOND FORM's CARD OF 'tglaw8.LinesRight'. -/
def linesRightUptoCard : Claim7 := { stood := { row := linesRightUptoRow, standIns := [], harness := (true, "24b94b188cb98de629f7d070d5aa665eda0c12fc5a79bec3d2507fa8838e99ca"), looks := true }, kinds := [], alts := [], laidByText := true, laidKinds := [.data, .data, .data, .data, .sentinel, .sentinel, .pinned], laidTests := true, laidLooks := .later }
def LinesRightUptoCardSaid : Prop := Claim7.holds Tryd.pinned (.plain (OpenSpec.upto linesRightSpec)) linesRightUptoCard

/-- THE SECOND FORM's CARD OF 'tglaw9.WebTurns'. -/
def webTurnsUptoCard : Claim7 := { stood := { row := webTurnsUptoRow, standIns := [], harness := (true, "24b94b188cb98de629f7d070d5aa665eda0c12fc5a79bec3d2507fa8838e99ca"), looks := true }, kinds := [], alts := [], laidByText := true, laidKinds := [.data, .data, .data, .data, .sentinel, .sentinel, .pinned], laidTests := true, laidLooks := .later }
def WebTurnsUptoCardSaid : Prop := Claim7.holds Tryd.pinned (.plain (OpenSpec.upto webTurnsSpec)) webTurnsUptoCard

/-- THE SECOND FORM's CARD OF 'tglaw9.WebRight'. -/
def webRightUptoCard : Claim7 := { stood := { row := webRightUptoRow, standIns := [], harness := (true, "24b94b188cb98de629f7d070d5aa665eda0c12fc5a79bec3d2507fa8838e99ca"), looks := true }, kinds := [], alts := [], laidByText := true, laidKinds := [.data, .data, .data, .data, .sentinel, .sentinel, .pinned], laidTests := true, laidLooks := .later }
def WebRightUptoCardSaid : Prop := Claim7.holds Tryd.pinned (.plain (OpenSpec.upto webRightSpec)) webRightUptoCard
end Rows
end Go.Proofs.YtmlejhpeoiicpaaDoor
