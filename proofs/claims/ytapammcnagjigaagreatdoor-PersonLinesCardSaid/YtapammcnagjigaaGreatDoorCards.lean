/-
  DERIVED. GIVEN WITH THE SEED: THE CARDS: each row of YtapammcnagjigaaGreatDoorRows.lean that lists a variable, with what it lists TIED to the program's text (the seventh form; the later family's looks); each row that meets fmt, with fmt's text TOLD by the authors' own Lean function (tested against real Go, not proved from fmt's source: count such statements apart). THE CARD IS WHAT COUNTS. Prove the row's statement (the work); the ties are given (YtapammcnagjigaaGreatDoorTie.lean); close each card by the builder's one call (the guide's Derived/Test/ToyasCard.lean, 'card_holds'). Laid BY PROGRAM, IN A SANDBOX (cutbox-door.mjs). By AI agents, Wed Nov 11 2026. No macro, syntax, notation, axiom, sorry.
-/
import Derived.Test.YtapammcnagjigaaGreatDoorRows
import GoSem.ClaimSeven
namespace Go.Proofs.YtapammcnagjigaaGreatDoor
namespace Rows

/-- THE TIED CARD OF 'rollcalllaw07.MessageTexts'. -/
def messageTextsCard : Claim7 := { stood := { row := messageTextsRow, standIns := [], harness := (true, "d577e333c8c41c87dc62ac894d4c18c302e0319757a708a60736461aaacec88a"), looks := false }, kinds := [], alts := [], laidByText := true, laidKinds := [.data, .pinned], laidTests := true, laidLooks := .later }
def MessageTextsCardSaid : Prop := Claim7.holds Tryz.pinned (.plain (OpenSpec.ofChange messageTextsSpec)) messageTextsCard

/-- THE TIED CARD OF 'rollcalllaw22.PersonLines'. -/
def personLinesCard : Claim7 := { stood := { row := personLinesRow, standIns := [], harness := (true, "d577e333c8c41c87dc62ac894d4c18c302e0319757a708a60736461aaacec88a"), looks := false }, kinds := [], alts := [], laidByText := true, laidKinds := [.data, .data, .data, .data, .pinned], laidTests := true, laidLooks := .later }
def PersonLinesCardSaid : Prop := Claim7.holds Tryz.pinned (.plain (OpenSpec.ofChange personLinesSpec)) personLinesCard

/-- THE SECOND FORM's CARD OF 'rollcalllaw07.MessageTexts'. -/
def messageTextsUptoCard : Claim7 := { stood := { row := messageTextsUptoRow, standIns := [], harness := (true, "d577e333c8c41c87dc62ac894d4c18c302e0319757a708a60736461aaacec88a"), looks := false }, kinds := [], alts := [], laidByText := true, laidKinds := [.data, .pinned], laidTests := true, laidLooks := .later }
def MessageTextsUptoCardSaid : Prop := Claim7.holds Tryz.pinned (.plain (OpenSpec.upto messageTextsSpec)) messageTextsUptoCard

/-- THE SECOND FORM's CARD OF 'rollcalllaw22.PersonLines'. -/
def personLinesUptoCard : Claim7 := { stood := { row := personLinesUptoRow, standIns := [], harness := (true, "d577e333c8c41c87dc62ac894d4c18c302e0319757a708a60736461aaacec88a"), looks := false }, kinds := [], alts := [], laidByText := true, laidKinds := [.data, .data, .data, .data, .pinned], laidTests := true, laidLooks := .later }
def PersonLinesUptoCardSaid : Prop := Claim7.holds Tryz.pinned (.plain (OpenSpec.upto personLinesSpec)) personLinesUptoCard
end Rows
end Go.Proofs.YtapammcnagjigaaGreatDoor
