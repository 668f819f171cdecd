/-
  DERIVED. GIVEN WITH THE SEED: THE CARDS: each row of YtliknfpdgppjkaaGreatDoorRows.lean that lists a variable, with what it lists TIED to the program's text (the seventh form; the later family's looks); each row that meets fmt, with fmt's text TOLD by the authors' own Lean function (tested against real Go, not proved from fmt's source: count such statements apart). THE CARD IS WHAT COUNTS. Prove the row's statement (the work); the ties are given (YtliknfpdgppjkaaGreatDoorTie.lean); close each card by the builder's one call (the guide's Derived/Test/ToyasCard.lean, 'card_holds'). Laid BY PROGRAM, IN A SANDBOX (cutbox-door.mjs). By AI agents, Wed Nov 11 2026. No macro, syntax, notation, axiom, sorry.
-/
import Derived.Test.YtliknfpdgppjkaaGreatDoorRows
import GoSem.ClaimSeven
namespace Go.Proofs.YtliknfpdgppjkaaGreatDoor
namespace Rows

/-- THE TIED CARD OF 'rollcalllaw19.RoomUndo'. -/
def roomUndoCard : Claim7 := { stood := { row := roomUndoRow, standIns := [], harness := (true, "d4e5303d3f54ee9848f7bb2bbd22730ef495f248fdd4fc1a0104b924558d87ec"), looks := true }, kinds := [], alts := [], laidByText := true, laidKinds := [.data, .data, .data, .data, .sentinel, .sentinel, .pinned], laidTests := true, laidLooks := .later }
def RoomUndoCardSaid : Prop := Claim7.holds Tryz.pinned (.plain (OpenSpec.ofChange roomUndoSpec)) roomUndoCard

/-- THE TIED CARD OF 'rollcalllaw19.RoomPlays'. -/
def roomPlaysCard : Claim7 := { stood := { row := roomPlaysRow, standIns := [], harness := (true, "d4e5303d3f54ee9848f7bb2bbd22730ef495f248fdd4fc1a0104b924558d87ec"), looks := true }, kinds := [], alts := [], laidByText := true, laidKinds := [.data, .data, .data, .data, .sentinel, .sentinel, .pinned], laidTests := true, laidLooks := .later }
def RoomPlaysCardSaid : Prop := Claim7.holds Tryz.pinned (.plain (OpenSpec.ofChange roomPlaysSpec)) roomPlaysCard

/-- THE TIED CARD OF 'rollcalllaw19.RoomRanks'. -/
def roomRanksCard : Claim7 := { stood := { row := roomRanksRow, standIns := [], harness := (true, "d4e5303d3f54ee9848f7bb2bbd22730ef495f248fdd4fc1a0104b924558d87ec"), looks := true }, kinds := [], alts := [], laidByText := true, laidKinds := [.data, .data, .data, .data, .sentinel, .sentinel, .pinned], laidTests := true, laidLooks := .later }
def RoomRanksCardSaid : Prop := Claim7.holds Tryz.pinned (.plain (OpenSpec.ofChange roomRanksSpec)) roomRanksCard

/-- THE TIED CARD OF 'rollcalllaw19.RoomNone'. -/
def roomNoneCard : Claim7 := { stood := { row := roomNoneRow, standIns := [], harness := (true, "d4e5303d3f54ee9848f7bb2bbd22730ef495f248fdd4fc1a0104b924558d87ec"), looks := true }, kinds := [], alts := [], laidByText := true, laidKinds := [.data, .data, .data, .data, .sentinel, .sentinel, .pinned], laidTests := true, laidLooks := .later }
def RoomNoneCardSaid : Prop := Claim7.holds Tryz.pinned (.plain (OpenSpec.ofChange roomNoneSpec)) roomNoneCard

/-- THE SECOND FORM's CARD OF 'rollcalllaw19.RoomUndo'. -/
def roomUndoUptoCard : Claim7 := { stood := { row := roomUndoUptoRow, standIns := [], harness := (true, "d4e5303d3f54ee9848f7bb2bbd22730ef495f248fdd4fc1a0104b924558d87ec"), looks := true }, kinds := [], alts := [], laidByText := true, laidKinds := [.data, .data, .data, .data, .sentinel, .sentinel, .pinned], laidTests := true, laidLooks := .later }
def RoomUndoUptoCardSaid : Prop := Claim7.holds Tryz.pinned (.plain (OpenSpec.upto roomUndoSpec)) roomUndoUptoCard

/-- THE SECOND FORM's CARD OF 'rollcalllaw19.RoomPlays'. -/
def roomPlaysUptoCard : Claim7 := { stood := { row := roomPlaysUptoRow, standIns := [], harness := (true, "d4e5303d3f54ee9848f7bb2bbd22730ef495f248fdd4fc1a0104b924558d87ec"), looks := true }, kinds := [], alts := [], laidByText := true, laidKinds := [.data, .data, .data, .data, .sentinel, .sentinel, .pinned], laidTests := true, laidLooks := .later }
def RoomPlaysUptoCardSaid : Prop := Claim7.holds Tryz.pinned (.plain (OpenSpec.upto roomPlaysSpec)) roomPlaysUptoCard

/-- THE SECOND FORM's CARD OF 'rollcalllaw19.RoomRanks'. -/
def roomRanksUptoCard : Claim7 := { stood := { row := roomRanksUptoRow, standIns := [], harness := (true, "d4e5303d3f54ee9848f7bb2bbd22730ef495f248fdd4fc1a0104b924558d87ec"), looks := true }, kinds := [], alts := [], laidByText := true, laidKinds := [.data, .data, .data, .data, .sentinel, .sentinel, .pinned], laidTests := true, laidLooks := .later }
def RoomRanksUptoCardSaid : Prop := Claim7.holds Tryz.pinned (.plain (OpenSpec.upto roomRanksSpec)) roomRanksUptoCard

/-- THE SECOND FORM's CARD OF 'rollcalllaw19.RoomNone'. -/
def roomNoneUptoCard : Claim7 := { stood := { row := roomNoneUptoRow, standIns := [], harness := (true, "d4e5303d3f54ee9848f7bb2bbd22730ef495f248fdd4fc1a0104b924558d87ec"), looks := true }, kinds := [], alts := [], laidByText := true, laidKinds := [.data, .data, .data, .data, .sentinel, .sentinel, .pinned], laidTests := true, laidLooks := .later }
def RoomNoneUptoCardSaid : Prop := Claim7.holds Tryz.pinned (.plain (OpenSpec.upto roomNoneSpec)) roomNoneUptoCard
end Rows
end Go.Proofs.YtliknfpdgppjkaaGreatDoor
