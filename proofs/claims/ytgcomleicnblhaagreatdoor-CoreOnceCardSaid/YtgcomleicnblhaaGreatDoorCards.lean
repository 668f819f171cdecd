/-
  DERIVED. GIVEN WITH THE SEED: THE CARDS: each row of YtgcomleicnblhaaGreatDoorRows.lean that lists a variable, with what it lists TIED to the program's text (the seventh form; the later family's looks); each row that meets fmt, with fmt's text TOLD by the authors' own Lean function (tested against real Go, not proved from fmt's source: count such statements apart). THE CARD IS WHAT COUNTS. Prove the row's statement (the work); the ties are given (YtgcomleicnblhaaGreatDoorTie.lean); close each card by the builder's one call (the guide's Derived/Test/ToyasCard.lean, 'card_holds'). Laid BY PROGRAM, IN A SANDBOX (cutbox-door.mjs). By AI agents, Wed Nov 11 2026. No macro, syntax, notation, axiom, sorry.
-/
import Derived.Test.YtgcomleicnblhaaGreatDoorRows
import GoSem.ClaimSeven
namespace Go.Proofs.YtgcomleicnblhaaGreatDoor
namespace Rows

/-- THE TIED CARD OF 'rollcalllaw23.CoreOnce'. -/
def coreOnceCard : Claim7 := { stood := { row := coreOnceRow, standIns := [], harness := (true, "3ba370ffeedbb9f511b1062d414cba0adf3fb15d8e8facf87d4315a120c2cfea"), looks := false }, kinds := [], alts := [], laidByText := true, laidKinds := [.data, .data, .data, .data, .pinned], laidTests := true, laidLooks := .later }
def CoreOnceCardSaid : Prop := Claim7.holds Tryz.pinned (.plain (OpenSpec.ofChange coreOnceSpec)) coreOnceCard

/-- THE TIED CARD OF 'rollcalllaw23.CorePlays'. -/
def corePlaysCard : Claim7 := { stood := { row := corePlaysRow, standIns := [], harness := (true, "3ba370ffeedbb9f511b1062d414cba0adf3fb15d8e8facf87d4315a120c2cfea"), looks := false }, kinds := [], alts := [], laidByText := true, laidKinds := [.data, .data, .data, .data, .pinned], laidTests := true, laidLooks := .later }
def CorePlaysCardSaid : Prop := Claim7.holds Tryz.pinned (.plain (OpenSpec.ofChange corePlaysSpec)) corePlaysCard

/-- THE TIED CARD OF 'rollcalllaw23.CoreQuits'. -/
def coreQuitsCard : Claim7 := { stood := { row := coreQuitsRow, standIns := [], harness := (true, "3ba370ffeedbb9f511b1062d414cba0adf3fb15d8e8facf87d4315a120c2cfea"), looks := false }, kinds := [], alts := [], laidByText := true, laidKinds := [.data, .data, .data, .data, .pinned], laidTests := true, laidLooks := .later }
def CoreQuitsCardSaid : Prop := Claim7.holds Tryz.pinned (.plain (OpenSpec.ofChange coreQuitsSpec)) coreQuitsCard

/-- THE SECOND FORM's CARD OF 'rollcalllaw23.CoreOnce'. -/
def coreOnceUptoCard : Claim7 := { stood := { row := coreOnceUptoRow, standIns := [], harness := (true, "3ba370ffeedbb9f511b1062d414cba0adf3fb15d8e8facf87d4315a120c2cfea"), looks := false }, kinds := [], alts := [], laidByText := true, laidKinds := [.data, .data, .data, .data, .pinned], laidTests := true, laidLooks := .later }
def CoreOnceUptoCardSaid : Prop := Claim7.holds Tryz.pinned (.plain (OpenSpec.upto coreOnceSpec)) coreOnceUptoCard

/-- THE SECOND FORM's CARD OF 'rollcalllaw23.CorePlays'. -/
def corePlaysUptoCard : Claim7 := { stood := { row := corePlaysUptoRow, standIns := [], harness := (true, "3ba370ffeedbb9f511b1062d414cba0adf3fb15d8e8facf87d4315a120c2cfea"), looks := false }, kinds := [], alts := [], laidByText := true, laidKinds := [.data, .data, .data, .data, .pinned], laidTests := true, laidLooks := .later }
def CorePlaysUptoCardSaid : Prop := Claim7.holds Tryz.pinned (.plain (OpenSpec.upto corePlaysSpec)) corePlaysUptoCard

/-- THE SECOND FORM's CARD OF 'rollcalllaw23.CoreQuits'. -/
def coreQuitsUptoCard : Claim7 := { stood := { row := coreQuitsUptoRow, standIns := [], harness := (true, "3ba370ffeedbb9f511b1062d414cba0adf3fb15d8e8facf87d4315a120c2cfea"), looks := false }, kinds := [], alts := [], laidByText := true, laidKinds := [.data, .data, .data, .data, .pinned], laidTests := true, laidLooks := .later }
def CoreQuitsUptoCardSaid : Prop := Claim7.holds Tryz.pinned (.plain (OpenSpec.upto coreQuitsSpec)) coreQuitsUptoCard
end Rows
end Go.Proofs.YtgcomleicnblhaaGreatDoor
