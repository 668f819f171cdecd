/-
  DERIVED. GIVEN WITH THE SEED: THE CARDS: each row of YtodnbkggkdadkaaDoorRows.lean that lists a variable, with what it lists TIED to the program's text (the seventh form; the later family's looks); each row that meets fmt, with fmt's text TOLD by the authors' own Lean function (tested against real Go, not proved from fmt's source: count such statements apart). THE CARD IS WHAT COUNTS. Prove the row's statement (the work); the ties are given (YtodnbkggkdadkaaDoorTie.lean); close each card by the builder's one call (the guide's Derived/Test/ToyasCard.lean, 'card_holds'). Laid BY PROGRAM, IN A SANDBOX (cutbox-door.mjs). By AI agents, Wed Nov 11 2026. No macro, syntax, notation, axiom, sorry.
-/
import Derived.Test.YtodnbkggkdadkaaDoorRows
import GoSem.ClaimSeven
namespace Go.Proofs.YtodnbkggkdadkaaDoor
namespace Rows

/-- THE TIED CARD OF 'rollcalllaw15.ConfigSupports'. -/
def configSupportsCard : Claim7 := { stood := { row := configSupportsRow, standIns := [], harness := (true, "910aa838674d67f4dcff548222db308f10e261fe0c5f816ae09fcaad0649f616"), looks := false }, kinds := [], alts := [], laidByText := true, laidKinds := [.data, .data, .data], laidTests := true, laidLooks := .later }
def ConfigSupportsCardSaid : Prop := Claim7.holds Tryd.pinned (.plain (OpenSpec.ofChange configSupportsSpec)) configSupportsCard

/-- THE SECOND FORM's CARD OF 'rollcalllaw15.ConfigSupports'. -/
def configSupportsUptoCard : Claim7 := { stood := { row := configSupportsUptoRow, standIns := [], harness := (true, "910aa838674d67f4dcff548222db308f10e261fe0c5f816ae09fcaad0649f616"), looks := false }, kinds := [], alts := [], laidByText := true, laidKinds := [.data, .data, .data], laidTests := true, laidLooks := .later }
def ConfigSupportsUptoCardSaid : Prop := Claim7.holds Tryd.pinned (.plain (OpenSpec.upto configSupportsSpec)) configSupportsUptoCard
end Rows
end Go.Proofs.YtodnbkggkdadkaaDoor
