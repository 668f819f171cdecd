/-
  DERIVED. GIVEN WITH THE SEED: THE CARDS: each row of YtnkpdifdjgknbaaDoorRows.lean that lists a variable, with what it lists TIED to the program's text (the seventh form; the later family's looks); each row that meets fmt, with fmt's text TOLD by the authors' own Lean function (tested against real Go, not proved from fmt's source: count such statements apart). THE CARD IS WHAT COUNTS. Prove the row's statement (the work); the ties are given (YtnkpdifdjgknbaaDoorTie.lean); close each card by the builder's one call (the guide's Derived/Test/ToyasCard.lean, 'card_holds'). Laid BY PROGRAM, IN A SANDBOX (cutbox-door.mjs). By AI agents, Wed Nov 11 2026. No macro, syntax, notation, axiom, sorry.
-/
import Derived.Test.YtnkpdifdjgknbaaDoorRows
import GoSem.ClaimSeven
namespace Go.Proofs.YtnkpdifdjgknbaaDoor
namespace Rows

/-- THE TIED CARD OF 'rollcalllaw22.PersonSeen'. -/
def personSeenCard : Claim7 := { stood := { row := personSeenRow, standIns := [], harness := (true, "22c7fb0e44d302a037c3ed3e7c7697c7f42e797ac68efcdd02e9580ca2039c67"), looks := false }, kinds := [], alts := [], laidByText := true, laidKinds := [.data, .pinned], laidTests := true, laidLooks := .later }
def PersonSeenCardSaid : Prop := Claim7.holds Tryd.pinned (.plain (OpenSpec.ofChange personSeenSpec)) personSeenCard

/-- THE TIED CARD OF 'rollcalllaw06.TagsParses'. -/
def tagsParsesCard : Claim7 := { stood := { row := tagsParsesRow, standIns := [], harness := (true, "22c7fb0e44d302a037c3ed3e7c7697c7f42e797ac68efcdd02e9580ca2039c67"), looks := false }, kinds := [], alts := [], laidByText := true, laidKinds := [.data, .pinned], laidTests := true, laidLooks := .later }
def TagsParsesCardSaid : Prop := Claim7.holds Tryd.pinned (.plain (OpenSpec.ofChange tagsParsesSpec)) tagsParsesCard

/-- THE TIED CARD OF 'rollcalllaw06.TagsJoin'. -/
def tagsJoinCard : Claim7 := { stood := { row := tagsJoinRow, standIns := [], harness := (true, "22c7fb0e44d302a037c3ed3e7c7697c7f42e797ac68efcdd02e9580ca2039c67"), looks := false }, kinds := [], alts := [], laidByText := true, laidKinds := [.data, .pinned], laidTests := true, laidLooks := .later }
def TagsJoinCardSaid : Prop := Claim7.holds Tryd.pinned (.plain (OpenSpec.ofChange tagsJoinSpec)) tagsJoinCard

/-- THE TIED CARD OF 'rollcalllaw06.TagsTexts'. -/
def tagsTextsCard : Claim7 := { stood := { row := tagsTextsRow, standIns := [], harness := (true, "22c7fb0e44d302a037c3ed3e7c7697c7f42e797ac68efcdd02e9580ca2039c67"), looks := false }, kinds := [], alts := [], laidByText := true, laidKinds := [.data, .pinned], laidTests := true, laidLooks := .later }
def TagsTextsCardSaid : Prop := Claim7.holds Tryd.pinned (.plain (OpenSpec.ofChange tagsTextsSpec)) tagsTextsCard

/-- THE TIED CARD OF 'rollcalllaw06.TagsAgain'. -/
def tagsAgainCard : Claim7 := { stood := { row := tagsAgainRow, standIns := [], harness := (true, "22c7fb0e44d302a037c3ed3e7c7697c7f42e797ac68efcdd02e9580ca2039c67"), looks := false }, kinds := [], alts := [], laidByText := true, laidKinds := [.data, .pinned], laidTests := true, laidLooks := .later }
def TagsAgainCardSaid : Prop := Claim7.holds Tryd.pinned (.plain (OpenSpec.ofChange tagsAgainSpec)) tagsAgainCard

/-- THE SECOND FORM's CARD OF 'rollcalllaw22.PersonSeen'. -/
def personSeenUptoCard : Claim7 := { stood := { row := personSeenUptoRow, standIns := [], harness := (true, "22c7fb0e44d302a037c3ed3e7c7697c7f42e797ac68efcdd02e9580ca2039c67"), looks := false }, kinds := [], alts := [], laidByText := true, laidKinds := [.data, .pinned], laidTests := true, laidLooks := .later }
def PersonSeenUptoCardSaid : Prop := Claim7.holds Tryd.pinned (.plain (OpenSpec.upto personSeenSpec)) personSeenUptoCard

/-- THE SECOND FORM's CARD OF 'rollcalllaw06.TagsParses'. -/
def tagsParsesUptoCard : Claim7 := { stood := { row := tagsParsesUptoRow, standIns := [], harness := (true, "22c7fb0e44d302a037c3ed3e7c7697c7f42e797ac68efcdd02e9580ca2039c67"), looks := false }, kinds := [], alts := [], laidByText := true, laidKinds := [.data, .pinned], laidTests := true, laidLooks := .later }
def TagsParsesUptoCardSaid : Prop := Claim7.holds Tryd.pinned (.plain (OpenSpec.upto tagsParsesSpec)) tagsParsesUptoCard

/-- THE SECOND FORM's CARD OF 'rollcalllaw06.TagsJoin'. -/
def tagsJoinUptoCard : Claim7 := { stood := { row := tagsJoinUptoRow, standIns := [], harness := (true, "22c7fb0e44d302a037c3ed3e7c7697c7f42e797ac68efcdd02e9580ca2039c67"), looks := false }, kinds := [], alts := [], laidByText := true, laidKinds := [.data, .pinned], laidTests := true, laidLooks := .later }
def TagsJoinUptoCardSaid : Prop := Claim7.holds Tryd.pinned (.plain (OpenSpec.upto tagsJoinSpec)) tagsJoinUptoCard

/-- THE SECOND FORM's CARD OF 'rollcalllaw06.TagsTexts'. -/
def tagsTextsUptoCard : Claim7 := { stood := { row := tagsTextsUptoRow, standIns := [], harness := (true, "22c7fb0e44d302a037c3ed3e7c7697c7f42e797ac68efcdd02e9580ca2039c67"), looks := false }, kinds := [], alts := [], laidByText := true, laidKinds := [.data, .pinned], laidTests := true, laidLooks := .later }
def TagsTextsUptoCardSaid : Prop := Claim7.holds Tryd.pinned (.plain (OpenSpec.upto tagsTextsSpec)) tagsTextsUptoCard

/-- THE SECOND FORM's CARD OF 'rollcalllaw06.TagsAgain'. -/
def tagsAgainUptoCard : Claim7 := { stood := { row := tagsAgainUptoRow, standIns := [], harness := (true, "22c7fb0e44d302a037c3ed3e7c7697c7f42e797ac68efcdd02e9580ca2039c67"), looks := false }, kinds := [], alts := [], laidByText := true, laidKinds := [.data, .pinned], laidTests := true, laidLooks := .later }
def TagsAgainUptoCardSaid : Prop := Claim7.holds Tryd.pinned (.plain (OpenSpec.upto tagsAgainSpec)) tagsAgainUptoCard
end Rows
end Go.Proofs.YtnkpdifdjgknbaaDoor
