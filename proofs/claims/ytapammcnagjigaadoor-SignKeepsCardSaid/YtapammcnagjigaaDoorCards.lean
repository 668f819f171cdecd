/-
  DERIVED. GIVEN WITH THE SEED: THE CARDS: each row of YtapammcnagjigaaDoorRows.lean that lists a variable, with what it lists TIED to the program's text (the seventh form; the later family's looks); each row that meets fmt, with fmt's text TOLD by the authors' own Lean function (tested against real Go, not proved from fmt's source: count such statements apart). THE CARD IS WHAT COUNTS. Prove the row's statement (the work); the ties are given (YtapammcnagjigaaDoorTie.lean); close each card by the builder's one call (the guide's Derived/Test/ToyasCard.lean, 'card_holds'). Laid BY PROGRAM, IN A SANDBOX (cutbox-door.mjs). By AI agents, Wed Nov 11 2026. No macro, syntax, notation, axiom, sorry.
-/
import Derived.Test.YtapammcnagjigaaDoorRows
import GoSem.ClaimSeven
namespace Go.Proofs.YtapammcnagjigaaDoor
namespace Rows

/-- THE TIED CARD OF 'rollcalllaw14.ReplyShort'. -/
def replyShortCard : Claim7 := { stood := { row := replyShortRow, standIns := [], harness := (true, "02e807c39731216a9831676edf1562b0d358956f1e4c03d97a1782c2b35587ed"), looks := false }, kinds := [], alts := [], laidByText := true, laidKinds := [.data, .pinned], laidTests := true, laidLooks := .later }
def ReplyShortCardSaid : Prop := Claim7.holds Tryd.pinned (.plain (OpenSpec.ofChange replyShortSpec)) replyShortCard

/-- THE TIED CARD OF 'rollcalllaw14.ReplyWho'. -/
def replyWhoCard : Claim7 := { stood := { row := replyWhoRow, standIns := [], harness := (true, "02e807c39731216a9831676edf1562b0d358956f1e4c03d97a1782c2b35587ed"), looks := false }, kinds := [], alts := [], laidByText := true, laidKinds := [.data, .pinned], laidTests := true, laidLooks := .later }
def ReplyWhoCardSaid : Prop := Claim7.holds Tryd.pinned (.plain (OpenSpec.ofChange replyWhoSpec)) replyWhoCard

/-- THE TIED CARD OF 'rollcalllaw07.MessageParses'. -/
def messageParsesCard : Claim7 := { stood := { row := messageParsesRow, standIns := [], harness := (true, "02e807c39731216a9831676edf1562b0d358956f1e4c03d97a1782c2b35587ed"), looks := false }, kinds := [], alts := [], laidByText := true, laidKinds := [.data, .pinned], laidTests := true, laidLooks := .later }
def MessageParsesCardSaid : Prop := Claim7.holds Tryd.pinned (.plain (OpenSpec.ofChange messageParsesSpec)) messageParsesCard

/-- THE TIED CARD OF 'rollcalllaw07.MessageColon'. -/
def messageColonCard : Claim7 := { stood := { row := messageColonRow, standIns := [], harness := (true, "02e807c39731216a9831676edf1562b0d358956f1e4c03d97a1782c2b35587ed"), looks := false }, kinds := [], alts := [], laidByText := true, laidKinds := [.data, .pinned], laidTests := true, laidLooks := .later }
def MessageColonCardSaid : Prop := Claim7.holds Tryd.pinned (.plain (OpenSpec.ofChange messageColonSpec)) messageColonCard

/-- THE TIED CARD OF 'rollcalllaw07.MessageAgain'. -/
def messageAgainCard : Claim7 := { stood := { row := messageAgainRow, standIns := [], harness := (true, "02e807c39731216a9831676edf1562b0d358956f1e4c03d97a1782c2b35587ed"), looks := false }, kinds := [], alts := [], laidByText := true, laidKinds := [.data, .pinned], laidTests := true, laidLooks := .later }
def MessageAgainCardSaid : Prop := Claim7.holds Tryd.pinned (.plain (OpenSpec.ofChange messageAgainSpec)) messageAgainCard

/-- THE TIED CARD OF 'rollcalllaw14.ReplyAll'. -/
def replyAllCard : Claim7 := { stood := { row := replyAllRow, standIns := [], harness := (true, "02e807c39731216a9831676edf1562b0d358956f1e4c03d97a1782c2b35587ed"), looks := false }, kinds := [], alts := [], laidByText := true, laidKinds := [.data, .pinned], laidTests := true, laidLooks := .later }
def ReplyAllCardSaid : Prop := Claim7.holds Tryd.pinned (.plain (OpenSpec.ofChange replyAllSpec)) replyAllCard

/-- THE TIED CARD OF 'rollcalllaw17.SignKeeps'. -/
def signKeepsCard : Claim7 := { stood := { row := signKeepsRow, standIns := [], harness := (true, "02e807c39731216a9831676edf1562b0d358956f1e4c03d97a1782c2b35587ed"), looks := false }, kinds := [], alts := [], laidByText := true, laidKinds := [.data, .pinned], laidTests := true, laidLooks := .later }
def SignKeepsCardSaid : Prop := Claim7.holds Tryd.pinned (.plain (OpenSpec.ofChange signKeepsSpec)) signKeepsCard

/-- THE SECOND FORM's CARD OF 'rollcalllaw14.ReplyShort'. -/
def replyShortUptoCard : Claim7 := { stood := { row := replyShortUptoRow, standIns := [], harness := (true, "02e807c39731216a9831676edf1562b0d358956f1e4c03d97a1782c2b35587ed"), looks := false }, kinds := [], alts := [], laidByText := true, laidKinds := [.data, .pinned], laidTests := true, laidLooks := .later }
def ReplyShortUptoCardSaid : Prop := Claim7.holds Tryd.pinned (.plain (OpenSpec.upto replyShortSpec)) replyShortUptoCard

/-- THE SECOND FORM's CARD OF 'rollcalllaw14.ReplyWho'. -/
def replyWhoUptoCard : Claim7 := { stood := { row := replyWhoUptoRow, standIns := [], harness := (true, "02e807c39731216a9831676edf1562b0d358956f1e4c03d97a1782c2b35587ed"), looks := false }, kinds := [], alts := [], laidByText := true, laidKinds := [.data, .pinned], laidTests := true, laidLooks := .later }
def ReplyWhoUptoCardSaid : Prop := Claim7.holds Tryd.pinned (.plain (OpenSpec.upto replyWhoSpec)) replyWhoUptoCard

/-- THE SECOND FORM's CARD OF 'rollcalllaw07.MessageParses'. -/
def messageParsesUptoCard : Claim7 := { stood := { row := messageParsesUptoRow, standIns := [], harness := (true, "02e807c39731216a9831676edf1562b0d358956f1e4c03d97a1782c2b35587ed"), looks := false }, kinds := [], alts := [], laidByText := true, laidKinds := [.data, .pinned], laidTests := true, laidLooks := .later }
def MessageParsesUptoCardSaid : Prop := Claim7.holds Tryd.pinned (.plain (OpenSpec.upto messageParsesSpec)) messageParsesUptoCard

/-- THE SECOND FORM's CARD OF 'rollcalllaw07.MessageColon'. -/
def messageColonUptoCard : Claim7 := { stood := { row := messageColonUptoRow, standIns := [], harness := (true, "02e807c39731216a9831676edf1562b0d358956f1e4c03d97a1782c2b35587ed"), looks := false }, kinds := [], alts := [], laidByText := true, laidKinds := [.data, .pinned], laidTests := true, laidLooks := .later }
def MessageColonUptoCardSaid : Prop := Claim7.holds Tryd.pinned (.plain (OpenSpec.upto messageColonSpec)) messageColonUptoCard

/-- THE SECOND FORM's CARD OF 'rollcalllaw07.MessageAgain'. -/
def messageAgainUptoCard : Claim7 := { stood := { row := messageAgainUptoRow, standIns := [], harness := (true, "02e807c39731216a9831676edf1562b0d358956f1e4c03d97a1782c2b35587ed"), looks := false }, kinds := [], alts := [], laidByText := true, laidKinds := [.data, .pinned], laidTests := true, laidLooks := .later }
def MessageAgainUptoCardSaid : Prop := Claim7.holds Tryd.pinned (.plain (OpenSpec.upto messageAgainSpec)) messageAgainUptoCard

/-- THE SECOND FORM's CARD OF 'rollcalllaw14.ReplyAll'. -/
def replyAllUptoCard : Claim7 := { stood := { row := replyAllUptoRow, standIns := [], harness := (true, "02e807c39731216a9831676edf1562b0d358956f1e4c03d97a1782c2b35587ed"), looks := false }, kinds := [], alts := [], laidByText := true, laidKinds := [.data, .pinned], laidTests := true, laidLooks := .later }
def ReplyAllUptoCardSaid : Prop := Claim7.holds Tryd.pinned (.plain (OpenSpec.upto replyAllSpec)) replyAllUptoCard

/-- THE SECOND FORM's CARD OF 'rollcalllaw17.SignKeeps'. -/
def signKeepsUptoCard : Claim7 := { stood := { row := signKeepsUptoRow, standIns := [], harness := (true, "02e807c39731216a9831676edf1562b0d358956f1e4c03d97a1782c2b35587ed"), looks := false }, kinds := [], alts := [], laidByText := true, laidKinds := [.data, .pinned], laidTests := true, laidLooks := .later }
def SignKeepsUptoCardSaid : Prop := Claim7.holds Tryd.pinned (.plain (OpenSpec.upto signKeepsSpec)) signKeepsUptoCard
end Rows
end Go.Proofs.YtapammcnagjigaaDoor
