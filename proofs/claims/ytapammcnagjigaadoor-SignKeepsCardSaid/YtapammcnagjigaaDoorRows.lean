/-
  NARROWER THAN 'FOR EVERY INPUT', by the rows' own cells (each row's printed sentence says how): ReplyShort: laid · ReplyWho: laid · MessageParses: laid · MessageColon: laid · MessageAgain: laid · ReplyAll: laid · SignKeeps: laid.
  DERIVED. THE GIVEN ROWS OF THIS SEAT. 7 by the template 'for every input the law returns true; each argument reads behind the call as it read before'; 0 by the template 'total and deterministic' (their statements: YtapammcnagjigaaDoorTotals.lean).
  GIVEN WITH THE SEED: the statements are not yours to turn. If you find one false, say at which input.
  Laid BY PROGRAM, IN A SANDBOX (cutbox-rows.mjs): the forced cells as the released guide's own fill.sh prints them over the translation 80582c25ec0c9db1… (all of the seat's roots in one cut). By AI agents, Wed Nov 11 2026. No macro, syntax, notation, axiom, sorry.
-/
import Derived.Test.YtapammcnagjigaaDoorChecked
import GoSem.PinnedTables
import GoSem.Claim
import GoSem.ClaimJoined
import GoSem.ClaimMapViews
import Derived.JoinedTies
import Derived.KernelRfl
namespace Go.Proofs.YtapammcnagjigaaDoor
/- THE CELL 'sum', in the pinned program and in every row, IS THE sha256 OF THE DUMP (.gsa) THAT YtapammcnagjigaaDoorProg.lean LOADS. Nothing in Lean hashes anything: it is a label: what it is worth is what the hold of that sum in a sandbox is worth. -/
noncomputable def Tryd.pinned : Pinned := { name := "ytapammcnagjigaadoor", sum := "80582c25ec0c9db11eaa696af864efedbddf580d851472a1981143d85f562c25", checked := Tryd.checked }
namespace Rows
def none {H : Type} : Left H := { results := [], args := [] }

/- WHAT THE LISTED PACKAGE-LEVEL VARIABLES READ AS WHEN THE CALL BEGINS. Each datum BY PROGRAM (the guide's laid-datum.mjs) off the statement by which the dump's own 'gosem.cut.vars' lays the variable. In a bare row this is a premise. The card (YtapammcnagjigaaDoorCards.lean) ties it to the program's text. -/
def laid_unicode_utf8_acceptRanges {H : Type} : DataW H := .agg [.agg [.lit (.int .u8 128), .lit (.int .u8 191)], .agg [.lit (.int .u8 160), .lit (.int .u8 191)], .agg [.lit (.int .u8 128), .lit (.int .u8 159)], .agg [.lit (.int .u8 144), .lit (.int .u8 191)], .agg [.lit (.int .u8 128), .lit (.int .u8 143)], .agg [.lit (.int .u8 0), .lit (.int .u8 0)], .agg [.lit (.int .u8 0), .lit (.int .u8 0)], .agg [.lit (.int .u8 0), .lit (.int .u8 0)], .agg [.lit (.int .u8 0), .lit (.int .u8 0)], .agg [.lit (.int .u8 0), .lit (.int .u8 0)], .agg [.lit (.int .u8 0), .lit (.int .u8 0)], .agg [.lit (.int .u8 0), .lit (.int .u8 0)], .agg [.lit (.int .u8 0), .lit (.int .u8 0)], .agg [.lit (.int .u8 0), .lit (.int .u8 0)], .agg [.lit (.int .u8 0), .lit (.int .u8 0)], .agg [.lit (.int .u8 0), .lit (.int .u8 0)]]
/-- One of Go's own tables, pinned by name: the form's constant. -/
def laid_unicode_utf8_first : DataW Unit := Go.Pinned.utf8First

/-- 'rollcalllaw14.ReplyShort': WHATEVER THE INPUT: true; the input reads as it did. -/
def replyShortSpec : ChangeSpec := { name := "replyShort", fn := fun _ => fun
  | [d1, d2, d3] => { results := [.lit (.bool true)], args := [d1, d2, d3] }
  | _ => none }
def replyShortRow : OpenClaim := { program := "ytapammcnagjigaadoor", sum := "80582c25ec0c9db11eaa696af864efedbddf580d851472a1981143d85f562c25", func := "rollcall/rollcalllaw14.ReplyShort", spec := "replyShort", inPlace := ["internal/bytealg.IndexByteString", "internal/abi.NoEscape", "internal/bytealg.CountString", "internal/bytealg.IndexString", "internal/bytealg.MakeNoZero"], named := ["internal/bytealg.MaxLen", "unicode/utf8.first", "unicode/utf8.acceptRanges"], apart := false, laid := [("unicode/utf8.acceptRanges", laid_unicode_utf8_acceptRanges), ("unicode/utf8.first", laid_unicode_utf8_first)] }
def ReplyShortSaid : Prop := replyShortRow.holds Tryd.pinned (OpenSpec.ofChange replyShortSpec)

/-- ITS FALSE NEIGHBOUR: 'it returns false'. Refute it at one input. -/
def replyShortWrong : ChangeSpec := { name := "replyShort", fn := fun _ => fun
  | [d1, d2, d3] => { results := [.lit (.bool false)], args := [d1, d2, d3] }
  | _ => none }
def ReplyShortWrongFalsely : Prop := replyShortRow.holds Tryd.pinned (OpenSpec.ofChange replyShortWrong)

/-- 'rollcalllaw14.ReplyWho': WHATEVER THE INPUT: true; the input reads as it did. -/
def replyWhoSpec : ChangeSpec := { name := "replyWho", fn := fun _ => fun
  | [d1, d2, d3] => { results := [.lit (.bool true)], args := [d1, d2, d3] }
  | _ => none }
def replyWhoRow : OpenClaim := { program := "ytapammcnagjigaadoor", sum := "80582c25ec0c9db11eaa696af864efedbddf580d851472a1981143d85f562c25", func := "rollcall/rollcalllaw14.ReplyWho", spec := "replyWho", inPlace := ["internal/bytealg.IndexByteString", "internal/abi.NoEscape", "internal/bytealg.CountString", "internal/bytealg.IndexString", "internal/bytealg.MakeNoZero"], named := ["internal/bytealg.MaxLen", "unicode/utf8.first", "unicode/utf8.acceptRanges"], apart := false, laid := [("unicode/utf8.acceptRanges", laid_unicode_utf8_acceptRanges), ("unicode/utf8.first", laid_unicode_utf8_first)] }
def ReplyWhoSaid : Prop := replyWhoRow.holds Tryd.pinned (OpenSpec.ofChange replyWhoSpec)

/-- ITS FALSE NEIGHBOUR: 'it returns false'. Refute it at one input. -/
def replyWhoWrong : ChangeSpec := { name := "replyWho", fn := fun _ => fun
  | [d1, d2, d3] => { results := [.lit (.bool false)], args := [d1, d2, d3] }
  | _ => none }
def ReplyWhoWrongFalsely : Prop := replyWhoRow.holds Tryd.pinned (OpenSpec.ofChange replyWhoWrong)

/-- 'rollcalllaw07.MessageParses': WHATEVER THE INPUT: true; the input reads as it did. -/
def messageParsesSpec : ChangeSpec := { name := "messageParses", fn := fun _ => fun
  | [d] => { results := [.lit (.bool true)], args := [d] }
  | _ => none }
def messageParsesRow : OpenClaim := { program := "ytapammcnagjigaadoor", sum := "80582c25ec0c9db11eaa696af864efedbddf580d851472a1981143d85f562c25", func := "rollcall/rollcalllaw07.MessageParses", spec := "messageParses", inPlace := ["internal/bytealg.IndexByteString", "internal/bytealg.IndexString", "internal/bytealg.CountString", "internal/abi.NoEscape"], unfollowed := true, recurses := true, named := ["internal/bytealg.MaxLen", "unicode/utf8.first", "unicode/utf8.acceptRanges"], apart := false, laid := [("unicode/utf8.acceptRanges", laid_unicode_utf8_acceptRanges), ("unicode/utf8.first", laid_unicode_utf8_first)] }
def MessageParsesSaid : Prop := messageParsesRow.holds Tryd.pinned (OpenSpec.ofChange messageParsesSpec)

/-- ITS FALSE NEIGHBOUR: 'it returns false'. Refute it at one input. -/
def messageParsesWrong : ChangeSpec := { name := "messageParses", fn := fun _ => fun
  | [d] => { results := [.lit (.bool false)], args := [d] }
  | _ => none }
def MessageParsesWrongFalsely : Prop := messageParsesRow.holds Tryd.pinned (OpenSpec.ofChange messageParsesWrong)

/-- 'rollcalllaw07.MessageColon': WHATEVER THE INPUT: true; the input reads as it did. -/
def messageColonSpec : ChangeSpec := { name := "messageColon", fn := fun _ => fun
  | [d] => { results := [.lit (.bool true)], args := [d] }
  | _ => none }
def messageColonRow : OpenClaim := { program := "ytapammcnagjigaadoor", sum := "80582c25ec0c9db11eaa696af864efedbddf580d851472a1981143d85f562c25", func := "rollcall/rollcalllaw07.MessageColon", spec := "messageColon", inPlace := ["internal/bytealg.IndexByteString", "internal/bytealg.IndexString", "internal/bytealg.CountString", "internal/abi.NoEscape"], unfollowed := true, recurses := true, named := ["internal/bytealg.MaxLen", "unicode/utf8.first", "unicode/utf8.acceptRanges"], apart := false, laid := [("unicode/utf8.acceptRanges", laid_unicode_utf8_acceptRanges), ("unicode/utf8.first", laid_unicode_utf8_first)] }
def MessageColonSaid : Prop := messageColonRow.holds Tryd.pinned (OpenSpec.ofChange messageColonSpec)

/-- ITS FALSE NEIGHBOUR: 'it returns false'. Refute it at one input. -/
def messageColonWrong : ChangeSpec := { name := "messageColon", fn := fun _ => fun
  | [d] => { results := [.lit (.bool false)], args := [d] }
  | _ => none }
def MessageColonWrongFalsely : Prop := messageColonRow.holds Tryd.pinned (OpenSpec.ofChange messageColonWrong)

/-- 'rollcalllaw07.MessageAgain': WHATEVER THE INPUT: true; the input reads as it did. -/
def messageAgainSpec : ChangeSpec := { name := "messageAgain", fn := fun _ => fun
  | [d] => { results := [.lit (.bool true)], args := [d] }
  | _ => none }
def messageAgainRow : OpenClaim := { program := "ytapammcnagjigaadoor", sum := "80582c25ec0c9db11eaa696af864efedbddf580d851472a1981143d85f562c25", func := "rollcall/rollcalllaw07.MessageAgain", spec := "messageAgain", inPlace := ["internal/bytealg.IndexByteString", "internal/bytealg.IndexString", "internal/bytealg.CountString", "internal/abi.NoEscape", "internal/bytealg.MakeNoZero"], unfollowed := true, recurses := true, named := ["internal/bytealg.MaxLen", "unicode/utf8.first", "unicode/utf8.acceptRanges"], apart := false, laid := [("unicode/utf8.acceptRanges", laid_unicode_utf8_acceptRanges), ("unicode/utf8.first", laid_unicode_utf8_first)] }
def MessageAgainSaid : Prop := messageAgainRow.holds Tryd.pinned (OpenSpec.ofChange messageAgainSpec)

/-- ITS FALSE NEIGHBOUR: 'it returns false'. Refute it at one input. -/
def messageAgainWrong : ChangeSpec := { name := "messageAgain", fn := fun _ => fun
  | [d] => { results := [.lit (.bool false)], args := [d] }
  | _ => none }
def MessageAgainWrongFalsely : Prop := messageAgainRow.holds Tryd.pinned (OpenSpec.ofChange messageAgainWrong)

/-- 'rollcalllaw14.ReplyAll': WHATEVER THE INPUT: true; the input reads as it did. -/
def replyAllSpec : ChangeSpec := { name := "replyAll", fn := fun _ => fun
  | [d] => { results := [.lit (.bool true)], args := [d] }
  | _ => none }
def replyAllRow : OpenClaim := { program := "ytapammcnagjigaadoor", sum := "80582c25ec0c9db11eaa696af864efedbddf580d851472a1981143d85f562c25", func := "rollcall/rollcalllaw14.ReplyAll", spec := "replyAll", inPlace := ["internal/bytealg.IndexByteString", "internal/abi.NoEscape", "internal/bytealg.CountString", "internal/bytealg.IndexString", "internal/bytealg.MakeNoZero"], unfollowed := true, recurses := true, named := ["internal/bytealg.MaxLen", "unicode/utf8.first", "unicode/utf8.acceptRanges"], apart := false, laid := [("unicode/utf8.acceptRanges", laid_unicode_utf8_acceptRanges), ("unicode/utf8.first", laid_unicode_utf8_first)] }
def ReplyAllSaid : Prop := replyAllRow.holds Tryd.pinned (OpenSpec.ofChange replyAllSpec)

/-- ITS FALSE NEIGHBOUR: 'it returns false'. Refute it at one input. -/
def replyAllWrong : ChangeSpec := { name := "replyAll", fn := fun _ => fun
  | [d] => { results := [.lit (.bool false)], args := [d] }
  | _ => none }
def ReplyAllWrongFalsely : Prop := replyAllRow.holds Tryd.pinned (OpenSpec.ofChange replyAllWrong)

/-- 'rollcalllaw17.SignKeeps': WHATEVER THE INPUT: true; the input reads as it did. -/
def signKeepsSpec : ChangeSpec := { name := "signKeeps", fn := fun _ => fun
  | [d1, d2] => { results := [.lit (.bool true)], args := [d1, d2] }
  | _ => none }
def signKeepsRow : OpenClaim := { program := "ytapammcnagjigaadoor", sum := "80582c25ec0c9db11eaa696af864efedbddf580d851472a1981143d85f562c25", func := "rollcall/rollcalllaw17.SignKeeps", spec := "signKeeps", inPlace := ["internal/abi.NoEscape", "internal/bytealg.MakeNoZero", "internal/bytealg.IndexByteString", "internal/bytealg.CountString", "internal/bytealg.IndexString"], unfollowed := true, recurses := true, named := ["unicode/utf8.first", "unicode/utf8.acceptRanges", "internal/bytealg.MaxLen"], apart := false, laid := [("unicode/utf8.acceptRanges", laid_unicode_utf8_acceptRanges), ("unicode/utf8.first", laid_unicode_utf8_first)] }
def SignKeepsSaid : Prop := signKeepsRow.holds Tryd.pinned (OpenSpec.ofChange signKeepsSpec)

/-- ITS FALSE NEIGHBOUR: 'it returns false'. Refute it at one input. -/
def signKeepsWrong : ChangeSpec := { name := "signKeeps", fn := fun _ => fun
  | [d1, d2] => { results := [.lit (.bool false)], args := [d1, d2] }
  | _ => none }
def SignKeepsWrongFalsely : Prop := signKeepsRow.holds Tryd.pinned (OpenSpec.ofChange signKeepsWrong)

/- THE SECOND FORM. 'bulk': how many values and letters a reading holds, each counted each time it is reached (what is shared counts as often as it is met; a slice's spare places count too). A statement '..UptoSaid' is the law's where the arguments, and the package variables that the reading takes, are together of bulk at most 1048576: NARROWER than '..Said'. Prove '..Said' where nothing that the law and all that it calls make is longer than what came in: it says more and counts as full. Else prove '..UptoSaid'. A law counts once. -/
mutual
def uptoBulk {H : Type} : DataW H → Nat
  | .lit (.string bytes) => bytes.length + 1
  | .lit _ => 1
  | .nil => 1
  | .ptr d => uptoBulk d + 1
  | .slice elems spare => uptoBulkAll elems + uptoBulkAll spare + 1
  | .agg parts => uptoBulkAll parts + 1
  | .iface _ d => uptoBulk d + 1
  | .map entries => uptoBulkEntries entries + 1
  | .held _ => 1
def uptoBulkAll {H : Type} : List (DataW H) → Nat
  | [] => 0
  | d :: r => uptoBulk d + uptoBulkAll r
def uptoBulkEntries {H : Type} : List (Lit × DataW H) → Nat
  | [] => 0
  | x :: r => uptoBulkEntry x + uptoBulkEntries r
def uptoBulkEntry {H : Type} : Lit × DataW H → Nat
  | (.string bytes, d) => bytes.length + uptoBulk d + 1
  | (_, d) => uptoBulk d + 1
 end
def uptoSmall : (H : Type) → List (DataW H) → Bool := fun _ ds => decide (uptoBulkAll ds ≤ 1048576)
def OpenSpec.upto (s : _root_.Go.ChangeSpec) : _root_.Go.OpenSpec := { _root_.Go.OpenSpec.ofChange s with cond := some uptoSmall }

/-- 'rollcalllaw14.ReplyShort', WHERE WHAT IT READS IS OF BULK AT MOST 1048576: true; the input reads as it did. -/
def replyShortUptoRow : OpenClaim := { program := "ytapammcnagjigaadoor", sum := "80582c25ec0c9db11eaa696af864efedbddf580d851472a1981143d85f562c25", func := "rollcall/rollcalllaw14.ReplyShort", spec := "replyShort", inPlace := ["internal/bytealg.IndexByteString", "internal/abi.NoEscape", "internal/bytealg.CountString", "internal/bytealg.IndexString", "internal/bytealg.MakeNoZero"], named := ["internal/bytealg.MaxLen", "unicode/utf8.first", "unicode/utf8.acceptRanges"], apart := false, laid := [("unicode/utf8.acceptRanges", laid_unicode_utf8_acceptRanges), ("unicode/utf8.first", laid_unicode_utf8_first)], narrowed := true }
def ReplyShortUptoSaid : Prop := replyShortUptoRow.holds Tryd.pinned (OpenSpec.upto replyShortSpec)

/-- 'rollcalllaw14.ReplyWho', WHERE WHAT IT READS IS OF BULK AT MOST 1048576: true; the input reads as it did. -/
def replyWhoUptoRow : OpenClaim := { program := "ytapammcnagjigaadoor", sum := "80582c25ec0c9db11eaa696af864efedbddf580d851472a1981143d85f562c25", func := "rollcall/rollcalllaw14.ReplyWho", spec := "replyWho", inPlace := ["internal/bytealg.IndexByteString", "internal/abi.NoEscape", "internal/bytealg.CountString", "internal/bytealg.IndexString", "internal/bytealg.MakeNoZero"], named := ["internal/bytealg.MaxLen", "unicode/utf8.first", "unicode/utf8.acceptRanges"], apart := false, laid := [("unicode/utf8.acceptRanges", laid_unicode_utf8_acceptRanges), ("unicode/utf8.first", laid_unicode_utf8_first)], narrowed := true }
def ReplyWhoUptoSaid : Prop := replyWhoUptoRow.holds Tryd.pinned (OpenSpec.upto replyWhoSpec)

/-- 'rollcalllaw07.MessageParses', WHERE WHAT IT READS IS OF BULK AT MOST 1048576: true; the input reads as it did. -/
def messageParsesUptoRow : OpenClaim := { program := "ytapammcnagjigaadoor", sum := "80582c25ec0c9db11eaa696af864efedbddf580d851472a1981143d85f562c25", func := "rollcall/rollcalllaw07.MessageParses", spec := "messageParses", inPlace := ["internal/bytealg.IndexByteString", "internal/bytealg.IndexString", "internal/bytealg.CountString", "internal/abi.NoEscape"], unfollowed := true, recurses := true, named := ["internal/bytealg.MaxLen", "unicode/utf8.first", "unicode/utf8.acceptRanges"], apart := false, laid := [("unicode/utf8.acceptRanges", laid_unicode_utf8_acceptRanges), ("unicode/utf8.first", laid_unicode_utf8_first)], narrowed := true }
def MessageParsesUptoSaid : Prop := messageParsesUptoRow.holds Tryd.pinned (OpenSpec.upto messageParsesSpec)

/-- 'rollcalllaw07.MessageColon', WHERE WHAT IT READS IS OF BULK AT MOST 1048576: true; the input reads as it did. -/
def messageColonUptoRow : OpenClaim := { program := "ytapammcnagjigaadoor", sum := "80582c25ec0c9db11eaa696af864efedbddf580d851472a1981143d85f562c25", func := "rollcall/rollcalllaw07.MessageColon", spec := "messageColon", inPlace := ["internal/bytealg.IndexByteString", "internal/bytealg.IndexString", "internal/bytealg.CountString", "internal/abi.NoEscape"], unfollowed := true, recurses := true, named := ["internal/bytealg.MaxLen", "unicode/utf8.first", "unicode/utf8.acceptRanges"], apart := false, laid := [("unicode/utf8.acceptRanges", laid_unicode_utf8_acceptRanges), ("unicode/utf8.first", laid_unicode_utf8_first)], narrowed := true }
def MessageColonUptoSaid : Prop := messageColonUptoRow.holds Tryd.pinned (OpenSpec.upto messageColonSpec)

/-- 'rollcalllaw07.MessageAgain', WHERE WHAT IT READS IS OF BULK AT MOST 1048576: true; the input reads as it did. -/
def messageAgainUptoRow : OpenClaim := { program := "ytapammcnagjigaadoor", sum := "80582c25ec0c9db11eaa696af864efedbddf580d851472a1981143d85f562c25", func := "rollcall/rollcalllaw07.MessageAgain", spec := "messageAgain", inPlace := ["internal/bytealg.IndexByteString", "internal/bytealg.IndexString", "internal/bytealg.CountString", "internal/abi.NoEscape", "internal/bytealg.MakeNoZero"], unfollowed := true, recurses := true, named := ["internal/bytealg.MaxLen", "unicode/utf8.first", "unicode/utf8.acceptRanges"], apart := false, laid := [("unicode/utf8.acceptRanges", laid_unicode_utf8_acceptRanges), ("unicode/utf8.first", laid_unicode_utf8_first)], narrowed := true }
def MessageAgainUptoSaid : Prop := messageAgainUptoRow.holds Tryd.pinned (OpenSpec.upto messageAgainSpec)

/-- 'rollcalllaw14.ReplyAll', WHERE WHAT IT READS IS OF BULK AT MOST 1048576: true; the input reads as it did. -/
def replyAllUptoRow : OpenClaim := { program := "ytapammcnagjigaadoor", sum := "80582c25ec0c9db11eaa696af864efedbddf580d851472a1981143d85f562c25", func := "rollcall/rollcalllaw14.ReplyAll", spec := "replyAll", inPlace := ["internal/bytealg.IndexByteString", "internal/abi.NoEscape", "internal/bytealg.CountString", "internal/bytealg.IndexString", "internal/bytealg.MakeNoZero"], unfollowed := true, recurses := true, named := ["internal/bytealg.MaxLen", "unicode/utf8.first", "unicode/utf8.acceptRanges"], apart := false, laid := [("unicode/utf8.acceptRanges", laid_unicode_utf8_acceptRanges), ("unicode/utf8.first", laid_unicode_utf8_first)], narrowed := true }
def ReplyAllUptoSaid : Prop := replyAllUptoRow.holds Tryd.pinned (OpenSpec.upto replyAllSpec)

/-- 'rollcalllaw17.SignKeeps', WHERE WHAT IT READS IS OF BULK AT MOST 1048576: true; the input reads as it did. -/
def signKeepsUptoRow : OpenClaim := { program := "ytapammcnagjigaadoor", sum := "80582c25ec0c9db11eaa696af864efedbddf580d851472a1981143d85f562c25", func := "rollcall/rollcalllaw17.SignKeeps", spec := "signKeeps", inPlace := ["internal/abi.NoEscape", "internal/bytealg.MakeNoZero", "internal/bytealg.IndexByteString", "internal/bytealg.CountString", "internal/bytealg.IndexString"], unfollowed := true, recurses := true, named := ["unicode/utf8.first", "unicode/utf8.acceptRanges", "internal/bytealg.MaxLen"], apart := false, laid := [("unicode/utf8.acceptRanges", laid_unicode_utf8_acceptRanges), ("unicode/utf8.first", laid_unicode_utf8_first)], narrowed := true }
def SignKeepsUptoSaid : Prop := signKeepsUptoRow.holds Tryd.pinned (OpenSpec.upto signKeepsSpec)

end Rows
end Go.Proofs.YtapammcnagjigaaDoor
