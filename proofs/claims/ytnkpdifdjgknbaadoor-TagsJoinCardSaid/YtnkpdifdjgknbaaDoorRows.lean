/-
  NARROWER THAN 'FOR EVERY INPUT', by the rows' own cells (each row's printed sentence says how): PersonSeen: laid · TagsParses: laid · TagsJoin: laid · TagsTexts: laid · TagsAgain: laid.
  DERIVED. THE GIVEN ROWS OF THIS SEAT. 5 by the template 'for every input the law returns true; each argument reads behind the call as it read before'; 0 by the template 'total and deterministic' (their statements: YtnkpdifdjgknbaaDoorTotals.lean).
  GIVEN WITH THE SEED: the statements are not yours to turn. If you find one false, say at which input.
  Laid BY PROGRAM, IN A SANDBOX (cutbox-rows.mjs): the forced cells as the released guide's own fill.sh prints them over the translation 89e7e8bc96a868f1… (all of the seat's roots in one cut). By AI agents, Wed Nov 11 2026. No macro, syntax, notation, axiom, sorry.
-/
import Derived.Test.YtnkpdifdjgknbaaDoorChecked
import GoSem.PinnedTables
import GoSem.Claim
import GoSem.ClaimJoined
import GoSem.ClaimMapViews
import Derived.JoinedTies
import Derived.KernelRfl
namespace Go.Proofs.YtnkpdifdjgknbaaDoor
/- THE CELL 'sum', in the pinned program and in every row, IS THE sha256 OF THE DUMP (.gsa) THAT YtnkpdifdjgknbaaDoorProg.lean LOADS. Nothing in Lean hashes anything: it is a label: what it is worth is what the hold of that sum in a sandbox is worth. -/
noncomputable def Tryd.pinned : Pinned := { name := "ytnkpdifdjgknbaadoor", sum := "89e7e8bc96a868f1ec51daf9ea2ed5f3e89b81ce41c39677f44fb498041a55eb", checked := Tryd.checked }
namespace Rows
def none {H : Type} : Left H := { results := [], args := [] }

/- WHAT THE LISTED PACKAGE-LEVEL VARIABLES READ AS WHEN THE CALL BEGINS. Each datum BY PROGRAM (the guide's laid-datum.mjs) off the statement by which the dump's own 'gosem.cut.vars' lays the variable. In a bare row this is a premise. The card (YtnkpdifdjgknbaaDoorCards.lean) ties it to the program's text. -/
def laid_unicode_utf8_acceptRanges {H : Type} : DataW H := .agg [.agg [.lit (.int .u8 128), .lit (.int .u8 191)], .agg [.lit (.int .u8 160), .lit (.int .u8 191)], .agg [.lit (.int .u8 128), .lit (.int .u8 159)], .agg [.lit (.int .u8 144), .lit (.int .u8 191)], .agg [.lit (.int .u8 128), .lit (.int .u8 143)], .agg [.lit (.int .u8 0), .lit (.int .u8 0)], .agg [.lit (.int .u8 0), .lit (.int .u8 0)], .agg [.lit (.int .u8 0), .lit (.int .u8 0)], .agg [.lit (.int .u8 0), .lit (.int .u8 0)], .agg [.lit (.int .u8 0), .lit (.int .u8 0)], .agg [.lit (.int .u8 0), .lit (.int .u8 0)], .agg [.lit (.int .u8 0), .lit (.int .u8 0)], .agg [.lit (.int .u8 0), .lit (.int .u8 0)], .agg [.lit (.int .u8 0), .lit (.int .u8 0)], .agg [.lit (.int .u8 0), .lit (.int .u8 0)], .agg [.lit (.int .u8 0), .lit (.int .u8 0)]]
/-- One of Go's own tables, pinned by name: the form's constant. -/
def laid_unicode_utf8_first : DataW Unit := Go.Pinned.utf8First

/-- 'rollcalllaw22.PersonSeen': WHATEVER THE INPUT: true; the input reads as it did. -/
def personSeenSpec : ChangeSpec := { name := "personSeen", fn := fun _ => fun
  | [d1, d2, d3, d4] => { results := [.lit (.bool true)], args := [d1, d2, d3, d4] }
  | _ => none }
def personSeenRow : OpenClaim := { program := "ytnkpdifdjgknbaadoor", sum := "89e7e8bc96a868f1ec51daf9ea2ed5f3e89b81ce41c39677f44fb498041a55eb", func := "rollcall/rollcalllaw22.PersonSeen", spec := "personSeen", inPlace := ["internal/bytealg.IndexByteString", "internal/bytealg.IndexString"], named := ["unicode/utf8.first", "unicode/utf8.acceptRanges", "internal/bytealg.MaxLen"], apart := false, laid := [("unicode/utf8.acceptRanges", laid_unicode_utf8_acceptRanges), ("unicode/utf8.first", laid_unicode_utf8_first)] }
def PersonSeenSaid : Prop := personSeenRow.holds Tryd.pinned (OpenSpec.ofChange personSeenSpec)

/-- ITS FALSE NEIGHBOUR: 'it returns false'. Refute it at one input. -/
def personSeenWrong : ChangeSpec := { name := "personSeen", fn := fun _ => fun
  | [d1, d2, d3, d4] => { results := [.lit (.bool false)], args := [d1, d2, d3, d4] }
  | _ => none }
def PersonSeenWrongFalsely : Prop := personSeenRow.holds Tryd.pinned (OpenSpec.ofChange personSeenWrong)

/-- 'rollcalllaw06.TagsParses': WHATEVER THE INPUT: true; the input reads as it did. -/
def tagsParsesSpec : ChangeSpec := { name := "tagsParses", fn := fun _ => fun
  | [d] => { results := [.lit (.bool true)], args := [d] }
  | _ => none }
def tagsParsesRow : OpenClaim := { program := "ytnkpdifdjgknbaadoor", sum := "89e7e8bc96a868f1ec51daf9ea2ed5f3e89b81ce41c39677f44fb498041a55eb", func := "rollcall/rollcalllaw06.TagsParses", spec := "tagsParses", inPlace := ["internal/bytealg.CountString", "internal/bytealg.IndexByteString", "internal/bytealg.IndexString", "internal/abi.NoEscape"], unfollowed := true, recurses := true, named := ["unicode/utf8.first", "unicode/utf8.acceptRanges", "internal/bytealg.MaxLen"], apart := false, laid := [("unicode/utf8.acceptRanges", laid_unicode_utf8_acceptRanges), ("unicode/utf8.first", laid_unicode_utf8_first)] }
def TagsParsesSaid : Prop := tagsParsesRow.holds Tryd.pinned (OpenSpec.ofChange tagsParsesSpec)

/-- ITS FALSE NEIGHBOUR: 'it returns false'. Refute it at one input. -/
def tagsParsesWrong : ChangeSpec := { name := "tagsParses", fn := fun _ => fun
  | [d] => { results := [.lit (.bool false)], args := [d] }
  | _ => none }
def TagsParsesWrongFalsely : Prop := tagsParsesRow.holds Tryd.pinned (OpenSpec.ofChange tagsParsesWrong)

/-- 'rollcalllaw06.TagsJoin': WHATEVER THE INPUT: true; the input reads as it did. -/
def tagsJoinSpec : ChangeSpec := { name := "tagsJoin", fn := fun _ => fun
  | [d1, d2] => { results := [.lit (.bool true)], args := [d1, d2] }
  | _ => none }
def tagsJoinRow : OpenClaim := { program := "ytnkpdifdjgknbaadoor", sum := "89e7e8bc96a868f1ec51daf9ea2ed5f3e89b81ce41c39677f44fb498041a55eb", func := "rollcall/rollcalllaw06.TagsJoin", spec := "tagsJoin", inPlace := ["internal/bytealg.CountString", "internal/bytealg.IndexByteString", "internal/bytealg.IndexString", "internal/abi.NoEscape"], unfollowed := true, recurses := true, named := ["unicode/utf8.first", "unicode/utf8.acceptRanges", "internal/bytealg.MaxLen"], apart := false, laid := [("unicode/utf8.acceptRanges", laid_unicode_utf8_acceptRanges), ("unicode/utf8.first", laid_unicode_utf8_first)] }
def TagsJoinSaid : Prop := tagsJoinRow.holds Tryd.pinned (OpenSpec.ofChange tagsJoinSpec)

/-- ITS FALSE NEIGHBOUR: 'it returns false'. Refute it at one input. -/
def tagsJoinWrong : ChangeSpec := { name := "tagsJoin", fn := fun _ => fun
  | [d1, d2] => { results := [.lit (.bool false)], args := [d1, d2] }
  | _ => none }
def TagsJoinWrongFalsely : Prop := tagsJoinRow.holds Tryd.pinned (OpenSpec.ofChange tagsJoinWrong)

/-- 'rollcalllaw06.TagsTexts': WHATEVER THE INPUT: true; the input reads as it did. -/
def tagsTextsSpec : ChangeSpec := { name := "tagsTexts", fn := fun _ => fun
  | [d1, d2] => { results := [.lit (.bool true)], args := [d1, d2] }
  | _ => none }
def tagsTextsRow : OpenClaim := { program := "ytnkpdifdjgknbaadoor", sum := "89e7e8bc96a868f1ec51daf9ea2ed5f3e89b81ce41c39677f44fb498041a55eb", func := "rollcall/rollcalllaw06.TagsTexts", spec := "tagsTexts", inPlace := ["internal/bytealg.CountString", "internal/bytealg.IndexByteString", "internal/bytealg.IndexString", "internal/abi.NoEscape", "internal/bytealg.MakeNoZero"], unfollowed := true, recurses := true, named := ["unicode/utf8.first", "unicode/utf8.acceptRanges", "internal/bytealg.MaxLen"], apart := false, laid := [("unicode/utf8.acceptRanges", laid_unicode_utf8_acceptRanges), ("unicode/utf8.first", laid_unicode_utf8_first)] }
def TagsTextsSaid : Prop := tagsTextsRow.holds Tryd.pinned (OpenSpec.ofChange tagsTextsSpec)

/-- ITS FALSE NEIGHBOUR: 'it returns false'. Refute it at one input. -/
def tagsTextsWrong : ChangeSpec := { name := "tagsTexts", fn := fun _ => fun
  | [d1, d2] => { results := [.lit (.bool false)], args := [d1, d2] }
  | _ => none }
def TagsTextsWrongFalsely : Prop := tagsTextsRow.holds Tryd.pinned (OpenSpec.ofChange tagsTextsWrong)

/-- 'rollcalllaw06.TagsAgain': WHATEVER THE INPUT: true; the input reads as it did. -/
def tagsAgainSpec : ChangeSpec := { name := "tagsAgain", fn := fun _ => fun
  | [d] => { results := [.lit (.bool true)], args := [d] }
  | _ => none }
def tagsAgainRow : OpenClaim := { program := "ytnkpdifdjgknbaadoor", sum := "89e7e8bc96a868f1ec51daf9ea2ed5f3e89b81ce41c39677f44fb498041a55eb", func := "rollcall/rollcalllaw06.TagsAgain", spec := "tagsAgain", inPlace := ["internal/bytealg.CountString", "internal/bytealg.IndexByteString", "internal/bytealg.IndexString", "internal/abi.NoEscape", "internal/bytealg.MakeNoZero"], unfollowed := true, recurses := true, named := ["unicode/utf8.first", "unicode/utf8.acceptRanges", "internal/bytealg.MaxLen"], apart := false, laid := [("unicode/utf8.acceptRanges", laid_unicode_utf8_acceptRanges), ("unicode/utf8.first", laid_unicode_utf8_first)] }
def TagsAgainSaid : Prop := tagsAgainRow.holds Tryd.pinned (OpenSpec.ofChange tagsAgainSpec)

/-- ITS FALSE NEIGHBOUR: 'it returns false'. Refute it at one input. -/
def tagsAgainWrong : ChangeSpec := { name := "tagsAgain", fn := fun _ => fun
  | [d] => { results := [.lit (.bool false)], args := [d] }
  | _ => none }
def TagsAgainWrongFalsely : Prop := tagsAgainRow.holds Tryd.pinned (OpenSpec.ofChange tagsAgainWrong)

/- THE SECOND FORM. 'bulk': how many values and letters a reading holds, each counted each time it is reached (what is shared counts as often as it is met; a slice's spare places count too). A statement '..UptoSaid' is the law's where the arguments, and the package variables that the reading takes, are together of bulk at most 1048576: NARROWER than '..Said'. Prove '..Said' where nothing that the law and all that it calls make is longer than what came in: it says more and counts as full. Else prove '..UptoSaid'. A law counts once. -/
mutual
def uptoBulk {H : Type} : DataW H → Nat
  | .lit (.string bytes) => bytes.length + 1
  | .lit _ => 1
  | .nil => 1
  | .ptr d => uptoBulk d + 1
  | .slice elems spare => uptoBulkAll elems + uptoBulkAll spare + 1
  | .agg parts => uptoBulkAll parts + 1
  | .iface _ d => uptoBulk d + 1
  | .map entries => uptoBulkEntries entries + 1
  | .held _ => 1
def uptoBulkAll {H : Type} : List (DataW H) → Nat
  | [] => 0
  | d :: r => uptoBulk d + uptoBulkAll r
def uptoBulkEntries {H : Type} : List (Lit × DataW H) → Nat
  | [] => 0
  | x :: r => uptoBulkEntry x + uptoBulkEntries r
def uptoBulkEntry {H : Type} : Lit × DataW H → Nat
  | (.string bytes, d) => bytes.length + uptoBulk d + 1
  | (_, d) => uptoBulk d + 1
 end
def uptoSmall : (H : Type) → List (DataW H) → Bool := fun _ ds => decide (uptoBulkAll ds ≤ 1048576)
def OpenSpec.upto (s : _root_.Go.ChangeSpec) : _root_.Go.OpenSpec := { _root_.Go.OpenSpec.ofChange s with cond := some uptoSmall }

/-- 'rollcalllaw22.PersonSeen', WHERE WHAT IT READS IS OF BULK AT MOST 1048576: true; the input reads as it did. -/
def personSeenUptoRow : OpenClaim := { program := "ytnkpdifdjgknbaadoor", sum := "89e7e8bc96a868f1ec51daf9ea2ed5f3e89b81ce41c39677f44fb498041a55eb", func := "rollcall/rollcalllaw22.PersonSeen", spec := "personSeen", inPlace := ["internal/bytealg.IndexByteString", "internal/bytealg.IndexString"], named := ["unicode/utf8.first", "unicode/utf8.acceptRanges", "internal/bytealg.MaxLen"], apart := false, laid := [("unicode/utf8.acceptRanges", laid_unicode_utf8_acceptRanges), ("unicode/utf8.first", laid_unicode_utf8_first)], narrowed := true }
def PersonSeenUptoSaid : Prop := personSeenUptoRow.holds Tryd.pinned (OpenSpec.upto personSeenSpec)

/-- 'rollcalllaw06.TagsParses', WHERE WHAT IT READS IS OF BULK AT MOST 1048576: true; the input reads as it did. -/
def tagsParsesUptoRow : OpenClaim := { program := "ytnkpdifdjgknbaadoor", sum := "89e7e8bc96a868f1ec51daf9ea2ed5f3e89b81ce41c39677f44fb498041a55eb", func := "rollcall/rollcalllaw06.TagsParses", spec := "tagsParses", inPlace := ["internal/bytealg.CountString", "internal/bytealg.IndexByteString", "internal/bytealg.IndexString", "internal/abi.NoEscape"], unfollowed := true, recurses := true, named := ["unicode/utf8.first", "unicode/utf8.acceptRanges", "internal/bytealg.MaxLen"], apart := false, laid := [("unicode/utf8.acceptRanges", laid_unicode_utf8_acceptRanges), ("unicode/utf8.first", laid_unicode_utf8_first)], narrowed := true }
def TagsParsesUptoSaid : Prop := tagsParsesUptoRow.holds Tryd.pinned (OpenSpec.upto tagsParsesSpec)

/-- 'rollcalllaw06.TagsJoin', WHERE WHAT IT READS IS OF BULK AT MOST 1048576: true; the input reads as it did. -/
def tagsJoinUptoRow : OpenClaim := { program := "ytnkpdifdjgknbaadoor", sum := "89e7e8bc96a868f1ec51daf9ea2ed5f3e89b81ce41c39677f44fb498041a55eb", func := "rollcall/rollcalllaw06.TagsJoin", spec := "tagsJoin", inPlace := ["internal/bytealg.CountString", "internal/bytealg.IndexByteString", "internal/bytealg.IndexString", "internal/abi.NoEscape"], unfollowed := true, recurses := true, named := ["unicode/utf8.first", "unicode/utf8.acceptRanges", "internal/bytealg.MaxLen"], apart := false, laid := [("unicode/utf8.acceptRanges", laid_unicode_utf8_acceptRanges), ("unicode/utf8.first", laid_unicode_utf8_first)], narrowed := true }
def TagsJoinUptoSaid : Prop := tagsJoinUptoRow.holds Tryd.pinned (OpenSpec.upto tagsJoinSpec)

/-- 'rollcalllaw06.TagsTexts', WHERE WHAT IT READS IS OF BULK AT MOST 1048576: true; the input reads as it did. -/
def tagsTextsUptoRow : OpenClaim := { program := "ytnkpdifdjgknbaadoor", sum := "89e7e8bc96a868f1ec51daf9ea2ed5f3e89b81ce41c39677f44fb498041a55eb", func := "rollcall/rollcalllaw06.TagsTexts", spec := "tagsTexts", inPlace := ["internal/bytealg.CountString", "internal/bytealg.IndexByteString", "internal/bytealg.IndexString", "internal/abi.NoEscape", "internal/bytealg.MakeNoZero"], unfollowed := true, recurses := true, named := ["unicode/utf8.first", "unicode/utf8.acceptRanges", "internal/bytealg.MaxLen"], apart := false, laid := [("unicode/utf8.acceptRanges", laid_unicode_utf8_acceptRanges), ("unicode/utf8.first", laid_unicode_utf8_first)], narrowed := true }
def TagsTextsUptoSaid : Prop := tagsTextsUptoRow.holds Tryd.pinned (OpenSpec.upto tagsTextsSpec)

/-- 'rollcalllaw06.TagsAgain', WHERE WHAT IT READS IS OF BULK AT MOST 1048576: true; the input reads as it did. -/
def tagsAgainUptoRow : OpenClaim := { program := "ytnkpdifdjgknbaadoor", sum := "89e7e8bc96a868f1ec51daf9ea2ed5f3e89b81ce41c39677f44fb498041a55eb", func := "rollcall/rollcalllaw06.TagsAgain", spec := "tagsAgain", inPlace := ["internal/bytealg.CountString", "internal/bytealg.IndexByteString", "internal/bytealg.IndexString", "internal/abi.NoEscape", "internal/bytealg.MakeNoZero"], unfollowed := true, recurses := true, named := ["unicode/utf8.first", "unicode/utf8.acceptRanges", "internal/bytealg.MaxLen"], apart := false, laid := [("unicode/utf8.acceptRanges", laid_unicode_utf8_acceptRanges), ("unicode/utf8.first", laid_unicode_utf8_first)], narrowed := true }
def TagsAgainUptoSaid : Prop := tagsAgainUptoRow.holds Tryd.pinned (OpenSpec.upto tagsAgainSpec)

end Rows
end Go.Proofs.YtnkpdifdjgknbaaDoor
