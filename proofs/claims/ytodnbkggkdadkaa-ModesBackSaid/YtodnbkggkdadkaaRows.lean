/-
  No cell of these rows narrows 'for every input' (looked for: loops, veiled, ifaces, maps, wideKeys, modest, calm, conditions, laid).
  DERIVED. THE GIVEN ROWS OF THIS SEAT. 11 by the template 'for every input the law returns true; each argument reads behind the call as it read before'; 0 by the template 'total and deterministic' (their statements: YtodnbkggkdadkaaTotals.lean).
  GIVEN WITH THE SEED: the statements are not yours to turn. If you find one false, say at which input.
  Laid BY PROGRAM, IN A SANDBOX (cutbox-rows.mjs): the forced cells as the released guide's own fill.sh prints them over the translation 09296ab22c9ab87b… (all of the seat's roots in one cut). By AI agents, Wed Nov 11 2026. No macro, syntax, notation, axiom, sorry.
-/
import Derived.Test.YtodnbkggkdadkaaChecked
import GoSem.Claim
import GoSem.ClaimJoined
import GoSem.ClaimMapViews
import Derived.JoinedTies
import Derived.KernelRfl
namespace Go.Proofs.Ytodnbkggkdadkaa
/- THE CELL 'sum', in the pinned program and in every row, IS THE sha256 OF THE DUMP (.gsa) THAT YtodnbkggkdadkaaProg.lean LOADS. Nothing in Lean hashes anything: it is a label: what it is worth is what the hold of that sum in a sandbox is worth. -/
noncomputable def Try.pinned : Pinned := { name := "ytodnbkggkdadkaa", sum := "09296ab22c9ab87b869956d445ac6f9e9e0fd179c656b62be67402b07a8cffb2", checked := Try.checked }
namespace Rows
def none {H : Type} : Left H := { results := [], args := [] }

/-- 'rollcalllaw22.PersonHidden': WHATEVER THE INPUT: true; the input reads as it did. -/
def personHiddenSpec : ChangeSpec := { name := "personHidden", fn := fun _ => fun
  | [d1, d2, d3, d4, d5] => { results := [.lit (.bool true)], args := [d1, d2, d3, d4, d5] }
  | _ => none }
def personHiddenRow : OpenClaim := { program := "ytodnbkggkdadkaa", sum := "09296ab22c9ab87b869956d445ac6f9e9e0fd179c656b62be67402b07a8cffb2", func := "rollcall/rollcalllaw22.PersonHidden", spec := "personHidden", apart := false }
def PersonHiddenSaid : Prop := personHiddenRow.holds Try.pinned (OpenSpec.ofChange personHiddenSpec)

/-- ITS FALSE NEIGHBOUR: 'it returns false'. Refute it at one input. -/
def personHiddenWrong : ChangeSpec := { name := "personHidden", fn := fun _ => fun
  | [d1, d2, d3, d4, d5] => { results := [.lit (.bool false)], args := [d1, d2, d3, d4, d5] }
  | _ => none }
def PersonHiddenWrongFalsely : Prop := personHiddenRow.holds Try.pinned (OpenSpec.ofChange personHiddenWrong)

/-- 'rollcalllaw05.FrameFeeds': WHATEVER THE INPUT: true; the input reads as it did. -/
def frameFeedsSpec : ChangeSpec := { name := "frameFeeds", fn := fun _ => fun
  | [d] => { results := [.lit (.bool true)], args := [d] }
  | _ => none }
def frameFeedsRow : OpenClaim := { program := "ytodnbkggkdadkaa", sum := "09296ab22c9ab87b869956d445ac6f9e9e0fd179c656b62be67402b07a8cffb2", func := "rollcall/rollcalllaw05.FrameFeeds", spec := "frameFeeds", apart := false }
def FrameFeedsSaid : Prop := frameFeedsRow.holds Try.pinned (OpenSpec.ofChange frameFeedsSpec)

/-- ITS FALSE NEIGHBOUR: 'it returns false'. Refute it at one input. -/
def frameFeedsWrong : ChangeSpec := { name := "frameFeeds", fn := fun _ => fun
  | [d] => { results := [.lit (.bool false)], args := [d] }
  | _ => none }
def FrameFeedsWrongFalsely : Prop := frameFeedsRow.holds Try.pinned (OpenSpec.ofChange frameFeedsWrong)

/-- 'rollcalllaw05.FrameLong': WHATEVER THE INPUT: true; the input reads as it did. -/
def frameLongSpec : ChangeSpec := { name := "frameLong", fn := fun _ => fun
  | [d1, d2] => { results := [.lit (.bool true)], args := [d1, d2] }
  | _ => none }
def frameLongRow : OpenClaim := { program := "ytodnbkggkdadkaa", sum := "09296ab22c9ab87b869956d445ac6f9e9e0fd179c656b62be67402b07a8cffb2", func := "rollcall/rollcalllaw05.FrameLong", spec := "frameLong", apart := false }
def FrameLongSaid : Prop := frameLongRow.holds Try.pinned (OpenSpec.ofChange frameLongSpec)

/-- ITS FALSE NEIGHBOUR: 'it returns false'. Refute it at one input. -/
def frameLongWrong : ChangeSpec := { name := "frameLong", fn := fun _ => fun
  | [d1, d2] => { results := [.lit (.bool false)], args := [d1, d2] }
  | _ => none }
def FrameLongWrongFalsely : Prop := frameLongRow.holds Try.pinned (OpenSpec.ofChange frameLongWrong)

/-- 'rollcalllaw05.FrameEnds': WHATEVER THE INPUT: true; the input reads as it did. -/
def frameEndsSpec : ChangeSpec := { name := "frameEnds", fn := fun _ => fun
  | [d1, d2] => { results := [.lit (.bool true)], args := [d1, d2] }
  | _ => none }
def frameEndsRow : OpenClaim := { program := "ytodnbkggkdadkaa", sum := "09296ab22c9ab87b869956d445ac6f9e9e0fd179c656b62be67402b07a8cffb2", func := "rollcall/rollcalllaw05.FrameEnds", spec := "frameEnds", apart := false }
def FrameEndsSaid : Prop := frameEndsRow.holds Try.pinned (OpenSpec.ofChange frameEndsSpec)

/-- ITS FALSE NEIGHBOUR: 'it returns false'. Refute it at one input. -/
def frameEndsWrong : ChangeSpec := { name := "frameEnds", fn := fun _ => fun
  | [d1, d2] => { results := [.lit (.bool false)], args := [d1, d2] }
  | _ => none }
def FrameEndsWrongFalsely : Prop := frameEndsRow.holds Try.pinned (OpenSpec.ofChange frameEndsWrong)

/-- 'rollcalllaw05.FrameLines': WHATEVER THE INPUT: true; the input reads as it did. -/
def frameLinesSpec : ChangeSpec := { name := "frameLines", fn := fun _ => fun
  | [d] => { results := [.lit (.bool true)], args := [d] }
  | _ => none }
def frameLinesRow : OpenClaim := { program := "ytodnbkggkdadkaa", sum := "09296ab22c9ab87b869956d445ac6f9e9e0fd179c656b62be67402b07a8cffb2", func := "rollcall/rollcalllaw05.FrameLines", spec := "frameLines", unfollowed := true, recurses := true, apart := false }
def FrameLinesSaid : Prop := frameLinesRow.holds Try.pinned (OpenSpec.ofChange frameLinesSpec)

/-- ITS FALSE NEIGHBOUR: 'it returns false'. Refute it at one input. -/
def frameLinesWrong : ChangeSpec := { name := "frameLines", fn := fun _ => fun
  | [d] => { results := [.lit (.bool false)], args := [d] }
  | _ => none }
def FrameLinesWrongFalsely : Prop := frameLinesRow.holds Try.pinned (OpenSpec.ofChange frameLinesWrong)

/-- 'rollcalllaw18.ModesParses': WHATEVER THE INPUT: true; the input reads as it did. -/
def modesParsesSpec : ChangeSpec := { name := "modesParses", fn := fun _ => fun
  | [d] => { results := [.lit (.bool true)], args := [d] }
  | _ => none }
def modesParsesRow : OpenClaim := { program := "ytodnbkggkdadkaa", sum := "09296ab22c9ab87b869956d445ac6f9e9e0fd179c656b62be67402b07a8cffb2", func := "rollcall/rollcalllaw18.ModesParses", spec := "modesParses", inPlace := ["internal/bytealg.IndexByteString"], unfollowed := true, recurses := true, apart := false }
def ModesParsesSaid : Prop := modesParsesRow.holds Try.pinned (OpenSpec.ofChange modesParsesSpec)

/-- ITS FALSE NEIGHBOUR: 'it returns false'. Refute it at one input. -/
def modesParsesWrong : ChangeSpec := { name := "modesParses", fn := fun _ => fun
  | [d] => { results := [.lit (.bool false)], args := [d] }
  | _ => none }
def ModesParsesWrongFalsely : Prop := modesParsesRow.holds Try.pinned (OpenSpec.ofChange modesParsesWrong)

/-- 'rollcalllaw18.ModesSeq': WHATEVER THE INPUT: true; the input reads as it did. -/
def modesSeqSpec : ChangeSpec := { name := "modesSeq", fn := fun _ => fun
  | [d] => { results := [.lit (.bool true)], args := [d] }
  | _ => none }
def modesSeqRow : OpenClaim := { program := "ytodnbkggkdadkaa", sum := "09296ab22c9ab87b869956d445ac6f9e9e0fd179c656b62be67402b07a8cffb2", func := "rollcall/rollcalllaw18.ModesSeq", spec := "modesSeq", inPlace := ["internal/bytealg.IndexByteString"], unfollowed := true, recurses := true, apart := false }
def ModesSeqSaid : Prop := modesSeqRow.holds Try.pinned (OpenSpec.ofChange modesSeqSpec)

/-- ITS FALSE NEIGHBOUR: 'it returns false'. Refute it at one input. -/
def modesSeqWrong : ChangeSpec := { name := "modesSeq", fn := fun _ => fun
  | [d] => { results := [.lit (.bool false)], args := [d] }
  | _ => none }
def ModesSeqWrongFalsely : Prop := modesSeqRow.holds Try.pinned (OpenSpec.ofChange modesSeqWrong)

/-- 'rollcalllaw15.ConfigChecks': WHATEVER THE INPUT: true; the input reads as it did. -/
def configChecksSpec : ChangeSpec := { name := "configChecks", fn := fun _ => fun
  | [d] => { results := [.lit (.bool true)], args := [d] }
  | _ => none }
def configChecksRow : OpenClaim := { program := "ytodnbkggkdadkaa", sum := "09296ab22c9ab87b869956d445ac6f9e9e0fd179c656b62be67402b07a8cffb2", func := "rollcall/rollcalllaw15.ConfigChecks", spec := "configChecks", inPlace := ["internal/bytealg.IndexByteString"], apart := false }
def ConfigChecksSaid : Prop := configChecksRow.holds Try.pinned (OpenSpec.ofChange configChecksSpec)

/-- ITS FALSE NEIGHBOUR: 'it returns false'. Refute it at one input. -/
def configChecksWrong : ChangeSpec := { name := "configChecks", fn := fun _ => fun
  | [d] => { results := [.lit (.bool false)], args := [d] }
  | _ => none }
def ConfigChecksWrongFalsely : Prop := configChecksRow.holds Try.pinned (OpenSpec.ofChange configChecksWrong)

/-- 'rollcalllaw15.ConfigBounds': WHATEVER THE INPUT: true; the input reads as it did. -/
def configBoundsSpec : ChangeSpec := { name := "configBounds", fn := fun _ => fun
  | [d1, d2] => { results := [.lit (.bool true)], args := [d1, d2] }
  | _ => none }
def configBoundsRow : OpenClaim := { program := "ytodnbkggkdadkaa", sum := "09296ab22c9ab87b869956d445ac6f9e9e0fd179c656b62be67402b07a8cffb2", func := "rollcall/rollcalllaw15.ConfigBounds", spec := "configBounds", inPlace := ["internal/bytealg.IndexByteString"], apart := false }
def ConfigBoundsSaid : Prop := configBoundsRow.holds Try.pinned (OpenSpec.ofChange configBoundsSpec)

/-- ITS FALSE NEIGHBOUR: 'it returns false'. Refute it at one input. -/
def configBoundsWrong : ChangeSpec := { name := "configBounds", fn := fun _ => fun
  | [d1, d2] => { results := [.lit (.bool false)], args := [d1, d2] }
  | _ => none }
def ConfigBoundsWrongFalsely : Prop := configBoundsRow.holds Try.pinned (OpenSpec.ofChange configBoundsWrong)

/-- 'rollcalllaw18.ModesTexts': WHATEVER THE INPUT: true; the input reads as it did. -/
def modesTextsSpec : ChangeSpec := { name := "modesTexts", fn := fun _ => fun
  | [d] => { results := [.lit (.bool true)], args := [d] }
  | _ => none }
def modesTextsRow : OpenClaim := { program := "ytodnbkggkdadkaa", sum := "09296ab22c9ab87b869956d445ac6f9e9e0fd179c656b62be67402b07a8cffb2", func := "rollcall/rollcalllaw18.ModesTexts", spec := "modesTexts", inPlace := ["internal/bytealg.IndexByteString", "internal/abi.NoEscape"], unfollowed := true, recurses := true, apart := false }
def ModesTextsSaid : Prop := modesTextsRow.holds Try.pinned (OpenSpec.ofChange modesTextsSpec)

/-- ITS FALSE NEIGHBOUR: 'it returns false'. Refute it at one input. -/
def modesTextsWrong : ChangeSpec := { name := "modesTexts", fn := fun _ => fun
  | [d] => { results := [.lit (.bool false)], args := [d] }
  | _ => none }
def ModesTextsWrongFalsely : Prop := modesTextsRow.holds Try.pinned (OpenSpec.ofChange modesTextsWrong)

/-- 'rollcalllaw18.ModesBack': WHATEVER THE INPUT: true; the input reads as it did. -/
def modesBackSpec : ChangeSpec := { name := "modesBack", fn := fun _ => fun
  | [d] => { results := [.lit (.bool true)], args := [d] }
  | _ => none }
def modesBackRow : OpenClaim := { program := "ytodnbkggkdadkaa", sum := "09296ab22c9ab87b869956d445ac6f9e9e0fd179c656b62be67402b07a8cffb2", func := "rollcall/rollcalllaw18.ModesBack", spec := "modesBack", inPlace := ["internal/bytealg.IndexByteString", "internal/abi.NoEscape"], unfollowed := true, recurses := true, apart := false }
def ModesBackSaid : Prop := modesBackRow.holds Try.pinned (OpenSpec.ofChange modesBackSpec)

/-- ITS FALSE NEIGHBOUR: 'it returns false'. Refute it at one input. -/
def modesBackWrong : ChangeSpec := { name := "modesBack", fn := fun _ => fun
  | [d] => { results := [.lit (.bool false)], args := [d] }
  | _ => none }
def ModesBackWrongFalsely : Prop := modesBackRow.holds Try.pinned (OpenSpec.ofChange modesBackWrong)

/- THE SECOND FORM. 'bulk': how many values and letters a reading holds, each counted each time it is reached (what is shared counts as often as it is met; a slice's spare places count too). A statement '..UptoSaid' is the law's where the arguments, and the package variables that the reading takes, are together of bulk at most 1048576: NARROWER than '..Said'. Prove '..Said' where nothing that the law and all that it calls make is longer than what came in: it says more and counts as full. Else prove '..UptoSaid'. A law counts once. -/
mutual
def uptoBulk {H : Type} : DataW H → Nat
  | .lit (.string bytes) => bytes.length + 1
  | .lit _ => 1
  | .nil => 1
  | .ptr d => uptoBulk d + 1
  | .slice elems spare => uptoBulkAll elems + uptoBulkAll spare + 1
  | .agg parts => uptoBulkAll parts + 1
  | .iface _ d => uptoBulk d + 1
  | .map entries => uptoBulkEntries entries + 1
  | .held _ => 1
def uptoBulkAll {H : Type} : List (DataW H) → Nat
  | [] => 0
  | d :: r => uptoBulk d + uptoBulkAll r
def uptoBulkEntries {H : Type} : List (Lit × DataW H) → Nat
  | [] => 0
  | x :: r => uptoBulkEntry x + uptoBulkEntries r
def uptoBulkEntry {H : Type} : Lit × DataW H → Nat
  | (.string bytes, d) => bytes.length + uptoBulk d + 1
  | (_, d) => uptoBulk d + 1
 end
def uptoSmall : (H : Type) → List (DataW H) → Bool := fun _ ds => decide (uptoBulkAll ds ≤ 1048576)
def OpenSpec.upto (s : _root_.Go.ChangeSpec) : _root_.Go.OpenSpec := { _root_.Go.OpenSpec.ofChange s with cond := some uptoSmall }

/-- 'rollcalllaw22.PersonHidden', WHERE WHAT IT READS IS OF BULK AT MOST 1048576: true; the input reads as it did. -/
def personHiddenUptoRow : OpenClaim := { program := "ytodnbkggkdadkaa", sum := "09296ab22c9ab87b869956d445ac6f9e9e0fd179c656b62be67402b07a8cffb2", func := "rollcall/rollcalllaw22.PersonHidden", spec := "personHidden", apart := false, narrowed := true }
def PersonHiddenUptoSaid : Prop := personHiddenUptoRow.holds Try.pinned (OpenSpec.upto personHiddenSpec)

/-- 'rollcalllaw05.FrameFeeds', WHERE WHAT IT READS IS OF BULK AT MOST 1048576: true; the input reads as it did. -/
def frameFeedsUptoRow : OpenClaim := { program := "ytodnbkggkdadkaa", sum := "09296ab22c9ab87b869956d445ac6f9e9e0fd179c656b62be67402b07a8cffb2", func := "rollcall/rollcalllaw05.FrameFeeds", spec := "frameFeeds", apart := false, narrowed := true }
def FrameFeedsUptoSaid : Prop := frameFeedsUptoRow.holds Try.pinned (OpenSpec.upto frameFeedsSpec)

/-- 'rollcalllaw05.FrameLong', WHERE WHAT IT READS IS OF BULK AT MOST 1048576: true; the input reads as it did. -/
def frameLongUptoRow : OpenClaim := { program := "ytodnbkggkdadkaa", sum := "09296ab22c9ab87b869956d445ac6f9e9e0fd179c656b62be67402b07a8cffb2", func := "rollcall/rollcalllaw05.FrameLong", spec := "frameLong", apart := false, narrowed := true }
def FrameLongUptoSaid : Prop := frameLongUptoRow.holds Try.pinned (OpenSpec.upto frameLongSpec)

/-- 'rollcalllaw05.FrameEnds', WHERE WHAT IT READS IS OF BULK AT MOST 1048576: true; the input reads as it did. -/
def frameEndsUptoRow : OpenClaim := { program := "ytodnbkggkdadkaa", sum := "09296ab22c9ab87b869956d445ac6f9e9e0fd179c656b62be67402b07a8cffb2", func := "rollcall/rollcalllaw05.FrameEnds", spec := "frameEnds", apart := false, narrowed := true }
def FrameEndsUptoSaid : Prop := frameEndsUptoRow.holds Try.pinned (OpenSpec.upto frameEndsSpec)

/-- 'rollcalllaw05.FrameLines', WHERE WHAT IT READS IS OF BULK AT MOST 1048576: true; the input reads as it did. -/
def frameLinesUptoRow : OpenClaim := { program := "ytodnbkggkdadkaa", sum := "09296ab22c9ab87b869956d445ac6f9e9e0fd179c656b62be67402b07a8cffb2", func := "rollcall/rollcalllaw05.FrameLines", spec := "frameLines", unfollowed := true, recurses := true, apart := false, narrowed := true }
def FrameLinesUptoSaid : Prop := frameLinesUptoRow.holds Try.pinned (OpenSpec.upto frameLinesSpec)

/-- 'rollcalllaw18.ModesParses', WHERE WHAT IT READS IS OF BULK AT MOST 1048576: true; the input reads as it did. -/
def modesParsesUptoRow : OpenClaim := { program := "ytodnbkggkdadkaa", sum := "09296ab22c9ab87b869956d445ac6f9e9e0fd179c656b62be67402b07a8cffb2", func := "rollcall/rollcalllaw18.ModesParses", spec := "modesParses", inPlace := ["internal/bytealg.IndexByteString"], unfollowed := true, recurses := true, apart := false, narrowed := true }
def ModesParsesUptoSaid : Prop := modesParsesUptoRow.holds Try.pinned (OpenSpec.upto modesParsesSpec)

/-- 'rollcalllaw18.ModesSeq', WHERE WHAT IT READS IS OF BULK AT MOST 1048576: true; the input reads as it did. -/
def modesSeqUptoRow : OpenClaim := { program := "ytodnbkggkdadkaa", sum := "09296ab22c9ab87b869956d445ac6f9e9e0fd179c656b62be67402b07a8cffb2", func := "rollcall/rollcalllaw18.ModesSeq", spec := "modesSeq", inPlace := ["internal/bytealg.IndexByteString"], unfollowed := true, recurses := true, apart := false, narrowed := true }
def ModesSeqUptoSaid : Prop := modesSeqUptoRow.holds Try.pinned (OpenSpec.upto modesSeqSpec)

/-- 'rollcalllaw15.ConfigChecks', WHERE WHAT IT READS IS OF BULK AT MOST 1048576: true; the input reads as it did. -/
def configChecksUptoRow : OpenClaim := { program := "ytodnbkggkdadkaa", sum := "09296ab22c9ab87b869956d445ac6f9e9e0fd179c656b62be67402b07a8cffb2", func := "rollcall/rollcalllaw15.ConfigChecks", spec := "configChecks", inPlace := ["internal/bytealg.IndexByteString"], apart := false, narrowed := true }
def ConfigChecksUptoSaid : Prop := configChecksUptoRow.holds Try.pinned (OpenSpec.upto configChecksSpec)

/-- 'rollcalllaw15.ConfigBounds', WHERE WHAT IT READS IS OF BULK AT MOST 1048576: true; the input reads as it did. -/
def configBoundsUptoRow : OpenClaim := { program := "ytodnbkggkdadkaa", sum := "09296ab22c9ab87b869956d445ac6f9e9e0fd179c656b62be67402b07a8cffb2", func := "rollcall/rollcalllaw15.ConfigBounds", spec := "configBounds", inPlace := ["internal/bytealg.IndexByteString"], apart := false, narrowed := true }
def ConfigBoundsUptoSaid : Prop := configBoundsUptoRow.holds Try.pinned (OpenSpec.upto configBoundsSpec)

/-- 'rollcalllaw18.ModesTexts', WHERE WHAT IT READS IS OF BULK AT MOST 1048576: true; the input reads as it did. -/
def modesTextsUptoRow : OpenClaim := { program := "ytodnbkggkdadkaa", sum := "09296ab22c9ab87b869956d445ac6f9e9e0fd179c656b62be67402b07a8cffb2", func := "rollcall/rollcalllaw18.ModesTexts", spec := "modesTexts", inPlace := ["internal/bytealg.IndexByteString", "internal/abi.NoEscape"], unfollowed := true, recurses := true, apart := false, narrowed := true }
def ModesTextsUptoSaid : Prop := modesTextsUptoRow.holds Try.pinned (OpenSpec.upto modesTextsSpec)

/-- 'rollcalllaw18.ModesBack', WHERE WHAT IT READS IS OF BULK AT MOST 1048576: true; the input reads as it did. -/
def modesBackUptoRow : OpenClaim := { program := "ytodnbkggkdadkaa", sum := "09296ab22c9ab87b869956d445ac6f9e9e0fd179c656b62be67402b07a8cffb2", func := "rollcall/rollcalllaw18.ModesBack", spec := "modesBack", inPlace := ["internal/bytealg.IndexByteString", "internal/abi.NoEscape"], unfollowed := true, recurses := true, apart := false, narrowed := true }
def ModesBackUptoSaid : Prop := modesBackUptoRow.holds Try.pinned (OpenSpec.upto modesBackSpec)

end Rows
end Go.Proofs.Ytodnbkggkdadkaa
