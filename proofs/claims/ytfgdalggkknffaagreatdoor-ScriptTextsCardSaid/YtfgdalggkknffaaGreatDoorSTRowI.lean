/- rollcalllaw28.ScriptTexts returns true for every input, where the package-level variables read as the program lays them. No other condition. -/
import Derived.Test.YtfgdalggkknffaaGreatDoorRows
import Derived.Test.YtfgdalggkknffaaGreatDoorCards
import Derived.Lay
import Derived.LaidOnce
import Derived.LaidMore
import Derived.Stop.Joined
import Derived.Stop.LaidErr
import Derived.SevenTiedAt
import Derived.ProofKit
import Derived.OpenShut
import Derived.ChangeOld
import Derived.SizedLaws
set_option linter.all false
namespace Go.Proofs.YtfgdalggkknffaaGreatDoor.scriptTexts
open Go.ChangeShapes Go.WideShapes Go.ChangeAt Go.RowKit
open Go.ChangeMaps (open_string)
set_option maxRecDepth 100000
theorem j9 : (Rows.scriptTextsRow.plainKeys == Tryz.prog.plainKeys) = true := by kernel_rfl
end Go.Proofs.YtfgdalggkknffaaGreatDoor.scriptTexts

