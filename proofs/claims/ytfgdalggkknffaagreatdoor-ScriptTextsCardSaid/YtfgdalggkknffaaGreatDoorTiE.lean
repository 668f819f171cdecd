/- The ties of this seat's laid variables, in parts: each by the kernel. No condition. -/
import Derived.Test.YtfgdalggkknffaaGreatDoorTiL
set_option linter.all false
namespace Go.Proofs.YtfgdalggkknffaaGreatDoor
open Go
set_option maxRecDepth 100000
theorem tie_hw : Tryz.prog.worded (varsWordLater true) = true := by kernel_rfl
theorem tie_hw2 : Tryz.prog.worded (varsWordLater !true) = false := by kernel_rfl
end Go.Proofs.YtfgdalggkknffaaGreatDoor

