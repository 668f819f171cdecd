/- The ties of this seat's laid variables, in parts: each by the kernel. No condition. -/
import Derived.Test.YtfgdalggkknffaaGreatDoorTiL
set_option linter.all false
namespace Go.Proofs.YtfgdalggkknffaaGreatDoor
open Go
set_option maxRecDepth 100000
theorem tie_hroot : Tryz.prog.worded rootWordLater = true := by kernel_rfl
theorem tie_hg : (Tryz.prog.funcNamed "gosem.cut.vars").isSome = true := by kernel_rfl
end Go.Proofs.YtfgdalggkknffaaGreatDoor

