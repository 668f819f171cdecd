/- The ties of this seat's laid variables, in parts: each by the kernel. No condition. -/
import Derived.Test.YtfgdalggkknffaaGreatDoorTiL
set_option linter.all false
namespace Go.Proofs.YtfgdalggkknffaaGreatDoor
open Go
set_option maxRecDepth 100000
theorem tie_h1 : ∀ os tape, (DataW.laidRun Tryz.prog (varsWorld Tryz.prog 400 (varsId Tryz.prog) os tape).memory 8 (tieL.map (·.1))).map (·.1) = some tieL := fun _ _ => by kernel_rfl
end Go.Proofs.YtfgdalggkknffaaGreatDoor

