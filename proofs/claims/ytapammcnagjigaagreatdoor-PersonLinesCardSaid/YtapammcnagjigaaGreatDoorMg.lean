import Derived.Test.YtapammcnagjigaaGreatDoorMf
set_option linter.all false
namespace Go.Proofs.YtapammcnagjigaaGreatDoor
open Go.Vx Go.Lib
/-! reading a line -/
section
variable {K : Value → St → Prop} {w0 w : World} {H R : List SL} {ds : List Deferred} {l : List UInt8}
end
end Go.Proofs.YtapammcnagjigaaGreatDoor

