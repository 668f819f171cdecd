import Derived.Test.YtapammcnagjigaaGreatDoorMi
set_option linter.all false
namespace Go.Proofs.YtapammcnagjigaaGreatDoor
open Go.Vx Go.Lib
end Go.Proofs.YtapammcnagjigaaGreatDoor

