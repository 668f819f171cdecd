import Derived.Test.YtapammcnagjigaaDoorTaB
set_option linter.all false
namespace Go.Proofs.YtapammcnagjigaaDoor
end Go.Proofs.YtapammcnagjigaaDoor
