import Derived.Test.YtapammcnagjigaaDoorTaI
set_option linter.all false
namespace Go.Proofs.YtapammcnagjigaaDoor
open Go.Vx Go.Lib
theorem awT : parseT [97, 61, 98, 92, 115, 99, 59, 43, 100] = ([([97], [98, 32, 99]), ([43, 100], [])], 0) := by decide +kernel
theorem goP_few (ps : List (List UInt8)) : ∀ out, (goP out ps).1.length ≤ 16 := by
  induction ps with
  | nil => intro out; rw [goP]; split <;> simp; omega
  | cons p ps ih => intro out; rw [goP]; split
                    · simp
                    · exact ih _
theorem parse_few (l : List UInt8) : (parseT l).1.length ≤ 16 := goP_few _ _
section
variable {K : Value → St → Prop} {w0 w : World} {H R : List SL} {ds : List Deferred}
end
end Go.Proofs.YtapammcnagjigaaDoor
