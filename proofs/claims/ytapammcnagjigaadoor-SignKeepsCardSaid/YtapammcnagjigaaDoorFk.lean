import Derived.Test.YtapammcnagjigaaDoorFw
import Derived.Test.YtapammcnagjigaaDoorEng
set_option linter.all false
namespace Go.Proofs.YtapammcnagjigaaDoor
open Go.Vx
theorem laidB : laidOutB Tryd.prog = true := by kernel_rfl
theorem rowedB : mapsRowed Tryd.prog = true := by kernel_rfl
def sized (P : Program) : Bool := (List.range P.types.size).all fun t => match P.underlying t with | some (.slice e) => Nat.blt 0 (P.cellsOf e) | _ => true
theorem sizedB : sized Tryd.prog = true := by kernel_rfl
theorem sizedT {t e : TypeId} (h : t < Tryd.prog.types.size) (hu : Tryd.prog.underlying t = some (.slice e)) : 0 < Tryd.prog.cellsOf e := by
  have := List.all_eq_true.1 sizedB t (List.mem_range.2 h)
  simp only [hu] at this
  simpa using this
theorem kids : Kids Tryd.prog (· < Tryd.prog.types.size) := kids_rows laidB rowedB
end Go.Proofs.YtapammcnagjigaaDoor

