import Derived.Test.YtfgdalggkknffaaGreatDoorFw
import Derived.Test.YtfgdalggkknffaaGreatDoorEng
set_option linter.all false
namespace Go.Proofs.YtfgdalggkknffaaGreatDoor
open Go.Vx
theorem laidB : laidOutB Tryz.prog = true := by kernel_rfl
theorem rowedB : mapsRowed Tryz.prog = true := by kernel_rfl
def sized (P : Program) : Bool := (List.range P.types.size).all fun t => match P.underlying t with | some (.slice e) => Nat.blt 0 (P.cellsOf e) | _ => true
theorem sizedB : sized Tryz.prog = true := by kernel_rfl
theorem sizedT {t e : TypeId} (h : t < Tryz.prog.types.size) (hu : Tryz.prog.underlying t = some (.slice e)) : 0 < Tryz.prog.cellsOf e := by
  have := List.all_eq_true.1 sizedB t (List.mem_range.2 h)
  simp only [hu] at this
  simpa using this
theorem kids : Kids Tryz.prog (· < Tryz.prog.types.size) := kids_rows laidB rowedB
end Go.Proofs.YtfgdalggkknffaaGreatDoor

