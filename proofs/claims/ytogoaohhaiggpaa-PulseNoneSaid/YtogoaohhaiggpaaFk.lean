import Derived.Test.YtogoaohhaiggpaaFw
import Derived.Test.YtogoaohhaiggpaaEng
set_option linter.all false
namespace Go.Proofs.Ytogoaohhaiggpaa
open Go.Vx
theorem laidB : laidOutB Try.prog = true := by kernel_rfl
theorem rowedB : mapsRowed Try.prog = true := by kernel_rfl
def sized (P : Program) : Bool := (List.range P.types.size).all fun t => match P.underlying t with | some (.slice e) => Nat.blt 0 (P.cellsOf e) | _ => true
theorem sizedB : sized Try.prog = true := by kernel_rfl
theorem sizedT {t e : TypeId} (h : t < Try.prog.types.size) (hu : Try.prog.underlying t = some (.slice e)) : 0 < Try.prog.cellsOf e := by
  have := List.all_eq_true.1 sizedB t (List.mem_range.2 h)
  simp only [hu] at this
  simpa using this
theorem kids : Kids Try.prog (· < Try.prog.types.size) := kids_rows laidB rowedB
end Go.Proofs.Ytogoaohhaiggpaa

