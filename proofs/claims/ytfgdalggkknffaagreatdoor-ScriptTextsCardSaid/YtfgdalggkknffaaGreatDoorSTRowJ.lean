/- rollcalllaw28.ScriptTexts returns true for every input, where the package-level variables read as the program lays them. No other condition. -/
import Derived.Test.YtfgdalggkknffaaGreatDoorRows
import Derived.Test.YtfgdalggkknffaaGreatDoorCards
import Derived.Lay
import Derived.LaidOnce
import Derived.LaidMore
import Derived.Stop.Joined
import Derived.Stop.LaidErr
import Derived.SevenTiedAt
import Derived.ProofKit
import Derived.OpenShut
import Derived.ChangeOld
import Derived.SizedLaws
set_option linter.all false
namespace Go.Proofs.YtfgdalggkknffaaGreatDoor.scriptTexts
open Go.ChangeShapes Go.WideShapes Go.ChangeAt Go.RowKit
open Go.ChangeMaps (open_string)
set_option maxRecDepth 100000
theorem no_goes : Tryz.prog.funcs.any Func.goes = false := by kernel_rfl
theorem goes_each {P : Program} (h : P.funcs.any Func.goes = false) (f : FuncId) : P.goes f = false := by
  have each : ∀ g : Nat, (P.funcs[g]?).any Func.goes = false := fun g => by
    cases hg : P.funcs[g]? with
    | none => rfl
    | some fn =>
      have hm := Array.mem_of_getElem? hg
      show Func.goes fn = false
      cases hf : Func.goes fn with
      | false => rfl
      | true => exact absurd (Array.any_eq_true'.2 ⟨fn, hm, hf⟩) (by rw [h]; decide)
  unfold Program.goes
  rw [h, Bool.and_false, Bool.or_false, List.any_eq_false]
  intro g _
  rw [each g]; decide
theorem goes_by {P : Program} (h : P.funcs.any Func.goes = false) (c : OpenClaim) : false = c.goesBy P := by
  have hg := goes_each h
  have e : ∀ o : Option FuncId, o.any P.goes = false := fun o => by cases o with | none => rfl | some f => exact hg f
  unfold OpenClaim.goesBy Program.goesAt Program.goesFrom
  rw [e, Bool.false_or]
  split
  · rfl
  · symm; rw [List.any_eq_false]; intro f _; rw [hg f]; decide
theorem goes : false = Rows.scriptTextsRow.goesBy Tryz.prog := goes_by no_goes _
end Go.Proofs.YtfgdalggkknffaaGreatDoor.scriptTexts

