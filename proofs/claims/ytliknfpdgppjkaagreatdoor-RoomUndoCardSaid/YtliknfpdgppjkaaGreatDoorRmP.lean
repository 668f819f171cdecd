import Derived.Test.YtliknfpdgppjkaaGreatDoorRmO
set_option linter.all false
namespace Go.Proofs.YtliknfpdgppjkaaGreatDoor
open Go.Vx Go.Lib
/-! what the document tells -/
section
set_option maxRecDepth 20000
set_option synthInstance.maxSize 100000
set_option synthInstance.maxHeartbeats 4000000
variable {K : Value → St → Prop} {w0 w : World} {H R R1 : List SL} {ds : List Deferred}
theorem new_fit (n : List UInt8) (mb : Int) : (Rm.new n mb).fit := ⟨by simp [Rm.new], by simp [Rm.new], by simp [Rm.new]⟩
instance awake_ok [o : Hv w0 H w] [tb : PowT w0] : Step (Cl P 7 #[] K ⟨w, ds⟩) (∀ w', Hv w0 H w' → K (.bool true) ⟨w', ds⟩) := ⟨fun h => by
  have nf := new_fit [35, 97] 5
  refine s7 ?_
  unfold D7
  have hc : (Rm.new [35, 97] 5).change (true, 107, [120]) 0 = ({ Rm.new [35, 97] 5 with key := [120] }, (true, 107, [120]), 0) := by
    unfold Rm.change; rw [if_neg (by decide), if_neg (by decide), if_pos rfl]
    unfold Rm.lockC; rw [if_neg (by simp [Rm.new]; decide), if_pos rfl]
  have m0 : (Rm.new [35, 97] 5).modes true = [[43, 110, 116]] := by decide +kernel
  have m1 : ({ Rm.new [35, 97] 5 with key := [120] } : Rm).modes true = [[43, 107, 110, 116], [120]] := by decide +kernel
  have m2 : ({ Rm.new [35, 97] 5 with key := [120] } : Rm).modes false = [[43, 107, 110, 116], [42]] := by decide +kernel
  repeat' (first | refine go ?_ | intro _ | refine ⟨sb, ?_⟩ | refine ⟨sd, ?_⟩ | (refine ⟨fun h1 => ?_, fun h1 => ?_⟩ <;> first | exact ab h1 | ((try rw [h1]); (try simp only [bl] at h1))) | dsimp only)
  refine And.intro ⟨nf, by decide⟩ ?_
  rw [hc]
  intro w1 o1
  repeat' (first | refine go ?_ | intro _ | refine ⟨sb, ?_⟩ | refine ⟨sd, ?_⟩ | (refine ⟨fun h1 => ?_, fun h1 => ?_⟩ <;> first | exact ab h1 | ((try rw [h1]); (try simp only [bl] at h1))) | dsimp only)
  refine cast (congrArg (fun b => K (.bool b) _) ?_) (h _ (Sub.hv subEnd))
  exact (decide_eq_true m2).symm⟩
end
end Go.Proofs.YtliknfpdgppjkaaGreatDoor

