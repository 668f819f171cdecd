import Derived.Test.YtliknfpdgppjkaaGreatDoorRmR
set_option linter.all false
namespace Go.Proofs.YtliknfpdgppjkaaGreatDoor
open Go.Vx Go.Lib
section
set_option maxRecDepth 20000
set_option synthInstance.maxSize 100000
set_option synthInstance.maxHeartbeats 4000000
instance {k id : Int} {op : Bool} {s : List UInt8} {on : Bool} {le : UInt8} {arg : List UInt8} : Encs encA [.int .i64 k, .int .i64 id, .bool op, str s, .bool on, byteV le, str arg] [⟨k, id, op, s, on, le, arg⟩] := ⟨rfl⟩
theorem rnone_ok {w : World} [tb : PowT w] (k id : Int) (op : Bool) (s : List UInt8) (on : Bool) (le : UInt8) (arg : List UInt8) : Calls P 6 #[.agg #[.int .i64 k, .int .i64 id, .bool op, str s, .bool on, byteV le, str arg]] w fun e w' => e = .returned (.bool true) ∧ Hv w [] w' := by
  have o := Hv.begin w
  refine law_of ?_
  refine s6 ?_
  unfold D6
  repeat' (first | refine go ?_ | intro _ | refine ⟨sb, ?_⟩ | refine ⟨sd, ?_⟩ | (refine ⟨fun h1 => ?_, fun h1 => ?_⟩ <;> first | exact ab h1 | ((try rw [h1]); (try simp only [bl] at h1))) | dsimp only)
  · exact ⟨rfl, Sub.hv subEnd⟩
  exact ⟨rfl, Sub.hv subEnd⟩
end
end Go.Proofs.YtliknfpdgppjkaaGreatDoor

