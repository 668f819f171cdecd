import Derived.Test.YtliknfpdgppjkaaGreatDoorRmP
set_option linter.all false
namespace Go.Proofs.YtliknfpdgppjkaaGreatDoor
open Go.Vx Go.Lib
/-! a nil room -/
section
set_option maxRecDepth 20000
set_option synthInstance.maxSize 100000
set_option synthInstance.maxHeartbeats 4000000
variable {K : Value → St → Prop} {w0 w : World} {H R R1 : List SL} {ds : List Deferred} {id : Int} {op on all : Bool} {le : UInt8} {arg s who key : List UInt8}
instance nat_ok [o : Hv w0 H w] : Step (Cl P 39 #[.pointer none, .int .i64 id] K ⟨w, ds⟩) (∀ w', Hv w0 H w' → K (.tuple #[.int .i64 0, .bool false]) ⟨w', ds⟩) := ⟨fun h => by
  refine s39 ?_
  unfold D39
  repeat' (first | refine go ?_ | intro _ | refine ⟨sb, ?_⟩ | refine ⟨sd, ?_⟩ | (refine ⟨fun h1 => ?_, fun h1 => ?_⟩ <;> first | exact ab h1 | ((try rw [h1]); (try simp only [bl] at h1))) | dsimp only)
  all_goals first
    | exact h _ (Sub.hv subEnd)
    | (exfalso; simp at *; done)⟩
instance nAdd_ok [o : Hv w0 H w] : Step (Cl P 27 #[.pointer none, .int .i64 id, .bool op] K ⟨w, ds⟩) (∀ w', Hv w0 H w' → K (.tuple #[]) ⟨w', ds⟩) := ⟨fun h => by
  refine s27 ?_
  unfold D27
  repeat' (first | refine go ?_ | intro _ | refine ⟨sb, ?_⟩ | refine ⟨sd, ?_⟩ | (refine ⟨fun h1 => ?_, fun h1 => ?_⟩ <;> first | exact ab h1 | ((try rw [h1]); (try simp only [bl] at h1))) | dsimp only)
  all_goals first
    | exact h _ (Sub.hv subEnd)
    | (exfalso; simp at *; done)⟩
instance nSetTopic_ok [o : Hv w0 H w] : Step (Cl P 28 #[.pointer none, str s] K ⟨w, ds⟩) (∀ w', Hv w0 H w' → K (.tuple #[]) ⟨w', ds⟩) := ⟨fun h => by
  refine s28 ?_
  unfold D28
  repeat' (first | refine go ?_ | intro _ | refine ⟨sb, ?_⟩ | refine ⟨sd, ?_⟩ | (refine ⟨fun h1 => ?_, fun h1 => ?_⟩ <;> first | exact ab h1 | ((try rw [h1]); (try simp only [bl] at h1))) | dsimp only)
  all_goals first
    | exact h _ (Sub.hv subEnd)
    | (exfalso; simp at *; done)⟩
instance nInvite_ok [o : Hv w0 H w] : Step (Cl P 29 #[.pointer none, .int .i64 id] K ⟨w, ds⟩) (∀ w', Hv w0 H w' → K (.tuple #[]) ⟨w', ds⟩) := ⟨fun h => by
  refine s29 ?_
  unfold D29
  repeat' (first | refine go ?_ | intro _ | refine ⟨sb, ?_⟩ | refine ⟨sd, ?_⟩ | (refine ⟨fun h1 => ?_, fun h1 => ?_⟩ <;> first | exact ab h1 | ((try rw [h1]); (try simp only [bl] at h1))) | dsimp only)
  all_goals first
    | exact h _ (Sub.hv subEnd)
    | (exfalso; simp at *; done)⟩
instance nMember_ok [o : Hv w0 H w] : Step (Cl P 14 #[.pointer none, .int .i64 id] K ⟨w, ds⟩) (∀ w', Hv w0 H w' → K (.tuple #[memV (0, false, false), .bool false]) ⟨w', ds⟩) := ⟨fun h => by
  refine s14 ?_
  unfold D14
  repeat' (first | refine go ?_ | intro _ | refine ⟨sb, ?_⟩ | refine ⟨sd, ?_⟩ | (refine ⟨fun h1 => ?_, fun h1 => ?_⟩ <;> first | exact ab h1 | ((try rw [h1]); (try simp only [bl] at h1))) | dsimp only)
  all_goals first
    | exact h _ (Sub.hv subEnd)
    | (exfalso; simp at *; done)⟩
instance nChange_ok [o : Hv w0 H w] : Step (Cl P 15 #[.pointer none, .agg #[.bool on, byteV le, str arg], .int .i64 id] K ⟨w, ds⟩) (∀ w', Hv w0 H w' → K (.tuple #[chV noC, .int .i64 403]) ⟨w', ds⟩) := ⟨fun h => by
  refine s15 ?_
  unfold D15
  repeat' (first | refine go ?_ | intro _ | refine ⟨sb, ?_⟩ | refine ⟨sd, ?_⟩ | (refine ⟨fun h1 => ?_, fun h1 => ?_⟩ <;> first | exact ab h1 | ((try rw [h1]); (try simp only [bl] at h1))) | dsimp only)
  all_goals first
    | exact h _ (Sub.hv subEnd)
    | (exfalso; simp at *; done)⟩
instance nDrop_ok [o : Hv w0 H w] : Step (Cl P 30 #[.pointer none, .int .i64 id] K ⟨w, ds⟩) (∀ w', Hv w0 H w' → K (.bool false) ⟨w', ds⟩) := ⟨fun h => by
  refine s30 ?_
  unfold D30
  repeat' (first | refine go ?_ | intro _ | refine ⟨sb, ?_⟩ | refine ⟨sd, ?_⟩ | (refine ⟨fun h1 => ?_, fun h1 => ?_⟩ <;> first | exact ab h1 | ((try rw [h1]); (try simp only [bl] at h1))) | dsimp only)
  all_goals first
    | exact h _ (Sub.hv subEnd)
    | (exfalso; simp at *; done)⟩
instance nName_ok [o : Hv w0 H w] : Step (Cl P 20 #[.pointer none] K ⟨w, ds⟩) (∀ w', Hv w0 H w' → K (str []) ⟨w', ds⟩) := ⟨fun h => by
  refine s20 ?_
  unfold D20
  repeat' (first | refine go ?_ | intro _ | refine ⟨sb, ?_⟩ | refine ⟨sd, ?_⟩ | (refine ⟨fun h1 => ?_, fun h1 => ?_⟩ <;> first | exact ab h1 | ((try rw [h1]); (try simp only [bl] at h1))) | dsimp only)
  all_goals first
    | exact h _ (Sub.hv subEnd)
    | (exfalso; simp at *; done)⟩
instance nTopic_ok [o : Hv w0 H w] : Step (Cl P 21 #[.pointer none] K ⟨w, ds⟩) (∀ w', Hv w0 H w' → K (str []) ⟨w', ds⟩) := ⟨fun h => by
  refine s21 ?_
  unfold D21
  repeat' (first | refine go ?_ | intro _ | refine ⟨sb, ?_⟩ | refine ⟨sd, ?_⟩ | (refine ⟨fun h1 => ?_, fun h1 => ?_⟩ <;> first | exact ab h1 | ((try rw [h1]); (try simp only [bl] at h1))) | dsimp only)
  all_goals first
    | exact h _ (Sub.hv subEnd)
    | (exfalso; simp at *; done)⟩
instance nLen_ok [o : Hv w0 H w] : Step (Cl P 46 #[.pointer none] K ⟨w, ds⟩) (∀ w', Hv w0 H w' → K (.int .i64 0) ⟨w', ds⟩) := ⟨fun h => by
  refine s46 ?_
  unfold D46
  repeat' (first | refine go ?_ | intro _ | refine ⟨sb, ?_⟩ | refine ⟨sd, ?_⟩ | (refine ⟨fun h1 => ?_, fun h1 => ?_⟩ <;> first | exact ab h1 | ((try rw [h1]); (try simp only [bl] at h1))) | dsimp only)
  all_goals first
    | exact h _ (Sub.hv subEnd)
    | (exfalso; simp at *; done)⟩
instance nFlag_ok [o : Hv w0 H w] : Step (Cl P 23 #[.pointer none, byteV le] K ⟨w, ds⟩) (∀ w', Hv w0 H w' → K (.bool false) ⟨w', ds⟩) := ⟨fun h => by
  refine s23 ?_
  unfold D23
  repeat' (first | refine go ?_ | intro _ | refine ⟨sb, ?_⟩ | refine ⟨sd, ?_⟩ | (refine ⟨fun h1 => ?_, fun h1 => ?_⟩ <;> first | exact ab h1 | ((try rw [h1]); (try simp only [bl] at h1))) | dsimp only)
  all_goals first
    | exact h _ (Sub.hv subEnd)
    | (exfalso; simp at *; done)⟩
instance nModes_ok [o : Hv w0 H w] : Step (Cl P 12 #[.pointer none, .bool all] K ⟨w, ds⟩) (∀ w', Hv w0 H w' → K (.slice none 0 0) ⟨w', ds⟩) := ⟨fun h => by
  refine s12 ?_
  unfold D12
  repeat' (first | refine go ?_ | intro _ | refine ⟨sb, ?_⟩ | refine ⟨sd, ?_⟩ | (refine ⟨fun h1 => ?_, fun h1 => ?_⟩ <;> first | exact ab h1 | ((try rw [h1]); (try simp only [bl] at h1))) | dsimp only)
  all_goals first
    | exact h _ (Sub.hv subEnd)
    | (exfalso; simp at *; done)⟩
instance nMayJoin_ok [o : Hv w0 H w] : Step (Cl P 31 #[.pointer none, .int .i64 id, str who, str key] K ⟨w, ds⟩) (∀ w', Hv w0 H w' → K (.int .i64 403) ⟨w', ds⟩) := ⟨fun h => by
  refine s31 ?_
  unfold D31
  repeat' (first | refine go ?_ | intro _ | refine ⟨sb, ?_⟩ | refine ⟨sd, ?_⟩ | (refine ⟨fun h1 => ?_, fun h1 => ?_⟩ <;> first | exact ab h1 | ((try rw [h1]); (try simp only [bl] at h1))) | dsimp only)
  all_goals first
    | exact h _ (Sub.hv subEnd)
    | (exfalso; simp at *; done)⟩
instance nMaySpeak_ok [o : Hv w0 H w] : Step (Cl P 25 #[.pointer none, .int .i64 id, str who] K ⟨w, ds⟩) (∀ w', Hv w0 H w' → K (.bool false) ⟨w', ds⟩) := ⟨fun h => by
  refine s25 ?_
  unfold D25
  repeat' (first | refine go ?_ | intro _ | refine ⟨sb, ?_⟩ | refine ⟨sd, ?_⟩ | (refine ⟨fun h1 => ?_, fun h1 => ?_⟩ <;> first | exact ab h1 | ((try rw [h1]); (try simp only [bl] at h1))) | dsimp only)
  all_goals first
    | exact h _ (Sub.hv subEnd)
    | (exfalso; simp at *; done)⟩
instance nBans_ok [o : Hv w0 H w] : Step (Cl P 38 #[.pointer none] K ⟨w, ds⟩) (∀ w', Hv w0 H w' → K (.func (.func 63) #[] #[]) ⟨w', ds⟩) := ⟨fun h => by
  refine s38 ?_
  unfold D38
  repeat' (first | refine go ?_ | intro _ | refine ⟨sb, ?_⟩ | refine ⟨sd, ?_⟩ | (refine ⟨fun h1 => ?_, fun h1 => ?_⟩ <;> first | exact ab h1 | ((try rw [h1]); (try simp only [bl] at h1))) | dsimp only)
  all_goals first
    | exact h _ (Sub.hv subEnd)
    | (exfalso; simp at *; done)⟩
instance nMembers_ok [o : Hv w0 H w] : Step (Cl P 45 #[.pointer none] K ⟨w, ds⟩) (∀ w', Hv w0 H w' → K (.func (.func 77) #[] #[]) ⟨w', ds⟩) := ⟨fun h => by
  refine s45 ?_
  unfold D45
  repeat' (first | refine go ?_ | intro _ | refine ⟨sb, ?_⟩ | refine ⟨sd, ?_⟩ | (refine ⟨fun h1 => ?_, fun h1 => ?_⟩ <;> first | exact ab h1 | ((try rw [h1]); (try simp only [bl] at h1))) | dsimp only)
  all_goals first
    | exact h _ (Sub.hv subEnd)
    | (exfalso; simp at *; done)⟩
end
end Go.Proofs.YtliknfpdgppjkaaGreatDoor

