import Derived.Test.YtliknfpdgppjkaaGreatDoorRmN
set_option linter.all false
namespace Go.Proofs.YtliknfpdgppjkaaGreatDoor
open Go.Vx Go.Lib
/-! the same, done to both -/
abbrev Act.c (a : Act) : Chg := (a.on, a.le, a.arg)
def Rm.act (x : Rm) (a : Act) : Rm := if a.k = 1 then x.drop a.id else if a.k = 2 then x.setTopic a.s else if a.k = 3 then x.invite a.id else if a.k = 4 then (x.change a.c a.id).1 else x.add a.id a.op
def Rf.act (x : Rf) (a : Act) : Rf := if a.k = 1 then x.drop a.id else if a.k = 2 then { x with topic := (cleanS a.s).take 200 } else if a.k = 3 then { x with gs := x.gs ++ [a.id] } else if a.k = 4 then (x.change a.c a.id).1 else x.add a.id a.op
def actB (x : Rm) (y : Rf) (a : Act) : Bool := if a.k = 1 then x.has a.id == decide (0 ≤ y.at a.id) else if a.k = 4 then decide ((x.change a.c a.id).2 = (y.change a.c a.id).2) else true
section
set_option maxRecDepth 20000
set_option synthInstance.maxSize 100000
set_option synthInstance.maxHeartbeats 4000000
variable {K : Value → St → Prop} {w0 w : World} {H R R1 : List SL} {ds : List Deferred} {p q : Nat} {x : Rm} {y : Rf} {k id : Int} {op on : Bool} {s arg : List UInt8} {le : UInt8}
instance act_ok [o : Hv w0 H w] [i : InK roomR p H x R1] [j : InK refR q R1 y R] : Step (Cl P 11 #[.pointer (some ⟨p, 0, none⟩), .pointer (some ⟨q, 0, none⟩), .agg #[.int .i64 k, .int .i64 id, .bool op, str s, .bool on, byteV le, str arg]] K ⟨w, ds⟩)
    (((x.fit ∧ y.fit ∧ ∀ b ∈ y.bans, b.length ≤ 100) ∧ s.length ≤ 250 ∧ arg.length ≤ 250) ∧ ∀ w', Hv w0 (roomR p (x.act ⟨k, id, op, s, on, le, arg⟩) :: refR q (y.act ⟨k, id, op, s, on, le, arg⟩) :: R) w' → K (.bool (actB x y ⟨k, id, op, s, on, le, arg⟩)) ⟨w', ds⟩) := ⟨fun ⟨⟨⟨hf, hg, hb⟩, hs, ha⟩, h⟩ => by
  have o1 : Hv w0 (roomR p x :: refR q y :: R) w := Sub.hv (o := i.hv o) (subK rfl (subK rfl subEnd))
  clear o
  refine s11 ?_
  unfold D11
  repeat' (first | refine go ?_ | intro _ | refine ⟨sb, ?_⟩ | refine ⟨sd, ?_⟩ | (refine ⟨fun h1 => ?_, fun h1 => ?_⟩ <;> first | exact ab h1 | ((try rw [h1]); (try simp only [bl] at h1))) | dsimp only)
  · rw [show x.act ⟨k, id, op, s, on, le, arg⟩ = x.drop id from if_pos h1, show y.act ⟨k, id, op, s, on, le, arg⟩ = y.drop id from if_pos h1, show actB x y ⟨k, id, op, s, on, le, arg⟩ = (x.has id == decide (0 ≤ y.at id)) from if_pos h1] at h
    exact h _ (Sub.hv (subK rfl (subK rfl subEnd)))
  · rename_i w2 o2
    obtain ⟨vm, vb, vg, o3⟩ := ref_open ((inferInstance : InK refR q _ y _).hv o2)
    clear o2
    have ex : x.act ⟨k, id, op, s, on, le, arg⟩ = x.setTopic s := by unfold Rm.act; simp only [h1]; rfl
    have ey : y.act ⟨k, id, op, s, on, le, arg⟩ = { y with topic := (cleanS s).take 200 } := by unfold Rf.act; simp only [h1]; rfl
    have eb : actB x y ⟨k, id, op, s, on, le, arg⟩ = true := by unfold actB; simp only [h1]; rfl
    rw [ex, ey, eb] at h
    repeat' (first | refine go ?_ | intro _ | refine ⟨sb, ?_⟩ | refine ⟨sd, ?_⟩ | (refine ⟨fun h1 => ?_, fun h1 => ?_⟩ <;> first | exact ab h1 | ((try rw [h1]); (try simp only [bl] at h1))) | dsimp only)
    exact h _ (Sub.hv (subK rfl (subRefR ⟨rfl, rfl, rfl, rfl, rfl, rfl⟩ rfl rfl rfl rfl rfl rfl subEnd)))
  · rename_i w2 o2
    obtain ⟨vm, vb, vg, o3⟩ := ref_open ((inferInstance : InK refR q _ y _).hv o2)
    clear o2
    have g3 := hg.c
    have ex : x.act ⟨k, id, op, s, on, le, arg⟩ = x.invite id := by unfold Rm.act; simp only [h1]; rfl
    have ey : y.act ⟨k, id, op, s, on, le, arg⟩ = { y with gs := y.gs ++ [id] } := by unfold Rf.act; simp only [h1]; rfl
    have eb : actB x y ⟨k, id, op, s, on, le, arg⟩ = true := by unfold actB; simp only [h1]; rfl
    rw [ex, ey, eb] at h
    repeat' (first | refine go ?_ | intro _ | refine ⟨sb, ?_⟩ | refine ⟨sd, ?_⟩ | (refine ⟨fun h1 => ?_, fun h1 => ?_⟩ <;> first | exact ab h1 | ((try rw [h1]); (try simp only [bl] at h1))) | dsimp only)
    refine And.intro ?_ ?_
    · repeat' (first | refine go ?_ | intro _ | refine ⟨sb, ?_⟩ | refine ⟨sd, ?_⟩ | (refine ⟨fun h1 => ?_, fun h1 => ?_⟩ <;> first | exact ab h1 | ((try rw [h1]); (try simp only [bl] at h1))) | dsimp only)
      refine And.intro ?_ ?_
      · repeat' (first | refine go ?_ | intro _ | refine ⟨sb, ?_⟩ | refine ⟨sd, ?_⟩ | (refine ⟨fun h1 => ?_, fun h1 => ?_⟩ <;> first | exact ab h1 | ((try rw [h1]); (try simp only [bl] at h1))) | dsimp only)
        exact h _ (Sub.hv (subK rfl (subRefR ⟨rfl, rfl, rfl, rfl, rfl, rfl⟩ rfl rfl rfl rfl (by simp) (by simp) subEnd)))
      · repeat' (first | refine go ?_ | intro _ | refine ⟨sb, ?_⟩ | refine ⟨sd, ?_⟩ | (refine ⟨fun h1 => ?_, fun h1 => ?_⟩ <;> first | exact ab h1 | ((try rw [h1]); (try simp only [bl] at h1))) | dsimp only)
        exact h _ (Sub.hv (subK rfl (subRefR ⟨rfl, rfl, rfl, rfl, rfl, rfl⟩ rfl rfl rfl rfl (by simp) (by simp) subEnd)))
    · repeat' (first | refine go ?_ | intro _ | refine ⟨sb, ?_⟩ | refine ⟨sd, ?_⟩ | (refine ⟨fun h1 => ?_, fun h1 => ?_⟩ <;> first | exact ab h1 | ((try rw [h1]); (try simp only [bl] at h1))) | dsimp only)
      exact h _ (Sub.hv (subK rfl (subRefR ⟨rfl, rfl, rfl, rfl, rfl, rfl⟩ rfl rfl rfl rfl (by simp) (by simp) subEnd)))
  · have ex : x.act ⟨k, id, op, s, on, le, arg⟩ = (x.change (on, le, arg) id).1 := by unfold Rm.act; simp only [h1]; rfl
    have ey : y.act ⟨k, id, op, s, on, le, arg⟩ = (y.change (on, le, arg) id).1 := by unfold Rf.act; simp only [h1]; rfl
    have eb : actB x y ⟨k, id, op, s, on, le, arg⟩ = decide ((x.change (on, le, arg) id).2 = (y.change (on, le, arg) id).2) := by unfold actB; simp only [h1]; rfl
    rw [ex, ey, eb] at h
    refine cast (congrArg (fun b => K (.bool b) _) ?_) (h _ (Sub.hv (subK rfl (subK rfl subEnd))))
    clear h
    generalize (x.change (on, le, arg) id).2 = c1
    generalize (y.change (on, le, arg) id).2 = c2
    obtain ⟨⟨a1, a2, a3⟩, a4⟩ := c1
    obtain ⟨⟨d1, d2, d3⟩, d4⟩ := c2
    rw [Bool.eq_iff_iff]
    simp [and_assoc]
  · have ex : x.act ⟨k, id, op, s, on, le, arg⟩ = x.add id op := by unfold Rm.act; simp [*]
    have ey : y.act ⟨k, id, op, s, on, le, arg⟩ = y.add id op := by unfold Rf.act; simp [*]
    have eb : actB x y ⟨k, id, op, s, on, le, arg⟩ = true := by unfold actB; simp [*]
    rw [ex, ey, eb] at h
    exact h _ (Sub.hv (subK rfl (subK rfl subEnd)))⟩
end
end Go.Proofs.YtliknfpdgppjkaaGreatDoor

