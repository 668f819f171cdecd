import Derived.Test.YtgcomleicnblhaaGreatDoorQPulA
set_option linter.all false
namespace Go.Proofs.YtgcomleicnblhaaGreatDoor.Pl
open Go.Vx
/-! who is still there, in memory -/
structure Pst where
  (ping grace reg : Int)
  last : Int → Option Int
  (late ask dead : Tst)
abbrev Tst.stop (x : Tst) (k : Int) : Tst := (x.1, updF x.2 k none)
abbrev Tst.set (x : Tst) (k a : Int) : Tst := (x.1 + 1, updF x.2 k (some a))
def Pst.leave (x : Pst) (id : Int) : Pst := { x with last := updF x.last id none, late := x.late.stop id, ask := x.ask.stop id, dead := x.dead.stop id }
def Pst.join (x : Pst) (id now : Int) : Pst := { x.leave id with last := updF (x.leave id).last id (some now), late := (x.leave id).late.set id (now + x.reg) }
def Pst.reg1 (x : Pst) (id now : Int) : Pst := if (x.last id).isSome then { x with late := x.late.stop id, last := updF x.last id (some now), ask := x.ask.set id (now + x.ping), dead := x.dead.set id (now + x.ping + x.grace) } else x
def Pst.line (x : Pst) (id now : Int) : Pst := if (x.dead.2 id).isSome then x.reg1 id now else x
/-- Numbers as they may be. -/
structure Pst.fit (x : Pst) : Prop where
  a : x.late.1 ≤ 300000000 ∧ x.ask.1 ≤ 300000000 ∧ x.dead.1 ≤ 300000000
  b : 0 ≤ x.ping ∧ x.ping ≤ 1000000000000 ∧ 0 ≤ x.grace ∧ x.grace ≤ 1000000000000 ∧ 0 ≤ x.reg ∧ x.reg ≤ 1000000000000
section
set_option maxRecDepth 20000
set_option synthInstance.maxSize 100000
set_option synthInstance.maxHeartbeats 4000000
def pulA (p : Nat) (x : Pst) (q : Nat × Nat × Nat × Nat) : SL := many [box p 175 [.int .i64 x.ping, .int .i64 x.grace, .int .i64 x.reg, .map (some q.1), .pointer (some ⟨q.2.1, 0, none⟩), .pointer (some ⟨q.2.2.1, 0, none⟩), .pointer (some ⟨q.2.2.2, 0, none⟩)],
  mpf q.1 intV (tmap x.last), tabR q.2.1 x.late, tabR q.2.2.1 x.ask, tabR q.2.2.2 x.dead]
def pulR (p : Nat) (x : Pst) : SL := any (pulA p x)
variable {K : Value → St → Prop} {w0 w : World} {H R : List SL} {ds : List Deferred} {p : Nat} {x : Pst} {id now : Int}
theorem pul_open (h : Hv w0 (pulR p x :: R) w) : ∃ m t1 t2 t3, Hv w0 (box p 175 [.int .i64 x.ping, .int .i64 x.grace, .int .i64 x.reg, .map (some m), .pointer (some ⟨t1, 0, none⟩), .pointer (some ⟨t2, 0, none⟩), .pointer (some ⟨t3, 0, none⟩)] ::
    mpf m intV (tmap x.last) :: tabR t1 x.late :: tabR t2 x.ask :: tabR t3 x.dead :: R) w := by
  obtain ⟨⟨m, t1, t2, t3⟩, h1⟩ := h.pick
  exact ⟨m, t1, t2, t3, h1.opens⟩
theorem subPul {H' R1 R2 R3 R4 R5 G : List SL} {m t1 t2 t3 : Nat} {a b c : Int} {g : Int → Option Value} {l2 a2 d2 : Tst} {x : Pst} [hb : BoxIn H' p 175 [.int .i64 a, .int .i64 b, .int .i64 c, .map (some m), .pointer (some ⟨t1, 0, none⟩), .pointer (some ⟨t2, 0, none⟩), .pointer (some ⟨t3, 0, none⟩)] R1] [hm : MpfIn R1 m intV g R2]
    [h1 : InK tabR t1 R2 l2 R3] [h2 : InK tabR t2 R3 a2 R4] [h3 : InK tabR t3 R4 d2 R5] (e1 : a = x.ping ∧ b = x.grace ∧ c = x.reg) (e2 : g = tmap x.last) (e3 : l2 = x.late) (e4 : a2 = x.ask) (e5 : d2 = x.dead) (k : Sub R5 G) : Sub H' (pulR p x :: G) := by
  obtain ⟨rfl, rfl, rfl⟩ := e1
  exact Sub.any (A := pulA p x) (m, t1, t2, t3) (Sub.many (subBox rfl (subMpf e2 (subK e3 (subK e4 (subK e5 k))))))
instance pnew_ok {s0 s1 s2 s3 : List UInt8} {n0 n1 n2 n3 n4 n5 n6 n7 a b c : Int} [o : Hv w0 H w] : Step (Cl P 46 #[.agg #[str s0, str s1, str s2, str s3, .int .i64 n0, .int .i64 n1, .int .i64 n2, .int .i64 n3, .int .i64 n4, .int .i64 n5, .int .i64 n6, .int .i64 n7, .int .i64 a, .int .i64 b, .int .i64 c]] K ⟨w, ds⟩)
    (∀ p w', Hv w0 (pulR p ⟨max a 1, max b 1, max c 1, fun _ => none, (0, fun _ => none), (0, fun _ => none), (0, fun _ => none)⟩ :: H) w' → K (.pointer (some ⟨p, 0, none⟩)) ⟨w', ds⟩) := ⟨fun h => by
  refine s46 ?_
  unfold D46
  repeat' (first | refine go ?_ | intro _ | refine ⟨sb, ?_⟩ | refine ⟨sd, ?_⟩ | (refine ⟨fun h1 => ?_, fun h1 => ?_⟩ <;> first | exact ab h1 | ((try rw [h1]); (try simp only [bl] at h1))) | refine And.intro (?_ : Cl _ _ _ _ _) ?_ | refine And.intro (?_ : Mm _ _ _ _ _) ?_ | dsimp only)
  all_goals exact h _ _ (Sub.hv (subPul ⟨rfl, rfl, rfl⟩ rfl rfl rfl rfl subEnd))⟩
instance pleave_ok [o : Hv w0 H w] [i : InK pulR p H x R] : Step (Cl P 105 #[.pointer (some ⟨p, 0, none⟩), .int .i64 id] K ⟨w, ds⟩) (x.fit ∧ ∀ v w', Hv w0 (pulR p (x.leave id) :: R) w' → K v ⟨w', ds⟩) := ⟨fun ⟨hf, h⟩ => by
  obtain ⟨⟨f1, f2, f3⟩, _⟩ := hf
  obtain ⟨m, t1, t2, t3, o1⟩ := pul_open (i.hv o)
  clear o
  refine s105 ?_
  unfold D105
  repeat' (first | refine go ?_ | intro _ | refine ⟨sb, ?_⟩ | refine ⟨sd, ?_⟩ | (refine ⟨fun h1 => ?_, fun h1 => ?_⟩ <;> first | exact ab h1 | ((try rw [h1]); (try simp only [bl] at h1))) | dsimp only)
  exact h _ _ (Sub.hv (subPul ⟨rfl, rfl, rfl⟩ (tmap_upd _ _ none) rfl rfl rfl subEnd))⟩
instance pjoin_ok [o : Hv w0 H w] [i : InK pulR p H x R] : Step (Cl P 51 #[.pointer (some ⟨p, 0, none⟩), .int .i64 id, .int .i64 now] K ⟨w, ds⟩) ((x.fit ∧ 0 ≤ now ∧ now ≤ 1000000000000) ∧ ∀ v w', Hv w0 (pulR p (x.join id now) :: R) w' → K v ⟨w', ds⟩) := ⟨fun ⟨⟨hf, n1, n2⟩, h⟩ => by
  have o0 := i.hv o
  clear o
  refine s51 ?_
  unfold D51
  repeat (first | refine go ?_ | intro _ | refine ⟨sb, ?_⟩ | refine ⟨sd, ?_⟩ | dsimp only)
  rename_i u w1 o1
  obtain ⟨⟨f1, f2, f3⟩, g1, g2, g3, g4, g5, g6⟩ := hf
  obtain ⟨m, t1, t2, t3, o2⟩ := pul_open o1
  clear o0 o1
  have e1 : (x.leave id).reg = x.reg := rfl
  have e2 : (x.leave id).late.1 = x.late.1 := rfl
  repeat' (first | refine go ?_ | intro _ | refine ⟨sb, ?_⟩ | refine ⟨sd, ?_⟩ | (refine ⟨fun h1 => ?_, fun h1 => ?_⟩ <;> first | exact ab h1 | ((try rw [h1]); (try simp only [bl] at h1))) | dsimp only)
  exact h _ _ (Sub.hv (subPul ⟨rfl, rfl, rfl⟩ (tmap_upd _ _ (some now)) rfl rfl rfl subEnd))⟩
theorem isSome_map (o : Option Int) : (o.map intV).isSome = o.isSome := by cases o <;> rfl
theorem x_same (h : Hv w0 (pulR p x :: R) w) {y : Pst} (e : y = x) : Hv w0 (pulR p y :: R) w := by rw [e]; exact h
instance preg_ok [o : Hv w0 H w] [i : InK pulR p H x R] : Step (Cl P 60 #[.pointer (some ⟨p, 0, none⟩), .int .i64 id, .int .i64 now] K ⟨w, ds⟩) ((x.fit ∧ 0 ≤ now ∧ now ≤ 1000000000000) ∧ ∀ v w', Hv w0 (pulR p (x.reg1 id now) :: R) w' → K v ⟨w', ds⟩) := ⟨fun ⟨⟨hf, n1, n2⟩, h⟩ => by
  obtain ⟨⟨f1, f2, f3⟩, g1, g2, g3, g4, g5, g6⟩ := hf
  obtain ⟨m, t1, t2, t3, o1⟩ := pul_open (i.hv o)
  clear o
  refine s60 ?_
  unfold D60
  repeat' (first | refine go ?_ | intro _ | refine ⟨sb, ?_⟩ | refine ⟨sd, ?_⟩ | (refine ⟨fun h1 => ?_, fun h1 => ?_⟩ <;> first | exact ab h1 | ((try rw [h1]); (try simp only [bl] at h1))) | dsimp only)
  · rw [isSome_map] at h1
    refine h _ _ (x_same (x := x) (Sub.hv (subPul ⟨rfl, rfl, rfl⟩ rfl rfl rfl rfl subEnd)) ?_)
    unfold Pst.reg1; rw [if_neg (by simp [h1])]
  · rw [isSome_map] at h1
    have e : x.reg1 id now = { x with late := x.late.stop id, last := updF x.last id (some now), ask := x.ask.set id (now + x.ping), dead := x.dead.set id (now + x.ping + x.grace) } := by unfold Pst.reg1; rw [if_pos h1]
    rw [e] at h
    exact h _ _ (Sub.hv (subPul ⟨rfl, rfl, rfl⟩ (tmap_upd _ _ (some now)) rfl rfl rfl subEnd))⟩
instance pline_ok [o : Hv w0 H w] [i : InK pulR p H x R] : Step (Cl P 152 #[.pointer (some ⟨p, 0, none⟩), .int .i64 id, .int .i64 now] K ⟨w, ds⟩) ((x.fit ∧ 0 ≤ now ∧ now ≤ 1000000000000) ∧ ∀ v w', Hv w0 (pulR p (x.line id now) :: R) w' → K v ⟨w', ds⟩) := ⟨fun ⟨⟨hf, n1, n2⟩, h⟩ => by
  obtain ⟨m, t1, t2, t3, o1⟩ := pul_open (i.hv o)
  clear o
  refine s152 ?_
  unfold D152
  repeat' (first | refine go ?_ | intro _ | refine ⟨sb, ?_⟩ | refine ⟨sd, ?_⟩ | (refine ⟨fun h1 => ?_, fun h1 => ?_⟩ <;> first | exact ab h1 | ((try rw [h1]); (try simp only [bl] at h1))) | dsimp only)
  · rename_i w1 o2
    have o3 : Hv w0 (pulR p x :: R) w1 := Sub.hv (subPul ⟨rfl, rfl, rfl⟩ rfl rfl rfl rfl subEnd)
    clear o1 o2
    have e : x.line id now = x.reg1 id now := by unfold Pst.line; rw [if_pos h1]
    rw [e] at h
    repeat' (first | refine go ?_ | intro _ | refine ⟨sb, ?_⟩ | refine ⟨sd, ?_⟩ | (refine ⟨fun h1 => ?_, fun h1 => ?_⟩ <;> first | exact ab h1 | ((try rw [h1]); (try simp only [bl] at h1))) | dsimp only)
    exact h _ _ (Sub.hv (subK rfl subEnd))
  · refine h _ _ (x_same (x := x) (Sub.hv (subPul ⟨rfl, rfl, rfl⟩ rfl rfl rfl rfl subEnd)) ?_)
    unfold Pst.line; rw [if_neg (by simp [h1])]⟩
end
end Go.Proofs.YtgcomleicnblhaaGreatDoor.Pl

