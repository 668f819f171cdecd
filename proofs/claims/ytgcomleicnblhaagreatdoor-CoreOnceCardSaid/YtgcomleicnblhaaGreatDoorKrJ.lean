import Derived.Test.YtgcomleicnblhaaGreatDoorKrI
set_option linter.all false
namespace Go.Proofs.YtgcomleicnblhaaGreatDoor
open Go.Vx Go.Lib
/-! a new server -/
def Cs.new (c : Cfg) : Cs := ⟨c, 0, fun _ => none, 0, ⟨1000, []⟩, ⟨c, max 0 (min c.rooms 1000), [], .new (max 0 (min c.joined 1000))⟩, .new c.mon, .new c.watch, ⟨c.was, 0, []⟩, ⟨max c.ping 1, max c.grace 1, max c.reg 1, fun _ => none, (0, fun _ => none), (0, fun _ => none), (0, fun _ => none)⟩, []⟩
theorem check_was {c : Cfg} (h : checkS c = 0) : 0 ≤ c.was ∧ c.was ≤ 1000 := by
  unfold checkS at h
  split at h
  · cases h
  split at h
  · rename_i hb
    have := List.all_eq_true.1 hb (c.was, 0, 1000) (by simp [bnds])
    simp [okB] at this; omega
  · cases h
section
set_option maxRecDepth 20000
set_option synthInstance.maxSize 100000
set_option synthInstance.maxHeartbeats 4000000
variable {K : Value → St → Prop} {w0 w : World} {H R : List SL} {ds : List Deferred} {p n : Nat} {v : Value} {l : List UInt8} {z id : Int} {a b c d : List UInt8} {n4 n5 n6 n7 n8 n9 n10 n11 n12 n13 n14 : Int}
instance wasNew_ok [o : Hv w0 H w] : Step (Cl P 43 #[.int .i64 z] K ⟨w, ds⟩) ((0 ≤ z ∧ z ≤ 100000) ∧ ∀ p w', Hv w0 (wasR p ⟨z, 0, []⟩ :: H) w' → K (.tuple #[.pointer (some ⟨p, 0, none⟩), .int .i64 0]) ⟨w', ds⟩) := ⟨fun ⟨hz, h⟩ => by
  refine s43 ?_
  unfold D43
  repeat' (first | refine go ?_ | intro _ | refine ⟨sb, ?_⟩ | refine ⟨sd, ?_⟩ | (refine ⟨fun h1 => ?_, fun h1 => ?_⟩ <;> first | exact ab h1 | ((try rw [h1]); (try simp only [bl] at h1))) | dsimp only)
  · exfalso; omega
  rename_i q w3 o3
  have o4 := Hv.nilRow 253 11 o3
  exact h _ _ (Sub.hv (o := o4) (Sub.any (A := wasA q ⟨z, 0, []⟩) (.slice none 0 0) (Sub.many (subBox rfl (subRow rfl rfl subEnd)))))⟩
instance bkrNew_ok [o : Hv w0 H w] : Step (Cl P 116 #[.int .i64 z] K ⟨w, ds⟩) ((0 ≤ z ∧ z ≤ 100000) ∧ ∀ p w', Hv w0 (box p 230 [.int .i64 z, .slice none 0 0] :: row 341 2 (.slice none 0 0) 0 [] :: H) w' → K (.tuple #[.pointer (some ⟨p, 0, none⟩), .int .i64 0]) ⟨w', ds⟩) := ⟨fun ⟨hz, h⟩ => by
  refine s116 ?_
  unfold D116
  repeat' (first | refine go ?_ | intro _ | refine ⟨sb, ?_⟩ | refine ⟨sd, ?_⟩ | (refine ⟨fun h1 => ?_, fun h1 => ?_⟩ <;> first | exact ab h1 | ((try rw [h1]); (try simp only [bl] at h1))) | dsimp only)
  · exfalso; omega
  rename_i q w3 o3
  have o4 := Hv.nilRow 341 2 o3
  exact h _ _ (Sub.hv (o := o4) (subBox rfl (subRow rfl rfl subEnd)))⟩
instance roomsNew_ok [o : Hv w0 H w] : Step (Cl P 44 #[.agg #[str a, str b, str c, str d, .int .i64 n4, .int .i64 n5, .int .i64 n6, .int .i64 n7, .int .i64 n8, .int .i64 n9, .int .i64 n10, .int .i64 n11, .int .i64 n12, .int .i64 n13, .int .i64 n14]] K ⟨w, ds⟩)
    (∀ p w', Hv w0 (roomsR p ⟨⟨a, b, c, d, n4, n5, n6, n7, n8, n9, n10, n11, n12, n13, n14⟩, max 0 (min n7 1000), [], .new (max 0 (min n6 1000))⟩ :: H) w' → K (.pointer (some ⟨p, 0, none⟩)) ⟨w', ds⟩) := ⟨fun h => by
  have e1 : 0 ≤ max 0 (min n7 1000) ∧ max 0 (min n7 1000) ≤ 100000 := by omega
  have e2 : 0 ≤ max 0 (min n6 1000) ∧ max 0 (min n6 1000) ≤ 100000 := by omega
  refine s44 ?_
  unfold D44
  repeat' (first | refine go ?_ | intro _ | refine ⟨sb, ?_⟩ | refine ⟨sd, ?_⟩ | (refine ⟨fun h1 => ?_, fun h1 => ?_⟩ <;> first | exact ab h1 | ((try rw [h1]); (try simp only [bl] at h1))) | dsimp only)
  refine h _ _ (Sub.hv (Sub.any (A := roomsA _ _) (_, _, .slice none 0 0) (Sub.many (subBox rfl (subBox rfl (subRow rfl rfl (subK rfl (Sub.many (L := []) subEnd))))))))⟩
theorem subMap0 {α β : Type} [DecidableEq α] {H' R G : List SL} {m : Nat} {f : α → Value} {F : Nat → β → SL} [r : MpnIn H' m f (fun _ => none) 0 R] (k : Sub R G) : Sub H' (mapO m f F (fun _ : α => none) 0 :: G) := ⟨fun {S w} h => by
  obtain ⟨S', h1, h2⟩ := (Sub.cons k).sub (r.perm h)
  refine ⟨S', h1, ?_⟩
  obtain ⟨S1, S2, a1, a2, a3, a4⟩ := h2
  refine ⟨S1, S2, a1, a2, ?_, a4⟩
  refine ⟨[], emp, S1, fun b => ⟨.inr, fun h => h.elim (fun h => h.elim) id⟩, fun b h => h.elim, ⟨fun k h => h, List.nodup_nil, fun k => rfl⟩, S1, emp, fun b => ⟨.inl, fun h => h.elim id fun h => h.elim⟩, fun b _ h => h, a3, emp, emp, fun b => ⟨.inl, fun h => h.elim id id⟩, fun b h => h.elim, fun b h => h, fun b h => h⟩⟩
instance coreNew_ok [o : Hv w0 H w] : Step (Cl P 7 #[.agg #[str a, str b, str c, str d, .int .i64 n4, .int .i64 n5, .int .i64 n6, .int .i64 n7, .int .i64 n8, .int .i64 n9, .int .i64 n10, .int .i64 n11, .int .i64 n12, .int .i64 n13, .int .i64 n14]] K ⟨w, ds⟩)
    (((a.length ≤ 1000000000 ∧ b.length ≤ 1000000000 ∧ c.length ≤ 1000000000 ∧ d.length ≤ 1000000000) ∧ checkS ⟨a, b, c, d, n4, n5, n6, n7, n8, n9, n10, n11, n12, n13, n14⟩ = 0) ∧
    ∀ p w', Hv w0 (coreR p (.new ⟨a, b, c, d, n4, n5, n6, n7, n8, n9, n10, n11, n12, n13, n14⟩) :: H) w' → K (.tuple #[.pointer (some ⟨p, 0, none⟩), .int .i64 0]) ⟨w', ds⟩) := ⟨fun ⟨⟨⟨ha, hb, hc, hd⟩, hq⟩, h⟩ => by
  have hw := check_was hq
  dsimp only at hw
  refine s7 ?_
  unfold D7
  have fin : ∀ (w' : World) (p m r mo wa pa pu hh : Nat), Hv w0 (coreB p ⟨a, b, c, d, n4, n5, n6, n7, n8, n9, n10, n11, n12, n13, n14⟩ 0 ⟨m, hh, r, mo, wa, pa, pu, .slice none 0 0⟩ ::
    mapO m intV connR (fun _ => none) 0 :: bookR hh ⟨1000, []⟩ :: roomsR r ⟨⟨a, b, c, d, n4, n5, n6, n7, n8, n9, n10, n11, n12, n13, n14⟩, max 0 (min n7 1000), [], .new (max 0 (min n6 1000))⟩ :: wishR mo (.new n10) :: wishR wa (.new n9) :: wasR pa ⟨n11, 0, []⟩ :: Pl.pulR pu ⟨max n12 1, max n13 1, max n14 1, fun _ => none, (0, fun _ => none), (0, fun _ => none), (0, fun _ => none)⟩ :: row 3 1 (.slice none 0 0) 0 [] :: H) w' → K (.tuple #[.pointer (some ⟨p, 0, none⟩), .int .i64 0]) ⟨w', ds⟩ := fun w' p m r mo wa pa pu hh o => h _ _ (core_shut (x := .new ⟨a, b, c, d, n4, n5, n6, n7, n8, n9, n10, n11, n12, n13, n14⟩) (q := ⟨m, hh, r, mo, wa, pa, pu, .slice none 0 0⟩) o)
  repeat' (first | refine go ?_ | intro _ | refine ⟨sb, ?_⟩ | refine ⟨sd, ?_⟩ | (refine ⟨fun h1 => ?_, fun h1 => ?_⟩ <;> first | exact ab h1 | ((try rw [h1]); (try simp only [bl] at h1))) | dsimp only)
  · exact absurd hq h1
  refine And.intro ?_ ?_
  · repeat' (first | refine go ?_ | intro _ | refine ⟨sb, ?_⟩ | refine ⟨sd, ?_⟩ | (refine ⟨fun h1 => ?_, fun h1 => ?_⟩ <;> first | exact ab h1 | ((try rw [h1]); (try simp only [bl] at h1))) | dsimp only)
    rename_i wl ol
    have o9 := Hv.nilRow 3 1 ol
    exact fin _ _ _ _ _ _ _ _ _ (Sub.hv (o := o9) (subBox rfl (subMap0 (subK rfl (subK rfl (subK rfl (subK rfl (subK rfl (subK rfl (subRow rfl rfl subEnd))))))))))
  repeat' (first | refine go ?_ | intro _ | refine ⟨sb, ?_⟩ | refine ⟨sd, ?_⟩ | (refine ⟨fun h1 => ?_, fun h1 => ?_⟩ <;> first | exact ab h1 | ((try rw [h1]); (try simp only [bl] at h1))) | dsimp only)
  refine And.intro ?_ ?_
  · repeat' (first | refine go ?_ | intro _ | refine ⟨sb, ?_⟩ | refine ⟨sd, ?_⟩ | (refine ⟨fun h1 => ?_, fun h1 => ?_⟩ <;> first | exact ab h1 | ((try rw [h1]); (try simp only [bl] at h1))) | dsimp only)
    rename_i wl ol
    have o9 := Hv.nilRow 3 1 ol
    exact fin _ _ _ _ _ _ _ _ _ (Sub.hv (o := o9) (subBox rfl (subMap0 (subK rfl (subK rfl (subK rfl (subK rfl (subK rfl (subK rfl (subRow rfl rfl subEnd))))))))))
  repeat' (first | refine go ?_ | intro _ | refine ⟨sb, ?_⟩ | refine ⟨sd, ?_⟩ | (refine ⟨fun h1 => ?_, fun h1 => ?_⟩ <;> first | exact ab h1 | ((try rw [h1]); (try simp only [bl] at h1))) | dsimp only)
  refine And.intro ?_ ?_
  · repeat' (first | refine go ?_ | intro _ | refine ⟨sb, ?_⟩ | refine ⟨sd, ?_⟩ | (refine ⟨fun h1 => ?_, fun h1 => ?_⟩ <;> first | exact ab h1 | ((try rw [h1]); (try simp only [bl] at h1))) | dsimp only)
    rename_i wl ol
    have o9 := Hv.nilRow 3 1 ol
    exact fin _ _ _ _ _ _ _ _ _ (Sub.hv (o := o9) (subBox rfl (subMap0 (subK rfl (subK rfl (subK rfl (subK rfl (subK rfl (subK rfl (subRow rfl rfl subEnd))))))))))
  repeat' (first | refine go ?_ | intro _ | refine ⟨sb, ?_⟩ | refine ⟨sd, ?_⟩ | (refine ⟨fun h1 => ?_, fun h1 => ?_⟩ <;> first | exact ab h1 | ((try rw [h1]); (try simp only [bl] at h1))) | dsimp only)
  refine And.intro ?_ ?_
  · repeat' (first | refine go ?_ | intro _ | refine ⟨sb, ?_⟩ | refine ⟨sd, ?_⟩ | (refine ⟨fun h1 => ?_, fun h1 => ?_⟩ <;> first | exact ab h1 | ((try rw [h1]); (try simp only [bl] at h1))) | dsimp only)
    rename_i wl ol
    have o9 := Hv.nilRow 3 1 ol
    exact fin _ _ _ _ _ _ _ _ _ (Sub.hv (o := o9) (subBox rfl (subMap0 (subK rfl (subK rfl (subK rfl (subK rfl (subK rfl (subK rfl (subRow rfl rfl subEnd))))))))))
  repeat' (first | refine go ?_ | intro _ | refine ⟨sb, ?_⟩ | refine ⟨sd, ?_⟩ | (refine ⟨fun h1 => ?_, fun h1 => ?_⟩ <;> first | exact ab h1 | ((try rw [h1]); (try simp only [bl] at h1))) | dsimp only)
  rename_i wl ol
  have o9 := Hv.nilRow 3 1 ol
  exact fin _ _ _ _ _ _ _ _ _ (Sub.hv (o := o9) (subBox rfl (subMap0 (subK rfl (subK rfl (subK rfl (subK rfl (subK rfl (subK rfl (subRow rfl rfl subEnd))))))))))⟩
end
end Go.Proofs.YtgcomleicnblhaaGreatDoor

