import Derived.Test.YtogoaohhaiggpaaPulD
set_option linter.all false
namespace Go.Proofs.Ytogoaohhaiggpaa
open Go.Vx
/-! the document's pulse, in memory -/
abbrev Cn := Int × Int × Bool × Bool
abbrev encC (c : Cn) : List Value := [.int .i64 c.1, .int .i64 c.2.1, .bool c.2.2.1, .bool c.2.2.2]
instance : UEnc encC 4 := ⟨fun _ => rfl⟩
instance : EncTy 48 Cn encC 4 := ⟨fun _ => rfl⟩
instance {a b : Int} {c d : Bool} : Encs encC [.int .i64 a, .int .i64 b, .bool c, .bool d] [(a, b, c, d)] := ⟨rfl⟩
def atC (cs : List Cn) (id : Int) : Option Nat := cs.findIdx? fun c => decide (c.1 = id)
def leaveC (cs : List Cn) (id : Int) : List Cn := match atC cs id with | some i => cs.take i ++ cs.drop (i + 1) | none => cs
def joinC (cs : List Cn) (id now : Int) : List Cn := leaveC cs id ++ [(id, now, false, false)]
def regC (cs : List Cn) (id now : Int) : List Cn := match atC cs id with | some i => cs.set i (id, now, true, false) | none => cs
def lineC (cs : List Cn) (id now : Int) : List Cn := match atC cs id with | some i => if (cs.getD i default).2.2.1 then cs.set i (id, now, true, false) else cs | none => cs
def atZ (cs : List Cn) (id : Int) : Int := match atC cs id with | some i => i | none => -1
theorem atC_some {cs : List Cn} {id : Int} {i : Nat} (h : atC cs id = some i) : i < cs.length ∧ (cs.getD i default).1 = id := by
  obtain ⟨hl, h1, _⟩ := List.findIdx?_eq_some_iff_getElem.1 h
  exact ⟨hl, by simpa [List.getD_eq_getElem?_getD, hl] using h1⟩
section
set_option maxRecDepth 20000
set_option synthInstance.maxSize 100000
set_option synthInstance.maxHeartbeats 4000000
structure Rst where
  (ping grace reg : Int)
  cs : List Cn
def refA (r : Nat) (x : Rst) (v : Value) : SL := many [box r 37 [.int .i64 x.ping, .int .i64 x.grace, .int .i64 x.reg, v], row 48 4 v x.cs.length (x.cs.flatMap encC)]
def refR (r : Nat) (x : Rst) : SL := any (refA r x)
variable {K : Value → St → Prop} {w0 w : World} {H R : List SL} {ds : List Deferred} {r : Nat} {x : Rst} {id now : Int}
theorem ref_open (h : Hv w0 (refR r x :: R) w) : ∃ v, Hv w0 (box r 37 [.int .i64 x.ping, .int .i64 x.grace, .int .i64 x.reg, v] :: row 48 4 v x.cs.length (x.cs.flatMap encC) :: R) w := by
  obtain ⟨v, h1⟩ := h.pick
  exact ⟨v, h1.opens⟩
theorem subRef {H' R1 R2 G : List SL} {a b c : Int} {v : Value} {n : Nat} {xs : List Value} [hb : BoxIn H' r 37 [.int .i64 a, .int .i64 b, .int .i64 c, v] R1] [hr : RowIn R1 v 48 4 n xs R2]
    (e1 : a = x.ping ∧ b = x.grace ∧ c = x.reg) (e2 : n = x.cs.length) (e3 : xs = x.cs.flatMap encC) (k : Sub R2 G) : Sub H' (refR r x :: G) := by
  obtain ⟨rfl, rfl, rfl⟩ := e1
  exact Sub.any (A := refA r x) v (Sub.many (subBox rfl (subRow e2 e3 k)))
instance rat_ok [o : Hv w0 H w] [i : InK refR r H x R] : Step (Cl P 20 #[.pointer (some ⟨r, 0, none⟩), .int .i64 id] K ⟨w, ds⟩) (∀ w', Hv w0 (refR r x :: R) w' → K (.int .i64 (atZ x.cs id)) ⟨w', ds⟩) := ⟨fun h => by
  obtain ⟨v, o1⟩ := ref_open (i.hv o)
  clear o
  have hb := (show Rds w v 4 x.cs.length (x.cs.flatMap encC) from inferInstance).le
  simp only [maxLen] at hb
  refine s20 ?_
  unfold D20
  refine ⟨fun z s => ∃ (i : Nat) (w' : World), z = .int .i64 i ∧ s = ⟨w', []⟩ ∧ i ≤ x.cs.length ∧ (∀ j, j < i → (x.cs.getD j default).1 ≠ id) ∧ Hv w0 (box r 37 [.int .i64 x.ping, .int .i64 x.grace, .int .i64 x.reg, v] :: row 48 4 v x.cs.length (x.cs.flatMap encC) :: R) w',
    fun z s => match z with | .int _ z => x.cs.length - z.toNat | _ => 0, ⟨0, w, rfl, rfl, Nat.zero_le _, fun j hj => by omega, o1⟩, ?_⟩
  rintro z s ⟨i, w2, rfl, rfl, hi, hno, o2⟩
  clear o1
  rcases Nat.lt_or_ge i x.cs.length with hlt | hge
  · repeat' (first | refine go ?_ | intro _ | refine ⟨sb, ?_⟩ | refine ⟨sd, ?_⟩ | (refine ⟨fun h1 => ?_, fun h1 => ?_⟩ <;> first | exact ab h1 | ((try rw [h1]); (try simp only [bl] at h1))) | dsimp only)
    · have e : atC x.cs id = some i := List.findIdx?_eq_some_iff_getElem.2 ⟨hlt, by simpa [List.getD_eq_getElem?_getD, hlt] using h1, fun j hj => by
        have := hno j hj
        simpa [List.getD_eq_getElem?_getD, show j < x.cs.length by omega] using this⟩
      have e2 : atZ x.cs id = i := by unfold atZ; rw [e]
      rw [e2] at h
      exact h _ (Sub.hv (subRef ⟨rfl, rfl, rfl⟩ rfl rfl subEnd))
    · refine ⟨⟨i + 1, _, rfl, rfl, hlt, fun j hj => ?_, o2⟩, by simp; omega⟩
      rcases Nat.lt_or_ge j i with h2 | h2
      · exact hno j h2
      · obtain rfl : j = i := by omega
        exact h1
    · omega
  · repeat' (first | refine go ?_ | intro _ | refine ⟨sb, ?_⟩ | refine ⟨sd, ?_⟩ | (refine ⟨fun h1 => ?_, fun h1 => ?_⟩ <;> first | exact ab h1 | ((try rw [h1]); (try simp only [bl] at h1))) | dsimp only)
    · omega
    · have e : atC x.cs id = none := List.findIdx?_eq_none_iff.2 fun c hc => by
        obtain ⟨j, hj, rfl⟩ := List.getElem_of_mem hc
        have := hno j (by omega)
        simpa [List.getD_eq_getElem?_getD, hj] using this
      have e2 : atZ x.cs id = -1 := by unfold atZ; rw [e]
      rw [e2] at h
      exact h _ (Sub.hv (subRef ⟨rfl, rfl, rfl⟩ rfl rfl subEnd))⟩
theorem atZ_some {cs : List Cn} {id : Int} {i : Nat} (h : atC cs id = some i) : atZ cs id = i := by unfold atZ; rw [h]
theorem atZ_none {cs : List Cn} {id : Int} (h : atC cs id = none) : atZ cs id = -1 := by unfold atZ; rw [h]
instance rleave_ok [o : Hv w0 H w] [i : InK refR r H x R] : Step (Cl P 15 #[.pointer (some ⟨r, 0, none⟩), .int .i64 id] K ⟨w, ds⟩) (x.cs.length ≤ 1000000000 ∧ ∀ v w', Hv w0 (refR r { x with cs := leaveC x.cs id } :: R) w' → K v ⟨w', ds⟩) := ⟨fun ⟨hl, h⟩ => by
  have o0 := i.hv o
  clear o
  refine s15 ?_
  unfold D15
  repeat (first | refine go ?_ | intro _ | refine ⟨sb, ?_⟩ | refine ⟨sd, ?_⟩ | dsimp only)
  rename_i w1 o1
  obtain ⟨v, o2⟩ := ref_open o1
  clear o0 o1
  cases hc : atC x.cs id with
  | none =>
    rw [atZ_none hc]
    have e : leaveC x.cs id = x.cs := by unfold leaveC; rw [hc]
    rw [e] at h
    repeat' (first | refine go ?_ | intro _ | refine ⟨sb, ?_⟩ | refine ⟨sd, ?_⟩ | (refine ⟨fun h1 => ?_, fun h1 => ?_⟩ <;> first | exact ab h1 | ((try rw [h1]); (try simp only [bl] at h1))) | dsimp only)
    exact h _ _ (Sub.hv (subRef ⟨rfl, rfl, rfl⟩ rfl rfl subEnd))
  | some i =>
    obtain ⟨h2, h3⟩ := atC_some hc
    rw [atZ_some hc]
    have e : leaveC x.cs id = x.cs.take i ++ x.cs.drop (i + 1) := by unfold leaveC; rw [hc]
    rw [e] at h
    repeat' (first | refine go ?_ | intro _ | refine ⟨sb, ?_⟩ | refine ⟨sd, ?_⟩ | (refine ⟨fun h1 => ?_, fun h1 => ?_⟩ <;> first | exact ab h1 | ((try rw [h1]); (try simp only [bl] at h1))) | dsimp only)
    · refine h _ _ (Sub.hv (subRef ⟨rfl, rfl, rfl⟩ ?_ ?_ subEnd))
      · simp; omega
      · have e1 : (x.cs.flatMap encC).drop (0 * 4) = (x.cs.drop 0).flatMap encC := flat_drop (s := 4) (fun _ => rfl) _ _
        have e2 : (x.cs.flatMap encC).drop ((i + 1) * 4) = (x.cs.drop (i + 1)).flatMap encC := flat_drop (s := 4) (fun _ => rfl) _ _
        simp only [e1, e2, flat_take (s := 4) (enc := encC) (fun _ => rfl), List.flatMap_append, List.drop_zero, List.nil_append, Nat.sub_zero]
        rw [List.take_of_length_le (l := x.cs.drop (i + 1)) (by simp)]
    · omega⟩
instance rjoin_ok [o : Hv w0 H w] [i : InK refR r H x R] : Step (Cl P 18 #[.pointer (some ⟨r, 0, none⟩), .int .i64 id, .int .i64 now] K ⟨w, ds⟩) (x.cs.length ≤ 100000000 ∧ ∀ v w', Hv w0 (refR r { x with cs := joinC x.cs id now } :: R) w' → K v ⟨w', ds⟩) := ⟨fun ⟨hl, h⟩ => by
  have o0 := i.hv o
  clear o
  have hll : (leaveC x.cs id).length ≤ x.cs.length := by unfold leaveC; split <;> simp; omega
  refine s18 ?_
  unfold D18
  repeat (first | refine go ?_ | intro _ | refine ⟨sb, ?_⟩ | refine ⟨sd, ?_⟩ | dsimp only)
  rename_i u w1 o1 v2 w2 o2
  obtain ⟨v, o3⟩ := ref_open (R := row 48 4 v2 0 [] :: R) (Hv.perm sep_swap o2)
  clear o0 o1 o2
  dsimp only at o3
  repeat' (first | refine go ?_ | intro _ | refine ⟨sb, ?_⟩ | refine ⟨sd, ?_⟩ | (refine ⟨fun h1 => ?_, fun h1 => ?_⟩ <;> first | exact ab h1 | ((try rw [h1]); (try simp only [bl] at h1))) | dsimp only)
  refine h _ _ (Sub.hv (subRef ⟨rfl, rfl, rfl⟩ ?_ ?_ subEnd))
  · simp [joinC]
  · simp [joinC]⟩
instance rreg_ok [o : Hv w0 H w] [i : InK refR r H x R] : Step (Cl P 12 #[.pointer (some ⟨r, 0, none⟩), .int .i64 id, .int .i64 now] K ⟨w, ds⟩) (∀ v w', Hv w0 (refR r { x with cs := regC x.cs id now } :: R) w' → K v ⟨w', ds⟩) := ⟨fun h => by
  have o0 := i.hv o
  clear o
  refine s12 ?_
  unfold D12
  repeat (first | refine go ?_ | intro _ | refine ⟨sb, ?_⟩ | refine ⟨sd, ?_⟩ | dsimp only)
  rename_i w1 o1
  obtain ⟨v, o2⟩ := ref_open o1
  clear o0 o1
  cases hc : atC x.cs id with
  | none =>
    rw [atZ_none hc]
    have e : regC x.cs id now = x.cs := by unfold regC; rw [hc]
    rw [e] at h
    repeat' (first | refine go ?_ | intro _ | refine ⟨sb, ?_⟩ | refine ⟨sd, ?_⟩ | (refine ⟨fun h1 => ?_, fun h1 => ?_⟩ <;> first | exact ab h1 | ((try rw [h1]); (try simp only [bl] at h1))) | dsimp only)
    exact h _ _ (Sub.hv (subRef ⟨rfl, rfl, rfl⟩ rfl rfl subEnd))
  | some i =>
    obtain ⟨h2, h3⟩ := atC_some hc
    rw [atZ_some hc]
    have e : regC x.cs id now = x.cs.set i (id, now, true, false) := by unfold regC; rw [hc]
    rw [e] at h
    repeat' (first | refine go ?_ | intro _ | refine ⟨sb, ?_⟩ | refine ⟨sd, ?_⟩ | (refine ⟨fun h1 => ?_, fun h1 => ?_⟩ <;> first | exact ab h1 | ((try rw [h1]); (try simp only [bl] at h1))) | dsimp only)
    · exact h _ _ (Sub.hv (subRef ⟨rfl, rfl, rfl⟩ (by simp) rfl subEnd))
    · omega⟩
instance rline_ok [o : Hv w0 H w] [i : InK refR r H x R] : Step (Cl P 13 #[.pointer (some ⟨r, 0, none⟩), .int .i64 id, .int .i64 now] K ⟨w, ds⟩) (∀ v w', Hv w0 (refR r { x with cs := lineC x.cs id now } :: R) w' → K v ⟨w', ds⟩) := ⟨fun h => by
  have o0 := i.hv o
  clear o
  refine s13 ?_
  unfold D13
  repeat (first | refine go ?_ | intro _ | refine ⟨sb, ?_⟩ | refine ⟨sd, ?_⟩ | dsimp only)
  rename_i w1 o1
  obtain ⟨v, o2⟩ := ref_open o1
  clear o0 o1
  cases hc : atC x.cs id with
  | none =>
    rw [atZ_none hc]
    have e : lineC x.cs id now = x.cs := by unfold lineC; rw [hc]
    rw [e] at h
    repeat' (first | refine go ?_ | intro _ | refine ⟨sb, ?_⟩ | refine ⟨sd, ?_⟩ | (refine ⟨fun h1 => ?_, fun h1 => ?_⟩ <;> first | exact ab h1 | ((try rw [h1]); (try simp only [bl] at h1))) | dsimp only)
    exact h _ _ (Sub.hv (subRef ⟨rfl, rfl, rfl⟩ rfl rfl subEnd))
  | some i =>
    obtain ⟨h2, h3⟩ := atC_some hc
    rw [atZ_some hc]
    have e : lineC x.cs id now = if (x.cs.getD i default).2.2.1 then x.cs.set i (id, now, true, false) else x.cs := by unfold lineC; rw [hc]
    rw [e] at h
    repeat' (first | refine go ?_ | intro _ | refine ⟨sb, ?_⟩ | refine ⟨sd, ?_⟩ | (refine ⟨fun h1 => ?_, fun h1 => ?_⟩ <;> first | exact ab h1 | ((try rw [h1]); (try simp only [bl] at h1))) | dsimp only)
    · rw [if_pos h1] at h
      exact h _ _ (Sub.hv (subRef ⟨rfl, rfl, rfl⟩ (by simp) rfl subEnd))
    · rw [if_neg (by rw [h1]; simp)] at h
      exact h _ _ (Sub.hv (subRef ⟨rfl, rfl, rfl⟩ rfl rfl subEnd))
    · omega⟩
end
end Go.Proofs.Ytogoaohhaiggpaa

