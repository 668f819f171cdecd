import Derived.Test.YtgcomleicnblhaaGreatDoorLbB
set_option linter.all false
namespace Go.Proofs.YtgcomleicnblhaaGreatDoor
open Go.Vx Go.Lib
/-! folded texts, whole masks -/
abbrev foldS (l : List UInt8) : List UInt8 := l.map fb
def cmpS : List UInt8 → List UInt8 → Int
  | [], [] => 0 | [], _ => -1 | _, [] => 1
  | x :: a, y :: b => if fb x < fb y then -1 else if fb y < fb x then 1 else cmpS a b
theorem cmpS_zero {a : List UInt8} : ∀ {b : List UInt8}, cmpS a b = 0 ↔ foldS a = foldS b := by
  induction a with
  | nil => intro b; cases b <;> simp [cmpS]
  | cons x a ih =>
    intro b
    cases b with
    | nil => simp [cmpS]
    | cons y b =>
      simp only [cmpS, foldS, List.map_cons, List.cons.injEq]
      rcases (show fb x < fb y ∨ fb x = fb y ∨ fb y < fb x by simp only [UInt8.lt_iff_toNat_lt, ← UInt8.toNat_inj]; omega) with h | h | h
      · rw [if_pos h]; constructor
        · intro e; simp at e
        · intro e; rw [e.1] at h; exact absurd h (UInt8.lt_irrefl _)
      · rw [h, if_neg (UInt8.lt_irrefl _), if_neg (UInt8.lt_irrefl _), ih]; simp
      · rw [if_neg (UInt8.lt_asymm h), if_pos h]; constructor
        · intro e; simp at e
        · intro e; rw [e.1] at h; exact absurd h (UInt8.lt_irrefl _)
theorem cmpS_at {a b : List UInt8} {i : Nat} (ha : i < a.length) (hb : i < b.length) : cmpS (a.drop i) (b.drop i) = if fb (a.getD i default) < fb (b.getD i default) then -1 else if fb (b.getD i default) < fb (a.getD i default) then 1 else cmpS (a.drop (i + 1)) (b.drop (i + 1)) := by
  rw [drop_at ha, drop_at hb]; rfl
theorem cmpS_nil {a b : List UInt8} (h : a.length = 0 ∨ b.length = 0) : cmpS a b = if a.length < b.length then -1 else if b.length < a.length then 1 else 0 := by
  cases a <;> cases b <;> simp [cmpS] at *
theorem getD_mem {α : Type} [Inhabited α] {l : List α} {i : Nat} (h : i < l.length) : l.getD i default ∈ l := by simp [h]
section
variable {K : Value → St → Prop} {w0 w : World} {H R : List SL} {ds : List Deferred} {a b l : List UInt8}
instance fcmp_ok [o : Hv w0 H w] : Step (Cl P 124 #[str a, str b] K ⟨w, ds⟩) ((a.length ≤ 1000000000 ∧ b.length ≤ 1000000000) ∧ ∀ w', Hv w0 H w' → K (.int .i64 (cmpS a b)) ⟨w', ds⟩) := ⟨fun ⟨⟨hb1, hb2⟩, h⟩ => by
  refine s124 ?_
  unfold D124
  repeat (first | refine go ?_ | intro _ | refine ⟨sb, ?_⟩ | refine ⟨sd, ?_⟩ | dsimp only)
  refine ⟨fun x s => ∃ (i : Nat) (w' : World), x = .int .i64 i ∧ s = ⟨w', []⟩ ∧ i ≤ a.length ∧ i ≤ b.length ∧ cmpS (a.drop i) (b.drop i) = cmpS a b ∧ Hv w0 H w',
    fun x s => match x with | .int _ z => a.length - z.toNat | _ => 0, ⟨0, w, rfl, rfl, Nat.zero_le _, Nat.zero_le _, rfl, o⟩, ?_⟩
  rintro x s ⟨i, w1, rfl, rfl, hi, hj, he, o1⟩
  clear o
  rw [← he] at h
  rcases Nat.lt_or_ge i (min a.length b.length) with hlt | hge
  · have h3 : i < a.length := by omega
    have h4 : i < b.length := by omega
    rw [cmpS_at h3 h4] at h he
    repeat' (first | refine go ?_ | intro _ | refine ⟨sb, ?_⟩ | refine ⟨sd, ?_⟩ | (refine ⟨fun h1 => ?_, fun h1 => ?_⟩ <;> first | exact ab h1 | ((try rw [h1]); (try simp only [bl] at h1))) | dsimp only)
    all_goals first
      | (exfalso; omega)
      | (rw [if_pos h1] at h; exact h _ (Sub.hv subEnd))
      | (rw [if_neg (by assumption), if_pos h1] at h; exact h _ (Sub.hv subEnd))
      | skip
    rw [if_neg (by assumption), if_neg (by assumption)] at he
    exact ⟨⟨i + 1, _, rfl, rfl, h3, h4, he, Sub.hv subEnd⟩, by simp; omega⟩
  · rw [cmpS_nil (by simp; omega), List.length_drop, List.length_drop] at h
    repeat' (first | refine go ?_ | intro _ | refine ⟨sb, ?_⟩ | refine ⟨sd, ?_⟩ | (refine ⟨fun h1 => ?_, fun h1 => ?_⟩ <;> first | exact ab h1 | ((try rw [h1]); (try simp only [bl] at h1))) | dsimp only)
    · exfalso; omega
    · rw [if_pos (by omega)] at h; exact h _ (Sub.hv subEnd)
    · rw [if_neg (by omega), if_pos (by omega)] at h; exact h _ (Sub.hv subEnd)
    · rw [if_neg (by omega), if_neg (by omega)] at h; exact h _ (Sub.hv subEnd)⟩
instance fsame_ok [o : Hv w0 H w] : Step (Cl P 56 #[str a, str b] K ⟨w, ds⟩) ((a.length ≤ 1000000000 ∧ b.length ≤ 1000000000) ∧ ∀ w', Hv w0 H w' → K (.bool (decide (foldS a = foldS b))) ⟨w', ds⟩) := ⟨fun ⟨⟨hb1, hb2⟩, h⟩ => by
  have hz := @cmpS_zero a b
  refine s56 ?_
  unfold D56
  repeat' (first | refine go ?_ | intro _ | refine ⟨sb, ?_⟩ | refine ⟨sd, ?_⟩ | (refine ⟨fun h1 => ?_, fun h1 => ?_⟩ <;> first | exact ab h1 | ((try rw [h1]); (try simp only [bl] at h1))) | dsimp only)
  all_goals
    refine cast (congrArg (fun b => K (.bool b) _) ?_) (h _ (Sub.hv subEnd))
    clear h
    first
      | (rw [decide_eq_decide]; grind)
      | (rw [decide_eq_false]; intro e; have := congrArg List.length e; simp at this; omega)⟩
instance text01_ok [o : Hv w0 H w] : Step (Cl P 168 #[str l] K ⟨w, ds⟩) (l.length ≤ 1000000 ∧ ∀ w', Hv w0 H w' → K (str (foldS l)) ⟨w', ds⟩) := ⟨fun ⟨hl, h⟩ => by
  refine s168 ?_
  unfold D168
  refine ⟨fun x y s => ∃ (i : Nat) (w' : World), x = str (foldS (l.take i)) ∧ y = .int .i64 i ∧ s = ⟨w', []⟩ ∧ i ≤ l.length ∧ Hv w0 H w', fun _ y s => match y with | .int _ z => l.length - z.toNat | _ => 0, ⟨0, w, rfl, rfl, rfl, Nat.zero_le _, o⟩, ?_⟩
  rintro x y s ⟨i, w2, rfl, rfl, rfl, hi, o2⟩
  clear o
  have hcl : (foldS (l.take i)).length = i := by simp; omega
  rcases Nat.lt_or_ge i l.length with hlt | hge
  · repeat' (first | refine go ?_ | intro _ | refine ⟨sb, ?_⟩ | refine ⟨sd, ?_⟩ | (refine ⟨fun h1 => ?_, fun h1 => ?_⟩ <;> first | exact ab h1 | ((try rw [h1]); (try simp only [bl] at h1))) | dsimp only)
    · refine ⟨⟨i + 1, _, ?_, rfl, rfl, hlt, Sub.hv subEnd⟩, by simp; omega⟩
      rw [take_snoc hlt]; simp
    · exfalso; omega
  · repeat' (first | refine go ?_ | intro _ | refine ⟨sb, ?_⟩ | refine ⟨sd, ?_⟩ | (refine ⟨fun h1 => ?_, fun h1 => ?_⟩ <;> first | exact ab h1 | ((try rw [h1]); (try simp only [bl] at h1))) | dsimp only)
    · exfalso; omega
    · rw [List.take_of_length_le hge]; exact h _ (Sub.hv subEnd)⟩
instance same01_ok [o : Hv w0 H w] : Step (Cl P 100 #[str a, str b] K ⟨w, ds⟩) ((a.length ≤ 1000000 ∧ b.length ≤ 1000000) ∧ ∀ w', Hv w0 H w' → K (.bool (decide (foldS a = foldS b))) ⟨w', ds⟩) := ⟨fun ⟨⟨hb1, hb2⟩, h⟩ => by
  refine s100 ?_
  unfold D100
  repeat' (first | refine go ?_ | intro _ | refine ⟨sb, ?_⟩ | refine ⟨sd, ?_⟩ | (refine ⟨fun h1 => ?_, fun h1 => ?_⟩ <;> first | exact ab h1 | ((try rw [h1]); (try simp only [bl] at h1))) | dsimp only)
  exact h _ (Sub.hv subEnd)⟩
/-! one of some masks -/
/-! whole masks -/
def starS (l : List UInt8) : List UInt8 := if l = [] then [42] else l
def nickR (l : List UInt8) : List UInt8 × List UInt8 :=
  if 0 ≤ idxB l 33 ∧ (idxB l 64 < 0 ∨ idxB l 33 < idxB l 64) then (l.take (idxB l 33).toNat, l.drop (idxB l 33 + 1).toNat) else if 0 ≤ idxB l 64 then ([], l) else (l, [])
theorem cutB_len (l : List UInt8) (c : UInt8) : (cutB l c).1.length ≤ l.length ∧ (cutB l c).2.1.length ≤ l.length := by unfold cutB; split <;> simp; omega
theorem idxB_le (l : List UInt8) (c : UInt8) : idxB l c < l.length ∧ -1 ≤ idxB l c := by
  cases h : l.findIdx? (· == c) with
  | none => unfold idxB; rw [h]; dsimp only; omega
  | some i => unfold idxB; rw [h]; have := find_lt h; dsimp only; omega
def completeS (l : List UInt8) : List UInt8 := starS (nickR l).1 ++ 33 :: (starS (cutB (nickR l).2 64).1 ++ 64 :: starS (cutB (nickR l).2 64).2.1)
theorem starS_len (l : List UInt8) : (starS l).length ≤ l.length + 1 := by unfold starS; split <;> simp
def idxN (l : List UInt8) (c : UInt8) (n : Nat) : Int := if idxB (l.drop n) c < 0 then -1 else n + idxB (l.drop n) c
theorem idxB_cons (x c : UInt8) (l : List UInt8) : idxB (x :: l) c = if x = c then 0 else if idxB l c < 0 then -1 else idxB l c + 1 := by
  unfold idxB
  rw [List.findIdx?_cons]
  by_cases h : x = c
  · simp [h]
  · rw [if_neg h]; simp only [beq_iff_eq, h, if_false]
    cases l.findIdx? (· == c) <;> simp <;> omega
theorem idxN_step {l : List UInt8} {c : UInt8} {n : Nat} (h : n < l.length) : idxN l c n = if l.getD n default = c then (n : Int) else idxN l c (n + 1) := by
  unfold idxN
  rw [drop_at h, idxB_cons]
  have := idxB_le (l.drop (n + 1)) c
  split
  · simp
  · split <;> split <;> omega
theorem idxN_end {l : List UInt8} {c : UInt8} {n : Nat} (h : l.length ≤ n) : idxN l c n = -1 := by
  unfold idxN; rw [List.drop_of_length_le h]; rfl
theorem idxN_zero (l : List UInt8) (c : UInt8) : idxN l c 0 = idxB l c := by
  unfold idxN; have := idxB_le l c; rw [List.drop_zero]; split <;> omega
theorem cutB_idx (l : List UInt8) (c : UInt8) : cutB l c = if 0 ≤ idxB l c then (l.take (idxB l c).toNat, l.drop ((idxB l c).toNat + 1), true) else (l, [], false) := by
  cases h : l.findIdx? (· == c) with
  | none => have e : idxB l c = -1 := by unfold idxB; rw [h]
            rw [e, if_neg (by omega)]; unfold cutB; rw [h]
  | some i => have e : idxB l c = i := by unfold idxB; rw [h]
              rw [e, if_pos (by omega)]; unfold cutB; rw [h]; simp
theorem idxN_le (l : List UInt8) (c : UInt8) (n : Nat) : idxN l c n = -1 ∨ ((n : Int) ≤ idxN l c n ∧ idxN l c n < l.length) := by
  unfold idxN
  have := idxB_le (l.drop n) c
  rw [List.length_drop] at this
  split <;> omega
theorem idxN_cut {l : List UInt8} {c : UInt8} {n : Nat} : (idxN l c n < 0 → cutB (l.drop n) c = (l.drop n, [], false)) ∧ (0 ≤ idxN l c n → cutB (l.drop n) c = ((l.take (idxN l c n).toNat).drop n, l.drop (idxN l c n + 1).toNat, true)) := by
  rw [cutB_idx]
  unfold idxN
  generalize e : idxB (l.drop n) c = z
  rcases Int.lt_or_le z 0 with h | h
  · rw [if_pos h, if_neg (by omega)]; exact ⟨fun _ => rfl, fun h => absurd h (by omega)⟩
  · rw [if_neg (by omega), if_pos h]
    refine ⟨fun h => by omega, fun _ => ?_⟩
    rw [List.drop_take, List.drop_drop, show ((n : Int) + z).toNat - n = z.toNat by omega, show ((n : Int) + z + 1).toNat = n + (z.toNat + 1) by omega]
end
end Go.Proofs.YtgcomleicnblhaaGreatDoor

