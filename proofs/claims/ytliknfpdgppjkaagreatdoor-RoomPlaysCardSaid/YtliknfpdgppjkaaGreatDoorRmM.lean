import Derived.Test.YtliknfpdgppjkaaGreatDoorRmL
set_option linter.all false
namespace Go.Proofs.YtliknfpdgppjkaaGreatDoor
open Go.Vx Go.Lib
/-! the document's modes -/
def Rf.mOn (x : Rf) (c : UInt8) : Bool := x.flag c || (decide (c = 107) && !decide (x.key = [])) || (decide (c = 108) && !decide (x.limit = 0))
def Rf.mArg1 (x : Rf) (all : Bool) (c : UInt8) : List (List UInt8) := if x.mOn c = true ∧ c = 107 then [if all then x.key else [42]] else if x.mOn c = true ∧ c = 108 ∧ all = true then [decDigits x.limit.toNat] else []
def Rf.mRow (x : Rf) (l : List UInt8) : List UInt8 := 43 :: l.filter x.mOn
def Rf.mArg (x : Rf) (all : Bool) (l : List UInt8) : List (List UInt8) := l.flatMap (x.mArg1 all)
def Rf.modes (x : Rf) (all : Bool) : List (List UInt8) := x.mRow letL :: x.mArg all letL
section
set_option maxRecDepth 20000
set_option synthInstance.maxSize 100000
set_option synthInstance.maxHeartbeats 4000000
variable {K : Value → St → Prop} {w0 w : World} {H R : List SL} {ds : List Deferred} {p : Nat} {x : Rf} {id : Int}
theorem fmRow_len (x : Rf) (l : List UInt8) : (x.mRow l).length ≤ l.length + 1 := by
  simp only [Rf.mRow, List.length_cons]; exact Nat.succ_le_succ (List.length_filter_le ..)
theorem fmArg_len (x : Rf) (all : Bool) (l : List UInt8) : (x.mArg all l).length ≤ l.length := by
  induction l with
  | nil => exact Nat.le_refl _
  | cons c l ih =>
    have : (x.mArg1 all c).length ≤ 1 := by unfold Rf.mArg1; split <;> (try split) <;> simp
    simp only [Rf.mArg, List.flatMap_cons, List.length_append, List.length_cons] at *; omega
theorem fmRow_snoc (x : Rf) {l : List UInt8} {i : Nat} (h : i < l.length) : x.mRow (l.take (i + 1)) = x.mRow (l.take i) ++ (if x.mOn (l.getD i default) then [l.getD i default] else []) := by
  unfold Rf.mRow; rw [take_snoc h, List.filter_append]; simp only [List.filter_cons, List.filter_nil]; rfl
theorem fmArg_snoc (x : Rf) (all : Bool) {l : List UInt8} {i : Nat} (h : i < l.length) : x.mArg all (l.take (i + 1)) = x.mArg all (l.take i) ++ x.mArg1 all (l.getD i default) := by
  unfold Rf.mArg; rw [take_snoc h, List.flatMap_append]; simp
instance fflagB_ok {c : UInt8} {on : List UInt8} {a b d e f g h' vm : Value} [o : Hv w0 H w] [bi : BoxIn H p 50 [a, b, vm, d, str on, e, f, g, h'] R] : Step (Cl P 24 #[.pointer (some ⟨p, 0, none⟩), byteV c] K ⟨w, ds⟩) (on.length ≤ 100 ∧ ∀ w', Hv w0 H w' → K (.bool (on.contains c)) ⟨w', ds⟩) := ⟨fun ⟨f4, h⟩ => by
  refine s24 ?_
  unfold D24
  refine ⟨fun y s => ∃ (i : Nat) (w' : World), y = .int .i64 i ∧ s = ⟨w', []⟩ ∧ i ≤ on.length ∧ (on.take i).all (fun b => !decide (b = c)) = true ∧ Hv w0 H w',
    fun y s => match y with | .int _ z => on.length - z.toNat | _ => 0, ⟨0, w, rfl, rfl, Nat.zero_le _, rfl, o⟩, ?_⟩
  rintro y s ⟨i, w1, rfl, rfl, hi, hp, o2⟩
  clear o
  have hc : on.contains c = !on.all (fun b => !decide (b = c)) := by
    rw [Bool.eq_iff_iff]; simp
  rw [hc] at h
  rcases Nat.lt_or_ge i on.length with hlt | hge
  · have ht := all_take (p := fun b => !decide (b = c)) hlt
    repeat' (first | refine go ?_ | intro _ | refine ⟨sb, ?_⟩ | refine ⟨sd, ?_⟩ | (refine ⟨fun h1 => ?_, fun h1 => ?_⟩ <;> first | exact ab h1 | ((try rw [h1]); (try simp only [bl] at h1))) | dsimp only)
    · rw [all_at hlt (by simpa [-List.getD_eq_getElem?_getD] using h1)] at h
      exact h _ (Sub.hv subEnd)
    · exact ⟨⟨i + 1, _, rfl, rfl, hlt, by rw [ht, hp]; simpa [-List.getD_eq_getElem?_getD] using h1, Sub.hv subEnd⟩, by simp; omega⟩
    · exfalso; omega
  · rw [List.take_of_length_le hge] at hp
    rw [hp] at h
    repeat' (first | refine go ?_ | intro _ | refine ⟨sb, ?_⟩ | refine ⟨sd, ?_⟩ | (refine ⟨fun h1 => ?_, fun h1 => ?_⟩ <;> first | exact ab h1 | ((try rw [h1]); (try simp only [bl] at h1))) | dsimp only)
    · exfalso; omega
    · exact h _ (Sub.hv subEnd)⟩
instance fmodes_ok {all : Bool} [o : Hv w0 H w] [i : InK refR p H x R] : Step (Cl P 22 #[.pointer (some ⟨p, 0, none⟩), .bool all] K ⟨w, ds⟩) (((x.fit ∧ x.key.length ≤ 100) ∧ 0 ≤ x.limit ∧ x.limit ≤ 9999) ∧ ∀ v w', Hv w0 (row 9 1 v (x.modes all).length ((x.modes all).map str) :: refR p x :: R) w' → K v ⟨w', ds⟩) := ⟨fun ⟨⟨⟨hf, hk⟩, hl0, hl1⟩, h⟩ => by
  have f4 := hf.d
  obtain ⟨vm, vb, vg, o1⟩ := ref_open (i.hv o)
  clear o
  refine s22 ?_
  unfold D22
  repeat (first | refine go ?_ | intro _ | refine ⟨sb, ?_⟩ | refine ⟨sd, ?_⟩ | dsimp only)
  rename_i v1 w1 o2
  refine ⟨fun a b c s => ∃ (i : Nat) (w' : World), a = str (x.mRow (letL.take i)) ∧ c = .int .i64 i ∧ s = ⟨w', []⟩ ∧ i ≤ 7 ∧ Hv w0 (row 9 1 b (([] :: x.mArg all (letL.take i) : List (List UInt8))).length (([] :: x.mArg all (letL.take i) : List (List UInt8)).map str) :: refR p x :: R) w',
    fun _ _ c s => match c with | .int _ z => 7 - z.toNat | _ => 0, ⟨0, w1, rfl, rfl, rfl, Nat.zero_le _, Sub.hv (subRow rfl rfl (subRefR ⟨rfl, rfl, rfl, rfl, rfl, rfl⟩ rfl rfl rfl rfl rfl rfl subEnd))⟩, ?_⟩
  rintro a b c s ⟨i, w2, rfl, rfl, rfl, hi, o4⟩
  clear o1 o2
  obtain ⟨vm, vb, vg, o5⟩ := ref_open ((inferInstance : InK refR p _ x _).hv o4)
  clear o4
  have e7 : letL.length = 7 := rfl
  have g1 := fmArg_len x all (letL.take i)
  have g2 := fmRow_len x (letL.take i)
  rw [List.length_take] at g1 g2
  rcases Nat.lt_or_ge i 7 with hlt | hge
  · have q1 := fmRow_snoc x (l := letL) (i := i) hlt
    have q2 := fmArg_snoc x all (l := letL) (i := i) hlt
    have hx : x.flag (letL.getD i default) = x.on.contains (letL.getD i default) := rfl
    have hcc : letL.getD i default = 107 → ¬ letL.getD i default = 108 := fun e => by rw [e]; decide
    have hD : [105, 107, 108, 109, 110, 115, 116].getD i default = letL.getD i default := rfl
    have go1 : ∀ (r : List UInt8) (v : Value) (n : Nat) (qs : List (List UInt8)) (w' : World), r = x.mRow (letL.take (i + 1)) → qs = x.mArg all (letL.take (i + 1)) → n = qs.length + 1 → Hv w0 (row 9 1 v n (([] :: qs : List (List UInt8)).map str) :: refR p x :: R) w' →
        (∃ (j : Nat) (w'' : World), str r = str (x.mRow (letL.take j)) ∧ Value.int .i64 ((i : Int) + 1) = .int .i64 j ∧ (⟨w', []⟩ : St) = ⟨w'', []⟩ ∧ j ≤ 7 ∧ Hv w0 (row 9 1 v ([] :: x.mArg all (letL.take j) : List (List UInt8)).length (([] :: x.mArg all (letL.take j) : List (List UInt8)).map str) :: refR p x :: R) w'') ∧ 7 - ((i : Int) + 1).toNat < 7 - (i : Int).toNat := by
      rintro r v n qs w' rfl rfl rfl hv
      exact ⟨⟨i + 1, w', rfl, rfl, rfl, hlt, hv⟩, by omega⟩
    repeat' (first | refine go ?_ | intro _ | refine ⟨sb, ?_⟩ | refine ⟨sd, ?_⟩ | (refine ⟨fun h1 => ?_, fun h1 => ?_⟩ <;> first | exact ab h1 | ((try rw [h1]); (try simp only [bl] at h1))) | dsimp only)
    all_goals
      simp only [hD] at *
      first
        | (exfalso; omega)
        | (exfalso; clear go1 h q1 q2; grind)
        | skip
    · have hon : x.mOn (letL.getD i default) = true := by unfold Rf.mOn; rw [hx]; clear go1 h q1 q2; grind
      have m1 : x.mArg1 all (letL.getD i default) = [x.key] := by unfold Rf.mArg1; rw [hon]; clear go1 h q1 q2; grind
      refine ⟨⟨i + 1, _, by rw [q1, hon]; simp, rfl, rfl, hlt, ?_⟩, by omega⟩
      rw [q2, m1]
      exact Sub.hv (subRow (by simp) (by simp) (subRefR ⟨rfl, rfl, rfl, rfl, rfl, rfl⟩ rfl rfl rfl rfl rfl rfl subEnd))
    · have hon : x.mOn (letL.getD i default) = true := by unfold Rf.mOn; rw [hx]; clear go1 h q1 q2; grind
      have m1 : x.mArg1 all (letL.getD i default) = [[42]] := by unfold Rf.mArg1; rw [hon]; clear go1 h q1 q2; grind
      refine ⟨⟨i + 1, _, by rw [q1, hon]; simp, rfl, rfl, hlt, ?_⟩, by omega⟩
      rw [q2, m1]
      exact Sub.hv (subRow (by simp) (by simp) (subRefR ⟨rfl, rfl, rfl, rfl, rfl, rfl⟩ rfl rfl rfl rfl rfl rfl subEnd))
    · have hon : x.mOn (letL.getD i default) = true := by unfold Rf.mOn; rw [hx]; clear go1 h q1 q2; grind
      have m1 : x.mArg1 all (letL.getD i default) = [decDigits x.limit.toNat] := by unfold Rf.mArg1; rw [hon]; clear go1 h q1 q2; grind
      refine ⟨⟨i + 1, _, by rw [q1, hon]; simp, rfl, rfl, hlt, ?_⟩, by omega⟩
      rw [q2, m1]
      exact Sub.hv (subRow (by simp) (by simp) (subRefR ⟨rfl, rfl, rfl, rfl, rfl, rfl⟩ rfl rfl rfl rfl rfl rfl subEnd))
    · have hon : x.mOn (letL.getD i default) = true := by unfold Rf.mOn; rw [hx]; clear go1 h q1 q2; grind
      have m1 : x.mArg1 all (letL.getD i default) = [] := by unfold Rf.mArg1; rw [hon]; clear go1 h q1 q2; grind
      refine ⟨⟨i + 1, _, by rw [q1, hon]; simp, rfl, rfl, hlt, ?_⟩, by omega⟩
      rw [q2, m1]
      exact Sub.hv (subRow (by simp) (by simp) (subRefR ⟨rfl, rfl, rfl, rfl, rfl, rfl⟩ rfl rfl rfl rfl rfl rfl subEnd))
    · have hon : x.mOn (letL.getD i default) = false := by unfold Rf.mOn; rw [hx]; clear go1 h q1 q2; grind
      have m1 : x.mArg1 all (letL.getD i default) = [] := by unfold Rf.mArg1; rw [hon]; clear go1 h q1 q2; grind
      refine ⟨⟨i + 1, _, by rw [q1, hon]; simp, rfl, rfl, hlt, ?_⟩, by omega⟩
      rw [q2, m1]
      exact Sub.hv (subRow (by simp) (by simp) (subRefR ⟨rfl, rfl, rfl, rfl, rfl, rfl⟩ rfl rfl rfl rfl rfl rfl subEnd))
  · obtain rfl : i = 7 := by omega
    have e2 : letL.take 7 = letL := rfl
    rw [e2] at o5 g1 g2 ⊢
    repeat' (first | refine go ?_ | intro _ | refine ⟨sb, ?_⟩ | refine ⟨sd, ?_⟩ | (refine ⟨fun h1 => ?_, fun h1 => ?_⟩ <;> first | exact ab h1 | ((try rw [h1]); (try simp only [bl] at h1))) | dsimp only)
    try (exfalso; omega)
    all_goals exact h _ _ (Sub.hv (subRow (by simp [Rf.modes]) (by simp [Rf.modes]) (subRefR ⟨rfl, rfl, rfl, rfl, rfl, rfl⟩ rfl rfl rfl rfl rfl rfl subEnd)))⟩
end
end Go.Proofs.YtliknfpdgppjkaaGreatDoor

