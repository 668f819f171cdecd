import Derived.Test.YtodnbkggkdadkaaFrA
set_option linter.all false
namespace Go.Proofs.Ytodnbkggkdadkaa
open Go.Vx
theorem ln_eq (a b : Ln) : (decide (a.1 = b.1) && ((a.2 == b.2) && true)) = decide (a = b) := by
  obtain ⟨a1, a2⟩ := a; obtain ⟨b1, b2⟩ := b
  rw [Bool.eq_iff_iff]; simp
instance same_ok {K : Value → St → Prop} {w0 w : World} {H : List SL} {ds : List Deferred} {x y : Value} {xs ys : List Ln} {n m : Nat} {zx zy : List Value} [o : Hv w0 H w] [rx : RdsF w0 H x 2 n zx] [ex : Encs encLn zx xs] [ry : RdsF w0 H y 2 m zy] [ey : Encs encLn zy ys] :
    Step (Cl P 20 #[x, y] K ⟨w, ds⟩) (xs.length ≤ 1000000000 ∧ ∀ w', Hv w0 H w' → K (.bool (decide (xs = ys))) ⟨w', ds⟩) := ⟨fun ⟨hlen, h⟩ => by
  refine cl_ok (c20 (K := fun v w' => K v ⟨w', ds⟩) ?_ fun v w' h => ⟨v, rfl, h⟩)
  obtain rfl : n = xs.length := ex.len (rx.rd w o).len (by decide)
  obtain rfl : m = ys.length := ey.len (ry.rd w o).len (by decide)
  obtain rfl := ex.eq
  obtain rfl := ey.eq
  have rlx := rx.loc
  have rly := ry.loc
  unfold D20
  dsimp only
  repeat' (first | refine go ?_ | intro _ | refine And.intro (by (first | omega | (unfold InR; omega) | decide | (simp only [List.length_append, List.length_map, List.length_take, List.length_drop, List.length_replicate, List.length_cons, List.length_nil, List.length_set]; omega))) ?_ | (refine And.intro (fun h1 => ?_) (fun h1 => ?_) <;> first | (exact absurd h1 (by decide)) | ((try rw [h1]); (try simp only [Bool.not_eq_true', Bool.not_eq_false', decide_eq_true_eq, decide_eq_false_iff_not, Bool.and_eq_true, Bool.or_eq_true, Bool.or_eq_false_iff, Bool.and_eq_false_imp, Int.not_lt, Int.not_le, Nat.not_lt, Nat.not_le] at h1))) | dsimp only)
  · have hne : xs ≠ ys := fun e => h1 (by rw [e])
    simpa [hne] using h _ o
  have hn : xs.length = ys.length := by omega
  refine ⟨fun y s => ∃ (i : Nat) (w' : World), y = .int .i64 i ∧ s = ⟨w', []⟩ ∧ i ≤ xs.length ∧ xs.take i = ys.take i ∧ Hv w0 H w',
    fun y s => match y with | .int _ z => xs.length - z.toNat | _ => 0, ⟨0, w, rfl, rfl, Nat.zero_le _, by simp, o⟩, ?_⟩
  rintro y s ⟨i, w1, rfl, rfl, hi, he, o1⟩
  repeat' (first | refine go ?_ | intro _ | refine And.intro (by (first | omega | (unfold InR; omega) | decide | (simp only [List.length_append, List.length_map, List.length_take, List.length_drop, List.length_replicate, List.length_cons, List.length_nil, List.length_set]; omega))) ?_ | (refine And.intro (fun h1 => ?_) (fun h1 => ?_) <;> first | (exact absurd h1 (by decide)) | ((try rw [h1]); (try simp only [Bool.not_eq_true', Bool.not_eq_false', decide_eq_true_eq, decide_eq_false_iff_not, Bool.and_eq_true, Bool.or_eq_true, Bool.or_eq_false_iff, Bool.and_eq_false_imp, Int.not_lt, Int.not_le, Nat.not_lt, Nat.not_le] at h1))) | dsimp only)
  · have hlt : i < xs.length := by omega
    have hne : xs ≠ ys := fun e => by rw [e] at h1; simp at h1
    simpa [hne] using h _ ‹_›
  · have hlt : i < xs.length := by omega
    have h1 : xs.getD i default = ys.getD i default := Prod.ext h1.1 (by simpa using h1.2.1)
    exact ⟨⟨i + 1, _, rfl, rfl, hlt, by rw [take_snoc hlt, take_snoc (show i < ys.length by omega), he, h1], ‹_›⟩, by simp; omega⟩
  · have : xs = ys := by rw [← List.take_of_length_le (show xs.length ≤ i by omega), he, List.take_of_length_le (by omega)]
    simpa [this] using h _ ‹_›⟩
/-- The document's answer: one byte on. (What came, where the line begins; i: where it is.) -/
def allStep (b : List UInt8) (i : Nat) (p : List Ln × Nat) : List Ln × Nat :=
  if b.getD i default = 13 ∨ b.getD i default = 10 then
    (if p.2 + 510 < i then p.1 ++ [([], true)] else if p.2 < i then p.1 ++ [((b.drop p.2).take (i - p.2), false)] else p.1, i + 1)
  else p
def allTo (b : List UInt8) : Nat → List Ln × Nat
  | 0 => ([], 0)
  | i + 1 => allStep b i (allTo b i)
theorem allTo_le (b : List UInt8) : ∀ i, (allTo b i).2 ≤ i ∧ (allTo b i).1.length ≤ i := by
  intro i
  induction i with
  | zero => simp [allTo]
  | succ i ih =>
    simp only [allTo, allStep]
    split
    · refine ⟨Nat.le_refl _, ?_⟩
      dsimp only
      split
      · simp; omega
      · split
        · simp; omega
        · omega
    · omega
def allS (b : List UInt8) : List Ln × Nat × Bool :=
  if b.length - (allTo b b.length).2 > 510 then ((allTo b b.length).1, 0, true) else ((allTo b b.length).1, b.length - (allTo b b.length).2, false)
instance all_ok {K : Value → St → Prop} {w0 w : World} {H : List SL} {ds : List Deferred} {bv : Value} {bs : List UInt8} {n : Nat} {zs : List Value} [o : Hv w0 H w] [rx : RdsF w0 H bv 1 n zs] [bz : Bys zs bs] :
    Step (Cl P 19 #[bv] K ⟨w, ds⟩) (bs.length ≤ 1000000 ∧ ∀ v w', Hv w0 (row 39 2 v (allS bs).1.length ((allS bs).1.flatMap encLn) :: H) w' → K (.tuple #[v, .int .i64 (allS bs).2.1, .bool (allS bs).2.2]) ⟨w', ds⟩) := ⟨fun ⟨hlen, h⟩ => by
  refine cl_ok (c19 (K := fun v w' => K v ⟨w', ds⟩) ?_ fun v w' h => ⟨v, rfl, h⟩)
  obtain rfl := bz.eq
  obtain rfl : n = bs.length := by have := (rx.rd w o).len; simpa using this.symm
  have rlx := rx.loc
  unfold D19
  dsimp only
  refine ⟨fun x y z s => ∃ (i : Nat) (w' : World), y = .int .i64 (allTo bs i).2 ∧ z = .int .i64 i ∧ s = ⟨w', []⟩ ∧ i ≤ bs.length ∧
     Hv w0 (row 39 2 x (allTo bs i).1.length ((allTo bs i).1.flatMap encLn) :: H) w',
    fun _ _ z s => match z with | .int _ z => bs.length - z.toNat | _ => 0, ⟨0, w, rfl, rfl, rfl, Nat.zero_le _, by simpa [allTo] using Hv.nilRow 39 2 o⟩, ?_⟩
  rintro x y z s ⟨i, w1, rfl, rfl, rfl, hi, o1⟩
  have hle := allTo_le bs i
  repeat' (first | refine go ?_ | intro _ | refine And.intro (by (first | omega | (unfold InR; omega) | decide | (simp only [List.length_append, List.length_map, List.length_take, List.length_drop, List.length_replicate, List.length_cons, List.length_nil, List.length_set]; omega))) ?_ | (refine And.intro (fun h1 => ?_) (fun h1 => ?_) <;> first | (exact absurd h1 (by decide)) | ((try rw [h1]); (try simp only [Bool.not_eq_true', Bool.not_eq_false', decide_eq_true_eq, decide_eq_false_iff_not, Bool.and_eq_true, Bool.or_eq_true, Bool.or_eq_false_iff, Bool.and_eq_false_imp, Int.not_lt, Int.not_le, Nat.not_lt, Nat.not_le] at h1))) | dsimp only)
  all_goals first
    | (refine ⟨⟨i + 1, _, ?_, rfl, rfl, by omega, Sub.hv (subRow ?_ ?_ subEnd)⟩, by simp; omega⟩ <;> (simp only [allTo, allStep]; grind))
    | skip
  · obtain rfl : i = bs.length := by omega
    have e : allS bs = ((allTo bs bs.length).1, 0, true) := by unfold allS; rw [if_pos (by omega)]
    have := h x w1 (by rw [e]; exact o1)
    rwa [e] at this
  · obtain rfl : i = bs.length := by omega
    have e : allS bs = ((allTo bs bs.length).1, bs.length - (allTo bs bs.length).2, false) := by unfold allS; rw [if_neg (by omega)]
    have := h x w1 (by rw [e]; exact o1)
    rw [e] at this
    dsimp only at this
    rwa [Int.ofNat_sub (by omega)] at this⟩
end Go.Proofs.Ytodnbkggkdadkaa
