import Derived.Test.YtodnbkggkdadkaaFrB1
set_option linter.all false
namespace Go.Proofs.Ytodnbkggkdadkaa
open Go.Vx
/-! the plain law: piece by piece is as all at once -/
theorem feedS_append (a : List UInt8) : ∀ (p : Fst) (b : List UInt8), feedS p (a ++ b) = ((feedS (feedS p a).1 b).1, (feedS p a).2 ++ (feedS (feedS p a).1 b).2) := by
  induction a with
  | nil => intro p b; simp [feedS]
  | cons c a ih =>
    intro p b
    simp only [List.cons_append, feedS, ih]
    split <;> simp
theorem feed_all (bs : List UInt8) : ∀ i, i ≤ bs.length →
    feedS ([], false) (bs.take i) = ((((bs.drop (allTo bs i).2).take (min (i - (allTo bs i).2) 510)), decide (510 < i - (allTo bs i).2)), (allTo bs i).1) := by
  intro i
  induction i with
  | zero => intro _; simp [feedS, allTo]
  | succ i ih =>
    intro hi
    have hlt : i < bs.length := by omega
    have hle := (allTo_le bs i).1
    have hA : allTo bs (i + 1) = allStep bs i (allTo bs i) := rfl
    have ih := ih (by omega)
    rw [take_snoc hlt, feedS_snoc, hA, ih]
    clear ih hA
    generalize allTo bs i = q at hle ⊢
    obtain ⟨out, f⟩ := q
    dsimp only at hle ⊢
    by_cases hc : bs.getD i default = 13 ∨ bs.getD i default = 10
    · have e1 : allStep bs i (out, f) = (if f + 510 < i then out ++ [([], true)] else if f < i then out ++ [((bs.drop f).take (i - f), false)] else out, i + 1) := by simp only [allStep, if_pos hc]
      rw [e1]
      simp only [pushS, if_pos hc]
      by_cases h1 : f + 510 < i
      · have h2 : 510 < i - f := by omega
        simp [h1, h2]
      · have h2 : ¬ 510 < i - f := by omega
        have h3 : min (i - f) 510 = i - f := by omega
        by_cases h4 : f < i
        · have h5 : (bs.drop f).take (i - f) ≠ [] := by
            intro e
            have := congrArg List.length e
            simp at this; omega
          simp [h1, h2, h3, h4]; omega
        · have h5 : i - f = 0 := by omega
          simp [h1, h4, h5]
    · have e1 : allStep bs i (out, f) = (out, f) := by simp only [allStep, if_neg hc]
      rw [e1]
      simp only [pushS, if_neg hc]
      by_cases h2 : 510 < i - f
      · have h3 : min (i - f) 510 = 510 := by omega
        have h4 : min (i + 1 - f) 510 = 510 := by omega
        simp [h2, h3, h4, show 510 < i + 1 - f by omega]
      · have h3 : min (i - f) 510 = i - f := by omega
        have hl : ((bs.drop f).take (i - f)).length = i - f := by simp; omega
        by_cases h4 : i - f = 510
        · have h5 : min (i + 1 - f) 510 = i - f := by omega
          rw [h3, h5]
          simp [h4, show min 510 (bs.length - f) = 510 by omega, show 510 < i + 1 - f by omega]
        · have h5 : min (i + 1 - f) 510 = i - f + 1 := by omega
          rw [h3, h5, take_snoc (by simp; omega)]
          have h6 : (bs.drop f).getD (i - f) default = bs.getD i default := by
            simp [show f + (i - f) = i by omega]
          rw [h6]
          simp [hl, h2, h4, show ¬ 510 < i + 1 - f by omega]
theorem feed_law (bs : List UInt8) : (feedS ([], false) bs).2 = (allS bs).1 ∧ (if (feedS ([], false) bs).1.2 then 0 else (feedS ([], false) bs).1.1.length) = (allS bs).2.1 ∧ (feedS ([], false) bs).1.2 = (allS bs).2.2 := by
  have h := feed_all bs bs.length (Nat.le_refl _)
  rw [List.take_length] at h
  have hle := (allTo_le bs bs.length).1
  rw [h]
  unfold allS
  by_cases h1 : 510 < bs.length - (allTo bs bs.length).2
  · simp [h1]
  · simp [h1]; omega
end Go.Proofs.Ytodnbkggkdadkaa
