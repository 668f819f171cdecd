import Derived.Test.YtodnbkggkdadkaaFrC
import Derived.Test.YtodnbkggkdadkaaSa
namespace Go.Proofs.Ytodnbkggkdadkaa
open Go.Vx
theorem pushS_x (l : List UInt8) (lost : Bool) : pushS (l, lost) 120 = if lost = true ∨ l.length = 510 then ((l, true), ([], false), false) else ((l ++ [120], false), ([], false), false) := by
  have h13 : ¬ ((120 : UInt8) = 13 ∨ (120 : UInt8) = 10) := by decide
  simp only [pushS, if_neg h13]
theorem feed_x : ∀ k, feedS ([], false) (List.replicate k 120) = ((List.replicate (min k 510) 120, decide (510 < k)), []) := by
  intro k
  induction k with
  | zero => rfl
  | succ k ih =>
    rw [List.replicate_succ', feedS_snoc, ih]
    dsimp only
    rw [pushS_x, List.length_replicate]
    by_cases h1 : 510 ≤ k
    · rw [if_pos (by simp only [decide_eq_true_eq]; omega), show min (k + 1) 510 = min k 510 by omega, show decide (510 < k + 1) = true by simp only [decide_eq_true_eq]; omega]
      rfl
    · rw [if_neg (by simp only [decide_eq_true_eq]; omega), show min (k + 1) 510 = min k 510 + 1 by omega, show decide (510 < k + 1) = false by simp only [decide_eq_false_iff_not]; omega, List.replicate_succ']
      rfl
def longL (k : Nat) : Ln := if 510 < k then ([], true) else (List.replicate k 120, false)
theorem feed_long (k : Nat) (hk : 0 < k) : feedS ([], false) (List.replicate k 120 ++ [13, 10, 110, 101, 120, 116, 10]) = (([], false), [longL k, ([110, 101, 120, 116], false)]) := by
  rw [feedS_append, feed_x]
  by_cases h1 : 510 < k
  · simp [feedS, pushS, longL, h1]
  · have h2 : min k 510 = k := by omega
    have h3 : ¬ k = 0 := by omega
    simp [feedS, pushS, longL, h1, h2, h3]
theorem set_x (k i : Nat) (h : i < k) : (List.replicate i (120 : UInt8) ++ List.replicate (k - i) 0).set i 120 = List.replicate (i + 1) 120 ++ List.replicate (k - (i + 1)) 0 := by
  rw [List.set_append, if_neg (by simp)]
  obtain ⟨m, hm⟩ : ∃ m, k - i = m + 1 := ⟨k - i - 1, by omega⟩
  rw [hm, List.replicate_succ, List.length_replicate, Nat.sub_self, List.set_cons_zero, List.replicate_succ', List.append_assoc, show k - (i + 1) = m by omega]
  rfl
theorem long_ok {w : World} (n a : UInt8) : Calls P 5 #[byteV n, byteV a] w fun e w' => e = .returned (.bool true) ∧ Hv w [] w' := by
  refine c5 (K := fun v w' => v = .bool true ∧ Hv w [] w') ?_ fun v w' h => ⟨by rw [h.1], h.2⟩
  have o := Hv.begin w
  have hn := n.toNat_lt
  have ha := a.toNat_lt
  unfold D5
  dsimp only
  repeat' (first | refine go ?_ | intro _ | refine And.intro (by (first | omega | (unfold InR; omega) | decide | (simp only [List.length_append, List.length_map, List.length_take, List.length_drop, List.length_replicate, List.length_cons, List.length_nil, List.length_set]; omega))) ?_ | (refine And.intro (fun h1 => ?_) (fun h1 => ?_) <;> first | (exact absurd h1 (by decide)) | ((try rw [h1]); (try simp only [Bool.not_eq_true', Bool.not_eq_false', decide_eq_true_eq, decide_eq_false_iff_not, Bool.and_eq_true, Bool.or_eq_true, Bool.or_eq_false_iff, Bool.and_eq_false_imp, Int.not_lt, Int.not_le, Nat.not_lt, Nat.not_le] at h1))) | dsimp only)
  obtain ⟨k, hk⟩ : ∃ k, k = 500 + n.toNat % 21 := ⟨_, rfl⟩
  have e : 500 + (n.toNat : Int).tmod 21 = (k : Int) := by rw [show (n.toNat : Int).tmod 21 = ((n.toNat % 21 : Nat) : Int) from rfl]; omega
  rw [e]
  have hk1 : 500 ≤ k := by omega
  have hk2 : k ≤ 520 := by omega
  clear e hk
  repeat (first | refine go ?_ | intro _ | refine And.intro (by (first | omega | (unfold InR; omega) | decide | (simp only [List.length_append, List.length_map, List.length_take, List.length_drop, List.length_replicate, List.length_cons, List.length_nil, List.length_set]; omega))) ?_ | dsimp only)
  rename_i v6 w2 o2
  refine ⟨fun z s => ∃ (i : Nat) (w' : World), z = .int .i64 i ∧ s = ⟨w', []⟩ ∧ i ≤ k ∧ Hv w [row 5 1 v6 k ((List.replicate i (120 : UInt8) ++ List.replicate (k - i) 0).map byteV)] w',
    fun z s => match z with | .int _ z => k - z.toNat | _ => 0, ⟨0, _, rfl, rfl, Nat.zero_le _, by simpa using o2⟩, ?_⟩
  rintro z s ⟨i, w1, rfl, rfl, hi, o1⟩
  repeat' (first | refine go ?_ | intro _ | refine And.intro (by (first | omega | (unfold InR; omega) | decide)) ?_ | (refine And.intro (fun h1 => ?_) (fun h1 => ?_) <;> first | (exact absurd h1 (by decide)) | ((try rw [h1]); (try simp only [Bool.not_eq_true', Bool.not_eq_false', decide_eq_true_eq, decide_eq_false_iff_not, Bool.and_eq_true, Bool.or_eq_true, Bool.or_eq_false_iff, Bool.and_eq_false_imp, Int.not_lt, Int.not_le, Nat.not_lt, Nat.not_le] at h1))) | dsimp only)
  · have hlt : i < k := by omega
    exact ⟨⟨i + 1, _, rfl, rfl, hlt, Sub.hv (subRow rfl (by rw [← List.map_set, set_x k i hlt]) subEnd)⟩, by simp; omega⟩
  obtain rfl : i = k := by omega
  rw [Nat.sub_self, List.replicate_zero, List.append_nil] at *
  refine ⟨by simp; omega, ?_⟩
  repeat (first | refine go ?_ | intro _ | refine And.intro (by (first | omega | (unfold InR; omega) | decide | (simp only [List.length_append, List.length_map, List.length_take, List.length_drop, List.length_replicate, List.length_cons, List.length_nil, List.length_set]; omega))) ?_ | dsimp only)
  refine ⟨⟨feedS_len _ (by simp), by simp; omega⟩, ?_⟩
  repeat (first | refine go ?_ | intro _ | refine And.intro (by (first | omega | (unfold InR; omega) | decide | (simp only [List.length_append, List.length_map, List.length_take, List.length_drop, List.length_replicate, List.length_cons, List.length_nil, List.length_set]; omega))) ?_ | dsimp only)
  generalize hb : List.replicate i (120 : UInt8) ++ [13, 10, 110, 101, 120, 116, 10] = b at *
  generalize hA : List.take (a.toNat - 0) (List.drop 0 b) = A at *
  generalize hB : List.take (i + [13, 10, 110, 101, 120, 116, 10].length - a.toNat) (List.drop a.toNat b) = B at *
  have hlen : b.length = i + 7 := by rw [← hb]; simp
  have hA2 : A = b.take a.toNat := by rw [← hA]; simp
  have hB2 : B = b.drop a.toNat := by rw [← hB]; exact List.take_of_length_le (by simp [hlen])
  have hAB : A ++ B = b := by rw [hA2, hB2, List.take_append_drop]
  have hf := feed_long i (by omega)
  rw [hb, ← hAB, feedS_append] at hf
  simp only [Prod.mk.injEq] at hf
  obtain ⟨hf1, hf2⟩ := hf
  rename_i v12 w8 o8
  have e1 : (feedS ([], false) A).2.length + (feedS (feedS ([], false) A).1 B).2.length = 2 := by rw [← List.length_append, hf2]; rfl
  have e2 : List.flatMap encLn (feedS ([], false) A).2 ++ List.flatMap encLn (feedS (feedS ([], false) A).1 B).2 = [longL i, ([110, 101, 120, 116], false)].flatMap encLn := by rw [← List.flatMap_append, hf2]
  have e3 : List.map byteV (List.replicate i 120) ++ List.map byteV [13, 10, 110, 101, 120, 116, 10] = b.map byteV := by rw [← List.map_append, hb]
  rw [e3, hf1] at o8
  rw [e1, e2]
  clear e1 e2 hf2
  refine ⟨by decide, ?_⟩
  repeat' (first | refine go ?_ | intro _ | refine And.intro (by (first | omega | (unfold InR; omega) | decide | (simp only [List.length_append, List.length_map, List.length_take, List.length_drop, List.length_replicate, List.length_cons, List.length_nil, List.length_set]; omega))) ?_ | (refine And.intro (fun h1 => ?_) (fun h1 => ?_) <;> first | (exact absurd h1 (by decide)) | ((try rw [h1]); (try simp only [Bool.not_eq_true', Bool.not_eq_false', decide_eq_true_eq, decide_eq_false_iff_not, Bool.and_eq_true, Bool.or_eq_true, Bool.or_eq_false_iff, Bool.and_eq_false_imp, Int.not_lt, Int.not_le, Nat.not_lt, Nat.not_le] at h1))) | dsimp only)
  all_goals (simp only [Value.bool.injEq, decide_eq_true_eq] at *)
  all_goals first
    | exact absurd rfl ‹¬ ([longL i, ([110, 101, 120, 116], false)].getD (Int.toNat 1) default).fst = [110, 101, 120, 116]›
    | (exfalso; revert h1; show ¬ (false = true); decide)
    | (exfalso; rw [hf1] at h1; simp at h1; done)
    | skip
  all_goals by_cases hc : 510 < i
  all_goals first
    | (exfalso; omega)
    | (exfalso; simp [longL, hc] at h1; done)
    | (refine ⟨?_, Sub.hv subEnd⟩; simp [longL, hc]; done)
end Go.Proofs.Ytodnbkggkdadkaa
