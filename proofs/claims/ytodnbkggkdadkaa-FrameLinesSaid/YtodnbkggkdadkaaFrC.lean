import Derived.Test.YtodnbkggkdadkaaFrL
import Derived.Test.YtodnbkggkdadkaaSr
set_option linter.all false
namespace Go.Proofs.Ytodnbkggkdadkaa
open Go.Vx
instance awake_ok {K : Value → St → Prop} {w0 w : World} {H : List SL} {ds : List Deferred} [o : Hv w0 H w] : Step (Cl P 16 #[] K ⟨w, ds⟩) (∀ w', Hv w0 H w' → K (.bool true) ⟨w', ds⟩) := ⟨fun h => by
  refine cl_ok (c16 (K := fun v w' => K v ⟨w', ds⟩) ?_ fun v w' h => ⟨v, rfl, h⟩)
  unfold D16
  dsimp only
  repeat' (first | refine go ?_ | intro _ | refine And.intro (by (first | omega | (unfold InR; omega) | decide | (simp only [List.length_append, List.length_map, List.length_take, List.length_drop, List.length_replicate, List.length_cons, List.length_nil, List.length_set]; omega))) ?_ | (refine And.intro (fun h1 => ?_) (fun h1 => ?_) <;> first | (exact absurd h1 (by decide)) | ((try rw [h1]); (try simp only [Bool.not_eq_true', Bool.not_eq_false', decide_eq_true_eq, decide_eq_false_iff_not, Bool.and_eq_true, Bool.or_eq_true, Bool.or_eq_false_iff, Bool.and_eq_false_imp, Int.not_lt, Int.not_le, Nat.not_lt, Nat.not_le] at h1))) | dsimp only)
  all_goals first | exact h _ (Sub.hv subEnd) | (exfalso; revert h1; decide)⟩
theorem feeds_ok {w : World} {v : Value} {pss : List (List UInt8)} (hp : Pieces w v pss) : Calls P 4 #[v] w fun e w' => e = .returned (.bool true) ∧ Hv w [] w' := by
  refine c4 (K := fun v w' => v = .bool true ∧ Hv w [] w') ?_ fun v w' h => ⟨by rw [h.1], h.2⟩
  obtain ⟨vs, harg, hvl, hel⟩ := hp.outer
  have o := Hv.begin w
  unfold D4
  dsimp only
  repeat' (first | refine go ?_ | intro _ | refine And.intro (by (first | omega | (unfold InR; omega) | decide | (simp only [List.length_append, List.length_map, List.length_take, List.length_drop, List.length_replicate, List.length_cons, List.length_nil, List.length_set]; omega))) ?_ | (refine And.intro (fun h1 => ?_) (fun h1 => ?_) <;> first | (exact absurd h1 (by decide)) | ((try rw [h1]); (try simp only [Bool.not_eq_true', Bool.not_eq_false', decide_eq_true_eq, decide_eq_false_iff_not, Bool.and_eq_true, Bool.or_eq_true, Bool.or_eq_false_iff, Bool.and_eq_false_imp, Int.not_lt, Int.not_le, Nat.not_lt, Nat.not_le] at h1))) | dsimp only)
  · exact ⟨rfl, Sub.hv subEnd⟩
  rename_i f w1 o1
  refine ⟨fun x y z s => ∃ (i : Nat) (w' : World), z = .int .i64 i ∧ s = ⟨w', []⟩ ∧ i ≤ pss.length ∧ ((pss.take i).flatten.length ≤ 600 * i) ∧
     Hv w [row 5 1 x (pss.take i).flatten.length ((pss.take i).flatten.map byteV), row 39 2 y (feedS ([], false) (pss.take i).flatten).2.length ((feedS ([], false) (pss.take i).flatten).2.flatMap encLn), framer f (feedS ([], false) (pss.take i).flatten).1] w',
    fun _ _ z s => match z with | .int _ z => pss.length - z.toNat | _ => 0, ⟨0, w1, rfl, rfl, Nat.zero_le _, by simp, by simpa [feedS] using Hv.nilRow 5 1 (Hv.nilRow 39 2 o1)⟩, ?_⟩
  rintro x y z s ⟨i, w1, rfl, rfl, hi, hsz, o1⟩
  have hl1 := feedS_len (pss.take i).flatten (p := ([], false)) (by simp)
  have hl2 := feedS_out (pss.take i).flatten ([], false)
  rcases Nat.lt_or_ge i pss.length with hlt | hge
  · have ha := hel i hlt
    have hl3 := feedS_out (pss.getD i default) (feedS ([], false) (pss.take i).flatten).1
    have hl4 := feedS_len (pss.getD i default) hl1
    have ht : (pss.take (i + 1)).flatten = (pss.take i).flatten ++ pss.getD i default := by rw [take_snoc hlt]; simp
    obtain ⟨l1, l2, l3⟩ := feed_law ((pss.take i).flatten ++ pss.getD i default)
    rw [feedS_append] at l1 l2 l3
    dsimp only at l1 l2 l3
    repeat' (first | refine go ?_ | intro _ | refine And.intro (by (first | omega | (unfold InR; omega) | decide | (simp only [List.length_append, List.length_map, List.length_take, List.length_drop, List.length_replicate, List.length_cons, List.length_nil, List.length_set]; omega))) ?_ | (refine And.intro (fun h1 => ?_) (fun h1 => ?_) <;> first | (exact absurd h1 (by decide)) | ((try rw [h1]); (try simp only [Bool.not_eq_true', Bool.not_eq_false', decide_eq_true_eq, decide_eq_false_iff_not, Bool.and_eq_true, Bool.or_eq_true, Bool.or_eq_false_iff, Bool.and_eq_false_imp, Int.not_lt, Int.not_le, Nat.not_lt, Nat.not_le] at h1))) | dsimp only)
    all_goals first
      | exact ⟨rfl, Sub.hv subEnd⟩
      | exact Sub.hv subEnd
      | exact absurd l1 h1
      | (exfalso; rw [l3] at h1; simp at h1; done)
      | skip
    refine ⟨⟨i + 1, _, rfl, rfl, hlt, ?_, Sub.hv (subRow ?_ ?_ (subRow ?_ ?_ (subK ?_ subEnd)))⟩, by simp; omega⟩
    all_goals first | (rw [ht, List.length_append]; omega) | (simp [-List.getD_eq_getElem?_getD, ht, feedS_append]; done)
  · repeat' (first | refine go ?_ | intro _ | refine And.intro (by (first | omega | (unfold InR; omega) | decide | (simp only [List.length_append, List.length_map, List.length_take, List.length_drop, List.length_replicate, List.length_cons, List.length_nil, List.length_set]; omega))) ?_ | (refine And.intro (fun h1 => ?_) (fun h1 => ?_) <;> first | (exact absurd h1 (by decide)) | ((try rw [h1]); (try simp only [Bool.not_eq_true', Bool.not_eq_false', decide_eq_true_eq, decide_eq_false_iff_not, Bool.and_eq_true, Bool.or_eq_true, Bool.or_eq_false_iff, Bool.and_eq_false_imp, Int.not_lt, Int.not_le, Nat.not_lt, Nat.not_le] at h1))) | dsimp only)
    all_goals first
      | exact ⟨rfl, Sub.hv subEnd⟩
      | exact Sub.hv subEnd
      | (exfalso; omega)
end Go.Proofs.Ytodnbkggkdadkaa
