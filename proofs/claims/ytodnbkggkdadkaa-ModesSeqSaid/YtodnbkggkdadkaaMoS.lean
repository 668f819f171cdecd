import Derived.Test.YtodnbkggkdadkaaMoD
set_option linter.all false
namespace Go.Proofs.Ytodnbkggkdadkaa
open Go.Vx
theorem seqS_sign {on : Bool} {l : List UInt8} {k : Nat} (h : k < l.length) : seqS on (l.drop k) = if l.getD k default = 43 then seqS true (l.drop (k + 1)) else if l.getD k default = 45 then seqS false (l.drop (k + 1)) else (l.getD k default, on) :: seqS on (l.drop (k + 1)) := by
  have : l.drop k = l.getD k default :: l.drop (k + 1) := by rw [List.drop_eq_getElem_cons h]; simp [h]
  rw [this]; rfl
theorem mseq_ok {w : World} (l : List UInt8) : Calls P 9 #[str l] w fun e w' => e = .returned (.bool true) ∧ Hv w [] w' := by
  refine c9 (K := fun v w' => v = .bool true ∧ Hv w [] w') ?_ fun v w' h => ⟨by rw [h.1], h.2⟩
  have o := Hv.begin w
  unfold D9
  dsimp only
  repeat' (first | refine go ?_ | intro _ | refine And.intro (by (first | omega | (unfold InR; omega) | decide | (simp only [List.length_append, List.length_map, List.length_take, List.length_drop, List.length_replicate, List.length_cons, List.length_nil, List.length_set]; omega))) ?_ | (refine And.intro (fun h1 => ?_) (fun h1 => ?_) <;> first | (exact absurd h1 (by decide)) | ((try rw [h1]); (try simp only [Bool.not_eq_true', Bool.not_eq_false', decide_eq_true_eq, decide_eq_false_iff_not, Bool.and_eq_true, Bool.or_eq_true, Bool.or_eq_false_iff, Bool.and_eq_false_imp, Int.not_lt, Int.not_le, Nat.not_lt, Nat.not_le] at h1))) | dsimp only)
  · exact ⟨rfl, Sub.hv subEnd⟩
  rename_i br _ _ bz _ _ _ _ _ bat _ _ _ _ bnow _ _ _ _ bgood _ _ _ _ bq w1 o1
  have hl : l.length ≤ 100 := by omega
  refine rf_go (w0 := w) (T := [box bq 9 [str l]]) (J := fun i => any fun q : Nat × Bool => many [lift (q.1 ≤ l.length ∧ seqS q.2 (l.drop q.1) = (seqS true l).drop i), box bat 3 [.int .i64 q.1], box bnow 4 [.bool q.2], box bgood 4 [.bool true], box bz 4 [.bool false], box br 9 [str l]])
      (XR := fun _ => lift False) (XE := fun _ _ => lift False) (seq_seq bq l (by omega)) (fun _ => rfl) ?_ ?_ ?_ (fun b i x w' _ h => h.lifted.elim) (fun b j i x w' _ h => h.lifted.elim)
  · refine Hv.give (0, true) (Hv.closes (H := [_, _, _, _, _, _]) ?_)
    exact Hv.lift (Sub.hv (subBox rfl (subBox rfl (subBox rfl (subBox rfl (subBox rfl (subBox rfl subEnd)))))) : Hv w [box bat 3 [.int .i64 0], box bnow 4 [.bool true], box bgood 4 [.bool true], box bz 4 [.bool false], box br 9 [str l], box bq 9 [str l]] w1) ⟨Nat.zero_le _, by simp⟩
  · intro bd y rc R F w8 i xl hi o8 hn hr hx
    obtain ⟨⟨k, now⟩, o9⟩ := o8.pick
    have o10 := o9.opens
    dsimp only [List.cons_append, List.nil_append, List.headD, List.tail] at o10 ⊢
    obtain ⟨hk, hsq⟩ := o10.lifted
    have o11 := o10.tail
    have hlt : i < (seqS true l).length := (List.getElem?_eq_some_iff.1 hi).1
    have hdr : (seqS true l).drop i = xl :: (seqS true l).drop (i + 1) := by
      rw [List.drop_eq_getElem_cons hlt]
      rw [List.getElem?_eq_getElem hlt, Option.some.injEq] at hi
      rw [hi]
    rw [hdr] at hsq
    clear o8 o9 o10 hdr
    repeat (first | refine go ?_ | intro _ | refine And.intro (by (first | omega | (unfold InR; omega) | decide | (simp only [List.length_append, List.length_map, List.length_take, List.length_drop, List.length_replicate, List.length_cons, List.length_nil, List.length_set]; omega))) ?_ | dsimp only)
    refine l0_ind (fun m s => ∃ (k : Nat) (now : Bool) (w' : World), s = ⟨w', []⟩ ∧ m = l.length - k ∧ k ≤ l.length ∧ seqS now (l.drop k) = xl :: (seqS true l).drop (i + 1) ∧ Hv w (box bat 3 [.int .i64 k] :: box bnow 4 [.bool now] :: box bgood 4 [.bool true] :: box bz 4 [.bool false] :: box br 9 [str l] :: lpB rc y :: dfb bd :: F) w')
      ⟨_, k, now, _, rfl, rfl, hk, hsq, Sub.hv (subBox rfl (subBox rfl (subBox rfl (subBox rfl (subBox rfl (subA subEnd))))))⟩ ?_
    rintro m s N ⟨k, now, w', rfl, rfl, hk, hsq, o12⟩ hN
    rcases Nat.lt_or_ge k l.length with hkl | hkg
    · rw [seqS_sign hkl] at hsq
      repeat' (first | refine go ?_ | intro _ | refine And.intro (by (first | omega | (unfold InR; omega) | decide | (simp only [List.length_append, List.length_map, List.length_take, List.length_drop, List.length_replicate, List.length_cons, List.length_nil, List.length_set]; omega))) ?_ | (refine And.intro (fun h1 => ?_) (fun h1 => ?_) <;> first | (exact absurd h1 (by decide)) | ((try rw [h1]); (try simp only [Bool.not_eq_true', Bool.not_eq_false', decide_eq_true_eq, decide_eq_false_iff_not, Bool.and_eq_true, Bool.or_eq_true, Bool.or_eq_false_iff, Bool.and_eq_false_imp, Int.not_lt, Int.not_le, Nat.not_lt, Nat.not_le] at h1))) | dsimp only)
      all_goals first
        | (exfalso; omega)
        | skip
      · rw [if_neg ‹_›, if_pos h1] at hsq
        exact hN _ _ (by omega) ⟨k + 1, _, _, rfl, rfl, hkl, hsq, Sub.hv (subBox rfl (subBox (by congr 2; simp; grind) (subBox rfl (subBox rfl (subBox rfl (subA subEnd))))))⟩
      · rw [if_neg ‹_›, if_neg ‹_›, List.cons.injEq] at hsq
        obtain ⟨e1, e2⟩ := hsq
        subst e1
        refine hn _ (Hv.give (k + 1, now) (Hv.closes (H := [_, _, _, _, _, _]) (Hv.lift (Sub.hv (subBox rfl (subBox rfl (subBox (by simp) (subBox rfl (subBox rfl (subA (subA subEnd)))))))) ⟨hkl, e2⟩)))
      · rw [if_neg ‹_›, if_neg ‹_›, List.cons.injEq] at hsq
        exact absurd (by rw [← hsq.1]) h1
      · rw [if_pos h1] at hsq
        exact hN _ _ (by omega) ⟨k + 1, _, _, rfl, rfl, hkl, hsq, Sub.hv (subBox rfl (subBox (by simp [-List.getD_eq_getElem?_getD, h1]) (subBox rfl (subBox rfl (subBox rfl (subA subEnd))))))⟩
    · rw [List.drop_eq_nil_of_le hkg] at hsq
      cases hsq
  · intro bd w8 o8
    obtain ⟨⟨k, now⟩, o9⟩ := o8.pick
    have o10 := o9.opens
    dsimp only [List.cons_append, List.nil_append] at o10
    obtain ⟨hk, hsq⟩ := o10.lifted
    have o11 := o10.tail
    rw [List.drop_length] at hsq
    clear o8 o9 o10
    refine l0_ind (fun m s => ∃ (k : Nat) (on : Bool) (w' : World), s = ⟨w', [mk bd]⟩ ∧ m = l.length - k ∧ k ≤ l.length ∧ seqS on (l.drop k) = [] ∧ Hv w (box bat 3 [.int .i64 k] :: box bnow 4 [.bool now] :: box bgood 4 [.bool true] :: box bz 4 [.bool false] :: box br 9 [str l] :: dfb bd :: []) w')
      ⟨_, k, now, _, rfl, rfl, hk, hsq, Sub.hv (subBox rfl (subBox rfl (subBox rfl (subBox rfl (subBox rfl (subA subEnd))))))⟩ ?_
    rintro m s N ⟨k, on, w', rfl, rfl, hk, hsq, o12⟩ hN
    rcases Nat.lt_or_ge k l.length with hkl | hkg
    · rw [seqS_sign hkl] at hsq
      repeat' (first | refine go ?_ | intro _ | refine And.intro (by (first | omega | (unfold InR; omega) | decide | (simp only [List.length_append, List.length_map, List.length_take, List.length_drop, List.length_replicate, List.length_cons, List.length_nil, List.length_set]; omega))) ?_ | (refine And.intro (fun h1 => ?_) (fun h1 => ?_) <;> first | (exact absurd h1 (by decide)) | ((try rw [h1]); (try simp only [Bool.not_eq_true', Bool.not_eq_false', decide_eq_true_eq, decide_eq_false_iff_not, Bool.and_eq_true, Bool.or_eq_true, Bool.or_eq_false_iff, Bool.and_eq_false_imp, Int.not_lt, Int.not_le, Nat.not_lt, Nat.not_le] at h1))) | dsimp only)
      all_goals first
        | (exfalso; omega)
        | skip
      · rw [if_neg ‹_›, if_pos h1] at hsq
        exact hN _ _ (by omega) ⟨k + 1, _, _, rfl, rfl, hkl, hsq, Sub.hv (subBox rfl (subBox rfl (subBox rfl (subBox rfl (subBox rfl (subA subEnd))))))⟩
      · rw [if_neg ‹_›, if_neg ‹_›] at hsq
        cases hsq
      · rw [if_pos h1] at hsq
        exact hN _ _ (by omega) ⟨k + 1, _, _, rfl, rfl, hkl, hsq, Sub.hv (subBox rfl (subBox rfl (subBox rfl (subBox rfl (subBox rfl (subA subEnd))))))⟩
    · repeat' (first | refine go ?_ | intro _ | refine And.intro (by (first | omega | (unfold InR; omega) | decide | (simp only [List.length_append, List.length_map, List.length_take, List.length_drop, List.length_replicate, List.length_cons, List.length_nil, List.length_set]; omega))) ?_ | (refine And.intro (fun h1 => ?_) (fun h1 => ?_) <;> first | (exact absurd h1 (by decide)) | ((try rw [h1]); (try simp only [Bool.not_eq_true', Bool.not_eq_false', decide_eq_true_eq, decide_eq_false_iff_not, Bool.and_eq_true, Bool.or_eq_true, Bool.or_eq_false_iff, Bool.and_eq_false_imp, Int.not_lt, Int.not_le, Nat.not_lt, Nat.not_le] at h1))) | dsimp only)
      all_goals first
        | (exfalso; omega)
        | skip
      refine ⟨?_, Sub.hv subEnd⟩
      congr 1
      simp only [decide_eq_true_eq]; omega
end Go.Proofs.Ytodnbkggkdadkaa
