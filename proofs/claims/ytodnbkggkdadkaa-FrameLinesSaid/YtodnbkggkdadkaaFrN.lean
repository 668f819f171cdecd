import Derived.Test.YtodnbkggkdadkaaFrC
set_option linter.all false
namespace Go.Proofs.Ytodnbkggkdadkaa
open Go.Vx
/-! all lines, told one by one -/
theorem feed_upto (pss : List (List UInt8)) (i : Nat) (hi : i < pss.length) : ∃ r, (feedS ([], false) pss.flatten).2 = (feedS ([], false) (pss.take i).flatten).2 ++ (feedS (feedS ([], false) (pss.take i).flatten).1 (pss.getD i default)).2 ++ r := by
  have h : pss.flatten = (pss.take i).flatten ++ (pss.getD i default ++ (pss.drop (i + 1)).flatten) := by
    have : pss = pss.take i ++ (pss.getD i default :: pss.drop (i + 1)) := by simp [hi]
    conv => lhs; rw [this]
    simp
  rw [h, feedS_append, feedS_append]
  exact ⟨_, (List.append_assoc _ _ _).symm⟩
theorem lines_seq {w0 : World} {pv : Value} {pss : List (List UInt8)} (b : Nat) (hp : Pieces w0 pv pss) (hn : pss.length ≤ 20) (hl : ∀ i, i < pss.length → (pss.getD i default).length ≤ 600) :
    SeqOf P w0 (.func (.func 43) #[] #[.pointer (some ⟨b, 0, none⟩)]) [box b 27 [pv]] (fun x => [lnV x]) (feedS ([], false) pss.flatten).2 := by
  intro l J X w ds K o hy hk hx
  have y : Yld P w0 l J X (fun x => [lnV x]) (feedS ([], false) pss.flatten).2 := ⟨hy⟩
  obtain ⟨vs, harg, hvl, hel⟩ := hp.outer
  refine go ?_
  refine cl_ok (c43 (K := fun v w' => K v ⟨w', ds⟩) ?_ fun v w' h => ⟨v, rfl, h⟩)
  unfold D43
  repeat (first | refine go ?_ | intro _ | refine And.intro (by (first | omega | (unfold InR; omega) | decide | (simp only [List.length_append, List.length_map, List.length_take, List.length_drop, List.length_replicate, List.length_cons, List.length_nil, List.length_set]; omega))) ?_ | dsimp only)
  rename_i f w1 o1
  refine ⟨fun z s => ∃ (i : Nat) (w' : World), z = .int .i64 i ∧ s = ⟨w', []⟩ ∧ i ≤ pss.length ∧ Hv w0 [framer f (feedS ([], false) (pss.take i).flatten).1, J (feedS ([], false) (pss.take i).flatten).2.length, box b 27 [pv]] w',
    fun z s => match z with | .int _ z => pss.length - z.toNat | _ => 0, ⟨0, w1, rfl, rfl, Nat.zero_le _, by simpa [feedS] using o1⟩, ?_⟩
  rintro z s ⟨i, w2, rfl, rfl, hi, o2⟩
  rcases Nat.lt_or_ge i pss.length with hlt | hge
  · have ha := hel i hlt
    have hli := hl i hlt
    have hw1 := feedS_len (pss.take i).flatten (p := ([], false)) (by simp)
    have hw2 := feedS_out (pss.getD i default) (feedS ([], false) (pss.take i).flatten).1
    obtain ⟨r, hr⟩ := feed_upto pss i hlt
    have ht : (pss.take (i + 1)).flatten = (pss.take i).flatten ++ pss.getD i default := by rw [take_snoc hlt]; simp
    repeat' (first | refine go ?_ | intro _ | refine And.intro (by (first | omega | (unfold InR; omega) | decide | (simp only [List.length_append, List.length_map, List.length_take, List.length_drop, List.length_replicate, List.length_cons, List.length_nil, List.length_set]; omega))) ?_ | (refine And.intro (fun h1 => ?_) (fun h1 => ?_) <;> first | (exact absurd h1 (by decide)) | ((try rw [h1]); (try simp only [Bool.not_eq_true', Bool.not_eq_false', decide_eq_true_eq, decide_eq_false_iff_not, Bool.and_eq_true, Bool.or_eq_true, Bool.or_eq_false_iff, Bool.and_eq_false_imp, Int.not_lt, Int.not_le, Nat.not_lt, Nat.not_le] at h1))) | dsimp only)
    all_goals first
      | (exfalso; omega)
      | skip
    rename_i v w3 o3
    refine ⟨fun z s => ∃ (k : Nat) (w' : World), z = .int .i64 k ∧ s = ⟨w', []⟩ ∧ k ≤ (feedS (feedS ([], false) (pss.take i).flatten).1 (pss.getD i default)).2.length ∧
      Hv w0 [row 39 2 v (feedS (feedS ([], false) (pss.take i).flatten).1 (pss.getD i default)).2.length ((feedS (feedS ([], false) (pss.take i).flatten).1 (pss.getD i default)).2.flatMap encLn), framer f (feedS (feedS ([], false) (pss.take i).flatten).1 (pss.getD i default)).1, J ((feedS ([], false) (pss.take i).flatten).2.length + k), box b 27 [pv]] w',
      fun z s => match z with | .int _ z => (feedS (feedS ([], false) (pss.take i).flatten).1 (pss.getD i default)).2.length - z.toNat | _ => 0, ⟨0, w3, rfl, rfl, Nat.zero_le _, by simpa using o3⟩, ?_⟩
    rintro z s ⟨k, w4, rfl, rfl, hkl, o4⟩
    repeat' (first | refine go ?_ | intro _ | refine And.intro (by (first | omega | (unfold InR; omega) | decide | (simp only [List.length_append, List.length_map, List.length_take, List.length_drop, List.length_replicate, List.length_cons, List.length_nil, List.length_set]; omega))) ?_ | (refine And.intro (fun h1 => ?_) (fun h1 => ?_) <;> first | (exact absurd h1 (by decide)) | ((try rw [h1]); (try simp only [Bool.not_eq_true', Bool.not_eq_false', decide_eq_true_eq, decide_eq_false_iff_not, Bool.and_eq_true, Bool.or_eq_true, Bool.or_eq_false_iff, Bool.and_eq_false_imp, Int.not_lt, Int.not_le, Nat.not_lt, Nat.not_le] at h1))) | dsimp only)
    · have hk1 : k < (feedS (feedS ([], false) (pss.take i).flatten).1 (pss.getD i default)).2.length := by omega
      have hxs : (feedS ([], false) pss.flatten).2[(feedS ([], false) (pss.take i).flatten).2.length + k]? = some ((feedS (feedS ([], false) (pss.take i).flatten).1 (pss.getD i default)).2.getD k default) := by
        rw [hr, List.append_assoc, List.getElem?_append_right (by omega), List.getElem?_append_left (by omega), Nat.add_sub_cancel_left]
        exact getD_at hk1
      refine ⟨_, hxs, rfl, fun w' o5 => ?_, fun w' o5 => ?_⟩
      · repeat' (first | refine go ?_ | intro _ | refine And.intro (by (first | omega | (unfold InR; omega) | decide | (simp only [List.length_append, List.length_map, List.length_take, List.length_drop, List.length_replicate, List.length_cons, List.length_nil, List.length_set]; omega))) ?_ | (refine And.intro (fun h1 => ?_) (fun h1 => ?_) <;> first | (exact absurd h1 (by decide)) | ((try rw [h1]); (try simp only [Bool.not_eq_true', Bool.not_eq_false', decide_eq_true_eq, decide_eq_false_iff_not, Bool.and_eq_true, Bool.or_eq_true, Bool.or_eq_false_iff, Bool.and_eq_false_imp, Int.not_lt, Int.not_le, Nat.not_lt, Nat.not_le] at h1))) | dsimp only)
        exact ⟨⟨k + 1, _, rfl, rfl, hk1, Sub.hv (subRow rfl rfl (subK rfl (subJ (by omega) (subBox rfl subEnd))))⟩, by simp [-List.getD_eq_getElem?_getD]; omega⟩
      · repeat' (first | refine go ?_ | intro _ | refine And.intro (by (first | omega | (unfold InR; omega) | decide | (simp only [List.length_append, List.length_map, List.length_take, List.length_drop, List.length_replicate, List.length_cons, List.length_nil, List.length_set]; omega))) ?_ | (refine And.intro (fun h1 => ?_) (fun h1 => ?_) <;> first | (exact absurd h1 (by decide)) | ((try rw [h1]); (try simp only [Bool.not_eq_true', Bool.not_eq_false', decide_eq_true_eq, decide_eq_false_iff_not, Bool.and_eq_true, Bool.or_eq_true, Bool.or_eq_false_iff, Bool.and_eq_false_imp, Int.not_lt, Int.not_le, Nat.not_lt, Nat.not_le] at h1))) | dsimp only)
        exact hx _ _ _ _ hxs o5.drop1
    · have hke : k = (feedS (feedS ([], false) (pss.take i).flatten).1 (pss.getD i default)).2.length := by omega
      refine ⟨⟨i + 1, _, rfl, rfl, hlt, Sub.hv (subK ?_ (subJ ?_ (subBox rfl subEnd)))⟩, by simp; omega⟩
      · rw [ht, feedS_append]
      · rw [ht, feedS_append, List.length_append, hke]
  · repeat' (first | refine go ?_ | intro _ | refine And.intro (by (first | omega | (unfold InR; omega) | decide | (simp only [List.length_append, List.length_map, List.length_take, List.length_drop, List.length_replicate, List.length_cons, List.length_nil, List.length_set]; omega))) ?_ | (refine And.intro (fun h1 => ?_) (fun h1 => ?_) <;> first | (exact absurd h1 (by decide)) | ((try rw [h1]); (try simp only [Bool.not_eq_true', Bool.not_eq_false', decide_eq_true_eq, decide_eq_false_iff_not, Bool.and_eq_true, Bool.or_eq_true, Bool.or_eq_false_iff, Bool.and_eq_false_imp, Int.not_lt, Int.not_le, Nat.not_lt, Nat.not_le] at h1))) | dsimp only)
    all_goals first
      | (exfalso; omega)
      | skip
    rw [List.take_of_length_le hge] at o2
    exact hk _ _ (Hv.toJ rfl)
instance lines_ok {K : Value → St → Prop} {w0 w : World} {H : List SL} {ds : List Deferred} {pv : Value} {n : Nat} {zs : List Value} [o : Hv w0 H w] [r : RdsF w0 H pv 1 n zs] :
    Step (Cl P 23 #[pv] K ⟨w, ds⟩) (∀ b w', Hv w0 (box b 27 [pv] :: H) w' → K (.func (.func 43) #[] #[.pointer (some ⟨b, 0, none⟩)]) ⟨w', ds⟩) := ⟨fun h => by
  refine cl_ok (c23 (K := fun v w' => K v ⟨w', ds⟩) ?_ fun v w' h => ⟨v, rfl, h⟩)
  have rl := r.loc
  unfold D23
  repeat' (first | refine go ?_ | intro _ | refine And.intro (by (first | omega | (unfold InR; omega) | decide | (simp only [List.length_append, List.length_map, List.length_take, List.length_drop, List.length_replicate, List.length_cons, List.length_nil, List.length_set]; omega))) ?_ | (refine And.intro (fun h1 => ?_) (fun h1 => ?_) <;> first | (exact absurd h1 (by decide)) | ((try rw [h1]); (try simp only [Bool.not_eq_true', Bool.not_eq_false', decide_eq_true_eq, decide_eq_false_iff_not, Bool.and_eq_true, Bool.or_eq_true, Bool.or_eq_false_iff, Bool.and_eq_false_imp, Int.not_lt, Int.not_le, Nat.not_lt, Nat.not_le] at h1))) | dsimp only)
  exact h _ _ ‹_›⟩
theorem flines_ok {w : World} {v : Value} {pss : List (List UInt8)} (hp : Pieces w v pss) : Calls P 7 #[v] w fun e w' => e = .returned (.bool true) ∧ Hv w [] w' := by
  refine c7 (K := fun v w' => v = .bool true ∧ Hv w [] w') ?_ fun v w' h => ⟨by rw [h.1], h.2⟩
  obtain ⟨vs, harg, hvl, hel⟩ := hp.outer
  have o := Hv.begin w
  unfold D7
  dsimp only
  repeat' (first | refine go ?_ | intro _ | refine And.intro (by (first | omega | (unfold InR; omega) | decide | (simp only [List.length_append, List.length_map, List.length_take, List.length_drop, List.length_replicate, List.length_cons, List.length_nil, List.length_set]; omega))) ?_ | (refine And.intro (fun h1 => ?_) (fun h1 => ?_) <;> first | (exact absurd h1 (by decide)) | ((try rw [h1]); (try simp only [Bool.not_eq_true', Bool.not_eq_false', decide_eq_true_eq, decide_eq_false_iff_not, Bool.and_eq_true, Bool.or_eq_true, Bool.or_eq_false_iff, Bool.and_eq_false_imp, Int.not_lt, Int.not_le, Nat.not_lt, Nat.not_le] at h1))) | dsimp only)
  · exact ⟨rfl, Sub.hv subEnd⟩
  rename_i b _ _ w1 o1 _
  refine ⟨fun x z s => ∃ (i : Nat) (w' : World), z = .int .i64 i ∧ s = ⟨w', []⟩ ∧ i ≤ pss.length ∧ (∀ j, j < i → (pss.getD j default).length ≤ 600) ∧ (pss.take i).flatten.length ≤ 600 * i ∧
     Hv w [row 5 1 x (pss.take i).flatten.length ((pss.take i).flatten.map byteV), box b 4 [.bool false]] w',
    fun _ z s => match z with | .int _ z => pss.length - z.toNat | _ => 0, ⟨0, w1, rfl, rfl, Nat.zero_le _, fun j h => by omega, by simp, by simpa using Hv.nilRow 5 1 o1⟩, ?_⟩
  rintro x z s ⟨i, w2, rfl, rfl, hi, hall, hsz, o2⟩
  rcases Nat.lt_or_ge i pss.length with hlt | hge
  · have ha := hel i hlt
    have ht : (pss.take (i + 1)).flatten = (pss.take i).flatten ++ pss.getD i default := by rw [take_snoc hlt]; simp
    repeat' (first | refine go ?_ | intro _ | refine And.intro (by (first | omega | (unfold InR; omega) | decide | (simp only [List.length_append, List.length_map, List.length_take, List.length_drop, List.length_replicate, List.length_cons, List.length_nil, List.length_set]; omega))) ?_ | (refine And.intro (fun h1 => ?_) (fun h1 => ?_) <;> first | (exact absurd h1 (by decide)) | ((try rw [h1]); (try simp only [Bool.not_eq_true', Bool.not_eq_false', decide_eq_true_eq, decide_eq_false_iff_not, Bool.and_eq_true, Bool.or_eq_true, Bool.or_eq_false_iff, Bool.and_eq_false_imp, Int.not_lt, Int.not_le, Nat.not_lt, Nat.not_le] at h1))) | dsimp only)
    all_goals first
      | (exfalso; omega)
      | exact ⟨rfl, Sub.hv subEnd⟩
      | skip
    refine ⟨⟨i + 1, _, rfl, rfl, hlt, fun j hj => ?_, ?_, Sub.hv (subRow ?_ ?_ (subBox rfl subEnd))⟩, by simp; omega⟩
    · rcases Nat.lt_or_ge j i with h | h
      · exact hall j h
      · obtain rfl : j = i := by omega
        omega
    all_goals first | (rw [ht, List.length_append]; omega) | (simp [-List.getD_eq_getElem?_getD, ht]; done)
  · obtain rfl : i = pss.length := by omega
    rw [List.take_length] at o2 hsz
    obtain ⟨l1, _, _⟩ := feed_law pss.flatten
    have hle : (allS pss.flatten).1.length ≤ 600 * pss.length := by
      have : (allS pss.flatten).1 = (allTo pss.flatten pss.flatten.length).1 := by unfold allS; split <;> rfl
      rw [this]
      exact Nat.le_trans (allTo_le pss.flatten pss.flatten.length).2 hsz
    repeat' (first | refine go ?_ | intro _ | refine And.intro (by (first | omega | (unfold InR; omega) | decide | (simp only [List.length_append, List.length_map, List.length_take, List.length_drop, List.length_replicate, List.length_cons, List.length_nil, List.length_set]; omega))) ?_ | (refine And.intro (fun h1 => ?_) (fun h1 => ?_) <;> first | (exact absurd h1 (by decide)) | ((try rw [h1]); (try simp only [Bool.not_eq_true', Bool.not_eq_false', decide_eq_true_eq, decide_eq_false_iff_not, Bool.and_eq_true, Bool.or_eq_true, Bool.or_eq_false_iff, Bool.and_eq_false_imp, Int.not_lt, Int.not_le, Nat.not_lt, Nat.not_le] at h1))) | dsimp only)
    all_goals first
      | (exfalso; omega)
      | skip
    rename_i gv w3 o3 bw w4 o4 w5 o5 bg w6 o6 bp w7 o7
    refine rf_go (T := [box bp 27 [v]]) (J := fun i => any fun g => many [box bg 31 [g], row 39 2 g i (((allS pss.flatten).1.take i).flatMap encLn), box bw 31 [gv], row 39 2 gv (allS pss.flatten).1.length ((allS pss.flatten).1.flatMap encLn), box b 4 [.bool false]])
      (XR := fun _ => lift False) (XE := fun _ _ => lift False) (lines_seq bp hp (by omega) (fun i hi => hall i hi)) (fun _ => rfl) ?_ ?_ ?_ (fun b i x w' _ h => h.lifted.elim) (fun b j i x w' _ h => h.lifted.elim)
    · refine Hv.give (.slice none 0 0) (Hv.closes (H := [_, _, _, _, _]) ?_)
      have := Hv.nilRow 39 2 o7
      simpa using (Sub.hv (subBox rfl (subRow rfl rfl (subBox rfl (subRow rfl rfl (subBox rfl (subBox rfl subEnd)))))) : Hv w [box bg 31 [.slice none 0 0], row 39 2 (.slice none 0 0) 0 [], box bw 31 [gv], row 39 2 gv (allS pss.flatten).1.length ((allS pss.flatten).1.flatMap encLn), box b 4 [.bool false], box bp 27 [v]] w7)
    · rw [l1]
      intro bd l rc R F w8 i xl hi o8 hn hr hx
      obtain ⟨g, o9⟩ := o8.pick
      have o10 := o9.opens
      dsimp only [List.cons_append, List.nil_append] at o10
      dsimp only [List.headD]
      have hlt : i < (allS pss.flatten).1.length := (List.getElem?_eq_some_iff.1 hi).1
      clear o8 o9
      repeat' (first | refine go ?_ | intro _ | refine And.intro (by (first | omega | (unfold InR; omega) | decide | (simp only [List.length_append, List.length_map, List.length_take, List.length_drop, List.length_replicate, List.length_cons, List.length_nil, List.length_set]; omega))) ?_ | (refine And.intro (fun h1 => ?_) (fun h1 => ?_) <;> first | (exact absurd h1 (by decide)) | ((try rw [h1]); (try simp only [Bool.not_eq_true', Bool.not_eq_false', decide_eq_true_eq, decide_eq_false_iff_not, Bool.and_eq_true, Bool.or_eq_true, Bool.or_eq_false_iff, Bool.and_eq_false_imp, Int.not_lt, Int.not_le, Nat.not_lt, Nat.not_le] at h1))) | dsimp only)
      all_goals first
        | (exfalso; omega)
        | skip
      refine hn _ (Hv.give _ (Hv.closes (H := [_, _, _, _, _]) (Sub.hv (subBox rfl (subRow rfl ?_ (subBox rfl (subRow rfl rfl (subBox rfl (subA (subA subEnd))))))))))
      have hx : xl = (allS pss.flatten).1.getD i default := by simp [hi]
      simp [-List.getD_eq_getElem?_getD, take_snoc hlt, hx]
    · intro bd w8 o8
      obtain ⟨g, o9⟩ := o8.pick
      have o10 := o9.opens
      dsimp only [List.cons_append, List.nil_append] at o10
      rw [l1, List.take_length] at o10
      clear o8 o9
      repeat' (first | refine go ?_ | intro _ | refine And.intro (by (first | omega | (unfold InR; omega) | decide | (simp only [List.length_append, List.length_map, List.length_take, List.length_drop, List.length_replicate, List.length_cons, List.length_nil, List.length_set]; omega))) ?_ | (refine And.intro (fun h1 => ?_) (fun h1 => ?_) <;> first | (exact absurd h1 (by decide)) | ((try rw [h1]); (try simp only [Bool.not_eq_true', Bool.not_eq_false', decide_eq_true_eq, decide_eq_false_iff_not, Bool.and_eq_true, Bool.or_eq_true, Bool.or_eq_false_iff, Bool.and_eq_false_imp, Int.not_lt, Int.not_le, Nat.not_lt, Nat.not_le] at h1))) | dsimp only)
      exact ⟨by simp, Sub.hv subEnd⟩
end Go.Proofs.Ytodnbkggkdadkaa
