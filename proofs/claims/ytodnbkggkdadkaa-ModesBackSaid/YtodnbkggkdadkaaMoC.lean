import Derived.Test.YtodnbkggkdadkaaMoB
set_option linter.all false
namespace Go.Proofs.Ytodnbkggkdadkaa
open Go.Vx
theorem getD_headD (ss : List (List UInt8)) : ss.getD 0 default = ss.headD [] := by cases ss <;> rfl
theorem parseS_eq {ss : List (List UInt8)} (h : 0 < ss.length) : parseS ss = (foldP ss.tail (seqS true (ss.getD 0 default))).1 := by
  cases ss with
  | nil => simp at h
  | cons r rest => rfl
instance parseR_ok {K : Value → St → Prop} {w0 w : World} {H : List SL} {ds : List Deferred} {x : Value} {ss : List (List UInt8)} {n : Nat} {zs : List Value} [o : Hv w0 H w] [rf : RdsF w0 H x 1 n zs] [bz : Strs zs ss] :
    Step (Cl P 29 #[x] K ⟨w, ds⟩) ((ss.headD []).length ≤ 1000000 ∧ ∀ v w', Hv w0 (row 51 3 v (parseS ss).length ((parseS ss).flatMap encC) :: H) w' → K v ⟨w', ds⟩) := ⟨fun ⟨hb, h⟩ => by
  refine cl_ok (c29 (K := fun v w' => K v ⟨w', ds⟩) ?_ fun v w' h => ⟨v, rfl, h⟩)
  obtain rfl := bz.eq
  obtain rfl : n = ss.length := by have := (rf.rd w o).len; simpa using this.symm
  have rl := rf.loc
  unfold D29
  dsimp only
  have hlm := (rf.rd w o).le
  simp only [maxLen] at hlm
  repeat' (first | refine go ?_ | intro _ | refine And.intro (by (first | omega | (unfold InR; omega) | decide | (simp only [List.length_append, List.length_map, List.length_take, List.length_drop, List.length_replicate, List.length_cons, List.length_nil, List.length_set]; omega))) ?_ | (refine And.intro (fun h1 => ?_) (fun h1 => ?_) <;> first | (exact absurd h1 (by decide)) | ((try rw [h1]); (try simp only [Bool.not_eq_true', Bool.not_eq_false', decide_eq_true_eq, decide_eq_false_iff_not, Bool.and_eq_true, Bool.or_eq_true, Bool.or_eq_false_iff, Bool.and_eq_false_imp, Int.not_lt, Int.not_le, Nat.not_lt, Nat.not_le] at h1))) | dsimp only)
  · have : ss = [] := List.eq_nil_of_length_eq_zero (by omega)
    subst this
    exact h _ _ (by simpa [parseS] using Hv.nilRow 51 3 o)
  have hss : 0 < ss.length := by omega
  have hb' : (ss.getD 0 default).length ≤ 1000000 := by rw [getD_headD]; exact hb
  rw [parseS_eq hss] at h
  have hrt : ss.tail.length = ss.length - 1 := List.length_tail
  refine ⟨fun a b c d e s => ∃ (i : Nat) (w' : World), b = .bool (signS true ((ss.getD 0 default).take i)) ∧ c = .int .i64 ((ss.length - (foldP ss.tail (seqS true ((ss.getD 0 default).take i))).2.1.length : Nat) : Int) ∧ d = .int .i64 (foldP ss.tail (seqS true ((ss.getD 0 default).take i))).2.2 ∧ e = .int .i64 i ∧ s = ⟨w', []⟩ ∧ i ≤ (ss.getD 0 default).length ∧
       Hv w0 (row 51 3 a (foldP ss.tail (seqS true ((ss.getD 0 default).take i))).1.length ((foldP ss.tail (seqS true ((ss.getD 0 default).take i))).1.flatMap encC) :: H) w',
      fun _ _ _ _ e s => match e with | .int _ z => (ss.getD 0 default).length - z.toNat | _ => 0, ⟨0, w, rfl, ?_, rfl, rfl, rfl, Nat.zero_le _, by simpa [seqS, foldP] using Hv.nilRow 51 3 o⟩, ?_⟩
  · have e : ss.length - (ss.length - 1) = 1 := by omega
    simp [seqS, foldP, e]
  rintro a b c d e s ⟨i, w1, rfl, rfl, rfl, rfl, rfl, hi, o1⟩
  have hinv := foldP_inv ss.tail (seqS true ((ss.getD 0 default).take i))
  rcases Nat.lt_or_ge i (ss.getD 0 default).length with hlt | hge
  · have ht := take_snoc hlt
    have hsg := signS_snoc ((ss.getD 0 default).take i) true ((ss.getD 0 default).getD i default)
    have hsq := seqS_snoc ((ss.getD 0 default).take i) true ((ss.getD 0 default).getD i default)
    rw [← ht] at hsg hsq
    have hf1 : ((ss.getD 0 default).getD i default = 43 ∨ (ss.getD 0 default).getD i default = 45) → foldP ss.tail (seqS true ((ss.getD 0 default).take (i + 1))) = foldP ss.tail (seqS true ((ss.getD 0 default).take i)) := fun h => by rw [hsq, if_pos h]
    have hf2 : ¬ ((ss.getD 0 default).getD i default = 43 ∨ (ss.getD 0 default).getD i default = 45) → foldP ss.tail (seqS true ((ss.getD 0 default).take (i + 1))) = stepP (foldP ss.tail (seqS true ((ss.getD 0 default).take i))) ((ss.getD 0 default).getD i default, signS true ((ss.getD 0 default).take i)) := fun h => by rw [hsq, if_neg h, foldP_snoc]
    have hfl := seqS_len ((ss.getD 0 default).take i) true
    rw [List.length_take] at hfl
    have hrl : (foldP ss.tail (seqS true ((ss.getD 0 default).take i))).2.1.length ≤ ss.tail.length := by
      obtain ⟨k, hk⟩ := hinv.2.2.2
      rw [hk, List.length_drop]; omega
    have hget : 0 < (foldP ss.tail (seqS true ((ss.getD 0 default).take i))).2.1.length → ss.getD (ss.length - (foldP ss.tail (seqS true ((ss.getD 0 default).take i))).2.1.length) default = (foldP ss.tail (seqS true ((ss.getD 0 default).take i))).2.1.headD [] := by
      intro hp
      obtain ⟨k, hk⟩ := hinv.2.2.2
      rw [hk] at hp ⊢
      rw [List.length_drop, hrt] at hp ⊢
      have e1 : ss.length - (ss.length - 1 - k) = k + 1 := by omega
      rw [e1, ← List.drop_one, List.drop_drop, Nat.add_comm 1 k, ← getD_headD]
      simp only [List.getD_eq_getElem?_getD, List.getElem?_drop, Nat.add_zero]
    generalize signS true ((ss.getD 0 default).take i) = on at *
    generalize foldP ss.tail (seqS true ((ss.getD 0 default).take i)) = p at *
    obtain ⟨out, rs, tk⟩ := p
    dsimp only at *
    repeat' (first | refine go ?_ | intro _ | refine And.intro (by (first | omega | (unfold InR; omega) | decide | (simp only [List.length_append, List.length_map, List.length_take, List.length_drop, List.length_replicate, List.length_cons, List.length_nil, List.length_set]; omega))) ?_ | (refine And.intro (fun h1 => ?_) (fun h1 => ?_) <;> first | (exact absurd h1 (by decide)) | ((try rw [h1]); (try simp only [Bool.not_eq_true', Bool.not_eq_false', decide_eq_true_eq, decide_eq_false_iff_not, Bool.and_eq_true, Bool.or_eq_true, Bool.or_eq_false_iff, Bool.and_eq_false_imp, Int.not_lt, Int.not_le, Nat.not_lt, Nat.not_le] at h1))) | dsimp only)
    all_goals first
      | (exfalso; omega)
      | skip
    all_goals refine ⟨⟨i + 1, _, ?_, ?_, ?_, rfl, rfl, hlt, Sub.hv (subRow ?_ ?_ subEnd)⟩, by simp [-List.getD_eq_getElem?_getD]; omega⟩
    all_goals first
      | (rw [hsg]; congr 1; grind)
      | (rw [hf1 (by grind)]; done)
      | (rw [hf2 (by grind)]; unfold stepP; dsimp only; grind)
      | (have hrs : rs = [] := List.eq_nil_of_length_eq_zero (by omega)
         subst hrs
         rw [hf2 (by grind)]
         unfold stepP
         dsimp only
         rw [if_neg (by grind), if_neg (by grind)]
         simp)
  · have hie : i = (ss.getD 0 default).length := by omega
    subst hie
    rw [List.take_length] at o1
    repeat' (first | refine go ?_ | intro _ | refine And.intro (by (first | omega | (unfold InR; omega) | decide | (simp only [List.length_append, List.length_map, List.length_take, List.length_drop, List.length_replicate, List.length_cons, List.length_nil, List.length_set]; omega))) ?_ | (refine And.intro (fun h1 => ?_) (fun h1 => ?_) <;> first | (exact absurd h1 (by decide)) | ((try rw [h1]); (try simp only [Bool.not_eq_true', Bool.not_eq_false', decide_eq_true_eq, decide_eq_false_iff_not, Bool.and_eq_true, Bool.or_eq_true, Bool.or_eq_false_iff, Bool.and_eq_false_imp, Int.not_lt, Int.not_le, Nat.not_lt, Nat.not_le] at h1))) | dsimp only)
    all_goals first
      | (exfalso; omega)
      | exact h _ _ o1⟩
end Go.Proofs.Ytodnbkggkdadkaa
