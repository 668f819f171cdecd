import Derived.Test.YtodnbkggkdadkaaFrC
import Derived.Test.YtodnbkggkdadkaaSa
namespace Go.Proofs.Ytodnbkggkdadkaa
open Go.Vx
/-! which bytes end lines makes no difference -/
theorem feed_noend (l : List UInt8) : ∀ (p : Fst), (∀ c ∈ l, ¬ (c = 13 ∨ c = 10)) → (feedS p l).2 = [] := by
  induction l with
  | nil => intro p _; rfl
  | cons c l ih =>
    intro p h
    have hc := h c (List.mem_cons_self ..)
    have h2 : (pushS p c).2.2 = false := by unfold pushS; rw [if_neg hc]; split <;> rfl
    simp only [feedS, h2]
    exact ih _ fun d hd => h d (List.mem_cons_of_mem _ hd)
theorem feed_ends (l : List UInt8) : (∀ c ∈ l, c = 13 ∨ c = 10) → feedS ([], false) l = (([], false), []) := by
  induction l with
  | nil => intro _; rfl
  | cons c l ih =>
    intro h
    have hc := h c (List.mem_cons_self ..)
    have h2 : pushS ([], false) c = (([], false), ([], false), false) := by unfold pushS; rw [if_pos hc]; rfl
    simp only [feedS, h2]
    rw [ih fun d hd => h d (List.mem_cons_of_mem _ hd)]
    rfl
def lineS (p : Fst) : List Ln := if (p.2 || !decide (p.1 = [])) = true then [(if p.2 then [] else p.1, p.2)] else []
theorem feed_line (l e : List UInt8) (h1 : ∀ c ∈ l, ¬ (c = 13 ∨ c = 10)) (h2 : ∀ c ∈ e, c = 13 ∨ c = 10) (h3 : e ≠ []) : feedS ([], false) (l ++ e) = (([], false), lineS (feedS ([], false) l).1) := by
  cases e with
  | nil => exact absurd rfl h3
  | cons c e =>
    have hc := h2 c (List.mem_cons_self ..)
    rw [feedS_append, feed_noend l _ h1]
    generalize feedS ([], false) l = q
    have h4 : pushS q.1 c = (([], false), (if q.1.2 then [] else q.1.1, q.1.2), q.1.2 || !decide (q.1.1 = [])) := by unfold pushS; rw [if_pos hc]
    simp only [feedS, h4, feed_ends e fun d hd => h2 d (List.mem_cons_of_mem _ hd)]
    rfl
theorem feed_more {a l e : List UInt8} {ls : List Ln} (ha : feedS ([], false) a = (([], false), ls)) (h1 : ∀ c ∈ l, ¬ (c = 13 ∨ c = 10)) (h2 : ∀ c ∈ e, c = 13 ∨ c = 10) (h3 : e ≠ []) : feedS ([], false) (a ++ l ++ e) = (([], false), ls ++ lineS (feedS ([], false) l).1) := by
  rw [List.append_assoc, feedS_append, ha, feed_line l e h1 h2 h3]
theorem end_of (r : UInt8) : ∃ e : List UInt8, [str [13], str [13, 10], str [10, 13], str [10, 10, 10]].getD (r % 4).toNat undef = str e ∧ (∀ c ∈ e, c = 13 ∨ c = 10) ∧ e ≠ [] ∧ e.length ≤ 3 ∧ (r % 4).toNat < 4 := by
  have h : (r % 4).toNat = r.toNat % 4 := by rw [UInt8.toNat_mod]; rfl
  rw [h]
  have h4 : r.toNat % 4 < 4 := Nat.mod_lt _ (by decide)
  generalize r.toNat % 4 = n at h4
  match n, h4 with
  | 0, _ => exact ⟨[13], rfl, by decide, by decide, by decide, by decide⟩
  | 1, _ => exact ⟨[13, 10], rfl, by decide, by decide, by decide, by decide⟩
  | 2, _ => exact ⟨[10, 13], rfl, by decide, by decide, by decide, by decide⟩
  | 3, _ => exact ⟨[10, 10, 10], rfl, by decide, by decide, by decide, by decide⟩
theorem ends_ok {w : World} {v u : Value} {pss : List (List UInt8)} {es : List UInt8} (hp : Pieces w v pss) (he : Arg w u 1 es.length (es.map byteV)) : Calls P 6 #[v, u] w fun e w' => e = .returned (.bool true) ∧ Hv w [] w' := by
  refine c6 (K := fun v w' => v = .bool true ∧ Hv w [] w') ?_ fun v w' h => ⟨by rw [h.1], h.2⟩
  obtain ⟨vs, harg, hvl, hel⟩ := hp.outer
  have o := Hv.begin w
  unfold D6
  dsimp only
  repeat' (first | refine go ?_ | intro _ | refine And.intro (by (first | omega | (unfold InR; omega) | decide | (simp only [List.length_append, List.length_map, List.length_take, List.length_drop, List.length_replicate, List.length_cons, List.length_nil, List.length_set]; omega))) ?_ | (refine And.intro (fun h1 => ?_) (fun h1 => ?_) <;> first | (exact absurd h1 (by decide)) | ((try rw [h1]); (try simp only [Bool.not_eq_true', Bool.not_eq_false', decide_eq_true_eq, decide_eq_false_iff_not, Bool.and_eq_true, Bool.or_eq_true, Bool.or_eq_false_iff, Bool.and_eq_false_imp, Int.not_lt, Int.not_le, Nat.not_lt, Nat.not_le] at h1))) | dsimp only)
  all_goals first
    | exact ⟨rfl, Sub.hv subEnd⟩
    | skip
  rename_i w1 o1 hle heq
  refine ⟨fun x y z s => ∃ (i : Nat) (w' : World) (a b : List UInt8) (ls : List Ln), z = .int .i64 i ∧ s = ⟨w', []⟩ ∧ i ≤ pss.length ∧ a.length ≤ 601 * i ∧ b.length ≤ 603 * i ∧ feedS ([], false) a = (([], false), ls) ∧ feedS ([], false) b = (([], false), ls) ∧
     Hv w [row 5 1 x a.length (a.map byteV), row 5 1 y b.length (b.map byteV)] w',
    fun _ _ z s => match z with | .int _ z => pss.length - z.toNat | _ => 0, ⟨0, w1, [], [], [], rfl, rfl, Nat.zero_le _, by simp, by simp, rfl, rfl, by simpa using Hv.nilRow 5 1 (Hv.nilRow 5 1 o1)⟩, ?_⟩
  rintro x y z s ⟨i, w2, a, b, ls, rfl, rfl, hi, hla, hlb, hfa, hfb, o2⟩
  rcases Nat.lt_or_ge i pss.length with hlt | hge
  · have ha := hel i hlt
    repeat' (first | refine go ?_ | intro _ | refine And.intro (by (first | omega | (unfold InR; omega) | decide | (simp only [List.length_append, List.length_map, List.length_take, List.length_drop, List.length_replicate, List.length_cons, List.length_nil, List.length_set]; omega))) ?_ | (refine And.intro (fun h1 => ?_) (fun h1 => ?_) <;> first | (exact absurd h1 (by decide)) | ((try rw [h1]); (try simp only [Bool.not_eq_true', Bool.not_eq_false', decide_eq_true_eq, decide_eq_false_iff_not, Bool.and_eq_true, Bool.or_eq_true, Bool.or_eq_false_iff, Bool.and_eq_false_imp, Int.not_lt, Int.not_le, Nat.not_lt, Nat.not_le] at h1))) | dsimp only)
    all_goals first
      | (exfalso; omega)
      | exact ⟨rfl, Sub.hv subEnd⟩
      | skip
    refine ⟨fun t s => ∃ (k : Nat) (w' : World), t = .int .i64 k ∧ s = ⟨w', []⟩ ∧ k ≤ (pss.getD i default).length ∧ (∀ c ∈ (pss.getD i default).take k, ¬ (c = 13 ∨ c = 10)) ∧ Hv w [row 5 1 x a.length (a.map byteV), row 5 1 y b.length (b.map byteV)] w',
      fun t s => match t with | .int _ z => (pss.getD i default).length - z.toNat | _ => 0, ⟨0, _, rfl, rfl, Nat.zero_le _, by simp, ‹_›⟩, ?_⟩
    rintro t s ⟨k, w3, rfl, rfl, hk, hne, o3⟩
    rcases Nat.lt_or_ge k (pss.getD i default).length with hkl | hkg
    · repeat' (first | refine go ?_ | intro _ | refine And.intro (by (first | omega | (unfold InR; omega) | decide | (simp only [List.length_append, List.length_map, List.length_take, List.length_drop, List.length_replicate, List.length_cons, List.length_nil, List.length_set]; omega))) ?_ | (refine And.intro (fun h1 => ?_) (fun h1 => ?_) <;> first | (exact absurd h1 (by decide)) | ((try rw [h1]); (try simp only [Bool.not_eq_true', Bool.not_eq_false', decide_eq_true_eq, decide_eq_false_iff_not, Bool.and_eq_true, Bool.or_eq_true, Bool.or_eq_false_iff, Bool.and_eq_false_imp, Int.not_lt, Int.not_le, Nat.not_lt, Nat.not_le] at h1))) | dsimp only)
      all_goals first
        | exact ⟨rfl, Sub.hv subEnd⟩
        | skip
      · refine ⟨⟨k + 1, _, rfl, rfl, hkl, fun c hc => ?_, Sub.hv (subRow rfl rfl (subRow rfl rfl subEnd))⟩, by simp [-List.getD_eq_getElem?_getD]; omega⟩
        rw [take_snoc hkl, List.mem_append] at hc
        rcases hc with hc | hc
        · exact hne c hc
        · simp only [List.mem_singleton] at hc
          subst hc
          simp only [not_or]
          exact ⟨‹_›, ‹_›⟩
      · exfalso; omega
    · have hkn : k = (pss.getD i default).length := by omega
      rw [List.take_of_length_le (by omega)] at hne
      obtain ⟨e, he1, he2, he3, he4, he5⟩ := end_of (es.getD i default)
      have f1 := feed_more hfa (l := pss.getD i default) (e := [10]) hne (by simp) (by simp)
      have f2 := feed_more hfb (l := pss.getD i default) (e := e) hne he2 he3
      repeat' (first | refine go ?_ | intro _ | refine And.intro (by (first | omega | (unfold InR; omega) | decide | (simp only [List.length_append, List.length_map, List.length_take, List.length_drop, List.length_replicate, List.length_cons, List.length_nil, List.length_set]; omega))) ?_ | (refine And.intro (fun h1 => ?_) (fun h1 => ?_) <;> first | (exact absurd h1 (by decide)) | ((try rw [h1]); (try simp only [Bool.not_eq_true', Bool.not_eq_false', decide_eq_true_eq, decide_eq_false_iff_not, Bool.and_eq_true, Bool.or_eq_true, Bool.or_eq_false_iff, Bool.and_eq_false_imp, Int.not_lt, Int.not_le, Nat.not_lt, Nat.not_le] at h1))) | dsimp only)
      all_goals first
        | (exfalso; omega)
        | skip
      refine ⟨?_, ?_⟩
      all_goals repeat' (first | refine go ?_ | intro _ | refine And.intro (by (first | omega | (unfold InR; omega) | decide | (simp only [List.length_append, List.length_map, List.length_take, List.length_drop, List.length_replicate, List.length_cons, List.length_nil, List.length_set]; omega))) ?_ | (refine And.intro (fun h1 => ?_) (fun h1 => ?_) <;> first | (exact absurd h1 (by decide)) | ((try rw [h1]); (try simp only [Bool.not_eq_true', Bool.not_eq_false', decide_eq_true_eq, decide_eq_false_iff_not, Bool.and_eq_true, Bool.or_eq_true, Bool.or_eq_false_iff, Bool.and_eq_false_imp, Int.not_lt, Int.not_le, Nat.not_lt, Nat.not_le] at h1))) | dsimp only)
      all_goals rw [he1]
      all_goals repeat' (first | refine go ?_ | intro _ | refine And.intro (by (first | omega | (unfold InR; omega) | decide | (simp only [List.length_append, List.length_map, List.length_take, List.length_drop, List.length_replicate, List.length_cons, List.length_nil, List.length_set]; omega))) ?_ | (refine And.intro (fun h1 => ?_) (fun h1 => ?_) <;> first | (exact absurd h1 (by decide)) | ((try rw [h1]); (try simp only [Bool.not_eq_true', Bool.not_eq_false', decide_eq_true_eq, decide_eq_false_iff_not, Bool.and_eq_true, Bool.or_eq_true, Bool.or_eq_false_iff, Bool.and_eq_false_imp, Int.not_lt, Int.not_le, Nat.not_lt, Nat.not_le] at h1))) | dsimp only)
      all_goals
        refine ⟨⟨i + 1, _, a ++ pss.getD i default ++ [10], b ++ pss.getD i default ++ e, _, rfl, rfl, hlt, ?_, ?_, f1, f2, Sub.hv (subRow ?_ ?_ (subRow ?_ ?_ subEnd))⟩, ?_⟩
      all_goals first
        | (simp only [List.length_append, List.length_cons, List.length_nil]; omega)
        | (simp [-List.getD_eq_getElem?_getD]; done)
        | (simp; omega)
  · have hl := feedS_out a ([], false)
    rw [hfa] at hl
    dsimp only at hl
    repeat' (first | refine go ?_ | intro _ | refine And.intro (by (first | omega | (unfold InR; omega) | decide | (simp only [List.length_append, List.length_map, List.length_take, List.length_drop, List.length_replicate, List.length_cons, List.length_nil, List.length_set]; omega))) ?_ | (refine And.intro (fun h1 => ?_) (fun h1 => ?_) <;> first | (exact absurd h1 (by decide)) | ((try rw [h1]); (try simp only [Bool.not_eq_true', Bool.not_eq_false', decide_eq_true_eq, decide_eq_false_iff_not, Bool.and_eq_true, Bool.or_eq_true, Bool.or_eq_false_iff, Bool.and_eq_false_imp, Int.not_lt, Int.not_le, Nat.not_lt, Nat.not_le] at h1))) | dsimp only)
    all_goals first
      | (exfalso; omega)
      | skip
    rw [hfa, hfb]
    refine ⟨by dsimp only; omega, ?_⟩
    repeat' (first | refine go ?_ | intro _ | refine And.intro (by (first | omega | (unfold InR; omega) | decide | (simp only [List.length_append, List.length_map, List.length_take, List.length_drop, List.length_replicate, List.length_cons, List.length_nil, List.length_set]; omega))) ?_ | (refine And.intro (fun h1 => ?_) (fun h1 => ?_) <;> first | (exact absurd h1 (by decide)) | ((try rw [h1]); (try simp only [Bool.not_eq_true', Bool.not_eq_false', decide_eq_true_eq, decide_eq_false_iff_not, Bool.and_eq_true, Bool.or_eq_true, Bool.or_eq_false_iff, Bool.and_eq_false_imp, Int.not_lt, Int.not_le, Nat.not_lt, Nat.not_le] at h1))) | dsimp only)
    all_goals first
      | exact ⟨rfl, Sub.hv subEnd⟩
      | (exfalso; revert h1; simp; done)
      | skip
end Go.Proofs.Ytodnbkggkdadkaa
