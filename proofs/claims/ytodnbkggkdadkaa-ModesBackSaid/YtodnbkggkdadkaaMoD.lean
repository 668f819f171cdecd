import Derived.Test.YtodnbkggkdadkaaMoC
set_option linter.all false
namespace Go.Proofs.Ytodnbkggkdadkaa
open Go.Vx
instance awakeM_ok {K : Value → St → Prop} {w0 w : World} {H : List SL} {ds : List Deferred} [o : Hv w0 H w] : Step (Cl P 24 #[] K ⟨w, ds⟩) (∀ w', Hv w0 H w' → K (.bool true) ⟨w', ds⟩) := ⟨fun h => by
  refine cl_ok (c24 (K := fun v w' => K v ⟨w', ds⟩) ?_ fun v w' h => ⟨v, rfl, h⟩)
  unfold D24
  dsimp only
  repeat' (first | refine go ?_ | intro _ | refine And.intro (by (first | omega | (unfold InR; omega) | decide | (simp only [List.length_append, List.length_map, List.length_take, List.length_drop, List.length_replicate, List.length_cons, List.length_nil, List.length_set]; omega))) ?_ | (refine And.intro (fun h1 => ?_) (fun h1 => ?_) <;> first | (exact absurd h1 (by decide)) | ((try rw [h1]); (try simp only [Bool.not_eq_true', Bool.not_eq_false', decide_eq_true_eq, decide_eq_false_iff_not, Bool.and_eq_true, Bool.or_eq_true, Bool.or_eq_false_iff, Bool.and_eq_false_imp, Int.not_lt, Int.not_le, Nat.not_lt, Nat.not_le] at h1))) | dsimp only)
  all_goals
    refine cast (congrArg (fun b => K (.bool b) _) ?_) (h _ (Sub.hv subEnd))
    decide⟩
theorem count_take (l : List Chg) (i : Nat) (h : i < l.length) : ((l.take (i + 1)).filter fun c => takesS c.2.1 c.1).length = ((l.take i).filter fun c => takesS c.2.1 c.1).length + if takesS (l.getD i default).2.1 (l.getD i default).1 then 1 else 0 := by
  rw [take_snoc h, List.filter_append, List.length_append]
  congr 1
  cases hc : takesS (l.getD i default).2.1 (l.getD i default).1 <;> simp [-List.getD_eq_getElem?_getD, hc]
theorem parseS_many (ss : List (List UInt8)) : ((parseS ss).filter fun c => takesS c.2.1 c.1).length ≤ 4 := by
  cases ss with
  | nil => simp [parseS]
  | cons r rest =>
    have h := foldP_inv rest (seqS true r)
    exact Nat.le_trans h.2.2.1 h.2.1
theorem parseS_len (ss : List (List UInt8)) (h : ∀ l ∈ ss, l.length ≤ 60) : (parseS ss).length ≤ 60 := by
  cases ss with
  | nil => simp [parseS]
  | cons r rest =>
    have h1 := foldP_inv rest (seqS true r)
    have h2 := seqS_len r true
    have h3 := h r (List.mem_cons_self ..)
    show (foldP rest (seqS true r)).1.length ≤ 60
    omega
theorem headD_le (ss : List (List UInt8)) (h : ∀ l ∈ ss, l.length ≤ 60) : (ss.headD []).length ≤ 60 := by
  cases ss with
  | nil => simp
  | cons r rest => exact h r (List.mem_cons_self ..)
theorem parses_ok {w : World} {v : Value} {ss : List (List UInt8)} (hp : Arg w v 1 ss.length (ss.map str)) : Calls P 8 #[v] w fun e w' => e = .returned (.bool true) ∧ Hv w [] w' := by
  refine c8 (K := fun v w' => v = .bool true ∧ Hv w [] w') ?_ fun v w' h => ⟨by rw [h.1], h.2⟩
  have o := Hv.begin w
  unfold D8
  dsimp only
  repeat' (first | refine go ?_ | intro _ | refine And.intro (by (first | omega | (unfold InR; omega) | decide | (simp only [List.length_append, List.length_map, List.length_take, List.length_drop, List.length_replicate, List.length_cons, List.length_nil, List.length_set]; omega))) ?_ | (refine And.intro (fun h1 => ?_) (fun h1 => ?_) <;> first | (exact absurd h1 (by decide)) | ((try rw [h1]); (try simp only [Bool.not_eq_true', Bool.not_eq_false', decide_eq_true_eq, decide_eq_false_iff_not, Bool.and_eq_true, Bool.or_eq_true, Bool.or_eq_false_iff, Bool.and_eq_false_imp, Int.not_lt, Int.not_le, Nat.not_lt, Nat.not_le] at h1))) | dsimp only)
  · exact ⟨rfl, Sub.hv subEnd⟩
  rename_i bb w1 hgr o1
  obtain ⟨h20, h60⟩ := hgr h1
  have hh := headD_le ss h60
  have hl := parseS_len ss h60
  refine ⟨by omega, ?_⟩
  repeat (first | refine go ?_ | intro _ | refine And.intro (by (first | omega | (unfold InR; omega) | decide | (simp only [List.length_append, List.length_map, List.length_take, List.length_drop, List.length_replicate, List.length_cons, List.length_nil, List.length_set]; omega))) ?_ | dsimp only)
  rename_i v w2 o2
  refine ⟨fun x z s => ∃ (i : Nat) (w' : World), x = .int .i64 (((parseS ss).take i).filter fun c => takesS c.2.1 c.1).length ∧ z = .int .i64 i ∧ s = ⟨w', []⟩ ∧ i ≤ (parseS ss).length ∧
      Hv w [row 51 3 v (parseS ss).length ((parseS ss).flatMap encC)] w',
    fun _ z s => match z with | .int _ z => (parseS ss).length - z.toNat | _ => 0, ⟨0, w2, rfl, rfl, rfl, Nat.zero_le _, o2⟩, ?_⟩
  rintro x z s ⟨i, w3, rfl, rfl, rfl, hi, o3⟩
  have hc := count_take (parseS ss) i
  have hm := List.length_filter_le (fun c : Chg => takesS c.2.1 c.1) ((parseS ss).take i)
  rw [List.length_take] at hm
  repeat' (first | refine go ?_ | intro _ | refine And.intro (by (first | omega | (unfold InR; omega) | decide | (simp only [List.length_append, List.length_map, List.length_take, List.length_drop, List.length_replicate, List.length_cons, List.length_nil, List.length_set]; omega))) ?_ | (refine And.intro (fun h1 => ?_) (fun h1 => ?_) <;> first | (exact absurd h1 (by decide)) | ((try rw [h1]); (try simp only [Bool.not_eq_true', Bool.not_eq_false', decide_eq_true_eq, decide_eq_false_iff_not, Bool.and_eq_true, Bool.or_eq_true, Bool.or_eq_false_iff, Bool.and_eq_false_imp, Int.not_lt, Int.not_le, Nat.not_lt, Nat.not_le] at h1))) | dsimp only)
  all_goals first
    | (refine ⟨⟨i + 1, _, ?_, rfl, rfl, by omega, Sub.hv (subRow rfl rfl subEnd)⟩, by simp; omega⟩
       rw [hc (by omega), h1]
       simp)
    | exact absurd trivial h1
    | skip
  rw [List.take_of_length_le (by omega)]
  have := parseS_many ss
  exact ⟨by congr 1; simp only [decide_eq_true_eq]; omega, Sub.hv subEnd⟩
end Go.Proofs.Ytodnbkggkdadkaa
