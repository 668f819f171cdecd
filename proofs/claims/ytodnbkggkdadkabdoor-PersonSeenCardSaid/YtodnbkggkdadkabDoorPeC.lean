import Derived.Test.YtodnbkggkdadkabDoorPeB
set_option linter.all false
namespace Go.Proofs.YtodnbkggkdadkabDoor
open Go.Vx
/-! the document's Match: row by row -/
def Rk (mask l : List UInt8) (k i : Nat) : Bool := mt (mask.take k).reverse (l.take i).reverse
abbrev nb (f : Nat → Bool) (m : Nat) : List Value := ((List.range m).map f).map Value.bool
theorem nb_congr {f g : Nat → Bool} {m : Nat} (h : ∀ j < m, f j = g j) : nb f m = nb g m := by
  unfold nb; congr 1; exact List.map_congr_left fun j hj => h j (List.mem_range.1 hj)
theorem nb_set {f : Nat → Bool} {m i : Nat} {b : Bool} : (nb f m).set i (.bool b) = nb (fun j => if j = i then b else f j) m := by
  unfold nb
  apply List.ext_getElem
  · simp
  · intro j h1 h2
    simp at h1
    rw [List.getElem_set]
    split
    · subst_vars; simp
    · rename_i h; simp [Ne.symm h]
theorem nb_rep {m : Nat} : List.replicate m (.bool false) = nb (fun _ => false) m := by
  unfold nb; apply List.ext_getElem <;> simp
theorem nb_get {f : Nat → Bool} {m j : Nat} (h : j < m) : ((List.range m).map f).getD j default = f j := by simp [h]
theorem nb_len {f : Nat → Bool} {m : Nat} : (nb f m).length = m := by simp [nb]
theorem Rk_star {mask l : List UInt8} {k i : Nat} (hk : k < mask.length) (hi : i ≤ l.length) (hc : mask.getD k default = 42) : Rk mask l (k + 1) i = (Rk mask l k i || (decide (0 < i) && Rk mask l (k + 1) (i - 1))) := by
  unfold Rk
  rw [take_snoc hk, hc, List.reverse_append, List.reverse_singleton, List.singleton_append, mt_star]
  cases i with
  | zero => simp
  | succ i => rw [take_snoc (show i < l.length by omega), List.reverse_append, List.reverse_singleton, List.singleton_append]; simp
theorem Rk_one {mask l : List UInt8} {k i : Nat} (hk : k < mask.length) (hi : i ≤ l.length) (hc : mask.getD k default ≠ 42) : Rk mask l (k + 1) i = (decide (0 < i) && Rk mask l k (i - 1) && eqM (mask.getD k default) (l.getD (i - 1) default)) := by
  unfold Rk
  rw [take_snoc hk, List.reverse_append, List.reverse_singleton, List.singleton_append, mt_one hc]
  cases i with
  | zero => simp
  | succ i =>
    rw [take_snoc (show i < l.length by omega), List.reverse_append, List.reverse_singleton, List.singleton_append]
    simp only [Nat.zero_lt_succ, decide_true, Bool.true_and, Nat.add_sub_cancel]
    rw [Bool.and_comm]
theorem Rk_zero (mask l : List UInt8) (i : Nat) (hi : i ≤ l.length) : Rk mask l 0 i = decide (i = 0) := by
  unfold Rk
  rw [List.take_zero, List.reverse_nil, mt_nil]
  cases i with
  | zero => rfl
  | succ i => rw [take_snoc (show i < l.length by omega)]; simp
instance matchR_ok {K : Value → St → Prop} {w0 w : World} {H : List SL} {ds : List Deferred} {mask l : List UInt8} [o : Hv w0 H w] :
    Step (Cl P 30 #[str mask, str l] K ⟨w, ds⟩) ((mask.length ≤ 999999 ∧ l.length ≤ 999999) ∧ ∀ w', Hv w0 H w' → K (.bool (mt mask l)) ⟨w', ds⟩) := ⟨fun ⟨⟨hb1, hb2⟩, h⟩ => by
  refine cl_ok (c30 (K := fun v w' => K v ⟨w', ds⟩) ?_ fun v w' h => ⟨v, rfl, h⟩)
  unfold D30
  dsimp only
  repeat' (first | refine go ?_ | intro _ | refine And.intro (Sd.mk (by (first | exact fun _ => True.intro | exact And.intro (fun _ => True.intro) (fun _ _ => True.intro) | (intro hq; (first | exact True.intro | omega | (simp only [and_true]; omega) | (simp only [Bool.not_eq_true', Bool.not_eq_false', decide_eq_true_eq, decide_eq_false_iff_not, Bool.and_eq_true, Bool.or_eq_true, Bool.or_eq_false_iff, Bool.and_eq_false_imp, Int.not_lt, Int.not_le, Nat.not_lt, Nat.not_le] at hq; (try simp only [and_true]); omega) | fail)) | exact And.intro (fun hq => by first | exact True.intro | omega | (simp only [and_true]; omega) | (simp only [Bool.not_eq_true', Bool.not_eq_false', decide_eq_true_eq, decide_eq_false_iff_not, Bool.and_eq_true, Bool.or_eq_true, Bool.or_eq_false_iff, Bool.and_eq_false_imp, Int.not_lt, Int.not_le, Nat.not_lt, Nat.not_le] at hq; (try simp only [and_true]); omega) | fail) (fun hq hr => by first | exact True.intro | omega | (simp only [and_true]; omega) | (simp only [Bool.not_eq_true', Bool.not_eq_false', decide_eq_true_eq, decide_eq_false_iff_not, Bool.and_eq_true, Bool.or_eq_true, Bool.or_eq_false_iff, Bool.and_eq_false_imp, Int.not_lt, Int.not_le, Nat.not_lt, Nat.not_le] at hq hr; omega) | (simp only [Bool.not_eq_true', Bool.not_eq_false', decide_eq_true_eq, decide_eq_false_iff_not, Bool.and_eq_true, Bool.or_eq_true, Bool.or_eq_false_iff, Bool.and_eq_false_imp, Int.not_lt, Int.not_le, Nat.not_lt, Nat.not_le] at hr; omega) | fail) | fail))) ?_ | refine And.intro (by (first | omega | (unfold InR; omega) | decide | (simp only [List.length_append, List.length_map, List.length_take, List.length_drop, List.length_replicate, List.length_cons, List.length_nil, List.length_set]; omega))) ?_ | (refine And.intro (fun h1 => ?_) (fun h1 => ?_) <;> first | (exact absurd h1 (by decide)) | ((try rw [h1]); (try simp only [Bool.not_eq_true', Bool.not_eq_false', decide_eq_true_eq, decide_eq_false_iff_not, Bool.and_eq_true, Bool.or_eq_true, Bool.or_eq_false_iff, Bool.and_eq_false_imp, Int.not_lt, Int.not_le, Nat.not_lt, Nat.not_le] at h1))) | dsimp only)
  rename_i vnow _ _ _ _ w1 o1
  have en : ((l.length : Int) + 1).toNat = l.length + 1 := by omega
  rw [en] at o1
  refine ⟨fun x y s => ∃ (k : Nat) (w' : World), y = .int .i64 k ∧ s = ⟨w', []⟩ ∧ k ≤ mask.length ∧ Hv w0 (row 4 1 x (l.length + 1) (nb (Rk mask l k) (l.length + 1)) :: H) w',
    fun _ y s => match y with | .int _ z => mask.length - z.toNat | _ => 0, ⟨0, w1, rfl, rfl, Nat.zero_le _, ?_⟩, ?_⟩
  · refine Sub.hv (subRow rfl ?_ subEnd)
    rw [nb_rep, nb_set]
    exact nb_congr fun j hj => by rw [Rk_zero _ _ _ (by omega)]; by_cases h : j = 0 <;> simp [h]
  clear o1
  rintro x y s ⟨k, w2, rfl, rfl, hk, o2⟩
  repeat (first | refine go ?_ | intro _ | refine And.intro (Sd.mk (by (first | exact fun _ => True.intro | exact And.intro (fun _ => True.intro) (fun _ _ => True.intro) | (intro hq; (first | exact True.intro | omega | (simp only [and_true]; omega) | (simp only [Bool.not_eq_true', Bool.not_eq_false', decide_eq_true_eq, decide_eq_false_iff_not, Bool.and_eq_true, Bool.or_eq_true, Bool.or_eq_false_iff, Bool.and_eq_false_imp, Int.not_lt, Int.not_le, Nat.not_lt, Nat.not_le] at hq; (try simp only [and_true]); omega) | fail)) | exact And.intro (fun hq => by first | exact True.intro | omega | (simp only [and_true]; omega) | (simp only [Bool.not_eq_true', Bool.not_eq_false', decide_eq_true_eq, decide_eq_false_iff_not, Bool.and_eq_true, Bool.or_eq_true, Bool.or_eq_false_iff, Bool.and_eq_false_imp, Int.not_lt, Int.not_le, Nat.not_lt, Nat.not_le] at hq; (try simp only [and_true]); omega) | fail) (fun hq hr => by first | exact True.intro | omega | (simp only [and_true]; omega) | (simp only [Bool.not_eq_true', Bool.not_eq_false', decide_eq_true_eq, decide_eq_false_iff_not, Bool.and_eq_true, Bool.or_eq_true, Bool.or_eq_false_iff, Bool.and_eq_false_imp, Int.not_lt, Int.not_le, Nat.not_lt, Nat.not_le] at hq hr; omega) | (simp only [Bool.not_eq_true', Bool.not_eq_false', decide_eq_true_eq, decide_eq_false_iff_not, Bool.and_eq_true, Bool.or_eq_true, Bool.or_eq_false_iff, Bool.and_eq_false_imp, Int.not_lt, Int.not_le, Nat.not_lt, Nat.not_le] at hr; omega) | fail) | fail))) ?_ | refine And.intro (by (first | omega | (unfold InR; omega) | decide | (simp only [List.length_append, List.length_map, List.length_take, List.length_drop, List.length_replicate, List.length_cons, List.length_nil, List.length_set]; omega))) ?_ | dsimp only)
  refine And.intro (fun h1 => ?_) (fun h1 => ?_)
  · have hk2 : k < mask.length := by simp at h1; omega
    repeat' (first | refine go ?_ | intro _ | refine And.intro (Sd.mk (by (first | exact fun _ => True.intro | exact And.intro (fun _ => True.intro) (fun _ _ => True.intro) | (intro hq; (first | exact True.intro | omega | (simp only [and_true]; omega) | (simp only [Bool.not_eq_true', Bool.not_eq_false', decide_eq_true_eq, decide_eq_false_iff_not, Bool.and_eq_true, Bool.or_eq_true, Bool.or_eq_false_iff, Bool.and_eq_false_imp, Int.not_lt, Int.not_le, Nat.not_lt, Nat.not_le] at hq; (try simp only [and_true]); omega) | fail)) | exact And.intro (fun hq => by first | exact True.intro | omega | (simp only [and_true]; omega) | (simp only [Bool.not_eq_true', Bool.not_eq_false', decide_eq_true_eq, decide_eq_false_iff_not, Bool.and_eq_true, Bool.or_eq_true, Bool.or_eq_false_iff, Bool.and_eq_false_imp, Int.not_lt, Int.not_le, Nat.not_lt, Nat.not_le] at hq; (try simp only [and_true]); omega) | fail) (fun hq hr => by first | exact True.intro | omega | (simp only [and_true]; omega) | (simp only [Bool.not_eq_true', Bool.not_eq_false', decide_eq_true_eq, decide_eq_false_iff_not, Bool.and_eq_true, Bool.or_eq_true, Bool.or_eq_false_iff, Bool.and_eq_false_imp, Int.not_lt, Int.not_le, Nat.not_lt, Nat.not_le] at hq hr; omega) | (simp only [Bool.not_eq_true', Bool.not_eq_false', decide_eq_true_eq, decide_eq_false_iff_not, Bool.and_eq_true, Bool.or_eq_true, Bool.or_eq_false_iff, Bool.and_eq_false_imp, Int.not_lt, Int.not_le, Nat.not_lt, Nat.not_le] at hr; omega) | fail) | fail))) ?_ | refine And.intro (by (first | omega | (unfold InR; omega) | decide | (simp only [List.length_append, List.length_map, List.length_take, List.length_drop, List.length_replicate, List.length_cons, List.length_nil, List.length_set]; omega))) ?_ | (refine And.intro (fun h1 => ?_) (fun h1 => ?_) <;> first | (exact absurd h1 (by decide)) | ((try rw [h1]); (try simp only [Bool.not_eq_true', Bool.not_eq_false', decide_eq_true_eq, decide_eq_false_iff_not, Bool.and_eq_true, Bool.or_eq_true, Bool.or_eq_false_iff, Bool.and_eq_false_imp, Int.not_lt, Int.not_le, Nat.not_lt, Nat.not_le] at h1))) | dsimp only)
    rename_i vn w3 o3
    refine ⟨fun y s => ∃ (i : Nat) (w' : World), y = .int .i64 i ∧ s = ⟨w', []⟩ ∧ i ≤ l.length + 1 ∧ Hv w0 (row 4 1 vn (l.length + 1) (nb (fun j => decide (j < i) && Rk mask l (k + 1) j) (l.length + 1)) :: row 4 1 x (l.length + 1) (nb (Rk mask l k) (l.length + 1)) :: H) w',
      fun y s => match y with | .int _ z => l.length + 1 - z.toNat | _ => 0, ⟨0, w3, rfl, rfl, Nat.zero_le _, ?_⟩, ?_⟩
    · refine Sub.hv (subRow en ?_ (subRow rfl rfl subEnd))
      rw [en, nb_rep]
      exact nb_congr fun j hj => by simp
    clear o3
    rintro y s ⟨i, w4, rfl, rfl, hi, o4⟩
    have fin0 : ∀ w', Rk mask l (k + 1) i = false → i ≤ l.length → Hv w0 (row 4 1 vn (l.length + 1) (nb (fun j => decide (j < i) && Rk mask l (k + 1) j) (l.length + 1)) :: row 4 1 x (l.length + 1) (nb (Rk mask l k) (l.length + 1)) :: H) w' →
        ((∃ (i_1 : Nat) (w'_1 : World), Value.int .i64 ((i : Int) + 1) = .int .i64 i_1 ∧ (⟨w', []⟩ : St) = ⟨w'_1, []⟩ ∧ i_1 ≤ l.length + 1 ∧ Hv w0 (row 4 1 vn (l.length + 1) (nb (fun j => decide (j < i_1) && Rk mask l (k + 1) j) (l.length + 1)) :: row 4 1 x (l.length + 1) (nb (Rk mask l k) (l.length + 1)) :: H) w'_1) ∧ l.length + 1 - ((i : Int) + 1).toNat < l.length + 1 - (i : Int).toNat) := by
      intro w' hr hle ho
      refine ⟨⟨i + 1, w', rfl, rfl, by omega, ?_⟩, by simp; omega⟩
      rw [nb_congr (g := fun j => decide (j < i) && Rk mask l (k + 1) j) fun j hj => ?_]
      · exact ho
      · rcases Nat.lt_trichotomy j i with x | x | x
        · simp [x, Nat.lt_succ_of_lt x]
        · subst x; simp [hr]
        · simp [show ¬ j < i by omega, show ¬ j < i + 1 by omega]
    have fin : ∀ (b : Bool) w', b = Rk mask l (k + 1) i → i ≤ l.length → Hv w0 (row 4 1 vn (l.length + 1) ((nb (fun j => decide (j < i) && Rk mask l (k + 1) j) (l.length + 1)).set i (.bool b)) :: row 4 1 x (l.length + 1) (nb (Rk mask l k) (l.length + 1)) :: H) w' →
        ((∃ (i_1 : Nat) (w'_1 : World), Value.int .i64 ((i : Int) + 1) = .int .i64 i_1 ∧ (⟨w', []⟩ : St) = ⟨w'_1, []⟩ ∧ i_1 ≤ l.length + 1 ∧ Hv w0 (row 4 1 vn (l.length + 1) (nb (fun j => decide (j < i_1) && Rk mask l (k + 1) j) (l.length + 1)) :: row 4 1 x (l.length + 1) (nb (Rk mask l k) (l.length + 1)) :: H) w'_1) ∧ l.length + 1 - ((i : Int) + 1).toNat < l.length + 1 - (i : Int).toNat) := by
      intro b w' hr hle ho
      refine ⟨⟨i + 1, w', rfl, rfl, by omega, ?_⟩, by simp; omega⟩
      rw [nb_set] at ho
      rw [nb_congr (g := fun j => if j = i then b else decide (j < i) && Rk mask l (k + 1) j) fun j hj => ?_]
      · exact ho
      · rcases Nat.lt_trichotomy j i with x | x | x
        · simp [x, Nat.lt_succ_of_lt x, Nat.ne_of_lt x]
        · subst x; simp [hr]
        · simp [show ¬ j < i by omega, show ¬ j < i + 1 by omega, Nat.ne_of_gt x]
    repeat' (first | refine go ?_ | intro _ | refine And.intro (Sd.mk (by (first | exact fun _ => True.intro | exact And.intro (fun _ => True.intro) (fun _ _ => True.intro) | (intro hq; (first | exact True.intro | omega | (simp only [and_true]; omega) | (simp only [Bool.not_eq_true', Bool.not_eq_false', decide_eq_true_eq, decide_eq_false_iff_not, Bool.and_eq_true, Bool.or_eq_true, Bool.or_eq_false_iff, Bool.and_eq_false_imp, Int.not_lt, Int.not_le, Nat.not_lt, Nat.not_le] at hq; (try simp only [and_true]); omega) | fail)) | exact And.intro (fun hq => by first | exact True.intro | omega | (simp only [and_true]; omega) | (simp only [Bool.not_eq_true', Bool.not_eq_false', decide_eq_true_eq, decide_eq_false_iff_not, Bool.and_eq_true, Bool.or_eq_true, Bool.or_eq_false_iff, Bool.and_eq_false_imp, Int.not_lt, Int.not_le, Nat.not_lt, Nat.not_le] at hq; (try simp only [and_true]); omega) | fail) (fun hq hr => by first | exact True.intro | omega | (simp only [and_true]; omega) | (simp only [Bool.not_eq_true', Bool.not_eq_false', decide_eq_true_eq, decide_eq_false_iff_not, Bool.and_eq_true, Bool.or_eq_true, Bool.or_eq_false_iff, Bool.and_eq_false_imp, Int.not_lt, Int.not_le, Nat.not_lt, Nat.not_le] at hq hr; omega) | (simp only [Bool.not_eq_true', Bool.not_eq_false', decide_eq_true_eq, decide_eq_false_iff_not, Bool.and_eq_true, Bool.or_eq_true, Bool.or_eq_false_iff, Bool.and_eq_false_imp, Int.not_lt, Int.not_le, Nat.not_lt, Nat.not_le] at hr; omega) | fail) | fail))) ?_ | refine And.intro (by (first | omega | (unfold InR; omega) | decide | (simp only [List.length_append, List.length_map, List.length_take, List.length_drop, List.length_replicate, List.length_cons, List.length_nil, List.length_set]; omega))) ?_ | (refine And.intro (fun h1 => ?_) (fun h1 => ?_) <;> first | (exact absurd h1 (by decide)) | ((try rw [h1]); (try simp only [Bool.not_eq_true', Bool.not_eq_false', decide_eq_true_eq, decide_eq_false_iff_not, Bool.and_eq_true, Bool.or_eq_true, Bool.or_eq_false_iff, Bool.and_eq_false_imp, Int.not_lt, Int.not_le, Nat.not_lt, Nat.not_le] at h1))) | dsimp only)
    all_goals first
      | (exfalso; omega)
      | skip
    all_goals (try have g1 := nb_get (f := Rk mask l k) (show i < l.length + 1 by omega))
    all_goals (try have g2 := nb_get (f := Rk mask l k) (show ((i : Int) - 1).toNat < l.length + 1 by omega))
    all_goals (try have g3 := nb_get (f := fun j => decide (j < i) && Rk mask l (k + 1) j) (show ((i : Int) - 1).toNat < l.length + 1 by omega))
    all_goals (try have e1 : ((i : Int) - 1).toNat = i - 1 := by omega)
    all_goals first
      | refine fin _ _ ?_ (by omega) (Sub.hv (subRow rfl rfl (subRow rfl rfl subEnd)))
      | refine fin0 _ ?_ (by omega) (Sub.hv (subRow rfl rfl (subRow rfl rfl subEnd)))
      | (refine ⟨⟨k + 1, _, rfl, rfl, by omega, ?_⟩, by simp; omega⟩
         rw [nb_congr (g := fun j => decide (j < i) && Rk mask l (k + 1) j) fun j hj => by simp [show j < i by omega]]
         exact Sub.hv (subRow rfl rfl subEnd))
    all_goals
      clear fin fin0 h o2 o4
      (try simp only [e1] at *)
      (try simp only [g1, g2, g3] at *)
      (try simp only [g1, g2] at *)
      (try simp only [g1] at *)
      (try rw [nb_get (show i - 1 < l.length + 1 by omega)])
      by_cases hc : mask.getD k default = 42
      · rw [Rk_star (i := i) hk2 (by omega) hc]
        grind
      · rw [Rk_one (i := i) hk2 (by omega) hc]
        unfold eqM
        grind
  · have hke : k = mask.length := by
      have h2 := of_decide_eq_false h1
      omega
    subst hke
    repeat' (first | refine go ?_ | intro _ | refine And.intro (Sd.mk (by (first | exact fun _ => True.intro | exact And.intro (fun _ => True.intro) (fun _ _ => True.intro) | (intro hq; (first | exact True.intro | omega | (simp only [and_true]; omega) | (simp only [Bool.not_eq_true', Bool.not_eq_false', decide_eq_true_eq, decide_eq_false_iff_not, Bool.and_eq_true, Bool.or_eq_true, Bool.or_eq_false_iff, Bool.and_eq_false_imp, Int.not_lt, Int.not_le, Nat.not_lt, Nat.not_le] at hq; (try simp only [and_true]); omega) | fail)) | exact And.intro (fun hq => by first | exact True.intro | omega | (simp only [and_true]; omega) | (simp only [Bool.not_eq_true', Bool.not_eq_false', decide_eq_true_eq, decide_eq_false_iff_not, Bool.and_eq_true, Bool.or_eq_true, Bool.or_eq_false_iff, Bool.and_eq_false_imp, Int.not_lt, Int.not_le, Nat.not_lt, Nat.not_le] at hq; (try simp only [and_true]); omega) | fail) (fun hq hr => by first | exact True.intro | omega | (simp only [and_true]; omega) | (simp only [Bool.not_eq_true', Bool.not_eq_false', decide_eq_true_eq, decide_eq_false_iff_not, Bool.and_eq_true, Bool.or_eq_true, Bool.or_eq_false_iff, Bool.and_eq_false_imp, Int.not_lt, Int.not_le, Nat.not_lt, Nat.not_le] at hq hr; omega) | (simp only [Bool.not_eq_true', Bool.not_eq_false', decide_eq_true_eq, decide_eq_false_iff_not, Bool.and_eq_true, Bool.or_eq_true, Bool.or_eq_false_iff, Bool.and_eq_false_imp, Int.not_lt, Int.not_le, Nat.not_lt, Nat.not_le] at hr; omega) | fail) | fail))) ?_ | refine And.intro (by (first | omega | (unfold InR; omega) | decide | (simp only [List.length_append, List.length_map, List.length_take, List.length_drop, List.length_replicate, List.length_cons, List.length_nil, List.length_set]; omega))) ?_ | (refine And.intro (fun h1 => ?_) (fun h1 => ?_) <;> first | (exact absurd h1 (by decide)) | ((try rw [h1]); (try simp only [Bool.not_eq_true', Bool.not_eq_false', decide_eq_true_eq, decide_eq_false_iff_not, Bool.and_eq_true, Bool.or_eq_true, Bool.or_eq_false_iff, Bool.and_eq_false_imp, Int.not_lt, Int.not_le, Nat.not_lt, Nat.not_le] at h1))) | dsimp only)
    rw [nb_get (by omega)]
    unfold Rk
    rw [List.take_length, List.take_length, mt_rev]
    exact h _ (Sub.hv subEnd)⟩
end Go.Proofs.YtodnbkggkdadkabDoor
