import Derived.Test.YtodnbkggkdadkabDoorPeA
set_option linter.all false
namespace Go.Proofs.YtodnbkggkdadkabDoor
open Go.Vx
/-! glob.Match -/
def trimL (l : List UInt8) (c : UInt8) : List UInt8 := l.dropWhile (· == c)
def trimR (l : List UInt8) (c : UInt8) : List UInt8 := (l.reverse.dropWhile (· == c)).reverse
theorem trimR_snoc (l : List UInt8) (x c : UInt8) : trimR (l ++ [x]) c = if x == c then trimR l c else l ++ [x] := by
  unfold trimR
  rw [List.reverse_append, List.reverse_singleton, List.singleton_append, List.dropWhile_cons]
  split
  · rfl
  · simp
theorem trimR_len (l : List UInt8) (c : UInt8) : (trimR l c).length ≤ l.length := by
  unfold trimR
  rw [List.length_reverse]
  refine Nat.le_trans (List.IsSuffix.length_le (List.dropWhile_suffix _)) (by simp)
instance trimL_ok {w : World} {l : List UInt8} {c : UInt8} : VT (Cl P 61 #[str l, byteV c]) w (str (trimL l c)) := ⟨fun {K ds} h => by
  refine cl_ok (c61 (K := fun v w' => K v ⟨w', ds⟩) ?_ fun v w' h => ⟨v, rfl, h⟩)
  unfold D61
  dsimp only
  have hq : ∃ q : Prop, q := ⟨True, trivial⟩
  refine ⟨fun y s => ∃ (m : List UInt8), y = str m ∧ s = ⟨w, []⟩ ∧ trimL m c = trimL l c ∧ m.length ≤ l.length,
    fun y s => match y with | .string b => b.size | _ => 0, ⟨l, rfl, rfl, rfl, Nat.le_refl _⟩, ?_⟩
  rintro y s ⟨m, rfl, rfl, hm, hl⟩
  repeat' (first | refine go ?_ | intro _ | refine And.intro (Sd.mk (by (first | exact fun _ => True.intro | exact And.intro (fun _ => True.intro) (fun _ _ => True.intro) | (intro hq; (first | exact True.intro | omega | (simp only [and_true]; omega) | (simp only [Bool.not_eq_true', Bool.not_eq_false', decide_eq_true_eq, decide_eq_false_iff_not, Bool.and_eq_true, Bool.or_eq_true, Bool.or_eq_false_iff, Bool.and_eq_false_imp, Int.not_lt, Int.not_le, Nat.not_lt, Nat.not_le] at hq; (try simp only [and_true]); omega) | fail)) | exact And.intro (fun hq => by first | exact True.intro | omega | (simp only [and_true]; omega) | (simp only [Bool.not_eq_true', Bool.not_eq_false', decide_eq_true_eq, decide_eq_false_iff_not, Bool.and_eq_true, Bool.or_eq_true, Bool.or_eq_false_iff, Bool.and_eq_false_imp, Int.not_lt, Int.not_le, Nat.not_lt, Nat.not_le] at hq; (try simp only [and_true]); omega) | fail) (fun hq hr => by first | exact True.intro | omega | (simp only [and_true]; omega) | (simp only [Bool.not_eq_true', Bool.not_eq_false', decide_eq_true_eq, decide_eq_false_iff_not, Bool.and_eq_true, Bool.or_eq_true, Bool.or_eq_false_iff, Bool.and_eq_false_imp, Int.not_lt, Int.not_le, Nat.not_lt, Nat.not_le] at hq hr; omega) | (simp only [Bool.not_eq_true', Bool.not_eq_false', decide_eq_true_eq, decide_eq_false_iff_not, Bool.and_eq_true, Bool.or_eq_true, Bool.or_eq_false_iff, Bool.and_eq_false_imp, Int.not_lt, Int.not_le, Nat.not_lt, Nat.not_le] at hr; omega) | fail) | fail))) ?_ | refine And.intro (by (first | omega | (unfold InR; omega) | decide | (simp only [List.length_append, List.length_map, List.length_take, List.length_drop, List.length_replicate, List.length_cons, List.length_nil, List.length_set]; omega))) ?_ | (refine And.intro (fun h1 => ?_) (fun h1 => ?_) <;> first | (exact absurd h1 (by decide)) | ((try rw [h1]); (try simp only [Bool.not_eq_true', Bool.not_eq_false', decide_eq_true_eq, decide_eq_false_iff_not, Bool.and_eq_true, Bool.or_eq_true, Bool.or_eq_false_iff, Bool.and_eq_false_imp, Int.not_lt, Int.not_le, Nat.not_lt, Nat.not_le] at h1))) | dsimp only)
  · obtain ⟨x, m', rfl⟩ : ∃ x m', m = x :: m' := by cases m with | nil => exfalso; rename_i h2; simp at h2 | cons x m' => exact ⟨x, m', rfl⟩
    have hx : x = c := by simpa using h1
    refine ⟨⟨m', rfl, rfl, ?_, by simp at hl; omega⟩, by simp [ByteArray.size]⟩
    rw [← hm]; simp [trimL, hx]
  · obtain ⟨x, m', rfl⟩ : ∃ x m', m = x :: m' := by cases m with | nil => exfalso; rename_i h2; simp at h2 | cons x m' => exact ⟨x, m', rfl⟩
    have hx : ¬ x = c := by simpa using h1
    rw [← hm] at h
    simpa [trimL, hx] using h
  · obtain rfl : m = [] := List.eq_nil_of_length_eq_zero (by omega)
    rw [← hm] at h
    simpa [trimL] using h⟩
instance trimR_ok {w : World} {l : List UInt8} {c : UInt8} : VS (Cl P 62 #[str l, byteV c]) w ((l.length : Int) ≤ 1000000000) (str (trimR l c)) := ⟨fun hb {K ds} h => by
  refine cl_ok (c62 (K := fun v w' => K v ⟨w', ds⟩) ?_ fun v w' h => ⟨v, rfl, h⟩)
  unfold D62
  dsimp only
  refine ⟨fun y s => ∃ (m : List UInt8), y = str m ∧ s = ⟨w, []⟩ ∧ trimR m c = trimR l c ∧ m.length ≤ l.length,
    fun y s => match y with | .string b => b.size | _ => 0, ⟨l, rfl, rfl, rfl, Nat.le_refl _⟩, ?_⟩
  rintro y s ⟨m, rfl, rfl, hm, hl⟩
  repeat' (first | refine go ?_ | intro _ | refine And.intro (Sd.mk (by (first | exact fun _ => True.intro | exact And.intro (fun _ => True.intro) (fun _ _ => True.intro) | (intro hq; (first | exact True.intro | omega | (simp only [and_true]; omega) | (simp only [Bool.not_eq_true', Bool.not_eq_false', decide_eq_true_eq, decide_eq_false_iff_not, Bool.and_eq_true, Bool.or_eq_true, Bool.or_eq_false_iff, Bool.and_eq_false_imp, Int.not_lt, Int.not_le, Nat.not_lt, Nat.not_le] at hq; (try simp only [and_true]); omega) | fail)) | exact And.intro (fun hq => by first | exact True.intro | omega | (simp only [and_true]; omega) | (simp only [Bool.not_eq_true', Bool.not_eq_false', decide_eq_true_eq, decide_eq_false_iff_not, Bool.and_eq_true, Bool.or_eq_true, Bool.or_eq_false_iff, Bool.and_eq_false_imp, Int.not_lt, Int.not_le, Nat.not_lt, Nat.not_le] at hq; (try simp only [and_true]); omega) | fail) (fun hq hr => by first | exact True.intro | omega | (simp only [and_true]; omega) | (simp only [Bool.not_eq_true', Bool.not_eq_false', decide_eq_true_eq, decide_eq_false_iff_not, Bool.and_eq_true, Bool.or_eq_true, Bool.or_eq_false_iff, Bool.and_eq_false_imp, Int.not_lt, Int.not_le, Nat.not_lt, Nat.not_le] at hq hr; omega) | (simp only [Bool.not_eq_true', Bool.not_eq_false', decide_eq_true_eq, decide_eq_false_iff_not, Bool.and_eq_true, Bool.or_eq_true, Bool.or_eq_false_iff, Bool.and_eq_false_imp, Int.not_lt, Int.not_le, Nat.not_lt, Nat.not_le] at hr; omega) | fail) | fail))) ?_ | refine And.intro (by (first | omega | (unfold InR; omega) | decide | (simp only [List.length_append, List.length_map, List.length_take, List.length_drop, List.length_replicate, List.length_cons, List.length_nil, List.length_set]; omega))) ?_ | (refine And.intro (fun h1 => ?_) (fun h1 => ?_) <;> first | (exact absurd h1 (by decide)) | ((try rw [h1]); (try simp only [Bool.not_eq_true', Bool.not_eq_false', decide_eq_true_eq, decide_eq_false_iff_not, Bool.and_eq_true, Bool.or_eq_true, Bool.or_eq_false_iff, Bool.and_eq_false_imp, Int.not_lt, Int.not_le, Nat.not_lt, Nat.not_le] at h1))) | dsimp only)
  · obtain ⟨m', x, rfl⟩ : ∃ m' x, m = m' ++ [x] := ⟨m.dropLast, m.getLast (by intro e; subst e; rename_i h2; simp at h2), (List.dropLast_concat_getLast _).symm⟩
    have en : ((((m' ++ [x]).length : Nat) : Int) - 1).toNat = m'.length := by simp
    rw [en] at *
    have hx : x = c := by simpa using h1
    refine ⟨⟨m', ?_, rfl, ?_, by simp at hl; omega⟩, by simp [ByteArray.size]⟩
    · simp
    · rw [← hm, trimR_snoc]; simp [hx]
  · obtain ⟨m', x, rfl⟩ : ∃ m' x, m = m' ++ [x] := ⟨m.dropLast, m.getLast (by intro e; subst e; rename_i h2; simp at h2), (List.dropLast_concat_getLast _).symm⟩
    have en : ((((m' ++ [x]).length : Nat) : Int) - 1).toNat = m'.length := by simp
    rw [en] at *
    have hx : ¬ x = c := by simpa using h1
    rw [← hm, trimR_snoc] at h
    simpa [hx] using h
  · obtain rfl : m = [] := List.eq_nil_of_length_eq_zero (by omega)
    rw [← hm] at h
    simpa [trimR] using h⟩
instance trim_ok {K : Value → St → Prop} {w0 w : World} {H : List SL} {ds : List Deferred} {l : List UInt8} [o : Hv w0 H w] :
    Step (Cl P 46 #[str l, .string ⟨#[42]⟩] K ⟨w, ds⟩) ((l.length : Int) ≤ 1000000000 ∧ ∀ w', Hv w0 H w' → K (str (trimL (trimR l 42) 42)) ⟨w', ds⟩) := ⟨fun ⟨hb, h⟩ => by
  refine cl_ok (c46 (K := fun v w' => K v ⟨w', ds⟩) ?_ fun v w' h => ⟨v, rfl, h⟩)
  unfold D46
  dsimp only
  repeat' (first | refine go ?_ | intro _ | refine And.intro (Sd.mk (by (first | exact fun _ => True.intro | exact And.intro (fun _ => True.intro) (fun _ _ => True.intro) | (intro hq; (first | exact True.intro | omega | (simp only [and_true]; omega) | (simp only [Bool.not_eq_true', Bool.not_eq_false', decide_eq_true_eq, decide_eq_false_iff_not, Bool.and_eq_true, Bool.or_eq_true, Bool.or_eq_false_iff, Bool.and_eq_false_imp, Int.not_lt, Int.not_le, Nat.not_lt, Nat.not_le] at hq; (try simp only [and_true]); omega) | fail)) | exact And.intro (fun hq => by first | exact True.intro | omega | (simp only [and_true]; omega) | (simp only [Bool.not_eq_true', Bool.not_eq_false', decide_eq_true_eq, decide_eq_false_iff_not, Bool.and_eq_true, Bool.or_eq_true, Bool.or_eq_false_iff, Bool.and_eq_false_imp, Int.not_lt, Int.not_le, Nat.not_lt, Nat.not_le] at hq; (try simp only [and_true]); omega) | fail) (fun hq hr => by first | exact True.intro | omega | (simp only [and_true]; omega) | (simp only [Bool.not_eq_true', Bool.not_eq_false', decide_eq_true_eq, decide_eq_false_iff_not, Bool.and_eq_true, Bool.or_eq_true, Bool.or_eq_false_iff, Bool.and_eq_false_imp, Int.not_lt, Int.not_le, Nat.not_lt, Nat.not_le] at hq hr; omega) | (simp only [Bool.not_eq_true', Bool.not_eq_false', decide_eq_true_eq, decide_eq_false_iff_not, Bool.and_eq_true, Bool.or_eq_true, Bool.or_eq_false_iff, Bool.and_eq_false_imp, Int.not_lt, Int.not_le, Nat.not_lt, Nat.not_le] at hr; omega) | fail) | fail))) ?_ | refine And.intro (by (first | omega | (unfold InR; omega) | decide | (simp only [List.length_append, List.length_map, List.length_take, List.length_drop, List.length_replicate, List.length_cons, List.length_nil, List.length_set]; omega))) ?_ | (refine And.intro (fun h1 => ?_) (fun h1 => ?_) <;> first | (exact absurd h1 (by decide)) | ((try rw [h1]); (try simp only [Bool.not_eq_true', Bool.not_eq_false', decide_eq_true_eq, decide_eq_false_iff_not, Bool.and_eq_true, Bool.or_eq_true, Bool.or_eq_false_iff, Bool.and_eq_false_imp, Int.not_lt, Int.not_le, Nat.not_lt, Nat.not_le] at h1))) | dsimp only)
  · exact h _ (Sub.hv subEnd)
  · rw [h1] at h ⊢
    exact h _ o⟩
theorem mt_end (l : List UInt8) : mt l [] = l.all (· == 42) := by
  induction l with
  | nil => rw [mt_nil]; rfl
  | cons c m ih =>
    by_cases hc : c = 42
    · subst hc; rw [mt_star, ih]; simp
    · rw [mt_one hc]; simp [hc]
theorem drop_all {p : UInt8 → Bool} (l : List UInt8) : (∀ x ∈ l.dropWhile p, p x = true) ↔ ∀ x ∈ l, p x = true := by
  induction l with
  | nil => simp
  | cons y l ih =>
    rw [List.dropWhile_cons]
    split
    · rw [ih]; simp_all
    · exact Iff.rfl
theorem trim_nil (l : List UInt8) : decide (trimL (trimR l 42) 42 = []) = mt l [] := by
  rw [mt_end, Bool.eq_iff_iff, decide_eq_true_eq, List.all_eq_true]
  have h1 : trimL (trimR l 42) 42 = [] ↔ ∀ x ∈ trimL (trimR l 42) 42, (x == 42) = true := by
    constructor
    · intro h; rw [h]; simp
    · intro h
      have h2 := (drop_all _).1 h
      generalize (List.dropWhile (· == 42) l.reverse).reverse = q at *
      have : ∀ q : List UInt8, (∀ x ∈ q, (x == 42) = true) → q.dropWhile (· == 42) = [] := by
        intro q
        induction q with
        | nil => intro _; rfl
        | cons y q ih => intro hq; rw [List.dropWhile_cons, if_pos (hq y (List.mem_cons_self ..))]; exact ih fun x hx => hq x (List.mem_cons_of_mem _ hx)
      exact this _ h2
  rw [h1]
  unfold trimL trimR
  rw [drop_all]
  simp only [List.mem_reverse]
  rw [drop_all]
  simp
instance one_ok {w : World} {c b : UInt8} : VT (Cl P 45 #[byteV c, byteV b]) w (.bool (c == 63 || (!(c == 42) && fb c == fb b))) := ⟨fun {K ds} h => by
  refine cl_ok (c45 (K := fun v w' => K v ⟨w', ds⟩) ?_ fun v w' h => ⟨v, rfl, h⟩)
  unfold D45
  dsimp only
  repeat' (first | refine go ?_ | intro _ | refine And.intro (Sd.mk (by (first | exact fun _ => True.intro | exact And.intro (fun _ => True.intro) (fun _ _ => True.intro) | (intro hq; (first | exact True.intro | omega | (simp only [and_true]; omega) | (simp only [Bool.not_eq_true', Bool.not_eq_false', decide_eq_true_eq, decide_eq_false_iff_not, Bool.and_eq_true, Bool.or_eq_true, Bool.or_eq_false_iff, Bool.and_eq_false_imp, Int.not_lt, Int.not_le, Nat.not_lt, Nat.not_le] at hq; (try simp only [and_true]); omega) | fail)) | exact And.intro (fun hq => by first | exact True.intro | omega | (simp only [and_true]; omega) | (simp only [Bool.not_eq_true', Bool.not_eq_false', decide_eq_true_eq, decide_eq_false_iff_not, Bool.and_eq_true, Bool.or_eq_true, Bool.or_eq_false_iff, Bool.and_eq_false_imp, Int.not_lt, Int.not_le, Nat.not_lt, Nat.not_le] at hq; (try simp only [and_true]); omega) | fail) (fun hq hr => by first | exact True.intro | omega | (simp only [and_true]; omega) | (simp only [Bool.not_eq_true', Bool.not_eq_false', decide_eq_true_eq, decide_eq_false_iff_not, Bool.and_eq_true, Bool.or_eq_true, Bool.or_eq_false_iff, Bool.and_eq_false_imp, Int.not_lt, Int.not_le, Nat.not_lt, Nat.not_le] at hq hr; omega) | (simp only [Bool.not_eq_true', Bool.not_eq_false', decide_eq_true_eq, decide_eq_false_iff_not, Bool.and_eq_true, Bool.or_eq_true, Bool.or_eq_false_iff, Bool.and_eq_false_imp, Int.not_lt, Int.not_le, Nat.not_lt, Nat.not_le] at hr; omega) | fail) | fail))) ?_ | refine And.intro (by (first | omega | (unfold InR; omega) | decide | (simp only [List.length_append, List.length_map, List.length_take, List.length_drop, List.length_replicate, List.length_cons, List.length_nil, List.length_set]; omega))) ?_ | (refine And.intro (fun h1 => ?_) (fun h1 => ?_) <;> first | (exact absurd h1 (by decide)) | ((try rw [h1]); (try simp only [Bool.not_eq_true', Bool.not_eq_false', decide_eq_true_eq, decide_eq_false_iff_not, Bool.and_eq_true, Bool.or_eq_true, Bool.or_eq_false_iff, Bool.and_eq_false_imp, Int.not_lt, Int.not_le, Nat.not_lt, Nat.not_le] at h1))) | dsimp only)
  all_goals
    refine cast (congrArg (fun b => K (.bool b) _) ?_) h
    grind⟩
/-- Match: where it stands. -/
structure MSt (mask l : List UInt8) (i k : Nat) (st : Int) (bk : Nat) : Prop where
  hi : i ≤ l.length
  hk : k ≤ mask.length
  no : st < 0 → st = -1 ∧ bk = 0 ∧ mt mask l = mt (mask.drop k) (l.drop i)
  ye : ∀ n : Nat, st = n → n < k ∧ bk ≤ i ∧ mt mask l = mt (42 :: mask.drop (n + 1)) (l.drop bk) ∧ ∃ p u, Lit p u ∧ mask.drop (n + 1) = p ++ mask.drop k ∧ l.drop bk = u ++ l.drop i
theorem drop_at {l : List UInt8} {i : Nat} (h : i < l.length) : l.drop i = l.getD i default :: l.drop (i + 1) := by
  rw [List.drop_eq_getElem_cons h]; congr 1; simp [h]
theorem MSt.begin (mask l : List UInt8) : MSt mask l 0 0 (-1) 0 := ⟨Nat.zero_le _, Nat.zero_le _, fun _ => ⟨rfl, rfl, rfl⟩, fun n h => by omega⟩
theorem MSt.star {mask l : List UInt8} {i k bk : Nat} {st : Int} (s : MSt mask l i k st bk) (hk : k < mask.length) (hc : mask.getD k default = 42) : MSt mask l i (k + 1) k i := by
  refine ⟨s.hi, hk, fun h => by omega, fun n hn => ?_⟩
  obtain rfl : k = n := by omega
  have hd := drop_at hk
  rw [hc] at hd
  refine ⟨by omega, Nat.le_refl _, ?_, [], [], trivial, rfl, rfl⟩
  by_cases x : st < 0
  · rw [(s.no x).2.2, hd]
  · obtain ⟨m, rfl⟩ : ∃ m : Nat, st = m := ⟨st.toNat, by omega⟩
    obtain ⟨_, _, e, p, u, hl, e1, e2⟩ := s.ye m rfl
    rw [e, e1, e2, hd, greedy hl]
theorem MSt.one {mask l : List UInt8} {i k bk : Nat} {st : Int} (s : MSt mask l i k st bk) (hi : i < l.length) (hk : k < mask.length) (hc : mask.getD k default ≠ 42) (he : eqM (mask.getD k default) (l.getD i default) = true) : MSt mask l (i + 1) (k + 1) st bk := by
  have hd := drop_at hk
  have hd2 := drop_at hi
  refine ⟨hi, hk, fun h => ?_, fun n hn => ?_⟩
  · obtain ⟨a, b, e⟩ := s.no h
    refine ⟨a, b, ?_⟩
    rw [e, hd, hd2, mt_one hc]; simp only [he, Bool.true_and]
  · obtain ⟨a, b, e, p, u, hl, e1, e2⟩ := s.ye n hn
    refine ⟨by omega, by omega, e, p ++ [mask.getD k default], u ++ [l.getD i default], lit_snoc hc he hl, ?_, ?_⟩
    · rw [e1, hd]; simp
    · rw [e2, hd2]; simp
theorem MSt.miss {mask l : List UInt8} {i k bk : Nat} {st : Int} (s : MSt mask l i k st bk) (hi : i < l.length) (hm : mask.length ≤ k ∨ mask.getD k default ≠ 42 ∧ eqM (mask.getD k default) (l.getD i default) = false) : mt (mask.drop k) (l.drop i) = false := by
  rw [drop_at hi]
  rcases hm with h | ⟨h1, h2⟩
  · rw [List.drop_of_length_le h, mt_nil]; rfl
  · rcases Nat.lt_or_ge k mask.length with h | h
    · rw [drop_at h, mt_one h1]; simp only [h2, Bool.false_and]
    · rw [List.drop_of_length_le h, mt_nil]; rfl
theorem MSt.back {mask l : List UInt8} {i k bk n : Nat} (s : MSt mask l i k n bk) (hi : i < l.length) (hm : mask.length ≤ k ∨ mask.getD k default ≠ 42 ∧ eqM (mask.getD k default) (l.getD i default) = false) : MSt mask l (bk + 1) (n + 1) n (bk + 1) := by
  have h0 := s.miss hi hm
  obtain ⟨a, b, e, p, u, hl, e1, e2⟩ := s.ye n rfl
  have hk := s.hk
  refine ⟨by omega, by omega, fun h => by omega, fun j hj => ?_⟩
  obtain rfl : n = j := by omega
  refine ⟨by omega, Nat.le_refl _, ?_, [], [], trivial, rfl, rfl⟩
  have h1 : mt (mask.drop (n + 1)) (l.drop bk) = false := by rw [e1, e2, lit_mt hl, h0]
  have hd := drop_at (show bk < l.length by omega)
  rw [e]
  rw [hd] at h1 ⊢
  exact greedy_miss h1
theorem MSt.fails {mask l : List UInt8} {i k bk : Nat} {st : Int} (s : MSt mask l i k st bk) (hi : i < l.length) (hs : st < 0) (hm : mask.length ≤ k ∨ mask.getD k default ≠ 42 ∧ eqM (mask.getD k default) (l.getD i default) = false) : mt mask l = false := by
  rw [(s.no hs).2.2]; exact s.miss hi hm
theorem MSt.ends {mask l : List UInt8} {i k bk : Nat} {st : Int} (s : MSt mask l i k st bk) (hi : l.length ≤ i) : mt mask l = mt (mask.drop k) [] := by
  have he : l.drop i = [] := List.drop_of_length_le hi
  by_cases x : st < 0
  · rw [(s.no x).2.2, he]
  · obtain ⟨m, rfl⟩ : ∃ m : Nat, st = m := ⟨st.toNat, by omega⟩
    obtain ⟨_, _, e, p, u, hl, e1, e2⟩ := s.ye m rfl
    rw [he, List.append_nil] at e2
    rw [e, e1, e2, greedy_end hl]
/-- How far it is yet. -/
def mu (mask l : List UInt8) (i : Nat) (st : Int) (bk : Nat) : Nat := ((mask.length + 1 - (st + 1).toNat) * (l.length + 1) + (l.length - bk)) * (l.length + 1) + (l.length - i)
theorem lexi {L a b y z : Nat} (h : a + 1 ≤ b) (hy : y < L) : a * L + y < b * L + z := by
  have h1 : (a + 1) * L ≤ b * L := Nat.mul_le_mul_right L h
  rw [Nat.add_mul, Nat.one_mul] at h1
  omega
theorem mu_star {mask l : List UInt8} {i k bk : Nat} {st : Int} (h1 : st < k) (h2 : -1 ≤ st) (hk : k < mask.length) : mu mask l i k i < mu mask l i st bk := by
  unfold mu
  refine lexi ?_ (by omega)
  have h := lexi (L := l.length + 1) (a := mask.length + 1 - ((k : Int) + 1).toNat) (b := mask.length + 1 - (st + 1).toNat) (y := l.length - i) (z := l.length - bk) (by omega) (by omega)
  omega
theorem mu_back {mask l : List UInt8} {i bk : Nat} {st : Int} (h : bk < l.length) : mu mask l (bk + 1) st (bk + 1) < mu mask l i st bk := by
  unfold mu
  exact lexi (by omega) (by omega)
theorem mu_one {mask l : List UInt8} {i bk : Nat} {st : Int} (h : i < l.length) : mu mask l (i + 1) st bk < mu mask l i st bk := by
  unfold mu; omega
instance match_ok {K : Value → St → Prop} {w0 w : World} {H : List SL} {ds : List Deferred} {mask l : List UInt8} [o : Hv w0 H w] :
    Step (Cl P 29 #[str mask, str l] K ⟨w, ds⟩) ((mask.length ≤ 1000000000 ∧ l.length ≤ 1000000000) ∧ ∀ w', Hv w0 H w' → K (.bool (mt mask l)) ⟨w', ds⟩) := ⟨fun ⟨⟨hb1, hb2⟩, h⟩ => by
  refine cl_ok (c29 (K := fun v w' => K v ⟨w', ds⟩) ?_ fun v w' h => ⟨v, rfl, h⟩)
  unfold D29
  dsimp only
  refine ⟨fun a b c d s => ∃ (i k : Nat) (st : Int) (bk : Nat) (w' : World), a = .int .i64 i ∧ b = .int .i64 k ∧ c = .int .i64 st ∧ d = .int .i64 bk ∧ s = ⟨w', []⟩ ∧ -1 ≤ st ∧ MSt mask l i k st bk ∧ Hv w0 H w',
    fun a b c d s => match a, c, d with | .int _ i, .int _ st, .int _ bk => mu mask l i.toNat st bk.toNat | _, _, _ => 0, ⟨0, 0, -1, 0, w, rfl, rfl, rfl, rfl, rfl, by omega, MSt.begin _ _, o⟩, ?_⟩
  rintro a b c d s ⟨i, k, st, bk, w1, rfl, rfl, rfl, rfl, rfl, hst, hS, o1⟩
  have hi := hS.hi
  have hk := hS.hk
  have hbd : bk ≤ i ∧ st < k := by
    by_cases x : st < 0
    · have := hS.no x; omega
    · obtain ⟨m, rfl⟩ : ∃ m : Nat, st = m := ⟨st.toNat, by omega⟩
      have := hS.ye m rfl; omega
  obtain ⟨hb3, hb4⟩ := hbd
  repeat' (first | refine go ?_ | intro _ | refine And.intro (Sd.mk (by (first | exact fun _ => True.intro | exact And.intro (fun _ => True.intro) (fun _ _ => True.intro) | (intro hq; (first | exact True.intro | omega | (simp only [and_true]; omega) | (simp only [Bool.not_eq_true', Bool.not_eq_false', decide_eq_true_eq, decide_eq_false_iff_not, Bool.and_eq_true, Bool.or_eq_true, Bool.or_eq_false_iff, Bool.and_eq_false_imp, Int.not_lt, Int.not_le, Nat.not_lt, Nat.not_le] at hq; (try simp only [and_true]); omega) | fail)) | exact And.intro (fun hq => by first | exact True.intro | omega | (simp only [and_true]; omega) | (simp only [Bool.not_eq_true', Bool.not_eq_false', decide_eq_true_eq, decide_eq_false_iff_not, Bool.and_eq_true, Bool.or_eq_true, Bool.or_eq_false_iff, Bool.and_eq_false_imp, Int.not_lt, Int.not_le, Nat.not_lt, Nat.not_le] at hq; (try simp only [and_true]); omega) | fail) (fun hq hr => by first | exact True.intro | omega | (simp only [and_true]; omega) | (simp only [Bool.not_eq_true', Bool.not_eq_false', decide_eq_true_eq, decide_eq_false_iff_not, Bool.and_eq_true, Bool.or_eq_true, Bool.or_eq_false_iff, Bool.and_eq_false_imp, Int.not_lt, Int.not_le, Nat.not_lt, Nat.not_le] at hq hr; omega) | (simp only [Bool.not_eq_true', Bool.not_eq_false', decide_eq_true_eq, decide_eq_false_iff_not, Bool.and_eq_true, Bool.or_eq_true, Bool.or_eq_false_iff, Bool.and_eq_false_imp, Int.not_lt, Int.not_le, Nat.not_lt, Nat.not_le] at hr; omega) | fail) | fail))) ?_ | refine And.intro (by (first | omega | (unfold InR; omega) | decide | (simp only [List.length_append, List.length_map, List.length_take, List.length_drop, List.length_replicate, List.length_cons, List.length_nil, List.length_set]; omega))) ?_ | (refine And.intro (fun h1 => ?_) (fun h1 => ?_) <;> first | (exact absurd h1 (by decide)) | ((try rw [h1]); (try simp only [Bool.not_eq_true', Bool.not_eq_false', decide_eq_true_eq, decide_eq_false_iff_not, Bool.and_eq_true, Bool.or_eq_true, Bool.or_eq_false_iff, Bool.and_eq_false_imp, Int.not_lt, Int.not_le, Nat.not_lt, Nat.not_le] at h1))) | dsimp only)
  all_goals first
    | (exfalso; omega)
    | exact ⟨⟨i, k + 1, k, i, _, rfl, rfl, rfl, rfl, rfl, by omega, hS.star (by omega) h1, o1⟩, by simpa using mu_star (by omega) hst (by omega)⟩
    | (refine ⟨⟨i + 1, k + 1, st, bk, _, rfl, rfl, rfl, rfl, rfl, hst, hS.one (by omega) (by omega) ?_ ?_, Sub.hv subEnd⟩, ?_⟩
       · assumption
       · unfold eqM; grind
       · exact mu_one (show i < l.length by omega))
    | (refine cast (congrArg (fun b => K (.bool b) _) ?_) (h _ (Sub.hv subEnd))
       refine hS.fails (by omega) (by omega) ?_
       unfold eqM; clear h; grind)
    | (obtain ⟨m, rfl⟩ : ∃ m : Nat, st = m := ⟨st.toNat, by omega⟩
       refine ⟨⟨bk + 1, m + 1, m, bk + 1, _, rfl, rfl, rfl, rfl, rfl, by omega, hS.back (by omega) ?_, Sub.hv subEnd⟩, ?_⟩
       · unfold eqM; clear h; grind
       · exact mu_back (show bk < l.length by omega))
    | skip
  rw [trim_nil, ← hS.ends (by omega)]
  exact h _ (Sub.hv subEnd)⟩
end Go.Proofs.YtodnbkggkdadkabDoor
