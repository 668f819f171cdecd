import Derived.Test.YtodnbkggkdadkaaMoE
set_option linter.all false
namespace Go.Proofs.Ytodnbkggkdadkaa
open Go.Vx
def signStr : Option Bool → List UInt8
  | none => []
  | some on => [signOf on]
theorem signStr_eq (on : Bool) (pv : Option Bool) : [signOf on] = signStr pv ↔ pv = some on := by
  cases pv with
  | none => simp [signStr]
  | some b => cases on <;> cases b <;> simp [signStr, signOf]
instance textR_ok {K : Value → St → Prop} {w0 w : World} {H : List SL} {ds : List Deferred} {x : Value} {xs : List Chg} {n : Nat} {zx : List Value} [o : Hv w0 H w] [rx : RdsF w0 H x 3 n zx] [ex : Encs encC zx xs] :
    Step (Cl P 40 #[x] K ⟨w, ds⟩) (xs.length ≤ 100000 ∧ ∀ v w', Hv w0 (row 9 1 v (texts xs).length ((texts xs).map str) :: H) w' → K v ⟨w', ds⟩) := ⟨fun ⟨hlen, h⟩ => by
  refine cl_ok (c40 (K := fun v w' => K v ⟨w', ds⟩) ?_ fun v w' h => ⟨v, rfl, h⟩)
  obtain rfl : n = xs.length := ex.len (rx.rd w o).len (by decide)
  obtain rfl := ex.eq
  have rlx := rx.loc
  unfold D40
  dsimp only
  repeat' (first | refine go ?_ | intro _ | refine And.intro (Sd.mk (by (first | exact fun _ => True.intro | exact And.intro (fun _ => True.intro) (fun _ _ => True.intro) | (intro hq; (first | exact True.intro | omega | (simp only [and_true]; omega) | (simp only [Bool.not_eq_true', Bool.not_eq_false', decide_eq_true_eq, decide_eq_false_iff_not, Bool.and_eq_true, Bool.or_eq_true, Bool.or_eq_false_iff, Bool.and_eq_false_imp, Int.not_lt, Int.not_le, Nat.not_lt, Nat.not_le] at hq; (try simp only [and_true]); omega) | fail)) | exact And.intro (fun hq => by first | exact True.intro | omega | (simp only [and_true]; omega) | (simp only [Bool.not_eq_true', Bool.not_eq_false', decide_eq_true_eq, decide_eq_false_iff_not, Bool.and_eq_true, Bool.or_eq_true, Bool.or_eq_false_iff, Bool.and_eq_false_imp, Int.not_lt, Int.not_le, Nat.not_lt, Nat.not_le] at hq; (try simp only [and_true]); omega) | fail) (fun hq hr => by first | exact True.intro | omega | (simp only [and_true]; omega) | (simp only [Bool.not_eq_true', Bool.not_eq_false', decide_eq_true_eq, decide_eq_false_iff_not, Bool.and_eq_true, Bool.or_eq_true, Bool.or_eq_false_iff, Bool.and_eq_false_imp, Int.not_lt, Int.not_le, Nat.not_lt, Nat.not_le] at hq hr; omega) | (simp only [Bool.not_eq_true', Bool.not_eq_false', decide_eq_true_eq, decide_eq_false_iff_not, Bool.and_eq_true, Bool.or_eq_true, Bool.or_eq_false_iff, Bool.and_eq_false_imp, Int.not_lt, Int.not_le, Nat.not_lt, Nat.not_le] at hr; omega) | fail) | fail))) ?_ | refine And.intro (by (first | omega | (unfold InR; omega) | decide | (simp only [List.length_append, List.length_map, List.length_take, List.length_drop, List.length_replicate, List.length_cons, List.length_nil, List.length_set]; omega))) ?_ | (refine And.intro (fun h1 => ?_) (fun h1 => ?_) <;> first | (exact absurd h1 (by decide)) | ((try rw [h1]); (try simp only [Bool.not_eq_true', Bool.not_eq_false', decide_eq_true_eq, decide_eq_false_iff_not, Bool.and_eq_true, Bool.or_eq_true, Bool.or_eq_false_iff, Bool.and_eq_false_imp, Int.not_lt, Int.not_le, Nat.not_lt, Nat.not_le] at h1))) | dsimp only)
  · have : xs = [] := List.eq_nil_of_length_eq_zero (by omega)
    subst this
    exact h _ _ (by simpa [texts] using Hv.nilRow 9 1 o)
  have hne : xs ≠ [] := fun e => by subst e; simp at h1
  have htx : texts xs = (foldT xs).1 :: (foldT xs).2.1 := by unfold texts; rw [if_neg hne]
  rw [htx] at h
  rename_i v0 w1 o1
  refine ⟨fun a b y s => ∃ (i : Nat) (w' : World), b = str (signStr (foldT (xs.take i)).2.2) ∧ y = .int .i64 i ∧ s = ⟨w', []⟩ ∧ i ≤ xs.length ∧ Hv w0 (row 9 1 a ((foldT (xs.take i)).2.1.length + 1) (str (foldT (xs.take i)).1 :: (foldT (xs.take i)).2.1.map str) :: H) w',
    fun _ _ y s => match y with | .int _ z => xs.length - z.toNat | _ => 0, ⟨0, w1, rfl, rfl, rfl, Nat.zero_le _, by simpa [foldT] using o1⟩, ?_⟩
  rintro a b y s ⟨i, w2, rfl, rfl, rfl, hi, o2⟩
  have hinv := foldT_inv xs i hi
  rcases Nat.lt_or_ge i xs.length with hlt | hge
  · have ht : foldT (xs.take (i + 1)) = stepT (foldT (xs.take i)) (xs.getD i default) := by rw [take_snoc hlt, foldT_snoc]
    generalize foldT (xs.take i) = p at *
    obtain ⟨rw0, ags, pv⟩ := p
    dsimp only at hinv o2 ⊢
    have fin : ∀ (sg : List UInt8) (q : Bool) (a' : Value) (w' : World), sg = [signOf (xs.getD i default).1] → (q = true ↔ pv = some (xs.getD i default).1) →
        Hv w0 (row 9 1 a' ((ags ++ if takesS (xs.getD i default).2.1 (xs.getD i default).1 then [(xs.getD i default).2.2] else []).length + 1) (str (rw0 ++ (if q then [] else [signOf (xs.getD i default).1]) ++ [(xs.getD i default).2.1]) :: (ags ++ if takesS (xs.getD i default).2.1 (xs.getD i default).1 then [(xs.getD i default).2.2] else []).map str) :: H) w' →
        (∃ (i_1 : Nat) (w'_1 : World), str sg = str (signStr (foldT (xs.take i_1)).2.2) ∧ Value.int .i64 (↑i + 1) = .int .i64 i_1 ∧ (⟨w', []⟩ : St) = ⟨w'_1, []⟩ ∧ i_1 ≤ xs.length ∧ Hv w0 (row 9 1 a' ((foldT (xs.take i_1)).2.1.length + 1) (str (foldT (xs.take i_1)).1 :: (foldT (xs.take i_1)).2.1.map str) :: H) w'_1) ∧ xs.length - (↑i + 1 : Int).toNat < xs.length - (↑i : Int).toNat := by
      intro sg q a' w' hsg hq ho
      refine ⟨⟨i + 1, w', ?_, rfl, rfl, hlt, ?_⟩, by simp; omega⟩
      · rw [ht, hsg]; rfl
      rw [ht]
      unfold stepT
      dsimp only
      have hqq : (if pv = some (xs.getD i default).1 then [] else [signOf (xs.getD i default).1]) = if q then [] else [signOf (xs.getD i default).1] := by
        cases q with
        | true => rw [if_pos (hq.1 rfl)]; rfl
        | false => rw [if_neg (fun h => by have := hq.2 h; cases this)]; rfl
      rw [hqq, ← List.append_assoc]
      exact ho
    repeat' (first | refine go ?_ | intro _ | refine And.intro (Sd.mk (by (first | exact fun _ => True.intro | exact And.intro (fun _ => True.intro) (fun _ _ => True.intro) | (intro hq; (first | exact True.intro | omega | (simp only [and_true]; omega) | (simp only [Bool.not_eq_true', Bool.not_eq_false', decide_eq_true_eq, decide_eq_false_iff_not, Bool.and_eq_true, Bool.or_eq_true, Bool.or_eq_false_iff, Bool.and_eq_false_imp, Int.not_lt, Int.not_le, Nat.not_lt, Nat.not_le] at hq; (try simp only [and_true]); omega) | fail)) | exact And.intro (fun hq => by first | exact True.intro | omega | (simp only [and_true]; omega) | (simp only [Bool.not_eq_true', Bool.not_eq_false', decide_eq_true_eq, decide_eq_false_iff_not, Bool.and_eq_true, Bool.or_eq_true, Bool.or_eq_false_iff, Bool.and_eq_false_imp, Int.not_lt, Int.not_le, Nat.not_lt, Nat.not_le] at hq; (try simp only [and_true]); omega) | fail) (fun hq hr => by first | exact True.intro | omega | (simp only [and_true]; omega) | (simp only [Bool.not_eq_true', Bool.not_eq_false', decide_eq_true_eq, decide_eq_false_iff_not, Bool.and_eq_true, Bool.or_eq_true, Bool.or_eq_false_iff, Bool.and_eq_false_imp, Int.not_lt, Int.not_le, Nat.not_lt, Nat.not_le] at hq hr; omega) | (simp only [Bool.not_eq_true', Bool.not_eq_false', decide_eq_true_eq, decide_eq_false_iff_not, Bool.and_eq_true, Bool.or_eq_true, Bool.or_eq_false_iff, Bool.and_eq_false_imp, Int.not_lt, Int.not_le, Nat.not_lt, Nat.not_le] at hr; omega) | fail) | fail))) ?_ | refine And.intro (by (first | omega | (unfold InR; omega) | decide | (simp only [List.length_append, List.length_map, List.length_take, List.length_drop, List.length_replicate, List.length_cons, List.length_nil, List.length_set]; omega))) ?_ | (refine And.intro (fun h1 => ?_) (fun h1 => ?_) <;> first | (exact absurd h1 (by decide)) | ((try rw [h1]); (try simp only [Bool.not_eq_true', Bool.not_eq_false', decide_eq_true_eq, decide_eq_false_iff_not, Bool.and_eq_true, Bool.or_eq_true, Bool.or_eq_false_iff, Bool.and_eq_false_imp, Int.not_lt, Int.not_le, Nat.not_lt, Nat.not_le] at h1))) | dsimp only)
    all_goals first
      | (exfalso; omega)
      | skip
    all_goals
      have hs1 : [43] = signStr pv ↔ pv = some true := signStr_eq true pv
      have hs2 : [45] = signStr pv ↔ pv = some false := signStr_eq false pv
      have e1 : signOf true = 43 := rfl
      have e2 : signOf false = 45 := rfl
    all_goals first
      | (refine fin _ true _ _ ?_ ?_ (Sub.hv (subRow ?_ ?_ subEnd)) <;> clear fin ht hinv <;> first | (rw [h1]; simp; done) | (clear o2 h; grind)
         done)
      | (refine fin _ false _ _ ?_ ?_ (Sub.hv (subRow ?_ ?_ subEnd)) <;> clear fin ht hinv <;> first | (rw [h1]; simp; done) | (clear o2 h; grind)
         done)
  · have hie : i = xs.length := by omega
    subst hie
    rw [List.take_length] at o2 hinv
    repeat' (first | refine go ?_ | intro _ | refine And.intro (Sd.mk (by (first | exact fun _ => True.intro | exact And.intro (fun _ => True.intro) (fun _ _ => True.intro) | (intro hq; (first | exact True.intro | omega | (simp only [and_true]; omega) | (simp only [Bool.not_eq_true', Bool.not_eq_false', decide_eq_true_eq, decide_eq_false_iff_not, Bool.and_eq_true, Bool.or_eq_true, Bool.or_eq_false_iff, Bool.and_eq_false_imp, Int.not_lt, Int.not_le, Nat.not_lt, Nat.not_le] at hq; (try simp only [and_true]); omega) | fail)) | exact And.intro (fun hq => by first | exact True.intro | omega | (simp only [and_true]; omega) | (simp only [Bool.not_eq_true', Bool.not_eq_false', decide_eq_true_eq, decide_eq_false_iff_not, Bool.and_eq_true, Bool.or_eq_true, Bool.or_eq_false_iff, Bool.and_eq_false_imp, Int.not_lt, Int.not_le, Nat.not_lt, Nat.not_le] at hq; (try simp only [and_true]); omega) | fail) (fun hq hr => by first | exact True.intro | omega | (simp only [and_true]; omega) | (simp only [Bool.not_eq_true', Bool.not_eq_false', decide_eq_true_eq, decide_eq_false_iff_not, Bool.and_eq_true, Bool.or_eq_true, Bool.or_eq_false_iff, Bool.and_eq_false_imp, Int.not_lt, Int.not_le, Nat.not_lt, Nat.not_le] at hq hr; omega) | (simp only [Bool.not_eq_true', Bool.not_eq_false', decide_eq_true_eq, decide_eq_false_iff_not, Bool.and_eq_true, Bool.or_eq_true, Bool.or_eq_false_iff, Bool.and_eq_false_imp, Int.not_lt, Int.not_le, Nat.not_lt, Nat.not_le] at hr; omega) | fail) | fail))) ?_ | refine And.intro (by (first | omega | (unfold InR; omega) | decide | (simp only [List.length_append, List.length_map, List.length_take, List.length_drop, List.length_replicate, List.length_cons, List.length_nil, List.length_set]; omega))) ?_ | (refine And.intro (fun h1 => ?_) (fun h1 => ?_) <;> first | (exact absurd h1 (by decide)) | ((try rw [h1]); (try simp only [Bool.not_eq_true', Bool.not_eq_false', decide_eq_true_eq, decide_eq_false_iff_not, Bool.and_eq_true, Bool.or_eq_true, Bool.or_eq_false_iff, Bool.and_eq_false_imp, Int.not_lt, Int.not_le, Nat.not_lt, Nat.not_le] at h1))) | dsimp only)
    all_goals first
      | (exfalso; omega)
      | exact h _ _ (Sub.hv (subRow (by simp) rfl subEnd))⟩
instance texts_ok {K : Value → St → Prop} {w0 w : World} {H : List SL} {ds : List Deferred} {x y : Value} {xs ys : List (List UInt8)} {n m : Nat} {zx zy : List Value} [o : Hv w0 H w] [rx : RdsF w0 H x 1 n zx] [ex : Strs zx xs] [ry : RdsF w0 H y 1 m zy] [ey : Strs zy ys] :
    Step (Cl P 38 #[x, y] K ⟨w, ds⟩) (xs.length ≤ 1000000000 ∧ ∀ w', Hv w0 H w' → K (.bool (decide (xs = ys))) ⟨w', ds⟩) := ⟨fun ⟨hlen, h⟩ => by
  refine cl_ok (c38 (K := fun v w' => K v ⟨w', ds⟩) ?_ fun v w' h => ⟨v, rfl, h⟩)
  obtain rfl := ex.eq
  obtain rfl := ey.eq
  obtain rfl : n = xs.length := by have := (rx.rd w o).len; simpa using this.symm
  obtain rfl : m = ys.length := by have := (ry.rd w o).len; simpa using this.symm
  have rlx := rx.loc
  have rly := ry.loc
  unfold D38
  dsimp only
  repeat' (first | refine go ?_ | intro _ | refine And.intro (Sd.mk (by (first | exact fun _ => True.intro | exact And.intro (fun _ => True.intro) (fun _ _ => True.intro) | (intro hq; (first | exact True.intro | omega | (simp only [and_true]; omega) | (simp only [Bool.not_eq_true', Bool.not_eq_false', decide_eq_true_eq, decide_eq_false_iff_not, Bool.and_eq_true, Bool.or_eq_true, Bool.or_eq_false_iff, Bool.and_eq_false_imp, Int.not_lt, Int.not_le, Nat.not_lt, Nat.not_le] at hq; (try simp only [and_true]); omega) | fail)) | exact And.intro (fun hq => by first | exact True.intro | omega | (simp only [and_true]; omega) | (simp only [Bool.not_eq_true', Bool.not_eq_false', decide_eq_true_eq, decide_eq_false_iff_not, Bool.and_eq_true, Bool.or_eq_true, Bool.or_eq_false_iff, Bool.and_eq_false_imp, Int.not_lt, Int.not_le, Nat.not_lt, Nat.not_le] at hq; (try simp only [and_true]); omega) | fail) (fun hq hr => by first | exact True.intro | omega | (simp only [and_true]; omega) | (simp only [Bool.not_eq_true', Bool.not_eq_false', decide_eq_true_eq, decide_eq_false_iff_not, Bool.and_eq_true, Bool.or_eq_true, Bool.or_eq_false_iff, Bool.and_eq_false_imp, Int.not_lt, Int.not_le, Nat.not_lt, Nat.not_le] at hq hr; omega) | (simp only [Bool.not_eq_true', Bool.not_eq_false', decide_eq_true_eq, decide_eq_false_iff_not, Bool.and_eq_true, Bool.or_eq_true, Bool.or_eq_false_iff, Bool.and_eq_false_imp, Int.not_lt, Int.not_le, Nat.not_lt, Nat.not_le] at hr; omega) | fail) | fail))) ?_ | refine And.intro (by (first | omega | (unfold InR; omega) | decide | (simp only [List.length_append, List.length_map, List.length_take, List.length_drop, List.length_replicate, List.length_cons, List.length_nil, List.length_set]; omega))) ?_ | (refine And.intro (fun h1 => ?_) (fun h1 => ?_) <;> first | (exact absurd h1 (by decide)) | ((try rw [h1]); (try simp only [Bool.not_eq_true', Bool.not_eq_false', decide_eq_true_eq, decide_eq_false_iff_not, Bool.and_eq_true, Bool.or_eq_true, Bool.or_eq_false_iff, Bool.and_eq_false_imp, Int.not_lt, Int.not_le, Nat.not_lt, Nat.not_le] at h1))) | dsimp only)
  · have hne : xs ≠ ys := fun e => h1 (by rw [e])
    simpa [hne] using h _ o
  have hn : xs.length = ys.length := by omega
  refine ⟨fun y s => ∃ (i : Nat) (w' : World), y = .int .i64 i ∧ s = ⟨w', []⟩ ∧ i ≤ xs.length ∧ xs.take i = ys.take i ∧ Hv w0 H w',
    fun y s => match y with | .int _ z => xs.length - z.toNat | _ => 0, ⟨0, w, rfl, rfl, Nat.zero_le _, by simp, o⟩, ?_⟩
  rintro y s ⟨i, w1, rfl, rfl, hi, he, o1⟩
  repeat' (first | refine go ?_ | intro _ | refine And.intro (Sd.mk (by (first | exact fun _ => True.intro | exact And.intro (fun _ => True.intro) (fun _ _ => True.intro) | (intro hq; (first | exact True.intro | omega | (simp only [and_true]; omega) | (simp only [Bool.not_eq_true', Bool.not_eq_false', decide_eq_true_eq, decide_eq_false_iff_not, Bool.and_eq_true, Bool.or_eq_true, Bool.or_eq_false_iff, Bool.and_eq_false_imp, Int.not_lt, Int.not_le, Nat.not_lt, Nat.not_le] at hq; (try simp only [and_true]); omega) | fail)) | exact And.intro (fun hq => by first | exact True.intro | omega | (simp only [and_true]; omega) | (simp only [Bool.not_eq_true', Bool.not_eq_false', decide_eq_true_eq, decide_eq_false_iff_not, Bool.and_eq_true, Bool.or_eq_true, Bool.or_eq_false_iff, Bool.and_eq_false_imp, Int.not_lt, Int.not_le, Nat.not_lt, Nat.not_le] at hq; (try simp only [and_true]); omega) | fail) (fun hq hr => by first | exact True.intro | omega | (simp only [and_true]; omega) | (simp only [Bool.not_eq_true', Bool.not_eq_false', decide_eq_true_eq, decide_eq_false_iff_not, Bool.and_eq_true, Bool.or_eq_true, Bool.or_eq_false_iff, Bool.and_eq_false_imp, Int.not_lt, Int.not_le, Nat.not_lt, Nat.not_le] at hq hr; omega) | (simp only [Bool.not_eq_true', Bool.not_eq_false', decide_eq_true_eq, decide_eq_false_iff_not, Bool.and_eq_true, Bool.or_eq_true, Bool.or_eq_false_iff, Bool.and_eq_false_imp, Int.not_lt, Int.not_le, Nat.not_lt, Nat.not_le] at hr; omega) | fail) | fail))) ?_ | refine And.intro (by (first | omega | (unfold InR; omega) | decide | (simp only [List.length_append, List.length_map, List.length_take, List.length_drop, List.length_replicate, List.length_cons, List.length_nil, List.length_set]; omega))) ?_ | (refine And.intro (fun h1 => ?_) (fun h1 => ?_) <;> first | (exact absurd h1 (by decide)) | ((try rw [h1]); (try simp only [Bool.not_eq_true', Bool.not_eq_false', decide_eq_true_eq, decide_eq_false_iff_not, Bool.and_eq_true, Bool.or_eq_true, Bool.or_eq_false_iff, Bool.and_eq_false_imp, Int.not_lt, Int.not_le, Nat.not_lt, Nat.not_le] at h1))) | dsimp only)
  · have hlt : i < xs.length := by omega
    have hne : xs ≠ ys := fun e => by rw [e] at h1; simp at h1
    simpa [hne] using h _ ‹_›
  · have hlt : i < xs.length := by omega
    exact ⟨⟨i + 1, _, rfl, rfl, hlt, by rw [take_snoc hlt, take_snoc (show i < ys.length by omega), he, h1], ‹_›⟩, by simp; omega⟩
  · have : xs = ys := by rw [← List.take_of_length_le (show xs.length ≤ i by omega), he, List.take_of_length_le (by omega)]
    simpa [this] using h _ ‹_›⟩
theorem mtexts_ok {w : World} {v : Value} {xs : List Chg} (hp : Arg w v 3 xs.length (xs.flatMap encC)) : Calls P 12 #[v] w fun e w' => e = .returned (.bool true) ∧ Hv w [] w' := by
  refine c12 (K := fun v w' => v = .bool true ∧ Hv w [] w') ?_ fun v w' h => ⟨by rw [h.1], h.2⟩
  have o := Hv.begin w
  unfold D12
  dsimp only
  repeat' (first | refine go ?_ | intro _ | refine And.intro (Sd.mk (by (first | exact fun _ => True.intro | exact And.intro (fun _ => True.intro) (fun _ _ => True.intro) | (intro hq; (first | exact True.intro | omega | (simp only [and_true]; omega) | (simp only [Bool.not_eq_true', Bool.not_eq_false', decide_eq_true_eq, decide_eq_false_iff_not, Bool.and_eq_true, Bool.or_eq_true, Bool.or_eq_false_iff, Bool.and_eq_false_imp, Int.not_lt, Int.not_le, Nat.not_lt, Nat.not_le] at hq; (try simp only [and_true]); omega) | fail)) | exact And.intro (fun hq => by first | exact True.intro | omega | (simp only [and_true]; omega) | (simp only [Bool.not_eq_true', Bool.not_eq_false', decide_eq_true_eq, decide_eq_false_iff_not, Bool.and_eq_true, Bool.or_eq_true, Bool.or_eq_false_iff, Bool.and_eq_false_imp, Int.not_lt, Int.not_le, Nat.not_lt, Nat.not_le] at hq; (try simp only [and_true]); omega) | fail) (fun hq hr => by first | exact True.intro | omega | (simp only [and_true]; omega) | (simp only [Bool.not_eq_true', Bool.not_eq_false', decide_eq_true_eq, decide_eq_false_iff_not, Bool.and_eq_true, Bool.or_eq_true, Bool.or_eq_false_iff, Bool.and_eq_false_imp, Int.not_lt, Int.not_le, Nat.not_lt, Nat.not_le] at hq hr; omega) | (simp only [Bool.not_eq_true', Bool.not_eq_false', decide_eq_true_eq, decide_eq_false_iff_not, Bool.and_eq_true, Bool.or_eq_true, Bool.or_eq_false_iff, Bool.and_eq_false_imp, Int.not_lt, Int.not_le, Nat.not_lt, Nat.not_le] at hr; omega) | fail) | fail))) ?_ | refine And.intro (by (first | omega | (unfold InR; omega) | decide | (simp only [List.length_append, List.length_map, List.length_take, List.length_drop, List.length_replicate, List.length_cons, List.length_nil, List.length_set]; omega))) ?_ | (refine And.intro (fun h1 => ?_) (fun h1 => ?_) <;> first | (exact absurd h1 (by decide)) | ((try rw [h1]); (try simp only [Bool.not_eq_true', Bool.not_eq_false', decide_eq_true_eq, decide_eq_false_iff_not, Bool.and_eq_true, Bool.or_eq_true, Bool.or_eq_false_iff, Bool.and_eq_false_imp, Int.not_lt, Int.not_le, Nat.not_lt, Nat.not_le] at h1))) | dsimp only)
  · exact ⟨rfl, Sub.hv subEnd⟩
  rename_i w1 o1 _
  refine ⟨fun y s => ∃ (i : Nat) (w' : World), y = .int .i64 i ∧ s = ⟨w', []⟩ ∧ i ≤ xs.length ∧ Hv w [] w',
    fun y s => match y with | .int _ z => xs.length - z.toNat | _ => 0, ⟨0, w1, rfl, rfl, Nat.zero_le _, o1⟩, ?_⟩
  rintro y s ⟨i, w2, rfl, rfl, hi, o2⟩
  have htl : (texts xs).length ≤ xs.length + 1 := by
    have h := foldT_inv xs xs.length (Nat.le_refl _)
    rw [List.take_length] at h
    unfold texts; split
    · simp
    · simp; omega
  repeat' (first | refine go ?_ | intro _ | refine And.intro (Sd.mk (by (first | exact fun _ => True.intro | exact And.intro (fun _ => True.intro) (fun _ _ => True.intro) | (intro hq; (first | exact True.intro | omega | (simp only [and_true]; omega) | (simp only [Bool.not_eq_true', Bool.not_eq_false', decide_eq_true_eq, decide_eq_false_iff_not, Bool.and_eq_true, Bool.or_eq_true, Bool.or_eq_false_iff, Bool.and_eq_false_imp, Int.not_lt, Int.not_le, Nat.not_lt, Nat.not_le] at hq; (try simp only [and_true]); omega) | fail)) | exact And.intro (fun hq => by first | exact True.intro | omega | (simp only [and_true]; omega) | (simp only [Bool.not_eq_true', Bool.not_eq_false', decide_eq_true_eq, decide_eq_false_iff_not, Bool.and_eq_true, Bool.or_eq_true, Bool.or_eq_false_iff, Bool.and_eq_false_imp, Int.not_lt, Int.not_le, Nat.not_lt, Nat.not_le] at hq; (try simp only [and_true]); omega) | fail) (fun hq hr => by first | exact True.intro | omega | (simp only [and_true]; omega) | (simp only [Bool.not_eq_true', Bool.not_eq_false', decide_eq_true_eq, decide_eq_false_iff_not, Bool.and_eq_true, Bool.or_eq_true, Bool.or_eq_false_iff, Bool.and_eq_false_imp, Int.not_lt, Int.not_le, Nat.not_lt, Nat.not_le] at hq hr; omega) | (simp only [Bool.not_eq_true', Bool.not_eq_false', decide_eq_true_eq, decide_eq_false_iff_not, Bool.and_eq_true, Bool.or_eq_true, Bool.or_eq_false_iff, Bool.and_eq_false_imp, Int.not_lt, Int.not_le, Nat.not_lt, Nat.not_le] at hr; omega) | fail) | fail))) ?_ | refine And.intro (by (first | omega | (unfold InR; omega) | decide | (simp only [List.length_append, List.length_map, List.length_take, List.length_drop, List.length_replicate, List.length_cons, List.length_nil, List.length_set]; omega))) ?_ | (refine And.intro (fun h1 => ?_) (fun h1 => ?_) <;> first | (exact absurd h1 (by decide)) | ((try rw [h1]); (try simp only [Bool.not_eq_true', Bool.not_eq_false', decide_eq_true_eq, decide_eq_false_iff_not, Bool.and_eq_true, Bool.or_eq_true, Bool.or_eq_false_iff, Bool.and_eq_false_imp, Int.not_lt, Int.not_le, Nat.not_lt, Nat.not_le] at h1))) | dsimp only)
  all_goals first
    | exact ⟨rfl, Sub.hv subEnd⟩
    | (exfalso; revert h1; simp; done)
    | (exact ⟨⟨i + 1, _, rfl, rfl, by omega, Sub.hv subEnd⟩, by simp; omega⟩)
    | skip
  exact ⟨by simp, Sub.hv subEnd⟩
/-! read again -/
def goodC (l : List Chg) : Prop := (∀ c ∈ l, ¬ (c.2.1 = 43 ∨ c.2.1 = 45) ∧ (takesS c.2.1 c.1 = false → c.2.2 = [])) ∧ (l.filter fun c => takesS c.2.1 c.1).length ≤ 4
theorem mem_seqS (l : List UInt8) : ∀ on, ∀ x ∈ seqS on l, ¬ (x.1 = 43 ∨ x.1 = 45) := by
  induction l with
  | nil => intro on x hx; simp [seqS] at hx
  | cons c l ih =>
    intro on x hx
    simp only [seqS] at hx
    split at hx
    · exact ih _ x hx
    · split at hx
      · exact ih _ x hx
      · rcases List.mem_cons.1 hx with h | h
        · subst h; simp only [not_or]; exact ⟨‹_›, ‹_›⟩
        · exact ih _ x h
theorem snoc_ind {α : Type} {p : List α → Prop} (h0 : p []) (h1 : ∀ l x, p l → p (l ++ [x])) : ∀ l, p l := by
  have key : ∀ m, ∀ l : List α, l.length = m → p l := by
    intro m
    induction m with
    | zero => intro l hl; have := List.eq_nil_of_length_eq_zero hl; subst this; exact h0
    | succ m ihm =>
      intro l hl
      obtain ⟨l0, x, rfl⟩ : ∃ l0 x, l = l0 ++ [x] := ⟨l.dropLast, l.getLast (by intro e; subst e; simp at hl), (List.dropLast_concat_getLast _).symm⟩
      exact h1 _ _ (ihm l0 (by simpa using hl))
  exact fun l => key _ l rfl
theorem mem_foldP (ss : List (List UInt8)) (l : List (UInt8 × Bool)) : ∀ c ∈ (foldP ss l).1, (∃ x ∈ l, c.2.1 = x.1) ∧ (takesS c.2.1 c.1 = false → c.2.2 = []) := by
  refine snoc_ind (p := fun l => ∀ c ∈ (foldP ss l).1, (∃ x ∈ l, c.2.1 = x.1) ∧ (takesS c.2.1 c.1 = false → c.2.2 = [])) (fun c hc => by simp [foldP] at hc) (fun l x ih => ?_) l
  rw [foldP_snoc]
  generalize foldP ss l = p at ih
  obtain ⟨out, rest, n⟩ := p
  have old : ∀ c ∈ out, (∃ y ∈ l ++ [x], c.2.1 = y.1) ∧ (takesS c.2.1 c.1 = false → c.2.2 = []) := fun c hc => by
    obtain ⟨⟨y, hy, e⟩, h2⟩ := ih c hc
    exact ⟨⟨y, List.mem_append.2 (.inl hy), e⟩, h2⟩
  unfold stepP
  dsimp only
  split
  · intro c hc
    rcases List.mem_append.1 hc with h | h
    · exact old c h
    · simp only [List.mem_singleton] at h; subst h; exact ⟨⟨x, by simp, rfl⟩, fun _ => rfl⟩
  · split
    · exact old
    · intro c hc
      rcases List.mem_append.1 hc with h | h
      · exact old c h
      · simp only [List.mem_singleton] at h; subst h
        exact ⟨⟨x, by simp, rfl⟩, fun h => absurd h ‹_›⟩
theorem good_parse (ss : List (List UInt8)) : goodC (parseS ss) := by
  refine ⟨fun c hc => ?_, parseS_many ss⟩
  cases ss with
  | nil => simp [parseS] at hc
  | cons r rest =>
    obtain ⟨⟨x, hx, e⟩, h2⟩ := mem_foldP rest (seqS true r) c hc
    exact ⟨by rw [e]; exact mem_seqS r true x hx, h2⟩
theorem seq_text (l : List Chg) (h : ∀ c ∈ l, ¬ (c.2.1 = 43 ∨ c.2.1 = 45)) : seqS true (foldT l).1 = l.map (fun c => (c.2.1, c.1)) ∧ ∀ on, (foldT l).2.2 = some on → signS true (foldT l).1 = on := by
  revert h
  refine snoc_ind (p := fun l => (∀ c ∈ l, ¬ (c.2.1 = 43 ∨ c.2.1 = 45)) → seqS true (foldT l).1 = l.map (fun c => (c.2.1, c.1)) ∧ ∀ on, (foldT l).2.2 = some on → signS true (foldT l).1 = on) (fun _ => ⟨rfl, fun on h => by simp [foldT] at h⟩) (fun l c ih h => ?_) l
  have hc := h c (by simp)
  obtain ⟨i1, i2⟩ := ih fun d hd => h d (List.mem_append.2 (.inl hd))
  rw [foldT_snoc]
  generalize foldT l = p at i1 i2
  obtain ⟨r, ags, pv⟩ := p
  unfold stepT
  dsimp only at i1 i2 ⊢
  by_cases hp : pv = some c.1
  · rw [if_pos hp, List.nil_append, seqS_snoc, if_neg hc, signS_snoc, if_neg (fun e => hc (.inl e)), if_neg (fun e => hc (.inr e)), i1, i2 _ hp]
    exact ⟨by simp, fun on h => by simpa using h⟩
  · rw [if_neg hp]
    have e : r ++ ([signOf c.1] ++ [c.2.1]) = (r ++ [signOf c.1]) ++ [c.2.1] := by simp
    have hs : signOf c.1 = 43 ∨ signOf c.1 = 45 := by cases c.1 <;> simp [signOf]
    have hg : signS true (r ++ [signOf c.1]) = c.1 := by rw [signS_snoc]; cases c.1 <;> simp [signOf]
    have hq : signS true (r ++ [signOf c.1] ++ [c.2.1]) = c.1 := by rw [signS_snoc, if_neg (fun e => hc (.inl e)), if_neg (fun e => hc (.inr e)), hg]
    rw [e, seqS_snoc (r ++ [signOf c.1]), if_neg hc, hg, seqS_snoc r, if_pos hs, i1, hq]
    exact ⟨by simp, fun on h => by simpa using h⟩
theorem fold_text (l : List Chg) (h1 : ∀ c ∈ l, takesS c.2.1 c.1 = false → c.2.2 = []) (h2 : (l.filter fun c => takesS c.2.1 c.1).length ≤ 4) (suf : List (List UInt8)) :
    foldP ((foldT l).2.1 ++ suf) (l.map fun c => (c.2.1, c.1)) = (l, suf, (l.filter fun c => takesS c.2.1 c.1).length) := by
  revert h1 h2 suf
  refine snoc_ind (p := fun l => (∀ c ∈ l, takesS c.2.1 c.1 = false → c.2.2 = []) → (l.filter fun c => takesS c.2.1 c.1).length ≤ 4 → ∀ suf, foldP ((foldT l).2.1 ++ suf) (l.map fun c => (c.2.1, c.1)) = (l, suf, (l.filter fun c => takesS c.2.1 c.1).length)) (fun _ _ suf => by simp [foldP, foldT]) (fun l c ih h1 h2 suf => ?_) l
  rw [List.filter_append, List.length_append] at h2
  have ih := ih (fun d hd => h1 d (List.mem_append.2 (.inl hd))) (by omega)
  have hc := h1 c (by simp)
  rw [foldT_snoc, List.map_append, List.map_singleton, foldP_snoc]
  unfold stepT
  dsimp only
  rw [List.append_assoc, ih, List.filter_append, List.length_append]
  unfold stepP
  dsimp only
  obtain ⟨on, b, arg⟩ := c
  dsimp only at hc h2 ⊢
  cases ht : takesS b on with
  | false =>
    rw [if_pos rfl, if_neg (by decide), hc ht]
    simp [ht]
  | true =>
    have hf : (List.filter (fun c : Chg => takesS c.2.1 c.1) [(on, b, arg)]).length = 1 := by simp [ht]
    rw [hf] at h2 ⊢
    rw [if_neg (by decide), if_pos rfl, if_neg (by simp; omega)]
    simp
theorem back_text {l : List Chg} (h : goodC l) : parseS (texts l) = l := by
  unfold texts
  split
  · rename_i e; rw [e]; rfl
  · have h1 := seq_text l fun c hc => (h.1 c hc).1
    have h2 := fold_text l (fun c hc => (h.1 c hc).2) h.2 []
    rw [List.append_nil] at h2
    show (foldP (foldT l).2.1 (seqS true (foldT l).1)).1 = l
    rw [h1.1, h2]
theorem mback_ok {w : World} {v : Value} {ss : List (List UInt8)} (hp : Arg w v 1 ss.length (ss.map str)) : Calls P 13 #[v] w fun e w' => e = .returned (.bool true) ∧ Hv w [] w' := by
  refine c13 (K := fun v w' => v = .bool true ∧ Hv w [] w') ?_ fun v w' h => ⟨by rw [h.1], h.2⟩
  have o := Hv.begin w
  unfold D13
  dsimp only
  repeat' (first | refine go ?_ | intro _ | refine And.intro (Sd.mk (by (first | exact fun _ => True.intro | exact And.intro (fun _ => True.intro) (fun _ _ => True.intro) | (intro hq; (first | exact True.intro | omega | (simp only [and_true]; omega) | (simp only [Bool.not_eq_true', Bool.not_eq_false', decide_eq_true_eq, decide_eq_false_iff_not, Bool.and_eq_true, Bool.or_eq_true, Bool.or_eq_false_iff, Bool.and_eq_false_imp, Int.not_lt, Int.not_le, Nat.not_lt, Nat.not_le] at hq; (try simp only [and_true]); omega) | fail)) | exact And.intro (fun hq => by first | exact True.intro | omega | (simp only [and_true]; omega) | (simp only [Bool.not_eq_true', Bool.not_eq_false', decide_eq_true_eq, decide_eq_false_iff_not, Bool.and_eq_true, Bool.or_eq_true, Bool.or_eq_false_iff, Bool.and_eq_false_imp, Int.not_lt, Int.not_le, Nat.not_lt, Nat.not_le] at hq; (try simp only [and_true]); omega) | fail) (fun hq hr => by first | exact True.intro | omega | (simp only [and_true]; omega) | (simp only [Bool.not_eq_true', Bool.not_eq_false', decide_eq_true_eq, decide_eq_false_iff_not, Bool.and_eq_true, Bool.or_eq_true, Bool.or_eq_false_iff, Bool.and_eq_false_imp, Int.not_lt, Int.not_le, Nat.not_lt, Nat.not_le] at hq hr; omega) | (simp only [Bool.not_eq_true', Bool.not_eq_false', decide_eq_true_eq, decide_eq_false_iff_not, Bool.and_eq_true, Bool.or_eq_true, Bool.or_eq_false_iff, Bool.and_eq_false_imp, Int.not_lt, Int.not_le, Nat.not_lt, Nat.not_le] at hr; omega) | fail) | fail))) ?_ | refine And.intro (by (first | omega | (unfold InR; omega) | decide | (simp only [List.length_append, List.length_map, List.length_take, List.length_drop, List.length_replicate, List.length_cons, List.length_nil, List.length_set]; omega))) ?_ | (refine And.intro (fun h1 => ?_) (fun h1 => ?_) <;> first | (exact absurd h1 (by decide)) | ((try rw [h1]); (try simp only [Bool.not_eq_true', Bool.not_eq_false', decide_eq_true_eq, decide_eq_false_iff_not, Bool.and_eq_true, Bool.or_eq_true, Bool.or_eq_false_iff, Bool.and_eq_false_imp, Int.not_lt, Int.not_le, Nat.not_lt, Nat.not_le] at h1))) | dsimp only)
  · exact ⟨rfl, Sub.hv subEnd⟩
  rename_i bb w1 hgr o1
  obtain ⟨h20, h60⟩ := hgr h1
  have hh := headD_le ss h60
  have hl := parseS_len ss h60
  refine ⟨by omega, ?_⟩
  repeat' (first | refine go ?_ | intro _ | refine And.intro (Sd.mk (by (first | exact fun _ => True.intro | exact And.intro (fun _ => True.intro) (fun _ _ => True.intro) | (intro hq; (first | exact True.intro | omega | (simp only [and_true]; omega) | (simp only [Bool.not_eq_true', Bool.not_eq_false', decide_eq_true_eq, decide_eq_false_iff_not, Bool.and_eq_true, Bool.or_eq_true, Bool.or_eq_false_iff, Bool.and_eq_false_imp, Int.not_lt, Int.not_le, Nat.not_lt, Nat.not_le] at hq; (try simp only [and_true]); omega) | fail)) | exact And.intro (fun hq => by first | exact True.intro | omega | (simp only [and_true]; omega) | (simp only [Bool.not_eq_true', Bool.not_eq_false', decide_eq_true_eq, decide_eq_false_iff_not, Bool.and_eq_true, Bool.or_eq_true, Bool.or_eq_false_iff, Bool.and_eq_false_imp, Int.not_lt, Int.not_le, Nat.not_lt, Nat.not_le] at hq; (try simp only [and_true]); omega) | fail) (fun hq hr => by first | exact True.intro | omega | (simp only [and_true]; omega) | (simp only [Bool.not_eq_true', Bool.not_eq_false', decide_eq_true_eq, decide_eq_false_iff_not, Bool.and_eq_true, Bool.or_eq_true, Bool.or_eq_false_iff, Bool.and_eq_false_imp, Int.not_lt, Int.not_le, Nat.not_lt, Nat.not_le] at hq hr; omega) | (simp only [Bool.not_eq_true', Bool.not_eq_false', decide_eq_true_eq, decide_eq_false_iff_not, Bool.and_eq_true, Bool.or_eq_true, Bool.or_eq_false_iff, Bool.and_eq_false_imp, Int.not_lt, Int.not_le, Nat.not_lt, Nat.not_le] at hr; omega) | fail) | fail))) ?_ | refine And.intro (by (first | omega | (unfold InR; omega) | decide | (simp only [List.length_append, List.length_map, List.length_take, List.length_drop, List.length_replicate, List.length_cons, List.length_nil, List.length_set]; omega))) ?_ | (refine And.intro (fun h1 => ?_) (fun h1 => ?_) <;> first | (exact absurd h1 (by decide)) | ((try rw [h1]); (try simp only [Bool.not_eq_true', Bool.not_eq_false', decide_eq_true_eq, decide_eq_false_iff_not, Bool.and_eq_true, Bool.or_eq_true, Bool.or_eq_false_iff, Bool.and_eq_false_imp, Int.not_lt, Int.not_le, Nat.not_lt, Nat.not_le] at h1))) | dsimp only)
  rename_i v w2 o2
  refine ⟨fun z s => ∃ (i : Nat) (w' : World), z = .int .i64 i ∧ s = ⟨w', []⟩ ∧ i ≤ (parseS ss).length ∧ Hv w [row 51 3 v (parseS ss).length ((parseS ss).flatMap encC)] w',
    fun z s => match z with | .int _ z => (parseS ss).length - z.toNat | _ => 0, ⟨0, w2, rfl, rfl, Nat.zero_le _, o2⟩, ?_⟩
  rintro z s ⟨i, w3, rfl, rfl, hi, o3⟩
  repeat' (first | refine go ?_ | intro _ | refine And.intro (Sd.mk (by (first | exact fun _ => True.intro | exact And.intro (fun _ => True.intro) (fun _ _ => True.intro) | (intro hq; (first | exact True.intro | omega | (simp only [and_true]; omega) | (simp only [Bool.not_eq_true', Bool.not_eq_false', decide_eq_true_eq, decide_eq_false_iff_not, Bool.and_eq_true, Bool.or_eq_true, Bool.or_eq_false_iff, Bool.and_eq_false_imp, Int.not_lt, Int.not_le, Nat.not_lt, Nat.not_le] at hq; (try simp only [and_true]); omega) | fail)) | exact And.intro (fun hq => by first | exact True.intro | omega | (simp only [and_true]; omega) | (simp only [Bool.not_eq_true', Bool.not_eq_false', decide_eq_true_eq, decide_eq_false_iff_not, Bool.and_eq_true, Bool.or_eq_true, Bool.or_eq_false_iff, Bool.and_eq_false_imp, Int.not_lt, Int.not_le, Nat.not_lt, Nat.not_le] at hq; (try simp only [and_true]); omega) | fail) (fun hq hr => by first | exact True.intro | omega | (simp only [and_true]; omega) | (simp only [Bool.not_eq_true', Bool.not_eq_false', decide_eq_true_eq, decide_eq_false_iff_not, Bool.and_eq_true, Bool.or_eq_true, Bool.or_eq_false_iff, Bool.and_eq_false_imp, Int.not_lt, Int.not_le, Nat.not_lt, Nat.not_le] at hq hr; omega) | (simp only [Bool.not_eq_true', Bool.not_eq_false', decide_eq_true_eq, decide_eq_false_iff_not, Bool.and_eq_true, Bool.or_eq_true, Bool.or_eq_false_iff, Bool.and_eq_false_imp, Int.not_lt, Int.not_le, Nat.not_lt, Nat.not_le] at hr; omega) | fail) | fail))) ?_ | refine And.intro (by (first | omega | (unfold InR; omega) | decide | (simp only [List.length_append, List.length_map, List.length_take, List.length_drop, List.length_replicate, List.length_cons, List.length_nil, List.length_set]; omega))) ?_ | (refine And.intro (fun h1 => ?_) (fun h1 => ?_) <;> first | (exact absurd h1 (by decide)) | ((try rw [h1]); (try simp only [Bool.not_eq_true', Bool.not_eq_false', decide_eq_true_eq, decide_eq_false_iff_not, Bool.and_eq_true, Bool.or_eq_true, Bool.or_eq_false_iff, Bool.and_eq_false_imp, Int.not_lt, Int.not_le, Nat.not_lt, Nat.not_le] at h1))) | dsimp only)
  · exact ⟨rfl, Sub.hv subEnd⟩
  · exact ⟨⟨i + 1, _, rfl, rfl, by omega, Sub.hv (subRow rfl rfl subEnd)⟩, by simp; omega⟩
  have hth : ((texts (parseS ss)).headD []).length ≤ 120 := by
    have h := foldT_inv (parseS ss) _ (Nat.le_refl _)
    rw [List.take_length] at h
    unfold texts; split
    · simp
    · simp only [List.headD]; omega
  refine ⟨by omega, ?_⟩
  rw [back_text (good_parse ss)]
  repeat' (first | refine go ?_ | intro _ | refine And.intro (Sd.mk (by (first | exact fun _ => True.intro | exact And.intro (fun _ => True.intro) (fun _ _ => True.intro) | (intro hq; (first | exact True.intro | omega | (simp only [and_true]; omega) | (simp only [Bool.not_eq_true', Bool.not_eq_false', decide_eq_true_eq, decide_eq_false_iff_not, Bool.and_eq_true, Bool.or_eq_true, Bool.or_eq_false_iff, Bool.and_eq_false_imp, Int.not_lt, Int.not_le, Nat.not_lt, Nat.not_le] at hq; (try simp only [and_true]); omega) | fail)) | exact And.intro (fun hq => by first | exact True.intro | omega | (simp only [and_true]; omega) | (simp only [Bool.not_eq_true', Bool.not_eq_false', decide_eq_true_eq, decide_eq_false_iff_not, Bool.and_eq_true, Bool.or_eq_true, Bool.or_eq_false_iff, Bool.and_eq_false_imp, Int.not_lt, Int.not_le, Nat.not_lt, Nat.not_le] at hq; (try simp only [and_true]); omega) | fail) (fun hq hr => by first | exact True.intro | omega | (simp only [and_true]; omega) | (simp only [Bool.not_eq_true', Bool.not_eq_false', decide_eq_true_eq, decide_eq_false_iff_not, Bool.and_eq_true, Bool.or_eq_true, Bool.or_eq_false_iff, Bool.and_eq_false_imp, Int.not_lt, Int.not_le, Nat.not_lt, Nat.not_le] at hq hr; omega) | (simp only [Bool.not_eq_true', Bool.not_eq_false', decide_eq_true_eq, decide_eq_false_iff_not, Bool.and_eq_true, Bool.or_eq_true, Bool.or_eq_false_iff, Bool.and_eq_false_imp, Int.not_lt, Int.not_le, Nat.not_lt, Nat.not_le] at hr; omega) | fail) | fail))) ?_ | refine And.intro (by (first | omega | (unfold InR; omega) | decide | (simp only [List.length_append, List.length_map, List.length_take, List.length_drop, List.length_replicate, List.length_cons, List.length_nil, List.length_set]; omega))) ?_ | (refine And.intro (fun h1 => ?_) (fun h1 => ?_) <;> first | (exact absurd h1 (by decide)) | ((try rw [h1]); (try simp only [Bool.not_eq_true', Bool.not_eq_false', decide_eq_true_eq, decide_eq_false_iff_not, Bool.and_eq_true, Bool.or_eq_true, Bool.or_eq_false_iff, Bool.and_eq_false_imp, Int.not_lt, Int.not_le, Nat.not_lt, Nat.not_le] at h1))) | dsimp only)
  exact ⟨by simp, Sub.hv subEnd⟩
theorem chg_one (y : Chg) : ∀ u ∈ encC y, u.oneCell' = true := fun u hu => by
  simp only [encC, List.mem_cons, List.not_mem_nil, or_false] at hu
  rcases hu with rfl | rfl | rfl <;> rfl
theorem chg_each {H : Type} {enc : TypeId × Value → H} {W : World} {sp : Nat → Bool} {held : Bool} {fuel : Nat} {cs : List Value} {x : DataW H × List MemPlace} (h : DataW.trod enc Try.prog W 0 sp held fuel 51 cs = some x) (hl : cs.length = 3) : ∃ y : Chg, cs = encC y := by
  obtain ⟨a, e0⟩ := struct_bool (i := 0) Try.underlying51 h rfl Try.underlying4 (by kernel_rfl)
  obtain ⟨b, e1, w1⟩ := struct_int (i := 1) Try.underlying51 h rfl Try.underlying5 (by kernel_rfl)
  obtain ⟨s, e2⟩ := struct_str (i := 2) Try.underlying51 h rfl Try.underlying9 (by kernel_rfl)
  refine ⟨(a, UInt8.ofNat b.toNat, s.data.toList), list_of_at (by rw [hl]; rfl) fun i hi => ?_⟩
  match i, hi with
  | 0, _ => exact e0
  | 1, _ => exact e1.trans (congrArg some (byte_of w1).symm)
  | 2, _ => exact e2.trans (congrArg some (str_of s).symm)
  | n + 3, hi => exact absurd hi (by simp)
end Go.Proofs.Ytodnbkggkdadkaa
