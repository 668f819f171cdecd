import Derived.Test.YtodnbkggkdadkaaMw
set_option linter.all false
namespace Go.Proofs.Ytodnbkggkdadkaa
open Go.Vx
/-! modes: letters, changes -/
def takesS (b : UInt8) (on : Bool) : Bool := b == 111 || (b == 118 || (b == 98 || (b == 107 || (b == 108 && on))))
theorem idx_ovbk (b : UInt8) : decide (0 ≤ idxB [111, 118, 98, 107] b) = (b == 111 || (b == 118 || (b == 98 || b == 107))) := by
  unfold idxB
  by_cases h1 : b = 111
  · subst h1; decide
  by_cases h2 : b = 118
  · subst h2; decide
  by_cases h3 : b = 98
  · subst h3; decide
  by_cases h4 : b = 107
  · subst h4; decide
  have e1 : ((111 : UInt8) == b) = false := by simpa using Ne.symm h1
  have e2 : ((118 : UInt8) == b) = false := by simpa using Ne.symm h2
  have e3 : ((98 : UInt8) == b) = false := by simpa using Ne.symm h3
  have e4 : ((107 : UInt8) == b) = false := by simpa using Ne.symm h4
  have : [111, 118, 98, 107].findIdx? (· == b) = none := by simp [List.findIdx?_cons, e1, e2, e3, e4]
  rw [this]
  simp [h1, h2, h3, h4]
instance sidx_ok {w : World} {l : List UInt8} {c : UInt8} : VT (Cl P 53 #[str l, byteV c]) w (.int .i64 (idxB l c)) := ⟨fun {K ds} h => by
  refine cl_ok (c53 (K := fun v w' => K v ⟨w', ds⟩) ?_ fun v w' h => ⟨v, rfl, h⟩)
  unfold D53
  repeat' (first | refine go ?_ | intro _ | refine And.intro (by (first | omega | (unfold InR; omega) | decide | (simp only [List.length_append, List.length_map, List.length_take, List.length_drop, List.length_replicate, List.length_cons, List.length_nil, List.length_set]; omega))) ?_ | (refine And.intro (fun h1 => ?_) (fun h1 => ?_) <;> first | (exact absurd h1 (by decide)) | ((try rw [h1]); (try simp only [Bool.not_eq_true', Bool.not_eq_false', decide_eq_true_eq, decide_eq_false_iff_not, Bool.and_eq_true, Bool.or_eq_true, Bool.or_eq_false_iff, Bool.and_eq_false_imp, Int.not_lt, Int.not_le, Nat.not_lt, Nat.not_le] at h1))) | dsimp only)
  exact h⟩
instance idx_ok {w : World} {l : List UInt8} {c : UInt8} : VT (Cl P 44 #[str l, byteV c]) w (.int .i64 (idxB l c)) := ⟨fun {K ds} h => by
  refine cl_ok (c44 (K := fun v w' => K v ⟨w', ds⟩) ?_ fun v w' h => ⟨v, rfl, h⟩)
  unfold D44
  repeat' (first | refine go ?_ | intro _ | refine And.intro (by (first | omega | (unfold InR; omega) | decide | (simp only [List.length_append, List.length_map, List.length_take, List.length_drop, List.length_replicate, List.length_cons, List.length_nil, List.length_set]; omega))) ?_ | (refine And.intro (fun h1 => ?_) (fun h1 => ?_) <;> first | (exact absurd h1 (by decide)) | ((try rw [h1]); (try simp only [Bool.not_eq_true', Bool.not_eq_false', decide_eq_true_eq, decide_eq_false_iff_not, Bool.and_eq_true, Bool.or_eq_true, Bool.or_eq_false_iff, Bool.and_eq_false_imp, Int.not_lt, Int.not_le, Nat.not_lt, Nat.not_le] at h1))) | dsimp only)
  exact h⟩
instance takes_ok {w : World} {c : UInt8} {on : Bool} : VT (Cl P 27 #[byteV c, .bool on]) w (.bool (takesS c on)) := ⟨fun {K ds} h => by
  refine cl_ok (c27 (K := fun v w' => K v ⟨w', ds⟩) ?_ fun v w' h => ⟨v, rfl, h⟩)
  unfold D27
  dsimp only
  repeat' (first | refine go ?_ | intro _ | refine And.intro (by (first | omega | (unfold InR; omega) | decide | (simp only [List.length_append, List.length_map, List.length_take, List.length_drop, List.length_replicate, List.length_cons, List.length_nil, List.length_set]; omega))) ?_ | (refine And.intro (fun h1 => ?_) (fun h1 => ?_) <;> first | (exact absurd h1 (by decide)) | ((try rw [h1]); (try simp only [Bool.not_eq_true', Bool.not_eq_false', decide_eq_true_eq, decide_eq_false_iff_not, Bool.and_eq_true, Bool.or_eq_true, Bool.or_eq_false_iff, Bool.and_eq_false_imp, Int.not_lt, Int.not_le, Nat.not_lt, Nat.not_le] at h1))) | dsimp only)
  all_goals
    refine cast (congrArg (fun b => K (.bool b) _) ?_) h
    (try rw [idx_ovbk])
    unfold takesS
    grind⟩
instance takesR_ok {w : World} {c : UInt8} {on : Bool} : VT (Cl P 36 #[byteV c, .bool on]) w (.bool (takesS c on)) := ⟨fun {K ds} h => by
  refine cl_ok (c36 (K := fun v w' => K v ⟨w', ds⟩) ?_ fun v w' h => ⟨v, rfl, h⟩)
  unfold D36
  dsimp only
  repeat' (first | refine go ?_ | intro _ | refine And.intro (by (first | omega | (unfold InR; omega) | decide | (simp only [List.length_append, List.length_map, List.length_take, List.length_drop, List.length_replicate, List.length_cons, List.length_nil, List.length_set]; omega))) ?_ | (refine And.intro (fun h1 => ?_) (fun h1 => ?_) <;> first | (exact absurd h1 (by decide)) | ((try rw [h1]); (try simp only [Bool.not_eq_true', Bool.not_eq_false', decide_eq_true_eq, decide_eq_false_iff_not, Bool.and_eq_true, Bool.or_eq_true, Bool.or_eq_false_iff, Bool.and_eq_false_imp, Int.not_lt, Int.not_le, Nat.not_lt, Nat.not_le] at h1))) | dsimp only)
  all_goals
    refine cast (congrArg (fun b => K (.bool b) _) ?_) h
    unfold takesS
    grind⟩
/-- A change: on or off, its letter, its argument. -/
abbrev Chg := Bool × UInt8 × List UInt8
abbrev encC (c : Chg) : List Value := [.bool c.1, byteV c.2.1, str c.2.2]
abbrev chgV (c : Chg) : Value := .agg #[.bool c.1, byteV c.2.1, str c.2.2]
instance : UEnc encC 3 := ⟨fun _ => rfl⟩
instance {a : Bool} {b : UInt8} {l : List UInt8} {zs : List Value} {ys : List Chg} [h : Encs encC zs ys] : Encs encC (.bool a :: byteV b :: str l :: zs) ((a, b, l) :: ys) := ⟨by rw [h.eq]; rfl⟩
instance lists_ok {K : Value → St → Prop} {w0 w : World} {H : List SL} {ds : List Deferred} {a : Bool} {b : UInt8} {l : List UInt8} [o : Hv w0 H w] :
    Step (Cl P 37 #[.agg #[.bool a, byteV b, str l]] K ⟨w, ds⟩) (∀ w', Hv w0 H w' → K (.bool (decide (b = 98) && decide (l = []))) ⟨w', ds⟩) := ⟨fun h => by
  refine cl_ok (c37 (K := fun v w' => K v ⟨w', ds⟩) ?_ fun v w' h => ⟨v, rfl, h⟩)
  unfold D37
  dsimp only
  repeat' (first | refine go ?_ | intro _ | refine And.intro (by (first | omega | (unfold InR; omega) | decide | (simp only [List.length_append, List.length_map, List.length_take, List.length_drop, List.length_replicate, List.length_cons, List.length_nil, List.length_set]; omega))) ?_ | (refine And.intro (fun h1 => ?_) (fun h1 => ?_) <;> first | (exact absurd h1 (by decide)) | ((try rw [h1]); (try simp only [Bool.not_eq_true', Bool.not_eq_false', decide_eq_true_eq, decide_eq_false_iff_not, Bool.and_eq_true, Bool.or_eq_true, Bool.or_eq_false_iff, Bool.and_eq_false_imp, Int.not_lt, Int.not_le, Nat.not_lt, Nat.not_le] at h1))) | dsimp only)
  all_goals
    refine cast (congrArg (fun b => K (.bool b) _) ?_) (h _ (Sub.hv subEnd))
    grind⟩
theorem chg_eq (a b : Chg) : ((a.1 == b.1) && (decide (a.2.1 = b.2.1) && (decide (a.2.2 = b.2.2) && true))) = decide (a = b) := by
  obtain ⟨a1, a2, a3⟩ := a; obtain ⟨b1, b2, b3⟩ := b
  rw [Bool.eq_iff_iff]; simp
instance sameC_ok {K : Value → St → Prop} {w0 w : World} {H : List SL} {ds : List Deferred} {x y : Value} {xs ys : List Chg} {n m : Nat} {zx zy : List Value} [o : Hv w0 H w] [rx : RdsF w0 H x 3 n zx] [ex : Encs encC zx xs] [ry : RdsF w0 H y 3 m zy] [ey : Encs encC zy ys] :
    Step (Cl P 28 #[x, y] K ⟨w, ds⟩) (xs.length ≤ 1000000000 ∧ ∀ w', Hv w0 H w' → K (.bool (decide (xs = ys))) ⟨w', ds⟩) := ⟨fun ⟨hlen, h⟩ => by
  refine cl_ok (c28 (K := fun v w' => K v ⟨w', ds⟩) ?_ fun v w' h => ⟨v, rfl, h⟩)
  obtain rfl : n = xs.length := ex.len (rx.rd w o).len (by decide)
  obtain rfl : m = ys.length := ey.len (ry.rd w o).len (by decide)
  obtain rfl := ex.eq
  obtain rfl := ey.eq
  have rlx := rx.loc
  have rly := ry.loc
  unfold D28
  dsimp only
  repeat' (first | refine go ?_ | intro _ | refine And.intro (by (first | omega | (unfold InR; omega) | decide | (simp only [List.length_append, List.length_map, List.length_take, List.length_drop, List.length_replicate, List.length_cons, List.length_nil, List.length_set]; omega))) ?_ | (refine And.intro (fun h1 => ?_) (fun h1 => ?_) <;> first | (exact absurd h1 (by decide)) | ((try rw [h1]); (try simp only [Bool.not_eq_true', Bool.not_eq_false', decide_eq_true_eq, decide_eq_false_iff_not, Bool.and_eq_true, Bool.or_eq_true, Bool.or_eq_false_iff, Bool.and_eq_false_imp, Int.not_lt, Int.not_le, Nat.not_lt, Nat.not_le] at h1))) | dsimp only)
  · have hne : xs ≠ ys := fun e => h1 (by rw [e])
    simpa [hne] using h _ o
  have hn : xs.length = ys.length := by omega
  refine ⟨fun y s => ∃ (i : Nat) (w' : World), y = .int .i64 i ∧ s = ⟨w', []⟩ ∧ i ≤ xs.length ∧ xs.take i = ys.take i ∧ Hv w0 H w',
    fun y s => match y with | .int _ z => xs.length - z.toNat | _ => 0, ⟨0, w, rfl, rfl, Nat.zero_le _, by simp, o⟩, ?_⟩
  rintro y s ⟨i, w1, rfl, rfl, hi, he, o1⟩
  repeat' (first | refine go ?_ | intro _ | refine And.intro (by (first | omega | (unfold InR; omega) | decide | (simp only [List.length_append, List.length_map, List.length_take, List.length_drop, List.length_replicate, List.length_cons, List.length_nil, List.length_set]; omega))) ?_ | (refine And.intro (fun h1 => ?_) (fun h1 => ?_) <;> first | (exact absurd h1 (by decide)) | ((try rw [h1]); (try simp only [Bool.not_eq_true', Bool.not_eq_false', decide_eq_true_eq, decide_eq_false_iff_not, Bool.and_eq_true, Bool.or_eq_true, Bool.or_eq_false_iff, Bool.and_eq_false_imp, Int.not_lt, Int.not_le, Nat.not_lt, Nat.not_le] at h1))) | dsimp only)
  · have hlt : i < xs.length := by omega
    have hne : xs ≠ ys := fun e => by rw [e] at h1; simp at h1
    simpa [hne] using h _ ‹_›
  · have hlt : i < xs.length := by omega
    have h1 : xs.getD i default = ys.getD i default := by
      exact Prod.ext (by simpa using h1.1) (Prod.ext h1.2.1 h1.2.2.1)
    exact ⟨⟨i + 1, _, rfl, rfl, hlt, by rw [take_snoc hlt, take_snoc (show i < ys.length by omega), he, h1], ‹_›⟩, by simp; omega⟩
  · have : xs = ys := by rw [← List.take_of_length_le (show xs.length ≤ i by omega), he, List.take_of_length_le (by omega)]
    simpa [this] using h _ ‹_›⟩
instance great_ok {w0 w : World} {H : List SL} {x : Value} {ss : List (List UInt8)} [r : Arg w0 x 1 ss.length (ss.map str)] {K : Value → St → Prop} {ds : List Deferred} [o : Hv w0 H w] :
    Step (Cl P 25 #[x] K ⟨w, ds⟩) (∀ b w', (b = false → ss.length ≤ 20 ∧ ∀ l ∈ ss, l.length ≤ 60) → Hv w0 H w' → K (.bool b) ⟨w', ds⟩) := ⟨fun h => by
  refine cl_ok (c25 (K := fun v w' => K v ⟨w', ds⟩) ?_ fun v w' h => ⟨v, rfl, h⟩)
  unfold D25
  dsimp only
  repeat' (first | refine go ?_ | intro _ | refine And.intro (by (first | omega | (unfold InR; omega) | decide | (simp only [List.length_append, List.length_map, List.length_take, List.length_drop, List.length_replicate, List.length_cons, List.length_nil, List.length_set]; omega))) ?_ | (refine And.intro (fun h1 => ?_) (fun h1 => ?_) <;> first | (exact absurd h1 (by decide)) | ((try rw [h1]); (try simp only [Bool.not_eq_true', Bool.not_eq_false', decide_eq_true_eq, decide_eq_false_iff_not, Bool.and_eq_true, Bool.or_eq_true, Bool.or_eq_false_iff, Bool.and_eq_false_imp, Int.not_lt, Int.not_le, Nat.not_lt, Nat.not_le] at h1))) | dsimp only)
  · exact h _ _ (by simp) o
  refine ⟨fun y s => ∃ (i : Nat) (w' : World), y = .int .i64 i ∧ s = ⟨w', []⟩ ∧ i ≤ ss.length ∧ (∀ l ∈ ss.take i, l.length ≤ 60) ∧ Hv w0 H w',
    fun y s => match y with | .int _ z => ss.length - z.toNat | _ => 0, ⟨0, w, rfl, rfl, Nat.zero_le _, by simp, o⟩, ?_⟩
  rintro y s ⟨i, w1, rfl, rfl, hi, he, o1⟩
  repeat' (first | refine go ?_ | intro _ | refine And.intro (by (first | omega | (unfold InR; omega) | decide | (simp only [List.length_append, List.length_map, List.length_take, List.length_drop, List.length_replicate, List.length_cons, List.length_nil, List.length_set]; omega))) ?_ | (refine And.intro (fun h1 => ?_) (fun h1 => ?_) <;> first | (exact absurd h1 (by decide)) | ((try rw [h1]); (try simp only [Bool.not_eq_true', Bool.not_eq_false', decide_eq_true_eq, decide_eq_false_iff_not, Bool.and_eq_true, Bool.or_eq_true, Bool.or_eq_false_iff, Bool.and_eq_false_imp, Int.not_lt, Int.not_le, Nat.not_lt, Nat.not_le] at h1))) | dsimp only)
  · exact h _ _ (by simp) o1
  · have hlt : i < ss.length := by omega
    refine ⟨⟨i + 1, _, rfl, rfl, hlt, fun l hl => ?_, o1⟩, by simp; omega⟩
    rw [take_snoc hlt, List.mem_append] at hl
    rcases hl with hl | hl
    · exact he l hl
    · simp only [List.mem_singleton] at hl
      subst hl; omega
  · rw [List.take_of_length_le (by omega)] at he
    exact h _ _ (fun _ => ⟨by omega, he⟩) o1⟩
/-- The letters of a row: each as the sign ahead of it says. -/
def seqS : Bool → List UInt8 → List (UInt8 × Bool)
  | _, [] => []
  | on, c :: l => if c = 43 then seqS true l else if c = 45 then seqS false l else (c, on) :: seqS on l
def signS : Bool → List UInt8 → Bool
  | on, [] => on
  | on, c :: l => if c = 43 then signS true l else if c = 45 then signS false l else signS on l
theorem signS_snoc (l : List UInt8) : ∀ (on : Bool) (c : UInt8), signS on (l ++ [c]) = if c = 43 then true else if c = 45 then false else signS on l := by
  induction l with
  | nil => intro on c; simp only [List.nil_append, signS]
  | cons d l ih => intro on c; simp only [List.cons_append, signS, ih]; grind
theorem seqS_snoc (l : List UInt8) : ∀ (on : Bool) (c : UInt8), seqS on (l ++ [c]) = if c = 43 ∨ c = 45 then seqS on l else seqS on l ++ [(c, signS on l)] := by
  induction l with
  | nil => intro on c; simp only [List.nil_append, seqS, signS]; grind
  | cons d l ih => intro on c; simp only [List.cons_append, seqS, signS, ih]; grind
theorem seqS_len (l : List UInt8) : ∀ on, (seqS on l).length ≤ l.length := by
  induction l with
  | nil => intro _; simp [seqS]
  | cons d l ih => intro on; simp only [seqS]; split
                   · have := ih true; simp; omega
                   · split
                     · have := ih false; simp; omega
                     · have := ih on; simp; omega
theorem seqS_app (l m : List UInt8) : ∀ on, seqS on (l ++ m) = seqS on l ++ seqS (signS on l) m := by
  induction l with
  | nil => intro on; rfl
  | cons d l ih => intro on; simp only [List.cons_append, seqS, signS, ih]; grind
abbrev encL (x : UInt8 × Bool) : List Value := [byteV x.1, .bool x.2]
theorem seq_seq {w0 : World} (b : Nat) (l : List UInt8) (hl : l.length ≤ 1000000) :
    SeqOf P w0 (.func (.func 45) #[] #[.pointer (some ⟨b, 0, none⟩)]) [box b 9 [str l]] encL (seqS true l) := by
  intro y J X w ds K o hy hk hx
  have yy : Yld P w0 y J X encL (seqS true l) := ⟨hy⟩
  refine go ?_
  refine cl_ok (c45 (K := fun v w' => K v ⟨w', ds⟩) ?_ fun v w' h => ⟨v, rfl, h⟩)
  unfold D45
  repeat (first | refine go ?_ | intro _ | refine And.intro (by (first | omega | (unfold InR; omega) | decide | (simp only [List.length_append, List.length_map, List.length_take, List.length_drop, List.length_replicate, List.length_cons, List.length_nil, List.length_set]; omega))) ?_ | dsimp only)
  refine ⟨fun x z s => ∃ (i : Nat) (w' : World), x = .bool (signS true (l.take i)) ∧ z = .int .i64 i ∧ s = ⟨w', []⟩ ∧ i ≤ l.length ∧ Hv w0 [J (seqS true (l.take i)).length, box b 9 [str l]] w',
    fun _ z s => match z with | .int _ z => l.length - z.toNat | _ => 0, ⟨0, w, rfl, rfl, rfl, Nat.zero_le _, by simpa [seqS] using o⟩, ?_⟩
  rintro x z s ⟨i, w1, rfl, rfl, rfl, hi, o1⟩
  rcases Nat.lt_or_ge i l.length with hlt | hge
  · have ht := take_snoc hlt
    repeat' (first | refine go ?_ | intro _ | refine And.intro (by (first | omega | (unfold InR; omega) | decide | (simp only [List.length_append, List.length_map, List.length_take, List.length_drop, List.length_replicate, List.length_cons, List.length_nil, List.length_set]; omega))) ?_ | (refine And.intro (fun h1 => ?_) (fun h1 => ?_) <;> first | (exact absurd h1 (by decide)) | ((try rw [h1]); (try simp only [Bool.not_eq_true', Bool.not_eq_false', decide_eq_true_eq, decide_eq_false_iff_not, Bool.and_eq_true, Bool.or_eq_true, Bool.or_eq_false_iff, Bool.and_eq_false_imp, Int.not_lt, Int.not_le, Nat.not_lt, Nat.not_le] at h1))) | dsimp only)
    · refine ⟨⟨i + 1, _, ?_, rfl, rfl, hlt, Sub.hv (subJ ?_ (subBox rfl subEnd))⟩, by simp; omega⟩
      · rw [ht, signS_snoc, if_pos h1]
      · rw [ht, seqS_snoc, if_pos (Or.inl h1)]
    · refine ⟨⟨i + 1, _, ?_, rfl, rfl, hlt, Sub.hv (subJ ?_ (subBox rfl subEnd))⟩, by simp; omega⟩
      · rw [ht, signS_snoc, if_neg ‹_›, if_pos h1]
      · rw [ht, seqS_snoc, if_pos (Or.inr h1)]
    · rename_i h2 h3
      have e1 : signS true (l.take (i + 1)) = signS true (l.take i) := by rw [ht, signS_snoc, if_neg h3, if_neg h1]
      have e2 : seqS true (l.take (i + 1)) = seqS true (l.take i) ++ [(l.getD i default, signS true (l.take i))] := by
        rw [ht, seqS_snoc, if_neg (by rintro (h | h); exact h3 h; exact h1 h)]
      have e3 : (seqS true l)[(seqS true (l.take i)).length]? = some (l.getD i default, signS true (l.take i)) := by
        have : seqS true l = seqS true (l.take (i + 1)) ++ seqS (signS true (l.take (i + 1))) (l.drop (i + 1)) := by rw [← seqS_app, List.take_append_drop]
        rw [this, e2, List.append_assoc, List.getElem?_append_right (Nat.le_refl _), Nat.sub_self]
        rfl
      refine ⟨_, e3, rfl, fun w' o5 => ?_, fun w' o5 => ?_⟩
      · repeat' (first | refine go ?_ | intro _ | refine And.intro (by (first | omega | (unfold InR; omega) | decide | (simp only [List.length_append, List.length_map, List.length_take, List.length_drop, List.length_replicate, List.length_cons, List.length_nil, List.length_set]; omega))) ?_ | (refine And.intro (fun h1 => ?_) (fun h1 => ?_) <;> first | (exact absurd h1 (by decide)) | ((try rw [h1]); (try simp only [Bool.not_eq_true', Bool.not_eq_false', decide_eq_true_eq, decide_eq_false_iff_not, Bool.and_eq_true, Bool.or_eq_true, Bool.or_eq_false_iff, Bool.and_eq_false_imp, Int.not_lt, Int.not_le, Nat.not_lt, Nat.not_le] at h1))) | dsimp only)
        refine ⟨⟨i + 1, _, ?_, rfl, rfl, hlt, Sub.hv (subJ ?_ (subBox rfl subEnd))⟩, by simp; omega⟩
        · rw [e1]
        · rw [e2]; simp
      · repeat' (first | refine go ?_ | intro _ | refine And.intro (by (first | omega | (unfold InR; omega) | decide | (simp only [List.length_append, List.length_map, List.length_take, List.length_drop, List.length_replicate, List.length_cons, List.length_nil, List.length_set]; omega))) ?_ | (refine And.intro (fun h1 => ?_) (fun h1 => ?_) <;> first | (exact absurd h1 (by decide)) | ((try rw [h1]); (try simp only [Bool.not_eq_true', Bool.not_eq_false', decide_eq_true_eq, decide_eq_false_iff_not, Bool.and_eq_true, Bool.or_eq_true, Bool.or_eq_false_iff, Bool.and_eq_false_imp, Int.not_lt, Int.not_le, Nat.not_lt, Nat.not_le] at h1))) | dsimp only)
        exact hx _ _ _ _ e3 o5.drop1
    all_goals (exfalso; omega)
  · repeat' (first | refine go ?_ | intro _ | refine And.intro (by (first | omega | (unfold InR; omega) | decide | (simp only [List.length_append, List.length_map, List.length_take, List.length_drop, List.length_replicate, List.length_cons, List.length_nil, List.length_set]; omega))) ?_ | (refine And.intro (fun h1 => ?_) (fun h1 => ?_) <;> first | (exact absurd h1 (by decide)) | ((try rw [h1]); (try simp only [Bool.not_eq_true', Bool.not_eq_false', decide_eq_true_eq, decide_eq_false_iff_not, Bool.and_eq_true, Bool.or_eq_true, Bool.or_eq_false_iff, Bool.and_eq_false_imp, Int.not_lt, Int.not_le, Nat.not_lt, Nat.not_le] at h1))) | dsimp only)
    all_goals first
      | (exfalso; omega)
      | skip
    rw [List.take_of_length_le hge] at o1
    exact hk _ _ (Hv.toJ rfl)
instance seqf_ok {K : Value → St → Prop} {w0 w : World} {H : List SL} {ds : List Deferred} {l : List UInt8} [o : Hv w0 H w] :
    Step (Cl P 30 #[str l] K ⟨w, ds⟩) (∀ b w', Hv w0 (box b 9 [str l] :: H) w' → K (.func (.func 45) #[] #[.pointer (some ⟨b, 0, none⟩)]) ⟨w', ds⟩) := ⟨fun h => by
  refine cl_ok (c30 (K := fun v w' => K v ⟨w', ds⟩) ?_ fun v w' h => ⟨v, rfl, h⟩)
  unfold D30
  repeat' (first | refine go ?_ | intro _ | refine And.intro (by (first | omega | (unfold InR; omega) | decide | (simp only [List.length_append, List.length_map, List.length_take, List.length_drop, List.length_replicate, List.length_cons, List.length_nil, List.length_set]; omega))) ?_ | (refine And.intro (fun h1 => ?_) (fun h1 => ?_) <;> first | (exact absurd h1 (by decide)) | ((try rw [h1]); (try simp only [Bool.not_eq_true', Bool.not_eq_false', decide_eq_true_eq, decide_eq_false_iff_not, Bool.and_eq_true, Bool.or_eq_true, Bool.or_eq_false_iff, Bool.and_eq_false_imp, Int.not_lt, Int.not_le, Nat.not_lt, Nat.not_le] at h1))) | dsimp only)
  exact h _ _ ‹_›⟩
end Go.Proofs.Ytodnbkggkdadkaa
