import Derived.Test.YtodnbkggkdadkabDoorPw
set_option linter.all false
namespace Go.Proofs.YtodnbkggkdadkabDoor
open Go.Vx
/-! folded bytes -/
def fb (b : UInt8) : UInt8 := if decide (65 ≤ b) && decide (b ≤ 90) then b + 32 else if b == 91 || (b == 93 || b == 92) then b + 32 else if b == 126 then 94 else b
instance fold_ok {w : World} {b : UInt8} : VT (Cl P 60 #[byteV b]) w (byteV (fb b)) := ⟨fun {K ds} h => by
  refine cl_ok (c60 (K := fun v w' => K v ⟨w', ds⟩) ?_ fun v w' h => ⟨v, rfl, h⟩)
  unfold D60
  dsimp only
  repeat' (first | refine go ?_ | intro _ | refine And.intro (Sd.mk (by (first | exact fun _ => True.intro | exact And.intro (fun _ => True.intro) (fun _ _ => True.intro) | (intro hq; (first | exact True.intro | omega | (simp only [and_true]; omega) | (simp only [Bool.not_eq_true', Bool.not_eq_false', decide_eq_true_eq, decide_eq_false_iff_not, Bool.and_eq_true, Bool.or_eq_true, Bool.or_eq_false_iff, Bool.and_eq_false_imp, Int.not_lt, Int.not_le, Nat.not_lt, Nat.not_le] at hq; (try simp only [and_true]); omega) | fail)) | exact And.intro (fun hq => by first | exact True.intro | omega | (simp only [and_true]; omega) | (simp only [Bool.not_eq_true', Bool.not_eq_false', decide_eq_true_eq, decide_eq_false_iff_not, Bool.and_eq_true, Bool.or_eq_true, Bool.or_eq_false_iff, Bool.and_eq_false_imp, Int.not_lt, Int.not_le, Nat.not_lt, Nat.not_le] at hq; (try simp only [and_true]); omega) | fail) (fun hq hr => by first | exact True.intro | omega | (simp only [and_true]; omega) | (simp only [Bool.not_eq_true', Bool.not_eq_false', decide_eq_true_eq, decide_eq_false_iff_not, Bool.and_eq_true, Bool.or_eq_true, Bool.or_eq_false_iff, Bool.and_eq_false_imp, Int.not_lt, Int.not_le, Nat.not_lt, Nat.not_le] at hq hr; omega) | (simp only [Bool.not_eq_true', Bool.not_eq_false', decide_eq_true_eq, decide_eq_false_iff_not, Bool.and_eq_true, Bool.or_eq_true, Bool.or_eq_false_iff, Bool.and_eq_false_imp, Int.not_lt, Int.not_le, Nat.not_lt, Nat.not_le] at hr; omega) | fail) | fail))) ?_ | refine And.intro (by (first | omega | (unfold InR; omega) | decide | (simp only [List.length_append, List.length_map, List.length_take, List.length_drop, List.length_replicate, List.length_cons, List.length_nil, List.length_set]; omega))) ?_ | (refine And.intro (fun h1 => ?_) (fun h1 => ?_) <;> first | (exact absurd h1 (by decide)) | ((try rw [h1]); (try simp only [Bool.not_eq_true', Bool.not_eq_false', decide_eq_true_eq, decide_eq_false_iff_not, Bool.and_eq_true, Bool.or_eq_true, Bool.or_eq_false_iff, Bool.and_eq_false_imp, Int.not_lt, Int.not_le, Nat.not_lt, Nat.not_le] at h1))) | dsimp only)
  all_goals
    refine cast (congrArg (fun b => K (byteV b) _) ?_) h
    unfold fb
    grind⟩
def fromL : List UInt8 := [65, 66, 67, 68, 69, 70, 71, 72, 73, 74, 75, 76, 77, 78, 79, 80, 81, 82, 83, 84, 85, 86, 87, 88, 89, 90, 91, 93, 92, 126]
def toL : List UInt8 := [97, 98, 99, 100, 101, 102, 103, 104, 105, 106, 107, 108, 109, 110, 111, 112, 113, 114, 115, 116, 117, 118, 119, 120, 121, 122, 123, 125, 124, 94]
def refB (b : UInt8) : UInt8 := match fromL.findIdx? (· == b) with | some i => toL.getD i 0 | none => b
theorem refB_fin : ∀ n : Fin 256, refB (UInt8.ofNat n.val) = fb (UInt8.ofNat n.val) := by decide +kernel
theorem refB_eq (b : UInt8) : refB b = fb b := by
  have := refB_fin ⟨b.toNat, b.toNat_lt⟩
  simpa using this
theorem find_at {l : List UInt8} {i : Nat} {b : UInt8} (hi : i < l.length) (h : l.getD i default = b) (hp : ∀ j < i, l.getD j default ≠ b) : l.findIdx? (· == b) = some i := by
  rw [List.findIdx?_eq_some_iff_getElem]
  refine ⟨hi, ?_, fun j hj => ?_⟩
  · rw [← h]; simp [hi]
  · have := hp j hj
    have hj2 : j < l.length := by omega
    simpa [hj2] using this
theorem find_none {l : List UInt8} {b : UInt8} (hp : ∀ j < l.length, l.getD j default ≠ b) : l.findIdx? (· == b) = none := by
  rw [List.findIdx?_eq_none_iff]
  intro x hx
  obtain ⟨j, hj, rfl⟩ := List.getElem_of_mem hx
  have := hp j hj
  simpa [hj] using this
instance foldR_ok {K : Value → St → Prop} {w0 w : World} {H : List SL} {ds : List Deferred} {b : UInt8} [o : Hv w0 H w] :
    Step (Cl P 47 #[byteV b] K ⟨w, ds⟩) (∀ w', Hv w0 H w' → K (byteV (fb b)) ⟨w', ds⟩) := ⟨fun h => by
  refine cl_ok (c47 (K := fun v w' => K v ⟨w', ds⟩) ?_ fun v w' h => ⟨v, rfl, h⟩)
  unfold D47
  dsimp only
  refine ⟨fun y s => ∃ (i : Nat) (w' : World), y = .int .i64 i ∧ s = ⟨w', []⟩ ∧ i ≤ 30 ∧ (∀ j < i, fromL.getD j default ≠ b) ∧ Hv w0 H w',
    fun y s => match y with | .int _ z => 30 - z.toNat | _ => 0, ⟨0, w, rfl, rfl, Nat.zero_le _, fun j h => by omega, o⟩, ?_⟩
  rintro y s ⟨i, w1, rfl, rfl, hi, hp, o1⟩
  repeat' (first | refine go ?_ | intro _ | refine And.intro (Sd.mk (by (first | exact fun _ => True.intro | exact And.intro (fun _ => True.intro) (fun _ _ => True.intro) | (intro hq; (first | exact True.intro | omega | (simp only [and_true]; omega) | (simp only [Bool.not_eq_true', Bool.not_eq_false', decide_eq_true_eq, decide_eq_false_iff_not, Bool.and_eq_true, Bool.or_eq_true, Bool.or_eq_false_iff, Bool.and_eq_false_imp, Int.not_lt, Int.not_le, Nat.not_lt, Nat.not_le] at hq; (try simp only [and_true]); omega) | fail)) | exact And.intro (fun hq => by first | exact True.intro | omega | (simp only [and_true]; omega) | (simp only [Bool.not_eq_true', Bool.not_eq_false', decide_eq_true_eq, decide_eq_false_iff_not, Bool.and_eq_true, Bool.or_eq_true, Bool.or_eq_false_iff, Bool.and_eq_false_imp, Int.not_lt, Int.not_le, Nat.not_lt, Nat.not_le] at hq; (try simp only [and_true]); omega) | fail) (fun hq hr => by first | exact True.intro | omega | (simp only [and_true]; omega) | (simp only [Bool.not_eq_true', Bool.not_eq_false', decide_eq_true_eq, decide_eq_false_iff_not, Bool.and_eq_true, Bool.or_eq_true, Bool.or_eq_false_iff, Bool.and_eq_false_imp, Int.not_lt, Int.not_le, Nat.not_lt, Nat.not_le] at hq hr; omega) | (simp only [Bool.not_eq_true', Bool.not_eq_false', decide_eq_true_eq, decide_eq_false_iff_not, Bool.and_eq_true, Bool.or_eq_true, Bool.or_eq_false_iff, Bool.and_eq_false_imp, Int.not_lt, Int.not_le, Nat.not_lt, Nat.not_le] at hr; omega) | fail) | fail))) ?_ | refine And.intro (by (first | omega | (unfold InR; omega) | decide | (simp only [List.length_append, List.length_map, List.length_take, List.length_drop, List.length_replicate, List.length_cons, List.length_nil, List.length_set]; omega))) ?_ | (refine And.intro (fun h1 => ?_) (fun h1 => ?_) <;> first | (exact absurd h1 (by decide)) | ((try rw [h1]); (try simp only [Bool.not_eq_true', Bool.not_eq_false', decide_eq_true_eq, decide_eq_false_iff_not, Bool.and_eq_true, Bool.or_eq_true, Bool.or_eq_false_iff, Bool.and_eq_false_imp, Int.not_lt, Int.not_le, Nat.not_lt, Nat.not_le] at h1))) | dsimp only)
  · rename_i h2
    have hlt : i < 30 := by
      have := h2
      simp at this; omega
    refine And.intro (by constructor; omega; simpa using h2) ?_
    repeat' (first | refine go ?_ | intro _ | refine And.intro (Sd.mk (by (first | exact fun _ => True.intro | exact And.intro (fun _ => True.intro) (fun _ _ => True.intro) | (intro hq; (first | exact True.intro | omega | (simp only [and_true]; omega) | (simp only [Bool.not_eq_true', Bool.not_eq_false', decide_eq_true_eq, decide_eq_false_iff_not, Bool.and_eq_true, Bool.or_eq_true, Bool.or_eq_false_iff, Bool.and_eq_false_imp, Int.not_lt, Int.not_le, Nat.not_lt, Nat.not_le] at hq; (try simp only [and_true]); omega) | fail)) | exact And.intro (fun hq => by first | exact True.intro | omega | (simp only [and_true]; omega) | (simp only [Bool.not_eq_true', Bool.not_eq_false', decide_eq_true_eq, decide_eq_false_iff_not, Bool.and_eq_true, Bool.or_eq_true, Bool.or_eq_false_iff, Bool.and_eq_false_imp, Int.not_lt, Int.not_le, Nat.not_lt, Nat.not_le] at hq; (try simp only [and_true]); omega) | fail) (fun hq hr => by first | exact True.intro | omega | (simp only [and_true]; omega) | (simp only [Bool.not_eq_true', Bool.not_eq_false', decide_eq_true_eq, decide_eq_false_iff_not, Bool.and_eq_true, Bool.or_eq_true, Bool.or_eq_false_iff, Bool.and_eq_false_imp, Int.not_lt, Int.not_le, Nat.not_lt, Nat.not_le] at hq hr; omega) | (simp only [Bool.not_eq_true', Bool.not_eq_false', decide_eq_true_eq, decide_eq_false_iff_not, Bool.and_eq_true, Bool.or_eq_true, Bool.or_eq_false_iff, Bool.and_eq_false_imp, Int.not_lt, Int.not_le, Nat.not_lt, Nat.not_le] at hr; omega) | fail) | fail))) ?_ | refine And.intro (by (first | omega | (unfold InR; omega) | decide | (simp only [List.length_append, List.length_map, List.length_take, List.length_drop, List.length_replicate, List.length_cons, List.length_nil, List.length_set]; omega))) ?_ | (refine And.intro (fun h1 => ?_) (fun h1 => ?_) <;> first | (exact absurd h1 (by decide)) | ((try rw [h1]); (try simp only [Bool.not_eq_true', Bool.not_eq_false', decide_eq_true_eq, decide_eq_false_iff_not, Bool.and_eq_true, Bool.or_eq_true, Bool.or_eq_false_iff, Bool.and_eq_false_imp, Int.not_lt, Int.not_le, Nat.not_lt, Nat.not_le] at h1))) | dsimp only)
    refine cast (congrArg (fun b => K (byteV b) _) ?_) (h _ o1)
    rw [← refB_eq]
    unfold refB
    have hf : fromL.findIdx? (· == b) = some i := find_at (by simpa [fromL] using hlt) h1 hp
    rw [hf]
    rfl
  · rename_i h2
    have hlt : i < 30 := by
      have := h2
      simp at this; omega
    refine ⟨⟨i + 1, _, rfl, rfl, by omega, fun j hj => ?_, o1⟩, by simp; omega⟩
    rcases Nat.lt_or_ge j i with x | x
    · exact hp j x
    · obtain rfl : j = i := by omega
      exact h1
  · have hge : 30 ≤ i := by
      have := h1
      simp at this; omega
    refine cast (congrArg (fun b => K (byteV b) _) ?_) (h _ o1)
    rw [← refB_eq]
    unfold refB
    rw [find_none (l := fromL) (b := b) fun j hj => hp j (by simp [fromL] at hj; omega)]⟩
/-! masks -/
def eqM (c b : UInt8) : Bool := c == 63 || fb c == fb b
def mt : List UInt8 → List UInt8 → Bool
  | [], s => s.isEmpty
  | c :: m, s => if c = 42 then mt m s || (match s with | [] => false | _ :: t => mt (c :: m) t) else match s with | [] => false | b :: t => eqM c b && mt m t
termination_by m s => (m.length, s.length)
inductive Mat : List UInt8 → List UInt8 → Prop
  | nil : Mat [] []
  | star {m u t : List UInt8} : Mat m t → Mat (42 :: m) (u ++ t)
  | one {c b : UInt8} {m t : List UInt8} : c ≠ 42 → eqM c b = true → Mat m t → Mat (c :: m) (b :: t)
theorem mt_star (m s : List UInt8) : mt (42 :: m) s = (mt m s || (match s with | [] => false | _ :: t => mt (42 :: m) t)) := by
  rw [mt.eq_def]; simp
theorem mt_one {c : UInt8} (h : c ≠ 42) (m s : List UInt8) : mt (c :: m) s = match s with | [] => false | b :: t => eqM c b && mt m t := by
  rw [mt.eq_def]; simp [h]
theorem mt_nil (s : List UInt8) : mt [] s = s.isEmpty := by rw [mt]
theorem mat_mt {m s : List UInt8} (h : Mat m s) : mt m s = true := by
  induction h with
  | nil => simp [mt_nil]
  | @star m u t h ih =>
    induction u with
    | nil => rw [mt_star]; simp [ih]
    | cons x u ih2 => rw [List.cons_append, mt_star]; simp [ih2]
  | one h1 h2 h3 ih => rw [mt_one h1]; simp [h2, ih]
theorem mt_mat (m : List UInt8) : ∀ s, mt m s = true → Mat m s := by
  induction m with
  | nil => intro s h; rw [mt_nil] at h; cases s with
    | nil => exact .nil
    | cons => simp at h
  | cons c m ih =>
    intro s
    by_cases hc : c = 42
    · subst hc
      induction s with
      | nil => intro h; rw [mt_star] at h; simp at h; exact Mat.star (u := []) (ih _ h)
      | cons b t ih2 =>
        intro h; rw [mt_star] at h; simp at h
        rcases h with h | h
        · exact Mat.star (u := []) (ih _ h)
        · have := ih2 h
          cases this with
          | @star _ u t' h' => exact Mat.star (u := b :: u) h'
          | one h1 => exact absurd rfl h1
    · intro h
      rw [mt_one hc] at h
      cases s with
      | nil => simp at h
      | cons b t => simp at h; exact .one hc h.1 (ih _ h.2)
theorem mt_iff {m s : List UInt8} : mt m s = true ↔ Mat m s := ⟨mt_mat m s, mat_mt⟩
theorem Mat.app {m1 s1 m2 s2 : List UInt8} (h : Mat m1 s1) (k : Mat m2 s2) : Mat (m1 ++ m2) (s1 ++ s2) := by
  induction h with
  | nil => exact k
  | star _ ih => rw [List.cons_append, List.append_assoc]; exact .star ih
  | one h1 h2 _ ih => exact .one h1 h2 ih
theorem Mat.rev {m s : List UInt8} (h : Mat m s) : Mat m.reverse s.reverse := by
  induction h with
  | nil => exact .nil
  | @star m u t _ ih =>
    rw [List.reverse_cons, List.reverse_append]
    have := Mat.star (u := u.reverse) Mat.nil
    rw [List.append_nil] at this
    exact ih.app this
  | one h1 h2 _ ih => rw [List.reverse_cons, List.reverse_cons]; exact ih.app (.one h1 h2 .nil)
theorem mt_rev (m s : List UInt8) : mt m.reverse s.reverse = mt m s := by
  rw [Bool.eq_iff_iff, mt_iff, mt_iff]
  exact ⟨fun h => by simpa using h.rev, Mat.rev⟩
/-- A part without stars that means a text just so. -/
def Lit : List UInt8 → List UInt8 → Prop
  | [], [] => True
  | c :: p, b :: u => c ≠ 42 ∧ eqM c b = true ∧ Lit p u
  | _, _ => False
theorem lit_mt {p : List UInt8} : ∀ {u : List UInt8}, Lit p u → ∀ m t, mt (p ++ m) (u ++ t) = mt m t := by
  induction p with
  | nil => intro u h m t; cases u with | nil => rfl | cons => exact h.elim
  | cons c p ih =>
    intro u h m t
    cases u with
    | nil => exact h.elim
    | cons b u => rw [List.cons_append, List.cons_append, mt_one h.1]; simp [h.2.1, ih h.2.2]
theorem lit_len {p : List UInt8} : ∀ {u : List UInt8}, Lit p u → p.length = u.length := by
  induction p with
  | nil => intro u h; cases u with | nil => rfl | cons => exact h.elim
  | cons c p ih => intro u h; cases u with | nil => exact h.elim | cons b u => simp [ih h.2.2]
theorem lit_free {p : List UInt8} : ∀ {u : List UInt8}, Lit p u → ∀ c ∈ p, c ≠ 42 := by
  induction p with
  | nil => intro u _ c hc; cases hc
  | cons c p ih => intro u h x hx; cases u with
    | nil => exact h.elim
    | cons b u => rcases List.mem_cons.1 hx with e | e
                  · subst e; exact h.1
                  · exact ih h.2.2 x e
theorem lit_snoc {p : List UInt8} {c b : UInt8} (hc : c ≠ 42) (he : eqM c b = true) : ∀ {u : List UInt8}, Lit p u → Lit (p ++ [c]) (u ++ [b]) := by
  induction p with
  | nil => intro u h; cases u with | nil => exact ⟨hc, he, trivial⟩ | cons => exact h.elim
  | cons d p ih => intro u h; cases u with | nil => exact h.elim | cons a u => exact ⟨h.1, h.2.1, ih h.2.2⟩
/-- What a starless part takes is as long as it. -/
theorem free_mt {p : List UInt8} (hp : ∀ c ∈ p, c ≠ 42) : ∀ {m s : List UInt8}, mt (p ++ m) s = true → p.length ≤ s.length ∧ mt m (s.drop p.length) = true := by
  induction p with
  | nil => intro m s h; exact ⟨Nat.zero_le _, h⟩
  | cons c p ih =>
    intro m s h
    rw [List.cons_append, mt_one (hp c (List.mem_cons_self ..))] at h
    cases s with
    | nil => simp at h
    | cons b t =>
      simp at h
      obtain ⟨a, b⟩ := ih (fun x hx => hp x (List.mem_cons_of_mem _ hx)) h.2
      exact ⟨by simp; omega, by simpa using b⟩
theorem star_any {m : List UInt8} (s : List UInt8) : mt (42 :: m) s = true ↔ ∃ k ≤ s.length, mt m (s.drop k) = true := by
  induction s with
  | nil => rw [mt_star]; simp
  | cons b t ih =>
    rw [mt_star]; simp only [Bool.or_eq_true, ih]
    constructor
    · rintro (h | ⟨k, hk, h⟩)
      · exact ⟨0, Nat.zero_le _, h⟩
      · exact ⟨k + 1, by simp; omega, by simpa using h⟩
    · rintro ⟨k, hk, h⟩
      cases k with
      | zero => exact .inl h
      | succ k => exact .inr ⟨k, by simp at hk; omega, by simpa using h⟩
/-- The first place is good enough. -/
theorem greedy {p u : List UInt8} (h : Lit p u) (q t : List UInt8) : mt (42 :: (p ++ 42 :: q)) (u ++ t) = mt (42 :: q) t := by
  rw [Bool.eq_iff_iff]
  constructor
  · intro h1
    obtain ⟨k, hk, h2⟩ := (star_any _).1 h1
    obtain ⟨h3, h4⟩ := free_mt (lit_free h) h2
    obtain ⟨j, hj, h5⟩ := (star_any _).1 h4
    have hl := lit_len h
    rw [List.drop_drop, List.drop_drop] at h5
    refine (star_any _).2 ⟨k + (p.length + j) - u.length, ?_, ?_⟩
    · simp at hj hk h3; omega
    · rw [List.drop_append] at h5
      rw [List.drop_of_length_le (by omega)] at h5
      simpa using h5
  · intro h1
    refine (star_any _).2 ⟨0, Nat.zero_le _, ?_⟩
    rw [List.drop_zero, lit_mt h]; exact h1
theorem greedy_end {p u : List UInt8} (h : Lit p u) (m : List UInt8) : mt (42 :: (p ++ m)) u = mt m [] := by
  rw [Bool.eq_iff_iff]
  have hl := lit_len h
  constructor
  · intro h1
    obtain ⟨k, hk, h2⟩ := (star_any _).1 h1
    obtain ⟨h3, h4⟩ := free_mt (lit_free h) h2
    have h0 : k = 0 := by simp at h3; omega
    subst h0
    rw [List.drop_zero, List.drop_of_length_le (by omega)] at h4
    exact h4
  · intro h1
    refine (star_any _).2 ⟨0, Nat.zero_le _, ?_⟩
    have := lit_mt h m []
    rw [List.append_nil] at this
    rw [List.drop_zero, this]; exact h1
theorem greedy_miss {m : List UInt8} {b : UInt8} {t : List UInt8} (h : mt m (b :: t) = false) : mt (42 :: m) (b :: t) = mt (42 :: m) t := by
  rw [mt_star]; simp [h]
end Go.Proofs.YtodnbkggkdadkabDoor
