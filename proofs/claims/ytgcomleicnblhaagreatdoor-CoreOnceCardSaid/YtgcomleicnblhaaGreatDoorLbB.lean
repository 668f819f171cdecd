import Derived.Test.YtgcomleicnblhaaGreatDoorLbA
set_option linter.all false
namespace Go.Proofs.YtgcomleicnblhaaGreatDoor
open Go.Vx Go.Lib
theorem one_piece {l : List UInt8} {i j : Nat} (h : i < l.length) (hj : j = i + 1) : (l.take j).drop i = [l.getD i default] := by
  subst hj
  rw [take_snoc h, List.drop_append]; simp [show min i l.length = i by omega]
section
open Go.Vx
def fb (b : UInt8) : UInt8 := if decide (65 ≤ b) && decide (b ≤ 90) then b + 32 else if b == 91 || (b == 93 || b == 92) then b + 32 else if b == 126 then 94 else b
instance fold_ok {w : World} {b : UInt8} : VT (Cl P 128 #[byteV b]) w (byteV (fb b)) := ⟨fun {K ds} h => by
  refine s128 ?_
  unfold D128
  dsimp only
  repeat' (first | refine go ?_ | intro _ | refine ⟨sb, ?_⟩ | refine ⟨sd, ?_⟩ | (refine ⟨fun h1 => ?_, fun h1 => ?_⟩ <;> first | exact ab h1 | ((try rw [h1]); (try simp only [bl] at h1))) | dsimp only)
  all_goals
    refine cast (congrArg (fun b => K (byteV b) _) ?_) h
    unfold fb
    grind⟩
def fromL : List UInt8 := [65, 66, 67, 68, 69, 70, 71, 72, 73, 74, 75, 76, 77, 78, 79, 80, 81, 82, 83, 84, 85, 86, 87, 88, 89, 90, 91, 93, 92, 126]
def toL : List UInt8 := [97, 98, 99, 100, 101, 102, 103, 104, 105, 106, 107, 108, 109, 110, 111, 112, 113, 114, 115, 116, 117, 118, 119, 120, 121, 122, 123, 125, 124, 94]
def refB (b : UInt8) : UInt8 := match fromL.findIdx? (· == b) with | some i => toL.getD i 0 | none => b
theorem refB_fin : ∀ n : Fin 256, refB (UInt8.ofNat n.val) = fb (UInt8.ofNat n.val) := by decide +kernel
theorem refB_eq (b : UInt8) : refB b = fb b := by
  have := refB_fin ⟨b.toNat, b.toNat_lt⟩
  simpa using this
theorem find_at {l : List UInt8} {i : Nat} {b : UInt8} (hi : i < l.length) (h : l.getD i default = b) (hp : ∀ j < i, l.getD j default ≠ b) : l.findIdx? (· == b) = some i := by
  rw [List.findIdx?_eq_some_iff_getElem]
  refine ⟨hi, ?_, fun j hj => ?_⟩
  · rw [← h]; simp [hi]
  · have := hp j hj
    have hj2 : j < l.length := by omega
    simpa [hj2] using this
theorem find_none {l : List UInt8} {b : UInt8} (hp : ∀ j < l.length, l.getD j default ≠ b) : l.findIdx? (· == b) = none := by
  rw [List.findIdx?_eq_none_iff]
  intro x hx
  obtain ⟨j, hj, rfl⟩ := List.getElem_of_mem hx
  have := hp j hj
  simpa [hj] using this
instance foldR_ok {K : Value → St → Prop} {w0 w : World} {H : List SL} {ds : List Deferred} {b : UInt8} [o : Hv w0 H w] :
    Step (Cl P 244 #[byteV b] K ⟨w, ds⟩) (∀ w', Hv w0 H w' → K (byteV (fb b)) ⟨w', ds⟩) := ⟨fun h => by
  refine s244 ?_
  unfold D244
  dsimp only
  refine ⟨fun y s => ∃ (i : Nat) (w' : World), y = .int .i64 i ∧ s = ⟨w', []⟩ ∧ i ≤ 30 ∧ (∀ j < i, fromL.getD j default ≠ b) ∧ Hv w0 H w',
    fun y s => match y with | .int _ z => 30 - z.toNat | _ => 0, ⟨0, w, rfl, rfl, Nat.zero_le _, fun j h => by omega, o⟩, ?_⟩
  rintro y s ⟨i, w1, rfl, rfl, hi, hp, o1⟩
  repeat' (first | refine go ?_ | intro _ | refine ⟨sb, ?_⟩ | refine ⟨sd, ?_⟩ | (refine ⟨fun h1 => ?_, fun h1 => ?_⟩ <;> first | exact ab h1 | ((try rw [h1]); (try simp only [bl] at h1))) | dsimp only)
  · rename_i h2
    have hlt : i < 30 := by
      have := h2
      simp at this; omega
    refine cast (congrArg (fun b => K (byteV b) _) ?_) (h _ o1)
    rw [← refB_eq]
    unfold refB
    have hf : fromL.findIdx? (· == b) = some i := find_at (by simpa [fromL] using hlt) h1 hp
    rw [hf]
    rfl
  · rename_i h2
    have hlt : i < 30 := by
      have := h2
      simp at this; omega
    refine ⟨⟨i + 1, _, rfl, rfl, by omega, fun j hj => ?_, o1⟩, by simp; omega⟩
    rcases Nat.lt_or_ge j i with x | x
    · exact hp j x
    · obtain rfl : j = i := by omega
      exact h1
  · have hge : 30 ≤ i := by
      have := h1
      simp at this; omega
    refine cast (congrArg (fun b => K (byteV b) _) ?_) (h _ o1)
    rw [← refB_eq]
    unfold refB
    rw [find_none (l := fromL) (b := b) fun j hj => hp j (by simp [fromL] at hj; omega)]⟩
def eqM (c b : UInt8) : Bool := c == 63 || fb c == fb b
def mt : List UInt8 → List UInt8 → Bool
  | [], s => s.isEmpty
  | c :: m, s => if c = 42 then mt m s || (match s with | [] => false | _ :: t => mt (c :: m) t) else match s with | [] => false | b :: t => eqM c b && mt m t
termination_by m s => (m.length, s.length)
inductive Mat : List UInt8 → List UInt8 → Prop
  | nil : Mat [] []
  | star {m u t : List UInt8} : Mat m t → Mat (42 :: m) (u ++ t)
  | one {c b : UInt8} {m t : List UInt8} : c ≠ 42 → eqM c b = true → Mat m t → Mat (c :: m) (b :: t)
theorem mt_star (m s : List UInt8) : mt (42 :: m) s = (mt m s || (match s with | [] => false | _ :: t => mt (42 :: m) t)) := by
  rw [mt.eq_def]; simp
theorem mt_one {c : UInt8} (h : c ≠ 42) (m s : List UInt8) : mt (c :: m) s = match s with | [] => false | b :: t => eqM c b && mt m t := by
  rw [mt.eq_def]; simp [h]
theorem mt_nil (s : List UInt8) : mt [] s = s.isEmpty := by rw [mt]
theorem mat_mt {m s : List UInt8} (h : Mat m s) : mt m s = true := by
  induction h with
  | nil => simp [mt_nil]
  | @star m u t h ih =>
    induction u with
    | nil => rw [mt_star]; simp [ih]
    | cons x u ih2 => rw [List.cons_append, mt_star]; simp [ih2]
  | one h1 h2 h3 ih => rw [mt_one h1]; simp [h2, ih]
theorem mt_mat (m : List UInt8) : ∀ s, mt m s = true → Mat m s := by
  induction m with
  | nil => intro s h; rw [mt_nil] at h; cases s with
    | nil => exact .nil
    | cons => simp at h
  | cons c m ih =>
    intro s
    by_cases hc : c = 42
    · subst hc
      induction s with
      | nil => intro h; rw [mt_star] at h; simp at h; exact Mat.star (u := []) (ih _ h)
      | cons b t ih2 =>
        intro h; rw [mt_star] at h; simp at h
        rcases h with h | h
        · exact Mat.star (u := []) (ih _ h)
        · have := ih2 h
          cases this with
          | @star _ u t' h' => exact Mat.star (u := b :: u) h'
          | one h1 => exact absurd rfl h1
    · intro h
      rw [mt_one hc] at h
      cases s with
      | nil => simp at h
      | cons b t => simp at h; exact .one hc h.1 (ih _ h.2)
theorem mt_iff {m s : List UInt8} : mt m s = true ↔ Mat m s := ⟨mt_mat m s, mat_mt⟩
theorem Mat.app {m1 s1 m2 s2 : List UInt8} (h : Mat m1 s1) (k : Mat m2 s2) : Mat (m1 ++ m2) (s1 ++ s2) := by
  induction h with
  | nil => exact k
  | star _ ih => rw [List.cons_append, List.append_assoc]; exact .star ih
  | one h1 h2 _ ih => exact .one h1 h2 ih
theorem Mat.rev {m s : List UInt8} (h : Mat m s) : Mat m.reverse s.reverse := by
  induction h with
  | nil => exact .nil
  | @star m u t _ ih =>
    rw [List.reverse_cons, List.reverse_append]
    have := Mat.star (u := u.reverse) Mat.nil
    rw [List.append_nil] at this
    exact ih.app this
  | one h1 h2 _ ih => rw [List.reverse_cons, List.reverse_cons]; exact ih.app (.one h1 h2 .nil)
theorem mt_rev (m s : List UInt8) : mt m.reverse s.reverse = mt m s := by
  rw [Bool.eq_iff_iff, mt_iff, mt_iff]
  exact ⟨fun h => by simpa using h.rev, Mat.rev⟩
/-- A part without stars that means a text just so. -/
def Lit : List UInt8 → List UInt8 → Prop
  | [], [] => True
  | c :: p, b :: u => c ≠ 42 ∧ eqM c b = true ∧ Lit p u
  | _, _ => False
theorem lit_mt {p : List UInt8} : ∀ {u : List UInt8}, Lit p u → ∀ m t, mt (p ++ m) (u ++ t) = mt m t := by
  induction p with
  | nil => intro u h m t; cases u with | nil => rfl | cons => exact h.elim
  | cons c p ih =>
    intro u h m t
    cases u with
    | nil => exact h.elim
    | cons b u => rw [List.cons_append, List.cons_append, mt_one h.1]; simp [h.2.1, ih h.2.2]
theorem lit_len {p : List UInt8} : ∀ {u : List UInt8}, Lit p u → p.length = u.length := by
  induction p with
  | nil => intro u h; cases u with | nil => rfl | cons => exact h.elim
  | cons c p ih => intro u h; cases u with | nil => exact h.elim | cons b u => simp [ih h.2.2]
theorem lit_free {p : List UInt8} : ∀ {u : List UInt8}, Lit p u → ∀ c ∈ p, c ≠ 42 := by
  induction p with
  | nil => intro u _ c hc; cases hc
  | cons c p ih => intro u h x hx; cases u with
    | nil => exact h.elim
    | cons b u => rcases List.mem_cons.1 hx with e | e
                  · subst e; exact h.1
                  · exact ih h.2.2 x e
theorem lit_snoc {p : List UInt8} {c b : UInt8} (hc : c ≠ 42) (he : eqM c b = true) : ∀ {u : List UInt8}, Lit p u → Lit (p ++ [c]) (u ++ [b]) := by
  induction p with
  | nil => intro u h; cases u with | nil => exact ⟨hc, he, trivial⟩ | cons => exact h.elim
  | cons d p ih => intro u h; cases u with | nil => exact h.elim | cons a u => exact ⟨h.1, h.2.1, ih h.2.2⟩
/-- What a starless part takes is as long as it. -/
theorem free_mt {p : List UInt8} (hp : ∀ c ∈ p, c ≠ 42) : ∀ {m s : List UInt8}, mt (p ++ m) s = true → p.length ≤ s.length ∧ mt m (s.drop p.length) = true := by
  induction p with
  | nil => intro m s h; exact ⟨Nat.zero_le _, h⟩
  | cons c p ih =>
    intro m s h
    rw [List.cons_append, mt_one (hp c (List.mem_cons_self ..))] at h
    cases s with
    | nil => simp at h
    | cons b t =>
      simp at h
      obtain ⟨a, b⟩ := ih (fun x hx => hp x (List.mem_cons_of_mem _ hx)) h.2
      exact ⟨by simp; omega, by simpa using b⟩
theorem star_any {m : List UInt8} (s : List UInt8) : mt (42 :: m) s = true ↔ ∃ k ≤ s.length, mt m (s.drop k) = true := by
  induction s with
  | nil => rw [mt_star]; simp
  | cons b t ih =>
    rw [mt_star]; simp only [Bool.or_eq_true, ih]
    constructor
    · rintro (h | ⟨k, hk, h⟩)
      · exact ⟨0, Nat.zero_le _, h⟩
      · exact ⟨k + 1, by simp; omega, by simpa using h⟩
    · rintro ⟨k, hk, h⟩
      cases k with
      | zero => exact .inl h
      | succ k => exact .inr ⟨k, by simp at hk; omega, by simpa using h⟩
/-- The first place is good enough. -/
theorem greedy {p u : List UInt8} (h : Lit p u) (q t : List UInt8) : mt (42 :: (p ++ 42 :: q)) (u ++ t) = mt (42 :: q) t := by
  rw [Bool.eq_iff_iff]
  constructor
  · intro h1
    obtain ⟨k, hk, h2⟩ := (star_any _).1 h1
    obtain ⟨h3, h4⟩ := free_mt (lit_free h) h2
    obtain ⟨j, hj, h5⟩ := (star_any _).1 h4
    have hl := lit_len h
    rw [List.drop_drop, List.drop_drop] at h5
    refine (star_any _).2 ⟨k + (p.length + j) - u.length, ?_, ?_⟩
    · simp at hj hk h3; omega
    · rw [List.drop_append] at h5
      rw [List.drop_of_length_le (by omega)] at h5
      simpa using h5
  · intro h1
    refine (star_any _).2 ⟨0, Nat.zero_le _, ?_⟩
    rw [List.drop_zero, lit_mt h]; exact h1
theorem greedy_end {p u : List UInt8} (h : Lit p u) (m : List UInt8) : mt (42 :: (p ++ m)) u = mt m [] := by
  rw [Bool.eq_iff_iff]
  have hl := lit_len h
  constructor
  · intro h1
    obtain ⟨k, hk, h2⟩ := (star_any _).1 h1
    obtain ⟨h3, h4⟩ := free_mt (lit_free h) h2
    have h0 : k = 0 := by simp at h3; omega
    subst h0
    rw [List.drop_zero, List.drop_of_length_le (by omega)] at h4
    exact h4
  · intro h1
    refine (star_any _).2 ⟨0, Nat.zero_le _, ?_⟩
    have := lit_mt h m []
    rw [List.append_nil] at this
    rw [List.drop_zero, this]; exact h1
theorem greedy_miss {m : List UInt8} {b : UInt8} {t : List UInt8} (h : mt m (b :: t) = false) : mt (42 :: m) (b :: t) = mt (42 :: m) t := by
  rw [mt_star]; simp [h]
end
section
open Go.Vx
def trimR (l : List UInt8) (c : UInt8) : List UInt8 := (l.reverse.dropWhile (· == c)).reverse
theorem trimR_snoc (l : List UInt8) (x c : UInt8) : trimR (l ++ [x]) c = if x == c then trimR l c else l ++ [x] := by
  unfold trimR
  rw [List.reverse_append, List.reverse_singleton, List.singleton_append, List.dropWhile_cons]
  split
  · rfl
  · simp
instance trimR_ok {w : World} {l : List UInt8} {c : UInt8} : VS (Cl P 314 #[str l, byteV c]) w ((l.length : Int) ≤ 1000000000) (str (trimR l c)) := ⟨fun hb {K ds} h => by
  refine s314 ?_
  unfold D314
  dsimp only
  refine ⟨fun y s => ∃ (m : List UInt8), y = str m ∧ s = ⟨w, []⟩ ∧ trimR m c = trimR l c ∧ m.length ≤ l.length,
    fun y s => match y with | .string b => b.size | _ => 0, ⟨l, rfl, rfl, rfl, Nat.le_refl _⟩, ?_⟩
  rintro y s ⟨m, rfl, rfl, hm, hl⟩
  rcases List.eq_nil_or_concat m with rfl | ⟨m', x, rfl⟩
  · repeat' (first | refine go ?_ | intro _ | refine ⟨sb, ?_⟩ | refine ⟨sd, ?_⟩ | (refine ⟨fun h1 => ?_, fun h1 => ?_⟩ <;> first | exact ab h1 | ((try rw [h1]); (try simp only [bl] at h1))) | dsimp only)
    refine And.intro (Sd.mk fun hq => absurd hq (by simp)) (.inr ⟨by simp, ?_⟩)
    rw [← hm] at h
    repeat' (first | refine go ?_ | intro _ | refine ⟨sb, ?_⟩ | refine ⟨sd, ?_⟩ | (refine ⟨fun h1 => ?_, fun h1 => ?_⟩ <;> first | exact ab h1 | ((try rw [h1]); (try simp only [bl] at h1))) | dsimp only)
    simpa [trimR] using h
  · rw [List.concat_eq_append] at *
    have hn : (m' ++ [x]).length = m'.length + 1 := by simp
    have en : ((((m' ++ [x]).length : Nat) : Int) - 1).toNat = m'.length := by omega
    have hg : (m' ++ [x]).getD m'.length default = x := by simp
    rw [hn] at hl
    repeat' (first | refine go ?_ | intro _ | refine ⟨sb, ?_⟩ | refine ⟨sd, ?_⟩ | (refine ⟨fun h1 => ?_, fun h1 => ?_⟩ <;> first | exact ab h1 | ((try rw [h1]); (try simp only [bl] at h1))) | dsimp only)
    refine And.intro (Sd.mk fun _ => ⟨by unfold InR; omega, ⟨by omega, by omega⟩, True.intro⟩) ?_
    rw [en, hg]
    repeat' (first | refine go ?_ | intro _ | refine ⟨sb, ?_⟩ | refine ⟨sd, ?_⟩ | (refine ⟨fun h1 => ?_, fun h1 => ?_⟩ <;> first | exact ab h1 | ((try rw [h1]); (try simp only [bl] at h1))) | dsimp only)
    · have hx : x = c := h1.2
      refine ⟨⟨m', ?_, rfl, ?_, by omega⟩, by simp [ByteArray.size]⟩
      · simp
      · rw [← hm, trimR_snoc]; simp [hx]
    · have hx : ¬ x = c := fun e => h1 (by omega) e
      rw [← hm, trimR_snoc] at h
      simpa [hx] using h⟩
instance trim_ok {K : Value → St → Prop} {w0 w : World} {H : List SL} {ds : List Deferred} {l : List UInt8} [o : Hv w0 H w] :
    Step (Cl P 260 #[str l, .string ⟨#[42]⟩] K ⟨w, ds⟩) ((l.length : Int) ≤ 1000000000 ∧ ∀ w', Hv w0 H w' → K (str (trimL (trimR l 42) 42)) ⟨w', ds⟩) := ⟨fun ⟨hb, h⟩ => by
  refine s260 ?_
  unfold D260
  repeat' (first | refine go ?_ | intro _ | refine ⟨sb, ?_⟩ | refine ⟨sd, ?_⟩ | (refine ⟨fun h1 => ?_, fun h1 => ?_⟩ <;> first | exact ab h1 | ((try rw [h1]); (try simp only [bl] at h1))) | dsimp only)
  · have e : l = [] := by simpa using h1
    subst e
    exact h _ o
  · exact h _ (Sub.hv subEnd)⟩
theorem mt_end (l : List UInt8) : mt l [] = l.all (· == 42) := by
  induction l with
  | nil => rw [mt_nil]; rfl
  | cons c m ih =>
    by_cases hc : c = 42
    · subst hc; rw [mt_star, ih]; simp
    · rw [mt_one hc]; simp [hc]
theorem trim_nil (l : List UInt8) : decide (trimL (trimR l 42) 42 = []) = mt l [] := by
  rw [mt_end, Bool.eq_iff_iff, decide_eq_true_eq, List.all_eq_true]
  have h1 : trimL (trimR l 42) 42 = [] ↔ ∀ x ∈ trimL (trimR l 42) 42, (x == 42) = true := by
    constructor
    · intro h; rw [h]; simp
    · intro h
      have h2 := (drop_all _).1 h
      generalize (List.dropWhile (· == 42) l.reverse).reverse = q at *
      have : ∀ q : List UInt8, (∀ x ∈ q, (x == 42) = true) → q.dropWhile (· == 42) = [] := by
        intro q
        induction q with
        | nil => intro _; rfl
        | cons y q ih => intro hq; rw [List.dropWhile_cons, if_pos (hq y (List.mem_cons_self ..))]; exact ih fun x hx => hq x (List.mem_cons_of_mem _ hx)
      exact this _ h2
  rw [h1]
  unfold trimL trimR
  rw [drop_all]
  simp only [List.mem_reverse]
  rw [drop_all]
  simp
/-- Match: where it stands. -/
structure MSt (mask l : List UInt8) (i k : Nat) (st : Int) (bk : Nat) : Prop where
  hi : i ≤ l.length
  hk : k ≤ mask.length
  no : st < 0 → st = -1 ∧ bk = 0 ∧ mt mask l = mt (mask.drop k) (l.drop i)
  ye : ∀ n : Nat, st = n → n < k ∧ bk ≤ i ∧ mt mask l = mt (42 :: mask.drop (n + 1)) (l.drop bk) ∧ ∃ p u, Lit p u ∧ mask.drop (n + 1) = p ++ mask.drop k ∧ l.drop bk = u ++ l.drop i
theorem drop_at {l : List UInt8} {i : Nat} (h : i < l.length) : l.drop i = l.getD i default :: l.drop (i + 1) := by
  rw [List.drop_eq_getElem_cons h]; congr 1; simp [h]
theorem MSt.begin (mask l : List UInt8) : MSt mask l 0 0 (-1) 0 := ⟨Nat.zero_le _, Nat.zero_le _, fun _ => ⟨rfl, rfl, rfl⟩, fun n h => by omega⟩
theorem MSt.star {mask l : List UInt8} {i k bk : Nat} {st : Int} (s : MSt mask l i k st bk) (hk : k < mask.length) (hc : mask.getD k default = 42) : MSt mask l i (k + 1) k i := by
  refine ⟨s.hi, hk, fun h => by omega, fun n hn => ?_⟩
  obtain rfl : k = n := by omega
  have hd := drop_at hk
  rw [hc] at hd
  refine ⟨by omega, Nat.le_refl _, ?_, [], [], trivial, rfl, rfl⟩
  by_cases x : st < 0
  · rw [(s.no x).2.2, hd]
  · obtain ⟨m, rfl⟩ : ∃ m : Nat, st = m := ⟨st.toNat, by omega⟩
    obtain ⟨_, _, e, p, u, hl, e1, e2⟩ := s.ye m rfl
    rw [e, e1, e2, hd, greedy hl]
theorem MSt.one {mask l : List UInt8} {i k bk : Nat} {st : Int} (s : MSt mask l i k st bk) (hi : i < l.length) (hk : k < mask.length) (hc : mask.getD k default ≠ 42) (he : eqM (mask.getD k default) (l.getD i default) = true) : MSt mask l (i + 1) (k + 1) st bk := by
  have hd := drop_at hk
  have hd2 := drop_at hi
  refine ⟨hi, hk, fun h => ?_, fun n hn => ?_⟩
  · obtain ⟨a, b, e⟩ := s.no h
    refine ⟨a, b, ?_⟩
    rw [e, hd, hd2, mt_one hc]; simp only [he, Bool.true_and]
  · obtain ⟨a, b, e, p, u, hl, e1, e2⟩ := s.ye n hn
    refine ⟨by omega, by omega, e, p ++ [mask.getD k default], u ++ [l.getD i default], lit_snoc hc he hl, ?_, ?_⟩
    · rw [e1, hd]; simp
    · rw [e2, hd2]; simp
theorem MSt.miss {mask l : List UInt8} {i k bk : Nat} {st : Int} (s : MSt mask l i k st bk) (hi : i < l.length) (hm : mask.length ≤ k ∨ mask.getD k default ≠ 42 ∧ eqM (mask.getD k default) (l.getD i default) = false) : mt (mask.drop k) (l.drop i) = false := by
  rw [drop_at hi]
  rcases hm with h | ⟨h1, h2⟩
  · rw [List.drop_of_length_le h, mt_nil]; rfl
  · rcases Nat.lt_or_ge k mask.length with h | h
    · rw [drop_at h, mt_one h1]; simp only [h2, Bool.false_and]
    · rw [List.drop_of_length_le h, mt_nil]; rfl
theorem MSt.back {mask l : List UInt8} {i k bk n : Nat} (s : MSt mask l i k n bk) (hi : i < l.length) (hm : mask.length ≤ k ∨ mask.getD k default ≠ 42 ∧ eqM (mask.getD k default) (l.getD i default) = false) : MSt mask l (bk + 1) (n + 1) n (bk + 1) := by
  have h0 := s.miss hi hm
  obtain ⟨a, b, e, p, u, hl, e1, e2⟩ := s.ye n rfl
  have hk := s.hk
  refine ⟨by omega, by omega, fun h => by omega, fun j hj => ?_⟩
  obtain rfl : n = j := by omega
  refine ⟨by omega, Nat.le_refl _, ?_, [], [], trivial, rfl, rfl⟩
  have h1 : mt (mask.drop (n + 1)) (l.drop bk) = false := by rw [e1, e2, lit_mt hl, h0]
  have hd := drop_at (show bk < l.length by omega)
  rw [e]
  rw [hd] at h1 ⊢
  exact greedy_miss h1
theorem MSt.fails {mask l : List UInt8} {i k bk : Nat} {st : Int} (s : MSt mask l i k st bk) (hi : i < l.length) (hs : st < 0) (hm : mask.length ≤ k ∨ mask.getD k default ≠ 42 ∧ eqM (mask.getD k default) (l.getD i default) = false) : mt mask l = false := by
  rw [(s.no hs).2.2]; exact s.miss hi hm
theorem MSt.ends {mask l : List UInt8} {i k bk : Nat} {st : Int} (s : MSt mask l i k st bk) (hi : l.length ≤ i) : mt mask l = mt (mask.drop k) [] := by
  have he : l.drop i = [] := List.drop_of_length_le hi
  by_cases x : st < 0
  · rw [(s.no x).2.2, he]
  · obtain ⟨m, rfl⟩ : ∃ m : Nat, st = m := ⟨st.toNat, by omega⟩
    obtain ⟨_, _, e, p, u, hl, e1, e2⟩ := s.ye m rfl
    rw [he, List.append_nil] at e2
    rw [e, e1, e2, greedy_end hl]
/-- How far it is yet. -/
def mu (mask l : List UInt8) (i : Nat) (st : Int) (bk : Nat) : Nat := ((mask.length + 1 - (st + 1).toNat) * (l.length + 1) + (l.length - bk)) * (l.length + 1) + (l.length - i)
theorem lexi {L a b y z : Nat} (h : a + 1 ≤ b) (hy : y < L) : a * L + y < b * L + z := by
  have h1 : (a + 1) * L ≤ b * L := Nat.mul_le_mul_right L h
  rw [Nat.add_mul, Nat.one_mul] at h1
  omega
theorem mu_star {mask l : List UInt8} {i k bk : Nat} {st : Int} (h1 : st < k) (h2 : -1 ≤ st) (hk : k < mask.length) : mu mask l i k i < mu mask l i st bk := by
  unfold mu
  refine lexi ?_ (by omega)
  have h := lexi (L := l.length + 1) (a := mask.length + 1 - ((k : Int) + 1).toNat) (b := mask.length + 1 - (st + 1).toNat) (y := l.length - i) (z := l.length - bk) (by omega) (by omega)
  omega
theorem mu_back {mask l : List UInt8} {i bk : Nat} {st : Int} (h : bk < l.length) : mu mask l (bk + 1) st (bk + 1) < mu mask l i st bk := by
  unfold mu
  exact lexi (by omega) (by omega)
theorem mu_one {mask l : List UInt8} {i bk : Nat} {st : Int} (h : i < l.length) : mu mask l (i + 1) st bk < mu mask l i st bk := by
  unfold mu; omega
end
section
open Go.Vx
def Rk (mask l : List UInt8) (k i : Nat) : Bool := mt (mask.take k).reverse (l.take i).reverse
abbrev nb (f : Nat → Bool) (m : Nat) : List Value := ((List.range m).map f).map Value.bool
theorem nb_congr {f g : Nat → Bool} {m : Nat} (h : ∀ j < m, f j = g j) : nb f m = nb g m := by
  unfold nb; congr 1; exact List.map_congr_left fun j hj => h j (List.mem_range.1 hj)
theorem nb_set {f : Nat → Bool} {m i : Nat} {b : Bool} : (nb f m).set i (.bool b) = nb (fun j => if j = i then b else f j) m := by
  unfold nb
  apply List.ext_getElem
  · simp
  · intro j h1 h2
    simp at h1
    rw [List.getElem_set]
    split
    · subst_vars; simp
    · rename_i h; simp [Ne.symm h]
theorem nb_rep {m : Nat} : List.replicate m (.bool false) = nb (fun _ => false) m := by
  unfold nb; apply List.ext_getElem <;> simp
theorem nb_get {f : Nat → Bool} {m j : Nat} (h : j < m) : ((List.range m).map f).getD j default = f j := by simp [h]
theorem Rk_star {mask l : List UInt8} {k i : Nat} (hk : k < mask.length) (hi : i ≤ l.length) (hc : mask.getD k default = 42) : Rk mask l (k + 1) i = (Rk mask l k i || (decide (0 < i) && Rk mask l (k + 1) (i - 1))) := by
  unfold Rk
  rw [take_snoc hk, hc, List.reverse_append, List.reverse_singleton, List.singleton_append, mt_star]
  cases i with
  | zero => simp
  | succ i => rw [take_snoc (show i < l.length by omega), List.reverse_append, List.reverse_singleton, List.singleton_append]; simp
theorem Rk_one {mask l : List UInt8} {k i : Nat} (hk : k < mask.length) (hi : i ≤ l.length) (hc : mask.getD k default ≠ 42) : Rk mask l (k + 1) i = (decide (0 < i) && Rk mask l k (i - 1) && eqM (mask.getD k default) (l.getD (i - 1) default)) := by
  unfold Rk
  rw [take_snoc hk, List.reverse_append, List.reverse_singleton, List.singleton_append, mt_one hc]
  cases i with
  | zero => simp
  | succ i =>
    rw [take_snoc (show i < l.length by omega), List.reverse_append, List.reverse_singleton, List.singleton_append]
    simp only [Nat.zero_lt_succ, decide_true, Bool.true_and, Nat.add_sub_cancel]
    rw [Bool.and_comm]
theorem Rk_zero (mask l : List UInt8) (i : Nat) (hi : i ≤ l.length) : Rk mask l 0 i = decide (i = 0) := by
  unfold Rk
  rw [List.take_zero, List.reverse_nil, mt_nil]
  cases i with
  | zero => rfl
  | succ i => rw [take_snoc (show i < l.length by omega)]; simp
end
section
open Go.Vx Go.Lib
section
set_option maxRecDepth 20000
set_option synthInstance.maxSize 100000
set_option synthInstance.maxHeartbeats 4000000
variable {K : Value → St → Prop} {w0 w : World} {H R : List SL} {ds : List Deferred} {l : List UInt8}
instance cleanR_ok [o : Hv w0 H w] : Step (Cl P 219 #[str l, .int .i64 l.length] K ⟨w, ds⟩) (l.length ≤ 1000000 ∧ ∀ w', Hv w0 H w' → K (str (cleanS l)) ⟨w', ds⟩) := ⟨fun ⟨hl, h⟩ => by
  refine s219 ?_
  unfold D219
  refine ⟨fun x y s => ∃ (i : Nat) (w' : World), x = str (cleanS (l.take i)) ∧ y = .int .i64 i ∧ s = ⟨w', []⟩ ∧ i ≤ l.length ∧ Hv w0 H w', fun _ y s => match y with | .int _ z => l.length - z.toNat | _ => 0, ⟨0, w, rfl, rfl, rfl, Nat.zero_le _, o⟩, ?_⟩
  rintro x y s ⟨i, w2, rfl, rfl, rfl, hi, o2⟩
  clear o
  have hcl := clean_len (l.take i)
  rw [List.length_take] at hcl
  rcases Nat.lt_or_ge i l.length with hlt | hge
  · have hsn := clean_snoc hlt
    have hone : (l.take (i + 1)).drop i = [l.getD i default] := one_piece hlt rfl
    have hok : okT (l.getD i default) = true ↔ (¬ l.getD i default = 0 ∧ ¬ l.getD i default = 10) ∧ ¬ l.getD i default = 13 := by simp [okT]
    repeat' (first | refine go ?_ | intro _ | refine ⟨sb, ?_⟩ | refine ⟨sd, ?_⟩ | (refine ⟨fun h1 => ?_, fun h1 => ?_⟩ <;> first | exact ab h1 | ((try rw [h1]); (try simp only [bl] at h1))) | dsimp only)
    · refine ⟨⟨i + 1, _, ?_, rfl, rfl, hlt, o2⟩, by omega⟩
      rw [hone, hsn, if_pos (hok.2 h1.1)]
    · refine ⟨⟨i + 1, _, ?_, rfl, rfl, hlt, o2⟩, by omega⟩
      rw [hsn, if_neg, List.append_nil]
      intro hc
      have h2 := h1 (hok.1 hc)
      omega
    · exfalso; omega
  · repeat' (first | refine go ?_ | intro _ | refine ⟨sb, ?_⟩ | refine ⟨sd, ?_⟩ | (refine ⟨fun h1 => ?_, fun h1 => ?_⟩ <;> first | exact ab h1 | ((try rw [h1]); (try simp only [bl] at h1))) | dsimp only)
    · exfalso; omega
    · rw [List.take_of_length_le hge]; exact h _ o2⟩
variable {xp : Value} {ps : List (List UInt8)} {np : Nat} {zp : List Value} {pre cmd : List UInt8}
variable {server tgt : List UInt8}
end
end
end Go.Proofs.YtgcomleicnblhaaGreatDoor

