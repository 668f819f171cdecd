import Derived.Test.YtgcomleicnblhaaGreatDoorLbD
set_option linter.all false
namespace Go.Proofs.YtgcomleicnblhaaGreatDoor
open Go.Vx Go.Lib
/-! rows that rise by a number -/
section
set_option linter.unusedSectionVars false
variable {α : Type} [Inhabited α] {f : α → Int} {l : List α} {y : Int}
def rankBy (f : α → Int) (l : List α) (y : Int) : Nat := (l.filter fun a => decide (f a < y)).length
def hasBy (f : α → Int) (l : List α) (y : Int) : Bool := l.any fun a => decide (f a = y)
def insBy (f : α → Int) (l : List α) (x : α) : List α := (l.filter fun a => decide (f a < f x)) ++ x :: l.filter fun a => decide (f x ≤ f a)
def delBy (f : α → Int) (l : List α) (y : Int) : List α := l.filter fun a => !decide (f a = y)
abbrev Ris (f : α → Int) (l : List α) : Prop := l.Pairwise fun a b => f a < f b
theorem ord_cut (h : Ris f l) (y : Int) : l = (l.filter fun a => decide (f a < y)) ++ l.filter fun a => decide (y ≤ f a) := by
  induction l with
  | nil => rfl
  | cons a l ih =>
    obtain ⟨h1, h2⟩ := List.pairwise_cons.1 h
    by_cases ha : f a < y
    · rw [List.filter_cons_of_pos (by simpa using ha), List.filter_cons_of_neg (by simp; omega), List.cons_append, ← ih h2]
    · have e1 : (l.filter fun a => decide (f a < y)) = [] := List.filter_eq_nil_iff.2 fun x hx => by have := h1 x hx; simp; omega
      have e2 : (l.filter fun a => decide (y ≤ f a)) = l := List.filter_eq_self.2 fun x hx => by have := h1 x hx; simp; omega
      rw [List.filter_cons_of_neg (by simpa using ha), List.filter_cons_of_pos (by simp; omega), e1, e2]; rfl
theorem drop_gen {i : Nat} (h : i < l.length) : l.drop i = l.getD i default :: l.drop (i + 1) := by
  rw [List.drop_eq_getElem_cons h]; congr 1; simp [h]
theorem rank_take (h : Ris f l) (y : Int) : l.take (rankBy f l y) = (l.filter fun a => decide (f a < y)) ∧ l.drop (rankBy f l y) = l.filter fun a => decide (y ≤ f a) :=
  ⟨(congrArg (List.take (rankBy f l y)) (ord_cut h y)).trans (List.take_left' rfl), (congrArg (List.drop (rankBy f l y)) (ord_cut h y)).trans (List.drop_left' rfl)⟩
theorem rank_le (f : α → Int) (l : List α) (y : Int) : rankBy f l y ≤ l.length := List.length_filter_le ..
theorem rank_eq {i : Nat} (hi : i ≤ l.length) (h1 : ∀ k, k < i → f (l.getD k default) < y) (h2 : ∀ k, i ≤ k → k < l.length → ¬ f (l.getD k default) < y) : i = rankBy f l y := by
  unfold rankBy
  have e : l.filter (fun a => decide (f a < y)) = l.take i := by
    conv => lhs; rw [← List.take_append_drop i l, List.filter_append]
    rw [List.filter_eq_self.2, List.filter_eq_nil_iff.2, List.append_nil]
    · intro x hx
      obtain ⟨j, hj, rfl⟩ := List.mem_drop_iff_getElem.1 hx
      have := h2 (i + j) (by omega) (by omega)
      simpa [List.getD_eq_getElem?_getD, show i + j < l.length by omega] using this
    · intro x hx
      obtain ⟨j, hj, rfl⟩ := List.mem_take_iff_getElem.1 hx
      have := h1 j (by omega)
      simpa [List.getD_eq_getElem?_getD, show j < l.length by omega] using this
  rw [e, List.length_take]; omega
theorem rank_split (h : Ris f l) (hy : hasBy f l y = true) : ∃ z, f z = y ∧ l.drop (rankBy f l y) = z :: l.drop (rankBy f l y + 1) ∧ ∀ x ∈ l.drop (rankBy f l y + 1), y < f x := by
  have e := (rank_take h y).2
  obtain ⟨a, ha, hay⟩ := List.any_eq_true.1 hy
  rw [decide_eq_true_eq] at hay
  have hm : a ∈ l.drop (rankBy f l y) := by rw [e]; exact List.mem_filter.2 ⟨ha, by simp; omega⟩
  have hlt : rankBy f l y < l.length := by
    rcases Nat.lt_or_ge (rankBy f l y) l.length with h | h
    · exact h
    · rw [List.drop_of_length_le h] at hm; cases hm
  have hd := drop_gen hlt
  have hs : Ris f (l.drop (rankBy f l y)) := h.sublist (List.drop_sublist ..)
  rw [hd] at hs hm
  obtain ⟨h1, h2⟩ := List.pairwise_cons.1 hs
  have hz : y ≤ f (l.getD (rankBy f l y) default) := by
    have : l.getD (rankBy f l y) default ∈ l.drop (rankBy f l y) := by rw [hd]; exact List.mem_cons_self ..
    rw [e] at this; simpa using (List.mem_filter.1 this).2
  have hzy : f (l.getD (rankBy f l y) default) = y := by
    rcases List.mem_cons.1 hm with hm | hm
    · rw [← hm, hay]
    · have := h1 a hm; omega
  exact ⟨_, hzy, hd, fun x hx => by have := h1 x hx; omega⟩
theorem rank_has (h : Ris f l) (y : Int) : (decide (rankBy f l y < l.length) && decide (f (l.getD (rankBy f l y) default) = y)) = hasBy f l y := by
  cases hy : hasBy f l y with
  | true =>
    obtain ⟨z, hz, hd, _⟩ := rank_split h hy
    have hlt : rankBy f l y < l.length := by
      rcases Nat.lt_or_ge (rankBy f l y) l.length with h | h
      · exact h
      · rw [List.drop_of_length_le h] at hd; cases hd
    rw [drop_gen hlt] at hd
    rw [(List.cons.inj hd).1, hz]; simp [hlt]
  | false =>
    rw [Bool.and_eq_false_iff]
    rcases Nat.lt_or_ge (rankBy f l y) l.length with hl | hl
    · right
      have := List.any_eq_false.1 hy _ (getD_mem hl)
      simpa using this
    · left; simpa using hl
theorem rank_del (h : Ris f l) (hy : hasBy f l y = true) : l.take (rankBy f l y) ++ l.drop (rankBy f l y + 1) = delBy f l y := by
  obtain ⟨z, hz, hd, hb⟩ := rank_split h hy
  have e : l = l.take (rankBy f l y) ++ z :: l.drop (rankBy f l y + 1) := by rw [← hd, List.take_append_drop]
  unfold delBy
  conv => rhs; rw [e]
  rw [List.filter_append, List.filter_cons_of_neg (by simp [hz]), List.filter_eq_self.2, List.filter_eq_self.2]
  · intro x hx; have := hb x hx; simp; omega
  · intro x hx; rw [(rank_take h y).1] at hx; have := (List.mem_filter.1 hx).2; simp at this ⊢; omega
theorem rank_ins (h : Ris f l) (x : α) : l.take (rankBy f l (f x)) ++ [x] ++ l.drop (rankBy f l (f x)) = insBy f l x := by
  rw [(rank_take h _).1, (rank_take h _).2]; simp [insBy]
theorem Ris.del (h : Ris f l) (y : Int) : Ris f (delBy f l y) := h.filter _
theorem Ris.ins (h : Ris f l) {x : α} (hx : hasBy f l (f x) = false) : Ris f (insBy f l x) := by
  refine List.pairwise_append.2 ⟨h.filter _, List.pairwise_cons.2 ⟨fun a ha => ?_, h.filter _⟩, fun a ha b hb => ?_⟩
  · have h1 := List.mem_filter.1 ha
    have := List.any_eq_false.1 hx a h1.1
    simp at h1 this; omega
  · have h1 := (List.mem_filter.1 ha).2
    rcases List.mem_cons.1 hb with rfl | hb
    · simpa using h1
    · have h2 := (List.mem_filter.1 hb).2
      simp at h1 h2; omega
theorem del_len (f : α → Int) (l : List α) (y : Int) : (delBy f l y).length ≤ l.length := List.length_filter_le ..
theorem ins_len (f : α → Int) (l : List α) (x : α) : (insBy f l x).length = l.length + 1 := by
  have : (l.filter fun a => decide (f a < f x)).length + (l.filter fun a => decide (f x ≤ f a)).length = l.length := by
    induction l with
    | nil => rfl
    | cons a l ih => simp only [List.filter_cons]; split <;> split <;> simp at * <;> omega
  simp only [insBy, List.length_append, List.length_cons]; omega
end
section
set_option maxRecDepth 20000
set_option synthInstance.maxSize 100000
set_option synthInstance.maxHeartbeats 4000000
variable {K : Value → St → Prop} {w0 w : World} {H R : List SL} {ds : List Deferred} {p : Nat} {l : List Int} {a b y : Int}
instance : OneTy 3 Int intV := ⟨fun _ => rfl⟩
abbrev nid : Int → Int := fun x => x
instance isNaN_ok [o : Hv w0 H w] : Step (Cl P 328 #[.int .i64 a] K ⟨w, ds⟩) (∀ w', Hv w0 H w' → K (.bool false) ⟨w', ds⟩) := ⟨fun h => by
  refine s328 ?_
  unfold D328
  repeat' (first | refine go ?_ | intro _ | refine ⟨sb, ?_⟩ | refine ⟨sd, ?_⟩ | (refine ⟨fun h1 => ?_, fun h1 => ?_⟩ <;> first | exact ab h1 | ((try rw [h1]); (try simp only [bl] at h1))) | dsimp only)
  simpa using h _ o⟩
instance isNaNs_ok [o : Hv w0 H w] : Step (Cl P 304 #[.int .i64 a] K ⟨w, ds⟩) (∀ w', Hv w0 H w' → K (.bool false) ⟨w', ds⟩) := ⟨fun h => by
  refine s304 ?_
  unfold D304
  repeat' (first | refine go ?_ | intro _ | refine ⟨sb, ?_⟩ | refine ⟨sd, ?_⟩ | (refine ⟨fun h1 => ?_, fun h1 => ?_⟩ <;> first | exact ab h1 | ((try rw [h1]); (try simp only [bl] at h1))) | dsimp only)
  simpa using h _ o⟩
def cmpI (a b : Int) : Int := if a < b then -1 else if b < a then 1 else 0
theorem cmpI_lt {a b : Int} : cmpI a b < 0 ↔ a < b := by unfold cmpI; grind
theorem cmpI_eq {a b : Int} : cmpI a b = 0 ↔ a = b := by unfold cmpI; grind
instance cmpI_ok [o : Hv w0 H w] : Step (Cl P 271 #[.int .i64 a, .int .i64 b] K ⟨w, ds⟩) (∀ w', Hv w0 H w' → K (.int .i64 (cmpI a b)) ⟨w', ds⟩) := ⟨fun h => by
  refine s271 ?_
  unfold D271
  repeat' (first | refine go ?_ | intro _ | refine ⟨sb, ?_⟩ | refine ⟨sd, ?_⟩ | (refine ⟨fun h1 => ?_, fun h1 => ?_⟩ <;> first | exact ab h1 | ((try rw [h1]); (try simp only [bl] at h1))) | dsimp only)
  all_goals exact cast (congrArg (fun z => K (.int .i64 z) _) (by unfold cmpI; grind)) (h _ (Sub.hv subEnd))⟩
instance lessI_ok [o : Hv w0 H w] : Step (Cl P 303 #[.int .i64 a, .int .i64 b] K ⟨w, ds⟩) (∀ w', Hv w0 H w' → K (.bool (decide (a < b))) ⟨w', ds⟩) := ⟨fun h => by
  refine s303 ?_
  unfold D303
  repeat' (first | refine go ?_ | intro _ | refine ⟨sb, ?_⟩ | refine ⟨sd, ?_⟩ | (refine ⟨fun h1 => ?_, fun h1 => ?_⟩ <;> first | exact ab h1 | ((try rw [h1]); (try simp only [bl] at h1))) | dsimp only)
  rw [Bool.false_or]
  exact h _ (Sub.hv subEnd)⟩
instance bsI_ok {v : Value} {n : Nat} {xs : List Value} [o : Hv w0 H w] [r : RdsF w0 H v 1 n xs] [e : Maps intV xs l] :
    Step (Cl P 250 #[v, .int .i64 y] K ⟨w, ds⟩) ((n ≤ 1000000000 ∧ Ris nid l) ∧ ∀ w', Hv w0 H w' → K (.tuple #[.int .i64 (rankBy nid l y : Nat), .bool (hasBy nid l y)]) ⟨w', ds⟩) := ⟨fun ⟨⟨hn, hs⟩, h⟩ => by
  obtain rfl := e.eq
  obtain rfl : n = l.length := by have := (r.rd w o).len; simpa using this.symm
  obtain ⟨tI, tU, u1, u2, hf⟩ := BinF.run (P := P) (g := 250)
  refine hf _ _ _ _ _ (binW_ok (tS := 64) (e := 3) (el := fun i => intV (l.getD i default)) (lt := fun i => decide (l.getD i default < y)) (eq := fun i => decide (l.getD i default = y)) inferInstance u1 u2 o r ?_ ?_ ?_ ?_ ?_ hn ?_)
  · intro i a w' hi r' ix; infer_instance
  · intro i w' K' hi o' h'
    repeat' (first | refine go ?_ | intro _ | refine ⟨sb, ?_⟩ | refine ⟨sd, ?_⟩ | (refine ⟨fun h1 => ?_, fun h1 => ?_⟩ <;> first | exact ab h1 | ((try rw [h1]); (try simp only [bl] at h1))) | dsimp only)
    exact h' _ (Sub.hv subEnd)
  · intro i w' hi; infer_instance
  · intro i w' K' hi o' h'
    repeat' (first | refine go ?_ | intro _ | refine ⟨sb, ?_⟩ | refine ⟨sd, ?_⟩ | (refine ⟨fun h1 => ?_, fun h1 => ?_⟩ <;> first | exact ab h1 | ((try rw [h1]); (try simp only [bl] at h1))) | dsimp only)
    exact h' _ (Sub.hv subEnd)
  · intro i j hij hj hc
    rw [decide_eq_true_eq] at hc ⊢
    rcases Nat.lt_or_ge i j with h1 | h1
    · have := List.pairwise_iff_getElem.1 hs i j (by omega) hj h1
      simp only [List.getD_eq_getElem?_getD, hj, show i < l.length by omega, List.getElem?_eq_getElem, Option.getD_some] at hc ⊢
      exact Int.lt_trans this hc
    · obtain rfl : i = j := by omega
      exact hc
  · intro i w' hi h1 h2 o'
    obtain rfl := rank_eq (f := nid) hi (fun k hk => by simpa using h1 k hk) (fun k h3 h4 => by simpa using h2 k h3 h4)
    have e1 := rank_has hs y
    rw [e1]
    exact h w' o'⟩
/-! a set, in memory -/
def setA (p : Nat) (l : List Int) (v : Value) : SL := many [lift (Ris nid l), box p 308 [v], row 3 1 v l.length (l.map intV)]
def setR (p : Nat) (l : List Int) : SL := any (setA p l)
theorem set_open (h : Hv w0 (setR p l :: R) w) : ∃ v, Ris nid l ∧ Hv w0 (box p 308 [v] :: row 3 1 v l.length (l.map intV) :: R) w := by
  obtain ⟨v, h1⟩ := h.pick
  have h2 := h1.opens
  exact ⟨v, h2.lifted, h2.tail⟩
theorem subSet {H' R1 R2 G : List SL} {v : Value} {n : Nat} {xs : List Value} [b : BoxIn H' p 308 [v] R1] [r : RowIn R1 v 3 1 n xs R2]
    (h1 : Ris nid l) (e1 : n = l.length) (e2 : xs = l.map intV) (k : Sub R2 G) : Sub H' (setR p l :: G) :=
  Sub.any (A := setA p l) v (Sub.many (Sub.lift h1 (subBox rfl (subRow e1 e2 k))))
def addI (l : List Int) (x : Int) : List Int := if hasBy nid l x then l else insBy nid l x
theorem addI_ris (h : Ris nid l) (x : Int) : Ris nid (addI l x) := by
  unfold addI; split
  · exact h
  · rename_i hx; exact h.ins (by simpa using hx)
theorem addI_len (l : List Int) (x : Int) : (addI l x).length ≤ l.length + 1 := by
  unfold addI; split
  · omega
  · exact Nat.le_of_eq (ins_len ..)
theorem addsI_len (xs : List Int) (l : List Int) : (xs.foldl addI l).length ≤ l.length + xs.length := by
  induction xs generalizing l with
  | nil => exact Nat.le_refl _
  | cons x xs ih => have := ih (addI l x); have := addI_len l x; simp only [List.foldl_cons, List.length_cons]; omega
instance sadd_ok {v : Value} {n : Nat} {xs : List Value} {l2 : List Int} [o : Hv w0 H w] [i : InK setR p H l R] [r : RdsF w0 R v 1 n xs] [e : Maps intV xs l2] : Step (Cl P 173 #[.pointer (some ⟨p, 0, none⟩), v] K ⟨w, ds⟩) (l.length + n ≤ 100000000 ∧ ∀ z w', Hv w0 (setR p (l2.foldl addI l) :: R) w' → K (.int .i64 z) ⟨w', ds⟩) := ⟨fun ⟨hl, h⟩ => by
  have o1 := i.hv o
  clear o
  obtain rfl := e.eq
  have rl := r.loc
  obtain rfl : n = l2.length := by have := (r.rd w o1.tail).len; simpa using this.symm
  refine s173 ?_
  unfold D173
  repeat (first | refine go ?_ | intro _ | refine ⟨sb, ?_⟩ | refine ⟨sd, ?_⟩ | dsimp only)
  refine ⟨fun x y s => ∃ (k i : Nat) (w' : World), x = .int .i64 k ∧ y = .int .i64 i ∧ s = ⟨w', []⟩ ∧ k ≤ i ∧ i ≤ l2.length ∧ Hv w0 (setR p ((l2.take i).foldl addI l) :: R) w',
    fun _ y s => match y with | .int _ z => l2.length - z.toNat | _ => 0, ⟨0, 0, w, rfl, rfl, rfl, Nat.le_refl _, Nat.zero_le _, o1⟩, ?_⟩
  rintro x y s ⟨k, i, w1, rfl, rfl, rfl, hk, hi, o2⟩
  clear o1
  rcases Nat.lt_or_ge i l2.length with hlt | hge
  · have hs : (l2.take (i + 1)).foldl addI l = addI ((l2.take i).foldl addI l) (l2.getD i default) := by rw [take_snoc hlt, List.foldl_append]; rfl
    have hl2 := addsI_len (l2.take i) l
    rw [List.length_take] at hl2
    obtain ⟨v2, hr, o3⟩ := set_open o2
    clear o2
    generalize hq : (l2.take i).foldl addI l = q at *
    have rle := rank_le nid q (l2.getD i default)
    have hin := rank_ins hr (l2.getD i default)
    have hri := addI_ris hr (l2.getD i default)
    have hle : l.length + i ≤ 100000000 := by omega
    repeat' (first | refine go ?_ | intro _ | refine ⟨sb, ?_⟩ | refine ⟨sd, ?_⟩ | (refine ⟨fun h1 => ?_, fun h1 => ?_⟩ <;> first | exact ab h1 | ((try rw [h1]); (try simp only [bl] at h1))) | dsimp only)
    · have hA : q.take (rankBy nid q (l2.getD i default)) ++ [l2.getD i default] ++ q.drop (rankBy nid q (l2.getD i default)) = addI q (l2.getD i default) := by unfold addI; rw [h1]; exact hin
      refine ⟨⟨k + 1, i + 1, _, rfl, rfl, rfl, by omega, hlt, ?_⟩, by simp; omega⟩
      rw [hs]
      refine Sub.hv (subSet hri ?_ ?_ subEnd)
      · rw [← hA]; simp; omega
      · rw [← hA]
    · have hA : addI q (l2.getD i default) = q := by unfold addI; rw [h1]; rfl
      refine ⟨⟨k, i + 1, _, rfl, rfl, rfl, by omega, hlt, ?_⟩, by simp; omega⟩
      rw [hs, hA]
      exact Sub.hv (subSet hr rfl rfl subEnd)
    · exfalso; omega
  · rw [List.take_of_length_le hge] at o2
    repeat' (first | refine go ?_ | intro _ | refine ⟨sb, ?_⟩ | refine ⟨sd, ?_⟩ | (refine ⟨fun h1 => ?_, fun h1 => ?_⟩ <;> first | exact ab h1 | ((try rw [h1]); (try simp only [bl] at h1))) | dsimp only)
    · exfalso; omega
    · exact h _ _ o2⟩
theorem delI_len (xs : List Int) (l : List Int) : (xs.foldl (delBy nid) l).length ≤ l.length := by
  induction xs generalizing l with
  | nil => exact Nat.le_refl _
  | cons x xs ih => have := ih (delBy nid l x); have := del_len nid l x; simp only [List.foldl_cons]; omega
instance sdel_ok {v : Value} {n : Nat} {xs : List Value} {l2 : List Int} [o : Hv w0 H w] [i : InK setR p H l R] [r : RdsF w0 R v 1 n xs] [e : Maps intV xs l2] : Step (Cl P 295 #[.pointer (some ⟨p, 0, none⟩), v] K ⟨w, ds⟩) (l.length + n ≤ 100000000 ∧ ∀ z w', Hv w0 (setR p (l2.foldl (delBy nid) l) :: R) w' → K (.int .i64 z) ⟨w', ds⟩) := ⟨fun ⟨hl, h⟩ => by
  have o1 := i.hv o
  clear o
  obtain rfl := e.eq
  have rl := r.loc
  obtain rfl : n = l2.length := by have := (r.rd w o1.tail).len; simpa using this.symm
  refine s295 ?_
  unfold D295
  repeat (first | refine go ?_ | intro _ | refine ⟨sb, ?_⟩ | refine ⟨sd, ?_⟩ | dsimp only)
  refine ⟨fun x y s => ∃ (k i : Nat) (w' : World), x = .int .i64 k ∧ y = .int .i64 i ∧ s = ⟨w', []⟩ ∧ k ≤ i ∧ i ≤ l2.length ∧ Hv w0 (setR p ((l2.take i).foldl (delBy nid) l) :: R) w',
    fun _ y s => match y with | .int _ z => l2.length - z.toNat | _ => 0, ⟨0, 0, w, rfl, rfl, rfl, Nat.le_refl _, Nat.zero_le _, o1⟩, ?_⟩
  rintro x y s ⟨k, i, w1, rfl, rfl, rfl, hk, hi, o2⟩
  clear o1
  rcases Nat.lt_or_ge i l2.length with hlt | hge
  · have hs : (l2.take (i + 1)).foldl (delBy nid) l = delBy nid ((l2.take i).foldl (delBy nid) l) (l2.getD i default) := by rw [take_snoc hlt, List.foldl_append]; rfl
    have hl2 := delI_len (l2.take i) l
    obtain ⟨v2, hr, o3⟩ := set_open o2
    clear o2
    generalize hq : (l2.take i).foldl (delBy nid) l = q at *
    have rle := rank_le nid q (l2.getD i default)
    have hdl := @rank_del _ _ nid q (l2.getD i default) hr
    have hsp := @rank_split _ _ nid q (l2.getD i default) hr
    have hle : l.length + i ≤ 100000000 := by omega
    have hlt2 : hasBy nid q (l2.getD i default) = true → rankBy nid q (l2.getD i default) < q.length := fun hy => by
      obtain ⟨_, _, hd, _⟩ := hsp hy
      rcases Nat.lt_or_ge (rankBy nid q (l2.getD i default)) q.length with h | h
      · exact h
      · rw [List.drop_of_length_le h] at hd; cases hd
    cases hy : hasBy nid q (l2.getD i default) with
    | true =>
      have hlt3 := hlt2 hy
      have hA := hdl hy
      repeat' (first | refine go ?_ | intro _ | refine ⟨sb, ?_⟩ | refine ⟨sd, ?_⟩ | (refine ⟨fun h1 => ?_, fun h1 => ?_⟩ <;> first | exact ab h1 | ((try rw [h1]); (try simp only [bl] at h1))) | dsimp only)
      · refine ⟨⟨k + 1, i + 1, _, rfl, rfl, rfl, by omega, hlt, ?_⟩, by simp; omega⟩
        rw [hs]
        refine Sub.hv (subSet (hr.del _) ?_ ?_ subEnd)
        · rw [← hA, List.length_append, List.length_take, List.length_drop]; omega
        · rw [← hA]
      · exfalso; rw [hy] at h1; cases h1
      · exfalso; omega
    | false =>
      have hA : delBy nid q (l2.getD i default) = q := by
        refine List.filter_eq_self.2 fun x hx => ?_
        have := List.any_eq_false.1 hy x hx
        simpa using this
      repeat' (first | refine go ?_ | intro _ | refine ⟨sb, ?_⟩ | refine ⟨sd, ?_⟩ | (refine ⟨fun h1 => ?_, fun h1 => ?_⟩ <;> first | exact ab h1 | ((try rw [h1]); (try simp only [bl] at h1))) | dsimp only)
      · exfalso; rw [hy] at h1; cases h1
      · refine ⟨⟨k, i + 1, _, rfl, rfl, rfl, by omega, hlt, ?_⟩, by simp; omega⟩
        rw [hs, hA]
        exact Sub.hv (subSet hr rfl rfl subEnd)
      · exfalso; omega
  · rw [List.take_of_length_le hge] at o2
    repeat' (first | refine go ?_ | intro _ | refine ⟨sb, ?_⟩ | refine ⟨sd, ?_⟩ | (refine ⟨fun h1 => ?_, fun h1 => ?_⟩ <;> first | exact ab h1 | ((try rw [h1]); (try simp only [bl] at h1))) | dsimp only)
    · exfalso; omega
    · exact h _ _ o2⟩
instance sof_ok {v : Value} {n : Nat} {xs : List Value} {l2 : List Int} [o : Hv w0 H w] [r : RdsF w0 H v 1 n xs] [e : Maps intV xs l2] : Step (Cl P 171 #[v] K ⟨w, ds⟩) (n ≤ 100000000 ∧ ∀ p w', Hv w0 (setR p (l2.foldl addI []) :: H) w' → K (.pointer (some ⟨p, 0, none⟩)) ⟨w', ds⟩) := ⟨fun ⟨hl, h⟩ => by
  have rl := r.loc
  obtain rfl := e.eq
  obtain rfl : n = l2.length := by have := (r.rd w o).len; simpa using this.symm
  refine s171 ?_
  unfold D171
  repeat' (first | refine go ?_ | intro _ | refine ⟨sb, ?_⟩ | refine ⟨sd, ?_⟩ | (refine ⟨fun h1 => ?_, fun h1 => ?_⟩ <;> first | exact ab h1 | ((try rw [h1]); (try simp only [bl] at h1))) | dsimp only)
  rename_i b w1 o1
  have o2 := Hv.nilRow 3 1 o1
  have o3 : Hv w0 (setR b [] :: H) w1 := Sub.hv (o := o2) (subSet (l := []) List.Pairwise.nil rfl rfl subEnd)
  clear o1 o2 o
  repeat' (first | refine go ?_ | intro _ | refine ⟨sb, ?_⟩ | refine ⟨sd, ?_⟩ | (refine ⟨fun h1 => ?_, fun h1 => ?_⟩ <;> first | exact ab h1 | ((try rw [h1]); (try simp only [bl] at h1))) | dsimp only)
  exact h _ _ (Sub.hv (subK rfl subEnd))⟩
/-! rollcallref10 -/
variable {v : Value} {n : Nat} {xs : List Value}
instance hasR_ok {w : World} {l : List Int} [r : Rds w v 1 n xs] [e : Maps intV xs l] : VT (Cl P 243 #[v, .int .i64 y]) w (.bool (hasBy nid l y)) := ⟨fun {K ds} h => by
  obtain rfl := e.eq
  obtain rfl : n = l.length := by have := r.len; simpa using this.symm
  have hb := r.le
  simp only [maxLen] at hb
  refine s243 ?_
  unfold D243
  refine ⟨fun x s => ∃ (i : Nat), x = .int .i64 i ∧ s = ⟨w, []⟩ ∧ i ≤ l.length ∧ hasBy nid (l.take i) y = false,
    fun x s => match x with | .int _ z => l.length - z.toNat | _ => 0, ⟨0, rfl, rfl, Nat.zero_le _, rfl⟩, ?_⟩
  rintro x s ⟨i, rfl, rfl, hi, hn⟩
  rcases Nat.lt_or_ge i l.length with hlt | hge
  · have ha : hasBy nid (l.take (i + 1)) y = (hasBy nid (l.take i) y || decide (l.getD i default = y)) := by unfold hasBy; rw [take_snoc hlt, List.any_append]; simp
    repeat' (first | refine go ?_ | intro _ | refine ⟨sb, ?_⟩ | refine ⟨sd, ?_⟩ | (refine ⟨fun h1 => ?_, fun h1 => ?_⟩ <;> first | exact ab h1 | ((try rw [h1]); (try simp only [bl] at h1))) | dsimp only)
    · have : hasBy nid l y = true := List.any_eq_true.2 ⟨_, getD_mem hlt, by simpa using h1⟩
      rw [this] at h; exact h
    · exact ⟨⟨i + 1, rfl, rfl, hlt, by rw [ha, hn, decide_eq_false h1]; rfl⟩, by simp; omega⟩
    · exfalso; omega
  · rw [List.take_of_length_le hge] at hn
    rw [hn] at h
    repeat' (first | refine go ?_ | intro _ | refine ⟨sb, ?_⟩ | refine ⟨sd, ?_⟩ | (refine ⟨fun h1 => ?_, fun h1 => ?_⟩ <;> first | exact ab h1 | ((try rw [h1]); (try simp only [bl] at h1))) | dsimp only)
    · exfalso; omega
    · exact h⟩
def outA (l : List Int) (r : Nat) (y : Int) (i : Nat) : List Int := if r < i then l.take r ++ y :: (l.take i).drop r else l.take i
theorem outA_len (l : List Int) (r : Nat) (y : Int) (i : Nat) : (outA l r y i).length ≤ i + 1 := by unfold outA; split <;> simp <;> omega
theorem outA_step {l : List Int} {r : Nat} {y : Int} {i : Nat} (hi : i < l.length) : outA l r y (i + 1) = (if i = r then outA l r y i ++ [y] else outA l r y i) ++ [l.getD i default] := by
  unfold outA
  by_cases h : i = r
  · subst h
    rw [if_pos (by omega), if_pos rfl, if_neg (by omega), take_snoc hi, List.drop_append, List.drop_of_length_le (by rw [List.length_take]; omega), List.length_take, Nat.min_eq_left (by omega), Nat.sub_self]; simp
  · rw [if_neg h]
    by_cases h2 : r < i
    · rw [if_pos (by omega), if_pos h2, take_snoc hi, List.drop_append_of_le_length (by simp; omega)]; simp
    · rw [if_neg (by omega), if_neg h2, take_snoc hi]
theorem rank_lt {l : List Int} {y : Int} (h : Ris nid l) {i : Nat} (hi : i < l.length) : l.getD i default < y ↔ i < rankBy nid l y := by
  obtain ⟨e1, e2⟩ := rank_take h y
  constructor
  · intro hc
    rcases Nat.lt_or_ge i (rankBy nid l y) with h1 | h1
    · exact h1
    · exfalso
      have : l.getD i default ∈ l.drop (rankBy nid l y) := by rw [List.mem_drop_iff_getElem]; exact ⟨i - rankBy nid l y, by have := rank_le nid l y; omega, by simp [hi, show rankBy nid l y + (i - rankBy nid l y) = i by omega]⟩
      rw [e2] at this
      have : y ≤ l.getD i default := of_decide_eq_true (List.mem_filter.1 this).2
      omega
  · intro h1
    have : l.getD i default ∈ l.take (rankBy nid l y) := by rw [List.mem_take_iff_getElem]; exact ⟨i, by omega, by simp [hi]⟩
    rw [e1] at this
    have := (List.mem_filter.1 this).2
    rw [decide_eq_true_eq] at this; exact this
instance addR_ok {l : List Int} [o : Hv w0 H w] [r : RowIn H v 3 1 n xs R] [e : Maps intV xs l] : Step (Cl P 166 #[v, .int .i64 y] K ⟨w, ds⟩)
    ((l.length ≤ 1000000 ∧ Ris nid l) ∧ ∀ v' w', Hv w0 (row 3 1 v' (addI l y).length ((addI l y).map intV) :: R) w' → K v' ⟨w', ds⟩) := ⟨fun ⟨⟨hl, hs⟩, h⟩ => by
  have o1 : Hv w0 (row 3 1 v n xs :: R) w := o.perm r.perm
  clear o
  obtain rfl := e.eq
  obtain rfl : n = l.length := by have := (show Rds w v 1 n (l.map intV) from inferInstance).len; simpa using this.symm
  have hin := rank_ins hs y
  have hle := rank_le nid l y
  have hrk := @rank_lt l y hs
  have hlen := outA_len l (rankBy nid l y) y
  generalize hr : rankBy nid l y = r at *
  have hfin : hasBy nid l y = false → (if l.length = r then outA l r y l.length ++ [y] else outA l r y l.length) = addI l y := fun hy => by
    have e1 : addI l y = insBy nid l y := by unfold addI; rw [hy]; rfl
    rw [e1, ← hin]
    unfold outA
    by_cases hq : l.length = r
    · rw [if_pos hq, if_neg (by omega), ← hq]; simp
    · rw [if_neg hq, if_pos (by omega)]; simp
  refine s166 ?_
  unfold D166
  repeat (first | refine go ?_ | intro _ | refine ⟨sb, ?_⟩ | refine ⟨sd, ?_⟩ | dsimp only)
  refine And.intro (fun hq => ?_) (fun hq => ?_)
  · have hA : addI l y = l := by unfold addI; rw [hq]; rfl
    rw [hA] at h
    repeat' (first | refine go ?_ | intro _ | refine ⟨sb, ?_⟩ | refine ⟨sd, ?_⟩ | (refine ⟨fun h1 => ?_, fun h1 => ?_⟩ <;> first | exact ab h1 | ((try rw [h1]); (try simp only [bl] at h1))) | dsimp only)
    exact h _ _ o1
  · have hfi := hfin hq
    have o2 := Hv.nilRow 3 1 o1
    clear o1
    refine ⟨fun x y' z s => ∃ (i : Nat) (w' : World), y' = .bool (decide (r < i)) ∧ z = .int .i64 i ∧ s = ⟨w', []⟩ ∧ i ≤ l.length ∧ Hv w0 (row 3 1 x (outA l r y i).length ((outA l r y i).map intV) :: row 3 1 v l.length (l.map intV) :: R) w',
      fun _ _ z s => match z with | .int _ z => l.length - z.toNat | _ => 0, ⟨0, w, by simp, rfl, rfl, Nat.zero_le _, o2⟩, ?_⟩
    rintro x y' z s ⟨i, w1, rfl, rfl, rfl, hi, o3⟩
    clear o2
    have hl2 := hlen i
    have hst := @outA_step l r y i
    rcases Nat.lt_or_ge i l.length with hlt | hge
    · have hst := hst hlt
      have hri := hrk hlt
      have hne : l.getD i default ≠ y := by
        have := List.any_eq_false.1 hq _ (getD_mem hlt)
        simpa using this
      repeat' (first | refine go ?_ | intro _ | refine ⟨sb, ?_⟩ | refine ⟨sd, ?_⟩ | (refine ⟨fun h1 => ?_, fun h1 => ?_⟩ <;> first | exact ab h1 | ((try rw [h1]); (try simp only [bl] at h1))) | dsimp only)
      · have hir : i = r := by omega
        rw [if_pos hir] at hst
        refine ⟨⟨i + 1, _, by rw [decide_eq_true (by omega)], rfl, rfl, hlt, ?_⟩, by simp; omega⟩
        rw [hst]
        exact Sub.hv (subRow (by simp) (by simp) (subRow rfl rfl subEnd))
      · have hir : ¬ i = r := by omega
        rw [if_neg hir] at hst
        refine ⟨⟨i + 1, _, by rw [decide_eq_false (by omega), decide_eq_false (by omega)], rfl, rfl, hlt, ?_⟩, by simp; omega⟩
        rw [hst]
        exact Sub.hv (subRow (by simp) (by simp) (subRow rfl rfl subEnd))
      · have hir : ¬ i = r := by omega
        rw [if_neg hir] at hst
        refine ⟨⟨i + 1, _, by rw [decide_eq_true (by omega), decide_eq_true (by omega)], rfl, rfl, hlt, ?_⟩, by simp; omega⟩
        rw [hst]
        exact Sub.hv (subRow (by simp) (by simp) (subRow rfl rfl subEnd))
      · exfalso; omega
    · obtain rfl : i = l.length := by omega
      repeat' (first | refine go ?_ | intro _ | refine ⟨sb, ?_⟩ | refine ⟨sd, ?_⟩ | (refine ⟨fun h1 => ?_, fun h1 => ?_⟩ <;> first | exact ab h1 | ((try rw [h1]); (try simp only [bl] at h1))) | dsimp only)
      · exfalso; omega
      · rw [if_pos (by omega)] at hfi
        refine h _ _ ?_
        rw [← hfi]
        exact Sub.hv (subRow (by simp) (by simp) subEnd)
      · rw [if_neg (by omega)] at hfi
        refine h _ _ ?_
        rw [← hfi]
        exact Sub.hv (subRow rfl rfl subEnd)⟩
instance remR_ok {l : List Int} [o : Hv w0 H w] [r : RdsF w0 H v 1 n xs] [e : Maps intV xs l] : Step (Cl P 296 #[v, .int .i64 y] K ⟨w, ds⟩)
    (l.length ≤ 1000000 ∧ ∀ v' w', Hv w0 (row 3 1 v' (delBy nid l y).length ((delBy nid l y).map intV) :: H) w' → K v' ⟨w', ds⟩) := ⟨fun ⟨hl, h⟩ => by
  obtain rfl := e.eq
  have rl := r.loc
  obtain rfl : n = l.length := by have := (r.rd w o).len; simpa using this.symm
  refine s296 ?_
  unfold D296
  have o2 := Hv.nilRow 3 1 o
  clear o
  refine ⟨fun x z s => ∃ (i : Nat) (w' : World), z = .int .i64 i ∧ s = ⟨w', []⟩ ∧ i ≤ l.length ∧ Hv w0 (row 3 1 x (delBy nid (l.take i) y).length ((delBy nid (l.take i) y).map intV) :: H) w',
    fun _ z s => match z with | .int _ z => l.length - z.toNat | _ => 0, ⟨0, w, rfl, rfl, Nat.zero_le _, o2⟩, ?_⟩
  rintro x z s ⟨i, w1, rfl, rfl, hi, o3⟩
  clear o2
  have hl2 := del_len nid (l.take i) y
  rw [List.length_take] at hl2
  rcases Nat.lt_or_ge i l.length with hlt | hge
  · have hst : delBy nid (l.take (i + 1)) y = delBy nid (l.take i) y ++ (if l.getD i default = y then [] else [l.getD i default]) := by
      unfold delBy; rw [take_snoc hlt, List.filter_append]; congr 1
      by_cases hq : l.getD i default = y
      · rw [if_pos hq, List.filter_cons_of_neg (by rw [decide_eq_true hq]; simp)]; rfl
      · rw [if_neg hq, List.filter_cons_of_pos (by rw [decide_eq_false hq]; rfl)]; rfl
    repeat' (first | refine go ?_ | intro _ | refine ⟨sb, ?_⟩ | refine ⟨sd, ?_⟩ | (refine ⟨fun h1 => ?_, fun h1 => ?_⟩ <;> first | exact ab h1 | ((try rw [h1]); (try simp only [bl] at h1))) | dsimp only)
    · rw [if_neg h1] at hst
      refine ⟨⟨i + 1, _, rfl, rfl, hlt, ?_⟩, by simp; omega⟩
      rw [hst]
      exact Sub.hv (subRow (by simp) (by simp) subEnd)
    · rw [if_pos h1, List.append_nil] at hst
      refine ⟨⟨i + 1, _, rfl, rfl, hlt, ?_⟩, by simp; omega⟩
      rw [hst]
      exact Sub.hv (subRow rfl rfl subEnd)
    · exfalso; omega
  · rw [List.take_of_length_le hge] at o3
    repeat' (first | refine go ?_ | intro _ | refine ⟨sb, ?_⟩ | refine ⟨sd, ?_⟩ | (refine ⟨fun h1 => ?_, fun h1 => ?_⟩ <;> first | exact ab h1 | ((try rw [h1]); (try simp only [bl] at h1))) | dsimp only)
    · exfalso; omega
    · exact h _ _ o3⟩
end
end Go.Proofs.YtgcomleicnblhaaGreatDoor

