import Derived.Test.YtgcomleicnblhaaGreatDoorRmA
import Derived.Test.YtgcomleicnblhaaGreatDoorEn2
set_option linter.all false
namespace Go.Proofs.YtgcomleicnblhaaGreatDoor
open Go.Vx Go.Lib
/-! rows that rise by a text -/
abbrev ltS : List UInt8 → List UInt8 → Bool := Op.bytesLess
theorem ltS_nil (a : List UInt8) : ltS a [] = false := by cases a <;> rfl
theorem ltS_cons (x y : UInt8) (a b : List UInt8) : ltS (x :: a) (y :: b) = (decide (x < y) || (x == y && ltS a b)) := rfl
theorem ltS_irr (a : List UInt8) : ltS a a = false := by
  induction a with
  | nil => rfl
  | cons x a ih => rw [ltS_cons, ih]; simp
theorem ltS_tri (a : List UInt8) : ∀ b, ltS a b = true ∨ a = b ∨ ltS b a = true := by
  induction a with
  | nil => intro b; cases b with
    | nil => exact .inr (.inl rfl)
    | cons y b => exact .inl rfl
  | cons x a ih =>
    intro b
    cases b with
    | nil => exact .inr (.inr rfl)
    | cons y b =>
      rw [ltS_cons, ltS_cons]
      rcases (show x < y ∨ x = y ∨ y < x by simp only [UInt8.lt_iff_toNat_lt, ← UInt8.toNat_inj]; omega) with h | h | h
      · exact .inl (by simp [h])
      · subst h
        rcases ih b with h | h | h
        · exact .inl (by simp [h])
        · exact .inr (.inl (by rw [h]))
        · exact .inr (.inr (by simp [h]))
      · exact .inr (.inr (by simp [h]))
theorem ltS_tr {a : List UInt8} : ∀ {b c : List UInt8}, ltS a b = true → ltS b c = true → ltS a c = true := by
  induction a with
  | nil => intro b c h1 h2; cases c with
    | nil => rw [ltS_nil] at h2; cases h2
    | cons z c => rfl
  | cons x a ih =>
    intro b c h1 h2
    cases b with
    | nil => rw [ltS_nil] at h1; cases h1
    | cons y b =>
      cases c with
      | nil => rw [ltS_nil] at h2; cases h2
      | cons z c =>
        rw [ltS_cons] at h1 h2 ⊢
        simp only [Bool.or_eq_true, Bool.and_eq_true, decide_eq_true_eq, beq_iff_eq] at h1 h2 ⊢
        rcases h1 with h1 | ⟨rfl, h1⟩ <;> rcases h2 with h2 | ⟨rfl, h2⟩
        · exact .inl (UInt8.lt_trans h1 h2)
        · exact .inl h1
        · exact .inl h2
        · exact .inr ⟨rfl, ih h1 h2⟩
theorem ltS_asy {a b : List UInt8} (h : ltS a b = true) : ltS b a = false := by
  cases h2 : ltS b a with
  | false => rfl
  | true => have := ltS_tr h h2; rw [ltS_irr] at this; cases this
theorem ltS_of {a b : List UInt8} (h : ltS a b = false) (hn : a ≠ b) : ltS b a = true := by
  rcases ltS_tri a b with h1 | h1 | h1
  · rw [h] at h1; cases h1
  · exact absurd h1 hn
  · exact h1
/-- not below, and below: below. -/
theorem ltS_le {a b c : List UInt8} (h : ltS b a = false) (h2 : ltS b c = true) : ltS a c = true := by
  by_cases e : a = b
  · rw [e]; exact h2
  · exact ltS_tr (ltS_of h fun q => e q.symm) h2
theorem cmpS_lt {a : List UInt8} : ∀ {b : List UInt8}, cmpS a b < 0 ↔ ltS (foldS a) (foldS b) = true := by
  induction a with
  | nil => intro b; cases b <;> simp [cmpS, foldS, ltS, Op.bytesLess]
  | cons x a ih =>
    intro b
    cases b with
    | nil => simp [cmpS, foldS, ltS, Op.bytesLess]
    | cons y b =>
      rw [foldS, foldS, List.map_cons, List.map_cons, ltS_cons]
      simp only [cmpS]
      by_cases h : fb x < fb y
      · simp [h]
      · rw [if_neg h]
        by_cases h2 : fb y < fb x
        · rw [if_pos h2]
          have : ¬ fb x = fb y := fun e => by rw [e] at h2; exact UInt8.lt_irrefl _ h2
          simp [h, this]
        · rw [if_neg h2, ih]
          have : fb x = fb y := by simp only [UInt8.lt_iff_toNat_lt, ← UInt8.toNat_inj] at *; omega
          simp [this]
section
set_option linter.unusedSectionVars false
variable {α : Type} [Inhabited α] {f : α → List UInt8} {l : List α} {y : List UInt8}
def rankT (f : α → List UInt8) (l : List α) (y : List UInt8) : Nat := (l.filter fun a => ltS (f a) y).length
def hasT (f : α → List UInt8) (l : List α) (y : List UInt8) : Bool := l.any fun a => decide (f a = y)
def insT (f : α → List UInt8) (l : List α) (x : α) : List α := (l.filter fun a => ltS (f a) (f x)) ++ x :: l.filter fun a => !ltS (f a) (f x)
def delT (f : α → List UInt8) (l : List α) (y : List UInt8) : List α := l.filter fun a => !decide (f a = y)
abbrev RisT (f : α → List UInt8) (l : List α) : Prop := l.Pairwise fun a b => ltS (f a) (f b) = true
theorem ordT_cut (h : RisT f l) (y : List UInt8) : l = (l.filter fun a => ltS (f a) y) ++ l.filter fun a => !ltS (f a) y := by
  induction l with
  | nil => rfl
  | cons a l ih =>
    obtain ⟨h1, h2⟩ := List.pairwise_cons.1 h
    cases ha : ltS (f a) y with
    | true => rw [List.filter_cons_of_pos (p := fun a => ltS (f a) y) (by simpa using ha), List.filter_cons_of_neg (p := fun a => !ltS (f a) y) (by simp [ha]), List.cons_append, ← ih h2]
    | false =>
      have hx : ∀ x ∈ l, ltS (f x) y = false := fun x hx => by
        cases hq : ltS (f x) y with
        | false => rfl
        | true => have := ltS_tr (h1 x hx) hq; rw [ha] at this; cases this
      have e1 : (l.filter fun a => ltS (f a) y) = [] := List.filter_eq_nil_iff.2 fun x hx' => by simp [hx x hx']
      have e2 : (l.filter fun a => !ltS (f a) y) = l := List.filter_eq_self.2 fun x hx' => by simp [hx x hx']
      rw [List.filter_cons_of_neg (p := fun a => ltS (f a) y) (by simp [ha]), List.filter_cons_of_pos (p := fun a => !ltS (f a) y) (by simp [ha]), e1, e2]; rfl
theorem rankT_take (h : RisT f l) (y : List UInt8) : l.take (rankT f l y) = (l.filter fun a => ltS (f a) y) ∧ l.drop (rankT f l y) = l.filter fun a => !ltS (f a) y :=
  ⟨(congrArg (List.take (rankT f l y)) (ordT_cut h y)).trans (List.take_left' rfl), (congrArg (List.drop (rankT f l y)) (ordT_cut h y)).trans (List.drop_left' rfl)⟩
theorem rankT_le (f : α → List UInt8) (l : List α) (y : List UInt8) : rankT f l y ≤ l.length := List.length_filter_le ..
theorem rankT_eq {i : Nat} (hi : i ≤ l.length) (h1 : ∀ k, k < i → ltS (f (l.getD k default)) y = true) (h2 : ∀ k, i ≤ k → k < l.length → ltS (f (l.getD k default)) y = false) : i = rankT f l y := by
  unfold rankT
  have e : l.filter (fun a => ltS (f a) y) = l.take i := by
    conv => lhs; rw [← List.take_append_drop i l, List.filter_append]
    rw [List.filter_eq_self.2, List.filter_eq_nil_iff.2, List.append_nil]
    · intro x hx
      obtain ⟨j, hj, rfl⟩ := List.mem_drop_iff_getElem.1 hx
      have := h2 (i + j) (by omega) (by omega)
      simpa [List.getD_eq_getElem?_getD, show i + j < l.length by omega] using this
    · intro x hx
      obtain ⟨j, hj, rfl⟩ := List.mem_take_iff_getElem.1 hx
      have := h1 j (by omega)
      simpa [List.getD_eq_getElem?_getD, show j < l.length by omega] using this
  rw [e, List.length_take]; omega
theorem rankT_split (h : RisT f l) (hy : hasT f l y = true) : ∃ z, f z = y ∧ rankT f l y < l.length ∧ l.drop (rankT f l y) = z :: l.drop (rankT f l y + 1) ∧ ∀ x ∈ l.drop (rankT f l y + 1), ltS y (f x) = true := by
  have e := (rankT_take h y).2
  obtain ⟨a, ha, hay⟩ := List.any_eq_true.1 hy
  rw [decide_eq_true_eq] at hay
  have hm : a ∈ l.drop (rankT f l y) := by rw [e]; exact List.mem_filter.2 ⟨ha, by rw [hay, ltS_irr]; rfl⟩
  have hlt : rankT f l y < l.length := by
    rcases Nat.lt_or_ge (rankT f l y) l.length with h | h
    · exact h
    · rw [List.drop_of_length_le h] at hm; cases hm
  have hd := drop_gen hlt
  have hs : RisT f (l.drop (rankT f l y)) := h.sublist (List.drop_sublist ..)
  rw [hd] at hs hm
  obtain ⟨h1, h2⟩ := List.pairwise_cons.1 hs
  have hz : ltS (f (l.getD (rankT f l y) default)) y = false := by
    have : l.getD (rankT f l y) default ∈ l.drop (rankT f l y) := by rw [hd]; exact List.mem_cons_self ..
    rw [e] at this; simpa using (List.mem_filter.1 this).2
  have hzy : f (l.getD (rankT f l y) default) = y := by
    rcases List.mem_cons.1 hm with hm | hm
    · rw [← hm, hay]
    · have := h1 a hm; rw [hay, hz] at this; cases this
  exact ⟨_, hzy, hlt, hd, fun x hx => by have := h1 x hx; rw [hzy] at this; exact this⟩
theorem rankT_has (h : RisT f l) (y : List UInt8) : (decide (rankT f l y < l.length) && decide (f (l.getD (rankT f l y) default) = y)) = hasT f l y := by
  cases hy : hasT f l y with
  | true =>
    obtain ⟨z, hz, hlt, hd, _⟩ := rankT_split h hy
    rw [drop_gen hlt] at hd
    rw [(List.cons.inj hd).1, hz]; simp [hlt]
  | false =>
    rw [Bool.and_eq_false_iff]
    rcases Nat.lt_or_ge (rankT f l y) l.length with hl | hl
    · right
      have := List.any_eq_false.1 hy _ (getD_mem hl)
      simpa using this
    · left; simpa using hl
theorem rankT_at (h : RisT f l) (hy : hasT f l y = true) : rankT f l y < l.length ∧ f (l.getD (rankT f l y) default) = y := by
  have := rankT_has h y
  rw [hy, Bool.and_eq_true, decide_eq_true_eq, decide_eq_true_eq] at this
  exact this
theorem rankT_del (h : RisT f l) (hy : hasT f l y = true) : l.take (rankT f l y) ++ l.drop (rankT f l y + 1) = delT f l y := by
  obtain ⟨z, hz, hlt, hd, hb⟩ := rankT_split h hy
  have e : l = l.take (rankT f l y) ++ z :: l.drop (rankT f l y + 1) := by rw [← hd, List.take_append_drop]
  unfold delT
  conv => rhs; rw [e]
  rw [List.filter_append, List.filter_cons_of_neg (by simp [hz]), List.filter_eq_self.2, List.filter_eq_self.2]
  · intro x hx
    have := hb x hx
    have : f x ≠ y := fun q => by rw [q, ltS_irr] at this; cases this
    simp [this]
  · intro x hx
    rw [(rankT_take h y).1] at hx
    have := (List.mem_filter.1 hx).2
    have : f x ≠ y := fun q => by rw [q, ltS_irr] at this; cases this
    simp [this]
theorem rankT_ins (h : RisT f l) (x : α) : l.take (rankT f l (f x)) ++ [x] ++ l.drop (rankT f l (f x)) = insT f l x := by
  rw [(rankT_take h _).1, (rankT_take h _).2]; simp [insT]
theorem RisT.del (h : RisT f l) (y : List UInt8) : RisT f (delT f l y) := h.filter _
theorem RisT.ins (h : RisT f l) {x : α} (hx : hasT f l (f x) = false) : RisT f (insT f l x) := by
  refine List.pairwise_append.2 ⟨h.filter _, List.pairwise_cons.2 ⟨fun a ha => ?_, h.filter _⟩, fun a ha b hb => ?_⟩
  · have h1 := List.mem_filter.1 ha
    have := List.any_eq_false.1 hx a h1.1
    exact ltS_of (by simpa using h1.2) (by simpa using this)
  · have h1 := (List.mem_filter.1 ha).2
    rcases List.mem_cons.1 hb with rfl | hb
    · exact h1
    · have h2 := (List.mem_filter.1 hb).2
      cases q : ltS (f b) (f a) with
      | true => rw [ltS_tr q h1] at h2; cases h2
      | false =>
        by_cases e : f b = f a
        · rw [e, h1] at h2; cases h2
        · exact ltS_of q e
theorem delT_len (f : α → List UInt8) (l : List α) (y : List UInt8) : (delT f l y).length ≤ l.length := List.length_filter_le ..
theorem insT_len (f : α → List UInt8) (l : List α) (x : α) : (insT f l x).length = l.length + 1 := by
  have : (l.filter fun a => ltS (f a) (f x)).length + (l.filter fun a => !ltS (f a) (f x)).length = l.length := by
    induction l with
    | nil => rfl
    | cons a l ih => simp only [List.filter_cons]; cases ltS (f a) (f x) <;> simp <;> omega
  simp only [insT, List.length_append, List.length_cons]; omega
theorem delT_no (h : hasT f l y = false) : delT f l y = l := List.filter_eq_self.2 fun x hx => by simpa using List.any_eq_false.1 h x hx
end
/-! sets of texts, in memory -/
section
set_option maxRecDepth 20000
set_option synthInstance.maxSize 100000
set_option synthInstance.maxHeartbeats 4000000
variable {K : Value → St → Prop} {w0 w : World} {H R : List SL} {ds : List Deferred} {p : Nat} {l : List (List UInt8)} {a b y : List UInt8} {t : TypeId} {cx cy : Bool}
instance {P : Program} : VT (Bo P .lss t cx cy (str a) (str b)) w (.bool (ltS a b)) := VT.of (by
  rw [bo_str]
  have : binOp .lss t (str a) (str b) = Op.stringOp .lss ⟨a.toArray⟩ ⟨b.toArray⟩ := rfl
  rw [this]
  simp [Op.stringOp, ByteArray.toList_eq])
instance oneS : OneTy 9 (List UInt8) str := ⟨fun _ => rfl⟩
abbrev sid : List UInt8 → List UInt8 := fun x => x
instance isNaNS_ok [o : Hv w0 H w] : Step (Cl P 385 #[str a] K ⟨w, ds⟩) (∀ w', Hv w0 H w' → K (.bool false) ⟨w', ds⟩) := ⟨fun h => by
  refine s385 ?_
  unfold D385
  repeat' (first | refine go ?_ | intro _ | refine ⟨sb, ?_⟩ | refine ⟨sd, ?_⟩ | (refine ⟨fun h1 => ?_, fun h1 => ?_⟩ <;> first | exact ab h1 | ((try rw [h1]); (try simp only [bl] at h1))) | dsimp only)
  simpa using h _ o⟩
instance isNaNsS_ok [o : Hv w0 H w] : Step (Cl P 338 #[str a] K ⟨w, ds⟩) (∀ w', Hv w0 H w' → K (.bool false) ⟨w', ds⟩) := ⟨fun h => by
  refine s338 ?_
  unfold D338
  repeat' (first | refine go ?_ | intro _ | refine ⟨sb, ?_⟩ | refine ⟨sd, ?_⟩ | (refine ⟨fun h1 => ?_, fun h1 => ?_⟩ <;> first | exact ab h1 | ((try rw [h1]); (try simp only [bl] at h1))) | dsimp only)
  simpa using h _ o⟩
instance lessS_ok [o : Hv w0 H w] : Step (Cl P 337 #[str a, str b] K ⟨w, ds⟩) (∀ w', Hv w0 H w' → K (.bool (ltS a b)) ⟨w', ds⟩) := ⟨fun h => by
  refine s337 ?_
  unfold D337
  repeat' (first | refine go ?_ | intro _ | refine ⟨sb, ?_⟩ | refine ⟨sd, ?_⟩ | (refine ⟨fun h1 => ?_, fun h1 => ?_⟩ <;> first | exact ab h1 | ((try rw [h1]); (try simp only [bl] at h1))) | dsimp only)
  rw [Bool.false_or]
  exact h _ (Sub.hv subEnd)⟩
instance bsS_ok {v : Value} {n : Nat} {xs : List Value} [o : Hv w0 H w] [r : RdsF w0 H v 1 n xs] [e : Maps str xs l] :
    Step (Cl P 279 #[v, str y] K ⟨w, ds⟩) ((n ≤ 1000000000 ∧ RisT sid l) ∧ ∀ w', Hv w0 H w' → K (.tuple #[.int .i64 (rankT sid l y : Nat), .bool (hasT sid l y)]) ⟨w', ds⟩) := ⟨fun ⟨⟨hn, hs⟩, h⟩ => by
  obtain rfl := e.eq
  obtain rfl : n = l.length := by have := (r.rd w o).len; simpa using this.symm
  obtain ⟨tI, tU, u1, u2, hf⟩ := BinF.run (P := P) (g := 279)
  refine hf _ _ _ _ _ (binW_ok (tS := 134) (e := 9) (el := fun i => str (l.getD i default)) (lt := fun i => ltS (l.getD i default) y) (eq := fun i => decide (l.getD i default = y)) inferInstance u1 u2 o r ?_ ?_ ?_ ?_ ?_ hn ?_)
  · intro i a w' hi r' ix; infer_instance
  · intro i w' K' hi o' h'
    repeat' (first | refine go ?_ | intro _ | refine ⟨sb, ?_⟩ | refine ⟨sd, ?_⟩ | (refine ⟨fun h1 => ?_, fun h1 => ?_⟩ <;> first | exact ab h1 | ((try rw [h1]); (try simp only [bl] at h1))) | dsimp only)
    exact h' _ (Sub.hv subEnd)
  · intro i w' hi; infer_instance
  · intro i w' K' hi o' h'
    repeat' (first | refine go ?_ | intro _ | refine ⟨sb, ?_⟩ | refine ⟨sd, ?_⟩ | (refine ⟨fun h1 => ?_, fun h1 => ?_⟩ <;> first | exact ab h1 | ((try rw [h1]); (try simp only [bl] at h1))) | dsimp only)
    exact h' _ (Sub.hv subEnd)
  · intro i j hij hj hc
    rcases Nat.lt_or_ge i j with h1 | h1
    · have := List.pairwise_iff_getElem.1 hs i j (by omega) hj h1
      simp only [List.getD_eq_getElem?_getD, hj, show i < l.length by omega, List.getElem?_eq_getElem, Option.getD_some] at hc ⊢
      exact ltS_tr this hc
    · obtain rfl : i = j := by omega
      exact hc
  · intro i w' hi h1 h2 o'
    obtain rfl := rankT_eq (f := sid) hi (fun k hk => h1 k hk) (fun k h3 h4 => h2 k h3 h4)
    have e1 := rankT_has hs y
    rw [e1]
    exact h w' o'⟩
def setTA (p : Nat) (l : List (List UInt8)) (v : Value) : SL := many [lift (RisT sid l), box p 330 [v], row 9 1 v l.length (l.map str)]
def setT (p : Nat) (l : List (List UInt8)) : SL := any (setTA p l)
theorem setT_open (h : Hv w0 (setT p l :: R) w) : ∃ v, RisT sid l ∧ Hv w0 (box p 330 [v] :: row 9 1 v l.length (l.map str) :: R) w := by
  obtain ⟨v, h1⟩ := h.pick
  have h2 := h1.opens
  exact ⟨v, h2.lifted, h2.tail⟩
theorem subSetT {H' R1 R2 G : List SL} {v : Value} {n : Nat} {xs : List Value} [b : BoxIn H' p 330 [v] R1] [r : RowIn R1 v 9 1 n xs R2]
    (h1 : RisT sid l) (e1 : n = l.length) (e2 : xs = l.map str) (k : Sub R2 G) : Sub H' (setT p l :: G) :=
  Sub.any (A := setTA p l) v (Sub.many (Sub.lift h1 (subBox rfl (subRow e1 e2 k))))
def addT (l : List (List UInt8)) (x : List UInt8) : List (List UInt8) := if hasT sid l x then l else insT sid l x
theorem addT_ris (h : RisT sid l) (x : List UInt8) : RisT sid (addT l x) := by
  unfold addT; split
  · exact h
  · rename_i hx; exact h.ins (by simpa using hx)
theorem addT_len (l : List (List UInt8)) (x : List UInt8) : (addT l x).length ≤ l.length + 1 := by
  unfold addT; split
  · omega
  · exact Nat.le_of_eq (insT_len ..)
instance thas_ok [o : Hv w0 H w] [i : InK setT p H l R] : Step (Cl P 204 #[.pointer (some ⟨p, 0, none⟩), str y] K ⟨w, ds⟩) (l.length ≤ 1000000000 ∧ ∀ w', Hv w0 (setT p l :: R) w' → K (.bool (hasT sid l y)) ⟨w', ds⟩) := ⟨fun ⟨hl, h⟩ => by
  obtain ⟨v, hs, o1⟩ := setT_open (i.hv o)
  clear o
  refine s204 ?_
  unfold D204
  repeat' (first | refine go ?_ | intro _ | refine ⟨sb, ?_⟩ | refine ⟨sd, ?_⟩ | (refine ⟨fun h1 => ?_, fun h1 => ?_⟩ <;> first | exact ab h1 | ((try rw [h1]); (try simp only [bl] at h1))) | dsimp only)
  exact h _ (Sub.hv (subSetT hs rfl rfl subEnd))⟩
instance thasN_ok [o : Hv w0 H w] : Step (Cl P 204 #[.pointer none, str y] K ⟨w, ds⟩) (∀ w', Hv w0 H w' → K (.bool false) ⟨w', ds⟩) := ⟨fun h => by
  refine s204 ?_
  unfold D204
  repeat' (first | refine go ?_ | intro _ | refine ⟨sb, ?_⟩ | refine ⟨sd, ?_⟩ | (refine ⟨fun h1 => ?_, fun h1 => ?_⟩ <;> first | exact ab h1 | ((try rw [h1]); (try simp only [bl] at h1))) | dsimp only)
  all_goals first
    | exact h _ (Sub.hv subEnd)
    | (exfalso; simp at *; done)⟩
instance tlen_ok [o : Hv w0 H w] [i : InK setT p H l R] : Step (Cl P 187 #[.pointer (some ⟨p, 0, none⟩)] K ⟨w, ds⟩) (∀ w', Hv w0 (setT p l :: R) w' → K (.int .i64 (l.length : Nat)) ⟨w', ds⟩) := ⟨fun h => by
  obtain ⟨v, hs, o1⟩ := setT_open (i.hv o)
  clear o
  refine s187 ?_
  unfold D187
  repeat' (first | refine go ?_ | intro _ | refine ⟨sb, ?_⟩ | refine ⟨sd, ?_⟩ | (refine ⟨fun h1 => ?_, fun h1 => ?_⟩ <;> first | exact ab h1 | ((try rw [h1]); (try simp only [bl] at h1))) | dsimp only)
  exact h _ (Sub.hv (subSetT hs rfl rfl subEnd))⟩
instance tlenN_ok [o : Hv w0 H w] : Step (Cl P 187 #[.pointer none] K ⟨w, ds⟩) (∀ w', Hv w0 H w' → K (.int .i64 0) ⟨w', ds⟩) := ⟨fun h => by
  refine s187 ?_
  unfold D187
  repeat' (first | refine go ?_ | intro _ | refine ⟨sb, ?_⟩ | refine ⟨sd, ?_⟩ | (refine ⟨fun h1 => ?_, fun h1 => ?_⟩ <;> first | exact ab h1 | ((try rw [h1]); (try simp only [bl] at h1))) | dsimp only)
  all_goals first
    | exact h _ (Sub.hv subEnd)
    | (exfalso; simp at *; done)⟩
/-- one text put in -/
instance tadd_ok {v : Value} [o : Hv w0 H w] [i : InK setT p H l R] [r : RdsF w0 R v 1 1 [str y]] : Step (Cl P 206 #[.pointer (some ⟨p, 0, none⟩), v] K ⟨w, ds⟩) (l.length ≤ 100000000 ∧ ∀ z w', Hv w0 (setT p (addT l y) :: R) w' → K (.int .i64 z) ⟨w', ds⟩) := ⟨fun ⟨hl, h⟩ => by
  have o1 := i.hv o
  clear o
  have rl := r.loc
  have e : Maps str [str y] [y] := ⟨rfl⟩
  refine s206 ?_
  unfold D206
  repeat (first | refine go ?_ | intro _ | refine ⟨sb, ?_⟩ | refine ⟨sd, ?_⟩ | dsimp only)
  refine ⟨fun x z s => ∃ (k i : Nat) (w' : World), x = .int .i64 k ∧ z = .int .i64 i ∧ s = ⟨w', []⟩ ∧ k ≤ i ∧ i ≤ 1 ∧ Hv w0 (setT p (if i = 0 then l else addT l y) :: R) w',
    fun _ z s => match z with | .int _ z => 1 - z.toNat | _ => 0, ⟨0, 0, w, rfl, rfl, rfl, Nat.le_refl _, Nat.zero_le _, o1⟩, ?_⟩
  rintro x z s ⟨k, i, w1, rfl, rfl, rfl, hk, hi, o2⟩
  clear o1
  rcases Nat.lt_or_ge i 1 with hlt | hge
  · obtain rfl : i = 0 := by omega
    obtain rfl : k = 0 := by omega
    rw [if_pos rfl] at o2
    obtain ⟨v2, hr, o3⟩ := setT_open o2
    clear o2
    have rle := rankT_le sid l y
    have hin := rankT_ins hr y
    have hri := addT_ris hr y
    repeat' (first | refine go ?_ | intro _ | refine ⟨sb, ?_⟩ | refine ⟨sd, ?_⟩ | (refine ⟨fun h1 => ?_, fun h1 => ?_⟩ <;> first | exact ab h1 | ((try rw [h1]); (try simp only [bl] at h1))) | dsimp only)
    · have hA : l.take (rankT sid l y) ++ [y] ++ l.drop (rankT sid l y) = addT l y := by unfold addT; rw [h1]; exact hin
      refine ⟨⟨1, 1, _, rfl, rfl, rfl, Nat.le_refl _, Nat.le_refl _, ?_⟩, by simp⟩
      rw [if_neg (by omega)]
      refine Sub.hv (subSetT hri ?_ ?_ subEnd)
      · rw [← hA]; simp; omega
      · rw [← hA]
    · have hA : addT l y = l := by unfold addT; rw [h1]; rfl
      refine ⟨⟨0, 1, _, rfl, rfl, rfl, by omega, Nat.le_refl _, ?_⟩, by simp⟩
      rw [if_neg (by omega), hA]
      exact Sub.hv (subSetT hr rfl rfl subEnd)
  · obtain rfl : i = 1 := by omega
    rw [if_neg (by omega)] at o2
    repeat' (first | refine go ?_ | intro _ | refine ⟨sb, ?_⟩ | refine ⟨sd, ?_⟩ | (refine ⟨fun h1 => ?_, fun h1 => ?_⟩ <;> first | exact ab h1 | ((try rw [h1]); (try simp only [bl] at h1))) | dsimp only)
    exact h _ _ o2⟩
instance tadd0_ok [o : Hv w0 H w] [i : InK setT p H l R] : Step (Cl P 206 #[.pointer (some ⟨p, 0, none⟩), .slice none 0 0] K ⟨w, ds⟩) (∀ z w', Hv w0 (setT p l :: R) w' → K (.int .i64 z) ⟨w', ds⟩) := ⟨fun h => by
  have o1 := Hv.nilRow 9 1 (i.hv o)
  clear o
  refine s206 ?_
  unfold D206
  repeat (first | refine go ?_ | intro _ | refine ⟨sb, ?_⟩ | refine ⟨sd, ?_⟩ | dsimp only)
  refine ⟨fun x z s => ∃ (w' : World), x = .int .i64 0 ∧ z = .int .i64 0 ∧ s = ⟨w', []⟩ ∧ Hv w0 (setT p l :: R) w', fun _ _ _ => 0, ⟨w, rfl, rfl, rfl, o1.tail⟩, ?_⟩
  rintro x z s ⟨w1, rfl, rfl, rfl, o2⟩
  clear o1
  have o3 := Hv.nilRow 9 1 o2
  clear o2
  repeat' (first | refine go ?_ | intro _ | refine ⟨sb, ?_⟩ | refine ⟨sd, ?_⟩ | (refine ⟨fun h1 => ?_, fun h1 => ?_⟩ <;> first | exact ab h1 | ((try rw [h1]); (try simp only [bl] at h1))) | dsimp only)
  exact h _ _ (Sub.hv (subK rfl subEnd))⟩
instance tof_ok [o : Hv w0 H w] : Step (Cl P 205 #[.slice none 0 0] K ⟨w, ds⟩) (∀ p w', Hv w0 (setT p [] :: H) w' → K (.pointer (some ⟨p, 0, none⟩)) ⟨w', ds⟩) := ⟨fun h => by
  refine s205 ?_
  unfold D205
  repeat' (first | refine go ?_ | intro _ | refine ⟨sb, ?_⟩ | refine ⟨sd, ?_⟩ | (refine ⟨fun h1 => ?_, fun h1 => ?_⟩ <;> first | exact ab h1 | ((try rw [h1]); (try simp only [bl] at h1))) | dsimp only)
  rename_i b w1 o1
  have o2 := Hv.nilRow 9 1 o1
  have o3 : Hv w0 (setT b [] :: H) w1 := Sub.hv (o := o2) (subSetT (l := []) List.Pairwise.nil rfl rfl subEnd)
  clear o1 o2 o
  repeat' (first | refine go ?_ | intro _ | refine ⟨sb, ?_⟩ | refine ⟨sd, ?_⟩ | (refine ⟨fun h1 => ?_, fun h1 => ?_⟩ <;> first | exact ab h1 | ((try rw [h1]); (try simp only [bl] at h1))) | dsimp only)
  exact h _ _ (Sub.hv (subK rfl subEnd))⟩
end
end Go.Proofs.YtgcomleicnblhaaGreatDoor

