import Derived.Test.YtgcomleicnblhaaGreatDoorFw
set_option linter.all false
namespace Go.Proofs.YtgcomleicnblhaaGreatDoor.Pl
open Go.Vx
/-! times by keys -/
abbrev It := Int × Int
abbrev encIt (x : It) : List Value := [.int .i64 x.1, .int .i64 x.2]
abbrev itV (x : It) : Value := .agg #[.int .i64 x.1, .int .i64 x.2]
instance : UEnc encIt 2 := ⟨fun _ => rfl⟩
instance : EncTy 266 It encIt 2 := ⟨fun _ => rfl⟩
instance {x : It} : Encs encIt [.int .i64 x.1, .int .i64 x.2] [x] := ⟨rfl⟩
instance {a b : Int} : Encs encIt [.int .i64 a, .int .i64 b] [(a, b)] := ⟨rfl⟩
def ItLt (x y : It) : Prop := x.2 < y.2 ∨ x.2 = y.2 ∧ x.1 < y.1
def cmpI (a b : Int) : Int := if a < b then -1 else if b < a then 1 else 0
def itC (x y : It) : Int := if cmpI x.2 y.2 ≠ 0 then cmpI x.2 y.2 else cmpI x.1 y.1
theorem itC_lt {x y : It} : itC x y < 0 ↔ ItLt x y := by unfold itC cmpI ItLt; grind
theorem itC_eq {x y : It} : itC x y = 0 ↔ x = y := by
  obtain ⟨a, b⟩ := x; obtain ⟨c, d⟩ := y
  simp only [Prod.mk.injEq]; unfold itC cmpI; grind
theorem ItLt.trans {x y z : It} (h : ItLt x y) (g : ItLt y z) : ItLt x z := by unfold ItLt at *; omega
theorem ItLt.irrefl {x : It} : ¬ ItLt x x := by unfold ItLt; omega
theorem ItLt.tri {x y : It} (h : ¬ ItLt x y) (e : x ≠ y) : ItLt y x := by
  obtain ⟨a, b⟩ := x; obtain ⟨c, d⟩ := y
  simp only [ne_eq, Prod.mk.injEq] at e; unfold ItLt at *; grind
section
set_option maxRecDepth 20000
set_option synthInstance.maxSize 100000
set_option synthInstance.maxHeartbeats 4000000
variable {K : Value → St → Prop} {w0 w : World} {H R : List SL} {ds : List Deferred}
instance isNaN_ok {a : Int} [o : Hv w0 H w] : Step (Cl P 328 #[.int .i64 a] K ⟨w, ds⟩) (∀ w', Hv w0 H w' → K (.bool false) ⟨w', ds⟩) := ⟨fun h => by
  refine s328 ?_
  unfold D328
  repeat' (first | refine go ?_ | intro _ | refine ⟨sb, ?_⟩ | refine ⟨sd, ?_⟩ | (refine ⟨fun h1 => ?_, fun h1 => ?_⟩ <;> first | exact ab h1 | ((try rw [h1]); (try simp only [bl] at h1))) | dsimp only)
  simpa using h _ o⟩
instance cmpI_ok {a b : Int} [o : Hv w0 H w] : Step (Cl P 271 #[.int .i64 a, .int .i64 b] K ⟨w, ds⟩) (∀ w', Hv w0 H w' → K (.int .i64 (cmpI a b)) ⟨w', ds⟩) := ⟨fun h => by
  refine s271 ?_
  unfold D271
  repeat' (first | refine go ?_ | intro _ | refine ⟨sb, ?_⟩ | refine ⟨sd, ?_⟩ | (refine ⟨fun h1 => ?_, fun h1 => ?_⟩ <;> first | exact ab h1 | ((try rw [h1]); (try simp only [bl] at h1))) | dsimp only)
  all_goals exact cast (congrArg (fun z => K (.int .i64 z) _) (by unfold cmpI; grind)) (h _ (Sub.hv subEnd))⟩
def orL (l : List Int) : Int := (l.find? fun z => decide (z ≠ 0)).getD 0
instance or_ok {v : Value} {n : Nat} {xs : List Value} {l : List Int} [o : Hv w0 H w] [r : RdsF w0 H v 1 n xs] [m : Maps intV xs l] : Step (Cl P 270 #[v] K ⟨w, ds⟩) (∀ w', Hv w0 H w' → K (.int .i64 (orL l)) ⟨w', ds⟩) := ⟨fun h => by
  refine s270 ?_
  unfold D270
  obtain rfl := m.eq
  have rl := r.loc
  have rr := r.rd w o
  obtain rfl : n = l.length := by have := rr.len; simpa using this.symm
  have hb := rr.le
  simp only [maxLen] at hb
  repeat (first | refine go ?_ | intro _ | refine ⟨sb, ?_⟩ | refine ⟨sd, ?_⟩ | dsimp only)
  refine ⟨fun x s => ∃ (i : Nat) (w' : World), x = .int .i64 i ∧ s = ⟨w', []⟩ ∧ i ≤ l.length ∧ (∀ z ∈ l.take i, z = 0) ∧ Hv w0 H w',
    fun x s => match x with | .int _ z => l.length - z.toNat | _ => 0, ⟨0, w, rfl, rfl, Nat.zero_le _, by simp, o⟩, ?_⟩
  rintro x s ⟨i, w1, rfl, rfl, hi, hz, o1⟩
  clear o
  rcases Nat.lt_or_ge i l.length with hlt | hge
  · have hsplit : l = l.take i ++ l.getD i default :: l.drop (i + 1) := by simp [hlt]
    repeat' (first | refine go ?_ | intro _ | refine ⟨sb, ?_⟩ | refine ⟨sd, ?_⟩ | (refine ⟨fun h1 => ?_, fun h1 => ?_⟩ <;> first | exact ab h1 | ((try rw [h1]); (try simp only [bl] at h1))) | dsimp only)
    · refine cast (congrArg (fun z => K (.int .i64 z) _) ?_) (h _ (Sub.hv subEnd))
      have e2 : l.find? (fun z => decide (z ≠ 0)) = some (l.getD i default) := by
        conv => lhs; rw [hsplit]
        rw [List.find?_append, List.find?_eq_none.2 (fun z hz' => by simpa using hz z hz'), List.find?_cons, decide_eq_true (by omega)]; rfl
      unfold orL
      rw [e2]; rfl
    · refine ⟨⟨i + 1, _, rfl, rfl, hlt, ?_, o1⟩, by simp; omega⟩
      rw [take_snoc hlt]
      intro z hz'
      rcases List.mem_append.1 hz' with h2 | h2
      · exact hz z h2
      · rw [List.mem_singleton.1 h2]; omega
    · omega
  · obtain rfl : i = l.length := by omega
    rw [List.take_length] at hz
    repeat' (first | refine go ?_ | intro _ | refine ⟨sb, ?_⟩ | refine ⟨sd, ?_⟩ | (refine ⟨fun h1 => ?_, fun h1 => ?_⟩ <;> first | exact ab h1 | ((try rw [h1]); (try simp only [bl] at h1))) | dsimp only)
    · omega
    · refine cast (congrArg (fun z => K (.int .i64 z) _) ?_) (h _ (Sub.hv subEnd))
      unfold orL
      rw [List.find?_eq_none.2 (fun z hz' => by simpa using hz z hz')]; rfl⟩
instance comp_ok {a b c d : Int} [o : Hv w0 H w] : Step (Cl P 193 #[.agg #[.int .i64 a, .int .i64 b], .agg #[.int .i64 c, .int .i64 d]] K ⟨w, ds⟩) (∀ w', Hv w0 H w' → K (.int .i64 (itC (a, b) (c, d))) ⟨w', ds⟩) := ⟨fun h => by
  refine s193 ?_
  unfold D193
  repeat' (first | refine go ?_ | intro _ | refine ⟨sb, ?_⟩ | refine ⟨sd, ?_⟩ | (refine ⟨fun h1 => ?_, fun h1 => ?_⟩ <;> first | exact ab h1 | ((try rw [h1]); (try simp only [bl] at h1))) | dsimp only)
  refine cast (congrArg (fun z => K (.int .i64 z) _) ?_) (h _ (Sub.hv subEnd))
  unfold itC orL; grind⟩
/-! a table of times, in memory -/
structure Tim (l : List It) (g : Int → Option Int) : Prop where
  srt : l.Pairwise ItLt
  mem : ∀ k a, (k, a) ∈ l ↔ g k = some a
theorem orZ_int (o : Option Int) (z : Int) : orZ (o.map intV) (.int .i64 z) = .int .i64 (o.getD z) := by cases o <;> rfl
abbrev tmap (g : Int → Option Int) : Int → Option Value := fun k => (g k).map intV
theorem tmap_upd (g : Int → Option Int) (k : Int) (v : Option Int) : updF (tmap g) k (v.map intV) = tmap (updF g k v) := by
  funext x; by_cases h : x = k <;> simp [updF, tmap, h]
theorem updF_two {β : Type} (g : Int → Option β) (k : Int) (u v : Option β) : updF (updF g k u) k v = updF g k v := by
  funext x; by_cases h : x = k <;> simp [updF, h]
abbrev Tst := Nat × (Int → Option Int)
def tabA (t : Nat) (x : Tst) (q : List It × Value × Nat) : SL := many [lift (Tim q.1 x.2 ∧ q.1.length ≤ x.1), box t 261 [q.2.1, .map (some q.2.2)], row 266 2 q.2.1 q.1.length (q.1.flatMap encIt), mpf q.2.2 intV (tmap x.2)]
def tabR (t : Nat) (x : Tst) : SL := any (tabA t x)
theorem tab_open {t : Nat} {x : Tst} (h : Hv w0 (tabR t x :: R) w) : ∃ l v m, Tim l x.2 ∧ l.length ≤ x.1 ∧ Hv w0 (box t 261 [v, .map (some m)] :: row 266 2 v l.length (l.flatMap encIt) :: mpf m intV (tmap x.2) :: R) w := by
  obtain ⟨⟨l, v, m⟩, h1⟩ := h.pick
  have h2 := h1.opens
  exact ⟨l, v, m, h2.lifted.1, h2.lifted.2, h2.tail⟩
theorem tab_shut {t m : Nat} {x : Tst} {l : List It} {v : Value} (h1 : Tim l x.2) (h2 : l.length ≤ x.1) (h : Hv w0 (box t 261 [v, .map (some m)] :: row 266 2 v l.length (l.flatMap encIt) :: mpf m intV (tmap x.2) :: R) w) : Hv w0 (tabR t x :: R) w :=
  Hv.give (A := tabA t x) (l, v, m) (Hv.closes (H := [_, _, _, _]) (h.lift ⟨h1, h2⟩))
theorem subTab {t : Nat} {x : Tst} {H' R1 R2 R3 G : List SL} {v : Value} {m n : Nat} {xs : List Value} {g : Int → Option Value} {l : List It} [b : BoxIn H' t 261 [v, .map (some m)] R1] [r : RowIn R1 v 266 2 n xs R2] [p : MpfIn R2 m intV g R3]
    (h1 : Tim l x.2) (h2 : l.length ≤ x.1) (e1 : n = l.length) (e2 : xs = l.flatMap encIt) (e3 : g = tmap x.2) (k : Sub R3 G) : Sub H' (tabR t x :: G) :=
  Sub.any (A := tabA t x) (l, v, m) (Sub.many (Sub.lift ⟨h1, h2⟩ (subBox rfl (subRow e1 e2 (subMpf e3 k)))))
instance tnew_ok [o : Hv w0 H w] : Step (Cl P 118 #[] K ⟨w, ds⟩) (∀ t w', Hv w0 (tabR t (0, fun _ => none) :: H) w' → K (.pointer (some ⟨t, 0, none⟩)) ⟨w', ds⟩) := ⟨fun h => by
  refine s118 ?_
  unfold D118
  repeat' (first | refine go ?_ | intro _ | refine ⟨sb, ?_⟩ | refine ⟨sd, ?_⟩ | (refine ⟨fun h1 => ?_, fun h1 => ?_⟩ <;> first | exact ab h1 | ((try rw [h1]); (try simp only [bl] at h1))) | dsimp only)
  rename_i b1 w1 o1 b2 w2 o2
  have o3 := Hv.nilRow 266 2 o2
  refine h _ _ (tab_shut (l := []) (v := .slice none 0 0) (m := b1) ⟨List.Pairwise.nil, fun k a => by simp⟩ (Nat.le_refl _) ?_)
  exact Sub.hv (o := o3) (subBox rfl (subRow rfl rfl (subMpf rfl subEnd)))⟩
variable {t : Nat} {x : Tst} {k a : Int}
instance tat_ok [o : Hv w0 H w] [i : InK tabR t H x R] : Step (Cl P 202 #[.pointer (some ⟨t, 0, none⟩), .int .i64 k] K ⟨w, ds⟩) (∀ w', Hv w0 (tabR t x :: R) w' → K (.tuple #[.int .i64 ((x.2 k).getD 0), .bool (x.2 k).isSome]) ⟨w', ds⟩) := ⟨fun h => by
  obtain ⟨l, v, m, h1, h2, o1⟩ := tab_open (i.hv o)
  clear o
  refine s202 ?_
  unfold D202
  repeat' (first | refine go ?_ | intro _ | refine ⟨sb, ?_⟩ | refine ⟨sd, ?_⟩ | (refine ⟨fun h1 => ?_, fun h1 => ?_⟩ <;> first | exact ab h1 | ((try rw [h1]); (try simp only [bl] at h1))) | dsimp only)
  have e : (Option.map intV (x.2 k)).isSome = (x.2 k).isSome := by cases x.2 k <;> rfl
  rw [orZ_int, e]
  exact h _ (tab_shut h1 h2 (Sub.hv (subBox rfl (subRow rfl rfl (subMpf rfl subEnd)))))⟩
theorem pw_at {l : List It} (h : l.Pairwise ItLt) {i j : Nat} (hi : i < j) (hj : j < l.length) : ItLt (l.getD i default) (l.getD j default) := by
  have := List.pairwise_iff_getElem.1 h i j (by omega) hj hi
  simpa [List.getD_eq_getElem?_getD, show i < l.length by omega, hj] using this
instance bsf_ok {v : Value} {n : Nat} {xs : List Value} {l : List It} {yk ya : Int} [o : Hv w0 H w] [r : RdsF w0 H v 2 n xs] [e : Encs encIt xs l] :
    Step (Cl P 192 #[v, .agg #[.int .i64 yk, .int .i64 ya], .func (.func 193) #[] #[]] K ⟨w, ds⟩)
      ((n ≤ 1000000000 ∧ l.Pairwise ItLt) ∧ ∀ (i : Nat) w', i ≤ n → (∀ z ∈ l.take i, ItLt z (yk, ya)) → (∀ z ∈ l.drop i, ¬ ItLt z (yk, ya)) → Hv w0 H w' → K (.tuple #[.int .i64 i, .bool (decide (l[i]? = some (yk, ya)))]) ⟨w', ds⟩) := ⟨fun ⟨⟨hn, hs⟩, h⟩ => by
  have hx := e.eq
  subst hx
  have hl : n = l.length := by
    have := (r.rd w o).len
    rw [flatMap_len (size := 2) fun _ => rfl] at this
    omega
  subst hl
  obtain ⟨tI, tU, u1, u2, hf⟩ := BsfF.run (P := P) (g := 192)
  refine hf _ _ _ _ _ _ (bsfW_ok (tS := 259) (e := 266) (el := fun i => itV (l.getD i default)) (c := fun i => itC (l.getD i default) (yk, ya)) inferInstance u1 u2 o r inferInstance ?_ ?_ ?_ ?_ hn ?_)
  · intro b w' o'; infer_instance
  · intro i a w' hi r' ix; infer_instance
  · intro i F w' K' hi o' h'
    repeat' (first | refine go ?_ | intro _ | refine ⟨sb, ?_⟩ | refine ⟨sd, ?_⟩ | (refine ⟨fun h1 => ?_, fun h1 => ?_⟩ <;> first | exact ab h1 | ((try rw [h1]); (try simp only [bl] at h1))) | dsimp only)
    exact h' _ (Sub.hv subEnd)
  · intro i j hij hj hc
    rcases Nat.lt_or_ge i j with h1 | h1
    · exact itC_lt.2 ((pw_at hs h1 hj).trans (itC_lt.1 hc))
    · obtain rfl : i = j := by omega
      exact hc
  · intro i w' hi h1 h2 o'
    have e1 : (decide (i < l.length) && decide (itC (l.getD i default) (yk, ya) = 0)) = decide (l[i]? = some (yk, ya)) := by
      rw [Bool.eq_iff_iff, Bool.and_eq_true, decide_eq_true_eq, decide_eq_true_eq, decide_eq_true_eq, itC_eq, List.getElem?_eq_some_iff]
      constructor
      · rintro ⟨h3, h4⟩; exact ⟨h3, by rw [← h4]; simp [h3]⟩
      · rintro ⟨h3, h4⟩; exact ⟨h3, by rw [← h4]; simp [h3]⟩
    rw [e1]
    refine h i w' hi (fun z hz => ?_) (fun z hz => ?_) o'
    · obtain ⟨j, hj, rfl⟩ := List.mem_take_iff_getElem.1 hz
      have := itC_lt.1 (h1 j (by omega))
      simpa [List.getD_eq_getElem?_getD, show j < l.length by omega] using this
    · obtain ⟨j, hj, rfl⟩ := List.mem_drop_iff_getElem.1 hz
      intro hc
      have h5 := h2 (i + j) (by omega) (by omega)
      have : itC (l.getD (i + j) default) (yk, ya) < 0 := itC_lt.2 (by simpa [List.getD_eq_getElem?_getD, show i + j < l.length by omega] using hc)
      omega⟩
theorem drop_two {α : Type} {l : List α} {i : Nat} {y : α} (h : l[i]? = some y) : l = l.take i ++ y :: l.drop (i + 1) := by
  obtain ⟨h1, rfl⟩ := List.getElem?_eq_some_iff.1 h
  simp
/-- What is taken out, and put in, in plain lists. -/
theorem Tim.stop {l : List It} {g : Int → Option Int} (h : Tim l g) {i : Nat} {k a : Int} (hi : l[i]? = some (k, a)) : Tim (l.take i ++ l.drop (i + 1)) (updF g k none) := by
  have e := drop_two hi
  have hs := h.srt
  rw [e, List.pairwise_append, List.pairwise_cons] at hs
  obtain ⟨h1, ⟨h2, h3⟩, h4⟩ := hs
  refine ⟨List.pairwise_append.2 ⟨h1, h3, fun x hx y hy => h4 x hx y (List.mem_cons_of_mem _ hy)⟩, fun k' a' => ?_⟩
  have hm : (k', a') ∈ l ↔ (k', a') ∈ l.take i ++ l.drop (i + 1) ∨ (k', a') = (k, a) := by
    conv => lhs; rw [e]
    simp only [List.mem_append, List.mem_cons]
    constructor
    · rintro (h | h | h)
      · exact .inl (.inl h)
      · exact .inr h
      · exact .inl (.inr h)
    · rintro ((h | h) | h)
      · exact .inl h
      · exact .inr (.inr h)
      · exact .inr (.inl h)
  have hg : g k = some a := (h.mem k a).1 (by rw [e]; simp)
  by_cases hk : k' = k
  · subst hk
    rw [updF_at]
    refine ⟨fun hx => ?_, fun hx => by cases hx⟩
    exfalso
    have h5 := (h.mem k' a').1 (hm.2 (.inl hx))
    rw [hg] at h5
    obtain rfl : a = a' := by simpa using h5
    rcases List.mem_append.1 hx with h6 | h6
    · exact ItLt.irrefl (h4 _ h6 _ (List.mem_cons_self ..))
    · exact ItLt.irrefl (h2 _ h6)
  · rw [updF_ne g hk, ← h.mem, hm]
    refine ⟨.inl, fun h => h.resolve_right fun e => hk ?_⟩
    exact (Prod.mk.inj e).1
theorem Tim.put {l : List It} {g : Int → Option Int} (h : Tim l g) {i : Nat} {k a : Int} (hk : g k = none) (h1 : ∀ z ∈ l.take i, ItLt z (k, a)) (h2 : ∀ z ∈ l.drop i, ¬ ItLt z (k, a)) : Tim (l.take i ++ [(k, a)] ++ l.drop i) (updF g k (some a)) := by
  have hs := h.srt
  rw [← List.take_append_drop i l, List.pairwise_append] at hs
  obtain ⟨h3, h4, h5⟩ := hs
  have hn : ∀ z ∈ l, z.1 ≠ k := fun z hz e => by
    have := (h.mem z.1 z.2).1 hz
    rw [e, hk] at this; cases this
  have h6 : ∀ z ∈ l.drop i, ItLt (k, a) z := fun z hz => ItLt.tri (h2 z hz) fun e => hn z (List.mem_of_mem_drop hz) (by rw [e])
  refine ⟨?_, fun k' a' => ?_⟩
  · rw [List.append_assoc, List.pairwise_append]
    refine ⟨h3, List.pairwise_cons.2 ⟨h6, h4⟩, fun x hx y hy => ?_⟩
    rcases List.mem_cons.1 hy with rfl | hy
    · exact h1 x hx
    · exact h5 x hx y hy
  · have hm : (k', a') ∈ l.take i ++ [(k, a)] ++ l.drop i ↔ (k', a') = (k, a) ∨ (k', a') ∈ l := by
      conv => rhs; rw [← List.take_append_drop i l]
      simp only [List.mem_append, List.mem_singleton]
      constructor
      · rintro ((h | h) | h)
        · exact .inr (.inl h)
        · exact .inl h
        · exact .inr (.inr h)
      · rintro (h | h | h)
        · exact .inl (.inr h)
        · exact .inl (.inl h)
        · exact .inr h
    rw [hm]
    by_cases e : k' = k
    · subst e
      rw [updF_at]
      constructor
      · rintro (h7 | h7)
        · rw [(Prod.mk.inj h7).2]
        · exact absurd rfl (hn _ h7)
      · intro h7
        rw [Option.some.inj h7]; exact .inl rfl
    · rw [updF_ne g e, ← h.mem]
      exact ⟨fun h => h.resolve_left fun x => e (Prod.mk.inj x).1, .inr⟩
/-- Where a key stands. -/
theorem Tim.found {l : List It} {g : Int → Option Int} (h : Tim l g) {i : Nat} {k a : Int} (hk : g k = some a) (h1 : ∀ z ∈ l.take i, ItLt z (k, a)) (h2 : ∀ z ∈ l.drop i, ¬ ItLt z (k, a)) : l[i]? = some (k, a) := by
  have hm := (h.mem k a).2 hk
  rw [← List.take_append_drop i l, List.mem_append] at hm
  rcases hm with hm | hm
  · exact absurd (h1 _ hm) ItLt.irrefl
  · have hs := h.srt
    rw [← List.take_append_drop i l, List.pairwise_append] at hs
    cases hd : l.drop i with
    | nil => rw [hd] at hm; cases hm
    | cons y r =>
      have hy : l[i]? = some y := by
        have := congrArg (·[0]?) hd
        simpa using this
      rw [hy]
      rw [hd] at hm
      rcases List.mem_cons.1 hm with rfl | hr
      · rfl
      · rw [hd] at hs
        exact absurd ((List.pairwise_cons.1 hs.2.1).1 _ hr) (h2 y (by rw [hd]; exact List.mem_cons_self ..))
instance tstop_ok [o : Hv w0 H w] [i : InK tabR t H x R] : Step (Cl P 127 #[.pointer (some ⟨t, 0, none⟩), .int .i64 k] K ⟨w, ds⟩) (x.1 ≤ 1000000000 ∧ ∀ w', Hv w0 (tabR t (x.1, updF x.2 k none) :: R) w' → K (.bool (x.2 k).isSome) ⟨w', ds⟩) := ⟨fun ⟨hN, h⟩ => by
  have o0 := i.hv o
  clear o
  refine s127 ?_
  unfold D127
  repeat' (first | refine go ?_ | intro _ | refine ⟨sb, ?_⟩ | refine ⟨sd, ?_⟩ | (refine ⟨fun h1 => ?_, fun h1 => ?_⟩ <;> first | exact ab h1 | ((try rw [h1]); (try simp only [bl] at h1))) | dsimp only)
  · rename_i w1 o1
    have e : x.2 k = none := by simpa using h1
    rw [e] at h
    refine h _ (cast ?_ o1)
    congr 3
    refine Prod.ext rfl (funext fun z => ?_)
    by_cases hz : z = k
    · rw [hz, e]; exact (updF_at ..).symm
    · exact (updF_ne _ hz _).symm
  · rename_i w1 o1
    obtain ⟨a, ea⟩ := Option.isSome_iff_exists.1 h1
    rw [ea] at h ⊢
    obtain ⟨l, v, m, h2, h3, o2⟩ := tab_open o1
    clear o0 o1
    simp only [Option.getD_some]
    repeat (first | refine go ?_ | intro _ | refine ⟨sb, ?_⟩ | refine ⟨sd, ?_⟩ | dsimp only)
    refine ⟨⟨by omega, h2.srt⟩, fun j w3 hj h4 h5 o3 => ?_⟩
    clear o2
    have h6 := h2.found ea h4 h5
    have hlt : j < l.length := (List.getElem?_eq_some_iff.1 h6).1
    repeat' (first | refine go ?_ | intro _ | refine ⟨sb, ?_⟩ | refine ⟨sd, ?_⟩ | (refine ⟨fun h1 => ?_, fun h1 => ?_⟩ <;> first | exact ab h1 | ((try rw [h1]); (try simp only [bl] at h1))) | dsimp only)
    · have el : (l.take j ++ l.drop (j + 1)).length = l.length - 1 := by simp; omega
      refine h _ (tab_shut (v := _) (l := l.take j ++ l.drop (j + 1)) (h2.stop h6) (by rw [el]; show l.length - 1 ≤ x.1; omega) (Sub.hv (subBox rfl (subRow ?_ rfl (subMpf (tmap_upd _ _ none) subEnd)))))
      rw [el]; omega
    · exact absurd h6 h1⟩
instance tset_ok [o : Hv w0 H w] [i : InK tabR t H x R] : Step (Cl P 120 #[.pointer (some ⟨t, 0, none⟩), .int .i64 k, .int .i64 a] K ⟨w, ds⟩) (x.1 < 1000000000 ∧ ∀ v w', Hv w0 (tabR t (x.1 + 1, updF x.2 k (some a)) :: R) w' → K v ⟨w', ds⟩) := ⟨fun ⟨hN, h⟩ => by
  have o0 := i.hv o
  clear o
  refine s120 ?_
  unfold D120
  repeat (first | refine go ?_ | intro _ | refine ⟨sb, ?_⟩ | refine ⟨sd, ?_⟩ | dsimp only)
  rename_i w1 o1
  obtain ⟨l, v, m, h2, h3, o2⟩ := tab_open o1
  dsimp only at h2 h3 o2
  clear o0 o1
  repeat (first | refine go ?_ | intro _ | refine ⟨sb, ?_⟩ | refine ⟨sd, ?_⟩ | dsimp only)
  refine ⟨⟨by omega, h2.srt⟩, fun j w3 hj h4 h5 o3 => ?_⟩
  clear o2
  repeat' (first | refine go ?_ | intro _ | refine ⟨sb, ?_⟩ | refine ⟨sd, ?_⟩ | (refine ⟨fun h1 => ?_, fun h1 => ?_⟩ <;> first | exact ab h1 | ((try rw [h1]); (try simp only [bl] at h1))) | dsimp only)
  have h6 := h2.put (k := k) (a := a) (updF_at _ _ _) h4 h5
  rw [updF_two] at h6
  have el : (l.take j ++ [(k, a)] ++ l.drop j).length = l.length + 1 := by simp; omega
  refine h _ _ (tab_shut (v := _) (l := l.take j ++ [(k, a)] ++ l.drop j) h6 (by rw [el]; show l.length + 1 ≤ x.1 + 1; omega) (Sub.hv (subBox rfl (subRow ?_ rfl (subMpf ?_ subEnd)))))
  · rw [el]
  · rw [← updF_two x.2 k none (some a), ← tmap_upd _ _ (some a)]; rfl⟩
end
end Go.Proofs.YtgcomleicnblhaaGreatDoor.Pl

