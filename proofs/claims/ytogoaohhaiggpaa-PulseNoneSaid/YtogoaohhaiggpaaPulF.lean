import Derived.Test.YtogoaohhaiggpaaPulE
set_option linter.all false
namespace Go.Proofs.Ytogoaohhaiggpaa
open Go.Vx
/-! what is due, by the document -/
instance : EncTy 51 It encIt 2 := ⟨fun _ => rfl⟩
def dueC (x : Rst) (now : Int) (c : Cn) : Int := if c.2.2.1 then (if x.ping + x.grace ≤ now - c.2.1 then 3 else if x.ping ≤ now - c.2.1 ∧ c.2.2.2 = false then 2 else 0) else (if x.reg ≤ now - c.2.1 then 1 else 0)
def askC (x : Rst) (now : Int) (c : Cn) : Cn := if dueC x now c = 2 then (c.1, c.2.1, c.2.2.1, true) else c
theorem set_same {α : Type} [Inhabited α] {l : List α} {i : Nat} {y : α} (h : i < l.length) (e : l.getD i default = y) : l.set i y = l := by
  subst e; simp [List.getD_eq_getElem?_getD, h]
/-- The rows of some connections. -/
structure RowsC (x : Rst) (now : Int) (cs : List Cn) (rows : List It) : Prop where
  srt : rows.Pairwise fun a b => a.1 < b.1
  mem : ∀ z, z ∈ rows ↔ ∃ c ∈ cs, dueC x now c ≠ 0 ∧ z = (c.1, dueC x now c)
theorem RowsC.skip {x : Rst} {now : Int} {cs : List Cn} {rows : List It} (h : RowsC x now cs rows) {c : Cn} (hc : dueC x now c = 0) : RowsC x now (cs ++ [c]) rows := ⟨h.srt, fun z => by
  rw [h.mem]
  constructor
  · rintro ⟨d, hd, e⟩; exact ⟨d, List.mem_append_left _ hd, e⟩
  · rintro ⟨d, hd, e1, e2⟩
    rcases List.mem_append.1 hd with hd | hd
    · exact ⟨d, hd, e1, e2⟩
    · rw [List.mem_singleton.1 hd] at e1; exact absurd hc e1⟩
theorem RowsC.put {x : Rst} {now : Int} {cs : List Cn} {rows : List It} (h : RowsC x now cs rows) {c : Cn} (hc : dueC x now c ≠ 0) (hn : c.1 ∉ cs.map (·.1)) {i : Nat} (h1 : ∀ z ∈ rows.take i, z.1 ≤ c.1) (h2 : ∀ z ∈ rows.drop i, c.1 < z.1) :
    RowsC x now (cs ++ [c]) (rows.take i ++ [(c.1, dueC x now c)] ++ rows.drop i) := by
  have hs := h.srt
  rw [← List.take_append_drop i rows, List.pairwise_append] at hs
  obtain ⟨a1, a2, a3⟩ := hs
  have hne : ∀ z ∈ rows, z.1 ≠ c.1 := fun z hz e => by
    obtain ⟨d, hd, _, rfl⟩ := (h.mem z).1 hz
    exact hn (List.mem_map.2 ⟨d, hd, e⟩)
  refine ⟨?_, fun z => ?_⟩
  · rw [List.append_assoc, List.pairwise_append]
    refine ⟨a1, List.pairwise_cons.2 ⟨fun z hz => h2 z hz, a2⟩, fun a ha b hb => ?_⟩
    rcases List.mem_cons.1 hb with rfl | hb
    · have := h1 a ha; have := hne a (List.mem_of_mem_take ha); show a.1 < c.1; omega
    · exact a3 a ha b hb
  · have hm : z ∈ rows.take i ++ [(c.1, dueC x now c)] ++ rows.drop i ↔ z ∈ rows ∨ z = (c.1, dueC x now c) := by
      conv => rhs; rw [← List.take_append_drop i rows]
      simp only [List.mem_append, List.mem_singleton]
      constructor
      · rintro ((h | h) | h)
        · exact .inl (.inl h)
        · exact .inr h
        · exact .inl (.inr h)
      · rintro ((h | h) | h)
        · exact .inl (.inl h)
        · exact .inr h
        · exact .inl (.inr h)
    rw [hm, h.mem]
    constructor
    · rintro (⟨d, hd, e⟩ | e)
      · exact ⟨d, List.mem_append_left _ hd, e⟩
      · exact ⟨c, by simp, hc, e⟩
    · rintro ⟨d, hd, e1, e2⟩
      rcases List.mem_append.1 hd with hd | hd
      · exact .inl ⟨d, hd, e1, e2⟩
      · rw [List.mem_singleton.1 hd] at e2; exact .inr e2
section
set_option maxRecDepth 20000
set_option synthInstance.maxSize 100000
set_option synthInstance.maxHeartbeats 4000000
variable {K : Value → St → Prop} {w0 w : World} {H R : List SL} {ds : List Deferred} {r : Nat} {x : Rst} {id now : Int}
structure Rst.fit (x : Rst) (now : Int) : Prop where
  a : x.cs.length ≤ 100000000
  b : InR (x.ping + x.grace) ∧ ∀ c ∈ x.cs, InR (now - c.2.1)
  n : (x.cs.map (·.1)).Nodup
instance rdue_ok [o : Hv w0 H w] [i : InK refR r H x R] : Step (Cl P 17 #[.pointer (some ⟨r, 0, none⟩), .int .i64 now] K ⟨w, ds⟩) (x.fit now ∧ ∀ v rows w', RowsC x now x.cs rows → rows.length ≤ x.cs.length → Hv w0 (row 51 2 v rows.length (rows.flatMap encIt) :: refR r { x with cs := x.cs.map (askC x now) } :: R) w' → K v ⟨w', ds⟩) := ⟨fun ⟨⟨hl, ⟨hpg, hin⟩, hnd⟩, h⟩ => by
  have o0 := i.hv o
  clear o
  refine s17 ?_
  unfold D17
  refine ⟨fun y z s => ∃ (i : Nat) (rows : List It) (w' : World), z = .int .i64 i ∧ s = ⟨w', []⟩ ∧ i ≤ x.cs.length ∧ RowsC x now (x.cs.take i) rows ∧ rows.length ≤ i ∧ Hv w0 (row 51 2 y rows.length (rows.flatMap encIt) :: refR r { x with cs := (x.cs.take i).map (askC x now) ++ x.cs.drop i } :: R) w',
    fun y z s => match z with | .int _ z => x.cs.length - z.toNat | _ => 0, ⟨0, [], w, rfl, rfl, Nat.zero_le _, ⟨List.Pairwise.nil, fun z => by simp⟩, Nat.le_refl _, ?_⟩, ?_⟩
  · simpa using Hv.nilRow 51 2 o0
  rintro y z s ⟨i, rows, w2, rfl, rfl, hi, hr, hrl, o2⟩
  clear o0
  obtain ⟨v, o3⟩ := ref_open (R := row 51 2 y rows.length (rows.flatMap encIt) :: R) (Hv.perm sep_swap o2)
  dsimp only at o3
  clear o2
  have ecl : ((x.cs.take i).map (askC x now) ++ x.cs.drop i).length = x.cs.length := by simp; omega
  rcases Nat.lt_or_ge i x.cs.length with hlt | hge
  · have eg : ((x.cs.take i).map (askC x now) ++ x.cs.drop i).getD i default = x.cs.getD i default := by
      simp [List.getD_eq_getElem?_getD, List.getElem?_append, Nat.min_eq_left hi]
    have hinc := hin (x.cs.getD i default) (by simp [List.getD_eq_getElem?_getD, hlt])
    generalize hcs : (x.cs.take i).map (askC x now) ++ x.cs.drop i = cs' at o3 ecl eg
    rw [ecl] at o3
    obtain ⟨⟨id, at', inn, asked⟩, hc⟩ : ∃ c, c = x.cs.getD i default := ⟨_, rfl⟩
    rw [← hc] at eg hinc
    dsimp only at hinc
    repeat (first | refine go ?_ | intro _ | refine ⟨sb, ?_⟩ | refine ⟨sd, ?_⟩ | dsimp only)
    refine ⟨fun h1 => ?_, fun h1 => by have := of_decide_eq_false h1; omega⟩
    refine go ?_
    repeat ((fail_if_success (refine j1_any (fun _ _ => True) ?_ ?_)); (first | refine go ?_ | intro _ | refine ⟨sb, ?_⟩ | refine ⟨sd, ?_⟩ | dsimp only))
    rename_i b16 w4 _ w5 o5
    rw [eg] at o5
    try rw [eg]
    clear o3
    have oH : Hv w0 ([box b16 48 [.int .i64 id, .int .i64 at', .bool inn, .bool asked], box r 37 [.int .i64 x.ping, .int .i64 x.grace, .int .i64 x.reg, v], row 48 4 v x.cs.length (cs'.flatMap encC), row 51 2 y rows.length (rows.flatMap encIt)] ++ R) w5 := o5
    clear o5
    generalize hHH : [box b16 48 [.int .i64 id, .int .i64 at', .bool inn, .bool asked], box r 37 [.int .i64 x.ping, .int .i64 x.grace, .int .i64 x.reg, v], row 48 4 v x.cs.length (cs'.flatMap encC), row 51 2 y rows.length (rows.flatMap encIt)] ++ R = HH at oH
    refine j1_hv w0 HH [] (.int .i64 (if inn = false ∧ x.reg ≤ now - at' then 1 else 0)) ?_ ?_
    · subst hHH
      simp only [List.cons_append, List.nil_append] at oH ⊢
      repeat' (first | refine go ?_ | intro _ | refine ⟨sb, ?_⟩ | refine ⟨sd, ?_⟩ | (refine ⟨fun h1 => ?_, fun h1 => ?_⟩ <;> first | exact ab h1 | ((try rw [h1]); (try simp only [bl] at h1))) | dsimp only)
      all_goals (subst_vars; exact ⟨congrArg (Value.int .i64) (by grind), _, rfl, Sub.hv subEnd⟩)
    intro w6 o6
    clear oH
    refine j1_hv w0 HH [] (.int .i64 (if inn = true ∧ x.ping ≤ now - at' ∧ asked = false then 2 else if inn = false ∧ x.reg ≤ now - at' then 1 else 0)) ?_ ?_
    · subst hHH
      simp only [List.cons_append, List.nil_append] at o6 ⊢
      repeat' (first | refine go ?_ | intro _ | refine ⟨sb, ?_⟩ | refine ⟨sd, ?_⟩ | (refine ⟨fun h1 => ?_, fun h1 => ?_⟩ <;> first | exact ab h1 | ((try rw [h1]); (try simp only [bl] at h1))) | dsimp only)
      all_goals (subst_vars; exact ⟨congrArg (Value.int .i64) (by grind), _, rfl, Sub.hv subEnd⟩)
    intro w7 o7
    clear o6
    obtain ⟨d, hd⟩ : ∃ d, d = dueC x now (id, at', inn, asked) := ⟨_, rfl⟩
    have hd' := hd
    unfold dueC at hd'
    dsimp only at hd'
    refine j1_hv w0 HH [] (.int .i64 d) ?_ ?_
    · subst hHH
      simp only [List.cons_append, List.nil_append] at o7 ⊢
      repeat' (first | refine go ?_ | intro _ | refine ⟨sb, ?_⟩ | refine ⟨sd, ?_⟩ | (refine ⟨fun h1 => ?_, fun h1 => ?_⟩ <;> first | exact ab h1 | ((try rw [h1]); (try simp only [bl] at h1))) | dsimp only)
      all_goals (subst_vars; exact ⟨congrArg (Value.int .i64) (by grind), _, rfl, Sub.hv subEnd⟩)
    intro w8 o8
    clear o7 hd'
    subst hHH
    simp only [List.cons_append, List.nil_append] at o8
    have hct : x.cs.take (i + 1) = x.cs.take i ++ [(id, at', inn, asked)] := by rw [take_snoc hlt, hc]
    have hnc : (id, at', inn, asked).1 ∉ (x.cs.take i).map (·.1) := by
      have h5 : x.cs = x.cs.take i ++ (id, at', inn, asked) :: x.cs.drop (i + 1) := drop_two (by rw [getD_at hlt, hc])
      have h6 := hnd
      rw [h5, List.map_append, List.nodup_append] at h6
      intro hx
      exact h6.2.2 _ hx _ (List.mem_map.2 ⟨_, List.mem_cons_self .., rfl⟩) rfl
    have hcs2 : (x.cs.take (i + 1)).map (askC x now) ++ x.cs.drop (i + 1) = cs'.set i (askC x now (id, at', inn, asked)) := by
      rw [← hcs, hct, List.map_append, List.set_append_right _ _ (by simp; omega)]
      have h7 : x.cs.drop i = (id, at', inn, asked) :: x.cs.drop (i + 1) := by rw [hc]; simp [hlt]
      rw [h7]
      simp [Nat.min_eq_left hi]
    repeat (first | refine go ?_ | intro _ | refine ⟨sb, ?_⟩ | refine ⟨sd, ?_⟩ | dsimp only)
    refine ⟨fun h2 => ?_, fun h2 => ?_⟩
    · -- nothing is due
      have hd0 : d = 0 := of_decide_eq_true h2
      repeat' (first | refine go ?_ | intro _ | refine ⟨sb, ?_⟩ | refine ⟨sd, ?_⟩ | (refine ⟨fun h1 => ?_, fun h1 => ?_⟩ <;> first | exact ab h1 | ((try rw [h1]); (try simp only [bl] at h1))) | dsimp only)
      refine ⟨⟨i + 1, rows, _, rfl, rfl, hlt, ?_, by omega, ?_⟩, by simp; omega⟩
      · rw [hct]; exact hr.skip (by rw [← hd, hd0])
      · refine Sub.hv <| subRow rfl rfl <| subRef ⟨rfl, rfl, rfl⟩ ?_ ?_ subEnd
        · simp; omega
        · rw [hcs2]
          have e1 : askC x now (id, at', inn, asked) = (id, at', inn, asked) := by unfold askC; rw [← hd, hd0]; rfl
          have e2 : cs'.set i (id, at', inn, asked) = cs' := set_same (by omega) eg
          rw [e1, e2]
    · have hd0 : d ≠ 0 := of_decide_eq_false h2
      obtain ⟨c', hc'⟩ : ∃ c', c' = askC x now (id, at', inn, asked) := ⟨_, rfl⟩
      refine j0_hv w0 (box b16 48 [.int .i64 id, .int .i64 at', .bool inn, .bool asked] :: box r 37 [.int .i64 x.ping, .int .i64 x.grace, .int .i64 x.reg, v] :: row 48 4 v x.cs.length ((cs'.set i c').flatMap encC) :: row 51 2 y rows.length (rows.flatMap encIt) :: R) [] ?_ ?_
      · refine go (go ⟨fun h3 => ?_, fun h3 => ?_⟩)
        all_goals simp only [bl] at h3
        all_goals repeat' (first | refine go ?_ | intro _ | refine ⟨sb, ?_⟩ | refine ⟨sd, ?_⟩ | (refine ⟨fun h1 => ?_, fun h1 => ?_⟩ <;> first | exact ab h1 | ((try rw [h1]); (try simp only [bl] at h1))) | dsimp only)
        · have e1 : c' = (id, at', inn, true) := by rw [hc']; unfold askC; rw [if_pos (by rw [← hd, h3])]
          have e2 : (cs'.flatMap encC).set (i * 4 + 3) (.bool true) = (cs'.set i c').flatMap encC := flat_setf (s := 4) (enc := encC) (fun _ => rfl) (by omega) (y := (id, at', inn, asked)) (by rw [e1]; rfl) cs' i (by rw [← eg]; exact getD_at (by omega))
          rw [← e2]
          exact ⟨_, rfl, Sub.hv <| subBox rfl <| subBox rfl <| subRow rfl rfl <| subRow rfl rfl subEnd⟩
        · have e1 : c' = (id, at', inn, asked) := by rw [hc']; unfold askC; rw [if_neg (by rw [← hd]; exact h3)]
          rw [e1, set_same (by omega) eg]
          exact ⟨_, rfl, o8⟩
      intro w9 o9
      clear o8
      repeat (first | refine go ?_ | intro _ | refine ⟨sb, ?_⟩ | refine ⟨sd, ?_⟩ | dsimp only)
      refine ⟨fun z s => ∃ (k : Nat) (w' : World), z = .int .i64 k ∧ s = ⟨w', []⟩ ∧ k ≤ rows.length ∧ (∀ z ∈ rows.drop k, id < z.1) ∧ Hv w0 (row 51 2 (.slice none 0 0) 0 [] :: box b16 48 [.int .i64 id, .int .i64 at', .bool inn, .bool asked] :: box r 37 [.int .i64 x.ping, .int .i64 x.grace, .int .i64 x.reg, v] :: row 48 4 v x.cs.length ((cs'.set i c').flatMap encC) :: row 51 2 y rows.length (rows.flatMap encIt) :: R) w',
        fun z s => match z with | .int _ z => z.toNat | _ => 0, ⟨rows.length, w9, rfl, rfl, Nat.le_refl _, by simp, Hv.nilRow 51 2 o9⟩, ?_⟩
      rintro z s ⟨k, w10, rfl, rfl, hk, hz, o10⟩
      clear o9
      have ex1 : (rows.flatMap encIt).drop (0 * 2) = rows.flatMap encIt := by simp
      have ex2 : (rows.flatMap encIt).take ((k - 0) * 2) = (rows.take k).flatMap encIt := flat_take (s := 2) (fun _ => rfl) _ _
      have ex3 : (rows.flatMap encIt).drop (k * 2) = (rows.drop k).flatMap encIt := flat_drop (s := 2) (fun _ => rfl) _ _
      have ex4 : ((rows.drop k).flatMap encIt).take ((rows.length - k) * 2) = (rows.drop k).flatMap encIt := List.take_of_length_le (by rw [flatMap_len (size := 2) (fun _ => rfl)]; simp)
      have put : (∀ z ∈ rows.take k, z.1 ≤ id) → RowsC x now (x.cs.take (i + 1)) (rows.take k ++ [(id, d)] ++ rows.drop k) := fun h7 => by
        rw [hct, hd]; exact hr.put (by rw [← hd]; exact hd0) hnc h7 hz
      repeat' (first | refine go ?_ | intro _ | refine ⟨sb, ?_⟩ | refine ⟨sd, ?_⟩ | (refine ⟨fun h1 => ?_, fun h1 => ?_⟩ <;> first | exact ab h1 | ((try rw [h1]); (try simp only [bl] at h1))) | dsimp only)
      · have hk0 : 0 < k := by omega
        have e7 : rows.drop (k - 1) = rows.getD (k - 1) default :: rows.drop k := by
          have : k - 1 < rows.length := by omega
          rw [List.drop_eq_getElem_cons this, show k - 1 + 1 = k by omega]; simp [List.getD_eq_getElem?_getD, this]
        refine ⟨⟨k - 1, _, congrArg (Value.int .i64) (by omega), rfl, by omega, fun z hz' => ?_, Sub.hv <| subRow rfl rfl <| subBox rfl <| subBox rfl <| subRow rfl rfl <| subRow rfl rfl subEnd⟩, by omega⟩
        rw [e7] at hz'
        rcases List.mem_cons.1 hz' with rfl | hz'
        · rw [show ((k : Int) - 1).toNat = k - 1 by omega] at h1; exact h1
        · exact hz z hz'
      · have hk0 : 0 < k := by omega
        refine ⟨⟨i + 1, rows.take k ++ [(id, d)] ++ rows.drop k, _, rfl, rfl, hlt, put fun z hz' => ?_, by simp; omega, Sub.hv <| subRow ?_ ?_ <| subRef ⟨rfl, rfl, rfl⟩ ?_ ?_ subEnd⟩, by simp; omega⟩
        · obtain ⟨j, hj, rfl⟩ := List.mem_take_iff_getElem.1 hz'
          rw [show ((k : Int) - 1).toNat = k - 1 by omega] at h1
          have h9 : rows.getD (k - 1) default = rows[k - 1] := by simp [List.getD_eq_getElem?_getD, show k - 1 < rows.length by omega]
          rw [h9] at h1
          rcases Nat.lt_or_ge j (k - 1) with h10 | h10
          · have := List.pairwise_iff_getElem.1 hr.srt j (k - 1) (by omega) (by omega) h10
            omega
          · obtain rfl : j = k - 1 := by omega
            exact h1
        · simp; omega
        · simp only [ex1, ex2, ex3, ex4, List.flatMap_append, List.flatMap_cons, List.flatMap_nil, List.nil_append, List.append_nil]
        · simp; omega
        · rw [hcs2, hc']
      · have hk0 : k = 0 := by omega
        refine ⟨⟨i + 1, rows.take k ++ [(id, d)] ++ rows.drop k, _, rfl, rfl, hlt, put fun z hz' => ?_, by simp; omega, Sub.hv <| subRow ?_ ?_ <| subRef ⟨rfl, rfl, rfl⟩ ?_ ?_ subEnd⟩, by simp; omega⟩
        · subst hk0; simp at hz'
        · simp; omega
        · simp only [ex1, ex2, ex3, ex4, List.flatMap_append, List.flatMap_cons, List.flatMap_nil, List.nil_append, List.append_nil]
        · simp; omega
        · rw [hcs2, hc']
  · obtain rfl : i = x.cs.length := by omega
    have e9 : (x.cs.take x.cs.length).map (askC x now) ++ x.cs.drop x.cs.length = x.cs.map (askC x now) := by simp
    rw [e9] at o3
    rw [List.take_length] at hr
    rw [List.length_map] at o3
    repeat' (first | refine go ?_ | intro _ | refine ⟨sb, ?_⟩ | refine ⟨sd, ?_⟩ | (refine ⟨fun h1 => ?_, fun h1 => ?_⟩ <;> first | exact ab h1 | ((try rw [h1]); (try simp only [bl] at h1))) | dsimp only)
    · omega
    · exact h _ rows _ hr hrl (Sub.hv <| subRow rfl rfl <| subRef ⟨rfl, rfl, rfl⟩ (by simp) rfl subEnd)⟩
end
end Go.Proofs.Ytogoaohhaiggpaa

