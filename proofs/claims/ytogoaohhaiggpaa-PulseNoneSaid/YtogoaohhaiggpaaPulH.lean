import Derived.Test.YtogoaohhaiggpaaPulG
set_option linter.all false
namespace Go.Proofs.Ytogoaohhaiggpaa
open Go.Vx
/-! the plain law: both know the same -/
structure RelC (x : Pst) (c : Cn) (now : Int) : Prop where
  tm : 0 ≤ c.2.1 ∧ c.2.1 ≤ now
  last : x.last c.1 = some c.2.1
  out : c.2.2.1 = false → x.late.2 c.1 = some (c.2.1 + x.reg) ∧ x.ask.2 c.1 = none ∧ x.dead.2 c.1 = none
  inn : c.2.2.1 = true → x.late.2 c.1 = none ∧ x.dead.2 c.1 = some (c.2.1 + x.ping + x.grace) ∧ (c.2.2.2 = true → x.ask.2 c.1 = none) ∧ (c.2.2.2 = false → ∃ t, x.ask.2 c.1 = some t ∧ (t = c.2.1 + x.ping ∨ t ≤ now ∧ c.2.1 + x.ping ≤ now))
structure Rel (x : Pst) (y : Rst) (now : Int) : Prop where
  num : x.ping = y.ping ∧ x.grace = y.grace ∧ x.reg = y.reg ∧ 1 ≤ x.grace
  nd : (y.cs.map (·.1)).Nodup
  out : ∀ k, k ∉ y.cs.map (·.1) → x.last k = none ∧ x.late.2 k = none ∧ x.ask.2 k = none ∧ x.dead.2 k = none
  ins : ∀ c ∈ y.cs, RelC x c now
theorem RelC.later {x : Pst} {c : Cn} {now now' : Int} (h : RelC x c now) (hn : now ≤ now') : RelC x c now' :=
  ⟨⟨h.tm.1, by have := h.tm.2; omega⟩, h.last, h.out, fun hi => by
    obtain ⟨a, b, d, e⟩ := h.inn hi
    exact ⟨a, b, d, fun hq => by obtain ⟨t, h1, h2⟩ := e hq; exact ⟨t, h1, by omega⟩⟩⟩
theorem Rel.later {x : Pst} {y : Rst} {now now' : Int} (h : Rel x y now) (hn : now ≤ now') : Rel x y now' := ⟨h.num, h.nd, h.out, fun c hc => (h.ins c hc).later hn⟩
theorem nd_eq {cs : List Cn} (h : (cs.map (·.1)).Nodup) {c d : Cn} (hc : c ∈ cs) (hd : d ∈ cs) (e : c.1 = d.1) : c = d := by
  induction cs with
  | nil => cases hc
  | cons a cs ih =>
    rw [List.map_cons, List.nodup_cons] at h
    rcases List.mem_cons.1 hc with rfl | hc <;> rcases List.mem_cons.1 hd with rfl | hd
    · rfl
    · exact absurd (show c.1 ∈ cs.map (·.1) from List.mem_map.2 ⟨d, by assumption, e.symm⟩) h.1
    · exact absurd (show d.1 ∈ cs.map (·.1) from List.mem_map.2 ⟨c, by assumption, e⟩) h.1
    · exact ih h.2 hc hd
theorem at_none {cs : List Cn} {id : Int} (h : atC cs id = none) : id ∉ cs.map (·.1) := fun hc => by
  obtain ⟨c, h1, h2⟩ := List.mem_map.1 hc
  have := List.findIdx?_eq_none_iff.1 h c h1
  simp [h2] at this
theorem at_split {cs : List Cn} (hn : (cs.map (·.1)).Nodup) {id : Int} {i : Nat} (h : atC cs id = some i) : ∃ c, cs[i]? = some c ∧ c ∈ cs ∧ c.1 = id ∧ ∀ d, d ∈ cs.take i ++ cs.drop (i + 1) ↔ d ∈ cs ∧ d.1 ≠ id := by
  obtain ⟨h1, h2⟩ := atC_some h
  have h3 := getD_at (ys := cs) h1
  refine ⟨_, h3, List.mem_of_getElem? h3, h2, fun d => ?_⟩
  have e := drop_two h3
  have hn2 := hn
  rw [e, List.map_append, List.map_cons, List.nodup_append, List.nodup_cons] at hn2
  obtain ⟨_, ⟨a2, _⟩, a3⟩ := hn2
  have hm : d ∈ cs ↔ d ∈ cs.take i ∨ d = cs.getD i default ∨ d ∈ cs.drop (i + 1) := by
    conv => lhs; rw [e]
    rw [List.mem_append, List.mem_cons]
  rw [hm, List.mem_append]
  constructor
  · rintro (h | h)
    · exact ⟨.inl h, fun e => a3 _ (List.mem_map.2 ⟨d, h, rfl⟩) _ (List.mem_cons_self ..) (e.trans h2.symm)⟩
    · exact ⟨.inr (.inr h), fun e => a2 (List.mem_map.2 ⟨d, h, e.trans h2.symm⟩)⟩
  · rintro ⟨h | h | h, h5⟩
    · exact .inl h
    · rw [h] at h5; exact absurd h2 h5
    · exact .inr h
theorem nd_leave {cs : List Cn} (hn : (cs.map (·.1)).Nodup) (id : Int) : ((leaveC cs id).map (·.1)).Nodup ∧ ∀ d, d ∈ leaveC cs id ↔ d ∈ cs ∧ d.1 ≠ id := by
  unfold leaveC
  cases h : atC cs id with
  | none => exact ⟨hn, fun d => ⟨fun hd => ⟨hd, fun e => at_none h (List.mem_map.2 ⟨d, hd, e⟩)⟩, fun h => h.1⟩⟩
  | some i =>
    obtain ⟨c, h1, h2, h3, h4⟩ := at_split hn h
    refine ⟨?_, h4⟩
    have : (cs.take i ++ cs.drop (i + 1)).Sublist cs := by
      have e := drop_two h1
      conv => rhs; rw [e]
      exact List.Sublist.append (List.Sublist.refl _) (List.sublist_cons_self ..)
    exact hn.sublist (this.map _)
theorem Rel.leave {x : Pst} {y : Rst} {now : Int} (h : Rel x y now) (id : Int) : Rel (x.leave id) { y with cs := leaveC y.cs id } now := by
  obtain ⟨h1, h2⟩ := nd_leave h.nd id
  refine ⟨h.num, h1, fun k hk => ?_, fun c hc => ?_⟩
  · by_cases e : k = id
    · subst e; exact ⟨updF_at .., updF_at .., updF_at .., updF_at ..⟩
    · have hk2 : k ∉ y.cs.map (·.1) := fun hm => by
        obtain ⟨d, h3, h4⟩ := List.mem_map.1 hm
        exact hk (List.mem_map.2 ⟨d, (h2 d).2 ⟨h3, by rw [h4]; exact e⟩, h4⟩)
      obtain ⟨a, b, c, d⟩ := h.out k hk2
      exact ⟨by rw [← a]; exact updF_ne _ e _, by rw [← b]; exact updF_ne _ e _, by rw [← c]; exact updF_ne _ e _, by rw [← d]; exact updF_ne _ e _⟩
  · obtain ⟨h3, h4⟩ := (h2 c).1 hc
    have h5 := h.ins c h3
    have e1 : (x.leave id).last c.1 = x.last c.1 := updF_ne _ h4 _
    have e2 : (x.leave id).late.2 c.1 = x.late.2 c.1 := updF_ne _ h4 _
    have e3 : (x.leave id).ask.2 c.1 = x.ask.2 c.1 := updF_ne _ h4 _
    have e4 : (x.leave id).dead.2 c.1 = x.dead.2 c.1 := updF_ne _ h4 _
    exact ⟨h5.tm, by rw [e1]; exact h5.last, fun hq => by rw [e2, e3, e4]; exact h5.out hq, fun hq => by rw [e2, e3, e4]; exact h5.inn hq⟩
theorem Rel.join {x : Pst} {y : Rst} {now : Int} (h : Rel x y now) (id : Int) (hn : 0 ≤ now) : Rel (x.join id now) { y with cs := joinC y.cs id now } now := by
  have h0 := h.leave id
  obtain ⟨h1, h2⟩ := nd_leave h.nd id
  have hni : id ∉ (leaveC y.cs id).map (·.1) := fun hm => by
    obtain ⟨d, h3, h4⟩ := List.mem_map.1 hm
    exact ((h2 d).1 h3).2 h4
  refine ⟨h.num, ?_, fun k hk => ?_, fun c hc => ?_⟩
  · show ((leaveC y.cs id ++ [(id, now, false, false)]).map (·.1)).Nodup
    rw [List.map_append, List.nodup_append]
    exact ⟨h1, by simp, fun a ha b hb => by simp at hb; subst hb; exact fun e => hni (e ▸ ha)⟩
  · have hk' : k ∉ (leaveC y.cs id).map (·.1) ∧ k ≠ id := by
      constructor
      · exact fun hm => hk (by show k ∈ (leaveC y.cs id ++ [(id, now, false, false)]).map (·.1); rw [List.map_append]; exact List.mem_append_left _ hm)
      · rintro rfl; exact hk (by show k ∈ (leaveC y.cs k ++ [(k, now, false, false)]).map (·.1); simp)
    obtain ⟨a, b, c, d⟩ := h0.out k hk'.1
    exact ⟨by rw [← a]; exact updF_ne _ hk'.2 _, by rw [← b]; exact updF_ne _ hk'.2 _, c, d⟩
  · rcases List.mem_append.1 (show c ∈ leaveC y.cs id ++ [(id, now, false, false)] from hc) with hc | hc
    · have h4 := ((h2 c).1 hc).2
      have h5 := h0.ins c hc
      have e1 : (x.join id now).last c.1 = (x.leave id).last c.1 := updF_ne _ h4 _
      have e2 : (x.join id now).late.2 c.1 = (x.leave id).late.2 c.1 := updF_ne _ h4 _
      exact ⟨h5.tm, by rw [e1]; exact h5.last, fun hq => by rw [e2]; exact h5.out hq, fun hq => by rw [e2]; exact h5.inn hq⟩
    · rw [List.mem_singleton.1 hc]
      obtain ⟨a, b, c, d⟩ := h0.out id hni
      exact ⟨⟨hn, Int.le_refl _⟩, updF_at .., fun _ => ⟨updF_at .., c, d⟩, fun hq => by cases hq⟩
theorem reg_mem {cs : List Cn} (hn : (cs.map (·.1)).Nodup) {id now : Int} {i : Nat} (h : atC cs id = some i) : ((cs.set i (id, now, true, false)).map (·.1)).Nodup ∧ (∀ k, k ∈ (cs.set i (id, now, true, false)).map (·.1) ↔ k ∈ cs.map (·.1)) ∧ ∀ d, d ∈ cs.set i (id, now, true, false) → d = (id, now, true, false) ∨ d ∈ cs ∧ d.1 ≠ id := by
  obtain ⟨c, h1, h2, h3, h4⟩ := at_split hn h
  have hi : i < cs.length := (List.getElem?_eq_some_iff.1 h1).1
  have e : (cs.set i (id, now, true, false)).map (·.1) = cs.map (·.1) := by
    rw [List.map_set]
    refine set_same (by simpa using hi) ?_
    rw [List.getD_eq_getElem?_getD, List.getElem?_map, h1]; exact h3
  refine ⟨by rw [e]; exact hn, fun k => by rw [e], fun d hd => ?_⟩
  have e2 : cs.set i (id, now, true, false) = cs.take i ++ (id, now, true, false) :: cs.drop (i + 1) := by
    rw [List.set_eq_take_append_cons_drop, if_pos hi]
  rw [e2, List.mem_append, List.mem_cons] at hd
  rcases hd with hd | hd | hd
  · exact .inr ((h4 d).1 (List.mem_append_left _ hd))
  · exact .inl hd
  · exact .inr ((h4 d).1 (List.mem_append_right _ hd))
theorem Rel.reg {x : Pst} {y : Rst} {now : Int} (h : Rel x y now) (id : Int) (hn : 0 ≤ now) : Rel (x.reg1 id now) { y with cs := regC y.cs id now } now := by
  unfold Pst.reg1 regC
  cases hc : atC y.cs id with
  | none =>
    rw [(h.out id (at_none hc)).1]
    exact h
  | some i =>
    obtain ⟨c, h1, h2, h3, h4⟩ := at_split h.nd hc
    obtain ⟨g1, g2, g3⟩ := reg_mem (now := now) h.nd hc
    have hl : (x.last id).isSome = true := by have := (h.ins c h2).last; rw [h3] at this; rw [this]; rfl
    rw [if_pos hl]
    refine ⟨h.num, g1, fun k hk => ?_, fun d hd => ?_⟩
    · have hk2 : k ∉ y.cs.map (·.1) := fun hm => hk ((g2 k).2 hm)
      have hne : k ≠ id := fun e => hk2 (by rw [e, ← h3]; exact List.mem_map.2 ⟨c, h2, rfl⟩)
      obtain ⟨a, b, c, d⟩ := h.out k hk2
      exact ⟨by rw [← a]; exact updF_ne _ hne _, by rw [← b]; exact updF_ne _ hne _, by rw [← c]; exact updF_ne _ hne _, by rw [← d]; exact updF_ne _ hne _⟩
    · rcases g3 d hd with rfl | ⟨h5, h6⟩
      · exact ⟨⟨hn, Int.le_refl _⟩, updF_at .., fun hq => (by cases hq), fun _ => ⟨updF_at .., updF_at .., fun hq => (by cases hq), fun _ => ⟨_, updF_at .., .inl rfl⟩⟩⟩
      · have h7 := h.ins d h5
        exact ⟨h7.tm, (updF_ne _ h6 _).trans h7.last, fun hq => by
          obtain ⟨a, b, e⟩ := h7.out hq
          exact ⟨(updF_ne _ h6 _).trans a, (updF_ne _ h6 _).trans b, (updF_ne _ h6 _).trans e⟩, fun hq => by
          obtain ⟨a, b, e, f⟩ := h7.inn hq
          exact ⟨(updF_ne _ h6 _).trans a, (updF_ne _ h6 _).trans b, fun h8 => (updF_ne _ h6 _).trans (e h8), fun h8 => by
            obtain ⟨t, h9, h10⟩ := f h8
            exact ⟨t, (updF_ne _ h6 _).trans h9, h10⟩⟩⟩
theorem Rel.line {x : Pst} {y : Rst} {now : Int} (h : Rel x y now) (id : Int) (hn : 0 ≤ now) : Rel (x.line id now) { y with cs := lineC y.cs id now } now := by
  have hr := h.reg id hn
  unfold Pst.line
  unfold lineC
  cases hc : atC y.cs id with
  | none =>
    rw [(h.out id (at_none hc)).2.2.2]
    exact h
  | some i =>
    obtain ⟨c, h1, h2, h3, h4⟩ := at_split h.nd hc
    have hg : y.cs.getD i default = c := by rw [List.getD_eq_getElem?_getD, h1]; rfl
    have h5 := h.ins c h2
    have e : regC y.cs id now = y.cs.set i (id, now, true, false) := by unfold regC; rw [hc]
    dsimp only
    rw [hg]
    cases hi : c.2.2.1 with
    | true =>
      have := (h5.inn hi).2.1
      rw [h3] at this
      rw [this]
      rw [e] at hr
      exact hr
    | false =>
      have := (h5.out hi).2.2
      rw [h3] at this
      rw [this]
      exact h
theorem what_in {x : Pst} {y : Rst} {now : Int} (h : Rel x y now) {c : Cn} (hc : c ∈ y.cs) : whatF x now c.1 = if dueC y now c = 0 then none else some (dueC y now c) := by
  have hr := h.ins c hc
  obtain ⟨e1, e2, e3, e4⟩ := h.num
  unfold whatF dueC dueB
  cases hi : c.2.2.1 with
  | false =>
    obtain ⟨a, b, d⟩ := hr.out hi
    rw [a, b, d]
    by_cases h1 : y.reg ≤ now - c.2.1
    · simp [h1, show c.2.1 + x.reg ≤ now by omega]
    · simp [h1, show ¬ c.2.1 + x.reg ≤ now by omega]
  | true =>
    obtain ⟨a, b, d, f⟩ := hr.inn hi
    rw [a, b]
    by_cases h1 : y.ping + y.grace ≤ now - c.2.1
    · simp [h1, show c.2.1 + x.ping + x.grace ≤ now by omega]
    · have h2 : ¬ c.2.1 + x.ping + x.grace ≤ now := by omega
      cases hq : c.2.2.2 with
      | true => rw [d hq]; simp [h1, h2]
      | false =>
        obtain ⟨t, h3, h4⟩ := f hq
        rw [h3]
        by_cases h5 : y.ping ≤ now - c.2.1
        · simp [h1, h2, h5, show t ≤ now by omega]
        · simp [h1, h2, h5, show ¬ t ≤ now by omega]
theorem what_out {x : Pst} {y : Rst} {now k : Int} (h : Rel x y now) (hk : k ∉ y.cs.map (·.1)) : whatF x now k = none := by
  obtain ⟨_, b, c, d⟩ := h.out k hk
  unfold whatF dueB; rw [b, c, d]; rfl
theorem due_rows {x : Pst} {y : Rst} {now : Int} {l : List It} (h : Rel x y now) (hd : DueP x now l) : RowsC y now y.cs l := ⟨hd.srt, fun z => by
  obtain ⟨k, a⟩ := z
  rw [hd.mem]
  constructor
  · intro hw
    by_cases hk : k ∈ y.cs.map (·.1)
    · obtain ⟨c, hc, rfl⟩ := List.mem_map.1 hk
      rw [what_in h hc] at hw
      split at hw
      · cases hw
      · rename_i h0; exact ⟨c, hc, h0, by rw [Option.some.inj hw]⟩
    · rw [what_out h hk] at hw; cases hw
  · rintro ⟨c, hc, h0, e⟩
    obtain ⟨rfl, rfl⟩ := Prod.mk.inj e
    rw [what_in h hc, if_neg h0]⟩
theorem sorted_ext : ∀ {l r : List It}, l.Pairwise (fun a b => a.1 < b.1) → r.Pairwise (fun a b => a.1 < b.1) → (∀ z, z ∈ l ↔ z ∈ r) → l = r
  | [], r, _, _, h => by
    cases r with
    | nil => rfl
    | cons a r => exact absurd ((h a).2 (List.mem_cons_self ..)) (by simp)
  | a :: l, [], _, _, h => absurd ((h a).1 (List.mem_cons_self ..)) (by simp)
  | a :: l, b :: r, hl, hr, h => by
    rw [List.pairwise_cons] at hl hr
    have hab : a = b := by
      rcases List.mem_cons.1 ((h a).1 (List.mem_cons_self ..)) with e | e
      · exact e
      · rcases List.mem_cons.1 ((h b).2 (List.mem_cons_self ..)) with e2 | e2
        · exact e2.symm
        · have h1 := hr.1 a e
          have h2 := hl.1 b e2
          omega
    subst hab
    rw [sorted_ext hl.2 hr.2 fun z => ?_]
    constructor
    · intro hz
      rcases List.mem_cons.1 ((h z).1 (List.mem_cons_of_mem _ hz)) with e | e
      · have := hl.1 z hz; rw [e] at this; omega
      · exact e
    · intro hz
      rcases List.mem_cons.1 ((h z).2 (List.mem_cons_of_mem _ hz)) with e | e
      · have := hr.1 z hz; rw [e] at this; omega
      · exact e
theorem rows_ext {y : Rst} {now : Int} {cs : List Cn} {l r : List It} (h1 : RowsC y now cs l) (h2 : RowsC y now cs r) : l = r := sorted_ext h1.srt h2.srt fun z => by rw [h1.mem, h2.mem]
theorem Rel.due {x : Pst} {y : Rst} {now : Int} (h : Rel x y now) : Rel (x.due now) { y with cs := y.cs.map (askC y now) } now := by
  have e0 : ∀ c : Cn, (askC y now c).1 = c.1 := fun c => by unfold askC; split <;> rfl
  have em : (y.cs.map (askC y now)).map (·.1) = y.cs.map (·.1) := by rw [List.map_map]; exact List.map_congr_left fun c _ => e0 c
  obtain ⟨n1, n2, n3, n4⟩ := h.num
  refine ⟨h.num, by rw [em]; exact h.nd, fun k hk => ?_, fun d hd => ?_⟩
  · rw [em] at hk
    obtain ⟨a, b, c, d⟩ := h.out k hk
    refine ⟨a, b, ?_, d⟩
    show askF x now k = none
    unfold askF dueB takeF; rw [c, d]; rfl
  · obtain ⟨c, hc, rfl⟩ := List.mem_map.1 hd
    have hr := h.ins c hc
    have t1 : (askC y now c).2.1 = c.2.1 := by unfold askC; split <;> rfl
    have t2 : (askC y now c).2.2.1 = c.2.2.1 := by unfold askC; split <;> rfl
    refine ⟨by rw [t1]; exact hr.tm, by rw [e0, t1]; exact hr.last, fun hq => ?_, fun hq => ?_⟩
    · rw [t2] at hq
      obtain ⟨a, b, d⟩ := hr.out hq
      rw [e0, t1]
      refine ⟨a, ?_, d⟩
      show askF x now c.1 = none
      unfold askF dueB takeF; rw [b, d]; rfl
    · rw [t2] at hq
      obtain ⟨a, b, d, f⟩ := hr.inn hq
      rw [e0, t1]
      refine ⟨a, b, fun hz => ?_, fun hz => ?_⟩
      · show askF x now c.1 = none
        unfold askF dueB takeF
        cases hq2 : c.2.2.2 with
        | true => rw [d hq2]; simp
        | false =>
          obtain ⟨t, h3, h4⟩ := f hq2
          have h5 : dueC y now c = 2 := by
            apply Classical.byContradiction; intro h6
            unfold askC at hz; rw [if_neg h6] at hz; rw [hq2] at hz; cases hz
          unfold dueC at h5
          rw [hq] at h5
          have h6 : ¬ y.ping + y.grace ≤ now - c.2.1 := fun h7 => by simp [h7] at h5
          have h7 : y.ping ≤ now - c.2.1 := by
            apply Classical.byContradiction; intro h8; simp [h6, h8] at h5
          rw [b, h3]
          simp [show ¬ c.2.1 + x.ping + x.grace ≤ now by omega, Option.filter, show ¬ now < t by omega]
      · have hq2 : c.2.2.2 = false := by
          unfold askC at hz; split at hz
          · cases hz
          · exact hz
        obtain ⟨t, h3, h4⟩ := f hq2
        have h5 : dueC y now c ≠ 2 := fun h6 => by unfold askC at hz; rw [if_pos h6] at hz; cases hz
        show ∃ t, askF x now c.1 = some t ∧ _
        unfold askF dueB takeF
        rw [b, h3]
        by_cases h6 : c.2.1 + x.ping + x.grace ≤ now
        · by_cases h7 : t ≤ now
          · exact ⟨now, by simp [h6, h7], .inr ⟨Int.le_refl _, show c.2.1 + x.ping ≤ now by omega⟩⟩
          · exfalso; omega
        · have h8 : ¬ y.ping ≤ now - c.2.1 := fun h8 => h5 (by
            unfold dueC; rw [hq, hq2]
            simp [show ¬ y.ping + y.grace ≤ now - c.2.1 by omega, h8])
          have h9 : now < t := by omega
          exact ⟨t, by simp [h6, Option.filter, h9], h4⟩
end Go.Proofs.Ytogoaohhaiggpaa

