import Derived.Test.YtliknfpdgppjkaaGreatDoorRmK
set_option linter.all false
namespace Go.Proofs.YtliknfpdgppjkaaGreatDoor
open Go.Vx Go.Lib
/-! the document's changes -/
def isFl (c : UInt8) : Prop := c = 105 ∨ c = 109 ∨ c = 110 ∨ c = 115 ∨ c = 116
instance (c : UInt8) : Decidable (isFl c) := by unfold isFl; infer_instance
def Rf.setMem (x : Rf) (id : Int) (le : UInt8) (on : Bool) : Rf := { x with l := x.l.set (x.at id).toNat (memS (x.l.getD (x.at id).toNat default) le on) }
def Rf.change (x : Rf) (c : Chg) (id : Int) : Rf × Chg × Int :=
  if isFl c.2.1 then (if x.flag c.2.1 = c.1 then (x, noC, 0) else ({ x with on := x.on.filter (fun b => !decide (b = c.2.1)) ++ (if c.1 = true then [c.2.1] else []) }, (c.1, c.2.1, []), 0))
  else if c.2.1 = 111 ∨ c.2.1 = 118 then (if x.at id < 0 then (x, noC, 441) else if memC (x.l.getD (x.at id).toNat default) c.2.1 = c.1 then (x, noC, 0) else (x.setMem id c.2.1 c.1, c, 0))
  else if c.2.1 = 107 then (if c.1 = true then (if keyB c.2.2 = false ∨ x.key ≠ [] then (x, noC, 475) else ({ x with key := c.2.2 }, c, 0)) else if x.key = [] then (x, noC, 0) else ({ x with key := [] }, (false, 107, [42]), 0))
  else if c.2.1 = 108 then (if c.1 = true then (if numS c.2.2 = 0 ∨ (numS c.2.2 : Int) = x.limit then (x, noC, 0) else ({ x with limit := numS c.2.2 }, c, 0)) else if x.limit = 0 then (x, noC, 0) else ({ x with limit := 0 }, (c.1, c.2.1, []), 0))
  else if c.2.1 = 98 then x.banC c else (x, noC, 472)
section
set_option maxRecDepth 20000
set_option synthInstance.maxSize 100000
set_option synthInstance.maxHeartbeats 4000000
variable {K : Value → St → Prop} {w0 w : World} {H R : List SL} {ds : List Deferred} {p : Nat} {x : Rf} {id : Int} {on : Bool} {le : UInt8} {arg : List UInt8}
instance fchange_ok [o : Hv w0 H w] [i : InK refR p H x R] : Step (Cl P 35 #[.pointer (some ⟨p, 0, none⟩), .agg #[.bool on, byteV le, str arg], .int .i64 id] K ⟨w, ds⟩) (((x.fit ∧ ∀ b ∈ x.bans, b.length ≤ 100) ∧ arg.length ≤ 100000) ∧ ∀ w', Hv w0 (refR p (x.change (on, le, arg) id).1 :: R) w' → K (.tuple #[chV (x.change (on, le, arg) id).2.1, .int .i64 (x.change (on, le, arg) id).2.2]) ⟨w', ds⟩) := ⟨fun ⟨⟨⟨hf, hbl⟩, hl⟩, h⟩ => by
  have o1 := i.hv o
  clear o
  have f4 := hf.d
  have hat := x.at_le id
  refine s35 ?_
  unfold D35
  repeat ((fail_if_success (refine j1_any (fun _ _ => True) ?_ ?_)); (first | refine go ?_ | intro _ | refine ⟨sb, ?_⟩ | refine ⟨sd, ?_⟩ | dsimp only))
  rename_i b1 wa oa b2 wb ob b4 wc oc w1 o2
  clear oa ob oc o1
  refine j1_any (fun x s => x = .bool (decide (isFl le)) ∧ s = ⟨w1, []⟩) ?_ ?_
  · repeat' (first | refine go ?_ | intro _ | refine ⟨sb, ?_⟩ | refine ⟨sd, ?_⟩ | (refine ⟨fun h1 => ?_, fun h1 => ?_⟩ <;> first | exact ab h1 | ((try rw [h1]); (try simp only [bl] at h1))) | dsimp only)
    all_goals
      refine ⟨congrArg Value.bool ?_, rfl⟩
      unfold isFl
      clear h
      grind
  rintro _ _ ⟨rfl, rfl⟩
  cases hfl : decide (isFl le) with
  | true =>
    have hfl := of_decide_eq_true hfl
    repeat' (first | refine go ?_ | intro _ | refine ⟨sb, ?_⟩ | refine ⟨sd, ?_⟩ | (refine ⟨fun h1 => ?_, fun h1 => ?_⟩ <;> first | exact ab h1 | ((try rw [h1]); (try simp only [bl] at h1))) | dsimp only)
    · rw [show x.change (on, le, arg) id = (x, noC, 0) from by unfold Rf.change; rw [if_pos hfl, if_pos (eq_of_beq h1)]] at h
      exact h _ (Sub.hv (subK rfl subEnd))
    rename_i w2 o3
    have hne : ¬ x.flag le = on := fun e => by rw [e] at h1; simp at h1
    have hch : x.change (on, le, arg) id = ({ x with on := x.on.filter (fun b => !decide (b = le)) ++ (if on = true then [le] else []) }, (on, le, []), 0) := by unfold Rf.change; rw [if_pos hfl, if_neg hne]
    rw [hch] at h
    refine ⟨fun y z s => ∃ (i : Nat) (w' : World), y = str ((x.on.take i).filter (fun b => !decide (b = le))) ∧ z = .int .i64 i ∧ s = ⟨w', []⟩ ∧ i ≤ x.on.length ∧ Hv w0 (box b4 24 [.bool false, byteV 0, str []] :: box b2 24 [.bool false, byteV 0, str []] :: box b1 24 [.bool on, byteV le, str arg] :: refR p x :: R) w',
      fun _ z s => match z with | .int _ z => x.on.length - z.toNat | _ => 0, ⟨0, w2, rfl, rfl, rfl, Nat.zero_le _, Sub.hv (subBox rfl (subBox rfl (subBox rfl (subK rfl subEnd))))⟩, ?_⟩
    rintro y z s ⟨i, w3, rfl, rfl, rfl, hi, o4⟩
    obtain ⟨vm, vb, vg, o5⟩ := ref_open ((inferInstance : InK refR p _ x _).hv o4)
    clear o2 o3 o4
    have hfi : ((x.on.take i).filter (fun b => !decide (b = le))).length ≤ 100 := Nat.le_trans (List.length_filter_le ..) (by rw [List.length_take]; omega)
    rcases Nat.lt_or_ge i x.on.length with hlt | hge
    · have hst : (x.on.take (i + 1)).filter (fun b => !decide (b = le)) = (x.on.take i).filter (fun b => !decide (b = le)) ++ (if x.on.getD i default = le then [] else [x.on.getD i default]) := by
        rw [take_snoc hlt, List.filter_append]; congr 1
        by_cases hq : x.on.getD i default = le
        · rw [if_pos hq, List.filter_cons_of_neg (by rw [decide_eq_true hq]; simp)]; rfl
        · rw [if_neg hq, List.filter_cons_of_pos (by rw [decide_eq_false hq]; rfl)]; rfl
      have hone : (x.on.take (i + 1)).drop i = [x.on.getD i default] := one_piece hlt rfl
      repeat' (first | refine go ?_ | intro _ | refine ⟨sb, ?_⟩ | refine ⟨sd, ?_⟩ | (refine ⟨fun h1 => ?_, fun h1 => ?_⟩ <;> first | exact ab h1 | ((try rw [h1]); (try simp only [bl] at h1))) | dsimp only)
      · rw [if_neg h1] at hst
        exact ⟨⟨i + 1, _, by rw [hst, hone], rfl, rfl, hlt, Sub.hv (subBox rfl (subBox rfl (subBox rfl (subRefR ⟨rfl, rfl, rfl, rfl, rfl, rfl⟩ rfl rfl rfl rfl rfl rfl subEnd))))⟩, by simp; omega⟩
      · rw [if_pos h1, List.append_nil] at hst
        exact ⟨⟨i + 1, _, by rw [hst], rfl, rfl, hlt, Sub.hv (subBox rfl (subBox rfl (subBox rfl (subRefR ⟨rfl, rfl, rfl, rfl, rfl, rfl⟩ rfl rfl rfl rfl rfl rfl subEnd))))⟩, by simp; omega⟩
      · exfalso; omega
    · rw [List.take_of_length_le hge] at *
      repeat' (first | refine go ?_ | intro _ | refine ⟨sb, ?_⟩ | refine ⟨sd, ?_⟩ | (refine ⟨fun h1 => ?_, fun h1 => ?_⟩ <;> first | exact ab h1 | ((try rw [h1]); (try simp only [bl] at h1))) | dsimp only)
      · exfalso; omega
      · rw [if_pos h1] at h
        exact h _ (Sub.hv (subRefR ⟨rfl, rfl, rfl, rfl, rfl, rfl⟩ rfl rfl rfl rfl rfl rfl subEnd))
      · rw [if_neg (by simp [h1]), List.append_nil] at h
        exact h _ (Sub.hv (subRefR ⟨rfl, rfl, rfl, rfl, rfl, rfl⟩ rfl rfl rfl rfl rfl rfl subEnd))
  | false =>
    have hfl := of_decide_eq_false hfl
    repeat ((fail_if_success (refine j1_any (fun _ _ => True) ?_ ?_)); (first | refine go ?_ | intro _ | refine ⟨sb, ?_⟩ | refine ⟨sd, ?_⟩ | dsimp only))
    refine j1_any (fun x s => x = .bool (decide (le = 111 ∨ le = 118)) ∧ s = ⟨w1, []⟩) ?_ ?_
    · repeat' (first | refine go ?_ | intro _ | refine ⟨sb, ?_⟩ | refine ⟨sd, ?_⟩ | (refine ⟨fun h1 => ?_, fun h1 => ?_⟩ <;> first | exact ab h1 | ((try rw [h1]); (try simp only [bl] at h1))) | dsimp only)
      all_goals
        refine ⟨congrArg Value.bool ?_, rfl⟩
        clear h
        grind
    rintro _ _ ⟨rfl, rfl⟩
    cases hov : decide (le = 111 ∨ le = 118) with
    | true =>
      have hov := of_decide_eq_true hov
      repeat (first | refine go ?_ | intro _ | refine ⟨sb, ?_⟩ | refine ⟨sd, ?_⟩ | dsimp only)
      rename_i w2 o3
      obtain ⟨vm, vb, vg, o5⟩ := ref_open ((inferInstance : InK refR p _ x _).hv o3)
      clear o2 o3
      have f1 := hf.a
      repeat' (first | refine go ?_ | intro _ | refine ⟨sb, ?_⟩ | refine ⟨sd, ?_⟩ | (refine ⟨fun h1 => ?_, fun h1 => ?_⟩ <;> first | exact ab h1 | ((try rw [h1]); (try simp only [bl] at h1))) | dsimp only)
      · rw [show x.change (on, le, arg) id = (x, noC, 441) from by unfold Rf.change; rw [if_neg hfl, if_pos hov, if_pos h1]] at h
        exact h _ (Sub.hv (subRefR ⟨rfl, rfl, rfl, rfl, rfl, rfl⟩ rfl rfl rfl rfl rfl rfl subEnd))
      all_goals
        have ha : ¬ x.at id < 0 := by omega
        have hq := h1
        generalize hm : x.l.getD (x.at id).toNat default = m at hq
      · have h0 : le = 111 := by assumption
        have e : x.change (on, le, arg) id = (x, noC, 0) := by unfold Rf.change; rw [if_neg hfl, if_pos hov, if_neg ha, if_pos]; rw [hm]; unfold memC; rw [if_neg (by simp [h0])]; exact (eq_of_beq hq.2.1).symm
        rw [e] at h
        exact h _ (Sub.hv (subRefR ⟨rfl, rfl, rfl, rfl, rfl, rfl⟩ rfl rfl rfl rfl rfl rfl subEnd))
      · have h0 : le = 111 := by assumption
        have e : x.change (on, le, arg) id = (x.setMem id le on, (on, le, arg), 0) := by unfold Rf.change; rw [if_neg hfl, if_pos hov, if_neg ha, if_neg]; rw [hm]; unfold memC; rw [if_neg (by simp [h0])]; intro hh; exact absurd (hq trivial (by rw [show m.2.1 = on from hh]; simp) (by simp)) (by simp)
        rw [e] at h
        have e8 : memS (x.l.getD (x.at id).toNat default) le on = ((x.l.getD (x.at id).toNat default).1, on, (x.l.getD (x.at id).toNat default).2.2) := by unfold memS; rw [if_neg (by rw [h0]; decide)]
        exact h _ (Sub.hv (subRefR ⟨rfl, rfl, rfl, rfl, rfl, rfl⟩ (by simp [Rf.setMem]) (by unfold Rf.setMem; rw [e8]) rfl rfl rfl rfl subEnd))
      · have h0 : le = 118 := hov.resolve_left (by assumption)
        have e : x.change (on, le, arg) id = (x, noC, 0) := by unfold Rf.change; rw [if_neg hfl, if_pos hov, if_neg ha, if_pos]; rw [hm]; unfold memC; rw [if_pos h0]; exact (eq_of_beq hq.2.2.1).symm
        rw [e] at h
        exact h _ (Sub.hv (subRefR ⟨rfl, rfl, rfl, rfl, rfl, rfl⟩ rfl rfl rfl rfl rfl rfl subEnd))
      · have h0 : le = 118 := hov.resolve_left (by assumption)
        have e : x.change (on, le, arg) id = (x.setMem id le on, (on, le, arg), 0) := by unfold Rf.change; rw [if_neg hfl, if_pos hov, if_neg ha, if_neg]; rw [hm]; unfold memC; rw [if_pos h0]; intro hh; exact absurd (hq trivial (by simp) (by rw [show m.2.2 = on from hh]; simp)) (by simp)
        rw [e] at h
        have e8 : memS (x.l.getD (x.at id).toNat default) le on = ((x.l.getD (x.at id).toNat default).1, (x.l.getD (x.at id).toNat default).2.1, on) := by unfold memS; rw [if_pos h0]
        exact h _ (Sub.hv (subRefR ⟨rfl, rfl, rfl, rfl, rfl, rfl⟩ (by simp [Rf.setMem]) (by unfold Rf.setMem; rw [e8]) rfl rfl rfl rfl subEnd))
    | false =>
      have hov := of_decide_eq_false hov
      by_cases h98 : le = 98
      · have e : x.change (on, le, arg) id = x.banC (on, le, arg) := by unfold Rf.change; rw [if_neg hfl, if_neg hov, if_neg (by simp [h98]), if_neg (by simp [h98]), if_pos h98]
        rw [e] at h
        subst h98
        repeat' (first | refine go ?_ | intro _ | refine ⟨sb, ?_⟩ | refine ⟨sd, ?_⟩ | (refine ⟨fun h1 => ?_, fun h1 => ?_⟩ <;> first | exact ab h1 | ((try rw [h1]); (try simp only [bl] at h1))) | dsimp only)
        all_goals first
          | exact h _ (Sub.hv (subK rfl subEnd))
          | (exfalso; revert h1; decide)
          | trace_state
      obtain ⟨vm, vb, vg, o5⟩ := ref_open ((inferInstance : InK refR p _ x _).hv o2)
      clear o2
      repeat' (first | refine go ?_ | intro _ | refine ⟨sb, ?_⟩ | refine ⟨sd, ?_⟩ | (refine ⟨fun h1 => ?_, fun h1 => ?_⟩ <;> first | exact ab h1 | ((try rw [h1]); (try simp only [bl] at h1))) | dsimp only)
      all_goals first
        | (exfalso; exact h98 (by assumption))
        | (have e : x.change (on, le, arg) id = (x, noC, 475) := by unfold Rf.change; rw [if_neg hfl, if_neg hov]; clear h; grind
           rw [e] at h
           exact h _ (Sub.hv (subRefR ⟨rfl, rfl, rfl, rfl, rfl, rfl⟩ rfl rfl rfl rfl rfl rfl subEnd)))
        | (have e : x.change (on, le, arg) id = ({ x with key := arg }, (on, le, arg), 0) := by unfold Rf.change; rw [if_neg hfl, if_neg hov]; clear h; grind
           rw [e] at h
           exact h _ (Sub.hv (subRefR ⟨rfl, rfl, rfl, rfl, rfl, rfl⟩ rfl rfl rfl rfl rfl rfl subEnd)))
        | (have e : x.change (on, le, arg) id = (x, noC, 0) := by unfold Rf.change; rw [if_neg hfl, if_neg hov]; clear h; grind
           rw [e] at h
           exact h _ (Sub.hv (subRefR ⟨rfl, rfl, rfl, rfl, rfl, rfl⟩ rfl rfl rfl rfl rfl rfl subEnd)))
        | (have e : x.change (on, le, arg) id = ({ x with key := [] }, (false, 107, [42]), 0) := by unfold Rf.change; rw [if_neg hfl, if_neg hov]; clear h; grind
           rw [e] at h
           exact h _ (Sub.hv (subRefR ⟨rfl, rfl, rfl, rfl, rfl, rfl⟩ rfl rfl rfl rfl rfl rfl subEnd)))
        | (have e : x.change (on, le, arg) id = ({ x with limit := numS arg }, (on, le, arg), 0) := by unfold Rf.change; rw [if_neg hfl, if_neg hov]; clear h; grind
           rw [e] at h
           exact h _ (Sub.hv (subRefR ⟨rfl, rfl, rfl, rfl, rfl, rfl⟩ rfl rfl rfl rfl rfl rfl subEnd)))
        | (have e : x.change (on, le, arg) id = ({ x with limit := 0 }, (on, le, []), 0) := by unfold Rf.change; rw [if_neg hfl, if_neg hov]; clear h; grind
           rw [e] at h
           exact h _ (Sub.hv (subRefR ⟨rfl, rfl, rfl, rfl, rfl, rfl⟩ rfl rfl rfl rfl rfl rfl subEnd)))
        | (have e : x.change (on, le, arg) id = (x, noC, 472) := by unfold Rf.change; rw [if_neg hfl, if_neg hov]; clear h; grind
           rw [e] at h
           exact h _ (Sub.hv (subRefR ⟨rfl, rfl, rfl, rfl, rfl, rfl⟩ rfl rfl rfl rfl rfl rfl subEnd)))
        | trace_state⟩
end
end Go.Proofs.YtliknfpdgppjkaaGreatDoor

