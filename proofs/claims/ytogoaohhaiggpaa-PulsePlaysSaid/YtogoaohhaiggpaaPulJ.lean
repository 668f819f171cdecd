import Derived.Test.YtogoaohhaiggpaaPulI
import Derived.Test.YtogoaohhaiggpaaEng
set_option linter.all false
namespace Go.Proofs.Ytogoaohhaiggpaa
open Go.Vx
/-! PulsePlays -/
abbrev Act := Int × Int × Int
abbrev encA (a : Act) : List Value := [.int .i64 a.1, .int .i64 a.2.1, .int .i64 a.2.2]
instance : UEnc encA 3 := ⟨fun _ => rfl⟩
theorem act_one (y : Act) : ∀ u ∈ encA y, u.oneCell' = true := fun u hu => by
  simp only [encA, List.mem_cons, List.not_mem_nil, or_false] at hu
  rcases hu with rfl | rfl | rfl <;> rfl
theorem act_each {H : Type} {enc : TypeId × Value → H} {W : World} {sp : Nat → Bool} {held : Bool} {fuel : Nat} {cs : List Value} {x : DataW H × List MemPlace} (h : DataW.trod enc Try.prog W 0 sp held fuel 39 cs = some x) (hl : cs.length = 3) : ∃ y : Act, cs = encA y := by
  obtain ⟨a, e0, _⟩ := struct_int (i := 0) Try.underlying39 h rfl Try.underlying3 (by kernel_rfl)
  obtain ⟨b, e1, _⟩ := struct_int (i := 1) Try.underlying39 h rfl Try.underlying3 (by kernel_rfl)
  obtain ⟨c, e2, _⟩ := struct_int (i := 2) Try.underlying39 h rfl Try.underlying3 (by kernel_rfl)
  refine ⟨(a, b, c), list_of_at (by rw [hl]; rfl) fun i hi => ?_⟩
  match i, hi with
  | 0, _ => exact e0
  | 1, _ => exact e1
  | 2, _ => exact e2
  | n + 3, hi => exact absurd hi (by simp)
section
set_option maxRecDepth 20000
set_option synthInstance.maxSize 100000
set_option synthInstance.maxHeartbeats 4000000
theorem pplays_ok {w : World} {v : Value} {acts : List Act} (ping grace reg : Int) (hp : Arg w v 3 acts.length (acts.flatMap encA)) : Calls P 4 #[.int .i64 ping, .int .i64 grace, .int .i64 reg, v] w fun e w' => e = .returned (.bool true) ∧ Hv w [] w' := by
  have o := Hv.begin w
  refine law_of ?_
  refine s4 ?_
  unfold D4
  repeat' (first | refine go ?_ | intro _ | refine ⟨sb, ?_⟩ | refine ⟨sd, ?_⟩ | (refine ⟨fun h1 => ?_, fun h1 => ?_⟩ <;> first | exact ab h1 | ((try rw [h1]); (try simp only [bl] at h1))) | dsimp only)
  · exact ⟨rfl, Sub.hv subEnd⟩
  · obtain ⟨⟨⟨⟨⟨⟨hl, p1⟩, g1⟩, r1⟩, p2⟩, g2⟩, r2⟩ := h1
    rename_i p w1 o1 r w2 o2
    clear o o1
    have k0 := ok_new ping grace reg ⟨p1, p2⟩ ⟨g1, g2⟩ ⟨r1, r2⟩
    have o3 : Hv w [pulR p _, refR r ⟨ping, grace, reg, []⟩] w2 := Sub.hv (o := Hv.nilRow 48 4 o2) (subK rfl (subRef ⟨rfl, rfl, rfl⟩ rfl rfl subEnd))
    clear o2
    refine ⟨fun z u s => ∃ (now : Int) (i : Nat) (x : Pst) (y : Rst) (w' : World), z = .int .i64 now ∧ u = .int .i64 i ∧ s = ⟨w', []⟩ ∧ i ≤ acts.length ∧ Ok x y now i ∧ now ≤ 1000000 * i ∧ Hv w [pulR p x, refR r y] w',
      fun z u s => match u with | .int _ z => acts.length - z.toNat | _ => 0, ⟨0, 0, _, _, w2, rfl, rfl, rfl, Nat.zero_le _, k0, by simp, o3⟩, ?_⟩
    rintro z u s ⟨now, i, x, y, w3, rfl, rfl, rfl, hi, hk, hnow, o4⟩
    clear o3 k0
    have hfit := hk.fit
    have hrf := hk.rfit
    have hn := hk.now
    have hyl := hk.sz.2.2.2.2
    have hin : InR now := by unfold InR; omega
    rcases Nat.lt_or_ge i acts.length with hlt | hge
    · repeat ((fail_if_success (refine j1_any (fun _ _ => True) ?_ ?_)); (first | refine go ?_ | intro _ | refine ⟨sb, ?_⟩ | refine ⟨sd, ?_⟩ | dsimp only))
      refine ⟨fun h1 => ?_, fun h1 => by have := of_decide_eq_false h1; omega⟩
      repeat ((fail_if_success (refine j1_any (fun _ _ => True) ?_ ?_)); (first | refine go ?_ | intro _ | refine ⟨sb, ?_⟩ | refine ⟨sd, ?_⟩ | dsimp only))
      obtain ⟨⟨kd, id, nn⟩, ha⟩ : ∃ a, a = acts.getD i default := ⟨_, rfl⟩
      rename_i b40 w5 _ w6 o6
      rw [← ha] at o6
      clear o4
      refine j1_any (fun z s => ∃ (now' : Int) (x' : Pst) (y' : Rst) (w' : World), z = .int .i64 now' ∧ s = ⟨w', []⟩ ∧ Ok x' y' now' (i + 1) ∧ now' ≤ 1000000 * ((i + 1 : Nat) : Int) ∧ Hv w [box b40 39 [.int .i64 kd, .int .i64 id, .int .i64 nn], pulR p x', refR r y'] w') ?_ ?_
      · repeat' (first | refine go ?_ | intro _ | refine ⟨sb, ?_⟩ | refine ⟨sd, ?_⟩ | (refine ⟨fun h1 => ?_, fun h1 => ?_⟩ <;> first | exact ab h1 | ((try rw [h1]); (try simp only [bl] at h1))) | dsimp only)
        · exact ⟨now, _, _, _, rfl, rfl, hk.reg (by omega) id, by omega, Sub.hv (subBox rfl (subK rfl (subK rfl subEnd)))⟩
        · exact ⟨now, _, _, _, rfl, rfl, hk.line (by omega) id, by omega, Sub.hv (subBox rfl (subK rfl (subK rfl subEnd)))⟩
        · exact ⟨now, _, _, _, rfl, rfl, (hk.leave id).later (Int.le_refl _) (by omega) (by omega) (by omega), by omega, Sub.hv (subBox rfl (subK rfl (subK rfl subEnd)))⟩
        · exact ⟨now + nn, _, _, _, rfl, rfl, hk.later (by omega) (by omega) (by omega) (by omega), by omega, Sub.hv (subBox rfl (subK rfl (subK rfl subEnd)))⟩
        · exact ⟨now, _, _, _, rfl, rfl, hk.later (Int.le_refl _) (by omega) (by omega) (by omega), by omega, Sub.hv (subBox rfl (subK rfl (subK rfl subEnd)))⟩
        · exact absurd (rows_ext (due_rows hk.rel (by assumption)) (by assumption)) h1
        · exact ⟨now, _, _, _, rfl, rfl, hk.due (by omega), by omega, Sub.hv (subBox rfl (subK rfl (subK rfl subEnd)))⟩
        · exact ⟨now, _, _, _, rfl, rfl, hk.join (by omega) id, by omega, Sub.hv (subBox rfl (subK rfl (subK rfl subEnd)))⟩
      · rintro z s ⟨now', x', y', w7, rfl, rfl, hk', hn', o7⟩
        clear o6
        have hin' : InR now' := by have := hk'.now; unfold InR; omega
        have hinL : ∀ a, x'.last id = some a → InR (now' - a) := fun a ha' => by
          have := hk'.now
          by_cases hm : id ∈ y'.cs.map (·.1)
          · obtain ⟨c, hc, rfl⟩ := List.mem_map.1 hm
            have h5 := hk'.rel.ins c hc
            rw [h5.last] at ha'
            obtain rfl := Option.some.inj ha'
            have := h5.tm
            unfold InR; omega
          · rw [(hk'.rel.out id hm).1] at ha'; cases ha'
        repeat (first | refine go ?_ | intro _ | refine ⟨sb, ?_⟩ | refine ⟨sd, ?_⟩ | dsimp only)
        refine ⟨⟨hin', hinL⟩, ?_⟩
        intro w8 o8
        clear o7
        repeat (first | refine go ?_ | intro _ | refine ⟨sb, ?_⟩ | refine ⟨sd, ?_⟩ | dsimp only)
        rename_i w9 o9
        clear o8
        obtain ⟨rv, o10⟩ := ref_open (R := [pulR p x', box b40 39 [.int .i64 kd, .int .i64 id, .int .i64 nn]]) o9
        clear o9
        have fin : ∀ w10, Hv w (box r 37 [.int .i64 y'.ping, .int .i64 y'.grace, .int .i64 y'.reg, rv] :: row 48 4 rv y'.cs.length (y'.cs.flatMap encC) :: [pulR p x', box b40 39 [.int .i64 kd, .int .i64 id, .int .i64 nn]]) w10 → Hv w [pulR p x', refR r y'] w10 := fun w10 o => Sub.hv (subK rfl (subRef ⟨rfl, rfl, rfl⟩ rfl rfl subEnd))
        cases hc : atC y'.cs id with
        | none =>
          have hlast := (hk'.rel.out id (at_none hc)).1
          rw [atZ_none hc]
          simp only [hlast, Option.isSome_none]
          repeat' (first | refine go ?_ | intro _ | refine ⟨sb, ?_⟩ | refine ⟨sd, ?_⟩ | (refine ⟨fun h1 => ?_, fun h1 => ?_⟩ <;> first | exact ab h1 | ((try rw [h1]); (try simp only [bl] at h1))) | dsimp only)
          exact ⟨⟨now', i + 1, x', y', w9, rfl, rfl, rfl, hlt, hk', hn', fin _ o10⟩, by simp; omega⟩
        | some j =>
          obtain ⟨c, hc1, hc2, hc3, _⟩ := at_split hk'.rel.nd hc
          have hcd : y'.cs.getD j default = c := by rw [List.getD_eq_getElem?_getD, hc1]; rfl
          have hjl : j < y'.cs.length := (List.getElem?_eq_some_iff.1 hc1).1
          have hlast : x'.last id = some c.2.1 := by rw [← hc3]; exact (hk'.rel.ins c hc2).last
          have hjr := hinL _ hlast
          rw [atZ_some hc]
          simp only [hlast, Option.isSome_some, show decide ((0 : Int) ≤ (j : Int)) = true by simp]
          repeat' (first | refine go ?_ | intro _ | refine ⟨sb, ?_⟩ | refine ⟨sd, ?_⟩ | (refine ⟨fun h1 => ?_, fun h1 => ?_⟩ <;> first | exact ab h1 | ((try rw [h1]); (try simp only [bl] at h1))) | dsimp only)
          · refine ⟨by rw [hcd]; exact hjr, ?_⟩
            rw [hcd]
            repeat' (first | refine go ?_ | intro _ | refine ⟨sb, ?_⟩ | refine ⟨sd, ?_⟩ | (refine ⟨fun h1 => ?_, fun h1 => ?_⟩ <;> first | exact ab h1 | ((try rw [h1]); (try simp only [bl] at h1))) | dsimp only)
            all_goals first
              | exact ⟨⟨now', i + 1, x', y', w9, rfl, rfl, rfl, hlt, hk', hn', fin _ o10⟩, by simp; omega⟩
              | (exfalso; simp at h1; done)
          all_goals (exfalso; simp_all; done)
    · obtain rfl : i = acts.length := by omega
      repeat (first | refine go ?_ | intro _ | refine ⟨sb, ?_⟩ | refine ⟨sd, ?_⟩ | dsimp only)
      refine ⟨fun h1 => by have := of_decide_eq_true h1; omega, fun h1 => ?_⟩
      repeat' (first | refine go ?_ | intro _ | refine ⟨sb, ?_⟩ | refine ⟨sd, ?_⟩ | (refine ⟨fun h1 => ?_, fun h1 => ?_⟩ <;> first | exact ab h1 | ((try rw [h1]); (try simp only [bl] at h1))) | dsimp only)
      rw [decide_eq_true (rows_ext (due_rows hk.rel (by assumption)) (by assumption))]
      exact ⟨rfl, Sub.hv subEnd⟩
end
end Go.Proofs.Ytogoaohhaiggpaa

