import Derived.Test.YtliknfpdgppjkaaGreatDoorRmW
set_option linter.all false
namespace Go.Proofs.YtliknfpdgppjkaaGreatDoor
open Go.Vx Go.Lib
section
set_option maxRecDepth 20000
set_option synthInstance.maxSize 100000
set_option synthInstance.maxHeartbeats 4000000
theorem rundo_ok {w : World} {v : Value} {acts : List Act} [tb : PowT w] (mb id : Int) (on : Bool) (le : UInt8) (arg : List UInt8) (hp : Arg w v 7 acts.length (acts.flatMap encA)) : Calls P 3 #[.int .i64 mb, v, .agg #[.bool on, byteV le, str arg], .int .i64 id] w fun e w' => e = .returned (.bool true) ∧ Hv w [] w' := by
  have o := Hv.begin w
  refine law_of ?_
  refine s3 ?_
  unfold D3
  repeat' (first | refine go ?_ | intro _ | refine ⟨sb, ?_⟩ | refine ⟨sd, ?_⟩ | (refine ⟨fun h1 => ?_, fun h1 => ?_⟩ <;> first | exact ab h1 | ((try rw [h1]); (try simp only [bl] at h1))) | dsimp only)
  · exact ⟨rfl, Sub.hv subEnd⟩
  obtain ⟨hb, hw⟩ := h1
  rename_i bc wb ob wc oc b0 w0 gr o0 p w1 o1 q w2 o2
  obtain ⟨ha, ha2⟩ := gr hb
  clear o ob oc o0 o1
  refine ⟨fun z s => ∃ (i : Nat) (x : Rm) (y : Rf) (w' : World), z = .int .i64 i ∧ s = ⟨w', []⟩ ∧ i ≤ acts.length ∧ Gr i x y ∧ Hv w [box bc 24 [.bool on, byteV le, str arg], roomR p x, refR q y] w',
      fun z s => match z with | .int _ z => acts.length - z.toNat | _ => 0, ⟨0, _, _, w2, rfl, rfl, Nat.zero_le _, Gr.new .., Sub.hv (subBox rfl (subK rfl (subK rfl subEnd)))⟩, ?_⟩
  rintro z s ⟨i, x, y, w3, rfl, rfl, hi, hg, o3⟩
  clear o2
  have hft := hg.fit (by omega)
  rcases Nat.lt_or_ge i acts.length with hlt | hge
  · have hs := ha2 _ (getD_mem hlt)
    repeat' (first | refine go ?_ | intro _ | refine ⟨sb, ?_⟩ | refine ⟨sd, ?_⟩ | (refine ⟨fun h1 => ?_, fun h1 => ?_⟩ <;> first | exact ab h1 | ((try rw [h1]); (try simp only [bl] at h1))) | dsimp only)
    · refine And.intro ⟨hft, hs⟩ ?_
      intro w4 o4
      clear o3
      repeat' (first | refine go ?_ | intro _ | refine ⟨sb, ?_⟩ | refine ⟨sd, ?_⟩ | (refine ⟨fun h1 => ?_, fun h1 => ?_⟩ <;> first | exact ab h1 | ((try rw [h1]); (try simp only [bl] at h1))) | dsimp only)
      exact ⟨⟨i + 1, _, _, _, rfl, rfl, hlt, hg.act (acts.getD i default), Sub.hv (subBox rfl (subK rfl (subK rfl subEnd)))⟩, by simp; omega⟩
    · exfalso; omega
  · have ok := room_ok ((inferInstance : InK roomR p _ x _).hv o3)
    have f1 := hft.1
    have hbn : x.bans.length ≤ 100 := by have := hg.b; omega
    have hc1 := x.change_ge (on, le, arg) id
    have hg1 := hg.m
    have hg2 := hg.b
    have hg3 := hg.i
    have f2 : (x.change (on, le, arg) id).1.fit := ⟨Nat.le_trans hc1.m (by omega), Nat.le_trans hc1.b (by omega), Nat.le_trans hc1.i (by omega)⟩
    have hbn2 : (x.change (on, le, arg) id).1.bans.length ≤ 100 := Nat.le_trans hc1.b (by omega)
    have mk : ∀ m : Chg, (m.1 == false) = true → m.2.1 = 0 → m.2.2 = [] → m = noC := fun ⟨a, b, c⟩ h2 h3 h4 => by
      cases a
      · dsimp only at h3 h4; subst h3 h4; rfl
      · cases h2
    have ml : ∀ z : Rm, (z.modes true).length ≤ 100000 := fun z => by
      have := mArg_len z true letL
      simp only [Rm.modes, List.length_cons, letL, List.length_nil] at this ⊢; omega
    have ml1 := ml x
    have ml2 := ml (x.change (on, le, arg) id).1
    have hno := Rm.change_no ok (on, le, arg) id
    have hun := Rm.undo (x := x) (on := on) (le := le) (arg := arg) (id := id) ok
    repeat' (first | refine go ?_ | intro _ | refine ⟨sb, ?_⟩ | refine ⟨sd, ?_⟩ | (refine ⟨fun h1 => ?_, fun h1 => ?_⟩ <;> first | exact ab h1 | ((try rw [h1]); (try simp only [bl] at h1))) | dsimp only)
    · exfalso; omega
    · have hq : ((x.change (on, le, arg) id).2.1.1 == false) = true ∧ (x.change (on, le, arg) id).2.1.2.1 = 0 ∧ (x.change (on, le, arg) id).2.1.2.2 = [] ∧ True := by assumption
      have hx := hno (mk _ hq.1 hq.2.1 hq.2.2.1)
      refine ⟨congrArg Value.bool ?_, Sub.hv subEnd⟩
      rw [hx]; exact decide_eq_true rfl
    · have hq : ((x.change (on, le, arg) id).2.1.1 == false) = true ∧ (x.change (on, le, arg) id).2.1.2.1 = 0 ∧ (x.change (on, le, arg) id).2.1.2.2 = [] ∧ True := by assumption
      have hx := hno (mk _ hq.1 hq.2.1 hq.2.2.1)
      rw [hx] at h1
      exact absurd (h1 rfl rfl (beq_self_eq_true _) (beq_self_eq_true _)) (by simp)
    · have hq : ((x.change (on, le, arg) id).2.1.1 == false) = true → (x.change (on, le, arg) id).2.1.2.1 = 0 → (x.change (on, le, arg) id).2.1.2.2 = [] → true = false := by assumption
      have hne : (x.change (on, le, arg) id).2.1 ≠ noC := fun e => by
        rw [e] at hq; exact absurd (hq rfl rfl rfl) (by simp)
      obtain ⟨a', e2, e3⟩ := hun hne
      rw [e2] at h1
      simp at h1
    · exact ⟨rfl, Sub.hv subEnd⟩
    · have hq : ((x.change (on, le, arg) id).2.1.1 == false) = true → (x.change (on, le, arg) id).2.1.2.1 = 0 → (x.change (on, le, arg) id).2.1.2.2 = [] → true = false := by assumption
      have hne : (x.change (on, le, arg) id).2.1 ≠ noC := fun e => by
        rw [e] at hq; exact absurd (hq rfl rfl rfl) (by simp)
      obtain ⟨a', e2, e3⟩ := hun hne
      obtain ⟨e4, e5, e6⟩ := e3 (by
        rintro (⟨h2, h3⟩ | ⟨h2, h3⟩)
        · have h4 := h1.1 h2
          rcases h3 with h3 | h3
          · rw [h3] at h4; cases h4.1
          · have := h4.2; omega
        · rw [h1.2 h2] at h3; cases h3)
      have f3 : (x.change (on, le, arg) id).2.1.2.2.length ≤ 100000 := by rw [e2]; dsimp only; omega
      have e7 : (x.change (on, le, arg) id).2.1 = (on, le, a') := by rw [e2]
      have e8 : ((x.change (on, le, arg) id).1.change (!(x.change (on, le, arg) id).2.1.1, (x.change (on, le, arg) id).2.1.2.1, (x.change (on, le, arg) id).2.1.2.2) id).1 = x := by rw [e7]; exact e6
      have e9 : ((x.change (on, le, arg) id).1.change (!(x.change (on, le, arg) id).2.1.1, (x.change (on, le, arg) id).2.1.2.1, (x.change (on, le, arg) id).2.1.2.2) id).2.2 = 0 := by rw [e7]; exact e5
      refine And.intro ⟨f2, f3⟩ ?_
      rw [e8, e9]
      intro wz oz
      repeat' (first | refine go ?_ | intro _ | refine ⟨sb, ?_⟩ | refine ⟨sd, ?_⟩ | (refine ⟨fun h1 => ?_, fun h1 => ?_⟩ <;> first | exact ab h1 | ((try rw [h1]); (try simp only [bl] at h1))) | dsimp only)
      · exact ⟨congrArg Value.bool (decide_eq_true rfl), Sub.hv subEnd⟩
      · exact absurd (h1 trivial trivial (beq_self_eq_true _) (beq_self_eq_true _)) (by simp)
end
end Go.Proofs.YtliknfpdgppjkaaGreatDoor

