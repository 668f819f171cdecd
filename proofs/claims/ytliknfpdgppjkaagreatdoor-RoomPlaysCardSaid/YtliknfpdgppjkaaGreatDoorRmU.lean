import Derived.Test.YtliknfpdgppjkaaGreatDoorRmT
import Derived.Test.YtliknfpdgppjkaaGreatDoorEng
set_option linter.all false
namespace Go.Proofs.YtliknfpdgppjkaaGreatDoor
open Go.Vx Go.Lib
/-! how much there is behind n acts -/
structure Gr (n : Nat) (x : Rm) (y : Rf) : Prop where
  m : x.mem.length ≤ n
  b : x.bans.length ≤ n
  i : x.inv.length ≤ n
  l : y.l.length ≤ n
  c : y.bans.length ≤ n
  g : y.gs.length ≤ n
  o : y.on.length ≤ n + 2
  z : ∀ b ∈ y.bans, b.length ≤ 100
theorem Gr.new (name : List UInt8) (mb : Int) : Gr 0 (.new name mb) (.new name mb) := ⟨Nat.le_refl _, Nat.le_refl _, Nat.le_refl _, Nat.le_refl _, Nat.le_refl _, Nat.le_refl _, Nat.le_refl _, by simp [Rf.new]⟩
theorem Gr.le {n m : Nat} {x : Rm} {y : Rf} (h : Gr n x y) (hl : n ≤ m) : Gr m x y := ⟨Nat.le_trans h.m hl, Nat.le_trans h.b hl, Nat.le_trans h.i hl, Nat.le_trans h.l hl, Nat.le_trans h.c hl, Nat.le_trans h.g hl, Nat.le_trans h.o (by omega), h.z⟩
structure Rm.ge (x x' : Rm) : Prop where
  m : x'.mem.length ≤ x.mem.length + 1
  b : x'.bans.length ≤ x.bans.length + 1
  i : x'.inv.length ≤ x.inv.length + 1
theorem Rm.ge.same (x : Rm) : x.ge x := ⟨by omega, by omega, by omega⟩
theorem Rm.change_ge (x : Rm) (c : Chg) (id : Int) : x.ge (x.change c id).1 := by
  have st : x.ge (x.setRank id c.2.1 c.1) := by
    unfold Rm.setRank; split
    · exact ⟨by simp, by simp, by simp⟩
    · exact .same x
  have ss : ∀ y : Rm, y.mem = x.mem → y.bans = x.bans → y.inv = x.inv → x.ge y := fun y h1 h2 h3 => ⟨by rw [h1]; omega, by rw [h2]; omega, by rw [h3]; omega⟩
  unfold Rm.change
  split
  · exact ss _ rfl rfl rfl
  split
  · exact st
  split
  · unfold Rm.lockC
    split
    · exact .same x
    split
    · exact ss _ rfl rfl rfl
    split
    · exact .same x
    · exact ss _ rfl rfl rfl
  split
  · unfold Rm.limC
    split
    · split
      · exact .same x
      · exact ss _ rfl rfl rfl
    split
    · exact .same x
    · exact ss _ rfl rfl rfl
  split
  · unfold Rm.banC
    split
    · exact .same x
    split
    · exact .same x
    split
    · split
      · exact .same x
      · exact ⟨by simp, by simp, by simp⟩
    · exact ⟨by simp, by simp; omega, by simp⟩
  · exact .same x
theorem Rm.act_ge (x : Rm) (a : Act) : x.ge (x.act a) := by
  unfold Rm.act
  split
  · exact ⟨Nat.le_succ_of_le (del_len ..), Nat.le_succ _, Nat.le_succ _⟩
  split
  · exact ⟨Nat.le_succ _, Nat.le_succ _, Nat.le_succ _⟩
  split
  · exact ⟨Nat.le_succ _, Nat.le_succ _, addI_len ..⟩
  split
  · exact x.change_ge ..
  · unfold Rm.add
    split
    · exact .same x
    · exact ⟨Nat.le_of_eq (ins_len ..), Nat.le_succ _, Nat.le_succ_of_le (del_len ..)⟩
structure Rf.ge (x x' : Rf) : Prop where
  m : x'.l.length ≤ x.l.length + 1
  b : x'.bans.length ≤ x.bans.length + 1
  i : x'.gs.length ≤ x.gs.length + 1
  o : x'.on.length ≤ x.on.length + 1
  z : (∀ b ∈ x.bans, b.length ≤ 100) → ∀ b ∈ x'.bans, b.length ≤ 100
theorem Rf.ge.same (x : Rf) : x.ge x := ⟨by omega, by omega, by omega, by omega, id⟩
theorem Rf.change_ge (x : Rf) (c : Chg) (id : Int) : x.ge (x.change c id).1 := by
  have ss : ∀ y : Rf, y.l = x.l → y.bans = x.bans → y.gs = x.gs → y.on = x.on → x.ge y := fun y h1 h2 h3 h4 => ⟨by rw [h1]; omega, by rw [h2]; omega, by rw [h3]; omega, by rw [h4]; omega, by rw [h2]; exact _root_.id⟩
  unfold Rf.change
  split
  · split
    · exact .same x
    · refine ⟨Nat.le_succ _, Nat.le_succ _, Nat.le_succ _, ?_, _root_.id⟩
      have := List.length_filter_le (fun b => !decide (b = c.2.1)) x.on
      dsimp only
      rw [List.length_append]
      split
      · simp only [List.length_singleton]; omega
      · simp only [List.length_nil]; omega
  split
  · split
    · exact .same x
    split
    · exact .same x
    · exact ⟨by simp [Rf.setMem], Nat.le_succ _, Nat.le_succ _, Nat.le_succ _, _root_.id⟩
  split
  · split
    · split
      · exact .same x
      · exact ss _ rfl rfl rfl rfl
    split
    · exact .same x
    · exact ss _ rfl rfl rfl rfl
  split
  · split
    · split
      · exact .same x
      · exact ss _ rfl rfl rfl rfl
    split
    · exact .same x
    · exact ss _ rfl rfl rfl rfl
  split
  · unfold Rf.banC
    split
    · exact .same x
    rename_i hm
    split
    · split
      · exact .same x
      split
      · exact .same x
      · refine ⟨Nat.le_succ _, by simp, Nat.le_succ _, Nat.le_succ _, fun h b hb => ?_⟩
        rcases List.mem_append.1 hb with hb | hb
        · exact h b hb
        · rw [List.mem_singleton.1 hb]
          have : ¬ 100 < (completeS (cleanS c.2.2)).length := fun h => hm (.inr (.inl h))
          omega
    split
    · exact .same x
    · refine ⟨Nat.le_succ _, by simp; omega, Nat.le_succ _, Nat.le_succ _, fun h b hb => ?_⟩
      rcases List.mem_append.1 hb with hb | hb
      · exact h b (List.mem_of_mem_take hb)
      · exact h b (List.mem_of_mem_drop hb)
  · exact .same x
theorem Rf.act_ge (x : Rf) (a : Act) : x.ge (x.act a) := by
  unfold Rf.act
  split
  · unfold Rf.drop
    split
    · exact .same x
    · exact ⟨by simp; omega, Nat.le_succ _, Nat.le_succ _, Nat.le_succ _, _root_.id⟩
  split
  · exact ⟨Nat.le_succ _, Nat.le_succ _, Nat.le_succ _, Nat.le_succ _, _root_.id⟩
  split
  · exact ⟨Nat.le_succ _, Nat.le_succ _, by simp, Nat.le_succ _, _root_.id⟩
  split
  · exact x.change_ge ..
  · unfold Rf.add
    split
    · exact .same x
    · exact ⟨by simp, Nat.le_succ _, Nat.le_succ_of_le (del_len ..), Nat.le_succ _, _root_.id⟩
theorem Gr.act {n : Nat} {x : Rm} {y : Rf} (h : Gr n x y) (a : Act) : Gr (n + 1) (x.act a) (y.act a) := by
  have h1 := x.act_ge a
  have h2 := y.act_ge a
  exact ⟨Nat.le_trans h1.m (Nat.succ_le_succ h.m), Nat.le_trans h1.b (Nat.succ_le_succ h.b), Nat.le_trans h1.i (Nat.succ_le_succ h.i), Nat.le_trans h2.m (Nat.succ_le_succ h.l), Nat.le_trans h2.b (Nat.succ_le_succ h.c), Nat.le_trans h2.i (Nat.succ_le_succ h.g), Nat.le_trans h2.o (Nat.succ_le_succ h.o), h2.z h.z⟩
theorem Gr.fit {n : Nat} {x : Rm} {y : Rf} (h : Gr n x y) (hn : n ≤ 40) : x.fit ∧ y.fit ∧ ∀ b ∈ y.bans, b.length ≤ 100 := by
  obtain ⟨h1, h2, h3, h4, h5, h6, h7, h8⟩ := h
  exact ⟨⟨by omega, by omega, by omega⟩, ⟨by omega, by omega, by omega, by omega⟩, h8⟩
/-! an act, read -/
theorem acts_one (y : Act) : ∀ u ∈ encA y, u.oneCell' = true := fun u hu => by
  simp only [encA, List.mem_cons, List.not_mem_nil, or_false] at hu
  rcases hu with rfl | rfl | rfl | rfl | rfl | rfl | rfl <;> rfl
theorem struct_sub {H : Type} {enc : TypeId × Value → H} {P : Program} {W : World} {sp : Nat → Bool} {held : Bool} {fs : Array Field} {t i fuel k : Nat} {f : Field} {cs : List Value} {x : DataW H × List MemPlace} (ht : P.underlying t = some (.struct fs)) (h : DataW.trod enc P W 0 sp held fuel t cs = some x) (hf : fs[i]? = some f) (hc : P.cellsOf f.type = k) :
    ∃ n y, DataW.trod enc P W 0 sp held n f.type ((cs.drop f.offset).take k) = some y := by
  obtain ⟨xs, n, _, _, hl, hlen, hall⟩ := DataW.trod_struct ht h
  have h1 := hall i f hf
  rw [hc] at h1
  have hi : i < xs.length := by rw [hlen]; exact (Array.getElem?_eq_some_iff.1 hf).1
  exact ⟨n, xs[i], by rw [h1, List.getElem?_eq_getElem hi]⟩
theorem sub_at {cs : List Value} {n k i : Nat} {v : Value} (h : ((cs.drop n).take k)[i]? = some v) : cs[n + i]? = some v := by
  rw [List.getElem?_take] at h
  split at h
  · rwa [List.getElem?_drop] at h
  · cases h
theorem acts_each {H : Type} {enc : TypeId × Value → H} {W : World} {sp : Nat → Bool} {held : Bool} {fuel : Nat} {cs : List Value} {x : DataW H × List MemPlace} (h : DataW.trod enc Tryz.prog W 0 sp held fuel 33 cs = some x) (hl : cs.length = 7) : ∃ y : Act, cs = encA y := by
  obtain ⟨a, e0, _⟩ := struct_int (i := 0) Tryz.underlying33 h rfl Tryz.underlying3 (by kernel_rfl)
  obtain ⟨b, e1, _⟩ := struct_int (i := 1) Tryz.underlying33 h rfl Tryz.underlying3 (by kernel_rfl)
  obtain ⟨c, e2⟩ := struct_bool (i := 2) Tryz.underlying33 h rfl Tryz.underlying4 (by kernel_rfl)
  obtain ⟨d, e3⟩ := struct_str (i := 3) Tryz.underlying33 h rfl Tryz.underlying9 (by kernel_rfl)
  obtain ⟨n, y, h4⟩ := struct_sub (i := 4) (k := 3) Tryz.underlying33 h rfl (by kernel_rfl)
  obtain ⟨e, e4⟩ := struct_bool (i := 0) Tryz.underlying24 h4 rfl Tryz.underlying4 (by kernel_rfl)
  obtain ⟨f, e5, w5⟩ := struct_int (i := 1) Tryz.underlying24 h4 rfl Tryz.underlying5 (by kernel_rfl)
  obtain ⟨g, e6⟩ := struct_str (i := 2) Tryz.underlying24 h4 rfl Tryz.underlying9 (by kernel_rfl)
  have e4 := sub_at e4
  have e5 := sub_at e5
  have e6 := sub_at e6
  rw [← byte_of w5] at e5
  rw [← str_of d] at e3
  rw [← str_of g] at e6
  refine ⟨⟨a, b, c, d.data.toList, e, UInt8.ofNat f.toNat, g.data.toList⟩, list_of_at (by rw [hl]; rfl) fun i hi => ?_⟩
  match i, hi with
  | 0, _ => exact e0
  | 1, _ => exact e1
  | 2, _ => exact e2
  | 3, _ => exact e3
  | 4, _ => exact e4
  | 5, _ => exact e5
  | 6, _ => exact e6
  | n + 7, hi => exact absurd hi (by simp)
end Go.Proofs.YtliknfpdgppjkaaGreatDoor

