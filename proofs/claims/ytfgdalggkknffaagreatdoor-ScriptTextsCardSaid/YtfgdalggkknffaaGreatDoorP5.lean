import Derived.Test.YtfgdalggkknffaaGreatDoorP4
import Derived.Test.YtfgdalggkknffaaGreatDoorP3
import Derived.Test.YtfgdalggkknffaaGreatDoorEn2
import Derived.Test.YtfgdalggkknffaaGreatDoorP1
set_option linter.all false
namespace Go.Proofs.YtfgdalggkknffaaGreatDoor
open Go.Vx Go.Lib
def namesL : List (List UInt8) := [[], connT, sendT, drainT, closeT, tickT]
def kF (w : List UInt8) (i : Nat) : Int := (List.range i).foldl (fun k j => if 1 ≤ j ∧ namesL.getD j default = w then (j : Int) else k) 0
theorem kF_next {w : List UInt8} {i : Nat} (h : 1 ≤ i) : kF w (i + 1) = if namesL.getD i default = w then (i : Int) else kF w i := by
  unfold kF
  rw [List.range_succ, List.foldl_append]
  simp only [List.foldl_cons, List.foldl_nil, h, true_and]
theorem kF_end (w : List UInt8) : kF w 6 = kindR w := by
  have e1 : kF w 1 = 0 := by unfold kF; simp [List.range_succ]
  rw [kF_next (by omega), kF_next (by omega), kF_next (by omega), kF_next (by omega), kF_next (by omega), e1]
  unfold kindR namesL
  simp only [List.getD_cons_succ, List.getD_cons_zero, eq_comm (b := w)]
  rfl
section
set_option maxRecDepth 20000
set_option synthInstance.maxSize 100000
set_option synthInstance.maxHeartbeats 4000000
variable {K : Value → St → Prop} {w0 w : World} {H R : List SL} {ds : List Deferred} {p n : Nat} {v bv : Value} {l bs : List UInt8} {zs : List Value} {c : UInt8} {m : Bool}
instance cut28_ok [o : Hv w0 H w] : Step (Cl P 43 #[str l] K ⟨w, ds⟩) (l.length ≤ 1000000 ∧ ∀ w', Hv w0 H w' → K (.tuple #[str (cutB l 32).1, str (cutB l 32).2.1, .bool (cutB l 32).2.2]) ⟨w', ds⟩) := ⟨fun ⟨hl, h⟩ => by
  refine s43 ?_
  unfold D43
  refine ⟨fun x s => ∃ (i : Nat) (w' : World), x = .int .i64 i ∧ s = ⟨w', []⟩ ∧ i ≤ l.length ∧ (∀ b ∈ l.take i, b ≠ 32) ∧ Hv w0 H w',
    fun x s => match x with | .int _ z => l.length - z.toNat | _ => 0, ⟨0, w, rfl, rfl, Nat.zero_le _, by simp, o⟩, ?_⟩
  rintro x s ⟨i, w1, rfl, rfl, hi, hn, o1⟩
  clear o
  have hno : l.length = i → cutB l 32 = (l, [], false) := fun e => cut_no (fun hm => hn 32 (by rw [List.take_of_length_le (by omega)]; exact hm) rfl)
  rcases Nat.lt_or_ge i l.length with hlt | hge
  · have hsp : l = l.take i ++ l.getD i default :: l.drop (i + 1) := Mk.split_get hlt
    repeat' (first | refine go ?_ | intro _ | refine ⟨sb, ?_⟩ | refine ⟨sd, ?_⟩ | (refine ⟨fun h1 => ?_, fun h1 => ?_⟩ <;> first | exact ab h1 | ((try rw [h1]); (try simp only [bl] at h1))) | dsimp only)
    · have e : cutB l 32 = (l.take i, l.drop (i + 1), true) := by
        rw [h1] at hsp
        conv => lhs; rw [hsp]
        exact cut_at (fun hm => hn 32 hm rfl)
      rw [e] at h
      exact h _ (Sub.hv subEnd)
    · refine ⟨⟨i + 1, _, rfl, rfl, hlt, fun b hb => ?_, Sub.hv subEnd⟩, by simp; omega⟩
      rw [take_snoc hlt] at hb
      rcases List.mem_append.1 hb with hb | hb
      · exact hn b hb
      · rw [List.mem_singleton.1 hb]; exact h1
    · exfalso; omega
  · rw [hno (by omega)] at h
    repeat' (first | refine go ?_ | intro _ | refine ⟨sb, ?_⟩ | refine ⟨sd, ?_⟩ | (refine ⟨fun h1 => ?_, fun h1 => ?_⟩ <;> first | exact ab h1 | ((try rw [h1]); (try simp only [bl] at h1))) | dsimp only)
    · exfalso; omega
    · exact h _ (Sub.hv subEnd)⟩
theorem valS_take {l : List UInt8} {i : Nat} (h : i < l.length) : valS (l.take (i + 1)) = 10 * valS (l.take i) + ((l.getD i default).toNat - 48) := by rw [take_snoc h, valS_snoc]
theorem valS_le9 {l : List UInt8} (h : l.all digC = true) (h9 : l.length ≤ 9) : valS l < 1000000000 := by
  have := valS_lt l h
  have h2 : 10 ^ l.length ≤ 10 ^ 9 := Nat.pow_le_pow_right (by omega) h9
  omega
instance numk28_ok {w : World} {l : List UInt8} : VS (Cl P 44 #[str l]) w (l.length ≤ 1000000) (.tuple #[.int .i64 ((numK l).getD 0), .bool (numK l).isSome]) := ⟨fun hl {K ds} h => by
  have hdef : l.getD 0 0 = l.getD 0 default := rfl
  have bad : numK l = none → K (.tuple #[.int .i64 0, .bool false]) ⟨w, ds⟩ := fun e => by rw [e] at h; exact h
  refine s44 ?_
  unfold D44
  repeat (first | refine go ?_ | intro _ | refine ⟨sb, ?_⟩ | refine ⟨sd, ?_⟩ | dsimp only)
  refine And.intro (Sd.mk ⟨fun _ => trivial, fun _ h2 => ⟨⟨by omega, ?_⟩, True.intro⟩⟩) ?_
  · have : (1 : Int) < l.length := by simpa using h2
    omega
  repeat (first | refine go ?_ | intro _ | refine ⟨sb, ?_⟩ | refine ⟨sd, ?_⟩ | dsimp only)
  refine And.intro (fun h1 => ?_) (fun h1 => ?_)
  · repeat' (first | refine go ?_ | intro _ | refine ⟨sb, ?_⟩ | refine ⟨sd, ?_⟩ | (refine ⟨fun h1 => ?_, fun h1 => ?_⟩ <;> first | exact ab h1 | ((try rw [h1]); (try simp only [bl] at h1))) | dsimp only)
    refine bad (numK_bad ?_)
    simp only [Bool.or_eq_true, Bool.and_eq_true, decide_eq_true_eq] at h1
    rcases h1 with (h1 | h1) | h1
    · exact .inl (by omega)
    · exact .inr (.inl (by omega))
    · exact .inr (.inr (.inl ⟨h1.2, fun e => by rw [e] at h1; simp at h1⟩))
  simp only [Bool.or_eq_false_iff, Bool.and_eq_false_iff, decide_eq_false_iff_not] at h1
  have h9 : l.length ≤ 9 := by omega
  refine ⟨fun y x s => ∃ (i : Nat), y = .int .i64 (valS (l.take i) : Nat) ∧ x = .int .i64 i ∧ s = ⟨w, []⟩ ∧ i ≤ l.length ∧ (l.take i).all digC = true,
    fun _ x s => match x with | .int _ z => l.length - z.toNat | _ => 0, ⟨0, rfl, rfl, rfl, Nat.zero_le _, rfl⟩, ?_⟩
  rintro y x s ⟨i, rfl, rfl, rfl, hi, ha⟩
  have hv := valS_le9 ha (by rw [List.length_take]; omega)
  rcases Nat.lt_or_ge i l.length with hlt | hge
  · have hn := valS_take hlt
    have hal : (l.take (i + 1)).all digC = ((l.take i).all digC && digC (l.getD i default)) := all_take hlt
    rw [ha, Bool.true_and] at hal
    have hdg := dig_eq (l.getD i default)
    have hlb := (l.getD i default).toNat_lt
    repeat' (first | refine go ?_ | intro _ | refine ⟨sb, ?_⟩ | refine ⟨sd, ?_⟩ | (refine ⟨fun h1 => ?_, fun h1 => ?_⟩ <;> first | exact ab h1 | ((try rw [h1]); (try simp only [bl] at h1))) | dsimp only)
    · refine bad (numK_bad (.inr (.inr (.inr ?_))))
      exact all_at hlt (by rw [← hdg]; simpa using h1)
    · have hd1 : digC (l.getD i default) = true := by rw [← hdg]; simpa using h1
      have hge : 48 ≤ (l.getD i default).toNat := by
        unfold digC at hd1
        simp only [Bool.and_eq_true, decide_eq_true_eq, UInt8.le_iff_toNat_le] at hd1
        exact hd1.1
      refine ⟨⟨i + 1, ?_, rfl, rfl, hlt, by rw [hal]; exact hd1⟩, by simp; omega⟩
      rw [hn]
      congr 1
      omega
    · exfalso; omega
  · obtain rfl : i = l.length := by omega
    rw [List.take_length] at *
    have e : numK l = some (valS l : Int) := numK_good (by
      rintro (q | q | q | q)
      · omega
      · omega
      · rcases h1.2 with g | g
        · have : l.length = 1 := by omega
          exact q.2 (by rw [list1 this, q.1])
        · exact g q.1
      · rw [ha] at q; cases q)
    rw [e] at h
    repeat' (first | refine go ?_ | intro _ | refine ⟨sb, ?_⟩ | refine ⟨sd, ?_⟩ | (refine ⟨fun h1 => ?_, fun h1 => ?_⟩ <;> first | exact ab h1 | ((try rw [h1]); (try simp only [bl] at h1))) | dsimp only)
    · exfalso; omega
    · exact h⟩
def EvI (K : Value → St → Prop) (w0 : World) (H : List SL) (ds : List Deferred) (r : Ev × Int) : Prop :=
  ∀ b n w', n = r.1.b.length → Hv w0 (row 5 1 b n (r.1.b.map byteV) :: H) w' → K (.tuple #[evV r.1 b, .int .i64 r.2]) ⟨w', ds⟩
theorem EvI.nil {r : Ev × Int} (h : EvI K w0 H ds r) (q : r.1.b = []) (o : Hv w0 H w) : K (.tuple #[evV r.1 (.slice none 0 0), .int .i64 r.2]) ⟨w, ds⟩ :=
  h _ 0 _ (by rw [q]; rfl) (by rw [q]; exact Hv.nilRow 5 1 o)
end
end Go.Proofs.YtfgdalggkknffaaGreatDoor

namespace Go.Proofs.YtfgdalggkknffaaGreatDoor
open Go.Vx Go.Lib
theorem ngo {more a two : Bool} {k : Int} (big : (more = true ∧ a = true) ∧ (two == decide (k = 4)) = false) : ¬ (more = false ∨ a = false ∨ two = decide (k = 4)) := by
  rintro (q | q | q)
  · rw [big.1.1] at q; cases q
  · rw [big.1.2] at q; cases q
  · rw [q] at big; simp at big
theorem kindR_le (w : List UInt8) : kindR w = 0 ∨ kindR w = 1 ∨ kindR w = 2 ∨ kindR w = 3 ∨ kindR w = 4 ∨ kindR w = 5 := by
  unfold kindR
  repeat' split
  all_goals simp
theorem noneOf {α : Type} {x : Option α} (h : x.isSome = false) : x = none := by cases x; rfl; cases h
section
set_option maxRecDepth 20000
set_option synthInstance.maxSize 200000
set_option synthInstance.maxHeartbeats 4000000
variable {K : Value → St → Prop} {w0 w : World} {H R : List SL} {ds : List Deferred} {p n : Nat} {v bv : Value} {l bs : List UInt8} {zs : List Value} {c : UInt8} {m : Bool}
instance one28_ok [o : Hv w0 H w] : Step (Cl P 28 #[str l] K ⟨w, ds⟩) (l.length ≤ 200000 ∧ EvI K w0 H ds (oneR l)) := ⟨fun ⟨hl, h⟩ => by
  have bad : ∀ z w', oneR l = (default, z) → Hv w0 H w' → K (.tuple #[evV default (.slice none 0 0), .int .i64 z]) ⟨w', ds⟩ := fun z w' e o => by
    rw [e] at h; exact h.nil rfl o
  have good : ∀ e w', oneR l = (e, 0) → e.b = [] → Hv w0 H w' → K (.tuple #[evV e (.slice none 0 0), .int .i64 0]) ⟨w', ds⟩ := fun e w' q q2 o => by
    rw [q] at h; exact h.nil q2 o
  have c1 := parts_len l
  have c2 := parts_len (cutB l 32).2.1
  refine s28 ?_
  unfold D28
  repeat (first | refine go ?_ | intro _ | refine ⟨sb, ?_⟩ | refine ⟨sd, ?_⟩ | dsimp only)
  rename_i v1 w1 o1 w2 o2 v6 w3 o3
  clear o o1 o2
  generalize hw : (cutB l 32).1 = wd at *
  generalize hr : (cutB l 32).2.1 = r at *
  generalize hm : (cutB l 32).2.2 = more at *
  refine ⟨fun y x s => ∃ (i : Nat) (w' : World), y = .int .i64 (kF wd i) ∧ x = .int .i64 i ∧ s = ⟨w', []⟩ ∧ 1 ≤ i ∧ i ≤ 6 ∧ Hv w0 (box v1 39 [.int .i64 0, .int .i64 0, str [], .slice none 0 0, .int .i64 0] :: row 9 1 v6 6 (namesL.map str) :: H) w',
    fun _ x s => match x with | .int _ z => 6 - z.toNat | _ => 0, ⟨1, w3, rfl, rfl, rfl, by omega, by omega, Sub.hv (subBox rfl (subRow rfl rfl subEnd))⟩, ?_⟩
  rintro y x s ⟨i, w4, rfl, rfl, rfl, hi1, hi6, o4⟩
  clear o3
  rcases Nat.lt_or_ge i 6 with hlt | hge
  · have hk := kF_next (w := wd) hi1
    repeat (first | refine go ?_ | intro _ | refine ⟨sb, ?_⟩ | refine ⟨sd, ?_⟩ | dsimp only)
    refine And.intro (fun h1 => ?_) (fun h1 => by exfalso; simp at h1; omega)
    refine j1_any (fun y s => y = .int .i64 (kF wd (i + 1)) ∧ ∃ w', s = ⟨w', []⟩ ∧ Hv w0 (box v1 39 [.int .i64 0, .int .i64 0, str [], .slice none 0 0, .int .i64 0] :: row 9 1 v6 6 (namesL.map str) :: H) w') ?_ ?_
    · repeat' (first | refine go ?_ | intro _ | refine ⟨sb, ?_⟩ | refine ⟨sd, ?_⟩ | (refine ⟨fun h1 => ?_, fun h1 => ?_⟩ <;> first | exact ab h1 | ((try rw [h1]); (try simp only [bl] at h1))) | dsimp only)
      · exact ⟨by rw [hk, if_pos h1], _, rfl, Sub.hv (subBox rfl (subRow rfl rfl subEnd))⟩
      · exact ⟨by rw [hk, if_neg h1], _, rfl, Sub.hv (subBox rfl (subRow rfl rfl subEnd))⟩
    · rintro y s ⟨rfl, w5, rfl, o5⟩
      repeat' (first | refine go ?_ | intro _ | refine ⟨sb, ?_⟩ | refine ⟨sd, ?_⟩ | (refine ⟨fun h1 => ?_, fun h1 => ?_⟩ <;> first | exact ab h1 | ((try rw [h1]); (try simp only [bl] at h1))) | dsimp only)
      exact ⟨⟨i + 1, _, rfl, rfl, rfl, by omega, by omega, o5⟩, by simp; omega⟩
  · obtain rfl : i = 6 := by omega
    rw [kF_end]
    unfold oneR at h bad good
    rw [hw, hr, hm] at h bad good
    dsimp only at h bad good
    have q1 : r.length ≤ 200000 := by omega
    have q2 : (cutB r 32).1.length ≤ 200000 := by omega
    have q3 : (cutB r 32).2.1.length ≤ 200000 := by omega
    clear c1 c2 hw hr hm
    have kr := kindR_le wd
    generalize hk : kindR wd = k at *
    clear hk
    repeat' (first | refine go ?_ | intro _ | refine ⟨sb, ?_⟩ | refine ⟨sd, ?_⟩ | (refine ⟨fun h1 => ?_, fun h1 => ?_⟩ <;> first | exact ab h1 | ((try rw [h1]); (try simp only [bl] at h1))) | dsimp only)
    · exact bad _ _ (by simp [*]) (Sub.hv subEnd)
    · exact bad _ _ (by simp [*]) (Sub.hv subEnd)
    · exact good ⟨k, 0, [], [], 0⟩ _ (by simp [*]) rfl (Sub.hv subEnd)
    · refine bad _ _ ?_ (Sub.hv subEnd)
      rw [if_neg ‹_›, if_neg ‹_›, if_pos]
      rcases h1 with (h1 | h1) | h1
      · exact .inl h1
      · exact .inr (.inl h1)
      · exact .inr (.inr (by simpa using h1))
    · refine bad _ _ ?_ (Sub.hv subEnd)
      have big : (more = true ∧ (numK (cutB r 32).1).isSome = true) ∧ ((cutB r 32).2.2 == decide (k = 4)) = false := ‹_›
      have ng := ngo big
      rw [if_neg ‹_›, if_neg ‹_›, if_neg ng, if_pos ‹_›, if_pos h1]
    · refine good ⟨k, (numK (cutB r 32).1).getD 0, (cutB r 32).2.1, [], 0⟩ _ ?_ rfl (Sub.hv subEnd)
      have big : (more = true ∧ (numK (cutB r 32).1).isSome = true) ∧ ((cutB r 32).2.2 == decide (k = 4)) = false := ‹_›
      have ng := ngo big
      rw [if_neg ‹_›, if_neg ‹_›, if_neg ng, if_pos ‹_›, if_neg h1, ‹k = 1›]
    · refine bad _ _ ?_ (Sub.hv subEnd)
      have big : (more = true ∧ (numK (cutB r 32).1).isSome = true) ∧ ((cutB r 32).2.2 == decide (k = 4)) = false := ‹_›
      have ng := ngo big
      rw [if_neg ‹_›, if_neg ‹_›, if_neg ng, if_neg ‹_›, if_pos ‹_›, noneOf h1]
    · obtain ⟨out, ho⟩ := Option.isSome_iff_exists.1 h1
      have hn := ‹_ = ((unquoteS (cutB r 32).2.1).getD []).length›
      have big : (more = true ∧ (numK (cutB r 32).1).isSome = true) ∧ ((cutB r 32).2.2 == decide (k = 4)) = false := ‹_›
      have ng := ngo big
      rw [if_neg ‹_›, if_neg ‹_›, if_neg ng, if_neg ‹_›, if_pos ‹_›, ho] at h
      replace h : EvI K w0 H ds (⟨2, (numK (cutB r 32).1).getD 0, [], out, 0⟩, 0) := h
      rw [← ‹k = 2›] at h
      rw [ho] at hn
      refine h _ _ _ hn (Sub.hv (subRow rfl (by rw [ho]; rfl) subEnd))
    · refine bad _ _ ?_ (Sub.hv subEnd)
      have big : (more = true ∧ (numK (cutB r 32).1).isSome = true) ∧ ((cutB r 32).2.2 == decide (k = 4)) = false := ‹_›
      have ng := ngo big
      rw [if_neg ‹_›, if_neg ‹_›, if_neg ng, if_neg ‹_›, if_neg ‹_›, if_pos ‹_›, noneOf h1]
    · obtain ⟨u, ho⟩ := Option.isSome_iff_exists.1 h1
      refine good ⟨k, _, [], [], _⟩ _ ?_ rfl (Sub.hv subEnd)
      have big : (more = true ∧ (numK (cutB r 32).1).isSome = true) ∧ ((cutB r 32).2.2 == decide (k = 4)) = false := ‹_›
      have ng := ngo big
      rw [if_neg ‹_›, if_neg ‹_›, if_neg ng, if_neg ‹_›, if_neg ‹_›, if_pos ‹_›, ho, ‹k = 3›]; rfl
    · have big : (more = true ∧ (numK (cutB r 32).1).isSome = true) ∧ ((cutB r 32).2.2 == decide (k = 4)) = false := ‹_›
      rw [big.1.2] at h1; cases h1
    · refine good ⟨k, (numK (cutB r 32).1).getD 0, [], [], 0⟩ _ ?_ rfl (Sub.hv subEnd)
      have big : (more = true ∧ (numK (cutB r 32).1).isSome = true) ∧ ((cutB r 32).2.2 == decide (k = 4)) = false := ‹_›
      have ng := ngo big
      have k4 : k = 4 := by omega
      rw [if_neg ‹_›, if_neg ‹_›, if_neg ng, if_neg ‹_›, if_neg ‹_›, if_neg ‹_›, k4]⟩
end
end Go.Proofs.YtfgdalggkknffaaGreatDoor

namespace Go.Proofs.YtfgdalggkknffaaGreatDoor
open Go.Vx Go.Lib
theorem j3_any {br : (Value → Value → Value → St → Prop) → Prop} {k : Value → Value → Value → St → Prop} (A : Value → Value → Value → St → Prop) (h1 : br A) (h2 : ∀ x y z s, A x y z s → k x y z s) : J3 br k := ⟨A, h2, h1⟩
theorem line_cut {l : List UInt8} {fr i : Nat} (hf : fr ≤ i) (hi : i ≤ l.length) (hn : ∀ b ∈ (l.take i).drop fr, b ≠ 10) (h : i < l.length → l.getD i default = 10) :
    splitB 10 (l.drop fr) = (l.take i).drop fr :: (if i < l.length then splitB 10 (l.drop (i + 1)) else []) := by
  have hs : (10 : UInt8) ∉ (l.take i).drop fr := fun q => hn 10 q rfl
  by_cases hlt : i < l.length
  · rw [if_pos hlt]
    have e : l.drop fr = (l.take i).drop fr ++ 10 :: l.drop (i + 1) := by
      conv => lhs; rw [← List.take_append_drop i l, List.drop_append_of_le_length (by rw [List.length_take]; omega)]
      rw [List.drop_eq_getElem_cons hlt]
      have := h hlt
      rw [List.getD_eq_getElem?_getD, List.getElem?_eq_getElem hlt] at this
      rw [show l[i] = 10 from this]
    rw [e, split_two hs]
  · rw [if_neg hlt]
    have : i = l.length := by omega
    subst this
    rw [List.take_length] at hs ⊢
    exact split_one hs
section
set_option maxRecDepth 20000
set_option synthInstance.maxSize 200000
set_option synthInstance.maxHeartbeats 4000000
variable {K : Value → St → Prop} {w0 w : World} {H R : List SL} {ds : List Deferred} {p n : Nat} {v bv : Value} {l bs : List UInt8} {zs : List Value} {c : UInt8} {m : Bool}
instance parse28_ok [o : Hv w0 H w] : Step (Cl P 12 #[str l] K ⟨w, ds⟩) (l.length ≤ 200000 ∧ ∀ (xs : List (Ev × Value)) v w', xs.map (·.1) = (parseS l).1 → Hv w0 (row 39 5 v xs.length (xs.flatMap encEv) :: many (xs.map ownE) :: H) w' → K (.tuple #[v, .int .i64 (parseS l).2.1, .int .i64 (parseS l).2.2]) ⟨w', ds⟩) := ⟨fun ⟨hl, h⟩ => by
  unfold parseS at h
  refine s12 ?_
  unfold D12
  refine ⟨fun a b c d s => ∃ (fr ln i : Nat) (xs : List (Ev × Value)) (vv : Value) (w' : World), a = vv ∧ b = .int .i64 fr ∧ c = .int .i64 ((ln : Int) + 1) ∧ d = .int .i64 i ∧ s = ⟨w', []⟩ ∧ fr ≤ i ∧ i ≤ l.length + 1 ∧ xs.length ≤ i ∧ ln ≤ i ∧ (∀ b ∈ (l.take i).drop fr, b ≠ 10) ∧
      pgoS (splitB 10 l) 0 [] = (if i ≤ l.length then pgoS (splitB 10 (l.drop fr)) ln (xs.map (·.1)) else (xs.map (·.1), 0, 0)) ∧ Hv w0 (row 39 5 vv xs.length (xs.flatMap encEv) :: many (xs.map ownE) :: H) w',
    fun _ _ _ d s => match d with | .int _ z => l.length + 1 - z.toNat | _ => 0, ⟨0, 0, 0, [], _, w, rfl, rfl, rfl, rfl, rfl, Nat.le_refl _, by omega, Nat.zero_le _, Nat.le_refl _, by simp, by simp, Hv.nilRow 39 5 (Hv.closes (H := []) (Sub.hv subEnd))⟩, ?_⟩
  rintro a b c d s ⟨fr, ln, i, xs, vv, w1, rfl, rfl, rfl, rfl, rfl, hf, hi, hx, hln, hn, he, o1⟩
  clear o
  rcases Nat.lt_or_ge l.length i with hgt | hle
  · rw [if_neg (by omega)] at he
    rw [he] at h
    repeat' (first | refine go ?_ | intro _ | refine ⟨sb, ?_⟩ | refine ⟨sd, ?_⟩ | (refine ⟨fun h1 => ?_, fun h1 => ?_⟩ <;> first | exact ab h1 | ((try rw [h1]); (try simp only [bl] at h1))) | dsimp only)
    · exfalso; omega
    · exact h xs _ _ rfl (Sub.hv (subRow rfl rfl (subT subEnd)))
  rw [if_pos hle] at he
  repeat (first | refine go ?_ | intro _ | refine ⟨sb, ?_⟩ | refine ⟨sd, ?_⟩ | dsimp only)
  refine And.intro (fun h1 => ?_) (fun h1 => by exfalso; simp at h1; omega)
  refine j3_any (fun a b c s => ∃ (fr ln : Nat) (xs : List (Ev × Value)) (w' : World), b = .int .i64 fr ∧ c = .int .i64 ((ln : Int) + 1) ∧ s = ⟨w', []⟩ ∧ fr ≤ i + 1 ∧ xs.length ≤ i + 1 ∧ ln ≤ i + 1 ∧ (∀ b ∈ (l.take (i + 1)).drop fr, b ≠ 10) ∧
      pgoS (splitB 10 l) 0 [] = (if i + 1 ≤ l.length then pgoS (splitB 10 (l.drop fr)) ln (xs.map (·.1)) else (xs.map (·.1), 0, 0)) ∧ Hv w0 (row 39 5 a xs.length (xs.flatMap encEv) :: many (xs.map ownE) :: H) w') ?_ ?_
  · repeat (first | refine go ?_ | intro _ | refine ⟨sb, ?_⟩ | refine ⟨sd, ?_⟩ | dsimp only)
    refine And.intro (fun h2 => ?_) (fun h2 => ?_)
    · have h3 : i < l.length ∧ ¬ l.getD i default = 10 := by
        simp only [Bool.and_eq_true, decide_eq_true_eq, Bool.not_eq_true', decide_eq_false_iff_not] at h2
        exact ⟨by omega, h2.2⟩
      refine ⟨fr, ln, xs, w1, rfl, rfl, rfl, by omega, by omega, by omega, fun b hb => ?_, by rw [he, if_pos (by omega)], o1⟩
      rw [take_snoc h3.1, List.drop_append_of_le_length (by rw [List.length_take]; omega)] at hb
      rcases List.mem_append.1 hb with hb | hb
      · exact hn b hb
      · rw [List.mem_singleton.1 hb]; exact h3.2
    have hcut : i < l.length → l.getD i default = 10 := fun q => by
      simp only [Bool.and_eq_false_iff, decide_eq_false_iff_not, Bool.not_eq_false', decide_eq_true_eq] at h2
      rcases h2 with h2 | h2
      · omega
      · exact h2
    have hsl : ((l.take i).drop fr).length ≤ 200000 := by simp; omega
    rw [line_cut hf hle hn hcut, pgo_cons, ← one_eq] at he
    repeat (first | refine go ?_ | intro _ | refine ⟨sb, ?_⟩ | refine ⟨sd, ?_⟩ | dsimp only)
    generalize (l.take i).drop fr = s at *
    have hd0 : s.getD 0 0 = s.getD 0 default := rfl
    generalize hrest : (if i < l.length then splitB 10 (l.drop (i + 1)) else []) = rest at *
    have fin : ∀ (xs' : List (Ev × Value)), xs'.length ≤ i + 1 → pgoS (splitB 10 l) 0 [] = pgoS rest (ln + 1) (xs'.map (·.1)) → pgoS (splitB 10 l) 0 [] = (if i + 1 ≤ l.length then pgoS (splitB 10 (l.drop (i + 1))) (ln + 1) (xs'.map (·.1)) else (xs'.map (·.1), 0, 0)) := fun xs' _ he' => by
      rw [he', ← hrest]
      by_cases q : i < l.length
      · rw [if_pos q, if_pos (show i + 1 ≤ l.length by omega)]
      · rw [if_neg q, if_neg (by omega)]; rfl
    have dn : ∀ b ∈ (l.take (i + 1)).drop (i + 1), b ≠ 10 := by
      rw [List.drop_of_length_le (by rw [List.length_take]; omega)]; simp
    refine And.intro (Sd.mk fun hq => ⟨⟨by omega, ?_⟩, True.intro⟩) ?_
    · have : s ≠ [] := by simpa using hq
      have := List.length_pos_iff.2 this
      omega
    repeat (first | refine go ?_ | intro _ | refine ⟨sb, ?_⟩ | refine ⟨sd, ?_⟩ | dsimp only)
    refine And.intro (fun h3 => ?_) (fun h3 => ?_)
    · rw [if_neg (by rw [hd0]; simpa using h3)] at he
      refine go (And.intro hsl ?_)
      intro b n w2 hb o2
      subst hb
      repeat' (first | refine go ?_ | intro _ | refine ⟨sb, ?_⟩ | refine ⟨sd, ?_⟩ | (refine ⟨fun h1 => ?_, fun h1 => ?_⟩ <;> first | exact ab h1 | ((try rw [h1]); (try simp only [bl] at h1))) | dsimp only)
      · have h4 : (oneR s).2 ≠ 0 := h1
        rw [if_pos h4] at he
        rw [he] at h
        dsimp only at h
        rw [show ((ln + 1 : Nat) : Int) = (ln : Int) + 1 from rfl] at h
        refine h [] _ _ rfl (Hv.nilRow 39 5 (Hv.closes (H := []) ?_))
        exact Sub.hv subEnd
      · have h4 : ¬ (oneR s).2 ≠ 0 := by simpa using h1
        rw [if_neg h4] at he
        have he2 : pgoS (splitB 10 l) 0 [] = pgoS rest (ln + 1) ((xs ++ [((oneR s).1, b)]).map (·.1)) := by rw [he, List.map_append]; rfl
        refine ⟨i + 1, ln + 1, xs ++ [((oneR s).1, b)], _, by simp, by simp, rfl, Nat.le_refl _, by simp; omega, by omega, dn, fin _ (by simp; omega) he2, Hv.pm (List.Perm.swap ..) (own_snoc ?_)⟩
        exact Sub.hv (subRow rfl rfl (subT (subRow (by simp) (by simp) subEnd)))
    · have h4 : s = [] ∨ s.getD 0 0 = 35 := by
        rw [hd0]
        simp only [Bool.and_eq_false_iff, Bool.not_eq_false', decide_eq_true_eq] at h3
        exact h3
      rw [if_pos h4] at he
      repeat' (first | refine go ?_ | intro _ | refine ⟨sb, ?_⟩ | refine ⟨sd, ?_⟩ | (refine ⟨fun h1 => ?_, fun h1 => ?_⟩ <;> first | exact ab h1 | ((try rw [h1]); (try simp only [bl] at h1))) | dsimp only)
      exact ⟨i + 1, ln + 1, xs, _, by simp, by simp, rfl, Nat.le_refl _, by omega, by omega, dn, fin xs (by omega) he, o1⟩
  · rintro a b c s ⟨fr', ln', xs', w2, rfl, rfl, rfl, hf', hx', hl', hn', he', o2⟩
    repeat' (first | refine go ?_ | intro _ | refine ⟨sb, ?_⟩ | refine ⟨sd, ?_⟩ | (refine ⟨fun h1 => ?_, fun h1 => ?_⟩ <;> first | exact ab h1 | ((try rw [h1]); (try simp only [bl] at h1))) | dsimp only)
    exact ⟨⟨fr', ln', i + 1, xs', _, _, rfl, rfl, rfl, by simp, rfl, hf', by omega, hx', hl', hn', he', o2⟩, by simp; omega⟩⟩
end
end Go.Proofs.YtfgdalggkknffaaGreatDoor

namespace Go.Proofs.YtfgdalggkknffaaGreatDoor
open Go.Vx Go.Lib
theorem ev_n {a b : Ev} (h1 : a.kind = b.kind) (h2 : a.id = b.id) (h3 : a.host = b.host) (h4 : a.b = b.b) : (!decide (a.n = b.n)) = decide (¬ a = b) := by
  cases a; cases b; simp_all
theorem ev_d {a b : Ev} (h : ¬ a = b) : true = decide (¬ a = b) := by simp [h]
def greatE (l : List Ev) : Bool := decide (60 < l.length) || l.any fun e => decide (600 < e.b.length) || decide (100 < e.host.length)
section
set_option maxRecDepth 20000
set_option synthInstance.maxSize 100000
set_option synthInstance.maxHeartbeats 4000000
variable {K : Value → St → Prop} {w0 w : World} {H R : List SL} {ds : List Deferred} {p n : Nat} {v bv : Value} {l bs : List UInt8} {zs : List Value} {c : UInt8} {m : Bool}
instance equalB_ok {x y : Value} {n m : Nat} {xs ys : List Value} {a b : List UInt8} [o : Hv w0 H w] [rx : RdsF w0 H x 1 n xs] [ry : RdsF w0 H y 1 m ys] [ex : Bys xs a] [ey : Bys ys b] :
    Step (Cl P 45 #[x, y] K ⟨w, ds⟩) (∀ w', Hv w0 H w' → K (.bool (decide (a = b))) ⟨w', ds⟩) := ⟨fun h => by
  have lx := rx.loc
  have ly := ry.loc
  obtain rfl := ex.eq
  obtain rfl := ey.eq
  obtain rfl : n = a.length := by have := (rx.rd w o).len; simpa using this.symm
  obtain rfl : m = b.length := by have := (ry.rd w o).len; simpa using this.symm
  have hb := (show Rds w x 1 a.length (a.map byteV) from inferInstance).le
  simp only [maxLen] at hb
  refine s45 ?_
  unfold D45
  repeat (first | refine go ?_ | intro _ | refine ⟨sb, ?_⟩ | refine ⟨sd, ?_⟩ | dsimp only)
  refine And.intro (fun h1 => ?_) (fun h1 => ?_)
  · repeat' (first | refine go ?_ | intro _ | refine ⟨sb, ?_⟩ | refine ⟨sd, ?_⟩ | (refine ⟨fun h1 => ?_, fun h1 => ?_⟩ <;> first | exact ab h1 | ((try rw [h1]); (try simp only [bl] at h1))) | dsimp only)
    rw [decide_eq_false (fun e => by rw [e] at h1; simp at h1)] at h
    exact h _ (Sub.hv subEnd)
  have hab : a.length = b.length := by simp at h1; omega
  repeat (first | refine go ?_ | intro _ | refine ⟨sb, ?_⟩ | refine ⟨sd, ?_⟩ | dsimp only)
  refine ⟨fun z s => ∃ (i : Nat) (w' : World), z = .int .i64 i ∧ s = ⟨w', []⟩ ∧ i ≤ a.length ∧ a.take i = b.take i ∧ Hv w0 H w',
    fun z s => match z with | .int _ z => a.length - z.toNat | _ => 0, ⟨0, w, rfl, rfl, Nat.zero_le _, rfl, o⟩, ?_⟩
  rintro z s ⟨i, w1, rfl, rfl, hi, ht, o1⟩
  clear o
  rcases Nat.lt_or_ge i a.length with hlt | hge
  · have hlt2 : i < b.length := by omega
    repeat' (first | refine go ?_ | intro _ | refine ⟨sb, ?_⟩ | refine ⟨sd, ?_⟩ | (refine ⟨fun h1 => ?_, fun h1 => ?_⟩ <;> first | exact ab h1 | ((try rw [h1]); (try simp only [bl] at h1))) | dsimp only)
    · rename_i hne
      rw [decide_eq_false (fun e => by subst e; exact h1 rfl)] at h
      exact h _ (Sub.hv subEnd)
    · refine ⟨⟨i + 1, _, rfl, rfl, hlt, ?_, Sub.hv subEnd⟩, by simp; omega⟩
      rw [take_snoc hlt, take_snoc hlt2, ht, h1]
    · exfalso; omega
  · have e : a = b := by
      have : i = a.length := by omega
      rw [this, List.take_length, hab, List.take_length] at ht; exact ht
    rw [decide_eq_true e] at h
    repeat' (first | refine go ?_ | intro _ | refine ⟨sb, ?_⟩ | refine ⟨sd, ?_⟩ | (refine ⟨fun h1 => ?_, fun h1 => ?_⟩ <;> first | exact ab h1 | ((try rw [h1]); (try simp only [bl] at h1))) | dsimp only)
    · exfalso; omega
    · exact h _ (Sub.hv subEnd)⟩
variable {k id nn k' id' nn' : Int} {host host' bs' : List UInt8} {b b' : Value} {n' : Nat} {zs' : List Value}
instance same_ok [o : Hv w0 H w] [rx : RdsF w0 H b 1 n zs] [ex : Bys zs bs] [ry : RdsF w0 H b' 1 n' zs'] [ey : Bys zs' bs'] :
    Step (Cl P 30 #[.agg #[.int .i64 k, .int .i64 id, str host, b, .int .i64 nn], .agg #[.int .i64 k', .int .i64 id', str host', b', .int .i64 nn']] K ⟨w, ds⟩) (∀ w', Hv w0 H w' → K (.bool (decide ((⟨k, id, host, bs, nn⟩ : Ev) = ⟨k', id', host', bs', nn'⟩))) ⟨w', ds⟩) := ⟨fun h => by
  have lx := rx.loc
  have ly := ry.loc
  refine s30 ?_
  unfold D30
  repeat' (first | refine go ?_ | intro _ | refine ⟨sb, ?_⟩ | refine ⟨sd, ?_⟩ | (refine ⟨fun h1 => ?_, fun h1 => ?_⟩ <;> first | exact ab h1 | ((try rw [h1]); (try simp only [bl] at h1))) | dsimp only)
  · obtain ⟨⟨rfl, rfl⟩, rfl⟩ := h1
    refine cast (congrArg (fun b => K (.bool b) _) ?_) (h _ (Sub.hv subEnd))
    simp
  · refine cast (congrArg (fun b => K (.bool b) _) ?_) (h _ (Sub.hv subEnd))
    rw [Bool.false_and, decide_eq_false_iff_not]
    intro e
    obtain ⟨rfl, rfl, rfl, _, _⟩ := Ev.mk.inj e
    exact h1 ⟨rfl, rfl⟩ rfl⟩
instance line_ok [o : Hv w0 H w] [tb : PowT w0] [rx : RdsF w0 H b 1 n zs] [ex : Bys zs bs] :
    Step (Cl P 29 #[.agg #[.int .i64 k, .int .i64 id, str host, b, .int .i64 nn]] K ⟨w, ds⟩) ((InR id ∧ InR nn ∧ host.length ≤ 10000 ∧ bs.length ≤ 10000) ∧ ∀ w', Hv w0 H w' → K (str (lineS ⟨k, id, host, bs, nn⟩)) ⟨w', ds⟩) := ⟨fun ⟨⟨hi, hn, hh, hb⟩, h⟩ => by
  have lx := rx.loc
  have li := itoa_len id hi
  have ln := itoa_len nn hn
  have lq := quote_len bs
  have lm := marks_le bs
  unfold lineS at h
  dsimp only at h
  refine s29 ?_
  unfold D29
  repeat' (first | refine go ?_ | intro _ | refine ⟨sb, ?_⟩ | refine ⟨sd, ?_⟩ | (refine ⟨fun h1 => ?_, fun h1 => ?_⟩ <;> first | exact ab h1 | ((try rw [h1]); (try simp only [bl] at h1))) | dsimp only)
  · rw [if_pos h1] at h; exact h _ (Sub.hv subEnd)
  · rw [if_neg ‹_›, if_pos h1] at h; exact h _ (Sub.hv subEnd)
  · rw [if_neg ‹_›, if_neg ‹_›, if_pos h1] at h; exact h _ (Sub.hv subEnd)
  · rw [if_neg ‹_›, if_neg ‹_›, if_neg ‹_›, if_pos h1] at h; exact h _ (Sub.hv subEnd)
  · rw [if_neg ‹_›, if_neg ‹_›, if_neg ‹_›, if_neg ‹_›, if_pos h1] at h; exact h _ (Sub.hv subEnd)
  · rw [if_neg ‹_›, if_neg ‹_›, if_neg ‹_›, if_neg ‹_›, if_neg h1] at h; exact h _ (Sub.hv subEnd)⟩
instance says_ok [o : Hv w0 H w] [rx : RdsF w0 H b 1 n zs] [ex : Bys zs bs] :
    Step (Cl P 15 #[.agg #[.int .i64 k, .int .i64 id, str host, b, .int .i64 nn]] K ⟨w, ds⟩) (host.length ≤ 1000000 ∧ ∀ w', Hv w0 H w' → K (.bool (saysE ⟨k, id, host, bs, nn⟩)) ⟨w', ds⟩) := ⟨fun ⟨hh, h⟩ => by
  have lx := rx.loc
  obtain rfl := ex.eq
  obtain rfl : n = bs.length := by have := (rx.rd w o).len; simpa using this.symm
  have hb0 : decide ((0 : Int) < bs.length) = !decide (bs = []) := by cases bs <;> simp
  unfold saysE at h
  dsimp only at h
  refine s15 ?_
  unfold D15
  repeat (first | refine go ?_ | intro _ | refine ⟨sb, ?_⟩ | refine ⟨sd, ?_⟩ | dsimp only)
  refine And.intro (fun h1 => ?_) (fun h1 => ?_)
  · rw [show (decide (k < 1) || decide (k > 5) || decide (id < 0) || decide (id > 999999999) || decide (nn < 0) || decide (nn > 999999999)) = true from h1] at h
    repeat' (first | refine go ?_ | intro _ | refine ⟨sb, ?_⟩ | refine ⟨sd, ?_⟩ | (refine ⟨fun h1 => ?_, fun h1 => ?_⟩ <;> first | exact ab h1 | ((try rw [h1]); (try simp only [bl] at h1))) | dsimp only)
    exact h _ (Sub.hv subEnd)
  rw [show (decide (k < 1) || decide (k > 5) || decide (id < 0) || decide (id > 999999999) || decide (nn < 0) || decide (nn > 999999999)) = false from h1] at h
  repeat (first | refine go ?_ | intro _ | refine ⟨sb, ?_⟩ | refine ⟨sd, ?_⟩ | dsimp only)
  rw [hb0]
  refine And.intro (fun h2 => ?_) (fun h2 => ?_)
  · rw [h2] at h
    repeat' (first | refine go ?_ | intro _ | refine ⟨sb, ?_⟩ | refine ⟨sd, ?_⟩ | (refine ⟨fun h1 => ?_, fun h1 => ?_⟩ <;> first | exact ab h1 | ((try rw [h1]); (try simp only [bl] at h1))) | dsimp only)
    exact h _ (Sub.hv subEnd)
  rw [h2] at h
  rename_i bx w1 o1
  refine ⟨fun x s => ∃ (i : Nat) (w' : World), x = .int .i64 i ∧ s = ⟨w', []⟩ ∧ i ≤ host.length ∧ (10 : UInt8) ∉ host.take i ∧ Hv w0 (box bx 39 [.int .i64 k, .int .i64 id, str host, b, .int .i64 nn] :: H) w',
    fun x s => match x with | .int _ z => host.length - z.toNat | _ => 0, ⟨0, w1, rfl, rfl, Nat.zero_le _, by simp, Sub.hv (subBox rfl subEnd)⟩, ?_⟩
  rintro x s ⟨i, w2, rfl, rfl, hi, hn, o2⟩
  clear o1 o
  rcases Nat.lt_or_ge i host.length with hlt | hge
  · have hsp : host = host.take i ++ host.getD i default :: host.drop (i + 1) := Mk.split_get hlt
    repeat' (first | refine go ?_ | intro _ | refine ⟨sb, ?_⟩ | refine ⟨sd, ?_⟩ | (refine ⟨fun h1 => ?_, fun h1 => ?_⟩ <;> first | exact ab h1 | ((try rw [h1]); (try simp only [bl] at h1))) | dsimp only)
    · have : host.contains 10 = true := by rw [hsp, h1]; simp
      rw [this] at h
      exact h _ (Sub.hv subEnd)
    · refine ⟨⟨i + 1, _, rfl, rfl, hlt, ?_, Sub.hv (subBox rfl subEnd)⟩, by simp; omega⟩
      rw [take_snoc hlt]
      simp only [List.mem_append, List.mem_singleton, not_or]
      exact ⟨hn, fun e => h1 e.symm⟩
    · exfalso; omega
  · obtain rfl : i = host.length := by omega
    rw [List.take_length] at hn
    have : host.contains 10 = false := by simpa using hn
    rw [this] at h
    repeat' (first | refine go ?_ | intro _ | refine ⟨sb, ?_⟩ | refine ⟨sd, ?_⟩ | (refine ⟨fun h1 => ?_, fun h1 => ?_⟩ <;> first | exact ab h1 | ((try rw [h1]); (try simp only [bl] at h1))) | dsimp only)
    · exfalso; omega
    · exact h _ (Sub.hv subEnd)⟩
instance uencEv : UEnc encEv 5 := ⟨fun _ => rfl⟩
variable {xs ys : List (Ev × Value)} {x y : Value}
instance great27_ok [o : Hv w0 H w] [rx : RdsF w0 H x 5 n (xs.flatMap encEv)] : Step (Cl P 14 #[x] K ⟨w, ds⟩) (((∀ p ∈ xs, RdsF w0 H p.2 1 p.1.b.length (p.1.b.map byteV)) ∧ ∀ p ∈ xs, p.1.host.length ≤ 140737488351232) ∧ ∀ w', Hv w0 H w' → K (.bool (greatE (xs.map (·.1)))) ⟨w', ds⟩) := ⟨fun ⟨⟨hb, hh⟩, h⟩ => by
  have lx := rx.loc
  obtain rfl : n = xs.length := by
    have := (rx.rd w o).len
    rw [flatMap_len (size := 5) (fun _ => rfl)] at this
    omega
  have hle := (show Rds w x 5 xs.length (xs.flatMap encEv) from inferInstance).le
  simp only [maxLen] at hle
  unfold greatE at h
  rw [List.length_map] at h
  refine s14 ?_
  unfold D14
  repeat (first | refine go ?_ | intro _ | refine ⟨sb, ?_⟩ | refine ⟨sd, ?_⟩ | dsimp only)
  refine And.intro (fun h1 => ?_) (fun h1 => ?_)
  · rw [decide_eq_true (show 60 < xs.length by simp at h1; omega), Bool.true_or] at h
    repeat' (first | refine go ?_ | intro _ | refine ⟨sb, ?_⟩ | refine ⟨sd, ?_⟩ | (refine ⟨fun h1 => ?_, fun h1 => ?_⟩ <;> first | exact ab h1 | ((try rw [h1]); (try simp only [bl] at h1))) | dsimp only)
    exact h _ (Sub.hv subEnd)
  rw [decide_eq_false (show ¬ 60 < xs.length by simp at h1; omega), Bool.false_or] at h
  refine ⟨fun z s => ∃ (i : Nat) (w' : World), z = .int .i64 i ∧ s = ⟨w', []⟩ ∧ i ≤ xs.length ∧ (((xs.take i).map (·.1)).any fun e => decide (600 < e.b.length) || decide (100 < e.host.length)) = false ∧ Hv w0 H w',
    fun z s => match z with | .int _ z => xs.length - z.toNat | _ => 0, ⟨0, w, rfl, rfl, Nat.zero_le _, rfl, o⟩, ?_⟩
  rintro z s ⟨i, w1, rfl, rfl, hi, hn, o1⟩
  clear o
  rcases Nat.lt_or_ge i xs.length with hlt | hge
  · have ri := (hb _ (getD_mem hlt)).loc
    have hh1 := hh _ (getD_mem hlt)
    have hall : (decide (600 < (xs.getD i default).1.b.length) || decide (100 < (xs.getD i default).1.host.length)) = true → ((xs.map (·.1)).any fun e => decide (600 < e.b.length) || decide (100 < e.host.length)) = true := fun q =>
      List.any_eq_true.2 ⟨_, List.mem_map.2 ⟨_, getD_mem hlt, rfl⟩, q⟩
    repeat' (first | refine go ?_ | intro _ | refine ⟨sb, ?_⟩ | refine ⟨sd, ?_⟩ | (refine ⟨fun h1 => ?_, fun h1 => ?_⟩ <;> first | exact ab h1 | ((try rw [h1]); (try simp only [bl] at h1))) | dsimp only)
    · rw [hall (by rw [decide_eq_true (show 100 < (xs.getD i default).1.host.length by omega), Bool.or_true])] at h
      exact h _ (Sub.hv subEnd)
    · refine ⟨⟨i + 1, _, rfl, rfl, hlt, ?_, Sub.hv subEnd⟩, by simp; omega⟩
      rw [take_snoc hlt, List.map_append, List.any_append, hn]
      simp only [List.map_cons, List.map_nil, List.any_cons, List.any_nil, Bool.or_false, Bool.false_or]
      rw [decide_eq_false (by omega), decide_eq_false (by omega)]; rfl
    · rw [hall (by rw [decide_eq_true (show 600 < (xs.getD i default).1.b.length by omega), Bool.true_or])] at h
      exact h _ (Sub.hv subEnd)
    · exfalso; omega
  · obtain rfl : i = xs.length := by omega
    rw [List.take_length] at hn
    rw [hn] at h
    repeat' (first | refine go ?_ | intro _ | refine ⟨sb, ?_⟩ | refine ⟨sd, ?_⟩ | (refine ⟨fun h1 => ?_, fun h1 => ?_⟩ <;> first | exact ab h1 | ((try rw [h1]); (try simp only [bl] at h1))) | dsimp only)
    · exfalso; omega
    · exact h _ (Sub.hv subEnd)⟩
instance sames_ok {m : Nat} [o : Hv w0 H w] [rx : RdsF w0 H x 5 n (xs.flatMap encEv)] [ry : RdsF w0 H y 5 m (ys.flatMap encEv)] : Step (Cl P 13 #[x, y] K ⟨w, ds⟩) ((((∀ p ∈ xs, RdsF w0 H p.2 1 p.1.b.length (p.1.b.map byteV)) ∧ ∀ p ∈ ys, RdsF w0 H p.2 1 p.1.b.length (p.1.b.map byteV)) ∧ (∀ p ∈ xs, p.1.host.length ≤ 1000000) ∧ ∀ p ∈ ys, p.1.host.length ≤ 1000000) ∧ ∀ w', Hv w0 H w' → K (.bool (decide (xs.map (·.1) = ys.map (·.1)))) ⟨w', ds⟩) := ⟨fun ⟨⟨⟨hb, hc⟩, hh, hi⟩, h⟩ => by
  have lx := rx.loc
  have ly := ry.loc
  obtain rfl : n = xs.length := by
    have := (rx.rd w o).len
    rw [flatMap_len (size := 5) (fun _ => rfl)] at this
    omega
  obtain rfl : m = ys.length := by
    have := (ry.rd w o).len
    rw [flatMap_len (size := 5) (fun _ => rfl)] at this
    omega
  have hle := (show Rds w x 5 xs.length (xs.flatMap encEv) from inferInstance).le
  simp only [maxLen] at hle
  refine s13 ?_
  unfold D13
  repeat (first | refine go ?_ | intro _ | refine ⟨sb, ?_⟩ | refine ⟨sd, ?_⟩ | dsimp only)
  refine And.intro (fun h1 => ?_) (fun h1 => ?_)
  · rw [decide_eq_false (fun e => by have := congrArg List.length e; simp at this h1; omega)] at h
    repeat' (first | refine go ?_ | intro _ | refine ⟨sb, ?_⟩ | refine ⟨sd, ?_⟩ | (refine ⟨fun h1 => ?_, fun h1 => ?_⟩ <;> first | exact ab h1 | ((try rw [h1]); (try simp only [bl] at h1))) | dsimp only)
    exact h _ (Sub.hv subEnd)
  have hxy : xs.length = ys.length := by simp at h1; omega
  refine ⟨fun z s => ∃ (i : Nat) (w' : World), z = .int .i64 i ∧ s = ⟨w', []⟩ ∧ i ≤ xs.length ∧ (xs.take i).map (·.1) = (ys.take i).map (·.1) ∧ Hv w0 H w',
    fun z s => match z with | .int _ z => xs.length - z.toNat | _ => 0, ⟨0, w, rfl, rfl, Nat.zero_le _, rfl, o⟩, ?_⟩
  rintro z s ⟨i, w1, rfl, rfl, hi1, hn, o1⟩
  clear o
  rcases Nat.lt_or_ge i xs.length with hlt | hge
  · have hlt2 : i < ys.length := by omega
    have ri := (hb _ (getD_mem hlt)).loc
    have si := (hc _ (getD_mem hlt2)).loc
    have hh1 := hh _ (getD_mem hlt)
    have hh2 := hi _ (getD_mem hlt2)
    repeat (first | refine go ?_ | intro _ | refine ⟨sb, ?_⟩ | refine ⟨sd, ?_⟩ | dsimp only)
    refine And.intro (fun h1 => ?_) (fun h1 => by exfalso; simp at h1; omega)
    refine j1_any (fun q s => q = .bool (decide (¬ (xs.getD i default).1 = (ys.getD i default).1)) ∧ ∃ w', s = ⟨w', []⟩ ∧ Hv w0 H w') ?_ ?_
    · repeat' (first | refine go ?_ | intro _ | refine ⟨sb, ?_⟩ | refine ⟨sd, ?_⟩ | (refine ⟨fun h1 => ?_, fun h1 => ?_⟩ <;> first | exact ab h1 | ((try rw [h1]); (try simp only [bl] at h1))) | dsimp only)
      · exact ⟨congrArg Value.bool (ev_n ‹_› ‹_› ‹_› h1), _, rfl, Sub.hv subEnd⟩
      all_goals exact ⟨congrArg Value.bool (ev_d fun e => h1 (by rw [e])), _, rfl, Sub.hv subEnd⟩
    · rintro _ _ ⟨rfl, w2, rfl, o2⟩
      repeat' (first | refine go ?_ | intro _ | refine ⟨sb, ?_⟩ | refine ⟨sd, ?_⟩ | (refine ⟨fun h1 => ?_, fun h1 => ?_⟩ <;> first | exact ab h1 | ((try rw [h1]); (try simp only [bl] at h1))) | dsimp only)
      · rw [decide_eq_false (fun e => h1 (by
          have := congrArg (fun l => l[i]?) e
          simp only [List.getElem?_map, List.getElem?_eq_getElem hlt, List.getElem?_eq_getElem hlt2, Option.map_some, Option.some.injEq] at this
          simpa [List.getD_eq_getElem?_getD, hlt, hlt2] using this))] at h
        exact h _ (Sub.hv subEnd)
      · refine ⟨⟨i + 1, _, rfl, rfl, hlt, ?_, Sub.hv subEnd⟩, by simp; omega⟩
        rw [take_snoc hlt, take_snoc hlt2, List.map_append, List.map_append, hn, List.map_singleton, List.map_singleton, Classical.not_not.1 h1]
  · obtain rfl : i = xs.length := by omega
    rw [List.take_length, hxy, List.take_length] at hn
    rw [decide_eq_true hn] at h
    repeat' (first | refine go ?_ | intro _ | refine ⟨sb, ?_⟩ | refine ⟨sd, ?_⟩ | (refine ⟨fun h1 => ?_, fun h1 => ?_⟩ <;> first | exact ab h1 | ((try rw [h1]); (try simp only [bl] at h1))) | dsimp only)
    · exfalso; omega
    · exact h _ (Sub.hv subEnd)⟩
end
end Go.Proofs.YtfgdalggkknffaaGreatDoor

namespace Go.Proofs.YtfgdalggkknffaaGreatDoor
open Go.Vx Go.Lib
theorem line_len (e : Ev) (h1 : e.host.length ≤ 100) (h2 : e.b.length ≤ 600) (h3 : InR e.id) (h4 : InR e.n) : (lineS e).length ≤ 3000 := by
  have a := itoa_len _ h3
  have b := itoa_len _ h4
  have q1 := quote_len e.b
  have q2 := marks_le e.b
  unfold lineS connT sendT drainT closeT tickT
  repeat' split
  all_goals simp
  all_goals omega
theorem text_len : ∀ (l : List Ev), (∀ e ∈ l, (lineS e).length ≤ 3000) → (textS l).length ≤ 3001 * l.length
  | [], _ => by simp [textS]
  | e :: l, h => by
    have h1 := h e (List.mem_cons_self ..)
    have h2 := text_len l fun e' he => h e' (List.mem_cons_of_mem _ he)
    unfold textS at *
    simp only [List.flatMap_cons, List.length_append, List.length_cons, List.length_nil]
    omega
theorem all_take' {α : Type} [Inhabited α] {l : List α} {p : α → Bool} {i : Nat} (h : i < l.length) : (l.take (i + 1)).all p = ((l.take i).all p && p (l.getD i default)) := by
  rw [take_snoc h, List.all_append]; simp
section
set_option maxRecDepth 20000
set_option synthInstance.maxSize 100000
set_option synthInstance.maxHeartbeats 4000000
variable {K : Value → St → Prop} {w0 w : World} {H R : List SL} {ds : List Deferred} {p n : Nat} {v bv : Value} {xs ys : List (Ev × Value)} {x y : Value}
instance text28_ok [o : Hv w0 H w] [tb : PowT w0] [rx : RdsF w0 H x 5 n (xs.flatMap encEv)] : Step (Cl P 16 #[x] K ⟨w, ds⟩) ((((∀ p ∈ xs, RdsF w0 H p.2 1 p.1.b.length (p.1.b.map byteV)) ∧ ∀ p ∈ xs, (p.1.b.length ≤ 600 ∧ p.1.host.length ≤ 100) ∧ InR p.1.id ∧ InR p.1.n) ∧ xs.length ≤ 60) ∧
    ∀ w', Hv w0 H w' → K (.tuple #[str (if (xs.map (·.1)).all okE then textS (xs.map (·.1)) else []), .bool ((xs.map (·.1)).all okE)]) ⟨w', ds⟩) := ⟨fun ⟨⟨⟨hb, hh⟩, hl⟩, h⟩ => by
  have lx := rx.loc
  obtain rfl : n = xs.length := by
    have := (rx.rd w o).len
    rw [flatMap_len (size := 5) (fun _ => rfl)] at this
    omega
  have hlen : ∀ i, i < xs.length → (lineS (xs.getD i default).1).length ≤ 3000 := fun i hi => by
    have q := hh _ (getD_mem hi)
    exact line_len _ q.1.2 q.1.1 q.2.1 q.2.2
  have htl : ∀ i, i ≤ xs.length → (textS ((xs.take i).map (·.1))).length ≤ 200000 := fun i hi => by
    have := text_len ((xs.take i).map (·.1)) (fun e he => by
      obtain ⟨p, hp, rfl⟩ := List.mem_map.1 he
      have q := hh p (List.mem_of_mem_take hp)
      exact line_len _ q.1.2 q.1.1 q.2.1 q.2.2)
    rw [List.length_map, List.length_take] at this
    omega
  refine s16 ?_
  unfold D16
  repeat (first | refine go ?_ | intro _ | refine ⟨sb, ?_⟩ | refine ⟨sd, ?_⟩ | dsimp only)
  rename_i bb w1 o1
  have o2 := sbd_new (e := 5) o1
  clear o1
  refine ⟨fun z s => ∃ (i : Nat) (w' : World), z = .int .i64 i ∧ s = ⟨w', []⟩ ∧ i ≤ xs.length ∧ ((xs.take i).map (·.1)).all okE = true ∧ Hv w0 (sbd 50 5 bb (textS ((xs.take i).map (·.1))) :: H) w',
    fun z s => match z with | .int _ z => xs.length - z.toNat | _ => 0, ⟨0, w1, rfl, rfl, Nat.zero_le _, rfl, o2⟩, ?_⟩
  rintro z s ⟨i, w2, rfl, rfl, hi, hn, o3⟩
  clear o2 o
  have ht := htl i hi
  rcases Nat.lt_or_ge i xs.length with hlt | hge
  · have ri := (hb _ (getD_mem hlt)).loc
    have hll := hlen i hlt
    have hq := hh _ (getD_mem hlt)
    have es : textS ((xs.take (i + 1)).map (·.1)) = textS ((xs.take i).map (·.1)) ++ (lineS (xs.getD i default).1 ++ [10]) := by
      rw [take_snoc hlt, List.map_append]; simp [textS]
    repeat (first | refine go ?_ | intro _ | refine ⟨sb, ?_⟩ | refine ⟨sd, ?_⟩ | dsimp only)
    refine And.intro (fun h1 => ?_) (fun h1 => by exfalso; simp at h1; omega)
    repeat (first | refine go ?_ | intro _ | refine ⟨sb, ?_⟩ | refine ⟨sd, ?_⟩ | dsimp only)
    rename_i b8 w3 _ _ o4
    refine And.intro ⟨hq.2.1, hq.2.2, by omega, by omega⟩ ?_
    intro w4 o5
    clear o4 o3
    change Cl P 11 #[str (lineS (xs.getD i default).1)] _ _
    refine go (And.intro (by omega) ?_)
    intro zs vz w5 hz o6
    clear o5
    have hok : okE (xs.getD i default).1 = (decide ((parseS (lineS (xs.getD i default).1)).2.2 = 0) && decide (zs.map (·.1) = [(xs.getD i default).1])) := by unfold okE; rw [hz]
    generalize (parseS (lineS (xs.getD i default).1)).2.2 = er at *
    generalize (parseS (lineS (xs.getD i default).1)).2.1 = ln at *
    clear hz
    repeat ((fail_if_success (refine j1_any (fun _ _ => True) ?_ ?_)); (first | refine go ?_ | intro _ | refine ⟨sb, ?_⟩ | refine ⟨sd, ?_⟩ | dsimp only))
    refine j1_any (fun q s => q = .bool (!okE (xs.getD i default).1) ∧ ∃ w', s = ⟨w', []⟩ ∧ Hv w0 (sbd 50 5 bb (textS ((xs.take i).map (·.1))) :: H) w') ?_ ?_
    · rw [hok]
      cases zs with
      | nil =>
        repeat' (first | refine go ?_ | intro _ | refine ⟨sb, ?_⟩ | refine ⟨sd, ?_⟩ | (refine ⟨fun h1 => ?_, fun h1 => ?_⟩ <;> first | exact ab h1 | ((try rw [h1]); (try simp only [bl] at h1))) | dsimp only)
        · exact ⟨by simp, _, rfl, Sub.hv (subSb rfl subEnd)⟩
        · exact ⟨by simp [h1], _, rfl, Sub.hv (subSb rfl subEnd)⟩
      | cons z zs =>
        cases zs with
        | nil =>
          have o8 : Hv w0 (row 39 5 vz 1 ([z].flatMap encEv) :: ownE ([z].getD 0 default) :: box b8 39 [.int .i64 (xs.getD i default).1.kind, .int .i64 (xs.getD i default).1.id, str (xs.getD i default).1.host, (xs.getD i default).2, .int .i64 (xs.getD i default).1.n] ::
              sbd 50 5 bb (textS ((xs.take i).map (·.1))) :: H) w5 := o6.perm fun h => sep_cons (sep_many (G := [_])).1 h
          clear o6
          repeat' (first | refine go ?_ | intro _ | refine ⟨sb, ?_⟩ | refine ⟨sd, ?_⟩ | (refine ⟨fun h1 => ?_, fun h1 => ?_⟩ <;> first | exact ab h1 | ((try rw [h1]); (try simp only [bl] at h1))) | dsimp only)
          · refine ⟨?_, _, rfl, Sub.hv (subSb rfl subEnd)⟩
            rw [decide_eq_true ‹er = 0›, Bool.true_and]
            refine congrArg Value.bool (congrArg not ?_)
            rw [decide_eq_decide]
            show z.1 = (xs.getD i default).1 ↔ _
            simp
          · exact ⟨by simp [h1], _, rfl, Sub.hv (subSb rfl subEnd)⟩
        | cons z2 zs =>
          have hz : ¬ ((z :: z2 :: zs).length : Int) = 1 := by simp; omega
          repeat' (first | refine go ?_ | intro _ | refine ⟨sb, ?_⟩ | refine ⟨sd, ?_⟩ | (refine ⟨fun h1 => ?_, fun h1 => ?_⟩ <;> first | exact ab h1 | ((try rw [h1]); (try simp only [bl] at h1))) | dsimp only)
          · exact absurd h1 hz
          · exact ⟨by simp, _, rfl, Sub.hv (subSb rfl subEnd)⟩
          · exact ⟨by simp, _, rfl, Sub.hv (subSb rfl subEnd)⟩
    · rintro _ _ ⟨rfl, w6, rfl, o7⟩
      repeat (first | refine go ?_ | intro _ | refine ⟨sb, ?_⟩ | refine ⟨sd, ?_⟩ | dsimp only)
      refine And.intro (fun h2 => ?_) (fun h2 => ?_)
      · have h3 : okE (xs.getD i default).1 = false := by simpa using h2
        have : (xs.map (·.1)).all okE = false := List.all_eq_false.2 ⟨_, List.mem_map.2 ⟨_, getD_mem hlt, rfl⟩, by rw [h3]; decide⟩
        rw [this] at h
        repeat' (first | refine go ?_ | intro _ | refine ⟨sb, ?_⟩ | refine ⟨sd, ?_⟩ | (refine ⟨fun h1 => ?_, fun h1 => ?_⟩ <;> first | exact ab h1 | ((try rw [h1]); (try simp only [bl] at h1))) | dsimp only)
        exact h _ (Sub.hv subEnd)
      have h3 : okE (xs.getD i default).1 = true := by simpa using h2
      have en : (([10] : List UInt8).length : Int) = 1 := rfl
      change Bo P .add _ _ _ (str (lineS (xs.getD i default).1)) _ _ _
      repeat' (first | refine go ?_ | intro _ | refine ⟨sb, ?_⟩ | refine ⟨sd, ?_⟩ | (refine ⟨fun h1 => ?_, fun h1 => ?_⟩ <;> first | exact ab h1 | ((try rw [h1]); (try simp only [bl] at h1))) | dsimp only)
      refine ⟨⟨i + 1, _, rfl, rfl, hlt, by rw [List.map_take, all_take' (by simpa using hlt), ← List.map_take, hn]; simpa [List.getD_eq_getElem?_getD, hlt] using h3, Sub.hv (subSb (by rw [es]) subEnd)⟩, by simp; omega⟩
  · obtain rfl : i = xs.length := by omega
    rw [List.take_length] at hn
    rw [hn, if_pos rfl] at h
    repeat' (first | refine go ?_ | intro _ | refine ⟨sb, ?_⟩ | refine ⟨sd, ?_⟩ | (refine ⟨fun h1 => ?_, fun h1 => ?_⟩ <;> first | exact ab h1 | ((try rw [h1]); (try simp only [bl] at h1))) | dsimp only)
    · exfalso; omega
    · rw [List.take_length]
      exact h _ (Sub.hv subEnd)⟩
end
end Go.Proofs.YtfgdalggkknffaaGreatDoor

namespace Go.Proofs.YtfgdalggkknffaaGreatDoor
open Go.Vx Go.Lib Mk
def cf27 : Cfg := ⟨[105, 114, 99, 46, 120], [], [103, 111, 100], [112, 119], 9, 512, 5, 5, 5, 5, 5, 5, 9, 9, 9⟩
def pingB : List UInt8 := [80, 73, 78, 71, 32, 120, 10]
def pingL : List UInt8 := [80, 73, 78, 71, 32, 120]
def evA : Ev := ⟨1, 1, [104], [], 0⟩
def evB : Ev := ⟨2, 1, [], pingB, 0⟩
def evC : Ev := ⟨3, 1, [], [], 99⟩
def outP : List UInt8 := [58, 105, 114, 99, 46, 120, 32, 80, 79, 78, 71, 32, 105, 114, 99, 46, 120, 32, 120, 13, 10]
def rowP : List UInt8 := [49, 32] ++ quoteS outP
def scrP : List UInt8 := [99, 111, 110, 110, 101, 99, 116, 32, 49, 32, 104, 10, 115, 101, 110, 100, 32, 49, 32, 34, 80, 73, 78, 71, 32, 120, 92, 110, 34, 10, 100, 114, 97, 105, 110, 32, 49, 32, 57, 57]
theorem scr_parse : parseS scrP = ([evA, evB, evC], 0, 0) := by decide +kernel
abbrev y1 (b : Nat) : Cs := (Cs.new cf27).connect b 1 [104]
abbrev y2 (b : Nat) : Cs := (y1 b).pinged 1 pingB [[120]]
theorem check_all {c : Cfg} (h : checkS c = 0) : serverS c.name = true ∧ ∀ e ∈ bnds c, e.2.1 ≤ e.1 ∧ e.1 ≤ e.2.2 := by
  unfold checkS at h
  split at h
  · cases h
  split at h
  · rename_i hb ha
    refine ⟨?_, fun e he => ?_⟩
    · unfold badF at hb
      revert hb
      cases serverS c.name <;> simp
    · have := List.all_eq_true.1 ha e he
      simp [okB] at this
      exact this
  · cases h
theorem new_good {c : Cfg} (h : checkS c = 0) : (Cs.new c).good 0 0 := by
  obtain ⟨h1, h2⟩ := check_all h
  have b1 := h2 (c.ping, 1, 1000000) (by simp [bnds])
  have b2 := h2 (c.grace, 1, 1000000) (by simp [bnds])
  have b3 := h2 (c.reg, 1, 1000000) (by simp [bnds])
  have hn : c.name.length ≤ 63 := by simp [serverS, hostS, lenS] at h1; omega
  have fr : ∀ z, (Rl.new z).fit ∧ ∀ l, ((Rl.new z).byS l).length ≤ 1000 := fun z => ⟨⟨by simp [Rl.new], fun _ => Nat.zero_le _, fun _ => Nat.zero_le _⟩, fun _ => Nat.zero_le _⟩
  refine ⟨(fun id y h => by cases h), Nat.le_trans hn (by decide), ⟨Int.le_refl 0, (by show (0 : Int) ≤ 1000000; decide)⟩, fr _, fr _, ⟨Nat.le_refl _, (by show (1000 : Int) ≤ 100000; decide)⟩, ⟨Nat.le_refl _, Nat.le_refl _, Nat.le_refl _⟩, ?_, Nat.le_refl _⟩
  dsimp only [Cs.new] at b1 b2 b3 ⊢
  omega
theorem y1_good (b : Nat) : (y1 b).good 0 1 := (new_good (c := cf27) (by decide +kernel)).connect b 1 [104] (by decide)
theorem y1_live (b : Nat) : (y1 b).live 1 = some (b, Cn.first 512 1 [104]) := by kernel_rfl
theorem y1_feed (b : Nat) : ((y1 b).feed 1 pingB).1 = (y1 b).set 1 b (Cn.first 512 1 [104]) := by
  unfold Cs.feed
  rw [y1_live]
  rfl
theorem y1_lines (b : Nat) : ((y1 b).feed 1 pingB).2 = [(pingL, false)] := by kernel_rfl
theorem y1_set (b : Nat) : ((y1 b).set 1 b (Cn.first 512 1 [104])).good 0 1 := by
  have g := y1_good b
  have hy := g.live (y1_live b)
  exact g.put (n := (y1 b).n) (hh := (y1 b).hold) (pp := (y1 b).pulse) (dd := (y1 b).dying) hy.1 hy.2 g.h g.p ⟨rfl, rfl, rfl⟩ g.d
theorem y1_pings (b : Nat) : (y1 b).pings 1 pingB pingL := by
  have g := y1_set b
  have hv : ((y1 b).set 1 b (Cn.first 512 1 [104])).live 1 = some (b, Cn.first 512 1 [104]) := by kernel_rfl
  refine ⟨⟨fun id y h => ?_⟩, by decide, y1_lines b, ?_, ?_, ?_, by decide +kernel, by decide +kernel, by decide +kernel, ?_, ⟨by decide +kernel, by decide +kernel⟩, ?_⟩
  · have h : updF (fun _ => none) 1 (some (b, Cn.first 512 1 [104])) id = some y := h
    by_cases e : id = 1
    · subst e; rw [updF_at] at h; obtain rfl := Option.some.inj h; exact Nat.zero_le _
    · rw [updF_ne _ e] at h; cases h
  · rw [y1_feed, hv]; rfl
  · rw [y1_feed]; exact g.timed (by decide)
  · rw [y1_feed]; kernel_rfl
  · rw [y1_feed]
    have e : ((y1 b).set 1 b (Cn.first 512 1 [104])).heard 1 = { (y1 b).set 1 b (Cn.first 512 1 [104]) with pulse := ((y1 b).set 1 b (Cn.first 512 1 [104])).pulse.line 1 ((y1 b).set 1 b (Cn.first 512 1 [104])).now } := by
      unfold Cs.heard; rw [hv]; rfl
    rw [e]
    exact ⟨⟨g.fine.q⟩, Nat.zero_le _, (by show ([105, 114, 99, 46, 120] : List UInt8).length ≤ 999; decide)⟩
  · kernel_rfl
theorem ping_ps : (parseP pingL).1.ps = [[120]] := by decide +kernel
theorem y2_out (b : Nat) : ((y2 b).drain 1 99).2 = outP := by kernel_rfl
theorem y2_fine (b : Nat) : (y2 b).fine := by
  have g := y1_set b
  have hv : ((y1 b).set 1 b (Cn.first 512 1 [104])).live 1 = some (b, Cn.first 512 1 [104]) := by kernel_rfl
  unfold y2 Cs.pinged Cs.ping
  rw [y1_feed]
  have e : ((y1 b).set 1 b (Cn.first 512 1 [104])).heard 1 = { (y1 b).set 1 b (Cn.first 512 1 [104]) with pulse := ((y1 b).set 1 b (Cn.first 512 1 [104])).pulse.line 1 ((y1 b).set 1 b (Cn.first 512 1 [104])).now } := by
    unfold Cs.heard; rw [hv]; rfl
  rw [e]
  exact Cs.fine.tell ⟨g.fine.q⟩ _ _
theorem sx_of {L cs : List Value} {i n : Nat} (h : cs = (L.drop (i * 5)).take 5) : SubX L 5 i n cs := ⟨fun _ _ j u hu => by
  subst h
  rw [List.getElem?_take] at hu
  split at hu
  · rw [List.getElem?_drop] at hu; exact hu
  · cases hu⟩
section
set_option maxRecDepth 20000
set_option synthInstance.maxSize 100000
set_option synthInstance.maxHeartbeats 4000000
variable {w0 : World}
abbrev runX : List (Int × List UInt8) := [(1, outP)]
abbrev runE (x : Int × List UInt8) (y : Value × Nat) : List Value := [.int .i64 x.1, y.1]
abbrev runB (x : Int × List UInt8) (y : Value × Nat) : SL := row 5 1 y.1 y.2 (x.2.map byteV)
abbrev runT (ve v1 v2 v3 : Value) : List SL := [row 39 5 ve 3 ([(evA, v1), (evB, v2), (evC, v3)].flatMap encEv), row 5 1 v1 0 [], row 5 1 v2 7 (pingB.map byteV), row 5 1 v3 0 []]
theorem run_seq {bs be s p : Nat} {ve v1 v2 v3 : Value} : SeqL P w0 (.func (.func 62) #[] #[.pointer (some ⟨be, 0, none⟩), .pointer (some ⟨bs, 0, none⟩)])
    (box bs 85 [ptrV s] :: box be 28 [ve] :: box s 103 [ptrV p] :: coreR p (.new cf27) :: runT ve v1 v2 v3) (runT ve v1 v2 v3) (fun _ => runT ve v1 v2 v3) runE runB runX := by
  intro l J X w ds K o hy hk hx
  have yy : YldL P w0 l J X runE runB runX := ⟨hy⟩
  dsimp only [runT] at o hk hx
  clear hy
  generalize hL : [(evA, v1), (evB, v2), (evC, v3)].flatMap encEv = L at *
  have s0 : ∀ n, SubX L 5 0 n [.int .i64 1, .int .i64 1, str [104], v1, .int .i64 0] := fun n => sx_of (by rw [← hL]; rfl)
  have s1 : ∀ n, SubX L 5 1 n [.int .i64 2, .int .i64 1, str [], v2, .int .i64 0] := fun n => sx_of (by rw [← hL]; rfl)
  have s2 : ∀ n, SubX L 5 2 n [.int .i64 3, .int .i64 1, str [], v3, .int .i64 99] := fun n => sx_of (by rw [← hL]; rfl)
  have g0 : (Cs.new cf27).good 0 0 := new_good (by decide +kernel)
  have t0 := g0.timed (by decide)
  have m0 : (Cs.new cf27).mayConnect 1 := ⟨by decide, rfl, by decide⟩
  refine go ?_
  refine s62 ?_
  unfold D62
  repeat (first | refine go ?_ | intro _ | refine ⟨sb, ?_⟩ | refine ⟨sd, ?_⟩ | dsimp only)
  refine ⟨fun z t => (z = .int .i64 0 ∧ t = ⟨w, []⟩) ∨
      (z = .int .i64 1 ∧ ∃ b w', t = ⟨w', []⟩ ∧ Hv w0 (J 0 :: box bs 85 [ptrV s] :: box s 103 [ptrV p] :: coreR p (y1 b) :: row 39 5 ve 3 L :: row 5 1 v1 0 [] :: row 5 1 v2 7 (pingB.map byteV) :: row 5 1 v3 0 [] :: []) w') ∨
      (z = .int .i64 2 ∧ ∃ b w', t = ⟨w', []⟩ ∧ Hv w0 (J 0 :: box bs 85 [ptrV s] :: box s 103 [ptrV p] :: coreR p (y2 b) :: row 39 5 ve 3 L :: row 5 1 v1 0 [] :: row 5 1 v2 7 (pingB.map byteV) :: row 5 1 v3 0 [] :: []) w') ∨
      (z = .int .i64 3 ∧ ∃ w', t = ⟨w', []⟩ ∧ Hv w0 (J 1 :: row 39 5 ve 3 L :: row 5 1 v1 0 [] :: row 5 1 v2 7 (pingB.map byteV) :: row 5 1 v3 0 [] :: []) w'),
    fun z _ => match z with | .int _ z => 4 - z.toNat | _ => 0, .inl ⟨rfl, rfl⟩, ?_⟩
  rintro z t (⟨rfl, rfl⟩ | ⟨rfl, b, w2, rfl, o2⟩ | ⟨rfl, b, w2, rfl, o2⟩ | ⟨rfl, w2, rfl, o2⟩)
  · repeat (first | refine go ?_ | intro _ | refine ⟨sb, ?_⟩ | refine ⟨sd, ?_⟩ | dsimp only)
    refine And.intro (fun _ => ?_) (fun h1 => by exfalso; revert h1; decide)
    repeat (first | refine go ?_ | intro _ | refine ⟨sb, ?_⟩ | refine ⟨sd, ?_⟩ | dsimp only)
    refine And.intro ⟨⟨t0, ⟨by decide, by decide⟩, by decide, by decide⟩, m0⟩ ?_
    intro b w4 o4
    repeat' (first | refine go ?_ | intro _ | refine ⟨sb, ?_⟩ | refine ⟨sd, ?_⟩ | (refine ⟨fun h1 => ?_, fun h1 => ?_⟩ <;> first | exact ab h1 | ((try rw [h1]); (try simp only [bl] at h1))) | dsimp only)
    exact ⟨.inr (.inl ⟨rfl, b, _, rfl, Sub.hv (subJ rfl (subBox rfl (subBox rfl (subK rfl (subRow rfl rfl (subRow rfl rfl (subRow rfl rfl (subRow rfl rfl subEnd))))))))⟩), by decide⟩
  · clear o
    repeat (first | refine go ?_ | intro _ | refine ⟨sb, ?_⟩ | refine ⟨sd, ?_⟩ | dsimp only)
    refine And.intro (fun _ => ?_) (fun h1 => by exfalso; revert h1; decide)
    repeat (first | refine go ?_ | intro _ | refine ⟨sb, ?_⟩ | refine ⟨sd, ?_⟩ | dsimp only)
    refine stepPing (bs := pingB) (l := pingL) (y1_pings b) ?_
    rw [ping_ps]
    intro w4 o4
    repeat' (first | refine go ?_ | intro _ | refine ⟨sb, ?_⟩ | refine ⟨sd, ?_⟩ | (refine ⟨fun h1 => ?_, fun h1 => ?_⟩ <;> first | exact ab h1 | ((try rw [h1]); (try simp only [bl] at h1))) | dsimp only)
    exact ⟨.inr (.inr (.inl ⟨rfl, b, _, rfl, Sub.hv (subJ rfl (subBox rfl (subBox rfl (subK rfl (subRow rfl rfl (subRow rfl rfl (subRow rfl rfl (subRow rfl rfl subEnd))))))))⟩)), by decide⟩
  · clear o
    repeat (first | refine go ?_ | intro _ | refine ⟨sb, ?_⟩ | refine ⟨sd, ?_⟩ | dsimp only)
    refine And.intro (fun _ => ?_) (fun h1 => by exfalso; revert h1; decide)
    repeat (first | refine go ?_ | intro _ | refine ⟨sb, ?_⟩ | refine ⟨sd, ?_⟩ | dsimp only)
    refine And.intro (y2_fine b) ?_
    rw [y2_out]
    intro v n w4 o4
    have hn : n = 21 := by
      have := (show Rds w4 v 1 n (outP.map byteV) from inferInstance).len
      simpa [outP] using this.symm
    subst hn
    repeat (first | refine go ?_ | intro _ | refine ⟨sb, ?_⟩ | refine ⟨sd, ?_⟩ | dsimp only)
    refine And.intro (fun _ => ?_) (fun h1 => by exfalso; revert h1; decide)
    repeat (first | refine go ?_ | intro _ | refine ⟨sb, ?_⟩ | refine ⟨sd, ?_⟩ | dsimp only)
    refine ⟨(1, outP), (v, 21), [row 39 5 ve 3 L, row 5 1 v1 0 [], row 5 1 v2 7 (pingB.map byteV), row 5 1 v3 0 []], rfl, rfl, subRow rfl rfl (subRow rfl rfl (subRow rfl rfl (subRow rfl rfl (subRow rfl rfl subEnd)))), ?_, ?_⟩
    · intro w5 o5
      clear o2 o4
      repeat' (first | refine go ?_ | intro _ | refine ⟨sb, ?_⟩ | refine ⟨sd, ?_⟩ | (refine ⟨fun h1 => ?_, fun h1 => ?_⟩ <;> first | exact ab h1 | ((try rw [h1]); (try simp only [bl] at h1))) | dsimp only)
      exact ⟨.inr (.inr (.inr ⟨rfl, _, rfl, Sub.hv (subJ rfl (subRow rfl rfl (subRow rfl rfl (subRow rfl rfl (subRow rfl rfl subEnd)))))⟩)), by decide⟩
    · intro w5 o5
      clear o2 o4
      repeat' (first | refine go ?_ | intro _ | refine ⟨sb, ?_⟩ | refine ⟨sd, ?_⟩ | (refine ⟨fun h1 => ?_, fun h1 => ?_⟩ <;> first | exact ab h1 | ((try rw [h1]); (try simp only [bl] at h1))) | dsimp only)
      exact hx 0 _ _ _ rfl (Sub.hv (subA (A := X 0) (subRow rfl rfl (subRow rfl rfl (subRow rfl rfl (subRow rfl rfl subEnd))))))
  · clear o
    repeat (first | refine go ?_ | intro _ | refine ⟨sb, ?_⟩ | refine ⟨sd, ?_⟩ | dsimp only)
    refine And.intro (fun h1 => by exfalso; revert h1; decide) (fun _ => ?_)
    repeat' (first | refine go ?_ | intro _ | refine ⟨sb, ?_⟩ | refine ⟨sd, ?_⟩ | (refine ⟨fun h1 => ?_, fun h1 => ?_⟩ <;> first | exact ab h1 | ((try rw [h1]); (try simp only [bl] at h1))) | dsimp only)
    exact hk _ _ o2
end
end Go.Proofs.YtfgdalggkknffaaGreatDoor

namespace Go.Proofs.YtfgdalggkknffaaGreatDoor
open Go.Vx Go.Lib Mk
section
set_option maxRecDepth 20000
set_option synthInstance.maxSize 100000
set_option synthInstance.maxHeartbeats 4000000
variable {w0 : World}
theorem rows_seq [tb : PowT w0] {bc be : Nat} {ve v1 v2 v3 : Value} : SeqOf P w0 (.func (.func 48) #[] #[.pointer (some ⟨bc, 0, none⟩), .pointer (some ⟨be, 0, none⟩)])
    (box bc 46 (encCf cf27) :: box be 28 [ve] :: runT ve v1 v2 v3) (fun l => [str l]) [rowP] := by
  intro l J X w ds K o hy hk hx
  have yy : Yld P w0 l J X (fun l => [str l]) [rowP] := ⟨hy⟩
  refine go ?_
  refine s48 ?_
  unfold D48
  have hch : checkS cf27 = 0 := by decide +kernel
  repeat (first | refine go ?_ | intro _ | refine ⟨sb, ?_⟩ | refine ⟨sd, ?_⟩ | dsimp only)
  refine And.intro (fun h1 => by exfalso; simp at h1) (fun _ => ?_)
  repeat (first | refine go ?_ | intro _ | refine ⟨sb, ?_⟩ | refine ⟨sd, ?_⟩ | dsimp only)
  refine s50 ?_
  unfold D50
  repeat (first | refine go ?_ | intro _ | refine ⟨sb, ?_⟩ | refine ⟨sd, ?_⟩ | dsimp only)
  rename_i b1 w1 o1 s p w2 o2 _ bs w3 o3 be2 w4 o4
  clear o1 o2 o3 o
  refine rf_goL (w0 := w0) (box bs 85 [ptrV s] :: box be2 28 [ve] :: box s 103 [ptrV p] :: coreR p (.new cf27) :: runT ve v1 v2 v3) (runT ve v1 v2 v3) (fun _ => runT ve v1 v2 v3)
    (fun i => many [J i, box b1 35 [yv l], box bc 46 (encCf cf27), box be 28 [ve]]) (fun _ => many [X 0, box bc 46 (encCf cf27), box be 28 [ve]])
    run_seq (fun _ _ => rfl) ?_ ?_ ?_ ?_
  · exact Sub.hv (Sub.many (subJ rfl (subBox rfl (subBox rfl (subBox rfl (subBox rfl (subBox rfl (subBox rfl (subK rfl subEnd))))))))) 
  · intro b l2 rc R F w5 i x y hi o6 hn2 hr2
    obtain ⟨rfl, rfl⟩ : i = 0 ∧ x = (1, outP) := by
      cases i with
      | zero => exact ⟨rfl, (Option.some.inj hi).symm⟩
      | succ i => cases hi
    have o7 := o6.opens
    simp only [List.cons_append, List.nil_append, List.headD_cons, List.tail_cons] at o7 ⊢
    clear o4 o6
    have li : (itoa 1).length ≤ 100 := by decide +kernel
    have lq : (quoteS outP).length ≤ 100 := by decide +kernel
    have lo : outP.length ≤ 100 := by decide +kernel
    repeat ((fail_if_success (refine (itoaL_ok).prf ?_)); (first | refine go ?_ | intro _ | refine ⟨sb, ?_⟩ | refine ⟨sd, ?_⟩ | dsimp only))
    refine go (And.intro ⟨by decide, by decide⟩ ?_)
    intro w6 o8
    rw [show itoa 1 = [49] by decide +kernel]
    clear o7
    repeat ((fail_if_success (refine (quote_ok (bs := outP)).prf ?_)); (first | refine go ?_ | intro _ | refine ⟨sb, ?_⟩ | refine ⟨sd, ?_⟩ | dsimp only))
    refine (quote_ok (bs := outP)).prf (And.intro (by omega) ?_)
    intro w7 o9
    clear o8
    have hrow : rowP = [49, 32] ++ quoteS outP := rfl
    generalize quoteS outP = Q at *
    repeat' (first | refine go ?_ | intro _ | refine ⟨sb, ?_⟩ | refine ⟨sd, ?_⟩ | (refine ⟨fun h1 => ?_, fun h1 => ?_⟩ <;> first | exact ab h1 | ((try rw [h1]); (try simp only [bl] at h1))) | dsimp only)
    refine ⟨rowP, rfl, by rw [hrow]; rfl, fun w' o' => ?_, fun w' o' => ?_⟩
    · repeat' (first | refine go ?_ | intro _ | refine ⟨sb, ?_⟩ | refine ⟨sd, ?_⟩ | (refine ⟨fun h1 => ?_, fun h1 => ?_⟩ <;> first | exact ab h1 | ((try rw [h1]); (try simp only [bl] at h1))) | dsimp only)
      exact hn2 _ (Sub.hv (Sub.many (subJ rfl (subBox rfl (subBox rfl (subBox rfl (subA (A := lpR rc l2) (subA (A := dfb b) (subRow rfl rfl subEnd)))))))))
    · repeat' (first | refine go ?_ | intro _ | refine ⟨sb, ?_⟩ | refine ⟨sd, ?_⟩ | (refine ⟨fun h1 => ?_, fun h1 => ?_⟩ <;> first | exact ab h1 | ((try rw [h1]); (try simp only [bl] at h1))) | dsimp only)
      exact hr2 _ (Sub.hv (Sub.many (subA (A := X 0) (subBox rfl (subBox rfl (subA (A := lpD rc l2 .ret) (subA (A := dfb b) (subRow rfl rfl subEnd))))))))
  · intro b w5 o5
    have o7 := o5.opens
    simp only [List.cons_append, List.nil_append, List.headD_cons, List.tail_cons] at o7 ⊢
    clear o4 o5
    repeat' (first | refine go ?_ | intro _ | refine ⟨sb, ?_⟩ | refine ⟨sd, ?_⟩ | (refine ⟨fun h1 => ?_, fun h1 => ?_⟩ <;> first | exact ab h1 | ((try rw [h1]); (try simp only [bl] at h1))) | dsimp only)
    exact hk _ _ (Sub.hv (subJ rfl (subBox rfl (subBox rfl (subRow rfl rfl (subRow rfl rfl (subRow rfl rfl (subRow rfl rfl subEnd)))))))) 
  · intro b i x w5 hi o5
    have o7 := o5.opens
    simp only [List.cons_append, List.nil_append, List.headD_cons, List.tail_cons] at o7 ⊢
    clear o4 o5
    repeat' (first | refine go ?_ | intro _ | refine ⟨sb, ?_⟩ | refine ⟨sd, ?_⟩ | (refine ⟨fun h1 => ?_, fun h1 => ?_⟩ <;> first | exact ab h1 | ((try rw [h1]); (try simp only [bl] at h1))) | dsimp only)
    exact hx 0 _ _ _ rfl (Sub.hv (subA (A := X 0) (subBox rfl (subBox rfl (subRow rfl rfl (subRow rfl rfl (subRow rfl rfl (subRow rfl rfl subEnd))))))))
end
end Go.Proofs.YtfgdalggkknffaaGreatDoor

namespace Go.Proofs.YtfgdalggkknffaaGreatDoor
open Go.Vx Go.Lib Mk
section
set_option maxRecDepth 20000
set_option synthInstance.maxSize 200000
set_option synthInstance.maxHeartbeats 4000000
variable {w0 w : World} {H R : List SL} {ds : List Deferred} {K : Value → St → Prop}
theorem takeS_snoc {α : Type} {xs : List α} {i : Nat} {x : α} (h : xs[i]? = some x) : xs.take (i + 1) = xs.take i ++ [x] := by
  rw [List.take_add_one, h]; rfl
theorem collS_ok {gv : Value} {A : SL} {T : List SL} {xs : List (List UInt8)} (hs : SeqOf P w0 gv T (fun l => [str l]) xs) (hn : xs.length ≤ 1000000) (o : Hv w0 (A :: T) w)
    (h : ∀ v w', Hv w0 (row 9 1 v xs.length (xs.map str) :: A :: T) w' → K v ⟨w', ds⟩) : Cl P 32 #[gv] K ⟨w, ds⟩ := by
  refine s32 ?_
  unfold D32
  refine s47 ?_
  unfold D47
  repeat (first | refine go ?_ | intro _ | refine ⟨sb, ?_⟩ | refine ⟨sd, ?_⟩ | dsimp only)
  rename_i b1 w1 o1
  clear o
  refine rf_go (w0 := w0) T (fun i => any fun q => many [A, box b1 43 [q], row 9 1 q i ((xs.take i).map str)]) (fun _ => lift False) (fun _ _ => lift False) hs (fun _ => rfl) ?_ ?_ ?_ (fun _ _ _ _ _ h => h.lifted.elim) (fun _ _ _ _ _ _ h => h.lifted.elim)
  · have o2 := Hv.nilRow 9 1 o1
    exact Sub.hv (o := o2) (Sub.any (.slice none 0 0) (Sub.many (subA (A := A) (subBox rfl (subRow rfl rfl subEnd)))))
  · intro bd l1 rc R1 F w2 i x hx o3 h1 _ _
    obtain ⟨q, o4⟩ := o3.pick
    have o5 := o4.opens
    simp only [List.cons_append, List.nil_append, List.headD_cons] at o5 ⊢
    clear o1 o3 o4
    have hi : i < xs.length := (List.getElem?_eq_some_iff.1 hx).1
    repeat' (first | refine go ?_ | intro _ | refine ⟨sb, ?_⟩ | refine ⟨sd, ?_⟩ | (refine ⟨fun h1 => ?_, fun h1 => ?_⟩ <;> first | exact ab h1 | ((try rw [h1]); (try simp only [bl] at h1))) | dsimp only)
    refine h1 _ (Sub.hv (Sub.any _ (Sub.many (subA (A := A) (subBox rfl (subRow rfl ?_ (subA (A := lpR rc l1) (subA (A := dfb bd) subEnd))))))))
    rw [takeS_snoc hx, List.map_append]; rfl
  · intro bd w2 o3
    obtain ⟨q, o4⟩ := o3.pick
    have o5 := o4.opens
    simp only [List.cons_append, List.nil_append, List.headD_cons] at o5 ⊢
    clear o1 o3 o4
    repeat' (first | refine go ?_ | intro _ | refine ⟨sb, ?_⟩ | refine ⟨sd, ?_⟩ | (refine ⟨fun h1 => ?_, fun h1 => ?_⟩ <;> first | exact ab h1 | ((try rw [h1]); (try simp only [bl] at h1))) | dsimp only)
    rw [List.take_length] at *
    exact h _ _ (Sub.hv (subRow rfl rfl (subA (A := A) subEnd)))
theorem ev3 {xs : List (Ev × Value)} {a b c : Ev} (h : xs.map (·.1) = [a, b, c]) : ∃ u v t, xs = [(a, u), (b, v), (c, t)] := by
  match xs, h with
  | [(_, u), (_, v), (_, t)], h => 
    simp at h
    obtain ⟨rfl, rfl, rfl⟩ := h
    exact ⟨u, v, t, rfl⟩
instance play_ok [tb : PowT w0] [o : Hv w0 H w] : Step (Cl P 18 #[.agg (encCf cf27).toArray, str scrP] K ⟨w, ds⟩) (∀ v w', Hv w0 (row 9 1 v 1 [str rowP] :: H) w' → K v ⟨w', ds⟩) := ⟨fun h => by
  refine s18 ?_
  unfold D18
  have hl : scrP.length ≤ 200000 := by decide
  repeat (first | refine go ?_ | intro _ | refine ⟨sb, ?_⟩ | refine ⟨sd, ?_⟩ | dsimp only)
  rename_i bc v1 o1 xs v w2 hx o2
  rw [scr_parse] at hx
  rw [scr_parse]
  obtain ⟨u1, u2, u3, rfl⟩ := ev3 hx
  clear o1 o hx
  dsimp only [List.map, ownE, List.length] at o2
  have o3 : Hv w0 (runT v u1 u2 u3 ++ box bc 46 (encCf cf27) :: H) w2 := by
    have o4 := Hv.perm (fun h => sep_swap h) o2
    have o5 := o4.opens
    simp only [List.cons_append, List.nil_append] at o5
    clear o2 o4
    exact Sub.hv (o := o5) (subRow rfl rfl (subRow rfl rfl (subRow rfl rfl (subRow rfl rfl subEnd))))
  dsimp only [List.cons_append, List.nil_append, runT] at o3
  clear o2
  repeat (first | refine go ?_ | intro _ | refine ⟨sb, ?_⟩ | refine ⟨sd, ?_⟩ | dsimp only)
  refine And.intro (fun h1 => by exfalso; simp at h1) (fun _ => ?_)
  repeat (first | refine go ?_ | intro _ | refine ⟨sb, ?_⟩ | refine ⟨sd, ?_⟩ | dsimp only)
  refine s33 ?_
  unfold D33
  repeat (first | refine go ?_ | intro _ | refine ⟨sb, ?_⟩ | refine ⟨sd, ?_⟩ | dsimp only)
  rename_i b1 w3 o4 b2 w4 o5
  clear o3 o4
  refine collS_ok (w0 := w0) (A := many H) (T := box b1 46 (encCf cf27) :: box b2 28 [v] :: runT v u1 u2 u3) rows_seq (by decide) ?_ ?_
  · exact Sub.hv (o := o5) (Sub.rest (subBox rfl (subBox rfl (subRow rfl rfl (subRow rfl rfl (subRow rfl rfl (subRow rfl rfl subEnd)))))))
  · intro v2 w5 o6
    clear o5
    repeat' (first | refine go ?_ | intro _ | refine ⟨sb, ?_⟩ | refine ⟨sd, ?_⟩ | (refine ⟨fun h1 => ?_, fun h1 => ?_⟩ <;> first | exact ab h1 | ((try rw [h1]); (try simp only [bl] at h1))) | dsimp only)
    exact h _ _ (Sub.hv (o := o6) (Sub.unrest (subRow rfl rfl (subA (A := many H) subEnd))))⟩
instance awake28_ok [tb : PowT w0] [o : Hv w0 H w] : Step (Cl P 6 #[] K ⟨w, ds⟩) (∀ w', Hv w0 H w' → K (.bool true) ⟨w', ds⟩) := ⟨fun h => by
  refine s6 ?_
  unfold D6
  repeat (first | refine go ?_ | intro _ | refine ⟨sb, ?_⟩ | refine ⟨sd, ?_⟩ | dsimp only)
  rename_i w1 o1
  clear o
  refine (play_ok).prf ?_
  intro v w2 o2
  clear o1
  repeat (first | refine go ?_ | intro _ | refine ⟨sb, ?_⟩ | refine ⟨sd, ?_⟩ | dsimp only)
  rw [decide_eq_true (show [rowP] = [[49, 32, 34, 58, 105, 114, 99, 46, 120, 32, 80, 79, 78, 71, 32, 105, 114, 99, 46, 120, 32, 120, 92, 114, 92, 110, 34]] by decide +kernel)]
  exact h _ (Sub.hv subEnd)⟩
end
end Go.Proofs.YtfgdalggkknffaaGreatDoor

namespace Go.Proofs.YtfgdalggkknffaaGreatDoor
open Go.Vx Go.Lib Mk
section
set_option maxRecDepth 20000
set_option synthInstance.maxSize 100000
set_option synthInstance.maxHeartbeats 4000000
variable {w0 w : World} {H R : List SL} {ds : List Deferred} {K : Value → St → Prop}
theorem law_quotes [tb : PowT w0] {bv : Value} {n : Nat} {zs : List Value} {bs l : List UInt8} [o : Hv w0 H w] [rf : RdsF w0 H bv 1 n zs] [bz : Bys zs bs] (h : ∀ w', Hv w0 H w' → K (.bool true) ⟨w', ds⟩) :
    Cl P 3 #[bv, str l] K ⟨w, ds⟩ := by
  have hn : n = bs.length := by
    have := (rf.rd w o).len
    rw [bz.eq] at this; simpa using this.symm
  subst hn
  have rl := rf.loc
  refine s3 ?_
  unfold D3
  repeat (first | refine go ?_ | intro _ | refine ⟨sb, ?_⟩ | refine ⟨sd, ?_⟩ | dsimp only)
  refine And.intro (fun h1 => by cases h1) (fun _ => ?_)
  have hq : (quoteS bs).length ≤ 4 * bs.length + 2 := by
    have h1 := marks_le bs
    have h2 := quote_len bs
    omega
  have hu := unquote_quote bs
  repeat' (first | refine go ?_ | intro _ | refine ⟨sb, ?_⟩ | refine ⟨sd, ?_⟩ | (refine ⟨fun h1 => ?_, fun h1 => ?_⟩ <;> first | exact ab h1 | ((try rw [h1]); (try simp only [bl] at h1))) | dsimp only)
  · exact h _ (Sub.hv subEnd)
  · rw [hu]
    simp only [Option.isSome_some, Option.getD_some, decide_true, Bool.and_self, Bool.true_and, BEq.rfl]
    exact h _ (Sub.hv subEnd)
theorem quotes_ok {w : World} {v : Value} {bs l : List UInt8} [tb : PowT w] (hp : Arg w v 1 bs.length (bs.map byteV)) : Calls P 3 #[v, str l] w fun e w' => e = .returned (.bool true) ∧ Hv w [] w' := by
  have o := Hv.begin w
  refine law_of ?_
  exact law_quotes (fun w' o' => ⟨rfl, o'⟩)
end
end Go.Proofs.YtfgdalggkknffaaGreatDoor

namespace Go.Proofs.YtfgdalggkknffaaGreatDoor
open Go.Vx Go.Lib Mk
theorem evt_host (s : List UInt8) : (evtS s).1.host.length ≤ s.length := by
  have h1 := (parts_len s).2
  have h2 := (parts_len (cutB s 32).2.1).2
  have hd : (default : Ev).host.length = 0 := rfl
  unfold evtS
  split
  · show (default : Ev).host.length ≤ _
    omega
  · rename_i e ok he
    unfold readS at he
    have : e.host.length ≤ (cutB s 32).2.1.length := by
      split at he
      · obtain ⟨rfl, _⟩ := Prod.mk.injEq .. ▸ (Option.some.inj he).symm; exact h2
      split at he
      · obtain ⟨rfl, _⟩ := Prod.mk.injEq .. ▸ (Option.some.inj he).symm; exact Nat.zero_le _
      split at he
      · obtain ⟨rfl, _⟩ := Prod.mk.injEq .. ▸ (Option.some.inj he).symm; exact Nat.zero_le _
      split at he
      · obtain ⟨rfl, _⟩ := Prod.mk.injEq .. ▸ (Option.some.inj he).symm; exact Nat.zero_le _
      split at he
      · obtain ⟨rfl, _⟩ := Prod.mk.injEq .. ▸ (Option.some.inj he).symm; exact Nat.zero_le _
      · cases he
    cases ok
    · show (default : Ev).host.length ≤ _
      omega
    · show e.host.length ≤ _
      omega
theorem pgo_host {N : Nat} : ∀ (L : List (List UInt8)) (i : Nat) (out : List Ev), (∀ s ∈ L, s.length ≤ N) → (∀ e ∈ out, e.host.length ≤ N) → ∀ e ∈ (pgoS L i out).1, e.host.length ≤ N
  | [], _, _, _, ho => ho
  | s :: t, i, out, hL, ho => by
    unfold pgoS
    have ht : ∀ x ∈ t, x.length ≤ N := fun x hx => hL x (List.mem_cons_of_mem _ hx)
    split
    · exact pgo_host t _ _ ht ho
    split
    · intro e he; cases he
    · refine pgo_host t _ _ ht fun e he => ?_
      rcases List.mem_append.1 he with h | h
      · exact ho e h
      · rw [List.mem_singleton.1 h]
        exact Nat.le_trans (evt_host s) (hL s (List.mem_cons_self ..))
theorem parse_host (l : List UInt8) : ∀ e ∈ (parseS l).1, e.host.length ≤ l.length :=
  pgo_host _ _ _ (splitB_len 10 l).2 (fun e h => by cases h)
theorem own_rds {w0 : World} {H R : List SL} {xs : List (Ev × Value)} [t : Take H (many (xs.map ownE)) R] : ∀ p ∈ xs, RdsF w0 H p.2 1 p.1.b.length (p.1.b.map byteV) := fun p hp => ⟨fun w h => by
  obtain ⟨s, u, rfl⟩ := List.append_of_mem hp
  have o1 := Hv.perm t.perm.1 h
  have o2 : Hv w0 (many ((p :: (s ++ u)).map ownE) :: R) w := Hv.manyPerm (List.Perm.map _ List.perm_middle) o1
  have o3 := o2.opens
  simp only [List.map_cons, List.cons_append] at o3
  exact (show RdsF w0 (row 5 1 p.2 p.1.b.length (p.1.b.map byteV) :: ((s ++ u).map ownE ++ R)) p.2 1 p.1.b.length (p.1.b.map byteV) from inferInstance).rd w o3⟩
theorem host_of {xs : List (Ev × Value)} {l : List UInt8} (h : xs.map (·.1) = (parseS l).1) (hl : l.length ≤ 1000000) : ∀ p ∈ xs, p.1.host.length ≤ 1000000 := fun p hp =>
  Nat.le_trans (parse_host l p.1 (h ▸ List.mem_map.2 ⟨p, hp, rfl⟩)) hl
section
set_option maxRecDepth 20000
set_option synthInstance.maxSize 100000
set_option synthInstance.maxHeartbeats 4000000
variable {w0 w : World} {H R : List SL} {ds : List Deferred} {K : Value → St → Prop}
theorem law_parses [tb : PowT w0] {l : List UInt8} [o : Hv w0 H w] (h : ∀ w', Hv w0 H w' → K (.bool true) ⟨w', ds⟩) :
    Cl P 4 #[str l] K ⟨w, ds⟩ := by
  refine s4 ?_
  unfold D4
  repeat (first | refine go ?_ | intro _ | refine ⟨sb, ?_⟩ | refine ⟨sd, ?_⟩ | dsimp only)
  refine And.intro (fun h1 => by cases h1) (fun _ => ?_)
  repeat (first | refine go ?_ | intro _ | refine ⟨sb, ?_⟩ | refine ⟨sd, ?_⟩ | dsimp only)
  refine And.intro (fun h1 => by exact go (h _ (Sub.hv subEnd))) (fun h1 => ?_)
  have hl : l.length ≤ 500 := by simp at h1; omega
  clear h1
  repeat (first | refine go ?_ | intro _ | refine ⟨sb, ?_⟩ | refine ⟨sd, ?_⟩ | dsimp only)
  refine And.intro ⟨⟨own_rds, own_rds⟩, host_of ‹_› (by omega), host_of ‹_› (by omega)⟩ ?_
  rename_i hx _ _ _ _ hy _
  rw [hx, hy, decide_eq_true rfl]
  intro w3 o3
  repeat' (first | refine go ?_ | intro _ | refine ⟨sb, ?_⟩ | refine ⟨sd, ?_⟩ | (refine ⟨fun h1 => ?_, fun h1 => ?_⟩ <;> first | exact ab h1 | ((try rw [h1]); (try simp only [bl] at h1))) | dsimp only)
  simp only [decide_true, Bool.and_self]
  exact h _ (Sub.hv subEnd)
theorem parses_ok {w : World} {l : List UInt8} [tb : PowT w] : Calls P 4 #[str l] w fun e w' => e = .returned (.bool true) ∧ Hv w [] w' := by
  have o := Hv.begin w
  refine law_of ?_
  exact law_parses (fun w' o' => ⟨rfl, o'⟩)
end
end Go.Proofs.YtfgdalggkknffaaGreatDoor

namespace Go.Proofs.YtfgdalggkknffaaGreatDoor
open Go.Vx Go.Lib Mk
section
variable {H : Type} {enc : TypeId × Value → H} {P : Program} {W : World} {sp : Nat → Bool} {held : Bool}
theorem arg_listR {α : Type} [Inhabited α] {t e size fuel : Nat} {c : Value} {x : DataW H × List MemPlace} (en : α → List Value) (Q : DataW H → α → Prop) (hlen : ∀ y, (en y).length = size) (hone : ∀ d y, Q d y → ∀ u ∈ en y, u.oneCell' = true) (hpos : 0 < size)
    (ht : P.underlying t = some (.slice e)) (hc : P.cellsOf e = size) (each : ∀ fuel cs x, DataW.trod enc P W 0 sp held fuel e cs = some x → cs.length = size → ∃ y, cs = en y ∧ Q x.1 y)
    (h : DataW.trod enc P W 0 sp held fuel t [c] = some x) : ∃ ys : List α, Arg W c size ys.length (ys.flatMap en) ∧ ∀ y ∈ ys, ∃ es sps d, x.1 = .slice es sps ∧ d ∈ es ∧ Q d y := by
  rcases DataW.trod_slice ht h with ⟨hcs', _⟩ | ⟨a, len, cap, elems, rest, n, _, hcs', hx, _, hlc, hcm, hel, hi, _⟩
  · simp only [List.cons.injEq, and_true] at hcs'
    subst hcs'
    exact ⟨[], ⟨by simp, by simp, by simp, none, 0, rfl, fun _ => rfl, Nat.le_refl _, fun j u h => by simp at h⟩, fun y hy => by simp at hy⟩
  · simp only [List.cons.injEq, and_true] at hcs'
    subst hcs'
    have each : ∀ i, i < len → ∃ y : α, W.cells? 0 (a.add (i * size)) size = some (en y) ∧ ∃ d ∈ elems.map (·.1), Q d y := by
      intro i hlt
      have h1 := hi i hlt
      rw [hc, List.getElem?_eq_getElem (by omega), Option.bind_eq_some_iff] at h1
      obtain ⟨cs1, hc1, hy1⟩ := h1
      obtain ⟨y, rfl, hq⟩ := each _ _ _ hy1 (World.cells?_some hc1).2.1
      exact ⟨y, hc1, _, List.mem_map.2 ⟨_, List.getElem_mem _, rfl⟩, hq⟩
    obtain ⟨l, hl, hq⟩ := list_ofQ _ len each
    have hfl : (l.flatMap en).length = l.length * size := flatMap_len hlen l
    refine ⟨l, ⟨by rw [hfl], fun u hu => ?_, by omega, some a, cap, by rw [hl], (fun h => by cases h), by omega, fun j u hu => ⟨a, rfl, ?_⟩⟩, fun y hy => ?_⟩
    · obtain ⟨y, hm, hy⟩ := List.mem_flatMap.1 hu
      obtain ⟨j, hj, rfl⟩ := List.getElem_of_mem hm
      obtain ⟨_, d, hd, hq⟩ := hq j (by omega)
      rw [List.getD_eq_getElem?_getD, List.getElem?_eq_getElem hj] at hq
      exact hone _ _ hq u hy
    · have hj : j < len * size := by have := (List.getElem?_eq_some_iff.1 hu).1; rw [hfl, hl] at this; exact this
      have hi : j / size < len := Nat.div_lt_of_lt_mul (by rw [Nat.mul_comm]; exact hj)
      have hm : j % size < size := Nat.mod_lt _ hpos
      have hjj : j / size * size + j % size = j := by rw [Nat.mul_comm]; exact Nat.div_add_mod j size
      have hcell : W.cell? (a.add j) = some u := by
        have hy := getD_at (ys := l) (i := j / size) (by omega)
        have h1 := flatMap_at hlen l (j / size) _ hy (j % size) ((en (l.getD (j / size) default))[j % size]'(by rw [hlen]; exact hm)) (List.getElem?_eq_getElem _)
        rw [hjj] at h1
        rw [h1, Option.some.injEq] at hu
        have h2 := (World.cells?_some (hq (j / size) hi).1).2.2 (j % size) (by omega)
        rw [addr_add_add, hjj] at h2
        rw [h2, ← hu]
        exact List.getElem?_eq_getElem _
      exact ⟨by have := World.block_lt_of_cell? W _ hcell; rwa [add_block] at this, hcell⟩
    · obtain ⟨j, hj, rfl⟩ := List.getElem_of_mem hy
      obtain ⟨_, d, hd, hq⟩ := hq j (by omega)
      rw [List.getD_eq_getElem?_getD, List.getElem?_eq_getElem hj] at hq
      exact ⟨_, _, d, congrArg Prod.fst hx, hd, hq⟩
end
theorem texts_len (l : List Ev) (h : ∀ e ∈ l, (lineS e).length ≤ 3000) : (textS l).length ≤ 3001 * l.length := by
  induction l with
  | nil => exact Nat.zero_le _
  | cons e l ih =>
    have h1 := h e (List.mem_cons_self ..)
    have h2 := ih fun x hx => h x (List.mem_cons_of_mem _ hx)
    show (List.flatMap _ (e :: l)).length ≤ _
    rw [List.flatMap_cons, List.length_append, List.length_append]
    simp only [List.length_cons, List.length_nil]
    unfold textS at h2
    omega
theorem great_no {l : List Ev} (h : greatE l = false) : l.length ≤ 60 ∧ ∀ e ∈ l, e.b.length ≤ 600 ∧ e.host.length ≤ 100 := by
  unfold greatE at h
  rw [Bool.or_eq_false_iff] at h
  refine ⟨by have := h.1; simp at this; omega, fun e he => ?_⟩
  have h2 := List.any_eq_false.1 h.2 e he
  simp at h2
  omega
theorem up_rds {w0 : World} {H G : List SL} {v : Value} {size n : Nat} {xs : List Value} (r : RdsF w0 H v size n xs) [d : DropTo G H] : RdsF w0 G v size n xs := ⟨fun w h => r.rd w (Hv.drop h)⟩
section
set_option maxRecDepth 20000
set_option synthInstance.maxSize 100000
set_option synthInstance.maxHeartbeats 4000000
variable {w0 w : World} {H R : List SL} {ds : List Deferred} {K : Value → St → Prop} {x : Value} {xs : List (Ev × Value)} {n : Nat}
theorem law_texts [tb : PowT w0] [o : Hv w0 H w] [rx : RdsF w0 H x 5 n (xs.flatMap encEv)] (hb : ∀ p ∈ xs, RdsF w0 H p.2 1 p.1.b.length (p.1.b.map byteV)) (hh : ∀ p ∈ xs, p.1.host.length ≤ 140737488351232) (hr : ∀ p ∈ xs, InR p.1.id ∧ InR p.1.n) (h : ∀ w', Hv w0 H w' → K (.bool true) ⟨w', ds⟩) :
    Cl P 5 #[x] K ⟨w, ds⟩ := by
  have lx := rx.loc
  obtain rfl : n = xs.length := by
    have := (rx.rd w o).len
    rw [flatMap_len (size := 5) (fun _ => rfl)] at this
    omega
  refine s5 ?_
  unfold D5
  repeat (first | refine go ?_ | intro _ | refine ⟨sb, ?_⟩ | refine ⟨sd, ?_⟩ | dsimp only)
  refine And.intro (fun h1 => by cases h1) (fun _ => ?_)
  repeat (first | refine go ?_ | intro _ | refine ⟨sb, ?_⟩ | refine ⟨sd, ?_⟩ | dsimp only)
  rename_i w1 o1
  clear o
  refine And.intro (fun h1 => by exact go (h _ (Sub.hv subEnd))) (fun h1 => ?_)
  obtain ⟨hl, hg⟩ := great_no h1
  clear h1
  rw [List.length_map] at hl
  refine ⟨fun y z s => ∃ (i : Nat) (w' : World), y = .bool (((xs.take i).map (·.1)).all saysE) ∧ z = .int .i64 i ∧ s = ⟨w', []⟩ ∧ i ≤ xs.length ∧ Hv w0 H w',
    fun _ z s => match z with | .int _ z => xs.length - z.toNat | _ => 0, ⟨0, w1, rfl, rfl, rfl, Nat.zero_le _, o1⟩, ?_⟩
  rintro y z s ⟨i, w2, rfl, rfl, rfl, hi, o2⟩
  clear o1
  rcases Nat.lt_or_ge i xs.length with hlt | hge
  · have ri := (hb _ (getD_mem hlt)).loc
    have hh1 : (xs.getD i default).1.host.length ≤ 1000000 := Nat.le_trans (hg _ (List.mem_map.2 ⟨xs.getD i default, getD_mem hlt, rfl⟩)).2 (by decide)
    have ht : ((xs.take (i + 1)).map (·.1)).all saysE = (((xs.take i).map (·.1)).all saysE && saysE (xs.getD i default).1) := by
      rw [take_snoc hlt, List.map_append, List.all_append]; simp
    repeat' (first | refine go ?_ | intro _ | refine ⟨sb, ?_⟩ | refine ⟨sd, ?_⟩ | (refine ⟨fun h1 => ?_, fun h1 => ?_⟩ <;> first | exact ab h1 | ((try rw [h1]); (try simp only [bl] at h1))) | dsimp only)
    · refine ⟨⟨i + 1, _, ?_, rfl, rfl, hlt, Sub.hv subEnd⟩, by simp; omega⟩
      rw [ht, ‹List.all _ _ = true›]; rfl
    · refine ⟨⟨i + 1, _, ?_, rfl, rfl, hlt, Sub.hv subEnd⟩, by simp; omega⟩
      rw [ht, ‹List.all _ _ = false›]; rfl
    · exfalso; omega
  · obtain rfl : i = xs.length := by omega
    rw [List.take_length]
    have hs : (xs.map (·.1)).all okE = (xs.map (·.1)).all saysE := by congr 1; funext e; exact ok_says e
    repeat (first | refine go ?_ | intro _ | refine ⟨sb, ?_⟩ | refine ⟨sd, ?_⟩ | dsimp only)
    refine And.intro (fun h1 => by exfalso; simp at h1) (fun _ => ?_)
    repeat (first | refine go ?_ | intro _ | refine ⟨sb, ?_⟩ | refine ⟨sd, ?_⟩ | dsimp only)
    have hp2 : ∀ p ∈ xs, (p.1.b.length ≤ 600 ∧ p.1.host.length ≤ 100) ∧ InR p.1.id ∧ InR p.1.n := fun p hp => ⟨hg _ (List.mem_map.2 ⟨p, hp, rfl⟩), hr p hp⟩
    refine And.intro ⟨⟨hb, hp2⟩, hl⟩ ?_
    intro w3 o3
    clear o2
    rw [hs]
    cases hA : (xs.map (·.1)).all saysE with
    | false =>
      repeat' (first | refine go ?_ | intro _ | refine ⟨sb, ?_⟩ | refine ⟨sd, ?_⟩ | (refine ⟨fun h1 => ?_, fun h1 => ?_⟩ <;> first | exact ab h1 | ((try rw [h1]); (try simp only [bl] at h1))) | dsimp only)
      exact h _ (Sub.hv subEnd)
    | true =>
      rw [if_pos rfl]
      have hpt := parse_text _ (hs.trans hA)
      have hlen : (textS (xs.map (·.1))).length ≤ 200000 := by
        have := texts_len (xs.map (·.1)) fun e he => by
          obtain ⟨p, hp, rfl⟩ := List.mem_map.1 he
          exact line_len _ (hp2 p hp).1.2 (hp2 p hp).1.1 (hp2 p hp).2.1 (hp2 p hp).2.2
        rw [List.length_map] at this
        omega
      generalize textS (xs.map (·.1)) = T at *
      repeat (first | refine go ?_ | intro _ | refine ⟨sb, ?_⟩ | refine ⟨sd, ?_⟩ | dsimp only)
      refine And.intro (fun h1 => by exfalso; simp at h1) (fun _ => ?_)
      repeat (first | refine go ?_ | intro _ | refine ⟨sb, ?_⟩ | refine ⟨sd, ?_⟩ | dsimp only)
      rename_i ys1 v1 w4 hx1 o4 ys2 v2 w5 hx2 o5
      clear o3 o4
      rw [hpt] at hx1 hx2 ⊢
      have hh1 : ∀ p ∈ xs, p.1.host.length ≤ 1000000 := fun p hp => Nat.le_trans (hp2 p hp).1.2 (by decide)
      have ho : ∀ {ys : List (Ev × Value)}, ys.map (·.1) = xs.map (·.1) → ∀ p ∈ ys, p.1.host.length ≤ 1000000 := fun {ys} e p hp => by
        have hm : p.1 ∈ xs.map (·.1) := e ▸ List.mem_map.2 ⟨p, hp, rfl⟩
        obtain ⟨q, hq, e2⟩ := List.mem_map.1 hm
        rw [← e2]; exact hh1 q hq
      repeat' (first | refine go ?_ | intro _ | refine ⟨sb, ?_⟩ | refine ⟨sd, ?_⟩ | (refine ⟨fun h1 => ?_, fun h1 => ?_⟩ <;> first | exact ab h1 | ((try rw [h1]); (try simp only [bl] at h1))) | dsimp only)
      · refine And.intro ⟨⟨own_rds, fun p hp => up_rds (hb p hp)⟩, ho hx1, hh1⟩ ?_
        intro w6 o6
        clear o5
        rw [hx1, decide_eq_true rfl]
        repeat (first | refine go ?_ | intro _ | refine ⟨sb, ?_⟩ | refine ⟨sd, ?_⟩ | dsimp only)
        refine And.intro ⟨⟨own_rds, fun p hp => up_rds (hb p hp)⟩, ho hx2, hh1⟩ ?_
        intro w7 o7
        clear o6
        rw [hx2, decide_eq_true rfl]
        refine go ?_
        exact h _ (Sub.hv subEnd)
      · exfalso; simp at *
theorem evt_one {W : World} (y : Ev × Value) (h : Arg W y.2 1 y.1.b.length (y.1.b.map byteV)) : ∀ u ∈ encEv y, u.oneCell' = true := fun u hu => by
  obtain ⟨_, _, _, ao, cap, hv, _⟩ := h
  simp only [encEv, List.mem_cons, List.not_mem_nil, or_false] at hu
  rcases hu with rfl | rfl | rfl | rfl | rfl <;> first | rfl | (rw [hv]; rfl)
theorem evt_each {H : Type} {enc : TypeId × Value → H} {W : World} {sp : Nat → Bool} {held : Bool} {fuel : Nat} {cs : List Value} {x : DataW H × List MemPlace} (h : DataW.trod enc Tryz.prog W 0 sp held fuel 39 cs = some x) (hl : cs.length = 5) : ∃ y : Ev × Value, cs = encEv y ∧ (y.1.host.length ∈ x.1.weights Tryz.prog 39 ∧ Arg W y.2 1 y.1.b.length (y.1.b.map byteV) ∧ InR y.1.id ∧ InR y.1.n) := by
  obtain ⟨a, e0, _⟩ := struct_int (i := 0) Tryz.underlying39 h rfl Tryz.underlying3 (by kernel_rfl)
  obtain ⟨b, e1, w1⟩ := struct_int (i := 1) Tryz.underlying39 h rfl Tryz.underlying3 (by kernel_rfl)
  obtain ⟨c, e2, w2⟩ := struct_strW (i := 2) Tryz.underlying39 h rfl Tryz.underlying9 (by kernel_rfl)
  obtain ⟨v, n, y, e3, h3, _⟩ := struct_slW (i := 3) Tryz.underlying39 h rfl Tryz.underlying22 (by kernel_rfl)
  obtain ⟨bs, hb⟩ := arg_bytes Tryz.underlying22 Tryz.underlying5 (by kernel_rfl) h3
  obtain ⟨d, e4, w4⟩ := struct_int (i := 4) Tryz.underlying39 h rfl Tryz.underlying3 (by kernel_rfl)
  refine ⟨(⟨a, b, c.data.toList, bs, d⟩, v), list_of_at (by rw [hl]; rfl) fun i hi => ?_, w2, hb, inR_of w1, inR_of w4⟩
  match i, hi with
  | 0, _ => exact e0
  | 1, _ => exact e1
  | 2, _ => exact e2.trans (congrArg some (str_of c).symm)
  | 3, _ => exact e3
  | 4, _ => exact e4
  | n + 5, hi => exact absurd hi (by simp)
theorem texts_ok28 {w : World} {v : Value} {xs : List (Ev × Value)} [tb : PowT w] (hp : Arg w v 5 xs.length (xs.flatMap encEv)) (hz : ∀ p ∈ xs, p.1.host.length ≤ 140737488351232) (hq : ∀ p ∈ xs, Arg w p.2 1 p.1.b.length (p.1.b.map byteV) ∧ InR p.1.id ∧ InR p.1.n) : Calls P 5 #[v] w fun e w' => e = .returned (.bool true) ∧ Hv w [] w' := by
  have o := Hv.begin w
  refine law_of ?_
  refine law_texts (fun p hp => ?_) hz (fun p hp => (hq p hp).2) (fun w' o' => ⟨rfl, o'⟩)
  have := (hq p hp).1
  infer_instance
end
end Go.Proofs.YtfgdalggkknffaaGreatDoor

