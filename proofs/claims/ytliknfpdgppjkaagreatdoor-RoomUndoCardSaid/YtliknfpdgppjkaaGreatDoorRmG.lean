import Derived.Test.YtliknfpdgppjkaaGreatDoorRmF
set_option linter.all false
namespace Go.Proofs.YtliknfpdgppjkaaGreatDoor
open Go.Vx Go.Lib
/-! Change -/
def Rm.change (x : Rm) (c : Chg) (id : Int) : Rm × Chg × Int :=
  if c.2.1 = 105 ∨ c.2.1 = 109 ∨ c.2.1 = 110 ∨ c.2.1 = 115 ∨ c.2.1 = 116 then (x.setFlag c.1 c.2.1, x.flagC c.1 c.2.1, 0)
  else if c.2.1 = 111 ∨ c.2.1 = 118 then (x.setRank id c.2.1 c.1, x.rankC id c)
  else if c.2.1 = 107 then x.lockC c
  else if c.2.1 = 108 then ((x.limC c).1, (x.limC c).2, 0)
  else if c.2.1 = 98 then x.banC c else (x, noC, 472)
section
set_option maxRecDepth 20000
set_option synthInstance.maxSize 100000
set_option synthInstance.maxHeartbeats 4000000
variable {K : Value → St → Prop} {w0 w : World} {H R : List SL} {ds : List Deferred} {p : Nat} {x : Rm} {id now : Int} {on : Bool} {le : UInt8} {arg : List UInt8}
instance rchange_ok [o : Hv w0 H w] [i : InK roomR p H x R] : Step (Cl P 15 #[.pointer (some ⟨p, 0, none⟩), .agg #[.bool on, byteV le, str arg], .int .i64 id] K ⟨w, ds⟩) ((x.fit ∧ arg.length ≤ 100000) ∧ ∀ w', Hv w0 (roomR p (x.change (on, le, arg) id).1 :: R) w' → K (.tuple #[chV (x.change (on, le, arg) id).2.1, .int .i64 (x.change (on, le, arg) id).2.2]) ⟨w', ds⟩) := ⟨fun ⟨⟨hf, hl⟩, h⟩ => by
  have o1 := i.hv o
  clear o
  refine s15 ?_
  unfold D15
  repeat' (first | refine go ?_ | intro _ | refine ⟨sb, ?_⟩ | refine ⟨sd, ?_⟩ | (refine ⟨fun h1 => ?_, fun h1 => ?_⟩ <;> first | exact ab h1 | ((try rw [h1]); (try simp only [bl] at h1))) | dsimp only)
  all_goals first
    | (have e : x.change (on, le, arg) id = (x.setFlag on le, x.flagC on le, 0) := by unfold Rm.change; clear h; grind
       rw [e] at h
       exact h _ (Sub.hv (subK rfl subEnd)))
    | (have e : x.change (on, le, arg) id = (x.setRank id le on, x.rankC id (on, le, arg)) := by unfold Rm.change; clear h; grind
       rw [e] at h
       exact h _ (Sub.hv (subK rfl subEnd)))
    | (have e : x.change (on, le, arg) id = x.lockC (on, le, arg) := by unfold Rm.change; clear h; grind
       rw [e] at h
       exact h _ (Sub.hv (subK rfl subEnd)))
    | (have e : x.change (on, le, arg) id = ((x.limC (on, le, arg)).1, (x.limC (on, le, arg)).2, 0) := by unfold Rm.change; clear h; grind
       rw [e] at h
       exact h _ (Sub.hv (subK rfl subEnd)))
    | (have e : x.change (on, le, arg) id = x.banC (on, le, arg) := by unfold Rm.change; clear h; grind
       rw [e] at h
       exact h _ (Sub.hv (subK rfl subEnd)))
    | (have e : x.change (on, le, arg) id = (x, noC, 472) := by unfold Rm.change; clear h; grind
       rw [e] at h
       exact h _ (Sub.hv (subK rfl subEnd)))
    | skip⟩
/-! Modes -/
def letL : List UInt8 := [105, 107, 108, 109, 110, 115, 116]
def Rm.mOn (x : Rm) (c : UInt8) : Bool := (decide (c = 107) && !decide (x.key = [])) || (decide (c = 108) && decide (0 < x.limit)) || x.flag c
def Rm.mArg1 (x : Rm) (all : Bool) (c : UInt8) : List (List UInt8) := if c = 107 ∧ ¬ x.key = [] then [if all then x.key else [42]] else if c = 108 ∧ 0 < x.limit ∧ all = true then [decDigits x.limit.toNat] else []
def Rm.mRow (x : Rm) (l : List UInt8) : List UInt8 := 43 :: l.filter x.mOn
def Rm.mArg (x : Rm) (all : Bool) (l : List UInt8) : List (List UInt8) := l.flatMap (x.mArg1 all)
def Rm.modes (x : Rm) (all : Bool) : List (List UInt8) := x.mRow letL :: x.mArg all letL
theorem mArg_len (x : Rm) (all : Bool) (l : List UInt8) : (x.mArg all l).length ≤ l.length := by
  induction l with
  | nil => exact Nat.le_refl _
  | cons c l ih =>
    have : (x.mArg1 all c).length ≤ 1 := by unfold Rm.mArg1; split <;> (try split) <;> simp
    simp only [Rm.mArg, List.flatMap_cons, List.length_append, List.length_cons] at *; omega
theorem mRow_len (x : Rm) (l : List UInt8) : (x.mRow l).length ≤ l.length + 1 := by
  simp only [Rm.mRow, List.length_cons]; exact Nat.succ_le_succ (List.length_filter_le ..)
theorem mRow_snoc (x : Rm) {l : List UInt8} {i : Nat} (h : i < l.length) : x.mRow (l.take (i + 1)) = x.mRow (l.take i) ++ (if x.mOn (l.getD i default) then [l.getD i default] else []) := by
  unfold Rm.mRow; rw [take_snoc h, List.filter_append]; simp only [List.filter_cons, List.filter_nil]; rfl
theorem mArg_snoc (x : Rm) (all : Bool) {l : List UInt8} {i : Nat} (h : i < l.length) : x.mArg all (l.take (i + 1)) = x.mArg all (l.take i) ++ x.mArg1 all (l.getD i default) := by
  unfold Rm.mArg; rw [take_snoc h, List.flatMap_append]; simp
theorem letL_in : ∀ i : Fin 7, encR (IntKind.i32.wrap ((letL.getD i.val default).toNat : Int)) = [letL.getD i.val default] ∧ (letL.getD i.val default = 107 → bitN (letL.getD i.val default) = 0) ∧ (letL.getD i.val default = 108 → bitN (letL.getD i.val default) = 0) := by decide +kernel
instance rFlagB_ok {c : UInt8} {a b vm d e g k l : Value} {f : Int} [o : Hv w0 H w] [i : BoxIn H p 68 [a, b, vm, d, .int .i64 f, e, g, k, l] R] : Step (Cl P 23 #[.pointer (some ⟨p, 0, none⟩), byteV c] K ⟨w, ds⟩) ((0 ≤ f ∧ f < 32) ∧ ∀ w', Hv w0 H w' → K (.bool (decide (f.toNat &&& bitN c ≠ 0))) ⟨w', ds⟩) := ⟨fun ⟨hf, h⟩ => by
  have bl := bitN_lt c
  refine s23 ?_
  unfold D23
  repeat' (first | refine go ?_ | intro _ | refine ⟨sb, ?_⟩ | refine ⟨sd, ?_⟩ | (refine ⟨fun h1 => ?_, fun h1 => ?_⟩ <;> first | exact ab h1 | ((try rw [h1]); (try simp only [bl] at h1))) | dsimp only)
  refine cast (congrArg (fun b => K (.bool b) _) ?_) (h _ (Sub.hv subEnd))
  rw [Bool.eq_iff_iff]; simp⟩
instance rmodes_ok {all : Bool} [o : Hv w0 H w] [tb : PowT w0] [i : InK roomR p H x R] : Step (Cl P 12 #[.pointer (some ⟨p, 0, none⟩), .bool all] K ⟨w, ds⟩) (∀ v w', Hv w0 (row 9 1 v (x.modes all).length ((x.modes all).map str) :: roomR p x :: R) w' → K v ⟨w', ds⟩) := ⟨fun h => by
  obtain ⟨vm, vb, s, ok, o1⟩ := room_open (i.hv o)
  clear o
  have fl := ok.flg
  have lm := ok.lim
  refine s12 ?_
  unfold D12
  repeat (first | refine go ?_ | intro _ | refine ⟨sb, ?_⟩ | refine ⟨sd, ?_⟩ | dsimp only)
  rename_i vl wa oa w1 o2
  rw [show [byteV 105, byteV 107, byteV 108, byteV 109, byteV 110, byteV 115, byteV 116] = letL.map byteV from rfl] at o2
  have o3 : Hv w0 (row 9 1 (.slice none 0 0) 0 [] :: ro 1 vl 7 (letL.map byteV) :: roomR p x :: R) w1 := Hv.nilRow 9 1 (Sub.hv (subA (subRoom ok ⟨rfl, rfl, rfl, rfl, rfl, rfl⟩ rfl rfl rfl rfl rfl subEnd)))
  clear o1 o2 oa
  refine ⟨fun a b c s => ∃ (i : Nat) (w' : World), a = str (x.mRow (letL.take i)) ∧ c = .int .i64 i ∧ s = ⟨w', []⟩ ∧ i ≤ 7 ∧ Hv w0 (row 9 1 b (x.mArg all (letL.take i)).length ((x.mArg all (letL.take i)).map str) :: ro 1 vl 7 (letL.map byteV) :: roomR p x :: R) w',
    fun _ _ c s => match c with | .int _ z => 7 - z.toNat | _ => 0, ⟨0, w1, rfl, rfl, rfl, Nat.zero_le _, o3⟩, ?_⟩
  rintro a b c s ⟨i, w2, rfl, rfl, rfl, hi, o4⟩
  clear o3
  have e7 : letL.length = 7 := rfl
  have g1 := mArg_len x all (letL.take i)
  have g2 := mRow_len x (letL.take i)
  rw [List.length_take] at g1 g2
  rcases Nat.lt_or_ge i 7 with hlt | hge
  · have q1 := mRow_snoc x (l := letL) (i := i) hlt
    have q2 := mArg_snoc x all (l := letL) (i := i) hlt
    have q3 := letL_in ⟨i, hlt⟩
    simp only at q3
    have q4 : (encR (IntKind.i32.wrap ((letL.getD i default).toNat : Int))).length = 1 := by rw [q3.1]; rfl
    have q5 : x.flag (letL.getD i default) = decide (x.flags.toNat &&& bitN (letL.getD i default) ≠ 0) := rfl
    obtain ⟨vm, vb, s, _, o5⟩ := room_open ((inferInstance : InK roomR p _ x _).hv o4)
    clear o4
    have hm1 : letL.getD i default = 107 → ¬ x.key = [] → x.mRow (letL.take (i + 1)) = x.mRow (letL.take i) ++ [107] ∧ x.mArg all (letL.take (i + 1)) = x.mArg all (letL.take i) ++ [if all then x.key else [42]] := fun e k => by
      rw [q1, q2, e]; constructor
      · rw [if_pos (by unfold Rm.mOn; simp [k])]
      · unfold Rm.mArg1; rw [if_pos ⟨rfl, k⟩]
    have hm2 : letL.getD i default = 108 → 0 < x.limit → x.mRow (letL.take (i + 1)) = x.mRow (letL.take i) ++ [108] ∧ x.mArg all (letL.take (i + 1)) = x.mArg all (letL.take i) ++ (if all then [decDigits x.limit.toNat] else []) := fun e k => by
      rw [q1, q2, e]; constructor
      · rw [if_pos (by unfold Rm.mOn; simp [k])]
      · unfold Rm.mArg1; rw [if_neg (by simp)]; cases all <;> simp [k]
    have hm3 : (letL.getD i default = 107 → x.key = []) → (letL.getD i default = 108 → x.limit ≤ 0) → x.mArg all (letL.take (i + 1)) = x.mArg all (letL.take i) ∧ x.mRow (letL.take (i + 1)) = x.mRow (letL.take i) ++ (if x.flags.toNat &&& bitN (letL.getD i default) ≠ 0 then [letL.getD i default] else []) := fun e k => by
      rw [q1, q2]; constructor
      · unfold Rm.mArg1; rw [if_neg (fun h => h.2 (e h.1)), if_neg (fun h => by have := k h.1; omega), List.append_nil]
      · congr 1
        have : x.mOn (letL.getD i default) = decide (x.flags.toNat &&& bitN (letL.getD i default) ≠ 0) := by
          rw [← q5]; unfold Rm.mOn
          clear q1 q2 q3 q4 q5 hm1 hm2
          generalize letL.getD i default = c at *
          by_cases h1 : c = 107
          · simp [h1, e h1]
          · by_cases h2 : c = 108
            · have := k h2
              simp [h2, show ¬ 0 < x.limit by omega]
            · simp [h1, h2]
        rw [this]; simp only [decide_eq_true_eq]
    have qz : orZ (getA (putA (putA [] true (str x.key)) false (Value.string { data := #[42] })) all) (Value.string { data := #[] }) = str (if all then x.key else [42]) := by cases all <;> rfl
    repeat' (first | refine go ?_ | intro _ | refine ⟨sb, ?_⟩ | refine ⟨sd, ?_⟩ | (refine ⟨fun h1 => ?_, fun h1 => ?_⟩ <;> first | exact ab h1 | ((try rw [h1]); (try simp only [bl] at h1))) | dsimp only)
    · rw [qz]
      obtain ⟨m1, m2⟩ := hm1 h1.1 h1.2
      repeat' (first | refine go ?_ | intro _ | refine ⟨sb, ?_⟩ | refine ⟨sd, ?_⟩ | (refine ⟨fun h1 => ?_, fun h1 => ?_⟩ <;> first | exact ab h1 | ((try rw [h1]); (try simp only [bl] at h1))) | dsimp only)
      refine ⟨⟨i + 1, _, by rw [m1], rfl, rfl, hlt, ?_⟩, by omega⟩
      rw [m2]
      exact Sub.hv (subRow (by simp) (by simp) (subA (subRoom ok ⟨rfl, rfl, rfl, rfl, rfl, rfl⟩ rfl rfl rfl rfl rfl subEnd)))
    · obtain ⟨m1, m2⟩ := hm2 (by grind) (by grind)
      rw [h1] at m2
      refine ⟨⟨i + 1, _, by rw [m1], rfl, rfl, hlt, ?_⟩, by omega⟩
      rw [m2]
      exact Sub.hv (subRow (by simp [h1]) (by simp [h1, itoa_pos lm.1]) (subA (subRoom ok ⟨rfl, rfl, rfl, rfl, rfl, rfl⟩ rfl rfl rfl rfl rfl subEnd)))
    · obtain ⟨m1, m2⟩ := hm2 (by grind) (by grind)
      rw [h1] at m2
      refine ⟨⟨i + 1, _, by rw [m1], rfl, rfl, hlt, ?_⟩, by omega⟩
      rw [m2]
      exact Sub.hv (subRow (by simp [h1]) (by simp [h1, itoa_pos lm.1]) (subA (subRoom ok ⟨rfl, rfl, rfl, rfl, rfl, rfl⟩ rfl rfl rfl rfl rfl subEnd)))
    · obtain ⟨m1, m2⟩ := hm3 (by assumption) (by assumption)
      refine ⟨⟨i + 1, _, by rw [m2, if_pos h1, q3.1], rfl, rfl, hlt, ?_⟩, by omega⟩
      rw [m1]
      exact Sub.hv (subRow rfl rfl (subA (subRoom ok ⟨rfl, rfl, rfl, rfl, rfl, rfl⟩ rfl rfl rfl rfl rfl subEnd)))
    · obtain ⟨m1, m2⟩ := hm3 (by assumption) (by assumption)
      refine ⟨⟨i + 1, _, by rw [m2, if_neg h1, List.append_nil], rfl, rfl, hlt, ?_⟩, by omega⟩
      rw [m1]
      exact Sub.hv (subRow rfl rfl (subA (subRoom ok ⟨rfl, rfl, rfl, rfl, rfl, rfl⟩ rfl rfl rfl rfl rfl subEnd)))
    · exfalso; omega
  · obtain rfl : i = 7 := by omega
    repeat' (first | refine go ?_ | intro _ | refine ⟨sb, ?_⟩ | refine ⟨sd, ?_⟩ | (refine ⟨fun h1 => ?_, fun h1 => ?_⟩ <;> first | exact ab h1 | ((try rw [h1]); (try simp only [bl] at h1))) | dsimp only)
    refine h _ _ ?_
    have e1 : x.modes all = [x.mRow letL] ++ x.mArg all letL := rfl
    rw [e1]
    have e2 : letL.take 7 = letL := rfl
    exact Sub.hv (subRow (by rw [e2]; simp; omega) (by rw [e2]; simp) (subK rfl subEnd))⟩
end
end Go.Proofs.YtliknfpdgppjkaaGreatDoor

