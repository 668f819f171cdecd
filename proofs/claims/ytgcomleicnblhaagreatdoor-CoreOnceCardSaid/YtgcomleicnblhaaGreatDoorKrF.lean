import Derived.Test.YtgcomleicnblhaaGreatDoorKrE
set_option linter.all false
namespace Go.Proofs.YtgcomleicnblhaaGreatDoor
open Go.Vx Go.Lib
/-! what waits to be sent -/
def txtB (l : List UInt8) : Bool := allK 64 l
structure Qu where
  (most torn sent : Int)
  b : List UInt8
  over : Bool
def Qu.new (most : Int) : Qu := ⟨most, 0, 0, [], false⟩
def Qu.push (x : Qu) (l : List UInt8) : Qu × Bool :=
  if x.over = true ∨ 510 < l.length ∨ txtB l = false then (x, false) else if x.most < x.b.length + l.length + 2 then ({ x with over := true }, false) else ({ x with b := x.b ++ l ++ [13, 10] }, true)
def tornW : List UInt8 → Nat → Int
  | [], _ => 0
  | c :: t, n => if n = 0 then 0 else if c = 10 then tornW t (n - 1) else if n = 1 then idxB t 10 + 1 else tornW t (n - 1)
def tornS (b : List UInt8) (was n : Int) : Int := if n ≤ was then was - n else tornW (b.drop was.toNat) (n - was).toNat
def Qu.many (x : Qu) (n : Int) : Nat := (max 0 (min n x.b.length)).toNat
def Qu.drain (x : Qu) (n : Int) : Qu := { x with torn := tornS x.b x.torn (x.many n), sent := x.sent + x.many n, b := x.b.drop (x.many n) }
structure Qu.ok (x : Qu) : Prop where
  b : x.b.length ≤ 1000000
  t : 0 ≤ x.torn ∧ x.torn ≤ 1000000
  s : 0 ≤ x.sent ∧ x.sent ≤ 1000000000000
section
set_option maxRecDepth 20000
set_option synthInstance.maxSize 100000
set_option synthInstance.maxHeartbeats 4000000
def queueA (p : Nat) (x : Qu) (v : Value) : SL := many [box p 180 [.int .i64 x.most, v, .int .i64 x.torn, .int .i64 x.sent, .bool x.over], row 5 1 v x.b.length (x.b.map byteV)]
def queueR (p : Nat) (x : Qu) : SL := any (queueA p x)
variable {K : Value → St → Prop} {w0 w : World} {H R : List SL} {ds : List Deferred} {p n : Nat} {v : Value} {x : Qu} {l : List UInt8} {z : Int}
theorem queue_open (h : Hv w0 (queueR p x :: R) w) : ∃ v, Hv w0 (box p 180 [.int .i64 x.most, v, .int .i64 x.torn, .int .i64 x.sent, .bool x.over] :: row 5 1 v x.b.length (x.b.map byteV) :: R) w := by
  obtain ⟨v, h1⟩ := h.pick
  exact ⟨v, h1.opens⟩
theorem subQueue {H' R1 R2 G : List SL} {a b c : Int} {v : Value} {d : Bool} {n : Nat} {xs : List Value} [i : BoxIn H' p 180 [.int .i64 a, v, .int .i64 b, .int .i64 c, .bool d] R1] [r : RowIn R1 v 5 1 n xs R2]
    (e0 : a = x.most ∧ b = x.torn ∧ c = x.sent ∧ d = x.over) (e1 : n = x.b.length) (e2 : xs = x.b.map byteV) (k : Sub R2 G) : Sub H' (queueR p x :: G) := by
  obtain ⟨rfl, rfl, rfl, rfl⟩ := e0
  exact Sub.any (A := queueA p x) v (Sub.many (subBox rfl (subRow e1 e2 k)))
instance vtext_ok [o : Hv w0 H w] : Step (Cl P 188 #[str l] K ⟨w, ds⟩) (l.length ≤ 1000000000 ∧ ∀ w', Hv w0 H w' → K (.bool (txtB l)) ⟨w', ds⟩) := ⟨fun ⟨hl, h⟩ => by
  refine s188 ?_
  unfold D188
  repeat' (first | refine go ?_ | intro _ | refine ⟨sb, ?_⟩ | refine ⟨sd, ?_⟩ | (refine ⟨fun h1 => ?_, fun h1 => ?_⟩ <;> first | exact ab h1 | ((try rw [h1]); (try simp only [bl] at h1))) | dsimp only)
  refine cast (congrArg (fun b => K (.bool b) _) ?_) (h _ (Sub.hv subEnd))
  unfold txtB; simp⟩
instance qnew_ok [o : Hv w0 H w] : Step (Cl P 49 #[.int .i64 z] K ⟨w, ds⟩) ((512 ≤ z ∧ z ≤ 65536) ∧ ∀ p w', Hv w0 (queueR p (.new z) :: H) w' → K (.tuple #[.pointer (some ⟨p, 0, none⟩), .int .i64 0]) ⟨w', ds⟩) := ⟨fun ⟨hz, h⟩ => by
  refine s49 ?_
  unfold D49
  repeat' (first | refine go ?_ | intro _ | refine ⟨sb, ?_⟩ | refine ⟨sd, ?_⟩ | (refine ⟨fun h1 => ?_, fun h1 => ?_⟩ <;> first | exact ab h1 | ((try rw [h1]); (try simp only [bl] at h1))) | dsimp only)
  · exfalso; omega
  rename_i q w3 o3
  exact h _ _ (Sub.hv (o := Hv.nilRow 5 1 o3) (subQueue ⟨rfl, rfl, rfl, rfl⟩ rfl rfl subEnd))⟩
instance qover_ok [o : Hv w0 H w] [i : InK queueR p H x R] : Step (Cl P 101 #[.pointer (some ⟨p, 0, none⟩)] K ⟨w, ds⟩) (∀ w', Hv w0 (queueR p x :: R) w' → K (.bool x.over) ⟨w', ds⟩) := ⟨fun h => by
  obtain ⟨v, o1⟩ := queue_open (i.hv o)
  clear o
  refine s101 ?_
  unfold D101
  repeat' (first | refine go ?_ | intro _ | refine ⟨sb, ?_⟩ | refine ⟨sd, ?_⟩ | (refine ⟨fun h1 => ?_, fun h1 => ?_⟩ <;> first | exact ab h1 | ((try rw [h1]); (try simp only [bl] at h1))) | dsimp only)
  exact h _ (Sub.hv (subQueue ⟨rfl, rfl, rfl, rfl⟩ rfl rfl subEnd))⟩
instance qlen_ok [o : Hv w0 H w] [i : InK queueR p H x R] : Step (Cl P 132 #[.pointer (some ⟨p, 0, none⟩)] K ⟨w, ds⟩) (∀ w', Hv w0 (queueR p x :: R) w' → K (.int .i64 (x.b.length : Nat)) ⟨w', ds⟩) := ⟨fun h => by
  obtain ⟨v, o1⟩ := queue_open (i.hv o)
  clear o
  refine s132 ?_
  unfold D132
  repeat' (first | refine go ?_ | intro _ | refine ⟨sb, ?_⟩ | refine ⟨sd, ?_⟩ | (refine ⟨fun h1 => ?_, fun h1 => ?_⟩ <;> first | exact ab h1 | ((try rw [h1]); (try simp only [bl] at h1))) | dsimp only)
  exact h _ (Sub.hv (subQueue ⟨rfl, rfl, rfl, rfl⟩ rfl rfl subEnd))⟩
instance qpush_ok [o : Hv w0 H w] [i : InK queueR p H x R] : Step (Cl P 113 #[.pointer (some ⟨p, 0, none⟩), str l] K ⟨w, ds⟩) ((x.ok ∧ l.length ≤ 1000000) ∧ ∀ w', Hv w0 (queueR p (x.push l).1 :: R) w' → K (.bool (x.push l).2) ⟨w', ds⟩) := ⟨fun ⟨⟨ok, hl⟩, h⟩ => by
  obtain ⟨v, o1⟩ := queue_open (i.hv o)
  clear o
  have hb := ok.b
  unfold Qu.push at h
  refine s113 ?_
  unfold D113
  repeat' (first | refine go ?_ | intro _ | refine ⟨sb, ?_⟩ | refine ⟨sd, ?_⟩ | (refine ⟨fun h1 => ?_, fun h1 => ?_⟩ <;> first | exact ab h1 | ((try rw [h1]); (try simp only [bl] at h1))) | dsimp only)
  all_goals first
    | (rw [if_pos (by clear h; grind)] at h; exact h _ (Sub.hv (subQueue ⟨rfl, rfl, rfl, rfl⟩ rfl rfl subEnd)))
    | (rw [if_neg (by clear h; grind), if_pos (by omega)] at h; exact h _ (Sub.hv (subQueue ⟨rfl, rfl, rfl, rfl⟩ rfl rfl subEnd)))
    | (rw [if_neg (by clear h; grind), if_neg (by omega)] at h; exact h _ (Sub.hv (subQueue ⟨rfl, rfl, rfl, rfl⟩ (by simp; omega) (by simp) subEnd)))⟩
theorem tornW_drop {b : List UInt8} {i n : Nat} (h : i < b.length) : tornW (b.drop i) n = if n = 0 then 0 else if b.getD i default = 10 then tornW (b.drop (i + 1)) (n - 1) else if n = 1 then idxB (b.drop (i + 1)) 10 + 1 else tornW (b.drop (i + 1)) (n - 1) := by
  rw [drop_gen h]; rfl
instance torn_ok {xs : List Value} {b : List UInt8} {a c : Int} [o : Hv w0 H w] [r : RdsF w0 H v 1 n xs] [e : Bys xs b] : Step (Cl P 133 #[v, .int .i64 a, .int .i64 c] K ⟨w, ds⟩)
    (((b.length ≤ 1000000 ∧ 0 ≤ a ∧ a ≤ 1000000) ∧ 0 ≤ c ∧ c ≤ 1000000) ∧ ∀ w', Hv w0 H w' → K (.int .i64 (tornS b a c)) ⟨w', ds⟩) := ⟨fun ⟨⟨⟨hb, ha1, ha2⟩, hc1, hc2⟩, h⟩ => by
  have hx := e.eq
  subst hx
  obtain rfl : n = b.length := by have := (r.rd w o).len; simpa using this.symm
  have rl := r.loc
  unfold tornS at h
  refine s133 ?_
  unfold D133
  repeat' (first | refine go ?_ | intro _ | refine ⟨sb, ?_⟩ | refine ⟨sd, ?_⟩ | (refine ⟨fun h1 => ?_, fun h1 => ?_⟩ <;> first | exact ab h1 | ((try rw [h1]); (try simp only [bl] at h1))) | dsimp only)
  · rw [if_pos h1] at h
    exact h _ (Sub.hv subEnd)
  rw [if_neg (by omega)] at h
  obtain ⟨a', rfl⟩ := Int.eq_ofNat_of_zero_le ha1
  obtain ⟨t, ht⟩ : ∃ t, t = tornW (b.drop (a' : Int).toNat) (c - a').toNat := ⟨_, rfl⟩
  rw [← ht] at h
  refine ⟨fun x y s => ∃ (i q : Nat) (w' : World), x = .int .i64 q ∧ y = .int .i64 i ∧ s = ⟨w', []⟩ ∧ tornW (b.drop i) q = t ∧ i ≤ 1000000 ∧ q ≤ 1000000 ∧ Hv w0 H w',
    fun _ y s => match y with | .int _ z => 1000001 - z.toNat | _ => 0, ⟨a', (c - a').toNat, w, by congr; omega, rfl, rfl, by rw [ht]; rfl, by omega, by omega, o⟩, ?_⟩
  rintro x y s ⟨i, q, w1, rfl, rfl, rfl, hq, hi, hqn, o1⟩
  clear o
  rcases Nat.lt_or_ge i b.length with hlt | hge
  · rw [tornW_drop hlt] at hq
    repeat' (first | refine go ?_ | intro _ | refine ⟨sb, ?_⟩ | refine ⟨sd, ?_⟩ | (refine ⟨fun h1 => ?_, fun h1 => ?_⟩ <;> first | exact ab h1 | ((try rw [h1]); (try simp only [bl] at h1))) | dsimp only)
    · rw [if_pos (by omega)] at hq
      rw [← hq] at h
      exact h _ (Sub.hv subEnd)
    · rw [if_neg (by omega), if_pos h1] at hq
      exact ⟨⟨i + 1, q - 1, _, congrArg (Value.int .i64) (by omega), rfl, rfl, hq, by omega, by omega, Sub.hv subEnd⟩, by simp; omega⟩
    · rw [if_neg (by omega), if_neg (by assumption), if_pos (by omega)] at hq
      have hk := idxB_le (b.drop (i + 1)) 10
      have hdl : (b.drop (i + 1)).length ≤ 1000000 := by rw [List.length_drop]; omega
      rw [List.take_of_length_le (by simp)]
      refine And.intro (by unfold InR; omega) ?_
      repeat' (first | refine go ?_ | intro _ | refine ⟨sb, ?_⟩ | refine ⟨sd, ?_⟩ | (refine ⟨fun h1 => ?_, fun h1 => ?_⟩ <;> first | exact ab h1 | ((try rw [h1]); (try simp only [bl] at h1))) | dsimp only)
      rw [hq]
      exact h _ (Sub.hv subEnd)
    · rw [if_neg (by omega), if_neg (by assumption), if_neg (by omega)] at hq
      exact ⟨⟨i + 1, q - 1, _, congrArg (Value.int .i64) (by omega), rfl, rfl, hq, by omega, by omega, Sub.hv subEnd⟩, by simp; omega⟩
    · exfalso; omega
  · rw [List.drop_of_length_le hge] at hq
    repeat' (first | refine go ?_ | intro _ | refine ⟨sb, ?_⟩ | refine ⟨sd, ?_⟩ | (refine ⟨fun h1 => ?_, fun h1 => ?_⟩ <;> first | exact ab h1 | ((try rw [h1]); (try simp only [bl] at h1))) | dsimp only)
    · exfalso; omega
    · rw [← hq] at h
      exact h _ (Sub.hv subEnd)⟩
instance qdrain_ok [o : Hv w0 H w] [i : InK queueR p H x R] : Step (Cl P 66 #[.pointer (some ⟨p, 0, none⟩), .int .i64 z] K ⟨w, ds⟩) (x.ok ∧ ∀ v w', Hv w0 (row 5 1 v (x.many z) ((x.b.take (x.many z)).map byteV) :: queueR p (x.drain z) :: R) w' → K v ⟨w', ds⟩) := ⟨fun ⟨ok, h⟩ => by
  obtain ⟨v, o1⟩ := queue_open (i.hv o)
  clear o
  obtain ⟨b1, b2, b3⟩ := ok
  unfold Qu.drain at h
  obtain ⟨k, hk⟩ : ∃ k, k = x.many z := ⟨_, rfl⟩
  have hk1 : k ≤ x.b.length := by rw [hk]; unfold Qu.many; omega
  have hk2 : max 0 (min z (x.b.length : Int)) = k := by rw [hk]; unfold Qu.many; omega
  rw [← hk] at h
  refine s66 ?_
  unfold D66
  repeat' (first | refine go ?_ | intro _ | refine ⟨sb, ?_⟩ | refine ⟨sd, ?_⟩ | (refine ⟨fun h1 => ?_, fun h1 => ?_⟩ <;> first | exact ab h1 | ((try rw [h1]); (try simp only [bl] at h1))) | dsimp only)
  rename_i wl ol v' ss
  have o8 := Hv.nilRow 5 1 ol
  clear ol
  repeat' (first | refine go ?_ | intro _ | refine ⟨sb, ?_⟩ | refine ⟨sd, ?_⟩ | (refine ⟨fun h1 => ?_, fun h1 => ?_⟩ <;> first | exact ab h1 | ((try rw [h1]); (try simp only [bl] at h1))) | dsimp only)
  refine h _ _ (Sub.hv (subRow ?_ ?_ (subQueue ⟨rfl, ?_, ?_, rfl⟩ ?_ ?_ subEnd)))
  all_goals (try simp only [hk2, Int.toNat_natCast])
  · rw [List.map_take]
  · rw [List.length_drop]; omega
  · rw [List.nil_append, Nat.mul_one, Nat.mul_one, List.map_drop]
    exact List.take_of_length_le (by simp)⟩
end
end Go.Proofs.YtgcomleicnblhaaGreatDoor

