import Derived.Test.YtgcomleicnblhaaGreatDoorLbC
import Derived.Lib.ConvBytes
import Derived.Lib.Atoi
set_option linter.all false
namespace Go.Proofs.YtgcomleicnblhaaGreatDoor
open Go.Vx Go.Lib
section
open Go.Vx Go.Lib
abbrev PowT (w0 : World) : Prop := Tab P w0 "internal/strconv.uint64pow10" .u64 pow10Tab
section
set_option maxRecDepth 20000
set_option synthInstance.maxSize 100000
set_option synthInstance.maxHeartbeats 4000000
instance itoaL_ok {K : Value → St → Prop} {w0 w : World} {H : List SL} {ds : List Deferred} {n : Int} [o : Hv w0 H w] [tb : PowT w0] :
    Step (Cl P 126 #[.int .i64 n] K ⟨w, ds⟩) (InR n ∧ ∀ w', Hv w0 H w' → K (str (itoa n)) ⟨w', ds⟩) := ⟨fun ⟨hn, h⟩ => by
  refine s126 ?_
  unfold D126
  refine cl_ok ((Tryz.internal_strconv_Itoa n hn.1 hn.2 w (o.tab tb.eq)).mono fun e w' ⟨he, k, os, hw⟩ => ?_)
  subst hw
  refine ⟨_, he, ?_⟩
  refine go ?_
  exact h _ o.grown⟩
theorem decT_ok (m : Nat) : ∀ (n : Int), n.toNat < m → 0 ≤ n → n ≤ 9223372036854775807 → ∀ {K : Value → St → Prop} {w0 w : World} {H : List SL} {ds : List Deferred} [Hv w0 H w],
    (∀ w', Hv w0 H w' → K (str (decDigits n.toNat)) ⟨w', ds⟩) → Cl P 10 #[.int .i64 n] K ⟨w, ds⟩ := by
  induction m with
  | zero => intro n h; omega
  | succ m ih =>
  intro n hm h0 h1 K w0 w H ds o h
  refine s10 ?_
  unfold D10
  dsimp only
  obtain ⟨t1, t2, t3⟩ := tdiv_nat h0
  obtain ⟨m1, m2, m3⟩ := tmod_nat h0
  repeat' (first | refine go ?_ | intro _ | refine ⟨sb, ?_⟩ | refine ⟨sd, ?_⟩ | (refine ⟨fun h1 => ?_, fun h1 => ?_⟩ <;> first | exact ab h1 | ((try rw [h1]); (try simp only [bl] at h1))) | dsimp only)
  · rw [decDigits_one (show n.toNat < 10 by omega)] at h
    rw [show (48 + n).toNat = 48 + n.toNat by omega]
    exact h _ (Sub.hv subEnd)
  · have hd := dec_big (show ¬ n.toNat < 10 by omega)
    have e : (48 + n.tmod 10).toNat = 48 + n.toNat % 10 := by omega
    rw [hd, ← t1, ← e] at h
    have hl := dec_len (u := (n.tdiv 10).toNat) (by omega)
    refine And.intro (ih _ (by omega) t2 (by omega) ?_) ?_
    · repeat' (first | refine go ?_ | intro _ | refine ⟨sb, ?_⟩ | refine ⟨sd, ?_⟩ | (refine ⟨fun h1 => ?_, fun h1 => ?_⟩ <;> first | exact ab h1 | ((try rw [h1]); (try simp only [bl] at h1))) | dsimp only)
      exact h _ (Sub.hv subEnd)
    · repeat' (first | refine go ?_ | intro _ | refine ⟨sb, ?_⟩ | refine ⟨sd, ?_⟩ | (refine ⟨fun h1 => ?_, fun h1 => ?_⟩ <;> first | exact ab h1 | ((try rw [h1]); (try simp only [bl] at h1))) | dsimp only)
      refine ih _ (by omega) t2 (by omega) ?_
      repeat' (first | refine go ?_ | intro _ | refine ⟨sb, ?_⟩ | refine ⟨sd, ?_⟩ | (refine ⟨fun h1 => ?_, fun h1 => ?_⟩ <;> first | exact ab h1 | ((try rw [h1]); (try simp only [bl] at h1))) | dsimp only)
      exact h _ (Sub.hv subEnd)
variable {K : Value → St → Prop} {w0 w : World} {H : List SL} {ds : List Deferred} {n : Int}
instance digR_ok [o : Hv w0 H w] : Step (Cl P 10 #[.int .i64 n] K ⟨w, ds⟩) ((0 ≤ n ∧ n ≤ 9223372036854775807) ∧ ∀ w', Hv w0 H w' → K (str (decDigits n.toNat)) ⟨w', ds⟩) := ⟨fun ⟨hn, h⟩ => decT_ok _ n (Nat.lt_succ_self _) hn.1 hn.2 h⟩
end
end
/-! rows of texts; numbers; keys -/
theorem hv_bytesW {w0 w : World} {H : List SL} {e : TypeId} {s : ByteArray} (o : Hv w0 H w) : Hv w0 H (Lib.bytesWorld w e s) :=
  o.same ⟨rfl, rfl, rfl, by simp [Lib.bytesWorld, World.freeze], fun j hj _ => by
    simp [Lib.bytesWorld, World.freeze, Array.getElem?_modify, Nat.ne_of_gt hj, Array.getElem?_push, Nat.ne_of_lt hj]
    show (w.heap.push _)[j]? = _
    rw [Array.getElem?_push, if_neg (by omega)]⟩
section
set_option maxRecDepth 20000
set_option synthInstance.maxSize 100000
set_option synthInstance.maxHeartbeats 4000000
variable {K : Value → St → Prop} {w0 w : World} {H R : List SL} {ds : List Deferred} {a b l : List UInt8} {x y : Value} {n m : Nat} {xs ys : List Value} {ps qs : List (List UInt8)}
instance num01_ok {z : Int} [o : Hv w0 H w] : Step (Cl P 213 #[.int .i64 z] K ⟨w, ds⟩) ((0 ≤ z ∧ z ≤ 9223372036854775807) ∧ ∀ w', Hv w0 H w' → K (str (decDigits z.toNat)) ⟨w', ds⟩) := ⟨fun ⟨hz, h⟩ => by
  refine s213 ?_
  unfold D213
  obtain ⟨z1, z2⟩ := hz
  repeat' (first | refine go ?_ | intro _ | refine ⟨sb, ?_⟩ | refine ⟨sd, ?_⟩ | (refine ⟨fun h1 => ?_, fun h1 => ?_⟩ <;> first | exact ab h1 | ((try rw [h1]); (try simp only [bl] at h1))) | dsimp only)
  · exact h _ (Sub.hv subEnd)
  all_goals (exfalso; omega)⟩
/-! a key -/
theorem all_take {l : List UInt8} {p : UInt8 → Bool} {i : Nat} (h : i < l.length) : (l.take (i + 1)).all p = ((l.take i).all p && p (l.getD i default)) := by
  rw [take_snoc h]; simp [-List.getD_eq_getElem?_getD]
theorem all_at {l : List UInt8} {p : UInt8 → Bool} {i : Nat} (h : i < l.length) (hp : p (l.getD i default) = false) : l.all p = false := by
  cases h2 : l.all p with
  | false => rfl
  | true =>
    have := List.all_eq_true.1 h2 (l.getD i default) (by simp [h])
    rw [hp] at this; cases this
def keyC (b : UInt8) : Bool := decide (33 ≤ b) && decide (b ≤ 126) && !decide (b = 44)
def keyB (l : List UInt8) : Bool := decide (1 ≤ l.length) && decide (l.length ≤ 23) && l.all keyC && !decide (l.getD 0 default = 58)
theorem key_kind (b : UInt8) : ((kindN b.toNat &&& 32) != 0) = keyC b := by
  have := bytes_all (fun b => ((kindN b.toNat &&& 32) != 0) == keyC b) (by decide +kernel) b
  simpa using this
theorem all_key (l : List UInt8) : allK 32 l = l.all keyC := by
  unfold allK
  rw [show (fun c : UInt8 => (kindN c.toNat &&& 32) != 0) = keyC from funext key_kind]
theorem key_len (l : List UInt8) : keyB l = (!(decide ((l.length : Int) < 1) || decide (23 < (l.length : Int))) && l.all keyC && !decide (l.getD 0 default = 58)) := by
  unfold keyB
  congr 2
  rw [Bool.eq_iff_iff]; simp; omega
/-! a text's place -/
class PredH (w0 : World) (H : List SL) (f : Value) (p : outParam (List UInt8 → Bool)) : Prop where
  run : ∀ {K : Value → St → Prop} {w : World} {ds : List Deferred} {l : List UInt8}, Hv w0 H w → l.length ≤ 1000000 → (∀ w', Hv w0 H w' → K (.bool (p l)) ⟨w', ds⟩) → Dy P f #[str l] K ⟨w, ds⟩
def idxP (p : List UInt8 → Bool) (ps : List (List UInt8)) : Int := match ps.findIdx? p with | some i => i | none => -1
theorem idxP_some {p : List UInt8 → Bool} {i : Nat} (hi : i < ps.length) (h : p (ps.getD i default) = true) (hp : (ps.take i).any p = false) : idxP p ps = i := by
  have : ps.findIdx? p = some i := by
    rw [List.findIdx?_eq_some_iff_getElem]
    refine ⟨hi, by simpa [hi] using h, fun j hj => ?_⟩
    have := List.any_eq_false.1 hp ps[j] (by rw [List.mem_take_iff_getElem]; exact ⟨j, by omega, rfl⟩)
    simpa using this
  unfold idxP; rw [this]
theorem idxP_none {p : List UInt8 → Bool} (hp : ps.any p = false) : idxP p ps = -1 := by
  have : ps.findIdx? p = none := by
    rw [List.findIdx?_eq_none_iff]; intro x hx; simpa using List.any_eq_false.1 hp x hx
  unfold idxP; rw [this]
/-! a limit -/
def valS (l : List UInt8) : Nat := l.foldl (fun n b => 10 * n + (b.toNat - 48)) 0
def digC (b : UInt8) : Bool := decide (48 ≤ b) && decide (b ≤ 57)
def numB (l : List UInt8) : Bool := decide (1 ≤ l.length) && decide (l.length ≤ 4) && !decide (l.getD 0 default = 48) && l.all digC
def numS (l : List UInt8) : Nat := if numB l then valS l else 0
theorem valS_lt (l : List UInt8) (h : l.all digC = true) : valS l < 10 ^ l.length := by
  have q : ∀ (l : List UInt8) (acc : Nat), l.all digC = true → l.foldl (fun n b => 10 * n + (b.toNat - 48)) acc < (acc + 1) * 10 ^ l.length := by
    intro l
    induction l with
    | nil => intro acc _; simp
    | cons b l ih =>
      intro acc h
      rw [List.all_cons, Bool.and_eq_true] at h
      have hb : b.toNat - 48 < 10 := by have := h.1; simp [digC, UInt8.le_iff_toNat_le] at this; omega
      refine Nat.lt_of_lt_of_le (ih _ h.2) ?_
      rw [List.length_cons, Nat.pow_succ, Nat.mul_comm (10 ^ _) 10, ← Nat.mul_assoc]
      exact Nat.mul_le_mul_right _ (by show 10 * acc + (b.toNat - 48) + 1 ≤ _; omega)
  simpa [valS] using q l 0 h
theorem numS_lt (l : List UInt8) : numS l ≤ 9999 := by
  unfold numS
  split
  · rename_i h
    simp only [numB, Bool.and_eq_true, decide_eq_true_eq] at h
    have := valS_lt l h.2
    have h4 : 10 ^ l.length ≤ 10 ^ 4 := Nat.pow_le_pow_right (by omega) h.1.1.2
    omega
  · omega
theorem atoi_val (l : List UInt8) (h : l.all digC = true) (h0 : l ≠ []) : Lib.atoi l = some (valS l : Int) := by
  have q : ∀ (l : List UInt8) (acc : Nat), l.all digC = true → Lib.decFrom acc l = some (l.foldl (fun n b => 10 * n + (b.toNat - 48)) acc) := by
    intro l
    induction l with
    | nil => intro acc _; rfl
    | cons b l ih =>
      intro acc h
      rw [List.all_cons, Bool.and_eq_true] at h
      have hb : 48 ≤ b.toNat ∧ b.toNat ≤ 57 := by have := h.1; simp [digC, UInt8.le_iff_toNat_le] at this; exact this
      simp only [Lib.decFrom, Lib.digitVal, if_pos hb, List.foldl_cons]
      rw [ih _ h.2, Nat.mul_comm]
  cases l with
  | nil => exact absurd rfl h0
  | cons b l =>
    have hb : 48 ≤ b.toNat ∧ b.toNat ≤ 57 := by rw [List.all_cons, Bool.and_eq_true] at h; have := h.1; simp [digC, UInt8.le_iff_toNat_le] at this; exact this
    have n1 : (b == 45) = false := by rw [beq_eq_false_iff_ne]; intro e; subst e; simp at hb
    have n2 : (b == 43) = false := by rw [beq_eq_false_iff_ne]; intro e; subst e; simp at hb
    simp only [Lib.atoi, n1, n2, Lib.decNat, List.isEmpty_cons, Bool.false_eq_true, if_false, q _ 0 h, Option.map_some, valS]
def digs : List UInt8 := [48, 49, 50, 51, 52, 53, 54, 55, 56, 57]
theorem digs_eq (b : UInt8) : digs.contains b = digC b := by
  have := bytes_all (fun b => digs.contains b == digC b) (by decide +kernel) b
  simpa using this
theorem numS_no {l : List UInt8} (h : numB l = false) : numS l = 0 := by unfold numS; rw [h]; rfl
theorem numB_no {l : List UInt8} (h : 4 < l.length ∨ l.getD 0 default = 48 ∨ l.all digC = false) : numB l = false := by
  rw [Bool.eq_false_iff]; intro e
  simp only [numB, Bool.and_eq_true, decide_eq_true_eq, Bool.not_eq_true', decide_eq_false_iff_not] at e
  rcases h with h | h | h
  · omega
  · exact e.1.2 h
  · rw [h] at e; exact absurd e.2 (by simp)
theorem dig_eq (b : UInt8) : digB b = digC b := by unfold digB digC; first | rfl | grind
end
end Go.Proofs.YtgcomleicnblhaaGreatDoor

