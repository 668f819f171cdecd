import Derived.Test.YtliknfpdgppjkaaGreatDoorLbC
set_option linter.all false
namespace Go.Proofs.YtliknfpdgppjkaaGreatDoor
open Go.Vx Go.Lib
section
open Go.Vx Go.Lib
abbrev PowT (w0 : World) : Prop := Tab P w0 "internal/strconv.uint64pow10" .u64 pow10Tab
section
set_option maxRecDepth 20000
set_option synthInstance.maxSize 100000
set_option synthInstance.maxHeartbeats 4000000
instance itoaL_ok {K : Value → St → Prop} {w0 w : World} {H : List SL} {ds : List Deferred} {n : Int} [o : Hv w0 H w] [tb : PowT w0] :
    Step (Cl P 37 #[.int .i64 n] K ⟨w, ds⟩) (InR n ∧ ∀ w', Hv w0 H w' → K (str (itoa n)) ⟨w', ds⟩) := ⟨fun ⟨hn, h⟩ => by
  refine s37 ?_
  unfold D37
  refine cl_ok ((Tryz.internal_strconv_Itoa n hn.1 hn.2 w (o.tab tb.eq)).mono fun e w' ⟨he, k, os, hw⟩ => ?_)
  subst hw
  refine ⟨_, he, ?_⟩
  refine go ?_
  exact h _ o.grown⟩
theorem decT_ok (m : Nat) : ∀ (n : Int), n.toNat < m → 0 ≤ n → n ≤ 9223372036854775807 → ∀ {K : Value → St → Prop} {w0 w : World} {H : List SL} {ds : List Deferred} [Hv w0 H w],
    (∀ w', Hv w0 H w' → K (str (decDigits n.toNat)) ⟨w', ds⟩) → Cl P 81 #[.int .i64 n] K ⟨w, ds⟩ := by
  induction m with
  | zero => intro n h; omega
  | succ m ih =>
  intro n hm h0 h1 K w0 w H ds o h
  refine s81 ?_
  unfold D81
  dsimp only
  obtain ⟨t1, t2, t3⟩ := tdiv_nat h0
  obtain ⟨m1, m2, m3⟩ := tmod_nat h0
  repeat' (first | refine go ?_ | intro _ | refine ⟨sb, ?_⟩ | refine ⟨sd, ?_⟩ | (refine ⟨fun h1 => ?_, fun h1 => ?_⟩ <;> first | exact ab h1 | ((try rw [h1]); (try simp only [bl] at h1))) | dsimp only)
  · rw [decDigits_one (show n.toNat < 10 by omega)] at h
    rw [show (48 + n).toNat = 48 + n.toNat by omega]
    exact h _ (Sub.hv subEnd)
  · have hd := dec_big (show ¬ n.toNat < 10 by omega)
    have e : (48 + n.tmod 10).toNat = 48 + n.toNat % 10 := by omega
    rw [hd, ← t1, ← e] at h
    have hl := dec_len (u := (n.tdiv 10).toNat) (by omega)
    refine And.intro (ih _ (by omega) t2 (by omega) ?_) ?_
    · repeat' (first | refine go ?_ | intro _ | refine ⟨sb, ?_⟩ | refine ⟨sd, ?_⟩ | (refine ⟨fun h1 => ?_, fun h1 => ?_⟩ <;> first | exact ab h1 | ((try rw [h1]); (try simp only [bl] at h1))) | dsimp only)
      exact h _ (Sub.hv subEnd)
    · repeat' (first | refine go ?_ | intro _ | refine ⟨sb, ?_⟩ | refine ⟨sd, ?_⟩ | (refine ⟨fun h1 => ?_, fun h1 => ?_⟩ <;> first | exact ab h1 | ((try rw [h1]); (try simp only [bl] at h1))) | dsimp only)
      refine ih _ (by omega) t2 (by omega) ?_
      repeat' (first | refine go ?_ | intro _ | refine ⟨sb, ?_⟩ | refine ⟨sd, ?_⟩ | (refine ⟨fun h1 => ?_, fun h1 => ?_⟩ <;> first | exact ab h1 | ((try rw [h1]); (try simp only [bl] at h1))) | dsimp only)
      exact h _ (Sub.hv subEnd)
variable {K : Value → St → Prop} {w0 w : World} {H : List SL} {ds : List Deferred} {n : Int}
instance digR_ok [o : Hv w0 H w] : Step (Cl P 81 #[.int .i64 n] K ⟨w, ds⟩) ((0 ≤ n ∧ n ≤ 9223372036854775807) ∧ ∀ w', Hv w0 H w' → K (str (decDigits n.toNat)) ⟨w', ds⟩) := ⟨fun ⟨hn, h⟩ => decT_ok _ n (Nat.lt_succ_self _) hn.1 hn.2 h⟩
end
end
/-! rows of texts; numbers; keys -/
theorem hv_bytesW {w0 w : World} {H : List SL} {e : TypeId} {s : ByteArray} (o : Hv w0 H w) : Hv w0 H (Lib.bytesWorld w e s) :=
  o.same ⟨rfl, rfl, rfl, by simp [Lib.bytesWorld, World.freeze], fun j hj _ => by
    simp [Lib.bytesWorld, World.freeze, Array.getElem?_modify, Nat.ne_of_gt hj, Array.getElem?_push, Nat.ne_of_lt hj]
    show (w.heap.push _)[j]? = _
    rw [Array.getElem?_push, if_neg (by omega)]⟩
section
set_option maxRecDepth 20000
set_option synthInstance.maxSize 100000
set_option synthInstance.maxHeartbeats 4000000
variable {K : Value → St → Prop} {w0 w : World} {H R : List SL} {ds : List Deferred} {a b l : List UInt8} {x y : Value} {n m : Nat} {xs ys : List Value} {ps qs : List (List UInt8)}
instance texts_ok [o : Hv w0 H w] [rx : RdsF w0 H x 1 n xs] [ex : Maps str xs ps] [ry : RdsF w0 H y 1 m ys] [ey : Maps str ys qs] :
    Step (Cl P 16 #[x, y] K ⟨w, ds⟩) (ps.length ≤ 100000 ∧ ∀ w', Hv w0 H w' → K (.bool (decide (ps = qs))) ⟨w', ds⟩) := ⟨fun ⟨hl, h⟩ => by
  have rlx := rx.loc
  have rly := ry.loc
  have r1 := rx.rd w o
  have r2 := ry.rd w o
  obtain rfl := ex.eq
  obtain rfl := ey.eq
  obtain rfl : n = ps.length := by have := r1.len; simpa using this.symm
  obtain rfl : m = qs.length := by have := r2.len; simpa using this.symm
  clear r1 r2 ex ey
  refine s16 ?_
  unfold D16
  repeat' (first | refine go ?_ | intro _ | refine ⟨sb, ?_⟩ | refine ⟨sd, ?_⟩ | (refine ⟨fun h1 => ?_, fun h1 => ?_⟩ <;> first | exact ab h1 | ((try rw [h1]); (try simp only [bl] at h1))) | dsimp only)
  · have hne : ps ≠ qs := fun e => h1 (by rw [e])
    simpa [hne] using h _ o
  have hn : ps.length = qs.length := by omega
  refine ⟨fun y s => ∃ (i : Nat) (w' : World), y = .int .i64 i ∧ s = ⟨w', []⟩ ∧ i ≤ ps.length ∧ ps.take i = qs.take i ∧ Hv w0 H w',
    fun y s => match y with | .int _ z => ps.length - z.toNat | _ => 0, ⟨0, w, rfl, rfl, Nat.zero_le _, by simp, o⟩, ?_⟩
  rintro y s ⟨i, w1, rfl, rfl, hi, he, o1⟩
  clear o
  repeat' (first | refine go ?_ | intro _ | refine ⟨sb, ?_⟩ | refine ⟨sd, ?_⟩ | (refine ⟨fun h1 => ?_, fun h1 => ?_⟩ <;> first | exact ab h1 | ((try rw [h1]); (try simp only [bl] at h1))) | dsimp only)
  · have hlt : i < ps.length := by omega
    have hne : ps ≠ qs := fun e => by subst e; exact h1 rfl
    simpa [hne] using h _ (Sub.hv subEnd)
  · have hlt : i < ps.length := by omega
    refine ⟨⟨i + 1, _, rfl, rfl, hlt, ?_, Sub.hv subEnd⟩, by simp; omega⟩
    rw [take_snoc hlt, take_snoc (show i < qs.length by omega), he, h1]
  · have : ps = qs := by rw [← List.take_of_length_le (show ps.length ≤ i by omega), he, List.take_of_length_le (by omega)]
    simpa [this] using h _ (Sub.hv subEnd)⟩
instance num01_ok {z : Int} [o : Hv w0 H w] : Step (Cl P 48 #[.int .i64 z] K ⟨w, ds⟩) ((0 ≤ z ∧ z ≤ 9223372036854775807) ∧ ∀ w', Hv w0 H w' → K (str (decDigits z.toNat)) ⟨w', ds⟩) := ⟨fun ⟨hz, h⟩ => by
  refine s48 ?_
  unfold D48
  obtain ⟨z1, z2⟩ := hz
  repeat' (first | refine go ?_ | intro _ | refine ⟨sb, ?_⟩ | refine ⟨sd, ?_⟩ | (refine ⟨fun h1 => ?_, fun h1 => ?_⟩ <;> first | exact ab h1 | ((try rw [h1]); (try simp only [bl] at h1))) | dsimp only)
  · exact h _ (Sub.hv subEnd)
  all_goals (exfalso; omega)⟩
/-! a key -/
theorem all_take {l : List UInt8} {p : UInt8 → Bool} {i : Nat} (h : i < l.length) : (l.take (i + 1)).all p = ((l.take i).all p && p (l.getD i default)) := by
  rw [take_snoc h]; simp [-List.getD_eq_getElem?_getD]
theorem all_at {l : List UInt8} {p : UInt8 → Bool} {i : Nat} (h : i < l.length) (hp : p (l.getD i default) = false) : l.all p = false := by
  cases h2 : l.all p with
  | false => rfl
  | true =>
    have := List.all_eq_true.1 h2 (l.getD i default) (by simp [h])
    rw [hp] at this; cases this
def keyC (b : UInt8) : Bool := decide (33 ≤ b) && decide (b ≤ 126) && !decide (b = 44)
def keyB (l : List UInt8) : Bool := decide (1 ≤ l.length) && decide (l.length ≤ 23) && l.all keyC && !decide (l.getD 0 default = 58)
theorem key_kind (b : UInt8) : ((kindN b.toNat &&& 32) != 0) = keyC b := by
  have := bytes_all (fun b => ((kindN b.toNat &&& 32) != 0) == keyC b) (by decide +kernel) b
  simpa using this
theorem all_key (l : List UInt8) : allK 32 l = l.all keyC := by
  unfold allK
  rw [show (fun c : UInt8 => (kindN c.toNat &&& 32) != 0) = keyC from funext key_kind]
theorem key_len (l : List UInt8) : keyB l = (!(decide ((l.length : Int) < 1) || decide (23 < (l.length : Int))) && l.all keyC && !decide (l.getD 0 default = 58)) := by
  unfold keyB
  congr 2
  rw [Bool.eq_iff_iff]; simp; omega
instance vkey_ok [o : Hv w0 H w] : Step (Cl P 69 #[str l] K ⟨w, ds⟩) (l.length ≤ 1000000000 ∧ ∀ w', Hv w0 H w' → K (.bool (keyB l)) ⟨w', ds⟩) := ⟨fun ⟨hl, h⟩ => by
  have hk := all_key l
  refine s69 ?_
  unfold D69
  repeat' (first | refine go ?_ | intro _ | refine ⟨sb, ?_⟩ | refine ⟨sd, ?_⟩ | (refine ⟨fun h1 => ?_, fun h1 => ?_⟩ <;> first | exact ab h1 | ((try rw [h1]); (try simp only [bl] at h1))) | dsimp only)
  refine cast (congrArg (fun b => K (.bool b) _) ?_) (h _ (Sub.hv subEnd))
  rw [show (Int.toNat 32) = 32 from rfl, hk, key_len l]⟩
instance keyR_ok {w : World} {l : List UInt8} : VS (Cl P 58 #[str l]) w (l.length ≤ 1000000000) (.bool (keyB l)) := ⟨fun hl {K ds} h => by
  refine s58 ?_
  unfold D58
  refine ⟨fun y s => ∃ (i : Nat), y = .int .i64 i ∧ s = ⟨w, []⟩ ∧ i ≤ l.length ∧ (l.take i).all keyC = true,
    fun y s => match y with | .int _ z => l.length - z.toNat | _ => 0, ⟨0, rfl, rfl, Nat.zero_le _, rfl⟩, ?_⟩
  rintro y s ⟨i, rfl, rfl, hi, he⟩
  rcases Nat.lt_or_ge i l.length with hlt | hge
  · have ht := all_take (p := keyC) hlt
    have ha := @all_at l keyC i hlt
    repeat' (first | refine go ?_ | intro _ | refine ⟨sb, ?_⟩ | refine ⟨sd, ?_⟩ | (refine ⟨fun h1 => ?_, fun h1 => ?_⟩ <;> first | exact ab h1 | ((try rw [h1]); (try simp only [bl] at h1))) | dsimp only)
    · have hc : keyC (l.getD i default) = false := by unfold keyC; clear h he ht ha; grind
      have hk : keyB l = false := by unfold keyB; rw [ha hc]; simp
      rw [hk] at h; exact h
    · have hc : keyC (l.getD i default) = true := by unfold keyC; clear h he ht ha; grind
      exact ⟨⟨i + 1, rfl, rfl, hlt, by rw [ht, he, hc]; rfl⟩, by simp; omega⟩
    · exfalso; omega
  · rw [List.take_of_length_le hge] at he
    repeat' (first | refine go ?_ | intro _ | refine ⟨sb, ?_⟩ | refine ⟨sd, ?_⟩ | (refine ⟨fun h1 => ?_, fun h1 => ?_⟩ <;> first | exact ab h1 | ((try rw [h1]); (try simp only [bl] at h1))) | dsimp only)
    · exfalso; omega
    · refine cast (congrArg (fun b => K (.bool b) _) ?_) h
      unfold keyB
      rw [he]
      congr 1
      rw [Bool.eq_iff_iff]; simp; omega⟩
/-! a text's place -/
class PredH (w0 : World) (H : List SL) (f : Value) (p : outParam (List UInt8 → Bool)) : Prop where
  run : ∀ {K : Value → St → Prop} {w : World} {ds : List Deferred} {l : List UInt8}, Hv w0 H w → l.length ≤ 1000000 → (∀ w', Hv w0 H w' → K (.bool (p l)) ⟨w', ds⟩) → Dy P f #[str l] K ⟨w, ds⟩
def idxP (p : List UInt8 → Bool) (ps : List (List UInt8)) : Int := match ps.findIdx? p with | some i => i | none => -1
theorem idxP_some {p : List UInt8 → Bool} {i : Nat} (hi : i < ps.length) (h : p (ps.getD i default) = true) (hp : (ps.take i).any p = false) : idxP p ps = i := by
  have : ps.findIdx? p = some i := by
    rw [List.findIdx?_eq_some_iff_getElem]
    refine ⟨hi, by simpa [hi] using h, fun j hj => ?_⟩
    have := List.any_eq_false.1 hp ps[j] (by rw [List.mem_take_iff_getElem]; exact ⟨j, by omega, rfl⟩)
    simpa using this
  unfold idxP; rw [this]
theorem idxP_none {p : List UInt8 → Bool} (hp : ps.any p = false) : idxP p ps = -1 := by
  have : ps.findIdx? p = none := by
    rw [List.findIdx?_eq_none_iff]; intro x hx; simpa using List.any_eq_false.1 hp x hx
  unfold idxP; rw [this]
instance indexF_ok {f : Value} {p : List UInt8 → Bool} [o : Hv w0 H w] [r : RdsF w0 H x 1 n xs] [e : Maps str xs ps] [pf : PredH w0 H f p] :
    Step (Cl P 73 #[x, f] K ⟨w, ds⟩) ((∀ q ∈ ps, q.length ≤ 1000000) ∧ ∀ w', Hv w0 H w' → K (.int .i64 (idxP p ps)) ⟨w', ds⟩) := ⟨fun ⟨hm, h⟩ => by
  have rl := r.loc
  have rr := r.rd w o
  obtain rfl := e.eq
  obtain rfl : n = ps.length := by have := rr.len; simpa using this.symm
  have hb := rr.le
  simp only [maxLen] at hb
  refine s73 ?_
  unfold D73
  repeat (first | refine go ?_ | intro _ | refine ⟨sb, ?_⟩ | refine ⟨sd, ?_⟩ | dsimp only)
  refine ⟨fun x s => ∃ (i : Nat) (w' : World), x = .int .i64 i ∧ s = ⟨w', []⟩ ∧ i ≤ ps.length ∧ (ps.take i).any p = false ∧ Hv w0 H w',
    fun x s => match x with | .int _ z => ps.length - z.toNat | _ => 0, ⟨0, w, rfl, rfl, Nat.zero_le _, rfl, o⟩, ?_⟩
  rintro x s ⟨i, w1, rfl, rfl, hi, hn, o1⟩
  clear o
  rcases Nat.lt_or_ge i ps.length with hlt | hge
  · have ha : (ps.take (i + 1)).any p = ((ps.take i).any p || p (ps.getD i default)) := by rw [take_snoc hlt, List.any_append]; simp
    have hf := hm _ (getD_mem hlt)
    repeat (first | refine go ?_ | intro _ | refine ⟨sb, ?_⟩ | refine ⟨sd, ?_⟩ | dsimp only)
    refine And.intro (fun _ => ?_) (fun h1 => by exfalso; simp at h1; omega)
    repeat ((fail_if_success (refine pf.run ?_ ?_ ?_)); (first | refine go ?_ | intro _ | refine ⟨sb, ?_⟩ | refine ⟨sd, ?_⟩ | dsimp only))
    refine pf.run o1 hf ?_
    intro w2 o2
    repeat' (first | refine go ?_ | intro _ | refine ⟨sb, ?_⟩ | refine ⟨sd, ?_⟩ | (refine ⟨fun h1 => ?_, fun h1 => ?_⟩ <;> first | exact ab h1 | ((try rw [h1]); (try simp only [bl] at h1))) | dsimp only)
    · rw [idxP_some hlt h1 hn] at h; exact h _ o2
    · exact ⟨⟨i + 1, _, rfl, rfl, hlt, by rw [ha, hn, h1]; rfl, o2⟩, by simp; omega⟩
  · rw [List.take_of_length_le hge] at hn
    rw [idxP_none hn] at h
    repeat' (first | refine go ?_ | intro _ | refine ⟨sb, ?_⟩ | refine ⟨sd, ?_⟩ | (refine ⟨fun h1 => ?_, fun h1 => ?_⟩ <;> first | exact ab h1 | ((try rw [h1]); (try simp only [bl] at h1))) | dsimp only)
    · exfalso; omega
    · exact h _ o1⟩
/-! a limit -/
def valS (l : List UInt8) : Nat := l.foldl (fun n b => 10 * n + (b.toNat - 48)) 0
def digC (b : UInt8) : Bool := decide (48 ≤ b) && decide (b ≤ 57)
def numB (l : List UInt8) : Bool := decide (1 ≤ l.length) && decide (l.length ≤ 4) && !decide (l.getD 0 default = 48) && l.all digC
def numS (l : List UInt8) : Nat := if numB l then valS l else 0
theorem valS_lt (l : List UInt8) (h : l.all digC = true) : valS l < 10 ^ l.length := by
  have q : ∀ (l : List UInt8) (acc : Nat), l.all digC = true → l.foldl (fun n b => 10 * n + (b.toNat - 48)) acc < (acc + 1) * 10 ^ l.length := by
    intro l
    induction l with
    | nil => intro acc _; simp
    | cons b l ih =>
      intro acc h
      rw [List.all_cons, Bool.and_eq_true] at h
      have hb : b.toNat - 48 < 10 := by have := h.1; simp [digC, UInt8.le_iff_toNat_le] at this; omega
      refine Nat.lt_of_lt_of_le (ih _ h.2) ?_
      rw [List.length_cons, Nat.pow_succ, Nat.mul_comm (10 ^ _) 10, ← Nat.mul_assoc]
      exact Nat.mul_le_mul_right _ (by show 10 * acc + (b.toNat - 48) + 1 ≤ _; omega)
  simpa [valS] using q l 0 h
theorem numS_lt (l : List UInt8) : numS l ≤ 9999 := by
  unfold numS
  split
  · rename_i h
    simp only [numB, Bool.and_eq_true, decide_eq_true_eq] at h
    have := valS_lt l h.2
    have h4 : 10 ^ l.length ≤ 10 ^ 4 := Nat.pow_le_pow_right (by omega) h.1.1.2
    omega
  · omega
theorem atoi_val (l : List UInt8) (h : l.all digC = true) (h0 : l ≠ []) : Lib.atoi l = some (valS l : Int) := by
  have q : ∀ (l : List UInt8) (acc : Nat), l.all digC = true → Lib.decFrom acc l = some (l.foldl (fun n b => 10 * n + (b.toNat - 48)) acc) := by
    intro l
    induction l with
    | nil => intro acc _; rfl
    | cons b l ih =>
      intro acc h
      rw [List.all_cons, Bool.and_eq_true] at h
      have hb : 48 ≤ b.toNat ∧ b.toNat ≤ 57 := by have := h.1; simp [digC, UInt8.le_iff_toNat_le] at this; exact this
      simp only [Lib.decFrom, Lib.digitVal, if_pos hb, List.foldl_cons]
      rw [ih _ h.2, Nat.mul_comm]
  cases l with
  | nil => exact absurd rfl h0
  | cons b l =>
    have hb : 48 ≤ b.toNat ∧ b.toNat ≤ 57 := by rw [List.all_cons, Bool.and_eq_true] at h; have := h.1; simp [digC, UInt8.le_iff_toNat_le] at this; exact this
    have n1 : (b == 45) = false := by rw [beq_eq_false_iff_ne]; intro e; subst e; simp at hb
    have n2 : (b == 43) = false := by rw [beq_eq_false_iff_ne]; intro e; subst e; simp at hb
    simp only [Lib.atoi, n1, n2, Lib.decNat, List.isEmpty_cons, Bool.false_eq_true, if_false, q _ 0 h, Option.map_some, valS]
instance atoi_ok [o : Hv w0 H w] : Step (Cl P 102 #[str l] K ⟨w, ds⟩) (((1 ≤ l.length ∧ l.length ≤ 18) ∧ l.all digC = true) ∧ ∀ w', Hv w0 H w' → K (.tuple #[.int .i64 (valS l), .nilIface]) ⟨w', ds⟩) := ⟨fun ⟨⟨hl, hd⟩, h⟩ => by
  refine cl_ok ((Tryz.strconv_Atoi ⟨l.toArray⟩ (valS l) (by simpa [ByteArray.size] using hl.2) (by simpa using atoi_val l hd (by intro e; subst e; simp at hl)) w).mono fun e w' ⟨he, t, hw⟩ => ?_)
  subst hw
  exact ⟨_, he, h _ (hv_bytesW o)⟩⟩
def digs : List UInt8 := [48, 49, 50, 51, 52, 53, 54, 55, 56, 57]
theorem digs_eq (b : UInt8) : digs.contains b = digC b := by
  have := bytes_all (fun b => digs.contains b == digC b) (by decide +kernel) b
  simpa using this
theorem numS_no {l : List UInt8} (h : numB l = false) : numS l = 0 := by unfold numS; rw [h]; rfl
instance number_ok [o : Hv w0 H w] : Step (Cl P 70 #[str l] K ⟨w, ds⟩) (l.length ≤ 100000 ∧ ∀ w', Hv w0 H w' → K (.int .i64 (numS l)) ⟨w', ds⟩) := ⟨fun ⟨hl, h⟩ => by
  have ht := trims_nil l digs
  rw [show (fun x => digs.contains x) = digC from funext digs_eq] at ht
  refine s70 ?_
  unfold D70
  repeat' (first | refine go ?_ | intro _ | refine ⟨sb, ?_⟩ | refine ⟨sd, ?_⟩ | (refine ⟨fun h1 => ?_, fun h1 => ?_⟩ <;> first | exact ab h1 | ((try rw [h1]); (try simp only [bl] at h1))) | dsimp only)
  · refine And.intro ⟨hl, by decide, by decide, by decide⟩ ?_
    intro w1 o1
    clear o
    show Bo P .neq _ _ _ (str (trimLs (trimRs l digs) digs)) _ _ _
    have hd : decide (trimLs (trimRs l digs) digs = []) = l.all digC := ht
    cases hq : l.all digC with
    | true =>
      rw [hq, decide_eq_true_eq] at hd
      rw [hd]
      have hn : numB l = true := by unfold numB; simp only [hq, Bool.and_true, Bool.and_eq_true, decide_eq_true_eq, Bool.not_eq_true', decide_eq_false_iff_not]; exact ⟨⟨by omega, by omega⟩, h1.2⟩
      unfold numS at h
      rw [hn, if_pos rfl] at h
      repeat' (first | refine go ?_ | intro _ | refine ⟨sb, ?_⟩ | refine ⟨sd, ?_⟩ | (refine ⟨fun h1 => ?_, fun h1 => ?_⟩ <;> first | exact ab h1 | ((try rw [h1]); (try simp only [bl] at h1))) | dsimp only)
      exact h _ (Sub.hv subEnd)
    | false =>
      have hn : numB l = false := by unfold numB; rw [hq]; simp
      rw [numS_no hn] at h
      rw [hq, decide_eq_false_iff_not] at hd
      repeat' (first | refine go ?_ | intro _ | refine ⟨sb, ?_⟩ | refine ⟨sd, ?_⟩ | (refine ⟨fun h1 => ?_, fun h1 => ?_⟩ <;> first | exact ab h1 | ((try rw [h1]); (try simp only [bl] at h1))) | dsimp only)
      · exact h _ (Sub.hv subEnd)
      · exact absurd h1 hd
  · rw [numS_no (by unfold numB; rw [Bool.eq_false_iff]; intro e; simp only [Bool.and_eq_true, decide_eq_true_eq, Bool.not_eq_true', decide_eq_false_iff_not] at e; rcases h1 with h2 | h2; omega; exact e.1.2 h2)] at h
    exact h _ o⟩
theorem numB_no {l : List UInt8} (h : 4 < l.length ∨ l.getD 0 default = 48 ∨ l.all digC = false) : numB l = false := by
  rw [Bool.eq_false_iff]; intro e
  simp only [numB, Bool.and_eq_true, decide_eq_true_eq, Bool.not_eq_true', decide_eq_false_iff_not] at e
  rcases h with h | h | h
  · omega
  · exact e.1.2 h
  · rw [h] at e; exact absurd e.2 (by simp)
theorem dig_eq (b : UInt8) : digB b = digC b := by unfold digB digC; first | rfl | grind
instance numberR_ok {w : World} {l : List UInt8} : VS (Cl P 59 #[str l]) w (l.length ≤ 1000000) (.int .i64 (numS l)) := ⟨fun hl {K ds} h => by
  refine s59 ?_
  unfold D59
  refine ⟨fun x y s => ∃ (i : Nat), x = .int .i64 (valS (l.take i)) ∧ y = .int .i64 i ∧ s = ⟨w, []⟩ ∧ i ≤ l.length ∧ i ≤ 4 ∧ (l.take i).all digC = true ∧ (1 ≤ i → ¬ l.getD 0 default = 48),
    fun _ y s => match y with | .int _ z => l.length - z.toNat | _ => 0, ⟨0, rfl, rfl, rfl, Nat.zero_le _, Nat.zero_le _, rfl, by omega⟩, ?_⟩
  rintro x y s ⟨i, rfl, rfl, rfl, hi, h4, he, hz⟩
  have hv := valS_lt _ he
  have hp : 10 ^ (l.take i).length ≤ 10 ^ 4 := Nat.pow_le_pow_right (by omega) (by rw [List.length_take]; omega)
  rcases Nat.lt_or_ge i l.length with hlt | hge
  · have ht := all_take (p := digC) hlt
    have ha := @all_at l digC i hlt
    have hs : valS (l.take (i + 1)) = 10 * valS (l.take i) + ((l.getD i default).toNat - 48) := by rw [take_snoc hlt]; simp [valS]
    have hc := (l.getD i default).toNat_lt
    have hd := dig_eq (l.getD i default)
    repeat' (first | refine go ?_ | intro _ | refine ⟨sb, ?_⟩ | refine ⟨sd, ?_⟩ | (refine ⟨fun h1 => ?_, fun h1 => ?_⟩ <;> first | exact ab h1 | ((try rw [h1]); (try simp only [bl] at h1))) | dsimp only)
    · rw [numS_no (numB_no ?_)] at h
      · exact h
      · rcases h1 with (h1 | ⟨h2, h3⟩) | h1
        · exact .inr (.inr (ha (by rw [← hd]; exact h1)))
        · exact .inr (.inl (by rw [show i = 0 by omega] at h3; exact h3))
        · exact .inl (by omega)
    · have hc2 : 48 ≤ (l.getD i default).toNat := by
        have := h1.1.1; rw [hd] at this; simp only [digC, Bool.and_eq_true, decide_eq_true_eq, UInt8.le_iff_toNat_le] at this; exact this.1
      refine ⟨⟨i + 1, ?_, rfl, rfl, hlt, by omega, by rw [ht, he, ← hd, h1.1.1]; rfl, fun _ => ?_⟩, by simp; omega⟩
      · rw [hs]; congr 1; omega
      · rcases Nat.eq_zero_or_pos i with h2 | h2
        · have := h1.1.2 (by omega); rw [h2] at this; exact this
        · exact hz h2
    · exfalso; omega
  · rw [List.take_of_length_le hge] at he
    repeat' (first | refine go ?_ | intro _ | refine ⟨sb, ?_⟩ | refine ⟨sd, ?_⟩ | (refine ⟨fun h1 => ?_, fun h1 => ?_⟩ <;> first | exact ab h1 | ((try rw [h1]); (try simp only [bl] at h1))) | dsimp only)
    · exfalso; omega
    · rw [List.take_of_length_le hge]
      have e : numS l = valS l := by
        rcases Nat.eq_zero_or_pos l.length with h2 | h2
        · rw [List.eq_nil_of_length_eq_zero h2]; rfl
        · unfold numS; rw [if_pos]
          simp only [numB, he, Bool.and_true, Bool.and_eq_true, decide_eq_true_eq, Bool.not_eq_true', decide_eq_false_iff_not]
          exact ⟨⟨by omega, by omega⟩, hz (by omega)⟩
      rw [e] at h; exact h⟩
end
end Go.Proofs.YtliknfpdgppjkaaGreatDoor

