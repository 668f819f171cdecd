import Derived.Test.YtgcomleicnblhaaGreatDoorBl
import Derived.Test.YtgcomleicnblhaaGreatDoorShelf
import Derived.Test.YtgcomleicnblhaaGreatDoorEn2
import Derived.Test.YtgcomleicnblhaaGreatDoorEng
set_option linter.all false
namespace Go.Proofs.YtgcomleicnblhaaGreatDoor
open Go.Vx Go.Lib
section
open Go.Vx Go.Lib
instance sidx_ok {w : World} {l : List UInt8} {c : UInt8} : VT (Cl P 281 #[str l, byteV c]) w (.int .i64 (idxB l c)) := ⟨fun {K ds} h => by
  refine s281 ?_
  unfold D281
  repeat' (first | refine go ?_ | intro _ | refine ⟨sb, ?_⟩ | refine ⟨sd, ?_⟩ | (refine ⟨fun h1 => ?_, fun h1 => ?_⟩ <;> first | exact ab h1 | ((try rw [h1]); (try simp only [bl] at h1))) | dsimp only)
  exact h⟩
instance idx_ok {w : World} {l : List UInt8} {c : UInt8} : VT (Cl P 207 #[str l, byteV c]) w (.int .i64 (idxB l c)) := ⟨fun {K ds} h => by
  refine s207 ?_
  unfold D207
  repeat' (first | refine go ?_ | intro _ | refine ⟨sb, ?_⟩ | refine ⟨sd, ?_⟩ | (refine ⟨fun h1 => ?_, fun h1 => ?_⟩ <;> first | exact ab h1 | ((try rw [h1]); (try simp only [bl] at h1))) | dsimp only)
  exact h⟩
instance idx70_ok {w : World} {l : List UInt8} {c : UInt8} : VT (Cl P 310 #[str l, str [c]]) w (.int .i64 (idxB l c)) := ⟨fun {K ds} h => by
  refine cl_ok ((Tryz.strings_Index_one ⟨l.toArray⟩ c w).mono fun e w' ⟨he, hw⟩ => ?_)
  subst hw
  refine ⟨_, he, ?_⟩
  simpa [idx_eq] using h⟩
instance idx71_ok {w : World} {l : List UInt8} {c : UInt8} : VT (Cl P 370 #[str l, str [c]]) w (.int .i64 (idxB l c)) := ⟨fun {K ds} h => by
  refine cl_ok ((Tryz.stringslite_Index_one ⟨l.toArray⟩ c w).mono fun e w' ⟨he, hw⟩ => ?_)
  subst hw
  refine ⟨_, he, ?_⟩
  simpa [idx_eq] using h⟩
def cutB (l : List UInt8) (c : UInt8) : List UInt8 × List UInt8 × Bool := match l.findIdx? (· == c) with | some i => (l.take i, l.drop (i + 1), true) | none => (l, [], false)
theorem find_lt {l : List UInt8} {c : UInt8} {i : Nat} (h : l.findIdx? (· == c) = some i) : i < l.length := (List.findIdx?_eq_some_iff_getElem.1 h).1
end
section
open Go.Vx Go.Lib
theorem zeroSet (w : World) : (zeroValue 355).run Tryz.prog w = .ok (.agg (Array.replicate 256 (.bool false))) w := tyz_of (P := Tryz.prog) (t := 355) (inf_of Tryz.type355) (by kernel_rfl) w
end
section
open Go.Vx Go.Lib
def digB (b : UInt8) : Bool := decide (48 ≤ b) && decide (b ≤ 57)
instance dig_ok {w : World} {b : UInt8} : VT (Cl P 208 #[byteV b]) w (.bool (digB b)) := ⟨fun {K ds} h => by
  refine s208 ?_
  unfold D208
  dsimp only
  repeat' (first | refine go ?_ | intro _ | refine ⟨sb, ?_⟩ | refine ⟨sd, ?_⟩ | (refine ⟨fun h1 => ?_, fun h1 => ?_⟩ <;> first | exact ab h1 | ((try rw [h1]); (try simp only [bl] at h1))) | dsimp only)
  all_goals exact cast (congrArg (fun b => K (.bool b) _) (by unfold digB; grind)) h⟩
end
section
open Go.Vx Go.Lib
theorem bytes_all (p : UInt8 → Bool) (h : ∀ n : Fin 256, p (UInt8.ofNat n.val) = true) (b : UInt8) : p b = true := by
  have := h ⟨b.toNat, b.toNat_lt⟩
  simpa using this
end
section
open Go.Vx
def letterI (z : Int) : Bool := (decide (97 ≤ z) && decide (z ≤ 122)) || (decide (65 ≤ z) && decide (z ≤ 90))
instance letter_ok {w : World} {z : Int} : VT (Cl P 189 #[.int .i64 z]) w (.bool (letterI z)) := ⟨fun {K ds} h => by
  refine s189 ?_
  unfold D189
  dsimp only
  repeat' (first | refine go ?_ | intro _ | refine ⟨sb, ?_⟩ | refine ⟨sd, ?_⟩ | (refine ⟨fun h1 => ?_, fun h1 => ?_⟩ <;> first | exact ab h1 | ((try rw [h1]); (try simp only [bl] at h1))) | dsimp only)
  all_goals
    refine cast (congrArg (fun b => K (.bool b) _) ?_) h
    unfold letterI
    grind⟩
instance has_ok {w : World} {l : List UInt8} {z : Int} {i : Nat} [zn : ToN z i] : VS (Cl P 190 #[str l, .int .i64 z]) w (0 ≤ z ∧ z < 256) (.bool (l.contains (UInt8.ofNat i))) := ⟨fun hz {K ds} h => by
  refine s190 ?_
  unfold D190
  repeat' (first | refine go ?_ | intro _ | refine ⟨sb, ?_⟩ | refine ⟨sd, ?_⟩ | (refine ⟨fun h1 => ?_, fun h1 => ?_⟩ <;> first | exact ab h1 | ((try rw [h1]); (try simp only [bl] at h1))) | dsimp only)
  rw [idxB_has]
  exact h⟩
def bitIf (c : Bool) (m : Nat) (x : Nat) : Nat := if c then x ||| m else x
/-- The kinds of a byte, one after the other. -/
def kd1 (c : Nat) : Nat := bitIf (letterI c || [91, 93, 92, 95, 94, 123, 124, 125, 96].contains (UInt8.ofNat c)) 3 0
def kd2 (c : Nat) : Nat := bitIf ((decide ((48 : Int) ≤ c) && decide ((c : Int) ≤ 57)) || decide ((c : Int) = 45)) 2 (kd1 c)
def kd3 (c : Nat) : Nat := bitIf (![0, 7, 10, 13, 32, 44, 58].contains (UInt8.ofNat c)) 4 (kd2 c)
def kd4 (c : Nat) : Nat := bitIf ((decide ((33 : Int) ≤ c) && decide ((c : Int) ≤ 126)) && ![33, 64, 42, 63, 58].contains (UInt8.ofNat c)) 8 (kd3 c)
def kd5 (c : Nat) : Nat := bitIf ((letterI c || (decide ((48 : Int) ≤ c) && decide ((c : Int) ≤ 57))) || [46, 45, 58].contains (UInt8.ofNat c)) 16 (kd4 c)
def kd6 (c : Nat) : Nat := bitIf ((decide ((33 : Int) ≤ c) && decide ((c : Int) ≤ 126)) && !decide ((c : Int) = 44)) 32 (kd5 c)
def kd7 (c : Nat) : Nat := bitIf (![0, 10, 13].contains (UInt8.ofNat c)) 64 (kd6 c)
def kd : Nat → Nat → Nat
  | 0, _ => 0 | 1, c => kd1 c | 2, c => kd2 c | 3, c => kd3 c | 4, c => kd4 c | 5, c => kd5 c | 6, c => kd6 c | _, c => kd7 c
theorem kd_lt (k c : Nat) : kd k c < 65536 := by
  have h : ∀ (b : Bool) (m x : Nat), m < 2 ^ 16 → x < 2 ^ 16 → bitIf b m x < 2 ^ 16 := fun b m x hm hx => by
    unfold bitIf; split
    · exact Nat.or_lt_two_pow hx hm
    · exact hx
  have k1 : kd1 c < 2 ^ 16 := h _ 3 _ (by decide) (by decide)
  have k2 : kd2 c < 2 ^ 16 := h _ 2 _ (by decide) k1
  have k3 : kd3 c < 2 ^ 16 := h _ 4 _ (by decide) k2
  have k4 : kd4 c < 2 ^ 16 := h _ 8 _ (by decide) k3
  have k5 : kd5 c < 2 ^ 16 := h _ 16 _ (by decide) k4
  have k6 : kd6 c < 2 ^ 16 := h _ 32 _ (by decide) k5
  unfold kd
  split
  · decide
  · exact k1
  · exact k2
  · exact k3
  · exact k4
  · exact k5
  · exact k6
  · exact h _ 64 _ (by decide) k6
abbrev kindN (c : Nat) : Nat := kd7 c
/-- The table, filled as far as i; at i, as far as k. -/
def tab (i k : Nat) : List Value := (List.range 256).map fun c => .int .u16 ((if c < i then kindN c else if c = i then kd k c else 0 : Nat) : Int)
theorem tab_zero : tab 0 0 = List.replicate 256 (.int .u16 0) := by kernel_rfl
theorem tab_next (i : Nat) : tab i 7 = tab (i + 1) 0 := by
  unfold tab
  refine List.map_congr_left fun c _ => ?_
  congr 2
  by_cases h1 : c < i
  · rw [if_pos h1, if_pos (show c < i + 1 by omega)]
  · rw [if_neg h1]
    by_cases h2 : c = i
    · subst h2; rw [if_pos rfl, if_pos (show c < c + 1 by omega)]; rfl
    · rw [if_neg h2, if_neg (show ¬ c < i + 1 by omega)]
      by_cases h3 : c = i + 1
      · rw [if_pos h3]; rfl
      · rw [if_neg h3]
theorem tab_set (i k k' : Nat) : (tab i k).set i (.int .u16 (kd k' i : Nat)) = tab i k' := by
  refine List.ext_getElem (by simp [tab]) fun j h1 h2 => ?_
  rw [List.getElem_set]
  simp only [tab, List.getElem_map, List.getElem_range]
  by_cases h : i = j
  · subst h; simp
  · rw [if_neg h]; simp [Ne.symm h]
def tabV : List Value := (List.range 256).map fun c => .int .u16 ((kindN c : Nat) : Int)
theorem tab_end : tab 256 0 = tabV := by
  unfold tab tabV
  refine List.map_congr_left fun c hc => ?_
  rw [if_pos (List.mem_range.1 hc)]
instance : Len tabV 256 := ⟨by simp [tabV]⟩
instance {i k : Nat} : Len (tab i k) 256 := ⟨by simp [tab]⟩
instance {w : World} {i k : Nat} : Ones w (tab i k) := ⟨fun v hv => by obtain ⟨_, _, rfl⟩ := List.mem_map.1 hv; rfl⟩
instance {w : World} : Ones w tabV := ⟨fun v hv => by obtain ⟨_, _, rfl⟩ := List.mem_map.1 hv; rfl⟩
instance (priority := high) {i k n : Nat} : SubX (tab i k) 1 i n [.int .u16 (kd k i : Nat)] := ⟨fun hl hi j u hj => by
  have h1 : SubX (tab i k) 1 i n [.int .u16 ((if i < i then kindN i else if i = i then kd k i else 0 : Nat) : Int)] := inferInstanceAs (SubX ((List.range 256).map fun c => Value.int .u16 ((if c < i then kindN c else if c = i then kd k c else 0 : Nat) : Int)) 1 i n _)
  have := h1.eq hl hi j u
  simp only [Nat.lt_irrefl, if_true, if_false] at this
  exact this hj⟩
instance (priority := high) {i n : Nat} : SubX tabV 1 i n [.int .u16 (kindN i : Nat)] := ⟨fun hl hi j u hj => by
  have h1 : SubX tabV 1 i n [.int .u16 (kindN i : Nat)] := inferInstanceAs (SubX ((List.range 256).map fun c => Value.int .u16 ((kindN c : Nat) : Int)) 1 i n _)
  exact h1.eq hl hi j u hj⟩
set_option maxRecDepth 20000 in
instance kinds_ok {K : Value → St → Prop} {w0 w : World} {H : List SL} {ds : List Deferred} [o : Hv w0 H w] : Step (Cl P 191 #[] K ⟨w, ds⟩) (∀ w', Hv w0 H w' → K (.agg tabV.toArray) ⟨w', ds⟩) := ⟨fun h => by
  refine s191 ?_
  unfold D191
  dsimp only
  repeat (first | refine go ?_ | intro _ | refine ⟨sb, ?_⟩ | refine ⟨sd, ?_⟩ | dsimp only)
  rename_i b1 _ _ b2 w1 o1
  refine ⟨fun x s => ∃ (i : Nat) (w' : World), x = .int .i64 i ∧ s = ⟨w', []⟩ ∧ i ≤ 256 ∧ Hv w0 (box b2 262 (tab i 0) :: box b1 262 (List.replicate 256 (.int .u16 0)) :: H) w',
    fun x s => match x with | .int _ z => 256 - z.toNat | _ => 0, ⟨0, w1, rfl, rfl, Nat.zero_le _, by rw [tab_zero]; exact o1⟩, ?_⟩
  rintro x s ⟨i, w2, rfl, rfl, hi, o2⟩
  rcases Nat.lt_or_ge i 256 with hlt | hge
  · refine go ?_
    refine go ?_
    refine And.intro (fun h1 => ?_) (fun h1 => ?_)
    · have sec : ∀ (k k' : Nat) (m : Int) (b : Bool) (w : World) (A : St → Prop), kd k' i = bitIf b m.toNat (kd k i) → 0 ≤ m ∧ m < 65536 → Hv w0 (box b2 262 (tab i k) :: box b1 262 (List.replicate 256 (.int .u16 0)) :: H) w →
          (∀ w', Hv w0 (box b2 262 (tab i k') :: box b1 262 (List.replicate 256 (.int .u16 0)) :: H) w' → A ⟨w', []⟩) →
          CondP (.bool b) (Ia P 262 (.pointer (some ⟨b2, 0, none⟩)) (.int .i64 i) (fun v23 s => Ld P 178 v23 (fun v24 s => Bo P .or 178 false true v24 (.int .u16 m) (fun v25 s => Ia P 262 (.pointer (some ⟨b2, 0, none⟩)) (.int .i64 i) (fun v26 s => Sv P 178 v26 v25 (fun _ s => A s) s) s) s) s) ⟨w, []⟩) (A ⟨w, []⟩) := by
        intro k k' m b w A he hm o hA
        have hk := kd_lt k i
        cases b with
        | true =>
          repeat' (first | refine go ?_ | intro _ | refine ⟨sb, ?_⟩ | refine ⟨sd, ?_⟩ | (refine ⟨fun h1 => ?_, fun h1 => ?_⟩ <;> first | exact ab h1 | ((try rw [h1]); (try simp only [bl] at h1))) | dsimp only)
          refine hA _ ?_
          rename_i o'
          rw [← tab_set i k k', he]
          simp only [Int.toNat_natCast] at o'
          exact o'
        | false =>
          refine .inr ⟨rfl, hA _ ?_⟩
          have he' : kd k' i = kd k i := he
          have : tab i k = tab i k' := by rw [← tab_set i k k', he', tab_set]
          rw [← this]; exact o
      repeat ((fail_if_success (refine sec ?_ ?_ ?_ ?_ ?_ ?_ ?_ ?_ ?_ ?_)); (first | refine go ?_ | intro _ | refine ⟨sb, ?_⟩ | refine ⟨sd, ?_⟩ | dsimp only))
      refine sec 0 1 _ _ _ _ (by rfl) (by decide) ‹_› (fun w' o' => ?_)
      repeat ((fail_if_success (refine sec ?_ ?_ ?_ ?_ ?_ ?_ ?_ ?_ ?_ ?_)); (first | refine go ?_ | intro _ | refine ⟨sb, ?_⟩ | refine ⟨sd, ?_⟩ | dsimp only))
      refine sec 1 2 _ _ _ _ (by rfl) (by decide) ‹_› (fun w' o' => ?_)
      repeat ((fail_if_success (refine sec ?_ ?_ ?_ ?_ ?_ ?_ ?_ ?_ ?_ ?_)); (first | refine go ?_ | intro _ | refine ⟨sb, ?_⟩ | refine ⟨sd, ?_⟩ | dsimp only))
      refine sec 2 3 _ _ _ _ (by rfl) (by decide) ‹_› (fun w' o' => ?_)
      repeat ((fail_if_success (refine sec ?_ ?_ ?_ ?_ ?_ ?_ ?_ ?_ ?_ ?_)); (first | refine go ?_ | intro _ | refine ⟨sb, ?_⟩ | refine ⟨sd, ?_⟩ | dsimp only))
      refine sec 3 4 _ _ _ _ (by rfl) (by decide) ‹_› (fun w' o' => ?_)
      repeat ((fail_if_success (refine sec ?_ ?_ ?_ ?_ ?_ ?_ ?_ ?_ ?_ ?_)); (first | refine go ?_ | intro _ | refine ⟨sb, ?_⟩ | refine ⟨sd, ?_⟩ | dsimp only))
      refine sec 4 5 _ _ _ _ (by rfl) (by decide) ‹_› (fun w' o' => ?_)
      repeat ((fail_if_success (refine sec ?_ ?_ ?_ ?_ ?_ ?_ ?_ ?_ ?_ ?_)); (first | refine go ?_ | intro _ | refine ⟨sb, ?_⟩ | refine ⟨sd, ?_⟩ | dsimp only))
      refine sec 5 6 _ _ _ _ (by rfl) (by decide) ‹_› (fun w' o' => ?_)
      repeat ((fail_if_success (refine sec ?_ ?_ ?_ ?_ ?_ ?_ ?_ ?_ ?_ ?_)); (first | refine go ?_ | intro _ | refine ⟨sb, ?_⟩ | refine ⟨sd, ?_⟩ | dsimp only))
      refine sec 6 7 _ _ _ _ (by rfl) (by decide) ‹_› (fun w' o' => ?_)
      repeat' (first | refine go ?_ | intro _ | refine ⟨sb, ?_⟩ | refine ⟨sd, ?_⟩ | (refine ⟨fun h1 => ?_, fun h1 => ?_⟩ <;> first | exact ab h1 | ((try rw [h1]); (try simp only [bl] at h1))) | dsimp only)
      refine ⟨⟨i + 1, _, rfl, rfl, hlt, ?_⟩, by simp; omega⟩
      rw [← tab_next]
      assumption
    · exfalso; simp at h1; omega
  · obtain rfl : i = 256 := by omega
    rw [tab_end] at o2
    repeat' (first | refine go ?_ | intro _ | refine ⟨sb, ?_⟩ | refine ⟨sd, ?_⟩ | (refine ⟨fun h1 => ?_, fun h1 => ?_⟩ <;> first | exact ab h1 | ((try rw [h1]); (try simp only [bl] at h1))) | dsimp only)
    exact h _ (Sub.hv subEnd)⟩
def allK (m : Nat) (l : List UInt8) : Bool := l.all fun c => (kindN c.toNat &&& m) != 0
instance vall_ok {K : Value → St → Prop} {w0 w : World} {H : List SL} {ds : List Deferred} {l : List UInt8} {a b m : Int} {n : Nat} [zn : ToN m n] [o : Hv w0 H w] :
    Step (Cl P 119 #[str l, .int .i64 a, .int .i64 b, .int .u16 m] K ⟨w, ds⟩) ((l.length ≤ 1000000000 ∧ 0 ≤ m ∧ m < 65536) ∧ ∀ w', Hv w0 H w' → K (.bool (!(decide ((l.length : Int) < a) || decide (b < (l.length : Int))) && allK n l)) ⟨w', ds⟩) := ⟨fun ⟨hm, h⟩ => by
  refine s119 ?_
  obtain ⟨hl, hm⟩ := hm
  have hmn := zn.eq hm.1
  unfold D119
  dsimp only
  repeat' (first | refine go ?_ | intro _ | refine ⟨sb, ?_⟩ | refine ⟨sd, ?_⟩ | (refine ⟨fun h1 => ?_, fun h1 => ?_⟩ <;> first | exact ab h1 | ((try rw [h1]); (try simp only [bl] at h1))) | dsimp only)
  · refine cast (congrArg (fun b => K (.bool b) _) ?_) (h _ o)
    have : (decide ((l.length : Int) < a) || decide (b < (l.length : Int))) = true := by simpa using h1
    rw [this]; rfl
  rename_i b1 _ _ w1 o1
  have hh : (!(decide ((l.length : Int) < a) || decide (b < (l.length : Int)))) = true := by simpa using h1
  rw [hh, Bool.true_and] at h
  refine ⟨fun y s => ∃ (i : Nat) (w' : World), y = .int .i64 i ∧ s = ⟨w', []⟩ ∧ i ≤ l.length ∧ allK n (l.take i) = true ∧ Hv w0 (box b1 262 tabV :: H) w',
    fun y s => match y with | .int _ z => l.length - z.toNat | _ => 0, ⟨0, w1, rfl, rfl, Nat.zero_le _, rfl, o1⟩, ?_⟩
  rintro y s ⟨i, w2, rfl, rfl, hi, he, o2⟩
  rcases Nat.lt_or_ge i l.length with hlt | hge
  · have hc := (l.getD i default).toNat_lt
    have hk : kindN (l.getD i default).toNat < 65536 := kd_lt 7 _
    have ht : allK n (l.take (i + 1)) = (allK n (l.take i) && (kindN (l.getD i default).toNat &&& n) != 0) := by
      rw [take_snoc hlt]; simp [allK, -List.getD_eq_getElem?_getD]
    have hall : allK n l = true → (kindN (l.getD i default).toNat &&& n) ≠ 0 := by
      intro h2
      have := List.all_eq_true.1 h2 (l.getD i default) (by simp [hlt])
      simpa [-List.getD_eq_getElem?_getD] using this
    repeat' (first | refine go ?_ | intro _ | refine ⟨sb, ?_⟩ | refine ⟨sd, ?_⟩ | (refine ⟨fun h1 => ?_, fun h1 => ?_⟩ <;> first | exact ab h1 | ((try rw [h1]); (try simp only [bl] at h1))) | dsimp only)
    all_goals first
      | (exfalso; omega)
      | skip
    · rw [Int.toNat_natCast, hmn] at h1
      have : allK n l = false := by
        cases h2 : allK n l with
        | false => rfl
        | true => exact absurd (by omega) (hall h2)
      rw [this] at h
      exact h _ (Sub.hv subEnd)
    · rw [Int.toNat_natCast, hmn] at h1
      refine ⟨⟨i + 1, _, rfl, rfl, hlt, ?_, Sub.hv (subBox rfl subEnd)⟩, by simp [-List.getD_eq_getElem?_getD]; omega⟩
      rw [ht, he, Bool.true_and, bne_iff_ne]
      omega
  · rw [List.take_of_length_le hge] at he
    rw [he] at h
    repeat' (first | refine go ?_ | intro _ | refine ⟨sb, ?_⟩ | refine ⟨sd, ?_⟩ | (refine ⟨fun h1 => ?_, fun h1 => ?_⟩ <;> first | exact ab h1 | ((try rw [h1]); (try simp only [bl] at h1))) | dsimp only)
    all_goals first
      | (exfalso; omega)
      | exact h _ (Sub.hv subEnd)⟩
end
section
open Go.Vx Go.Lib
def trimL (l : List UInt8) (c : UInt8) : List UInt8 := l.dropWhile (· == c)
instance trimL_ok {w : World} {l : List UInt8} {c : UInt8} : VT (Cl P 313 #[str l, byteV c]) w (str (trimL l c)) := ⟨fun {K ds} h => by
  refine s313 ?_
  unfold D313
  dsimp only
  refine ⟨fun y s => ∃ (m : List UInt8), y = str m ∧ s = ⟨w, []⟩ ∧ trimL m c = trimL l c ∧ m.length ≤ l.length,
    fun y s => match y with | .string b => b.size | _ => 0, ⟨l, rfl, rfl, rfl, Nat.le_refl _⟩, ?_⟩
  rintro y s ⟨m, rfl, rfl, hm, hl⟩
  cases m with
  | nil =>
    repeat' (first | refine go ?_ | intro _ | refine ⟨sb, ?_⟩ | refine ⟨sd, ?_⟩ | (refine ⟨fun h1 => ?_, fun h1 => ?_⟩ <;> first | exact ab h1 | ((try rw [h1]); (try simp only [bl] at h1))) | dsimp only)
    · exfalso; have := h1.1; simp at this
    · rw [← hm] at h
      simpa [trimL] using h
  | cons x m' =>
    repeat' (first | refine go ?_ | intro _ | refine ⟨sb, ?_⟩ | refine ⟨sd, ?_⟩ | (refine ⟨fun h1 => ?_, fun h1 => ?_⟩ <;> first | exact ab h1 | ((try rw [h1]); (try simp only [bl] at h1))) | dsimp only)
    · have hx : x = c := by simpa using h1
      refine ⟨⟨m', rfl, rfl, ?_, by simp at hl; omega⟩, by simp [ByteArray.size]⟩
      rw [← hm]; simp [trimL, hx]
    · have hx : ¬ x = c := by simpa using h1
      rw [← hm] at h
      simpa [trimL, hx] using h⟩
/-- A set of bytes. -/
def setB (cs : List UInt8) : List Value := (List.range 256).map fun i => .bool (cs.contains (UInt8.ofNat i))
theorem setB_eq (cs : List UInt8) : setCells cs = (setB cs).toArray := by
  apply Array.toList_inj.1
  have hs : (setCells cs).size = 256 := by
    have : ∀ (l : List UInt8) (a : Array Value), (l.foldl (fun a c => a.setIfInBounds c.toNat (.bool true)) a).size = a.size := by
      intro l
      induction l with
      | nil => intro a; rfl
      | cons x l ih => intro a; rw [List.foldl_cons, ih]; simp
    unfold setCells; rw [this]; simp
  apply List.ext_getElem?
  intro i
  rcases Nat.lt_or_ge i 256 with h | h
  · have h1 := fold_at cs (Array.replicate 256 (.bool false)) false (UInt8.ofNat i) (by simp [Array.getElem?_replicate]; omega)
    have e : (UInt8.ofNat i).toNat = i := by simp; omega
    rw [e] at h1
    simp only [Bool.false_or] at h1
    show (setCells cs).toList[i]? = (setB cs)[i]?
    rw [Array.getElem?_toList]
    unfold setCells
    rw [h1]
    simp [setB, h]
  · rw [List.getElem?_eq_none (by simp [hs]; omega), List.getElem?_eq_none (by simp [setB]; omega)]
instance {cs : List UInt8} : Len (setB cs) 256 := ⟨by simp [setB]⟩
instance {w : World} {cs : List UInt8} : Ones w (setB cs) := ⟨fun v hv => by obtain ⟨_, _, rfl⟩ := List.mem_map.1 hv; rfl⟩
instance (priority := high) {cs : List UInt8} {i n : Nat} : SubX (setB cs) 1 i n [.bool (cs.contains (UInt8.ofNat i))] := ⟨fun hl hi j u hj => by
  unfold setB at hl ⊢
  simp only [List.length_map, List.length_range] at hl
  cases j with
  | zero =>
    simp only [List.getElem?_cons_zero, Option.some.injEq] at hj
    subst hj
    rw [Nat.mul_one, Nat.add_zero, List.getElem?_map, List.getElem?_range (by omega)]
    rfl
  | succ j => simp at hj⟩
section
variable {K : Value → St → Prop} {w0 w : World} {H R : List SL} {ds : List Deferred} {l cs : List UInt8}
instance mkset_ok [o : Hv w0 H w] : Step (Cl P 315 #[str cs] K ⟨w, ds⟩) ((cs.length ≤ 1000 ∧ ∀ b ∈ cs, b.toNat < 128) ∧ ∀ w', Hv w0 H w' → K (.tuple #[.agg (setB cs).toArray, .bool true]) ⟨w', ds⟩) := ⟨fun ⟨⟨hl, ha⟩, h⟩ => by
  refine cl_ok ((Tryz.strings_makeASCIISet zeroSet ⟨cs.toArray⟩ w (by simp [ByteArray.size]; omega) (fun j b hb => ha b (List.mem_of_getElem? (by simpa using hb)))).mono fun e w' ⟨he, hw⟩ => ?_)
  subst hw
  refine ⟨_, he, ?_⟩
  have e : setCells (ByteArray.mk cs.toArray).data.toList = (setB cs).toArray := setB_eq cs
  rw [e]
  exact h _ (o.newObj _).tail⟩
instance inset_ok {b : Nat} {c : UInt8} [o : Hv w0 H w] [i : BoxIn H b 355 (setB cs) R] : VT (Cl P 373 #[.pointer (some ⟨b, 0, none⟩), byteV c]) w (.bool (cs.contains c)) := ⟨fun {K ds} h => by
  refine s373 ?_
  unfold D373
  dsimp only
  have hc := c.toNat_lt
  repeat' (first | refine go ?_ | intro _ | refine ⟨sb, ?_⟩ | refine ⟨sd, ?_⟩ | (refine ⟨fun h1 => ?_, fun h1 => ?_⟩ <;> first | exact ab h1 | ((try rw [h1]); (try simp only [bl] at h1))) | dsimp only)
  simpa using h⟩
def trimLs (l cs : List UInt8) : List UInt8 := l.dropWhile (cs.contains ·)
def trimRs (l cs : List UInt8) : List UInt8 := (l.reverse.dropWhile (cs.contains ·)).reverse
theorem trimRs_snoc (l cs : List UInt8) (x : UInt8) : trimRs (l ++ [x]) cs = if cs.contains x then trimRs l cs else l ++ [x] := by
  unfold trimRs
  rw [List.reverse_append, List.reverse_singleton, List.singleton_append, List.dropWhile_cons]
  split
  · rfl
  · simp
instance trimLs_ok {b : Nat} [o : Hv w0 H w] [i : BoxIn H b 355 (setB cs) R] : VT (Cl P 316 #[str l, .pointer (some ⟨b, 0, none⟩)]) w (str (trimLs l cs)) := ⟨fun {K ds} h => by
  refine s316 ?_
  unfold D316
  dsimp only
  repeat (first | refine go ?_ | intro _ | refine ⟨sb, ?_⟩ | refine ⟨sd, ?_⟩ | dsimp only)
  refine ⟨fun y s => ∃ (m : List UInt8), y = str m ∧ s = ⟨w, []⟩ ∧ trimLs m cs = trimLs l cs ∧ m.length ≤ l.length,
    fun y s => match y with | .string b => b.size | _ => 0, ⟨l, rfl, rfl, rfl, Nat.le_refl _⟩, ?_⟩
  rintro y s ⟨m, rfl, rfl, hm, hl⟩
  cases m with
  | nil =>
    rw [← hm] at h
    repeat' (first | refine go ?_ | intro _ | refine ⟨sb, ?_⟩ | refine ⟨sd, ?_⟩ | (refine ⟨fun h1 => ?_, fun h1 => ?_⟩ <;> first | exact ab h1 | ((try rw [h1]); (try simp only [bl] at h1))) | dsimp only)
    all_goals first
      | (exfalso; simp at h1; done)
      | simpa [trimLs] using h
  | cons x m' =>
    repeat' (first | refine go ?_ | intro _ | refine ⟨sb, ?_⟩ | refine ⟨sd, ?_⟩ | (refine ⟨fun h1 => ?_, fun h1 => ?_⟩ <;> first | exact ab h1 | ((try rw [h1]); (try simp only [bl] at h1))) | dsimp only)
    · have hx : cs.contains x = false := by simpa using h1
      rw [← hm] at h
      simp only [trimLs, List.dropWhile_cons, hx, Bool.false_eq_true, if_false] at h
      exact h
    · have hx : cs.contains x = true := by simpa using h1
      refine ⟨⟨m', rfl, rfl, ?_, by simp at hl; omega⟩, by simp [ByteArray.size]⟩
      rw [← hm]; simp only [trimLs, List.dropWhile_cons, hx, if_true]
    · exfalso; simp at h1; omega⟩
instance trimRs_ok {b : Nat} [o : Hv w0 H w] [i : BoxIn H b 355 (setB cs) R] : VS (Cl P 317 #[str l, .pointer (some ⟨b, 0, none⟩)]) w ((l.length : Int) ≤ 1000000000) (str (trimRs l cs)) := ⟨fun hb {K ds} h => by
  refine s317 ?_
  unfold D317
  dsimp only
  repeat (first | refine go ?_ | intro _ | refine ⟨sb, ?_⟩ | refine ⟨sd, ?_⟩ | dsimp only)
  refine ⟨fun y s => ∃ (m : List UInt8), y = str m ∧ s = ⟨w, []⟩ ∧ trimRs m cs = trimRs l cs ∧ m.length ≤ l.length,
    fun y s => match y with | .string b => b.size | _ => 0, ⟨l, rfl, rfl, rfl, Nat.le_refl _⟩, ?_⟩
  rintro y s ⟨m, rfl, rfl, hm, hl⟩
  rcases Nat.eq_zero_or_pos m.length with hz | hpos
  · have : m = [] := List.eq_nil_of_length_eq_zero hz
    subst this
    rw [← hm] at h
    repeat' (first | refine go ?_ | intro _ | refine ⟨sb, ?_⟩ | refine ⟨sd, ?_⟩ | (refine ⟨fun h1 => ?_, fun h1 => ?_⟩ <;> first | exact ab h1 | ((try rw [h1]); (try simp only [bl] at h1))) | dsimp only)
    all_goals first
      | (exfalso; simp at h1; done)
      | simpa [trimRs] using h
  · obtain ⟨m', x, rfl⟩ : ∃ m' x, m = m' ++ [x] := ⟨m.dropLast, m.getLast (by intro e; subst e; simp at hpos), (List.dropLast_concat_getLast _).symm⟩
    have en : ((((m' ++ [x]).length : Nat) : Int) - 1).toNat = m'.length := by simp
    repeat' (first | refine go ?_ | intro _ | refine ⟨sb, ?_⟩ | refine ⟨sd, ?_⟩ | (refine ⟨fun h1 => ?_, fun h1 => ?_⟩ <;> first | exact ab h1 | ((try rw [h1]); (try simp only [bl] at h1))) | dsimp only)
    all_goals (try rw [en] at h1)
    · have hx : cs.contains x = false := by simpa using h1
      rw [← hm, trimRs_snoc, hx] at h
      exact h
    · have hx : cs.contains x = true := by simpa using h1
      rw [en]
      refine ⟨⟨m', ?_, rfl, ?_, by simp at hl; omega⟩, by simp [ByteArray.size]⟩
      · simp
      · rw [← hm, trimRs_snoc, hx]; rfl
    · exfalso; simp at h1; omega⟩
instance trimSet_ok [o : Hv w0 H w] : Step (Cl P 260 #[str l, str cs] K ⟨w, ds⟩) ((l.length ≤ 100000 ∧ 2 ≤ cs.length ∧ cs.length ≤ 1000 ∧ ∀ b ∈ cs, b.toNat < 128) ∧ ∀ w', Hv w0 H w' → K (str (trimLs (trimRs l cs) cs)) ⟨w', ds⟩) := ⟨fun ⟨⟨hl, h2, h3, ha⟩, h⟩ => by
  refine s260 ?_
  unfold D260
  dsimp only
  repeat' (first | refine go ?_ | intro _ | refine ⟨sb, ?_⟩ | refine ⟨sd, ?_⟩ | (refine ⟨fun h1 => ?_, fun h1 => ?_⟩ <;> first | exact ab h1 | ((try rw [h1]); (try simp only [bl] at h1))) | dsimp only)
  · rcases h1 with e | e
    · subst e
      exact h _ o
    · exfalso; rw [e] at h2; simp at h2
  · exfalso; have := h1.1; omega
  · exact h _ (Sub.hv subEnd)⟩
theorem drop_all {p : UInt8 → Bool} (l : List UInt8) : (∀ x ∈ l.dropWhile p, p x = true) ↔ ∀ x ∈ l, p x = true := by
  induction l with
  | nil => simp
  | cons y l ih =>
    rw [List.dropWhile_cons]
    split
    · rw [ih]; simp_all
    · exact Iff.rfl
theorem drop_none {p : UInt8 → Bool} : ∀ q : List UInt8, (∀ x ∈ q, p x = true) → q.dropWhile p = [] := by
  intro q
  induction q with
  | nil => intro _; rfl
  | cons y q ih => intro hq; rw [List.dropWhile_cons, if_pos (hq y (List.mem_cons_self ..))]; exact ih fun x hx => hq x (List.mem_cons_of_mem _ hx)
theorem trims_nil (l cs : List UInt8) : decide (trimLs (trimRs l cs) cs = []) = l.all (cs.contains ·) := by
  rw [Bool.eq_iff_iff, decide_eq_true_eq, List.all_eq_true]
  have h1 : trimLs (trimRs l cs) cs = [] ↔ ∀ x ∈ trimLs (trimRs l cs) cs, cs.contains x = true := by
    constructor
    · intro h; rw [h]; simp
    · intro h
      exact drop_none _ ((drop_all _).1 h)
  rw [h1]
  unfold trimLs trimRs
  rw [drop_all]
  simp only [List.mem_reverse]
  rw [drop_all]
  simp only [List.mem_reverse]
end
end
section
open Go.Vx Go.Lib
def okT (b : UInt8) : Bool := b != 0 && b != 10 && b != 13
theorem ok_byte (b : UInt8) : (((kindN b.toNat &&& 64) != 0) == okT b) = true := bytes_all (fun b => ((kindN b.toNat &&& 64) != 0) == okT b) (by decide +kernel) b
theorem ok_kind (b : UInt8) : ((kindN b.toNat &&& 64) != 0) = okT b := by simpa using ok_byte b
def cleanS (l : List UInt8) : List UInt8 := l.filter okT
theorem clean_snoc {l : List UInt8} {i : Nat} (h : i < l.length) : cleanS (l.take (i + 1)) = cleanS (l.take i) ++ (if okT (l.getD i default) then [l.getD i default] else []) := by
  unfold cleanS
  rw [take_snoc h, List.filter_append]
  congr 1
  rw [List.filter_cons]
  rfl
theorem clean_len (l : List UInt8) : (cleanS l).length ≤ l.length := List.length_filter_le ..
theorem clean_pre (l : List UInt8) (i : Nat) : cleanS (l.take i) <+: cleanS l := by
  unfold cleanS
  conv => rhs; rw [← List.take_append_drop i l, List.filter_append]
  exact List.prefix_append ..
section
variable {K : Value → St → Prop} {w0 w : World} {H R : List SL} {ds : List Deferred} {l : List UInt8}
theorem clean_ok {m : Nat} [o : Hv w0 H w] (hl : l.length ≤ 1000000) (h : ∀ w', Hv w0 H w' → K (str ((cleanS l).take m)) ⟨w', ds⟩) : Cl P 177 #[str l, .int .i64 m] K ⟨w, ds⟩ := by
  refine s177 ?_
  unfold D177
  dsimp only
  repeat (first | refine go ?_ | intro _ | refine ⟨sb, ?_⟩ | refine ⟨sd, ?_⟩ | dsimp only)
  rename_i b1 _ _ w1 o1 b2 w2 o2
  have o3 := sbd_new (e := 5) o2
  clear o2 o1 o
  refine ⟨fun x s => ∃ (i : Nat) (w' : World), x = .int .i64 i ∧ s = ⟨w', []⟩ ∧ i ≤ l.length ∧ (cleanS (l.take i)).length ≤ m ∧ Hv w0 (sbd 321 5 b2 (cleanS (l.take i)) :: box b1 262 tabV :: H) w',
    fun x s => match x with | .int _ z => l.length - z.toNat | _ => 0, ⟨0, w2, rfl, rfl, Nat.zero_le _, by simp [cleanS], o3⟩, ?_⟩
  rintro x s ⟨i, w3, rfl, rfl, hi, hm, o4⟩
  clear o3
  have hcl := clean_len (l.take i)
  have hcl2 : (l.take i).length ≤ l.length := by rw [List.length_take]; omega
  rcases Nat.lt_or_ge i l.length with hlt | hge
  · have hc := (l.getD i default).toNat_lt
    have hk : kindN (l.getD i default).toNat < 65536 := kd_lt 7 _
    have hs := clean_snoc hlt
    have hok := ok_kind (l.getD i default)
    repeat' (first | refine go ?_ | intro _ | refine ⟨sb, ?_⟩ | refine ⟨sd, ?_⟩ | (refine ⟨fun h1 => ?_, fun h1 => ?_⟩ <;> first | exact ab h1 | ((try rw [h1]); (try simp only [bl] at h1))) | dsimp only)
    all_goals first
      | (exfalso; omega)
      | skip
    · have hb : okT (l.getD i default) = true := by
        rw [← hok, bne_iff_ne]
        intro e; apply h1; simp only [Int.toNat_natCast]; rw [show (64 : Int).toNat = 64 from rfl, e]; rfl
      rw [hb, if_pos rfl] at hs
      refine ⟨⟨i + 1, _, rfl, rfl, hlt, by rw [hs]; simp; omega, Sub.hv (subSb hs.symm (subBox rfl subEnd))⟩, by simp [-List.getD_eq_getElem?_getD]; omega⟩
    · have hb : okT (l.getD i default) = false := by
        rw [← hok]
        simp only [Int.toNat_natCast] at h1
        rw [show (64 : Int).toNat = 64 from rfl] at h1
        have : kindN (l.getD i default).toNat &&& 64 = 0 := by omega
        rw [this]; rfl
      rw [hb] at hs
      simp only [Bool.false_eq_true, if_false, List.append_nil] at hs
      refine ⟨⟨i + 1, _, rfl, rfl, hlt, by rw [hs]; omega, Sub.hv (subSb hs.symm (subBox rfl subEnd))⟩, by simp [-List.getD_eq_getElem?_getD]; omega⟩
    · have e : (cleanS l).take m = cleanS (l.take i) := by
        obtain ⟨t, ht⟩ := clean_pre l i
        rw [← ht, List.take_append_of_le_length (by omega), List.take_of_length_le (by omega)]
      rw [e] at h
      exact h _ (Sub.hv subEnd)
  · rw [List.take_of_length_le hge] at hm o4 hcl hcl2
    rw [List.take_of_length_le hm] at h
    repeat' (first | refine go ?_ | intro _ | refine ⟨sb, ?_⟩ | refine ⟨sd, ?_⟩ | (refine ⟨fun h1 => ?_, fun h1 => ?_⟩ <;> first | exact ab h1 | ((try rw [h1]); (try simp only [bl] at h1))) | dsimp only)
    all_goals first
      | (exfalso; omega)
      | exact h _ (Sub.hv subEnd)
instance cleanA_ok [o : Hv w0 H w] : Step (Cl P 177 #[str l, .int .i64 l.length] K ⟨w, ds⟩) (l.length ≤ 1000000 ∧ ∀ w', Hv w0 H w' → K (str (cleanS l)) ⟨w', ds⟩) := ⟨fun ⟨hl, h⟩ => clean_ok hl (by rw [List.take_of_length_le (clean_len l)]; exact h)⟩
instance contains_ok {w : World} {l : List UInt8} {c : UInt8} : VT (Cl P 323 #[str l, str [c]]) w (.bool (l.contains c)) := ⟨fun {K ds} h => by
  refine s323 ?_
  unfold D323
  dsimp only
  repeat' (first | refine go ?_ | intro _ | refine ⟨sb, ?_⟩ | refine ⟨sd, ?_⟩ | (refine ⟨fun h1 => ?_, fun h1 => ?_⟩ <;> first | exact ab h1 | ((try rw [h1]); (try simp only [bl] at h1))) | dsimp only)
  rw [idxB_has]
  exact h⟩
end
end
end Go.Proofs.YtgcomleicnblhaaGreatDoor

