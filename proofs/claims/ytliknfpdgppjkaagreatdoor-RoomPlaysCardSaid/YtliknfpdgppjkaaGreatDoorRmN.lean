import Derived.Test.YtliknfpdgppjkaaGreatDoorRmM
set_option linter.all false
namespace Go.Proofs.YtliknfpdgppjkaaGreatDoor
open Go.Vx Go.Lib
/-! what is done to both -/
section
set_option maxRecDepth 20000
set_option synthInstance.maxSize 100000
set_option synthInstance.maxHeartbeats 4000000
variable {K : Value → St → Prop} {w0 w : World} {H R : List SL} {ds : List Deferred} {l : List UInt8}
instance topic_ok [o : Hv w0 H w] : Step (Cl P 34 #[str l] K ⟨w, ds⟩) (l.length ≤ 1000000 ∧ ∀ w', Hv w0 H w' → K (str ((cleanS l).take 200)) ⟨w', ds⟩) := ⟨fun ⟨hl, h⟩ => by
  refine s34 ?_
  unfold D34
  refine ⟨fun x y s => ∃ (i : Nat) (w' : World), x = str ((cleanS (l.take i)).take 200) ∧ y = .int .i64 i ∧ s = ⟨w', []⟩ ∧ i ≤ l.length ∧ Hv w0 H w', fun _ y s => match y with | .int _ z => l.length - z.toNat | _ => 0, ⟨0, w, rfl, rfl, rfl, Nat.zero_le _, o⟩, ?_⟩
  rintro x y s ⟨i, w2, rfl, rfl, rfl, hi, o2⟩
  clear o
  have hcl : ((cleanS (l.take i)).take 200).length ≤ 200 := by rw [List.length_take]; omega
  rcases Nat.lt_or_ge i l.length with hlt | hge
  · have hsn := clean_snoc hlt
    have hone : (l.take (i + 1)).drop i = [l.getD i default] := one_piece hlt rfl
    have hok : okT (l.getD i default) = true ↔ (¬ l.getD i default = 0 ∧ ¬ l.getD i default = 10) ∧ ¬ l.getD i default = 13 := by simp [okT]
    have hlen : ((cleanS (l.take i)).take 200).length = min 200 (cleanS (l.take i)).length := List.length_take
    repeat' (first | refine go ?_ | intro _ | refine ⟨sb, ?_⟩ | refine ⟨sd, ?_⟩ | (refine ⟨fun h1 => ?_, fun h1 => ?_⟩ <;> first | exact ab h1 | ((try rw [h1]); (try simp only [bl] at h1))) | dsimp only)
    · have hq : okT (l.getD i default) = true ∧ ((cleanS (l.take i)).take 200).length < 200 := by rw [hok]; clear h; grind
      refine ⟨⟨i + 1, _, ?_, rfl, rfl, hlt, o2⟩, by simp; omega⟩
      have e5 : (cleanS (l.take i)).take 200 = cleanS (l.take i) := List.take_of_length_le (by omega)
      have e6 : (cleanS (l.take i) ++ [l.getD i default]).take 200 = cleanS (l.take i) ++ [l.getD i default] := List.take_of_length_le (by rw [List.length_append, List.length_singleton]; omega)
      rw [hone, hsn, if_pos hq.1, e5, e6]
    · refine ⟨⟨i + 1, _, ?_, rfl, rfl, hlt, o2⟩, by simp; omega⟩
      rw [hsn]
      by_cases hq : okT (l.getD i default) = true
      · have h5 : ¬ ((cleanS (l.take i)).take 200).length < 200 := by have := hok.1 hq; clear h; grind
        rw [if_pos hq, List.take_append_of_le_length (by omega)]
      · rw [if_neg hq, List.append_nil]
    · exfalso; omega
  · repeat' (first | refine go ?_ | intro _ | refine ⟨sb, ?_⟩ | refine ⟨sd, ?_⟩ | (refine ⟨fun h1 => ?_, fun h1 => ?_⟩ <;> first | exact ab h1 | ((try rw [h1]); (try simp only [bl] at h1))) | dsimp only)
    · exfalso; omega
    · rw [List.take_of_length_le hge]; exact h _ o2⟩
structure Act where
  (k id : Int)
  op : Bool
  s : List UInt8
  on : Bool
  le : UInt8
  arg : List UInt8
deriving Inhabited
abbrev encA (a : Act) : List Value := [.int .i64 a.k, .int .i64 a.id, .bool a.op, str a.s, .bool a.on, byteV a.le, str a.arg]
instance : UEnc encA 7 := ⟨fun _ => rfl⟩
instance great_ok {v : Value} {n : Nat} {xs : List Value} {as' : List Act} [o : Hv w0 H w] [r : RdsF w0 H v 7 n xs] [e : Encs encA xs as'] : Step (Cl P 8 #[v] K ⟨w, ds⟩) (∀ (b : Bool) w', (b = false → as'.length ≤ 40 ∧ ∀ a ∈ as', a.s.length ≤ 250 ∧ a.arg.length ≤ 250) → Hv w0 H w' → K (.bool b) ⟨w', ds⟩) := ⟨fun h => by
  have rl := r.loc
  have hx := e.eq
  subst hx
  obtain rfl : n = as'.length := by
    have := (r.rd w o).len
    rw [flatMap_len (size := 7) fun _ => rfl] at this
    omega
  refine s8 ?_
  unfold D8
  repeat' (first | refine go ?_ | intro _ | refine ⟨sb, ?_⟩ | refine ⟨sd, ?_⟩ | (refine ⟨fun h1 => ?_, fun h1 => ?_⟩ <;> first | exact ab h1 | ((try rw [h1]); (try simp only [bl] at h1))) | dsimp only)
  · exact h true _ (by simp) o
  refine ⟨fun y s => ∃ (i : Nat) (w' : World), y = .int .i64 i ∧ s = ⟨w', []⟩ ∧ i ≤ as'.length ∧ (∀ a ∈ as'.take i, a.s.length ≤ 250 ∧ a.arg.length ≤ 250) ∧ Hv w0 H w',
    fun y s => match y with | .int _ z => as'.length - z.toNat | _ => 0, ⟨0, w, rfl, rfl, Nat.zero_le _, by simp, o⟩, ?_⟩
  rintro y s ⟨i, w1, rfl, rfl, hi, hp, o2⟩
  clear o
  rcases Nat.lt_or_ge i as'.length with hlt | hge
  · repeat' (first | refine go ?_ | intro _ | refine ⟨sb, ?_⟩ | refine ⟨sd, ?_⟩ | (refine ⟨fun h1 => ?_, fun h1 => ?_⟩ <;> first | exact ab h1 | ((try rw [h1]); (try simp only [bl] at h1))) | dsimp only)
    · exact h true _ (by simp) (Sub.hv subEnd)
    · refine ⟨⟨i + 1, _, rfl, rfl, hlt, fun a ha => ?_, Sub.hv subEnd⟩, by simp; omega⟩
      rw [take_snoc hlt] at ha
      rcases List.mem_append.1 ha with ha | ha
      · exact hp a ha
      · rw [List.mem_singleton.1 ha]; constructor <;> omega
    · exact h true _ (by simp) (Sub.hv subEnd)
    · exfalso; omega
  · rw [List.take_of_length_le hge] at hp
    repeat' (first | refine go ?_ | intro _ | refine ⟨sb, ?_⟩ | refine ⟨sd, ?_⟩ | (refine ⟨fun h1 => ?_, fun h1 => ?_⟩ <;> first | exact ab h1 | ((try rw [h1]); (try simp only [bl] at h1))) | dsimp only)
    · exfalso; omega
    · exact h false _ (fun _ => ⟨by omega, hp⟩) (Sub.hv subEnd)⟩
end
end Go.Proofs.YtliknfpdgppjkaaGreatDoor

