import Derived.Test.YtgcomleicnblhaaGreatDoorKrH
set_option linter.all false
namespace Go.Proofs.YtgcomleicnblhaaGreatDoor
open Go.Vx Go.Lib
/-! a configuration, checked -/
section
set_option maxRecDepth 20000
set_option synthInstance.maxSize 100000
set_option synthInstance.maxHeartbeats 4000000
def lenS (l : List UInt8) (a b : Int) : Bool := !(decide ((l.length : Int) < a) || decide (b < (l.length : Int)))
def hostS (l : List UInt8) : Bool := (lenS l 1 63 && allK 16 l) && !decide (l.getD 0 default = 58)
theorem hostS_pos {l : List UInt8} (h : hostS l = true) : 0 < l.length := by
  simp [hostS, lenS] at h; omega
def serverS (l : List UInt8) : Bool := ((hostS l && letterI (l.getD 0 default).toNat) && l.contains 46) && !l.contains 58
instance host_ok {K : Value → St → Prop} {w0 w : World} {H : List SL} {ds : List Deferred} {l : List UInt8} [o : Hv w0 H w] :
    Step (Cl P 48 #[str l] K ⟨w, ds⟩) (l.length ≤ 1000000000 ∧ ∀ w', Hv w0 H w' → K (.bool (hostS l)) ⟨w', ds⟩) := ⟨fun ⟨hl, h⟩ => by
  refine s48 ?_
  unfold D48
  repeat' (first | refine go ?_ | intro _ | refine ⟨sb, ?_⟩ | refine ⟨sd, ?_⟩ | (refine ⟨fun h1 => ?_, fun h1 => ?_⟩ <;> first | exact ab h1 | ((try rw [h1]); (try simp only [bl] at h1))) | dsimp only)
  exact h _ ‹_›⟩
instance server_ok {K : Value → St → Prop} {w0 w : World} {H : List SL} {ds : List Deferred} {l : List UInt8} [o : Hv w0 H w] :
    Step (Cl P 114 #[str l] K ⟨w, ds⟩) (l.length ≤ 1000000000 ∧ ∀ w', Hv w0 H w' → K (.bool (serverS l)) ⟨w', ds⟩) := ⟨fun ⟨hl, h⟩ => by
  have hp := @hostS_pos l
  refine s114 ?_
  unfold D114
  repeat' (first | refine go ?_ | intro _ | refine ⟨sb, ?_⟩ | refine ⟨sd, ?_⟩ | (refine ⟨fun h1 => ?_, fun h1 => ?_⟩ <;> first | exact ab h1 | ((try rw [h1]); (try simp only [bl] at h1))) | dsimp only)
  refine And.intro (Sd.mk fun hq => ⟨by have := hp hq; omega, trivial⟩) ?_
  repeat' (first | refine go ?_ | intro _ | refine ⟨sb, ?_⟩ | refine ⟨sd, ?_⟩ | (refine ⟨fun h1 => ?_, fun h1 => ?_⟩ <;> first | exact ab h1 | ((try rw [h1]); (try simp only [bl] at h1))) | dsimp only)
  exact h _ ‹_›⟩
def okc (c : UInt8) : Bool := !(decide (c < 33) || decide (126 < c))
def secretS (l : List UInt8) : Bool := !(decide (50 < (l.length : Int)) || (!decide (l = []) && decide (l.getD 0 default = 58))) && l.all okc
instance secret_ok {w : World} {l : List UInt8} : VS (Cl P 115 #[str l]) w (l.length ≤ 1000000000) (.bool (secretS l)) := ⟨fun hl {K ds} h => by
  refine s115 ?_
  unfold D115
  repeat' (first | refine go ?_ | intro _ | refine ⟨sb, ?_⟩ | refine ⟨sd, ?_⟩ | (refine ⟨fun h1 => ?_, fun h1 => ?_⟩ <;> first | exact ab h1 | ((try rw [h1]); (try simp only [bl] at h1))) | dsimp only)
  refine And.intro (Sd.mk ⟨fun _ => trivial, fun _ h => ⟨by simp at h; have := List.length_pos_iff.2 h; omega, trivial⟩⟩) ?_
  cases hh : (decide (50 < (l.length : Int)) || (!decide (l = []) && decide (l.getD 0 default = 58))) with
  | true =>
    repeat' (first | refine go ?_ | intro _ | refine ⟨sb, ?_⟩ | refine ⟨sd, ?_⟩ | (refine ⟨fun h1 => ?_, fun h1 => ?_⟩ <;> first | exact ab h1 | ((try rw [h1]); (try simp only [bl] at h1))) | dsimp only)
    refine cast (congrArg (fun b => K (.bool b) _) ?_) h
    unfold secretS; rw [hh]; rfl
  | false =>
    repeat' (first | refine go ?_ | intro _ | refine ⟨sb, ?_⟩ | refine ⟨sd, ?_⟩ | (refine ⟨fun h1 => ?_, fun h1 => ?_⟩ <;> first | exact ab h1 | ((try rw [h1]); (try simp only [bl] at h1))) | dsimp only)
    have hs : secretS l = l.all okc := by unfold secretS; rw [hh]; rfl
    rw [hs] at h
    refine ⟨fun y s => ∃ (i : Nat), y = .int .i64 i ∧ s = ⟨w, []⟩ ∧ i ≤ l.length ∧ (l.take i).all okc = true,
      fun y s => match y with | .int _ z => l.length - z.toNat | _ => 0, ⟨0, rfl, rfl, Nat.zero_le _, rfl⟩, ?_⟩
    rintro y s ⟨i, rfl, rfl, hi, he⟩
    rcases Nat.lt_or_ge i l.length with hlt | hge
    · repeat' (first | refine go ?_ | intro _ | refine ⟨sb, ?_⟩ | refine ⟨sd, ?_⟩ | (refine ⟨fun h1 => ?_, fun h1 => ?_⟩ <;> first | exact ab h1 | ((try rw [h1]); (try simp only [bl] at h1))) | dsimp only)
      · have hb : okc (l.getD i default) = false := by unfold okc; grind
        rw [all_at hlt hb] at h
        exact h
      · have hb : okc (l.getD i default) = true := by unfold okc; grind
        exact ⟨⟨i + 1, rfl, rfl, hlt, by rw [all_take hlt, he, hb]; rfl⟩, by simp; omega⟩
      · exfalso; revert h1; simp; omega
    · rw [List.take_of_length_le hge] at he
      rw [he] at h
      repeat' (first | refine go ?_ | intro _ | refine ⟨sb, ?_⟩ | refine ⟨sd, ?_⟩ | (refine ⟨fun h1 => ?_, fun h1 => ?_⟩ <;> first | exact ab h1 | ((try rw [h1]); (try simp only [bl] at h1))) | dsimp only)
      all_goals first
        | (exfalso; omega)
        | exact h⟩
abbrev Bnd := Int × Int × Int
abbrev encB (b : Bnd) : List Value := [.int .i64 b.1, .int .i64 b.2.1, .int .i64 b.2.2]
instance : UEnc encB 3 := ⟨fun _ => rfl⟩
def okB (b : Bnd) : Bool := !(decide (b.1 < b.2.1) || decide (b.2.2 < b.1))
def bnds (c : Cfg) : List Bnd := [(c.conns, 1, 1000), (c.send, 512, 65536), (c.joined, 1, 1000), (c.rooms, 1, 1000), (c.bans, 1, 1000), (c.watch, 1, 1000), (c.mon, 1, 1000), (c.was, 0, 1000), (c.ping, 1, 1000000), (c.grace, 1, 1000000), (c.reg, 1, 1000000)]
def badF (c : Cfg) : Bool := ((((!serverS c.name || !secretS c.pass) || !secretS c.opn) || !secretS c.opp) || (decide (c.opn = []) != decide (c.opp = [])))
def checkS (c : Cfg) : Int := if badF c then 4 else if (bnds c).all okB then 0 else 2
theorem ball_take {l : List Bnd} {i : Nat} (h : i < l.length) : (l.take (i + 1)).all okB = ((l.take i).all okB && okB (l.getD i default)) := by
  rw [take_snoc h]; simp [-List.getD_eq_getElem?_getD]
theorem ball_at {l : List Bnd} {i : Nat} (h : i < l.length) (hp : okB (l.getD i default) = false) : l.all okB = false := by
  cases h2 : l.all okB with
  | false => rfl
  | true =>
    have := List.all_eq_true.1 h2 (l.getD i default) (by simp [h])
    rw [hp] at this; cases this
instance check_ok {K : Value → St → Prop} {w0 w : World} {H : List SL} {ds : List Deferred} {a b c d : List UInt8} {n4 n5 n6 n7 n8 n9 n10 n11 n12 n13 n14 : Int} [o : Hv w0 H w] :
    Step (Cl P 41 #[.agg #[str a, str b, str c, str d, .int .i64 n4, .int .i64 n5, .int .i64 n6, .int .i64 n7, .int .i64 n8, .int .i64 n9, .int .i64 n10, .int .i64 n11, .int .i64 n12, .int .i64 n13, .int .i64 n14]] K ⟨w, ds⟩)
      ((a.length ≤ 1000000000 ∧ b.length ≤ 1000000000 ∧ c.length ≤ 1000000000 ∧ d.length ≤ 1000000000) ∧ ∀ w', Hv w0 H w' → K (.int .i64 (checkS ⟨a, b, c, d, n4, n5, n6, n7, n8, n9, n10, n11, n12, n13, n14⟩)) ⟨w', ds⟩) := ⟨fun ⟨⟨ha, hb, hc, hd⟩, h⟩ => by
  refine s41 ?_
  unfold D41
  repeat' (first | refine go ?_ | intro _ | refine ⟨sb, ?_⟩ | refine ⟨sd, ?_⟩ | (refine ⟨fun h1 => ?_, fun h1 => ?_⟩ <;> first | exact ab h1 | ((try rw [h1]); (try simp only [bl] at h1))) | dsimp only)
  · have hb : badF ⟨a, b, c, d, n4, n5, n6, n7, n8, n9, n10, n11, n12, n13, n14⟩ = true := by unfold badF; dsimp only; grind
    have e : checkS ⟨a, b, c, d, n4, n5, n6, n7, n8, n9, n10, n11, n12, n13, n14⟩ = 4 := by unfold checkS; rw [if_pos hb]
    rw [e] at h
    exact h _ (Sub.hv subEnd)
  have hb : badF ⟨a, b, c, d, n4, n5, n6, n7, n8, n9, n10, n11, n12, n13, n14⟩ = false := by unfold badF; dsimp only; grind
  have e : checkS ⟨a, b, c, d, n4, n5, n6, n7, n8, n9, n10, n11, n12, n13, n14⟩ = if (bnds ⟨a, b, c, d, n4, n5, n6, n7, n8, n9, n10, n11, n12, n13, n14⟩).all okB then 0 else 2 := by unfold checkS; rw [if_neg (by rw [hb]; decide)]
  rw [e] at h
  clear e
  rename_i v w1 o1
  have o2 : Hv w0 (row 162 3 v 11 ((bnds ⟨a, b, c, d, n4, n5, n6, n7, n8, n9, n10, n11, n12, n13, n14⟩).flatMap encB) :: H) w1 := Sub.hv (subRow rfl rfl subEnd)
  have hlen : (bnds ⟨a, b, c, d, n4, n5, n6, n7, n8, n9, n10, n11, n12, n13, n14⟩).length = 11 := rfl
  clear o1
  generalize bnds ⟨a, b, c, d, n4, n5, n6, n7, n8, n9, n10, n11, n12, n13, n14⟩ = bl at *
  refine ⟨fun y s => ∃ (i : Nat) (w' : World), y = .int .i64 i ∧ s = ⟨w', []⟩ ∧ i ≤ 11 ∧ (bl.take i).all okB = true ∧ Hv w0 (row 162 3 v 11 (bl.flatMap encB) :: H) w',
    fun y s => match y with | .int _ z => 11 - z.toNat | _ => 0, ⟨0, w1, rfl, rfl, Nat.zero_le _, rfl, o2⟩, ?_⟩
  rintro y s ⟨i, w2, rfl, rfl, hi, he, o3⟩
  rcases Nat.lt_or_ge i 11 with hl1 | hge
  · have hlt : i < bl.length := by omega
    repeat' (first | refine go ?_ | intro _ | refine ⟨sb, ?_⟩ | refine ⟨sd, ?_⟩ | (refine ⟨fun h1 => ?_, fun h1 => ?_⟩ <;> first | exact ab h1 | ((try rw [h1]); (try simp only [bl] at h1))) | dsimp only)
    · have hb : okB (bl.getD i default) = false := by unfold okB; clear h; grind
      rw [ball_at hlt hb] at h
      exact h _ (Sub.hv subEnd)
    · have hb : okB (bl.getD i default) = true := by unfold okB; clear h; grind
      exact ⟨⟨i + 1, _, rfl, rfl, by omega, by rw [ball_take hlt, he, hb]; rfl, Sub.hv (subRow rfl rfl subEnd)⟩, by simp; omega⟩
    · exfalso; revert h1; simp; omega
  · repeat' (first | refine go ?_ | intro _ | refine ⟨sb, ?_⟩ | refine ⟨sd, ?_⟩ | (refine ⟨fun h1 => ?_, fun h1 => ?_⟩ <;> first | exact ab h1 | ((try rw [h1]); (try simp only [bl] at h1))) | dsimp only)
    · exfalso; revert h1; simp; omega
    · rw [List.take_of_length_le (by omega)] at he
      rw [he] at h
      exact h _ (Sub.hv subEnd)⟩
end
end Go.Proofs.YtgcomleicnblhaaGreatDoor

