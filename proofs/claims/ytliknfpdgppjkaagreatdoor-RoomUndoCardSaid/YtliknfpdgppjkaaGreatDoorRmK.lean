import Derived.Test.YtliknfpdgppjkaaGreatDoorRmJ
set_option linter.all false
namespace Go.Proofs.YtliknfpdgppjkaaGreatDoor
open Go.Vx Go.Lib
/-! the document's bans -/
def lastN (p : List UInt8 → Bool) (l : List (List UInt8)) : Nat → Int
  | 0 => -1
  | n + 1 => if p (l.getD n default) then n else lastN p l n
theorem lastN_le (p : List UInt8 → Bool) (l : List (List UInt8)) : ∀ n, lastN p l n < n ∧ -1 ≤ lastN p l n
  | 0 => by simp [lastN]
  | n + 1 => by
    have := lastN_le p l n
    unfold lastN; split <;> omega
def Rf.banAt (x : Rf) (mask : List UInt8) : Int := lastN (fun s => decide (foldS s = foldS mask)) x.bans x.bans.length
def Rf.banC (x : Rf) (c : Chg) : Rf × Chg × Int :=
  if c.2.2 = [] ∨ 100 < (completeS (cleanS c.2.2)).length ∨ (completeS (cleanS c.2.2)).contains 32 = true then (x, noC, 0)
  else if c.1 = true then (if 0 ≤ x.banAt (completeS (cleanS c.2.2)) then (x, noC, 0) else if x.mb ≤ x.bans.length then (x, noC, 478) else ({ x with bans := x.bans ++ [completeS (cleanS c.2.2)] }, (true, 98, completeS (cleanS c.2.2)), 0))
  else if x.banAt (completeS (cleanS c.2.2)) < 0 then (x, noC, 0)
  else ({ x with bans := x.bans.take (x.banAt (completeS (cleanS c.2.2))).toNat ++ x.bans.drop ((x.banAt (completeS (cleanS c.2.2))).toNat + 1) }, (false, 98, x.bans.getD (x.banAt (completeS (cleanS c.2.2))).toNat default), 0)
section
set_option maxRecDepth 20000
set_option synthInstance.maxSize 100000
set_option synthInstance.maxHeartbeats 4000000
variable {K : Value → St → Prop} {w0 w : World} {H R : List SL} {ds : List Deferred} {p : Nat} {x : Rf} {id : Int} {on : Bool} {le : UInt8} {arg : List UInt8}
instance fban_ok [o : Hv w0 H w] [i : InK refR p H x R] : Step (Cl P 60 #[.pointer (some ⟨p, 0, none⟩), .agg #[.bool on, byteV le, str arg]] K ⟨w, ds⟩) (((x.fit ∧ ∀ b ∈ x.bans, b.length ≤ 100) ∧ arg.length ≤ 100000) ∧ ∀ w', Hv w0 (refR p (x.banC (on, le, arg)).1 :: R) w' → K (.tuple #[chV (x.banC (on, le, arg)).2.1, .int .i64 (x.banC (on, le, arg)).2.2]) ⟨w', ds⟩) := ⟨fun ⟨⟨⟨hf, hbl⟩, hl⟩, h⟩ => by
  obtain ⟨vm, vb, vg, o1⟩ := ref_open (i.hv o)
  clear o
  obtain ⟨f1, f2, f3, f4⟩ := hf
  have c1 := clean_len arg
  have c2 := complete_len (cleanS arg)
  generalize hm : completeS (cleanS arg) = mask at *
  have hat := lastN_le (fun s => decide (foldS s = foldS mask)) x.bans
  have fin0 : (arg = [] ∨ 100 < mask.length ∨ mask.contains 32 = true) → x.banC (on, le, arg) = (x, noC, 0) := fun hq => by unfold Rf.banC; rw [if_pos (by simpa only [hm] using hq)]
  refine s60 ?_
  unfold D60
  repeat' (first | refine go ?_ | intro _ | refine ⟨sb, ?_⟩ | refine ⟨sd, ?_⟩ | (refine ⟨fun h1 => ?_, fun h1 => ?_⟩ <;> first | exact ab h1 | ((try rw [h1]); (try simp only [bl] at h1))) | dsimp only)
  · rw [fin0 (.inl h1)] at h
    exact h _ (Sub.hv (subRefR ⟨rfl, rfl, rfl, rfl, rfl, rfl⟩ rfl rfl rfl rfl rfl rfl subEnd))
  · rw [fin0 (.inr (.inl (by rw [hm] at h1; omega)))] at h
    exact h _ (Sub.hv (subRefR ⟨rfl, rfl, rfl, rfl, rfl, rfl⟩ rfl rfl rfl rfl rfl rfl subEnd))
  rename_i b1 wa oa b2 wb ob hne wc oc w1 o2
  clear oa ob oc o1
  rw [hm] at h1 ⊢
  refine ⟨fun y s => ∃ (i : Nat) (w' : World), y = .int .i64 i ∧ s = ⟨w', []⟩ ∧ i ≤ mask.length ∧ (mask.take i).all (fun b => !decide (b = 32)) = true ∧ Hv w0 (box b2 24 [.bool false, byteV 0, str []] :: box b1 24 [.bool on, byteV le, str arg] :: box p 50 [str x.name, .int .i64 x.mb, vm, str x.topic, str x.on, str x.key, .int .i64 x.limit, vb, vg] :: row 39 3 vm x.l.length (x.l.flatMap encM) :: row 9 1 vb x.bans.length (x.bans.map str) :: row 3 1 vg x.gs.length (x.gs.map intV) :: R) w',
    fun y s => match y with | .int _ z => mask.length - z.toNat | _ => 0, ⟨0, w1, rfl, rfl, Nat.zero_le _, rfl, o2⟩, ?_⟩
  rintro y s ⟨i, w2, rfl, rfl, hi, hp, o3⟩
  clear o2
  have hc : mask.contains 32 = !mask.all (fun b => !decide (b = 32)) := by rw [Bool.eq_iff_iff]; simp
  rcases Nat.lt_or_ge i mask.length with hlt | hge
  · have ht := all_take (p := fun b => !decide (b = 32)) hlt
    repeat' (first | refine go ?_ | intro _ | refine ⟨sb, ?_⟩ | refine ⟨sd, ?_⟩ | (refine ⟨fun h1 => ?_, fun h1 => ?_⟩ <;> first | exact ab h1 | ((try rw [h1]); (try simp only [bl] at h1))) | dsimp only)
    · rw [fin0 (.inr (.inr (by rw [hc, all_at hlt (by simpa [-List.getD_eq_getElem?_getD] using h1)]; rfl)))] at h
      exact h _ (Sub.hv (subRefR ⟨rfl, rfl, rfl, rfl, rfl, rfl⟩ rfl rfl rfl rfl rfl rfl subEnd))
    · exact ⟨⟨i + 1, _, rfl, rfl, hlt, by rw [ht, hp]; simpa [-List.getD_eq_getElem?_getD] using h1, Sub.hv subEnd⟩, by simp; omega⟩
    · exfalso; omega
  rw [List.take_of_length_le hge] at hp
  rw [hp] at hc
  have fin1 : ∀ q, (if on = true then (if 0 ≤ x.banAt mask then (x, noC, (0 : Int)) else if x.mb ≤ x.bans.length then (x, noC, 478) else ({ x with bans := x.bans ++ [mask] }, (true, 98, mask), 0))
      else if x.banAt mask < 0 then (x, noC, 0) else ({ x with bans := x.bans.take (x.banAt mask).toNat ++ x.bans.drop ((x.banAt mask).toNat + 1) }, (false, 98, x.bans.getD (x.banAt mask).toNat default), 0)) = q → x.banC (on, le, arg) = q := fun q hq => by
    unfold Rf.banC; simp only [hm]; rw [if_neg (by rw [hc]; rintro (h2 | h2 | h2); exact absurd h2 ‹_›; omega; simp at h2)]; exact hq
  repeat (first | refine go ?_ | intro _ | refine ⟨sb, ?_⟩ | refine ⟨sd, ?_⟩ | dsimp only)
  refine And.intro (fun h2 => by exfalso; simp at h2; omega) (fun _ => ?_)
  refine ⟨fun y z s => ∃ (i : Nat) (w' : World), y = .int .i64 (lastN (fun s => decide (foldS s = foldS mask)) x.bans i) ∧ z = .int .i64 i ∧ s = ⟨w', []⟩ ∧ i ≤ x.bans.length ∧ Hv w0 (box b2 24 [.bool false, byteV 0, str []] :: box b1 24 [.bool on, byteV le, str arg] :: box p 50 [str x.name, .int .i64 x.mb, vm, str x.topic, str x.on, str x.key, .int .i64 x.limit, vb, vg] :: row 39 3 vm x.l.length (x.l.flatMap encM) :: row 9 1 vb x.bans.length (x.bans.map str) :: row 3 1 vg x.gs.length (x.gs.map intV) :: R) w',
    fun _ z s => match z with | .int _ z => x.bans.length - z.toNat | _ => 0, ⟨0, _, rfl, rfl, rfl, Nat.zero_le _, o3⟩, ?_⟩
  rintro y z s ⟨j, w3, rfl, rfl, rfl, hj, o4⟩
  clear o3
  have hbj := hat j
  rcases Nat.lt_or_ge j x.bans.length with hlt | hge2
  · have hst : lastN (fun s => decide (foldS s = foldS mask)) x.bans (j + 1) = if foldS (x.bans.getD j default) = foldS mask then (j : Int) else lastN (fun s => decide (foldS s = foldS mask)) x.bans j := by
      show (if _ then _ else _) = _
      simp only [decide_eq_true_eq]
    have hbx := hbl _ (getD_mem hlt)
    repeat' (first | refine go ?_ | intro _ | refine ⟨sb, ?_⟩ | refine ⟨sd, ?_⟩ | (refine ⟨fun h1 => ?_, fun h1 => ?_⟩ <;> first | exact ab h1 | ((try rw [h1]); (try simp only [bl] at h1))) | dsimp only)
    · rw [if_pos h1] at hst
      exact ⟨⟨j + 1, _, by rw [hst], rfl, rfl, hlt, Sub.hv subEnd⟩, by simp; omega⟩
    · rw [if_neg h1] at hst
      exact ⟨⟨j + 1, _, by rw [hst], rfl, rfl, hlt, Sub.hv subEnd⟩, by simp; omega⟩
    · exfalso; omega
  · obtain rfl : j = x.bans.length := by omega
    have hq : lastN (fun s => decide (foldS s = foldS mask)) x.bans x.bans.length = x.banAt mask := rfl
    rw [hq] at hbj ⊢
    repeat' (first | refine go ?_ | intro _ | refine ⟨sb, ?_⟩ | refine ⟨sd, ?_⟩ | (refine ⟨fun h1 => ?_, fun h1 => ?_⟩ <;> first | exact ab h1 | ((try rw [h1]); (try simp only [bl] at h1))) | dsimp only)
    · exfalso; omega
    · rw [fin1 (x, noC, 0) (by rw [if_pos (by assumption), if_pos h1])] at h
      exact h _ (Sub.hv (subRefR ⟨rfl, rfl, rfl, rfl, rfl, rfl⟩ rfl rfl rfl rfl rfl rfl subEnd))
    · rw [fin1 (x, noC, 478) (by rw [if_pos (by assumption), if_neg (by omega), if_pos h1])] at h
      exact h _ (Sub.hv (subRefR ⟨rfl, rfl, rfl, rfl, rfl, rfl⟩ rfl rfl rfl rfl rfl rfl subEnd))
    · rw [fin1 ({ x with bans := x.bans ++ [mask] }, (true, 98, mask), 0) (by rw [if_pos (by assumption), if_neg (by omega), if_neg (by omega)])] at h
      exact h _ (Sub.hv (subRefR ⟨rfl, rfl, rfl, rfl, rfl, rfl⟩ rfl rfl (by simp) (by simp) rfl rfl subEnd))
    · rw [fin1 (x, noC, 0) (by rw [if_neg (by simp [*]), if_pos h1])] at h
      exact h _ (Sub.hv (subRefR ⟨rfl, rfl, rfl, rfl, rfl, rfl⟩ rfl rfl rfl rfl rfl rfl subEnd))
    · rw [fin1 _ (by rw [if_neg (by simp [*]), if_neg (by omega)])] at h
      have e9 : (x.banAt mask + 1).toNat = (x.banAt mask).toNat + 1 := by omega
      exact h _ (Sub.hv (subRefR ⟨rfl, rfl, rfl, rfl, rfl, rfl⟩ rfl rfl (by simp; omega) (by simp [e9]; exact List.take_of_length_le (by simp)) rfl rfl subEnd))⟩
end
end Go.Proofs.YtliknfpdgppjkaaGreatDoor

