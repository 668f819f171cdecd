import Derived.Test.YtgcomleicnblhaaGreatDoorMkB
set_option linter.all false
namespace Go.Proofs.YtgcomleicnblhaaGreatDoor.Mk
open Go.Vx Go.Lib
/-! a message's text -/
def preP (pre : List UInt8) : List UInt8 := if pre = [] then [] else 58 :: (pre ++ [32])
def headM (pre cmd : List UInt8) : List UInt8 := preP pre ++ cmd
def parT (ps : List (List UInt8)) (i : Nat) : List UInt8 := if i < ps.length then parI (ps.take i) else parS (lastW ps) ps
theorem parT_zero (ps : List (List UInt8)) : parT ps 0 = [] := by
  unfold parT
  cases ps with
  | nil => rfl
  | cons p ps => simp [parI]
theorem parT_end (ps : List (List UInt8)) : parT ps ps.length = parS (lastW ps) ps := by unfold parT; rw [if_neg (by omega)]
theorem parT_step {ps : List (List UInt8)} {i : Nat} (h : i < ps.length) : parT ps (i + 1) = parT ps i ++ ([32] ++ ((if decide ((i : Int) = (ps.length : Int) - 1) && spare (ps.getD i default) then [58] else []) ++ ps.getD i default)) := by
  have e0 : parT ps i = parI (ps.take i) := by unfold parT; rw [if_pos h]
  rw [e0]
  by_cases h1 : i + 1 < ps.length
  · have e1 : parT ps (i + 1) = parI (ps.take (i + 1)) := by unfold parT; rw [if_pos h1]
    have e2 : decide ((i : Int) = (ps.length : Int) - 1) = false := by simp; omega
    rw [e1, e2, take_snoc h]
    simp [parI]
  · have e1 : i + 1 = ps.length := by omega
    have e2 : decide ((i : Int) = (ps.length : Int) - 1) = true := by simp; omega
    have e3 : ps = ps.take i ++ [ps.getD i default] := by
      have := take_snoc h
      rw [e1, List.take_length] at this; exact this
    have e4 : lastW ps = if spare (ps.getD i default) then [58] else [] := by
      unfold lastW
      conv => lhs; rw [e3]
      simp
    rw [e2, Bool.true_and, ← e4, e1, parT_end]
    conv => lhs; rw [e3]
    rw [par_snoc, ← e3]; simp
theorem parT_len (ps : List (List UInt8)) (h : ∀ p ∈ ps, p.length ≤ 1000) : ∀ i, i ≤ ps.length → (parT ps i).length ≤ 1002 * i := by
  intro i
  induction i with
  | zero => intro _; rw [parT_zero]; simp
  | succ i ih =>
    intro hi
    have h1 := ih (by omega)
    have h2 := h (ps.getD i default) (getD_mem (by omega))
    rw [parT_step (by omega)]
    simp only [List.length_append, List.length_cons, List.length_nil]
    split
    · simp only [List.length_cons, List.length_nil]; omega
    · simp only [List.length_nil]; omega
section
variable {K : Value → St → Prop} {w0 w : World} {H R : List SL} {ds : List Deferred} {l : List UInt8}
variable {xp : Value} {ps : List (List UInt8)} {np : Nat} {zp : List Value} {pre cmd : List UInt8}
instance mtext_ok [o : Hv w0 H w] [rp : RdsF w0 H xp 1 np zp] [ep : Strs zp ps] :
    Step (Cl P 181 #[.agg #[.slice none 0 0, str pre, str cmd, xp]] K ⟨w, ds⟩) ((pre.length ≤ 100000 ∧ cmd.length ≤ 100000 ∧ ps.length ≤ 100 ∧ ∀ p ∈ ps, p.length ≤ 1000) ∧ ∀ w', Hv w0 H w' → K (str (plainM ([], pre, cmd, ps))) ⟨w', ds⟩) := ⟨fun ⟨⟨hpl, hcl, hps, hpp⟩, h⟩ => by
  refine s181 ?_
  have lp : RdsL w0 H xp 1 np zp := rp.loc
  have r1 := rp.rd w o
  have em : np = ps.length := by have := r1.len; rw [ep.eq] at this; simpa using this.symm
  have one2 : One w xp := inferInstance
  obtain rfl := ep.eq
  clear r1 ep
  subst em
  have hprs : (preP pre).length ≤ 100002 := by unfold preP; split <;> simp; omega
  unfold D181
  dsimp only
  repeat ((fail_if_success (refine j0_any (fun _ => True) ?_ ?_)); (first | refine go ?_ | intro _ | refine ⟨sb, ?_⟩ | refine ⟨sd, ?_⟩ | dsimp only))
  rename_i b1 _ _ b2 w2 o2
  have o3 := sbd_new (e := 5) o2
  clear o2 o
  refine j0_hv w0 (sbd 321 5 b2 [] :: box b1 250 [.slice none 0 0, str pre, str cmd, xp] :: H) [] ?_ ?_
  · repeat' (first | refine go ?_ | intro _ | refine ⟨sb, ?_⟩ | refine ⟨sd, ?_⟩ | (refine ⟨fun h1 => ?_, fun h1 => ?_⟩ <;> first | exact ab h1 | ((try rw [h1]); (try simp only [bl] at h1))) | dsimp only)
    exact ⟨_, rfl, Sub.hv (subSb rfl (subBox rfl subEnd))⟩
  intro w4 o4
  clear o3
  refine j0_hv w0 (sbd 321 5 b2 (preP pre) :: box b1 250 [.slice none 0 0, str pre, str cmd, xp] :: H) [] ?_ ?_
  · repeat' (first | refine go ?_ | intro _ | refine ⟨sb, ?_⟩ | refine ⟨sd, ?_⟩ | (refine ⟨fun h1 => ?_, fun h1 => ?_⟩ <;> first | exact ab h1 | ((try rw [h1]); (try simp only [bl] at h1))) | dsimp only)
    · refine ⟨_, rfl, Sub.hv (subSb ?_ (subBox rfl subEnd))⟩
      unfold preP; rw [if_neg h1]; simp
    · refine ⟨_, rfl, Sub.hv (subSb ?_ (subBox rfl subEnd))⟩
      have he : pre = [] := by simpa using h1
      unfold preP; rw [if_pos he]
  intro w5 o5
  clear o4
  repeat (first | refine go ?_ | intro _ | refine ⟨sb, ?_⟩ | refine ⟨sd, ?_⟩ | dsimp only)
  rename_i w6 o6
  clear o5
  have hhd : (headM pre cmd).length ≤ 400000 := by unfold headM; simp; try omega
  have o6 : Hv w0 (sbd 321 5 b2 (headM pre cmd) :: box b1 250 [.slice none 0 0, str pre, str cmd, xp] :: H) w6 := o6
  refine ⟨fun x s => ∃ (i : Nat) (w' : World), x = .int .i64 i ∧ s = ⟨w', []⟩ ∧ i ≤ ps.length ∧ Hv w0 (sbd 321 5 b2 (headM pre cmd ++ parT ps i) :: box b1 250 [.slice none 0 0, str pre, str cmd, xp] :: H) w',
    fun x s => match x with | .int _ z => ps.length - z.toNat | _ => 0, ⟨0, w6, rfl, rfl, Nat.zero_le _, by rw [parT_zero, List.append_nil]; exact o6⟩, ?_⟩
  rintro x s ⟨i, w7, rfl, rfl, hi, o7⟩
  clear o6
  have hpt := parT_len ps hpp i hi
  rcases Nat.lt_or_ge i ps.length with hlt | hge
  · have hst := parT_step hlt
    have h2 := hpp (ps.getD i default) (getD_mem hlt)
    repeat ((fail_if_success (refine j0_any (fun _ => True) ?_ ?_)); (first | refine go ?_ | intro _ | refine ⟨sb, ?_⟩ | refine ⟨sd, ?_⟩ | dsimp only))
    refine And.intro (fun _ => ?_) (fun h1 => ?_)
    · repeat ((fail_if_success (refine j0_any (fun _ => True) ?_ ?_)); (first | refine go ?_ | intro _ | refine ⟨sb, ?_⟩ | refine ⟨sd, ?_⟩ | dsimp only))
      rename_i w8 o8
      clear o7
      refine j0_hv w0 (sbd 321 5 b2 (headM pre cmd ++ parT ps i ++ [32] ++ (if decide ((i : Int) = (ps.length : Int) - 1) && spare (ps.getD i default) then [58] else [])) :: box b1 250 [.slice none 0 0, str pre, str cmd, xp] :: H) [] ?_ ?_
      · repeat' (first | refine go ?_ | intro _ | refine ⟨sb, ?_⟩ | refine ⟨sd, ?_⟩ | (refine ⟨fun h1 => ?_, fun h1 => ?_⟩ <;> first | exact ab h1 | ((try rw [h1]); (try simp only [bl] at h1))) | dsimp only)
        all_goals exact ⟨_, rfl, Sub.hv (subSb (by simp) (subBox rfl subEnd))⟩
      intro w9 o9
      have hcl : (if decide ((i : Int) = (ps.length : Int) - 1) && spare (ps.getD i default) then [58] else ([] : List UInt8)).length ≤ 1 := by split <;> simp
      repeat' (first | refine go ?_ | intro _ | refine ⟨sb, ?_⟩ | refine ⟨sd, ?_⟩ | (refine ⟨fun h1 => ?_, fun h1 => ?_⟩ <;> first | exact ab h1 | ((try rw [h1]); (try simp only [bl] at h1))) | dsimp only)
      refine ⟨⟨i + 1, _, rfl, rfl, hlt, Sub.hv (subSb ?_ (subBox rfl subEnd))⟩, by simp; omega⟩
      rw [hst]; simp
    · exfalso; simp at h1; omega
  · obtain rfl : i = ps.length := by omega
    repeat' (first | refine go ?_ | intro _ | refine ⟨sb, ?_⟩ | refine ⟨sd, ?_⟩ | (refine ⟨fun h1 => ?_, fun h1 => ?_⟩ <;> first | exact ab h1 | ((try rw [h1]); (try simp only [bl] at h1))) | dsimp only)
    · exfalso; omega
    · have e : headM pre cmd ++ parT ps ps.length = plainM ([], pre, cmd, ps) := by rw [parT_end]; rfl
      rw [e]
      exact h _ (Sub.hv subEnd)⟩
end
end Go.Proofs.YtgcomleicnblhaaGreatDoor.Mk

