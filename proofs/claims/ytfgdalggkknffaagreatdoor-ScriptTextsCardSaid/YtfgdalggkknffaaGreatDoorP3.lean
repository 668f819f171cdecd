import Derived.Test.YtfgdalggkknffaaGreatDoorP2
import Derived.Lib.ItoaLen
set_option linter.all false
namespace Go.Proofs.YtfgdalggkknffaaGreatDoor.Mk
open Go.Vx Go.Lib
def preP (pre : List UInt8) : List UInt8 := if pre = [] then [] else 58 :: (pre ++ [32])
def headM (pre cmd : List UInt8) : List UInt8 := preP pre ++ cmd
def parT (ps : List (List UInt8)) (i : Nat) : List UInt8 := if i < ps.length then parI (ps.take i) else parS (lastW ps) ps
theorem parT_zero (ps : List (List UInt8)) : parT ps 0 = [] := by
  unfold parT
  cases ps with
  | nil => rfl
  | cons p ps => simp [parI]
theorem parT_end (ps : List (List UInt8)) : parT ps ps.length = parS (lastW ps) ps := by unfold parT; rw [if_neg (by omega)]
theorem parT_step {ps : List (List UInt8)} {i : Nat} (h : i < ps.length) : parT ps (i + 1) = parT ps i ++ ([32] ++ ((if decide ((i : Int) = (ps.length : Int) - 1) && spare (ps.getD i default) then [58] else []) ++ ps.getD i default)) := by
  have e0 : parT ps i = parI (ps.take i) := by unfold parT; rw [if_pos h]
  rw [e0]
  by_cases h1 : i + 1 < ps.length
  · have e1 : parT ps (i + 1) = parI (ps.take (i + 1)) := by unfold parT; rw [if_pos h1]
    have e2 : decide ((i : Int) = (ps.length : Int) - 1) = false := by simp; omega
    rw [e1, e2, take_snoc h]
    simp [parI]
  · have e1 : i + 1 = ps.length := by omega
    have e2 : decide ((i : Int) = (ps.length : Int) - 1) = true := by simp; omega
    have e3 : ps = ps.take i ++ [ps.getD i default] := by
      have := take_snoc h
      rw [e1, List.take_length] at this; exact this
    have e4 : lastW ps = if spare (ps.getD i default) then [58] else [] := by
      unfold lastW
      conv => lhs; rw [e3]
      simp
    rw [e2, Bool.true_and, ← e4, e1, parT_end]
    conv => lhs; rw [e3]
    rw [par_snoc, ← e3]; simp
theorem parT_len (ps : List (List UInt8)) (h : ∀ p ∈ ps, p.length ≤ 1000) : ∀ i, i ≤ ps.length → (parT ps i).length ≤ 1002 * i := by
  intro i
  induction i with
  | zero => intro _; rw [parT_zero]; simp
  | succ i ih =>
    intro hi
    have h1 := ih (by omega)
    have h2 := h (ps.getD i default) (getD_mem (by omega))
    rw [parT_step (by omega)]
    simp only [List.length_append, List.length_cons, List.length_nil]
    split
    · simp only [List.length_cons, List.length_nil]; omega
    · simp only [List.length_nil]; omega
section
variable {K : Value → St → Prop} {w0 w : World} {H R : List SL} {ds : List Deferred} {l : List UInt8}
variable {xp : Value} {ps : List (List UInt8)} {np : Nat} {zp : List Value} {pre cmd : List UInt8}
instance mtext_ok [o : Hv w0 H w] [rp : RdsF w0 H xp 1 np zp] [ep : Strs zp ps] :
    Step (Cl P 180 #[.agg #[.slice none 0 0, str pre, str cmd, xp]] K ⟨w, ds⟩) ((pre.length ≤ 100000 ∧ cmd.length ≤ 100000 ∧ ps.length ≤ 100 ∧ ∀ p ∈ ps, p.length ≤ 1000) ∧ ∀ w', Hv w0 H w' → K (str (plainM ([], pre, cmd, ps))) ⟨w', ds⟩) := ⟨fun ⟨⟨hpl, hcl, hps, hpp⟩, h⟩ => by
  refine s180 ?_
  have lp : RdsL w0 H xp 1 np zp := rp.loc
  have r1 := rp.rd w o
  have em : np = ps.length := by have := r1.len; rw [ep.eq] at this; simpa using this.symm
  have one2 : One w xp := inferInstance
  obtain rfl := ep.eq
  clear r1 ep
  subst em
  have hprs : (preP pre).length ≤ 100002 := by unfold preP; split <;> simp; omega
  unfold D180
  dsimp only
  repeat ((fail_if_success (refine j0_any (fun _ => True) ?_ ?_)); (first | refine go ?_ | intro _ | refine ⟨sb, ?_⟩ | refine ⟨sd, ?_⟩ | dsimp only))
  rename_i b1 _ _ b2 w2 o2
  have o3 := sbd_new (e := 5) o2
  clear o2 o
  refine j0_hv w0 (sbd 50 5 b2 [] :: box b1 243 [.slice none 0 0, str pre, str cmd, xp] :: H) [] ?_ ?_
  · repeat' (first | refine go ?_ | intro _ | refine ⟨sb, ?_⟩ | refine ⟨sd, ?_⟩ | (refine ⟨fun h1 => ?_, fun h1 => ?_⟩ <;> first | exact ab h1 | ((try rw [h1]); (try simp only [bl] at h1))) | dsimp only)
    exact ⟨_, rfl, Sub.hv (subSb rfl (subBox rfl subEnd))⟩
  intro w4 o4
  clear o3
  refine j0_hv w0 (sbd 50 5 b2 (preP pre) :: box b1 243 [.slice none 0 0, str pre, str cmd, xp] :: H) [] ?_ ?_
  · repeat' (first | refine go ?_ | intro _ | refine ⟨sb, ?_⟩ | refine ⟨sd, ?_⟩ | (refine ⟨fun h1 => ?_, fun h1 => ?_⟩ <;> first | exact ab h1 | ((try rw [h1]); (try simp only [bl] at h1))) | dsimp only)
    · refine ⟨_, rfl, Sub.hv (subSb ?_ (subBox rfl subEnd))⟩
      unfold preP; rw [if_neg h1]; simp
    · refine ⟨_, rfl, Sub.hv (subSb ?_ (subBox rfl subEnd))⟩
      have he : pre = [] := by simpa using h1
      unfold preP; rw [if_pos he]
  intro w5 o5
  clear o4
  repeat (first | refine go ?_ | intro _ | refine ⟨sb, ?_⟩ | refine ⟨sd, ?_⟩ | dsimp only)
  rename_i w6 o6
  clear o5
  have hhd : (headM pre cmd).length ≤ 400000 := by unfold headM; simp; try omega
  have o6 : Hv w0 (sbd 50 5 b2 (headM pre cmd) :: box b1 243 [.slice none 0 0, str pre, str cmd, xp] :: H) w6 := o6
  refine ⟨fun x s => ∃ (i : Nat) (w' : World), x = .int .i64 i ∧ s = ⟨w', []⟩ ∧ i ≤ ps.length ∧ Hv w0 (sbd 50 5 b2 (headM pre cmd ++ parT ps i) :: box b1 243 [.slice none 0 0, str pre, str cmd, xp] :: H) w',
    fun x s => match x with | .int _ z => ps.length - z.toNat | _ => 0, ⟨0, w6, rfl, rfl, Nat.zero_le _, by rw [parT_zero, List.append_nil]; exact o6⟩, ?_⟩
  rintro x s ⟨i, w7, rfl, rfl, hi, o7⟩
  clear o6
  have hpt := parT_len ps hpp i hi
  rcases Nat.lt_or_ge i ps.length with hlt | hge
  · have hst := parT_step hlt
    have h2 := hpp (ps.getD i default) (getD_mem hlt)
    repeat ((fail_if_success (refine j0_any (fun _ => True) ?_ ?_)); (first | refine go ?_ | intro _ | refine ⟨sb, ?_⟩ | refine ⟨sd, ?_⟩ | dsimp only))
    refine And.intro (fun _ => ?_) (fun h1 => ?_)
    · repeat ((fail_if_success (refine j0_any (fun _ => True) ?_ ?_)); (first | refine go ?_ | intro _ | refine ⟨sb, ?_⟩ | refine ⟨sd, ?_⟩ | dsimp only))
      rename_i w8 o8
      clear o7
      refine j0_hv w0 (sbd 50 5 b2 (headM pre cmd ++ parT ps i ++ [32] ++ (if decide ((i : Int) = (ps.length : Int) - 1) && spare (ps.getD i default) then [58] else [])) :: box b1 243 [.slice none 0 0, str pre, str cmd, xp] :: H) [] ?_ ?_
      · repeat' (first | refine go ?_ | intro _ | refine ⟨sb, ?_⟩ | refine ⟨sd, ?_⟩ | (refine ⟨fun h1 => ?_, fun h1 => ?_⟩ <;> first | exact ab h1 | ((try rw [h1]); (try simp only [bl] at h1))) | dsimp only)
        all_goals exact ⟨_, rfl, Sub.hv (subSb (by simp) (subBox rfl subEnd))⟩
      intro w9 o9
      have hcl : (if decide ((i : Int) = (ps.length : Int) - 1) && spare (ps.getD i default) then [58] else ([] : List UInt8)).length ≤ 1 := by split <;> simp
      repeat' (first | refine go ?_ | intro _ | refine ⟨sb, ?_⟩ | refine ⟨sd, ?_⟩ | (refine ⟨fun h1 => ?_, fun h1 => ?_⟩ <;> first | exact ab h1 | ((try rw [h1]); (try simp only [bl] at h1))) | dsimp only)
      refine ⟨⟨i + 1, _, rfl, rfl, hlt, Sub.hv (subSb ?_ (subBox rfl subEnd))⟩, by simp; omega⟩
      rw [hst]; simp
    · exfalso; simp at h1; omega
  · obtain rfl : i = ps.length := by omega
    repeat' (first | refine go ?_ | intro _ | refine ⟨sb, ?_⟩ | refine ⟨sd, ?_⟩ | (refine ⟨fun h1 => ?_, fun h1 => ?_⟩ <;> first | exact ab h1 | ((try rw [h1]); (try simp only [bl] at h1))) | dsimp only)
    · exfalso; omega
    · have e : headM pre cmd ++ parT ps ps.length = plainM ([], pre, cmd, ps) := by rw [parT_end]; rfl
      rw [e]
      exact h _ (Sub.hv subEnd)⟩
end
end Go.Proofs.YtfgdalggkknffaaGreatDoor.Mk

namespace Go.Proofs.YtfgdalggkknffaaGreatDoor.Mk
open Go.Vx Go.Lib
def dash (s : List UInt8) : List UInt8 := replS s 32 [45]
def unc (s : List UInt8) : List UInt8 := if hd s 58 then s.set 0 45 else s
def midS (p : List UInt8) : List UInt8 := if p = [] then [42] else unc (dash p)
theorem dash_len (s : List UInt8) : (dash s).length = s.length := by
  unfold dash replS
  induction s with
  | nil => rfl
  | cons b s ih => rw [List.flatMap_cons, List.length_append, ih]; split <;> simp <;> omega
theorem unc_len (s : List UInt8) : (unc s).length = s.length := by unfold unc; split <;> simp
theorem mid_len (s : List UInt8) : (midS s).length ≤ s.length + 1 := by
  unfold midS; split
  · simp
  · rw [unc_len, dash_len]; omega
def mkAt (ps : List (List UInt8)) (i : Nat) : List UInt8 := if i + 1 < ps.length then midS (cleanS (ps.getD i default)) else cleanS (ps.getD i default)
def mkTo (ps : List (List UInt8)) (i : Nat) : List (List UInt8) := (List.range i).map (mkAt ps)
theorem mkTo_step (ps : List (List UInt8)) (i : Nat) : mkTo ps (i + 1) = mkTo ps i ++ [mkAt ps i] := by unfold mkTo; rw [List.range_succ, List.map_append]; rfl
def makeS (pre name : List UInt8) (ps : List (List UInt8)) : List UInt8 :=
  if !cmdB name || (!decide (capsS name = name) || decide (15 < ps.length)) then [] else (plainM ([], dash (cleanS pre), name, mkTo ps ps.length)).take 510
section
variable {K : Value → St → Prop} {w0 w : World} {H R : List SL} {ds : List Deferred} {l : List UInt8}
instance (priority := high) dash_ok [o : Hv w0 H w] : Step (Cl P 175 #[str l, .string ⟨#[32]⟩, .string ⟨#[45]⟩] K ⟨w, ds⟩) (l.length ≤ 500000 ∧ ∀ w', Hv w0 H w' → K (str (dash l)) ⟨w', ds⟩) := ⟨fun ⟨hl, h⟩ => replaceAll_ok.prf ⟨⟨hl, by decide, by decide⟩, h⟩⟩
instance middle_ok [o : Hv w0 H w] : Step (Cl P 177 #[str l] K ⟨w, ds⟩) (l.length ≤ 100000 ∧ ∀ w', Hv w0 H w' → K (str (midS l)) ⟨w', ds⟩) := ⟨fun ⟨hl, h⟩ => by
  refine s177 ?_
  unfold D177
  dsimp only
  repeat' (first | refine go ?_ | intro _ | refine ⟨sb, ?_⟩ | refine ⟨sd, ?_⟩ | (refine ⟨fun h1 => ?_, fun h1 => ?_⟩ <;> first | exact ab h1 | ((try rw [h1]); (try simp only [bl] at h1))) | dsimp only)
  · subst h1; exact h _ o
  have hdl := dash_len l
  have hp := List.length_pos_iff.2 h1
  have em : midS l = unc (dash l) := by unfold midS; rw [if_neg h1]
  rw [em] at h
  have e0 : ∀ c, hd (dash l) c = decide ((dash l).getD 0 default = c) := fun c => by
    cases hx : dash l with
    | nil => rw [hx] at hdl; simp at hdl; omega
    | cons b t => rw [hd_cons]; simp
  repeat' (first | refine go ?_ | intro _ | refine ⟨sb, ?_⟩ | refine ⟨sd, ?_⟩ | (refine ⟨fun h1 => ?_, fun h1 => ?_⟩ <;> first | exact ab h1 | ((try rw [h1]); (try simp only [bl] at h1))) | dsimp only)
  · have : unc (dash l) = (dash l).set 0 45 := by unfold unc; rw [e0, decide_eq_true ‹_ = (58 : UInt8)›]; rfl
    rw [this] at h
    exact h _ (Sub.hv subEnd)
  · have : unc (dash l) = dash l := by unfold unc; rw [e0, decide_eq_false ‹¬ _ = (58 : UInt8)›]; rfl
    rw [this] at h
    exact h _ (Sub.hv subEnd)⟩
variable {xp : Value} {ps : List (List UInt8)} {np : Nat} {zp : List Value} {pre cmd : List UInt8}
instance make_ok [o : Hv w0 H w] [rp : RdsF w0 H xp 1 np zp] [ep : Strs zp ps] :
    Step (Cl P 128 #[str pre, str cmd, xp] K ⟨w, ds⟩) ((pre.length ≤ 10000 ∧ cmd.length ≤ 10000 ∧ ps.length ≤ 100 ∧ ∀ p ∈ ps, p.length ≤ 999) ∧ ∀ w', Hv w0 H w' → K (str (makeS pre cmd ps)) ⟨w', ds⟩) := ⟨fun ⟨⟨hpl, hcl, hps, hpp⟩, h⟩ => by
  refine s128 ?_
  have lp : RdsL w0 H xp 1 np zp := rp.loc
  have r1 := rp.rd w o
  have em : np = ps.length := by have := r1.len; rw [ep.eq] at this; simpa using this.symm
  obtain rfl := ep.eq
  clear r1 ep
  subst em
  have hc1 := clean_len pre
  have hd1 := dash_len (cleanS pre)
  unfold D128
  dsimp only
  repeat ((fail_if_success (refine l0_ind (fun _ _ => True) ?_ ?_)); (first | refine go ?_ | intro _ | refine ⟨sb, ?_⟩ | refine ⟨sd, ?_⟩ | dsimp only))
  rename_i b1 _ _ w1 o1
  have hat : ∀ i, (mkAt ps i).length ≤ 1000 := fun i => by
    have h1 := clean_len (ps.getD i default)
    have h2 : (ps.getD i default).length ≤ 999 := by
      rcases Nat.lt_or_ge i ps.length with hi | hi
      · exact hpp _ (getD_mem hi)
      · rw [List.getD_eq_getElem?_getD, List.getElem?_eq_none hi]; show ([] : List UInt8).length ≤ 999; simp
    have h3 := mid_len (cleanS (ps.getD i default))
    unfold mkAt; split <;> omega
  refine ⟨fun x s => ∃ (i : Nat) (v : Value) (w' : World), x = .int .i64 i ∧ s = ⟨w', []⟩ ∧ i ≤ ps.length ∧ Hv w0 (box b1 243 [.slice none 0 0, str (dash (cleanS pre)), str cmd, v] :: row 9 1 v i ((mkTo ps i).map str) :: H) w',
    fun x s => match x with | .int _ z => ps.length - z.toNat | _ => 0, ⟨0, _, w1, rfl, rfl, Nat.zero_le _, Hv.perm sep_swap (Hv.nilRow 9 1 o1)⟩, ?_⟩
  rintro x s ⟨i, v, w2, rfl, rfl, hi, o2⟩
  clear o1 o
  rcases Nat.lt_or_ge i ps.length with hlt | hge
  · have h2 : (ps.getD i default).length ≤ 999 := hpp _ (getD_mem hlt)
    have h3 := clean_len (ps.getD i default)
    have hst := mkTo_step ps i
    repeat ((fail_if_success (refine j1_any (fun _ _ => True) ?_ ?_)); (first | refine go ?_ | intro _ | refine ⟨sb, ?_⟩ | refine ⟨sd, ?_⟩ | dsimp only))
    refine And.intro (fun _ => ?_) (fun h1 => ?_)
    · repeat ((fail_if_success (refine j1_any (fun _ _ => True) ?_ ?_)); (first | refine go ?_ | intro _ | refine ⟨sb, ?_⟩ | refine ⟨sd, ?_⟩ | dsimp only))
      rename_i w3 o3
      refine j1_hv w0 (box b1 243 [.slice none 0 0, str (dash (cleanS pre)), str cmd, v] :: row 9 1 v i ((mkTo ps i).map str) :: H) [] (str (mkAt ps i)) ?_ ?_
      · repeat' (first | refine go ?_ | intro _ | refine ⟨sb, ?_⟩ | refine ⟨sd, ?_⟩ | (refine ⟨fun h1 => ?_, fun h1 => ?_⟩ <;> first | exact ab h1 | ((try rw [h1]); (try simp only [bl] at h1))) | dsimp only)
        · refine ⟨?_, _, rfl, Sub.hv (subBox rfl (subRow rfl rfl subEnd))⟩
          unfold mkAt; rw [if_pos (by omega)]
        · refine ⟨?_, _, rfl, Sub.hv (subBox rfl (subRow rfl rfl subEnd))⟩
          unfold mkAt; rw [if_neg (by omega)]
      intro w4 o4
      clear o2 o3
      repeat' (first | refine go ?_ | intro _ | refine ⟨sb, ?_⟩ | refine ⟨sd, ?_⟩ | (refine ⟨fun h1 => ?_, fun h1 => ?_⟩ <;> first | exact ab h1 | ((try rw [h1]); (try simp only [bl] at h1))) | dsimp only)
      refine ⟨⟨i + 1, _, _, rfl, rfl, hlt, Sub.hv (subBox rfl (subRow rfl (by rw [hst, List.map_append]; rfl) subEnd))⟩, by simp; omega⟩
    · exfalso; simp at h1; omega
  · obtain rfl : i = ps.length := by omega
    repeat' (first | refine go ?_ | intro _ | refine ⟨sb, ?_⟩ | refine ⟨sd, ?_⟩ | (refine ⟨fun h1 => ?_, fun h1 => ?_⟩ <;> first | exact ab h1 | ((try rw [h1]); (try simp only [bl] at h1))) | dsimp only)
    · exfalso; omega
    · have e : makeS pre cmd ps = [] := by
        unfold makeS; rw [if_pos]
        rcases h1 with h1 | h1
        · simp [h1]
        · have : 15 < ps.length := by omega
          simp [this]
      rw [e] at h
      exact h _ (Sub.hv subEnd)
    · rename_i hcb _ _ 
      have hml : (mkTo ps ps.length).length = ps.length := by simp [mkTo]
      have hmm : ∀ p ∈ mkTo ps ps.length, p.length ≤ 1000 := fun p hp => by
        obtain ⟨i, _, rfl⟩ := List.mem_map.1 hp
        exact hat i
      have hpm : (plainM ([], dash (cleanS pre), cmd, mkTo ps ps.length)).length ≤ 1000000 := by
        unfold plainM
        rw [List.length_append, ← parT_end]
        have h5 := parT_len (mkTo ps ps.length) hmm _ (Nat.le_refl _)
        have h6 : (if dash (cleanS pre) = [] then [] else 58 :: (dash (cleanS pre) ++ [32])).length ≤ 100002 := by split <;> simp <;> omega
        have h7 : (preP (dash (cleanS pre))).length ≤ 100002 := by unfold preP; split <;> simp <;> omega
        simp only [List.length_append]
        omega
      refine And.intro ⟨by omega, by omega, by omega, hmm⟩ ?_
      intro w5 o5
      have e : makeS pre cmd ps = (plainM ([], dash (cleanS pre), cmd, mkTo ps ps.length)).take 510 := by
        unfold makeS; rw [if_neg]
        have h2 : capsS cmd = cmd := h1.1
        have h3 : ¬ 15 < ps.length := by omega
        simp [hcb, h2, h3]
      rw [e] at h
      repeat' (first | refine go ?_ | intro _ | refine ⟨sb, ?_⟩ | refine ⟨sd, ?_⟩ | (refine ⟨fun h1 => ?_, fun h1 => ?_⟩ <;> first | exact ab h1 | ((try rw [h1]); (try simp only [bl] at h1))) | dsimp only)
      have e2 : (min ((plainM ([], dash (cleanS pre), cmd, mkTo ps ps.length)).length : Int) 510).toNat = min (plainM ([], dash (cleanS pre), cmd, mkTo ps ps.length)).length 510 := by omega
      have e3 : (plainM ([], dash (cleanS pre), cmd, mkTo ps ps.length)).take (min (plainM ([], dash (cleanS pre), cmd, mkTo ps ps.length)).length 510) = (plainM ([], dash (cleanS pre), cmd, mkTo ps ps.length)).take 510 := by
        rw [Nat.min_comm, ← List.take_take, List.take_length]
      rw [e2, e3]
      exact h _ (Sub.hv subEnd)
    · have e : makeS pre cmd ps = [] := by
        unfold makeS; rw [if_pos]; simp [‹cmdB cmd = false›]
      rw [e] at h
      exact h _ (Sub.hv subEnd)
    · exact absurd h1.1 (by decide)⟩
end
end Go.Proofs.YtfgdalggkknffaaGreatDoor.Mk

namespace Go.Proofs.YtfgdalggkknffaaGreatDoor.Mk
open Go.Vx Go.Lib
def codeS (n : Nat) : List UInt8 := [UInt8.ofNat (48 + n / 100), UInt8.ofNat (48 + n / 10 % 10), UInt8.ofNat (48 + n % 10)]
def numS (server : List UInt8) (code : Nat) (tgt : List UInt8) (ps : List (List UInt8)) : List UInt8 := if 14 < ps.length then [] else makeS server (codeS code) ((if tgt = [] then [42] else tgt) :: ps)
section
variable {K : Value → St → Prop} {w0 w : World} {H R : List SL} {ds : List Deferred} {l : List UInt8}
instance digits_ok {n : Nat} [o : Hv w0 H w] : Step (Cl P 240 #[.int .i64 n] K ⟨w, ds⟩) ((1 ≤ n ∧ n ≤ 999) ∧ ∀ w', Hv w0 H w' → K (str (codeS n)) ⟨w', ds⟩) := ⟨fun ⟨hn, h⟩ => by
  refine s240 ?_
  have q1 : (n : Int).tdiv 100 = ((n / 100 : Nat) : Int) := by rw [Int.tdiv_eq_ediv_of_nonneg (by omega)]; omega
  have q2 : (n : Int).tdiv 10 = ((n / 10 : Nat) : Int) := by rw [Int.tdiv_eq_ediv_of_nonneg (by omega)]; omega
  have q3 : ((n / 10 : Nat) : Int).tmod 10 = ((n / 10 % 10 : Nat) : Int) := by rw [Int.tmod_eq_emod_of_nonneg (by omega)]; omega
  have q4 : (n : Int).tmod 10 = ((n % 10 : Nat) : Int) := by rw [Int.tmod_eq_emod_of_nonneg (by omega)]; omega
  have q5 : ((n : Int).tdiv 10).tmod 10 = ((n / 10 % 10 : Nat) : Int) := by rw [q2, q3]
  have e1 : (48 + (n : Int).tdiv 100).toNat = 48 + n / 100 := by omega
  have e2 : (48 + ((n : Int).tdiv 10).tmod 10).toNat = 48 + n / 10 % 10 := by omega
  have e3 : (48 + (n : Int).tmod 10).toNat = 48 + n % 10 := by omega
  unfold D240
  dsimp only
  repeat' (first | refine go ?_ | intro _ | refine ⟨sb, ?_⟩ | refine ⟨sd, ?_⟩ | (refine ⟨fun h1 => ?_, fun h1 => ?_⟩ <;> first | exact ab h1 | ((try rw [h1]); (try simp only [bl] at h1))) | dsimp only)
  rw [e1, e2, e3]
  exact h _ (Sub.hv subEnd)⟩
variable {xp : Value} {ps : List (List UInt8)} {np : Nat} {zp : List Value} {server tgt : List UInt8}
instance numeric_ok {n : Nat} [o : Hv w0 H w] [rp : RdsF w0 H xp 1 np zp] [ep : Strs zp ps] :
    Step (Cl P 194 #[str server, .int .i64 n, str tgt, xp] K ⟨w, ds⟩) ((server.length ≤ 10000 ∧ (1 ≤ n ∧ n ≤ 999) ∧ tgt.length ≤ 999 ∧ ps.length ≤ 1000 ∧ ∀ p ∈ ps, p.length ≤ 999) ∧ ∀ w', Hv w0 H w' → K (str (numS server n tgt ps)) ⟨w', ds⟩) := ⟨fun ⟨⟨hsl, hn, htl, hps, hpp⟩, h⟩ => by
  refine s194 ?_
  have lp : RdsL w0 H xp 1 np zp := rp.loc
  have r1 := rp.rd w o
  have em : np = ps.length := by have := r1.len; rw [ep.eq] at this; simpa using this.symm
  obtain rfl := ep.eq
  clear r1 ep
  subst em
  unfold D194
  dsimp only
  repeat' (first | refine go ?_ | intro _ | refine ⟨sb, ?_⟩ | refine ⟨sd, ?_⟩ | (refine ⟨fun h1 => ?_, fun h1 => ?_⟩ <;> first | exact ab h1 | ((try rw [h1]); (try simp only [bl] at h1))) | dsimp only)
  · have e : numS server n tgt ps = [] := by unfold numS; rw [if_pos (by omega)]
    rw [e] at h
    exact h _ o
  · refine And.intro ⟨hsl, by simp [codeS], by simp; omega, fun p hp => ?_⟩ ?_
    · rcases List.mem_append.1 hp with hp | hp
      · rw [List.mem_singleton.1 hp]; simp
      · exact hpp p hp
    intro w2 o2
    repeat' (first | refine go ?_ | intro _ | refine ⟨sb, ?_⟩ | refine ⟨sd, ?_⟩ | (refine ⟨fun h1 => ?_, fun h1 => ?_⟩ <;> first | exact ab h1 | ((try rw [h1]); (try simp only [bl] at h1))) | dsimp only)
    have e : numS server n tgt ps = makeS server (codeS n) ([[42]] ++ ps) := by unfold numS; rw [if_neg (by omega), if_pos h1]; rfl
    rw [← e]
    exact h _ (Sub.hv subEnd)
  · refine And.intro ⟨hsl, by simp [codeS], by simp; omega, fun p hp => ?_⟩ ?_
    · rcases List.mem_append.1 hp with hp | hp
      · rw [List.mem_singleton.1 hp]; exact htl
      · exact hpp p hp
    intro w2 o2
    repeat' (first | refine go ?_ | intro _ | refine ⟨sb, ?_⟩ | refine ⟨sd, ?_⟩ | (refine ⟨fun h1 => ?_, fun h1 => ?_⟩ <;> first | exact ab h1 | ((try rw [h1]); (try simp only [bl] at h1))) | dsimp only)
    have e : numS server n tgt ps = makeS server (codeS n) ([tgt] ++ ps) := by unfold numS; rw [if_neg (by omega), if_neg h1]; rfl
    rw [← e]
    exact h _ (Sub.hv subEnd)⟩
instance who_ok {w : World} {a b c : List UInt8} : VS (Cl P 215 #[str a, str b, str c]) w (a.length ≤ 1000000 ∧ b.length ≤ 1000000 ∧ c.length ≤ 1000000) (str (a ++ [33] ++ b ++ [64] ++ c)) := ⟨fun ⟨h1, h2, h3⟩ {K ds} h => by
  refine s215 ?_
  unfold D215
  dsimp only
  repeat' (first | refine go ?_ | intro _ | refine ⟨sb, ?_⟩ | refine ⟨sd, ?_⟩ | (refine ⟨fun h1 => ?_, fun h1 => ?_⟩ <;> first | exact ab h1 | ((try rw [h1]); (try simp only [bl] at h1))) | dsimp only)
  exact h⟩
end
end Go.Proofs.YtfgdalggkknffaaGreatDoor.Mk

namespace Go.Proofs.YtfgdalggkknffaaGreatDoor
open Go.Vx Go.Lib
structure Cs.fits (x : Cs) : Prop where
  f : x.fine
  n : x.cf.name.length ≤ 10000
  k : ∀ id, (x.sign id).nick.length ≤ 999
theorem tell1_live (x : Cs) (id : Int) (l : List UInt8) (k : Int) : ∃ g : Qu → Qu, (x.tell1 id l).live k = (x.live k).map fun y => (y.1, { y.2 with q := g y.2.q }) := by
  have same : ∃ g : Qu → Qu, x.live k = (x.live k).map fun y => (y.1, { y.2 with q := g y.2.q }) := ⟨fun q => q, by cases x.live k <;> rfl⟩
  unfold Cs.tell1
  cases hl : x.live id with
  | none => exact same
  | some y =>
    dsimp only
    split
    · exact same
    · by_cases hk : k = id
      · subst hk
        refine ⟨fun q => (q.push l).1, ?_⟩
        have hg := (live_at hl).2
        rw [hl]
        unfold Cs.live Cs.set
        dsimp only
        rw [updF_at]
        dsimp only
        rw [if_neg (by rw [hg]; decide)]; rfl
      · obtain ⟨g, e⟩ := same
        refine ⟨g, Eq.trans ?_ e⟩
        unfold Cs.live Cs.set
        dsimp only
        rw [updF_ne _ hk]
theorem tell1_sign (x : Cs) (id : Int) (l : List UInt8) (k : Int) : (x.tell1 id l).sign k = x.sign k := by
  obtain ⟨g, hg⟩ := tell1_live x id l k
  unfold Cs.sign
  rw [hg]
  cases x.live k <;> rfl
theorem tell1_cf (x : Cs) (id : Int) (l : List UInt8) : (x.tell1 id l).cf = x.cf := by
  unfold Cs.tell1
  split
  · rfl
  split <;> rfl
theorem tell1_rest (x : Cs) (id : Int) (l : List UInt8) : (x.tell1 id l).cf = x.cf ∧ (x.tell1 id l).now = x.now ∧ (x.tell1 id l).n = x.n ∧ (x.tell1 id l).hold = x.hold ∧ (x.tell1 id l).rooms = x.rooms ∧ (x.tell1 id l).mon = x.mon ∧ (x.tell1 id l).watch = x.watch ∧ (x.tell1 id l).past = x.past ∧ (x.tell1 id l).pulse = x.pulse := by
  unfold Cs.tell1
  split
  · exact ⟨rfl, rfl, rfl, rfl, rfl, rfl, rfl, rfl, rfl⟩
  split <;> exact ⟨rfl, rfl, rfl, rfl, rfl, rfl, rfl, rfl, rfl⟩
theorem Cs.fits.tell1 {x : Cs} (h : x.fits) (id : Int) (l : List UInt8) : (x.tell1 id l).fits := ⟨h.f.tell1 id l, by rw [tell1_cf]; exact h.n, fun k => by rw [tell1_sign]; exact h.k k⟩
def Cs.watch1 (x : Cs) (code : Nat) (ps : List (List UInt8)) (id : Int) : Cs := x.tell1 id (Mk.numS x.cf.name code (x.sign id).nick ps)
def Cs.watchers (x : Cs) (ids : List Int) (code : Nat) (ps : List (List UInt8)) : Cs := ids.foldl (fun x id => x.watch1 code ps id) x
theorem Cs.fits.watchers {x : Cs} (h : x.fits) (ids : List Int) (code : Nat) (ps : List (List UInt8)) : (x.watchers ids code ps).fits := by
  unfold Cs.watchers
  induction ids generalizing x with
  | nil => exact h
  | cons id ids ih => exact ih (h.tell1 id _)
theorem watchers_rest (x : Cs) (ids : List Int) (code : Nat) (ps : List (List UInt8)) : (x.watchers ids code ps).cf = x.cf ∧ (x.watchers ids code ps).now = x.now ∧ (x.watchers ids code ps).n = x.n ∧ (x.watchers ids code ps).hold = x.hold ∧ (x.watchers ids code ps).rooms = x.rooms ∧ (x.watchers ids code ps).mon = x.mon ∧ (x.watchers ids code ps).watch = x.watch ∧ (x.watchers ids code ps).past = x.past ∧ (x.watchers ids code ps).pulse = x.pulse := by
  unfold Cs.watchers
  induction ids generalizing x with
  | nil => exact ⟨rfl, rfl, rfl, rfl, rfl, rfl, rfl, rfl, rfl⟩
  | cons id ids ih =>
    have h1 := ih (x.watch1 code ps id)
    have h2 := tell1_rest x id (Mk.numS x.cf.name code (x.sign id).nick ps)
    rw [List.foldl_cons]
    exact ⟨h1.1.trans h2.1, h1.2.1.trans h2.2.1, h1.2.2.1.trans h2.2.2.1, h1.2.2.2.1.trans h2.2.2.2.1, h1.2.2.2.2.1.trans h2.2.2.2.2.1, h1.2.2.2.2.2.1.trans h2.2.2.2.2.2.1, h1.2.2.2.2.2.2.1.trans h2.2.2.2.2.2.2.1, h1.2.2.2.2.2.2.2.1.trans h2.2.2.2.2.2.2.2.1, h1.2.2.2.2.2.2.2.2.trans h2.2.2.2.2.2.2.2.2⟩
theorem watchers_dying (x : Cs) (ids : List Int) (code : Nat) (ps : List (List UInt8)) : (x.watchers ids code ps).dying.length ≤ x.dying.length + ids.length := by
  unfold Cs.watchers
  induction ids generalizing x with
  | nil => exact Nat.le_refl _
  | cons id ids ih =>
    have h1 := ih (x.watch1 code ps id)
    have h2 := tell1_dying x id (Mk.numS x.cf.name code (x.sign id).nick ps)
    unfold Cs.watch1 at h1
    simp only [List.foldl_cons, List.length_cons]; unfold Cs.watch1; omega
theorem makeS_len (a b : List UInt8) (ps : List (List UInt8)) : (Mk.makeS a b ps).length ≤ 510 := by
  unfold Mk.makeS
  split
  · simp
  · rw [List.length_take]; omega
theorem numS_len (a : List UInt8) (n : Nat) (b : List UInt8) (ps : List (List UInt8)) : (Mk.numS a n b ps).length ≤ 510 := by
  unfold Mk.numS
  split
  · simp
  · exact makeS_len ..
section
set_option maxRecDepth 20000
set_option synthInstance.maxSize 100000
set_option synthInstance.maxHeartbeats 4000000
variable {K : Value → St → Prop} {w0 w : World} {H R R2 : List SL} {ds : List Deferred} {p n : Nat} {v : Value} {l : List UInt8} {z id : Int} {x : Cs} {y : Nat × Cn} {q : Ptrs} {code : Nat} {nick : List UInt8} {xs : List Value} {ps : List (List UInt8)}
instance {x : Sgn} {w : World} : VT (Vx.Fd P 190 (sgnV x) 3) w (str x.nick) := VT.of (by kernel_rfl)
theorem watchM_ok [r : RowIn R v 9 1 n xs R2] [e : Strs xs ps]
    (o : Hv w0 (coreB p x.cf x.now q :: mapO q.m intV connR x.conns x.n :: bookR q.h x.hold :: roomsR q.r x.rooms :: wishR q.mo x.mon :: wishR q.wa x.watch :: wasR q.pa x.past :: Pl.pulR q.pu x.pulse :: row 3 1 q.vd x.dying.length (x.dying.map intV) :: R) w)
    (hs : ((x.fits ∧ x.mon.rel.fit) ∧ x.dying.length + (x.mon.rel.byS (foldS nick)).length ≤ 1000000) ∧ (nick.length ≤ 1000000 ∧ 1 ≤ code ∧ code ≤ 999) ∧ ps.length ≤ 1000 ∧ ∀ u ∈ ps, u.length ≤ 999)
    (h : ∀ w', Hv w0 (coreR p (x.watchers (x.mon.rel.byS (foldS nick)) code ps) :: R2) w' → K (.tuple #[]) ⟨w', ds⟩) :
    Cl P 222 #[.pointer (some ⟨p, 0, none⟩), ptrV q.mo, str nick, .int .i64 code, v] K ⟨w, ds⟩ := by
  obtain ⟨⟨⟨hf, hr⟩, hd⟩, ⟨hn, hc⟩, hp1, hp2⟩ := hs
  obtain rfl := e.eq
  refine s222 ?_
  unfold D222
  repeat' (first | refine go ?_ | intro _ | refine ⟨sb, ?_⟩ | refine ⟨sd, ?_⟩ | (refine ⟨fun h1 => ?_, fun h1 => ?_⟩ <;> first | exact ab h1 | ((try rw [h1]); (try simp only [bl] at h1))) | dsimp only)
  rename_i b1 w1 o1 b2 w2 o2 b3 w3 o3 bq vq w4 o4
  clear o o1 o2 o3
  have o5 : Hv w0 (coreR p x :: box b1 99 [.pointer (some ⟨p, 0, none⟩)] :: box b2 3 [.int .i64 code] :: box b3 43 [v] :: row 9 1 v n (ps.map str) :: many R2 :: box bq 133 [vq] :: row 3 1 vq (x.mon.rel.byS (foldS nick)).length ((x.mon.rel.byS (foldS nick)).map intV) :: []) w4 :=
    core_shut (Sub.hv (subBox rfl (subT (subTail rfl rfl rfl rfl rfl rfl rfl rfl (subBox rfl (subBox rfl (subBox rfl (subRow rfl rfl (Sub.rest (subBox rfl (subRow rfl rfl subEnd)))))))))))
  clear o4
  have one1 : One w4 vq := inferInstance
  have one2 : ∀ w, One w vq := fun w => ⟨one1.eq⟩
  generalize hL : x.mon.rel.byS (foldS nick) = L at *
  have rl2 : RdsL w0 (row 3 1 vq L.length (L.map intV) :: []) vq 1 L.length (L.map intV) := RdsF.loc inferInstance
  refine rf_go (w0 := w0) (box bq 133 [vq] :: row 3 1 vq L.length (L.map intV) :: []) (fun i => many [coreR p (x.watchers (L.take i) code ps), box b1 99 [.pointer (some ⟨p, 0, none⟩)], box b2 3 [.int .i64 code], box b3 43 [v], row 9 1 v n (ps.map str), many R2])
    (fun _ => lift False) (fun _ _ => lift False) (valI_seq (ss := L) bq) (fun _ => rfl) ?_ ?_ ?_ (fun b i x w' _ h => h.lifted.elim) (fun b j i x w' _ h => h.lifted.elim)
  · exact Sub.hv (Sub.many (subK rfl (subBox rfl (subBox rfl (subBox rfl (subRow rfl rfl (subA (A := many R2) (subBox rfl (subRow rfl rfl subEnd)))))))))
  · intro b l1 rc R1 F w4 i k hi o6 hn2 hr2 hx2
    have o7 := o6.opens
    simp only [List.cons_append, List.nil_append, List.headD_cons, List.tail_cons] at o7 ⊢
    have hlt := (List.getElem?_eq_some_iff.1 hi).1
    have hk : L.getD i default = k := by rw [List.getD_eq_getElem?_getD, hi]; rfl
    clear o5 o6
    have es : x.watchers (L.take (i + 1)) code ps = (x.watchers (L.take i) code ps).tell k [Mk.numS (x.watchers (L.take i) code ps).cf.name code ((x.watchers (L.take i) code ps).sign k).nick ps] := by
      unfold Cs.watchers
      rw [take_snoc hlt, List.foldl_append, hk]; rfl
    have hfx := hf.watchers (L.take i) code ps
    have hdx := watchers_dying x (L.take i) code ps
    have hcf := (watchers_rest x (L.take i) code ps).1
    rw [List.length_take] at hdx
    rw [es] at hn2
    generalize x.watchers (L.take i) code ps = x1 at *
    have g1 := hfx.n
    have g2 := hfx.k k
    have g3 := hfx.f
    have g4 := numS_len x1.cf.name code (x1.sign k).nick ps
    obtain ⟨q1, oq⟩ := core_open o7
    clear o7
    repeat' (first | refine go ?_ | intro _ | refine ⟨sb, ?_⟩ | refine ⟨sd, ?_⟩ | (refine ⟨fun h1 => ?_, fun h1 => ?_⟩ <;> first | exact ab h1 | ((try rw [h1]); (try simp only [bl] at h1))) | dsimp only)
    rename_i w5 o8
    have o9 : Hv w0 (coreR p x1 :: box b1 99 [.pointer (some ⟨p, 0, none⟩)] :: box b2 3 [.int .i64 code] :: box b3 43 [v] :: row 9 1 v n (ps.map str) :: many R2 :: lpB rc l1 :: dfb b :: F) w5 :=
      core_shut (Sub.hv (subBox rfl (subT (subTail rfl rfl rfl rfl rfl rfl rfl rfl (subBox rfl (subBox rfl (subBox rfl (subRow rfl rfl (subA (A := many R2) (subA (A := lpB rc l1) subEnd))))))))))
    clear o8 oq
    refine go ?_
    intro w6 o10
    obtain ⟨q2, o11⟩ := core_open o10
    clear o9 o10
    repeat' (first | refine go ?_ | intro _ | refine ⟨sb, ?_⟩ | refine ⟨sd, ?_⟩ | (refine ⟨fun h1 => ?_, fun h1 => ?_⟩ <;> first | exact ab h1 | ((try rw [h1]); (try simp only [bl] at h1))) | dsimp only)
    rename_i w7 o12 va w8 o13
    have o14 : Hv w0 (coreR p x1 :: row 9 1 va 1 [str (Mk.numS x1.cf.name code (x1.sign k).nick ps)] :: box b1 99 [.pointer (some ⟨p, 0, none⟩)] :: box b2 3 [.int .i64 code] :: box b3 43 [v] :: row 9 1 v n (ps.map str) :: many R2 :: lpB rc l1 :: dfb b :: F) w8 :=
      core_shut (Sub.hv (subBox rfl (subT (subTail rfl rfl rfl rfl rfl rfl rfl rfl (subRow rfl rfl (subBox rfl (subBox rfl (subBox rfl (subRow rfl rfl (subA (A := many R2) (subA (A := lpB rc l1) subEnd)))))))))))
    clear o11 o12 o13
    refine (Tell_ok (ls := [Mk.numS x1.cf.name code (x1.sign k).nick ps])).prf ⟨⟨⟨g3, fun u hu => ?_⟩, ?_⟩, ?_⟩
    · rw [List.mem_singleton.1 hu]; omega
    · omega
    intro w9 o15
    clear o14
    repeat' (first | refine go ?_ | intro _ | refine ⟨sb, ?_⟩ | refine ⟨sd, ?_⟩ | (refine ⟨fun h1 => ?_, fun h1 => ?_⟩ <;> first | exact ab h1 | ((try rw [h1]); (try simp only [bl] at h1))) | dsimp only)
    exact hn2 _ (Sub.hv (Sub.many (subK rfl (subBox rfl (subBox rfl (subBox rfl (subRow rfl rfl (subA (A := many R2) (subA (A := lpR rc l1) subEnd)))))))))
  · intro b w6 o6
    have o7 := o6.opens
    simp only [List.cons_append, List.nil_append, List.take_length] at o7
    clear o5 o6
    repeat' (first | refine go ?_ | intro _ | refine ⟨sb, ?_⟩ | refine ⟨sd, ?_⟩ | (refine ⟨fun h1 => ?_, fun h1 => ?_⟩ <;> first | exact ab h1 | ((try rw [h1]); (try simp only [bl] at h1))) | dsimp only)
    exact h _ (Sub.hv (Sub.unrest (subK rfl (subA (A := many R2) subEnd))))
theorem watchW_ok [r : RowIn R v 9 1 n xs R2] [e : Strs xs ps]
    (o : Hv w0 (coreB p x.cf x.now q :: mapO q.m intV connR x.conns x.n :: bookR q.h x.hold :: roomsR q.r x.rooms :: wishR q.mo x.mon :: wishR q.wa x.watch :: wasR q.pa x.past :: Pl.pulR q.pu x.pulse :: row 3 1 q.vd x.dying.length (x.dying.map intV) :: R) w)
    (hs : ((x.fits ∧ x.watch.rel.fit) ∧ x.dying.length + (x.watch.rel.byS (foldS nick)).length ≤ 1000000) ∧ (nick.length ≤ 1000000 ∧ 1 ≤ code ∧ code ≤ 999) ∧ ps.length ≤ 1000 ∧ ∀ u ∈ ps, u.length ≤ 999)
    (h : ∀ w', Hv w0 (coreR p (x.watchers (x.watch.rel.byS (foldS nick)) code ps) :: R2) w' → K (.tuple #[]) ⟨w', ds⟩) :
    Cl P 222 #[.pointer (some ⟨p, 0, none⟩), ptrV q.wa, str nick, .int .i64 code, v] K ⟨w, ds⟩ := by
  obtain ⟨⟨⟨hf, hr⟩, hd⟩, ⟨hn, hc⟩, hp1, hp2⟩ := hs
  obtain rfl := e.eq
  refine s222 ?_
  unfold D222
  repeat' (first | refine go ?_ | intro _ | refine ⟨sb, ?_⟩ | refine ⟨sd, ?_⟩ | (refine ⟨fun h1 => ?_, fun h1 => ?_⟩ <;> first | exact ab h1 | ((try rw [h1]); (try simp only [bl] at h1))) | dsimp only)
  rename_i b1 w1 o1 b2 w2 o2 b3 w3 o3 bq vq w4 o4
  clear o o1 o2 o3
  have o5 : Hv w0 (coreR p x :: box b1 99 [.pointer (some ⟨p, 0, none⟩)] :: box b2 3 [.int .i64 code] :: box b3 43 [v] :: row 9 1 v n (ps.map str) :: many R2 :: box bq 133 [vq] :: row 3 1 vq (x.watch.rel.byS (foldS nick)).length ((x.watch.rel.byS (foldS nick)).map intV) :: []) w4 :=
    core_shut (Sub.hv (subBox rfl (subT (subTail rfl rfl rfl rfl rfl rfl rfl rfl (subBox rfl (subBox rfl (subBox rfl (subRow rfl rfl (Sub.rest (subBox rfl (subRow rfl rfl subEnd)))))))))))
  clear o4
  have one1 : One w4 vq := inferInstance
  have one2 : ∀ w, One w vq := fun w => ⟨one1.eq⟩
  generalize hL : x.watch.rel.byS (foldS nick) = L at *
  have rl2 : RdsL w0 (row 3 1 vq L.length (L.map intV) :: []) vq 1 L.length (L.map intV) := RdsF.loc inferInstance
  refine rf_go (w0 := w0) (box bq 133 [vq] :: row 3 1 vq L.length (L.map intV) :: []) (fun i => many [coreR p (x.watchers (L.take i) code ps), box b1 99 [.pointer (some ⟨p, 0, none⟩)], box b2 3 [.int .i64 code], box b3 43 [v], row 9 1 v n (ps.map str), many R2])
    (fun _ => lift False) (fun _ _ => lift False) (valI_seq (ss := L) bq) (fun _ => rfl) ?_ ?_ ?_ (fun b i x w' _ h => h.lifted.elim) (fun b j i x w' _ h => h.lifted.elim)
  · exact Sub.hv (Sub.many (subK rfl (subBox rfl (subBox rfl (subBox rfl (subRow rfl rfl (subA (A := many R2) (subBox rfl (subRow rfl rfl subEnd)))))))))
  · intro b l1 rc R1 F w4 i k hi o6 hn2 hr2 hx2
    have o7 := o6.opens
    simp only [List.cons_append, List.nil_append, List.headD_cons, List.tail_cons] at o7 ⊢
    have hlt := (List.getElem?_eq_some_iff.1 hi).1
    have hk : L.getD i default = k := by rw [List.getD_eq_getElem?_getD, hi]; rfl
    clear o5 o6
    have es : x.watchers (L.take (i + 1)) code ps = (x.watchers (L.take i) code ps).tell k [Mk.numS (x.watchers (L.take i) code ps).cf.name code ((x.watchers (L.take i) code ps).sign k).nick ps] := by
      unfold Cs.watchers
      rw [take_snoc hlt, List.foldl_append, hk]; rfl
    have hfx := hf.watchers (L.take i) code ps
    have hdx := watchers_dying x (L.take i) code ps
    have hcf := (watchers_rest x (L.take i) code ps).1
    rw [List.length_take] at hdx
    rw [es] at hn2
    generalize x.watchers (L.take i) code ps = x1 at *
    have g1 := hfx.n
    have g2 := hfx.k k
    have g3 := hfx.f
    have g4 := numS_len x1.cf.name code (x1.sign k).nick ps
    obtain ⟨q1, oq⟩ := core_open o7
    clear o7
    repeat' (first | refine go ?_ | intro _ | refine ⟨sb, ?_⟩ | refine ⟨sd, ?_⟩ | (refine ⟨fun h1 => ?_, fun h1 => ?_⟩ <;> first | exact ab h1 | ((try rw [h1]); (try simp only [bl] at h1))) | dsimp only)
    rename_i w5 o8
    have o9 : Hv w0 (coreR p x1 :: box b1 99 [.pointer (some ⟨p, 0, none⟩)] :: box b2 3 [.int .i64 code] :: box b3 43 [v] :: row 9 1 v n (ps.map str) :: many R2 :: lpB rc l1 :: dfb b :: F) w5 :=
      core_shut (Sub.hv (subBox rfl (subT (subTail rfl rfl rfl rfl rfl rfl rfl rfl (subBox rfl (subBox rfl (subBox rfl (subRow rfl rfl (subA (A := many R2) (subA (A := lpB rc l1) subEnd))))))))))
    clear o8 oq
    refine go ?_
    intro w6 o10
    obtain ⟨q2, o11⟩ := core_open o10
    clear o9 o10
    repeat' (first | refine go ?_ | intro _ | refine ⟨sb, ?_⟩ | refine ⟨sd, ?_⟩ | (refine ⟨fun h1 => ?_, fun h1 => ?_⟩ <;> first | exact ab h1 | ((try rw [h1]); (try simp only [bl] at h1))) | dsimp only)
    rename_i w7 o12 va w8 o13
    have o14 : Hv w0 (coreR p x1 :: row 9 1 va 1 [str (Mk.numS x1.cf.name code (x1.sign k).nick ps)] :: box b1 99 [.pointer (some ⟨p, 0, none⟩)] :: box b2 3 [.int .i64 code] :: box b3 43 [v] :: row 9 1 v n (ps.map str) :: many R2 :: lpB rc l1 :: dfb b :: F) w8 :=
      core_shut (Sub.hv (subBox rfl (subT (subTail rfl rfl rfl rfl rfl rfl rfl rfl (subRow rfl rfl (subBox rfl (subBox rfl (subBox rfl (subRow rfl rfl (subA (A := many R2) (subA (A := lpB rc l1) subEnd)))))))))))
    clear o11 o12 o13
    refine (Tell_ok (ls := [Mk.numS x1.cf.name code (x1.sign k).nick ps])).prf ⟨⟨⟨g3, fun u hu => ?_⟩, ?_⟩, ?_⟩
    · rw [List.mem_singleton.1 hu]; omega
    · omega
    intro w9 o15
    clear o14
    repeat' (first | refine go ?_ | intro _ | refine ⟨sb, ?_⟩ | refine ⟨sd, ?_⟩ | (refine ⟨fun h1 => ?_, fun h1 => ?_⟩ <;> first | exact ab h1 | ((try rw [h1]); (try simp only [bl] at h1))) | dsimp only)
    exact hn2 _ (Sub.hv (Sub.many (subK rfl (subBox rfl (subBox rfl (subBox rfl (subRow rfl rfl (subA (A := many R2) (subA (A := lpR rc l1) subEnd)))))))))
  · intro b w6 o6
    have o7 := o6.opens
    simp only [List.cons_append, List.nil_append, List.take_length] at o7
    clear o5 o6
    repeat' (first | refine go ?_ | intro _ | refine ⟨sb, ?_⟩ | refine ⟨sd, ?_⟩ | (refine ⟨fun h1 => ?_, fun h1 => ?_⟩ <;> first | exact ab h1 | ((try rw [h1]); (try simp only [bl] at h1))) | dsimp only)
    exact h _ (Sub.hv (Sub.unrest (subK rfl (subA (A := many R2) subEnd))))
end
end Go.Proofs.YtfgdalggkknffaaGreatDoor

namespace Go.Proofs.YtfgdalggkknffaaGreatDoor
open Go.Vx Go.Lib
def whoS (u : Per) : List UInt8 := u.nick ++ [33] ++ u.user ++ [64] ++ u.host
structure Per.fits (u : Per) : Prop where
  a : u.nick.length ≤ 300
  b : u.user.length ≤ 300
  c : u.host.length ≤ 300
  d : InR u.sig
structure Cs.calm (x : Cs) : Prop where
  f : x.fits
  m : x.mon.rel.fit
  w : x.watch.rel.fit
  mb : ∀ l, (x.mon.rel.byS l).length ≤ 1000
  wb : ∀ l, (x.watch.rel.byS l).length ≤ 1000
  now : InR x.now
theorem Cs.calm.watchers {x : Cs} (h : x.calm) (ids : List Int) (code : Nat) (ps : List (List UInt8)) : (x.watchers ids code ps).calm := by
  obtain ⟨h1, h2, h3, h4, h5, h6, h7, h8, h9⟩ := watchers_rest x ids code ps
  exact ⟨h.f.watchers ids code ps, h6 ▸ h.m, h7 ▸ h.w, h6 ▸ h.mb, h7 ▸ h.wb, h2 ▸ h.now⟩
def onW : List UInt8 := [108, 111, 103, 103, 101, 100, 32, 111, 110, 108, 105, 110, 101]
def offW : List UInt8 := [108, 111, 103, 103, 101, 100, 32, 111, 102, 102, 108, 105, 110, 101]
def Cs.online (x : Cs) (u : Per) : Cs := (x.watchers (x.mon.rel.byS (foldS u.nick)) 730 [whoS u]).watchers (x.watch.rel.byS (foldS u.nick)) 600 [u.nick, u.user, u.host, itoa u.sig, onW]
def Cs.offline (x : Cs) (u : Per) : Cs := (x.watchers (x.mon.rel.byS (foldS u.nick)) 731 [u.nick]).watchers (x.watch.rel.byS (foldS u.nick)) 601 [u.nick, u.user, u.host, itoa x.now, offW]
theorem itoa_len (n : Int) (h : InR n) : (itoa n).length ≤ 100 := by
  have := itoa_length_le n h.1 h.2
  omega
section
set_option maxRecDepth 20000
set_option synthInstance.maxSize 100000
set_option synthInstance.maxHeartbeats 4000000
variable {K : Value → St → Prop} {w0 w : World} {H R R2 : List SL} {ds : List Deferred} {p n : Nat} {v : Value} {l : List UInt8} {z id : Int} {x : Cs} {y : Nat × Cn} {q : Ptrs} {code : Nat} {nick : List UInt8} {xs : List Value} {ps : List (List UInt8)} {u : Per}
instance pwho_ok [o : Hv w0 H w] : Step (Cl P 161 #[perV u] K ⟨w, ds⟩) ((u.nick.length ≤ 100000 ∧ u.user.length ≤ 100000 ∧ u.host.length ≤ 100000) ∧ ∀ w', Hv w0 H w' → K (str (whoS u)) ⟨w', ds⟩) := ⟨fun ⟨⟨h1, h2, h3⟩, h⟩ => by
  refine s161 ?_
  unfold D161
  repeat' (first | refine go ?_ | intro _ | refine ⟨sb, ?_⟩ | refine ⟨sd, ?_⟩ | (refine ⟨fun h1 => ?_, fun h1 => ?_⟩ <;> first | exact ab h1 | ((try rw [h1]); (try simp only [bl] at h1))) | dsimp only)
  exact h _ (Sub.hv subEnd)⟩
instance online_ok [o : Hv w0 H w] [i : InK coreR p H x R] [tb : PowT w0] : Step (Cl P 429 #[.pointer (some ⟨p, 0, none⟩), perV u] K ⟨w, ds⟩)
    ((x.calm ∧ u.fits ∧ x.dying.length ≤ 900000) ∧ ∀ w', Hv w0 (coreR p (x.online u) :: R) w' → K (.tuple #[]) ⟨w', ds⟩) := ⟨fun ⟨⟨hc, hu, hd⟩, h⟩ => by
  have o0 := i.hv o
  obtain ⟨q, o1⟩ := core_open o0
  clear o o0
  have u1 := hu.a
  have u2 := hu.b
  have u3 := hu.c
  have u4 := hu.d
  refine s429 ?_
  unfold D429
  repeat' (first | refine go ?_ | intro _ | refine ⟨sb, ?_⟩ | refine ⟨sd, ?_⟩ | (refine ⟨fun h1 => ?_, fun h1 => ?_⟩ <;> first | exact ab h1 | ((try rw [h1]); (try simp only [bl] at h1))) | dsimp only)
  rename_i b1 w1 o2 wx ox wy oy va w2 o3
  clear o1 o2 ox oy
  have lw : (whoS u).length ≤ 902 := by unfold whoS; simp; omega
  refine watchM_ok (x := x) (q := q) (R := row 9 1 va 1 [str (whoS u)] :: box b1 125 (encP u) :: R) (ps := [whoS u]) (code := 730) (Sub.hv (subBox rfl (subT (subTail rfl rfl rfl rfl rfl rfl rfl rfl (subRow rfl rfl (subBox rfl subEnd)))))) ⟨⟨⟨hc.f, hc.m⟩, ?_⟩, ⟨by omega, by decide, by decide⟩, by simp, fun t ht => ?_⟩ ?_
  · have := hc.mb (foldS u.nick); omega
  · rw [List.mem_singleton.1 ht]; omega
  intro w3 o4
  clear o3
  have hc1 := hc.watchers (x.mon.rel.byS (foldS u.nick)) 730 [whoS u]
  have hd1 := watchers_dying x (x.mon.rel.byS (foldS u.nick)) 730 [whoS u]
  have hm1 := hc.mb (foldS u.nick)
  have ew := (watchers_rest x (x.mon.rel.byS (foldS u.nick)) 730 [whoS u]).2.2.2.2.2.2.1
  unfold Cs.online at h
  generalize x.watchers (x.mon.rel.byS (foldS u.nick)) 730 [whoS u] = x1 at *
  rw [← ew] at h
  obtain ⟨q1, o5⟩ := core_open o4
  clear o4
  repeat' (first | refine go ?_ | intro _ | refine ⟨sb, ?_⟩ | refine ⟨sd, ?_⟩ | (refine ⟨fun h1 => ?_, fun h1 => ?_⟩ <;> first | exact ab h1 | ((try rw [h1]); (try simp only [bl] at h1))) | dsimp only)
  rename_i w4 o6 vb w5 o7
  clear o5 o6
  have li := itoa_len u.sig u4
  refine watchW_ok (x := x1) (q := q1) (R := row 9 1 vb 5 [str u.nick, str u.user, str u.host, str (itoa u.sig), str onW] :: box b1 125 (encP u) :: R) (ps := [u.nick, u.user, u.host, itoa u.sig, onW]) (code := 600) (Sub.hv (subBox rfl (subT (subTail rfl rfl rfl rfl rfl rfl rfl rfl (subRow rfl rfl (subBox rfl subEnd)))))) ⟨⟨⟨hc1.f, hc1.w⟩, ?_⟩, ⟨by omega, by decide, by decide⟩, by simp, fun t ht => ?_⟩ ?_
  · have := hc1.wb (foldS u.nick); omega
  · simp only [List.mem_cons, List.not_mem_nil, or_false] at ht
    rcases ht with rfl | rfl | rfl | rfl | rfl
    all_goals first | omega | decide
  intro w6 o8
  clear o7
  repeat' (first | refine go ?_ | intro _ | refine ⟨sb, ?_⟩ | refine ⟨sd, ?_⟩ | (refine ⟨fun h1 => ?_, fun h1 => ?_⟩ <;> first | exact ab h1 | ((try rw [h1]); (try simp only [bl] at h1))) | dsimp only)
  exact h _ (Sub.hv (subK rfl subEnd))⟩
end
end Go.Proofs.YtfgdalggkknffaaGreatDoor

namespace Go.Proofs.YtfgdalggkknffaaGreatDoor
open Go.Vx Go.Lib Mk
instance cutP0_ok {w : World} {l : List UInt8} {c : UInt8} : VS (Cl P 314 #[str l, str [c]]) w ((l.length : Int) ≤ 1000000000) (.tuple #[str (if hd l c then l.drop 1 else l), .bool (hd l c)]) := ⟨fun hb {K ds} h => by
  refine s314 ?_
  unfold D314
  dsimp only
  have e1 : [c].length = 1 := rfl
  repeat (first | refine go ?_ | intro _ | refine ⟨sb, ?_⟩ | refine ⟨sd, ?_⟩ | dsimp only)
  refine And.intro (fun h1 => ?_) (fun h1 => ?_)
  · have h2 : hd l c = false := by simpa using h1
    rw [h2] at h
    repeat' (first | refine go ?_ | intro _ | refine ⟨sb, ?_⟩ | refine ⟨sd, ?_⟩ | (refine ⟨fun h1 => ?_, fun h1 => ?_⟩ <;> first | exact ab h1 | ((try rw [h1]); (try simp only [bl] at h1))) | dsimp only)
    exact h
  · have h2 : hd l c = true := by simpa using h1
    obtain ⟨t, rfl⟩ := hd_true h2
    rw [h2] at h
    have h3 : ((c :: t).length : Int) = (t.length : Int) + 1 := by simp
    repeat' (first | refine go ?_ | intro _ | refine ⟨sb, ?_⟩ | refine ⟨sd, ?_⟩ | (refine ⟨fun h1 => ?_, fun h1 => ?_⟩ <;> first | exact ab h1 | ((try rw [h1]); (try simp only [bl] at h1))) | dsimp only)
    exact h⟩
instance cutP_ok {w : World} {l : List UInt8} {c : UInt8} : VS (Cl P 250 #[str l, str [c]]) w ((l.length : Int) ≤ 1000000000) (.tuple #[str (if hd l c then l.drop 1 else l), .bool (hd l c)]) := ⟨fun hb {K ds} h => by
  refine s250 ?_
  unfold D250
  dsimp only
  repeat' (first | refine go ?_ | intro _ | refine ⟨sb, ?_⟩ | refine ⟨sd, ?_⟩ | (refine ⟨fun h1 => ?_, fun h1 => ?_⟩ <;> first | exact ab h1 | ((try rw [h1]); (try simp only [bl] at h1))) | dsimp only)
  exact h⟩
instance trimLeft_ok {w : World} {l : List UInt8} : VT (Cl P 244 #[str l, .string ⟨#[32]⟩]) w (str (trimL l 32)) := ⟨fun {K ds} h => by
  refine s244 ?_
  unfold D244
  dsimp only
  repeat' (first | refine go ?_ | intro _ | refine ⟨sb, ?_⟩ | refine ⟨sd, ?_⟩ | (refine ⟨fun h1 => ?_, fun h1 => ?_⟩ <;> first | exact ab h1 | ((try rw [h1]); (try simp only [bl] at h1))) | dsimp only)
  · have e : l = [] := by simpa using h1
    subst e
    exact h
  · exact h⟩
def wordB (s : List UInt8) : List UInt8 := s.takeWhile (· != 32)
def restB (s : List UInt8) : List UInt8 := trimL (s.dropWhile (· != 32)) 32
def pgo : Nat → List UInt8 → List (List UInt8) → List (List UInt8)
  | 0, _, out => out
  | f + 1, r, out => if r = [] then out else if hd r 58 then out ++ [r.drop 1] else if out.length = 14 then out ++ [r] else pgo f (restB r) (out ++ [wordB r])
def paramsM (r : List UInt8) : List (List UInt8) := pgo r.length r []
theorem pgo_nil (f : Nat) (out : List (List UInt8)) : pgo f [] out = out := by cases f <;> simp [pgo]
theorem pgo_step {f : Nat} {r : List UInt8} {out : List (List UInt8)} (h1 : r ≠ []) (h2 : hd r 58 = false) (h3 : out.length ≠ 14) : pgo (f + 1) r out = pgo f (restB r) (out ++ [wordB r]) := by
  rw [pgo, if_neg h1, h2, if_neg (by decide), if_neg h3]
theorem pgo_colon {f : Nat} {p : List UInt8} {out : List (List UInt8)} : pgo (f + 1) (58 :: p) out = out ++ [p] := by
  rw [pgo, if_neg (by simp), hd_cons]; simp
theorem pgo_last {f : Nat} {r : List UInt8} {out : List (List UInt8)} (h1 : r ≠ []) (h2 : hd r 58 = false) (h3 : out.length = 14) : pgo (f + 1) r out = out ++ [r] := by
  rw [pgo, if_neg h1, h2, if_neg (by decide), if_pos h3]
theorem cut_word (l : List UInt8) : (cutB l 32).1 = wordB l ∧ trimL (cutB l 32).2.1 32 = restB l := by
  unfold wordB restB
  induction l with
  | nil => exact ⟨rfl, rfl⟩
  | cons b l ih =>
    unfold cutB at ih ⊢
    rw [List.findIdx?_cons]
    by_cases hb : b = 32
    · subst hb; simp [trimL]
    · have h1 : (b == 32) = false := by simpa using hb
      rw [h1]
      simp only [List.takeWhile_cons, List.dropWhile_cons, bne, h1, Bool.not_false, if_true]
      cases hf : l.findIdx? (· == 32) with
      | none => rw [hf] at ih; simp [bne] at ih ⊢; exact ih
      | some i => rw [hf] at ih; simp [bne] at ih ⊢; exact ih
theorem rest_lt {r : List UInt8} (h : r ≠ []) : (restB r).length < r.length := by
  have h1 : ∀ s : List UInt8, (trimL s 32).length ≤ s.length := fun s => (List.dropWhile_suffix _).length_le
  cases r with
  | nil => exact absurd rfl h
  | cons b r =>
    unfold restB
    by_cases hb : b = 32
    · subst hb
      simp only [List.dropWhile_cons, bne_self_eq_false, Bool.false_eq_true, if_false]
      have : trimL (32 :: r) 32 = trimL r 32 := by simp [trimL]
      rw [this]
      have := h1 r
      simp only [List.length_cons]; omega
    · have : (b != 32) = true := by simpa using hb
      rw [List.dropWhile_cons, if_pos this]
      have := h1 (r.dropWhile (· != 32))
      have h2 : (r.dropWhile (· != 32)).length ≤ r.length := (List.dropWhile_suffix _).length_le
      simp only [List.length_cons]; omega
theorem word_len (r : List UInt8) : (wordB r).length ≤ r.length := (List.takeWhile_prefix _).length_le
theorem rest_len (r : List UInt8) : (restB r).length ≤ r.length := by
  unfold restB trimL
  exact Nat.le_trans (List.dropWhile_suffix _).length_le (List.dropWhile_suffix _).length_le
structure Mg where
  (pre cmd : List UInt8)
  ps : List (List UInt8)
def Mg.none : Mg := ⟨[], [], []⟩
def pC (pre r : List UInt8) : Mg × Int := if r = [] then (.none, 11) else if !cmdB (wordB r) then (.none, 4) else (⟨pre, capsS (wordB r), paramsM (restB r)⟩, 0)
def pM (r : List UInt8) : Mg × Int := if hd r 58 then (if wordB (r.drop 1) = [] then (.none, 9) else pC (wordB (r.drop 1)) (restB (r.drop 1))) else pC [] r
def parseP (s : List UInt8) : Mg × Int := if 510 < s.length then (.none, 3) else if !txtB s then (.none, 10) else pM s
section
set_option maxRecDepth 20000
set_option synthInstance.maxSize 100000
set_option synthInstance.maxHeartbeats 4000000
variable {K : Value → St → Prop} {w0 w : World} {H R : List SL} {ds : List Deferred} {l : List UInt8}
instance part_ok [o : Hv w0 H w] : Step (Cl P 198 #[str l] K ⟨w, ds⟩) (l.length ≤ 1000000 ∧ ∀ w', Hv w0 H w' → K (.tuple #[str (wordB l), str (restB l)]) ⟨w', ds⟩) := ⟨fun ⟨hl, h⟩ => by
  refine s198 ?_
  unfold D198
  repeat' (first | refine go ?_ | intro _ | refine ⟨sb, ?_⟩ | refine ⟨sd, ?_⟩ | (refine ⟨fun h1 => ?_, fun h1 => ?_⟩ <;> first | exact ab h1 | ((try rw [h1]); (try simp only [bl] at h1))) | dsimp only)
  rename_i w1 o1
  rw [(cut_word l).1, (cut_word l).2]
  exact h _ o1⟩
instance params_ok [o : Hv w0 H w] : Step (Cl P 200 #[str l] K ⟨w, ds⟩) (l.length ≤ 100000 ∧ ∀ v w', Hv w0 (row 9 1 v (paramsM l).length ((paramsM l).map str) :: H) w' → K v ⟨w', ds⟩) := ⟨fun ⟨hl, h⟩ => by
  refine s200 ?_
  unfold D200
  dsimp only
  refine j1_any (fun x s => ∃ w', s = ⟨w', []⟩ ∧ Hv w0 (row 9 1 x (paramsM l).length ((paramsM l).map str) :: H) w') ?_ ?_
  · refine ⟨fun x y s => ∃ (f : Nat) (m : List UInt8) (out : List (List UInt8)) (v : Value) (w' : World), x = str m ∧ y = v ∧ s = ⟨w', []⟩ ∧ m.length ≤ f ∧ pgo f m out = paramsM l ∧ m.length ≤ l.length ∧ out.length ≤ 14 ∧ Hv w0 (row 9 1 v out.length (out.map str) :: H) w',
      fun x _ s => match x with | .string b => b.size | _ => 0, ⟨l.length, l, [], _, w, rfl, rfl, rfl, Nat.le_refl _, rfl, Nat.le_refl _, by simp, Hv.nilRow 9 1 o⟩, ?_⟩
    rintro x y s ⟨f, m, out, v, w1, rfl, rfl, rfl, hf, he, hm, ho, o1⟩
    clear o
    by_cases hne : m = []
    · subst hne
      rw [pgo_nil] at he
      subst he
      repeat' (first | refine go ?_ | intro _ | refine ⟨sb, ?_⟩ | refine ⟨sd, ?_⟩ | (refine ⟨fun h1 => ?_, fun h1 => ?_⟩ <;> first | exact ab h1 | ((try rw [h1]); (try simp only [bl] at h1))) | dsimp only)
      all_goals first
        | (exfalso; simp at h1; done)
        | exact ⟨_, rfl, o1⟩
    · cases f with
      | zero => exact absurd (List.eq_nil_of_length_eq_zero (by omega)) hne
      | succ f =>
        have hw := word_len m
        have hr := rest_len m
        have hlt := rest_lt hne
        repeat' (first | refine go ?_ | intro _ | refine ⟨sb, ?_⟩ | refine ⟨sd, ?_⟩ | (refine ⟨fun h1 => ?_, fun h1 => ?_⟩ <;> first | exact ab h1 | ((try rw [h1]); (try simp only [bl] at h1))) | dsimp only)
        all_goals first
          | (exfalso; exact hne h1)
          | skip
        · refine ⟨_, rfl, ?_⟩
          have e : paramsM l = out ++ [if hd m 58 then m.drop 1 else m] := by
            rw [← he]
            cases hh : hd m 58 with
            | true => obtain ⟨t, rfl⟩ := hd_true hh; rw [pgo_colon]; simp
            | false =>
              rw [hh] at h1
              have : out.length = 14 := by
                rcases h1 with h1 | h1
                · cases h1
                · omega
              rw [pgo_last hne hh this]; rfl
          rw [e]
          exact Sub.hv (subRow (by simp) (by simp) subEnd)
        · refine ⟨⟨f, restB m, out ++ [wordB m], _, _, rfl, rfl, rfl, by omega, ?_, by omega, by simp; omega, Sub.hv (subRow (by simp) (by simp) subEnd)⟩, by simpa [ByteArray.size] using hlt⟩
          rw [← he, pgo_step hne h1.1 (by omega)]
  · rintro v s ⟨w1, rfl, o1⟩
    repeat' (first | refine go ?_ | intro _ | refine ⟨sb, ?_⟩ | refine ⟨sd, ?_⟩ | (refine ⟨fun h1 => ?_, fun h1 => ?_⟩ <;> first | exact ab h1 | ((try rw [h1]); (try simp only [bl] at h1))) | dsimp only)
    exact h _ _ o1⟩
def MgK (K : Value → St → Prop) (w0 : World) (H : List SL) (ds : List Deferred) (m : Mg) (e : Int) : Prop :=
  ∀ pv w', Hv w0 (row 9 1 pv m.ps.length (m.ps.map str) :: H) w' → K (.tuple #[.agg #[.slice none 0 0, str m.pre, str m.cmd, pv], .int .i64 e]) ⟨w', ds⟩
theorem MgK.err {e : Int} (h : MgK K w0 H ds .none e) (o : Hv w0 H w) : K (.tuple #[.agg #[.slice none 0 0, str [], str [], .slice none 0 0], .int .i64 e]) ⟨w, ds⟩ :=
  h _ _ (Hv.nilRow 9 1 o)
instance mparseP_ok [o : Hv w0 H w] : Step (Cl P 150 #[str l] K ⟨w, ds⟩) (hd l 64 = false ∧ ∀ pv w', Hv w0 (row 9 1 pv (parseP l).1.ps.length ((parseP l).1.ps.map str) :: H) w' → K (.tuple #[.agg #[.slice none 0 0, str (parseP l).1.pre, str (parseP l).1.cmd, pv], .int .i64 (parseP l).2]) ⟨w', ds⟩) := ⟨fun ⟨ht, h⟩ => by
  replace h : MgK K w0 H ds (parseP l).1 (parseP l).2 := h
  refine s150 ?_
  unfold D150
  dsimp only
  repeat ((fail_if_success (refine j1_any (fun _ _ => True) ?_ ?_)); (first | refine go ?_ | intro _ | refine ⟨sb, ?_⟩ | refine ⟨sd, ?_⟩ | dsimp only))
  refine And.intro (fun h1 => ?_) (fun h1 => ?_)
  · repeat' (first | refine go ?_ | intro _ | refine ⟨sb, ?_⟩ | refine ⟨sd, ?_⟩ | (refine ⟨fun h1 => ?_, fun h1 => ?_⟩ <;> first | exact ab h1 | ((try rw [h1]); (try simp only [bl] at h1))) | dsimp only)
    have e : parseP l = (.none, 3) := by unfold parseP; rw [if_pos (by simp at h1; omega)]
    rw [e] at h
    exact h.err (Sub.hv subEnd)
  have h510 : l.length ≤ 510 := by simp at h1; omega
  have hl : l.length ≤ 100000 := by omega
  repeat ((fail_if_success (refine j1_any (fun _ _ => True) ?_ ?_)); (first | refine go ?_ | intro _ | refine ⟨sb, ?_⟩ | refine ⟨sd, ?_⟩ | dsimp only))
  refine And.intro (fun h2 => ?_) (fun h2 => ?_)
  · repeat' (first | refine go ?_ | intro _ | refine ⟨sb, ?_⟩ | refine ⟨sd, ?_⟩ | (refine ⟨fun h1 => ?_, fun h1 => ?_⟩ <;> first | exact ab h1 | ((try rw [h1]); (try simp only [bl] at h1))) | dsimp only)
    have e : parseP l = (.none, 10) := by unfold parseP; rw [if_neg (by omega), if_pos h2]
    rw [e] at h
    exact h.err (Sub.hv subEnd)
  have htx : txtB l = true := by simpa using h2
  have hpt : parseP l = pM l := by unfold parseP; rw [if_neg (by omega), htx]; rfl
  repeat ((fail_if_success (refine j1_any (fun _ _ => True) ?_ ?_)); (first | refine go ?_ | intro _ | refine ⟨sb, ?_⟩ | refine ⟨sd, ?_⟩ | dsimp only))
  rename_i b1 _ _ _ _ b2 w2 o2
  refine j1_any (fun x s => ∃ (w' : World), x = str l ∧ s = ⟨w', []⟩ ∧ Hv w0 (box b2 243 [.slice none 0 0, str [], str [], .slice none 0 0] :: box b1 243 [.slice none 0 0, str [], str [], .slice none 0 0] :: H) w') ?_ ?_
  · repeat' (first | refine go ?_ | intro _ | refine ⟨sb, ?_⟩ | refine ⟨sd, ?_⟩ | (refine ⟨fun h1 => ?_, fun h1 => ?_⟩ <;> first | exact ab h1 | ((try rw [h1]); (try simp only [bl] at h1))) | dsimp only)
    all_goals first
      | exact ⟨_, rfl, rfl, Sub.hv (subBox rfl (subBox rfl subEnd))⟩
      | (exfalso; rw [ht] at h1; cases h1; done)
  rintro x s ⟨w3, rfl, rfl, o3⟩
  clear o2 o
  repeat ((fail_if_success (refine j1_any (fun _ _ => True) ?_ ?_)); (first | refine go ?_ | intro _ | refine ⟨sb, ?_⟩ | refine ⟨sd, ?_⟩ | dsimp only))
  refine j1_any (fun x s => ∃ (pre r : List UInt8) (w' : World), x = str r ∧ s = ⟨w', []⟩ ∧ parseP l = pC pre r ∧ pre.length ≤ l.length ∧ r.length ≤ l.length ∧ Hv w0 (box b2 243 [.slice none 0 0, str pre, str [], .slice none 0 0] :: box b1 243 [.slice none 0 0, str [], str [], .slice none 0 0] :: H) w') ?_ ?_
  · repeat' (first | refine go ?_ | intro _ | refine ⟨sb, ?_⟩ | refine ⟨sd, ?_⟩ | (refine ⟨fun h1 => ?_, fun h1 => ?_⟩ <;> first | exact ab h1 | ((try rw [h1]); (try simp only [bl] at h1))) | dsimp only)
    · obtain ⟨t, rfl⟩ := hd_true h1
      simp only [List.length_cons] at h510 hl
      have hw := word_len t
      have hr := rest_len t
      unfold pM at hpt
      rw [if_pos h1] at hpt
      simp only [List.drop_succ_cons, List.drop_zero] at hpt ⊢
      repeat' (first | refine go ?_ | intro _ | refine ⟨sb, ?_⟩ | refine ⟨sd, ?_⟩ | (refine ⟨fun h1 => ?_, fun h1 => ?_⟩ <;> first | exact ab h1 | ((try rw [h1]); (try simp only [bl] at h1))) | dsimp only)
      · rw [if_pos h1] at hpt
        rw [hpt] at h
        exact h.err (Sub.hv subEnd)
      · rw [if_neg h1] at hpt
        exact ⟨_, _, _, rfl, rfl, hpt, by simp; omega, by simp; omega, Sub.hv (subBox rfl (subBox rfl subEnd))⟩
    · unfold pM at hpt
      rw [if_neg (by simp [h1])] at hpt
      exact ⟨[], l, _, rfl, rfl, hpt, by simp, Nat.le_refl _, Sub.hv (subBox rfl (subBox rfl subEnd))⟩
  rintro x s ⟨pre, r, w4, rfl, rfl, hC, hpl, hrl, o4⟩
  clear o3
  have hw := word_len r
  have hr := rest_len r
  have hcl : (capsS (wordB r)).length = (wordB r).length := by simp [capsS]
  unfold pC at hC
  repeat' (first | refine go ?_ | intro _ | refine ⟨sb, ?_⟩ | refine ⟨sd, ?_⟩ | (refine ⟨fun h1 => ?_, fun h1 => ?_⟩ <;> first | exact ab h1 | ((try rw [h1]); (try simp only [bl] at h1))) | dsimp only)
  · rw [if_pos h1] at hC
    rw [hC] at h
    exact h.err (Sub.hv subEnd)
  · rw [if_neg ‹¬ r = []›, if_pos (by simp [h1])] at hC
    rw [hC] at h
    exact h.err (Sub.hv subEnd)
  · rw [if_neg ‹¬ r = []›, if_neg (by simp [h1])] at hC
    rw [hC] at h
    exact h _ _ (Sub.hv (subRow rfl rfl subEnd))⟩
variable {xp : Value} {ps : List (List UInt8)} {np : Nat} {zp : List Value}
instance mparam_ok {z : Int} {pre cmd : List UInt8} [o : Hv w0 H w] [rp : RdsF w0 H xp 1 np zp] [ep : Strs zp ps] :
    Step (Cl P 422 #[.agg #[.slice none 0 0, str pre, str cmd, xp], .int .i64 z] K ⟨w, ds⟩) (∀ w', Hv w0 H w' → K (str (if 0 ≤ z ∧ z < ps.length then ps.getD z.toNat default else [])) ⟨w', ds⟩) := ⟨fun h => by
  have lp := rp.loc
  have r2 := rp.rd w o
  have one3 : One w xp := inferInstance
  have one4 : ∀ w, One w xp := fun w => ⟨one3.eq⟩
  have em : np = ps.length := by have := r2.len; rw [ep.eq] at this; simpa using this.symm
  obtain rfl := ep.eq
  clear r2 ep
  subst em
  by_cases hz : 0 ≤ z ∧ z < ps.length
  · obtain ⟨i, rfl⟩ : ∃ i : Nat, z = i := ⟨z.toNat, by omega⟩
    rw [if_pos hz] at h
    refine s422 ?_
    unfold D422
    repeat' (first | refine go ?_ | intro _ | refine ⟨sb, ?_⟩ | refine ⟨sd, ?_⟩ | (refine ⟨fun h1 => ?_, fun h1 => ?_⟩ <;> first | exact ab h1 | ((try rw [h1]); (try simp only [bl] at h1))) | dsimp only)
    · exfalso; omega
    · exact h _ (Sub.hv subEnd)
  · rw [if_neg hz] at h
    refine s422 ?_
    unfold D422
    repeat' (first | refine go ?_ | intro _ | refine ⟨sb, ?_⟩ | refine ⟨sd, ?_⟩ | (refine ⟨fun h1 => ?_, fun h1 => ?_⟩ <;> first | exact ab h1 | ((try rw [h1]); (try simp only [bl] at h1))) | dsimp only)
    · exact h _ (Sub.hv subEnd)
    · exfalso; omega⟩
end
end Go.Proofs.YtfgdalggkknffaaGreatDoor

namespace Go.Proofs.YtfgdalggkknffaaGreatDoor
open Go.Vx Go.Lib
def nickS (l : List UInt8) : Bool := (lenS l 1 16 && allK 2 l) && (lenS (l.take 1) 1 1 && allK 1 (l.take 1))
theorem nickS_len {l : List UInt8} (h : nickS l = true) : 0 < l.length ∧ l.length ≤ 16 := by
  simp [nickS, lenS] at h; omega
def Cn.nicked (y : Cn) (nick : List UInt8) : Cn := { y with s := { y.s with nick := nick } }
def Cs.claim0 (x : Cs) (id : Int) (nick : List UInt8) (y : Nat × Cn) : Cs := { x with hold := ((if y.2.s.nick = [] then x.hold else x.hold.del y.2.s.nick).put nick id).1 }.set id y.1 (y.2.nicked nick)
def Cs.claim (x : Cs) (id : Int) (nick : List UInt8) : Cs × Bool :=
  match x.live id with
  | none => (x, false)
  | some y =>
    if nickS nick = false then (x, false) else if x.hold.has nick = true ∧ x.hold.get nick ≠ id then (x, false) else
    if y.2.s.done = true ∧ foldS y.2.s.nick ≠ foldS nick then (((x.claim0 id nick y).offline y.2.whole).online (y.2.nicked nick).whole, true) else (x.claim0 id nick y, true)
structure Cs.known (x : Cs) : Prop where
  p : ∀ id y, x.conns id = some y → y.2.whole.fits
  h : x.hold.l.length ≤ 100000 ∧ x.hold.most ≤ 100000
theorem set_live (x : Cs) (id : Int) (b : Nat) (y : Cn) (k : Int) : (x.set id b y).live k = if k = id then (if y.gone then none else some (b, y)) else x.live k := by
  unfold Cs.live Cs.set
  dsimp only
  by_cases e : k = id
  · subst e; rw [updF_at, if_pos rfl]
  · rw [updF_ne _ e, if_neg e]
theorem Cs.calm.put {x : Cs} (h : x.calm) {y : Cn} {b : Nat} {id : Int} {hh : Bk} (hq : y.q.fine) (hn : y.s.nick.length ≤ 999) : ({ x with hold := hh }.set id b y).calm := by
  refine ⟨⟨⟨fun k u hu => ?_⟩, h.f.n, fun k => ?_⟩, h.m, h.w, h.mb, h.wb, h.now⟩
  · dsimp only [Cs.set] at hu
    by_cases e : k = id
    · subst e; rw [updF_at] at hu; obtain rfl := Option.some.inj hu; exact hq
    · rw [updF_ne _ e] at hu; exact h.f.f.q _ _ hu
  · have h1 := h.f.k k
    unfold Cs.sign at h1 ⊢
    rw [set_live]
    split
    · rename_i e u hu
      split at hu
      · split at hu
        · cases hu
        · obtain rfl := Option.some.inj hu; exact hn
      · have hu : x.live k = some u := hu
        rw [hu] at h1; exact h1
    · exact Nat.zero_le _
end Go.Proofs.YtfgdalggkknffaaGreatDoor

namespace Go.Proofs.YtfgdalggkknffaaGreatDoor
open Go.Vx Go.Lib
abbrev Cn.regd (y : Cn) (now : Int) : Cn := { y with s := { y.s with done := true, talk := false }, p := { y.p with sig := now, spo := now } }
def Cs.reg0 (x : Cs) (id : Int) (y : Nat × Cn) : Cs := { x with pulse := x.pulse.reg1 id x.now }.set id y.1 (y.2.regd x.now)
def Cs.register (x : Cs) (id : Int) : Cs × Bool :=
  match x.live id with
  | none => (x, false)
  | some y => if y.2.s.done = true ∨ y.2.s.nick = [] ∨ y.2.s.user = [] then (x, false) else ((x.reg0 id y).online (y.2.regd x.now).whole, true)
structure Cs.timed (x : Cs) : Prop where
  p : x.pulse.fit
  n : 0 ≤ x.now ∧ x.now ≤ 1000000000000
def hostOf (l : List UInt8) : List UInt8 := if hostS l = true then l else [117, 110, 107, 110, 111, 119, 110]
def Cn.first (send id : Int) (host : List UInt8) : Cn := ⟨⟨id, [], [], hostOf host, [], [], false, false, 0, 0⟩, .none, .new send, ([], false), false⟩
def Cs.connect (x : Cs) (b : Nat) (id : Int) (host : List UInt8) : Cs := { x with conns := updF x.conns id (some (b, .first x.cf.send id host)), n := x.n + 1, pulse := x.pulse.join id x.now }
def Cs.mayConnect (x : Cs) (id : Int) : Prop := 0 ≤ id ∧ x.conns id = none ∧ (x.n : Int) < x.cf.conns
theorem Cs.calm.putP {x : Cs} (h : x.calm) {y : Cn} {b : Nat} {id : Int} {pp : Pl.Pst} (hq : y.q.fine) (hn : y.s.nick.length ≤ 999) : ({ x with pulse := pp }.set id b y).calm := by
  have h1 : ({ x with hold := x.hold }.set id b y).calm := h.put hq hn
  exact ⟨⟨⟨h1.f.f.q⟩, h.f.n, h1.f.k⟩, h.m, h.w, h.mb, h.wb, h.now⟩
section
set_option maxRecDepth 20000
set_option synthInstance.maxSize 100000
set_option synthInstance.maxHeartbeats 4000000
variable {K : Value → St → Prop} {w0 w : World} {H R R2 : List SL} {ds : List Deferred} {p n : Nat} {v : Value} {l : List UInt8} {z id : Int} {x : Cs} {y : Nat × Cn} {q : Ptrs} {code : Nat} {nick : List UInt8} {xs : List Value} {ps : List (List UInt8)} {u : Per}
instance {b n t ty : Nat} {kt e : Nat} {d : TypeDesc} {g : Int → Option Value} {cs : Array Bool} [o : Hv w0 H w] [m : MpnIn H b intV g n R] [u : TyMap P t kt e d] : VT (Bi P .len #[t] ty cs #[.map (some b)]) w (.int .i64 n) := ⟨fun k => by
  obtain ⟨es, ⟨h1, h2, h5⟩, o1⟩ := (Hv.perm m.perm o).mpnOpen
  obtain ⟨bs, clock, k1, k2, k3, k4⟩ := o1.mpIn
  refine bi_ok (m := Builtin.len_ #[t] ty #[.map (some b)]) rfl (w' := w) (v := .int .i64 n) ?_ k
  have hl : (mkE intV es bs).length = n := by simp [mkE, k1, h5]
  simp [Builtin.len_, Sem.run_bind, run_underlying u.u, getObj_run k4, hl, goInt]⟩
instance Register_ok [o : Hv w0 H w] [i : InK coreR p H x R] [tb : PowT w0] : Step (Cl P 417 #[.pointer (some ⟨p, 0, none⟩), .int .i64 id] K ⟨w, ds⟩)
    (((x.calm ∧ x.known) ∧ x.timed ∧ x.dying.length ≤ 800000) ∧ ∀ w', Hv w0 (coreR p (x.register id).1 :: R) w' → K (.bool (x.register id).2) ⟨w', ds⟩) := ⟨fun ⟨⟨⟨hc, hk⟩, ht, hd⟩, h⟩ => by
  have o0 := i.hv o
  clear o
  unfold Cs.register at h
  have t1 := ht.p
  have t2 := ht.n
  cases hl : x.live id with
  | none =>
    have a1 : AtN x.live id := ⟨hl⟩
    rw [hl] at h
    refine s417 ?_
    unfold D417
    repeat' (first | refine go ?_ | intro _ | refine ⟨sb, ?_⟩ | refine ⟨sd, ?_⟩ | (refine ⟨fun h1 => ?_, fun h1 => ?_⟩ <;> first | exact ab h1 | ((try rw [h1]); (try simp only [bl] at h1))) | dsimp only)
    exact h _ (Sub.hv (subK rfl subEnd))
  | some y =>
    have a1 : AtS x.live id y := ⟨hl⟩
    rw [hl] at h
    dsimp only at h
    have hy := (live_at hl).1
    have k2 := hk.p id y hy
    have n1 : y.2.s.nick.length ≤ 300 := k2.a
    have cl : (x.reg0 id y).calm := hc.putP (hc.f.f.q _ _ hy) (by show y.2.s.nick.length ≤ 999; omega)
    have kn : (y.2.regd x.now).whole.fits := ⟨k2.a, k2.b, k2.c, hc.now⟩
    have e9 : (x.reg0 id y).dying = x.dying := rfl
    refine s417 ?_
    unfold D417
    repeat (first | refine go ?_ | intro _ | refine ⟨sb, ?_⟩ | refine ⟨sd, ?_⟩ | dsimp only)
    rename_i w1 o1
    have o2 := (show InK coreR p _ x _ from inferInstance).hv o1
    obtain ⟨q, g, M, qq, ff, ag, o3, c4, c5⟩ := core_at o2 hy
    clear o0 o1 o2
    by_cases c1 : y.2.s.done = true ∨ y.2.s.nick = [] ∨ y.2.s.user = []
    · rw [if_pos c1] at h
      repeat' (first | refine go ?_ | intro _ | refine ⟨sb, ?_⟩ | refine ⟨sd, ?_⟩ | (refine ⟨fun h1 => ?_, fun h1 => ?_⟩ <;> first | exact ab h1 | ((try rw [h1]); (try simp only [bl] at h1))) | dsimp only)
      all_goals first
        | exact h _ (core_back hy c4 (Sub.hv (subBox rfl (subMpn rfl rfl (subConn rfl rfl rfl rfl (subT (subTail rfl rfl rfl rfl rfl rfl rfl rfl subEnd)))))))
        | (exfalso; grind)
    rw [if_neg c1] at h
    repeat' (first | refine go ?_ | intro _ | refine ⟨sb, ?_⟩ | refine ⟨sd, ?_⟩ | (refine ⟨fun h1 => ?_, fun h1 => ?_⟩ <;> first | exact ab h1 | ((try rw [h1]); (try simp only [bl] at h1))) | dsimp only)
    · exfalso; grind
    refine (whole_ok (y := y.2.regd x.now) (qq := qq) (ff := ff)).prf ?_
    intro w5 o5
    have o6 : Hv w0 (coreR p (x.reg0 id y) :: R) w5 := core_put c4 (Sub.hv (subBox rfl (subMpn rfl rfl (subConn rfl rfl rfl rfl (subT (subTail rfl rfl rfl rfl rfl rfl rfl rfl subEnd))))))
    refine (online_ok (u := (y.2.regd x.now).whole)).prf (And.intro ⟨cl, kn, by rw [e9]; omega⟩ ?_)
    intro w6 o7
    repeat' (first | refine go ?_ | intro _ | refine ⟨sb, ?_⟩ | refine ⟨sd, ?_⟩ | (refine ⟨fun h1 => ?_, fun h1 => ?_⟩ <;> first | exact ab h1 | ((try rw [h1]); (try simp only [bl] at h1))) | dsimp only)
    exact h _ o7⟩
instance Connect_ok {host : List UInt8} [o : Hv w0 H w] [i : InK coreR p H x R] : Step (Cl P 83 #[.pointer (some ⟨p, 0, none⟩), .int .i64 id, str host] K ⟨w, ds⟩)
    ((x.timed ∧ (host.length ≤ 1000000 ∧ x.n ≤ 1000000) ∧ 512 ≤ x.cf.send ∧ x.cf.send ≤ 65536) ∧ (¬ x.mayConnect id → ∀ w', Hv w0 (coreR p x :: R) w' → K (.bool false) ⟨w', ds⟩) ∧ (x.mayConnect id → ∀ b w', Hv w0 (coreR p (x.connect b id host) :: R) w' → K (.bool true) ⟨w', ds⟩)) := ⟨fun ⟨⟨ht, ⟨hn, hm⟩, hs⟩, hA, hB⟩ => by
  have o0 := i.hv o
  clear o
  have t1 := ht.p
  have t2 := ht.n
  refine s83 ?_
  unfold D83
  repeat' (first | refine go ?_ | intro _ | refine ⟨sb, ?_⟩ | refine ⟨sd, ?_⟩ | (refine ⟨fun h1 => ?_, fun h1 => ?_⟩ <;> first | exact ab h1 | ((try rw [h1]); (try simp only [bl] at h1))) | dsimp only)
  · rename_i hid w1 o1
    have hc : x.conns id = none := by simpa using h1
    obtain ⟨q, o2⟩ := core_open o1
    clear o0 o1 h1
    obtain ⟨g, M, ag, o3, c1, c2⟩ := (Hv.pm (List.Perm.swap ..) o2).mapNo hc
    clear o2
    repeat' (first | refine go ?_ | intro _ | refine ⟨sb, ?_⟩ | refine ⟨sd, ?_⟩ | (refine ⟨fun h1 => ?_, fun h1 => ?_⟩ <;> first | exact ab h1 | ((try rw [h1]); (try simp only [bl] at h1))) | dsimp only)
    · exact hA (fun hq => by have := hq.2.2; omega) _ (core_shut (q := q) (Hv.pm (List.Perm.swap ..) (c1.shut (A := [_, _]) (subMpn rfl rfl (subT (subBox rfl (subTail rfl rfl rfl rfl rfl rfl rfl rfl subEnd)))))))
    · rename_i p1 _ _ _ _ f1 _ _ bn _ _ _ _ _ _ _ _ _
      refine hB ⟨hid, hc, ‹(x.n : Int) < x.cf.conns›⟩ bn _ (core_shut (x := x.connect bn id host) (q := q) (R := R) (Hv.pm (List.Perm.swap ..) (Wnd.shut (A := [_, _, _]) (c2 (b := bn) (n' := x.n + 1) (y := (bn, Cn.first x.cf.send id host))) (subMpn rfl (by rw [ag.eq]; rfl) (subConn (q := p1) (f := f1) (y := (bn, Cn.first x.cf.send id host)) rfl ?_ rfl rfl (subT (subBox rfl (subTail rfl rfl rfl rfl rfl rfl rfl rfl subEnd))))))))
      unfold Cn.first hostOf
      rw [if_neg (by simp [‹hostS host = false›])]; rfl
    · rename_i p1 _ _ _ _ f1 _ _ bn _ _ _ _ _ _ _ _ _
      refine hB ⟨hid, hc, ‹(x.n : Int) < x.cf.conns›⟩ bn _ (core_shut (x := x.connect bn id host) (q := q) (R := R) (Hv.pm (List.Perm.swap ..) (Wnd.shut (A := [_, _, _]) (c2 (b := bn) (n' := x.n + 1) (y := (bn, Cn.first x.cf.send id host))) (subMpn rfl (by rw [ag.eq]; rfl) (subConn (q := p1) (f := f1) (y := (bn, Cn.first x.cf.send id host)) rfl ?_ rfl rfl (subT (subBox rfl (subTail rfl rfl rfl rfl rfl rfl rfl rfl subEnd))))))))
      unfold Cn.first hostOf
      rw [if_pos ‹hostS host = true›]; rfl
  · exact hA (fun hq => by rw [hq.2.1] at h1; cases h1) _ ‹_›
  · exact hA (fun hq => by have := hq.1; omega) _ ‹_›⟩
end
end Go.Proofs.YtfgdalggkknffaaGreatDoor

namespace Go.Proofs.YtfgdalggkknffaaGreatDoor
open Go.Vx Go.Lib
def Cs.forget (x : Cs) (id : Int) : Cs := { x with conns := updF x.conns id none, n := x.n - 1 }
def Cs.done (x : Cs) (id : Int) : Cs := match x.conns id with | some y => if y.2.gone = true ∧ y.2.q.b = [] then x.forget id else x | none => x
def Cs.dr0 (x : Cs) (id z : Int) (y : Nat × Cn) : Cs := x.set id y.1 { y.2 with q := y.2.q.drain z }
def Cs.drain (x : Cs) (id z : Int) : Cs × List UInt8 := match x.conns id with | some y => ((x.dr0 id z y).done id, y.2.q.b.take (y.2.q.many z)) | none => (x, [])
section
set_option maxRecDepth 20000
set_option synthInstance.maxSize 100000
set_option synthInstance.maxHeartbeats 4000000
variable {K : Value → St → Prop} {w0 w : World} {H R R2 : List SL} {ds : List Deferred} {p n : Nat} {v : Value} {l : List UInt8} {z id : Int} {x : Cs} {y : Nat × Cn} {q : Ptrs} {code : Nat} {nick : List UInt8} {xs : List Value} {ps : List (List UInt8)} {u : Per}
theorem core_less {q : Ptrs} {g : Int → Option Value} {M : SL} {n' : Nat} (c : Wnd w0 [mpn q.m intV g n', M] [mapO q.m intV connR x.conns x.n]) (h : Hv w0 (coreB p x.cf x.now q :: mpn q.m intV g n' :: M :: bookR q.h x.hold :: roomsR q.r x.rooms :: wishR q.mo x.mon :: wishR q.wa x.watch :: wasR q.pa x.past :: Pl.pulR q.pu x.pulse :: row 3 1 q.vd x.dying.length (x.dying.map intV) :: R) w) : Hv w0 (coreR p x :: R) w :=
  core_shut (q := q) (Hv.pm (List.Perm.swap ..) (c.go (H := coreB p x.cf x.now q :: bookR q.h x.hold :: roomsR q.r x.rooms :: wishR q.mo x.mon :: wishR q.wa x.watch :: wasR q.pa x.past :: Pl.pulR q.pu x.pulse :: row 3 1 q.vd x.dying.length (x.dying.map intV) :: R) (Hv.pm rot3 h)))
instance done_ok [o : Hv w0 H w] [i : InK coreR p H x R] : Step (Cl P 120 #[.pointer (some ⟨p, 0, none⟩), .int .i64 id] K ⟨w, ds⟩) (∀ w', Hv w0 (coreR p (x.done id) :: R) w' → K (.tuple #[]) ⟨w', ds⟩) := ⟨fun h => by
  have o0 := i.hv o
  clear o
  unfold Cs.done at h
  cases hc : x.conns id with
  | none =>
    have a1 : AtN x.conns id := ⟨hc⟩
    rw [hc] at h
    refine s120 ?_
    unfold D120
    repeat' (first | refine go ?_ | intro _ | refine ⟨sb, ?_⟩ | refine ⟨sd, ?_⟩ | (refine ⟨fun h1 => ?_, fun h1 => ?_⟩ <;> first | exact ab h1 | ((try rw [h1]); (try simp only [bl] at h1))) | dsimp only)
    exact h _ (Sub.hv (subK rfl subEnd))
  | some y =>
    have a1 : AtS x.conns id y := ⟨hc⟩
    rw [hc] at h
    dsimp only at h
    refine s120 ?_
    unfold D120
    repeat (first | refine go ?_ | intro _ | refine ⟨sb, ?_⟩ | refine ⟨sd, ?_⟩ | dsimp only)
    rename_i w1 o1
    obtain ⟨q, g, M, qq, ff, ag, o2, c1, c2⟩ := core_at ((inferInstance : InK coreR p _ x _).hv o1) hc
    clear o0 o1
    repeat' (first | refine go ?_ | intro _ | refine ⟨sb, ?_⟩ | refine ⟨sd, ?_⟩ | (refine ⟨fun h1 => ?_, fun h1 => ?_⟩ <;> first | exact ab h1 | ((try rw [h1]); (try simp only [bl] at h1))) | dsimp only)
    · have e : y.2.q.b = [] := List.eq_nil_of_length_eq_zero (by omega)
      rw [if_pos ⟨‹y.2.gone = true›, e⟩] at h
      exact h _ (core_less (x := x.forget id) c2 (Sub.hv (subBox rfl (subMpn rfl (by rw [ag.eq]; rfl) (subT (subTail rfl rfl rfl rfl rfl rfl rfl rfl subEnd))))))
    · rw [if_neg (fun hq => by rw [hq.2] at h1; exact h1 rfl)] at h
      exact h _ (core_back hc c1 (Sub.hv (subBox rfl (subMpn rfl rfl (subConn rfl rfl rfl rfl (subT (subTail rfl rfl rfl rfl rfl rfl rfl rfl subEnd)))))))
    · rw [if_neg (fun hq => by rw [hq.1] at h1; cases h1)] at h
      exact h _ (core_back hc c1 (Sub.hv (subBox rfl (subMpn rfl rfl (subConn rfl rfl rfl rfl (subT (subTail rfl rfl rfl rfl rfl rfl rfl rfl subEnd)))))))⟩
instance done_cd {K : World → Prop} [o : Hv w0 H w] [i : InK coreR p H x R] : Step (Cd P 120 #[.pointer (some ⟨p, 0, none⟩), .int .i64 id] K w) (∀ w', Hv w0 (coreR p (x.done id) :: R) w' → K w') := ⟨fun h => by
  have o0 := i.hv o
  clear o
  unfold Cs.done at h
  cases hc : x.conns id with
  | none =>
    have a1 : AtN x.conns id := ⟨hc⟩
    rw [hc] at h
    refine sd120 ?_
    unfold DD120
    repeat' (first | refine go ?_ | intro _ | refine ⟨sb, ?_⟩ | refine ⟨sd, ?_⟩ | (refine ⟨fun h1 => ?_, fun h1 => ?_⟩ <;> first | exact ab h1 | ((try rw [h1]); (try simp only [bl] at h1))) | dsimp only)
    exact h _ (Sub.hv (subK rfl subEnd))
  | some y =>
    have a1 : AtS x.conns id y := ⟨hc⟩
    rw [hc] at h
    dsimp only at h
    refine sd120 ?_
    unfold DD120
    repeat (first | refine go ?_ | intro _ | refine ⟨sb, ?_⟩ | refine ⟨sd, ?_⟩ | dsimp only)
    rename_i w1 o1
    obtain ⟨q, g, M, qq, ff, ag, o2, c1, c2⟩ := core_at ((inferInstance : InK coreR p _ x _).hv o1) hc
    clear o0 o1
    repeat' (first | refine go ?_ | intro _ | refine ⟨sb, ?_⟩ | refine ⟨sd, ?_⟩ | (refine ⟨fun h1 => ?_, fun h1 => ?_⟩ <;> first | exact ab h1 | ((try rw [h1]); (try simp only [bl] at h1))) | dsimp only)
    · have e : y.2.q.b = [] := List.eq_nil_of_length_eq_zero (by omega)
      rw [if_pos ⟨‹y.2.gone = true›, e⟩] at h
      exact h _ (core_less (x := x.forget id) c2 (Sub.hv (subBox rfl (subMpn rfl (by rw [ag.eq]; rfl) (subT (subTail rfl rfl rfl rfl rfl rfl rfl rfl subEnd))))))
    · rw [if_neg (fun hq => by rw [hq.2] at h1; exact h1 rfl)] at h
      exact h _ (core_back hc c1 (Sub.hv (subBox rfl (subMpn rfl rfl (subConn rfl rfl rfl rfl (subT (subTail rfl rfl rfl rfl rfl rfl rfl rfl subEnd)))))))
    · rw [if_neg (fun hq => by rw [hq.1] at h1; cases h1)] at h
      exact h _ (core_back hc c1 (Sub.hv (subBox rfl (subMpn rfl rfl (subConn rfl rfl rfl rfl (subT (subTail rfl rfl rfl rfl rfl rfl rfl rfl subEnd)))))))⟩
instance Drain_ok [o : Hv w0 H w] [i : InK coreR p H x R] : Step (Cl P 85 #[.pointer (some ⟨p, 0, none⟩), .int .i64 id, .int .i64 z] K ⟨w, ds⟩) (x.fine ∧ ∀ v n w', Hv w0 (row 5 1 v n ((x.drain id z).2.map byteV) :: coreR p (x.drain id z).1 :: R) w' → K v ⟨w', ds⟩) := ⟨fun ⟨hf, h⟩ => by
  have o0 := i.hv o
  clear o
  unfold Cs.drain at h
  cases hc : x.conns id with
  | none =>
    have a1 : AtN x.conns id := ⟨hc⟩
    rw [hc] at h
    refine s85 ?_
    unfold D85
    repeat' (first | refine go ?_ | intro _ | refine ⟨sb, ?_⟩ | refine ⟨sd, ?_⟩ | (refine ⟨fun h1 => ?_, fun h1 => ?_⟩ <;> first | exact ab h1 | ((try rw [h1]); (try simp only [bl] at h1))) | dsimp only)
    rename_i w1 o1
    exact h _ 0 _ (Hv.nilRow 5 1 (Sub.hv (o := o1) (subK rfl subEnd)))
  | some y =>
    have a1 : AtS x.conns id y := ⟨hc⟩
    rw [hc] at h
    dsimp only at h
    have hqf := (hf.q _ _ hc).ok
    refine s85 ?_
    unfold D85
    repeat (first | refine go ?_ | intro _ | refine ⟨sb, ?_⟩ | refine ⟨sd, ?_⟩ | dsimp only)
    rename_i w1 o1
    obtain ⟨q, g, M, qq, ff, ag, o2, c1, c2⟩ := core_at ((inferInstance : InK coreR p _ x _).hv o1) hc
    clear o0 o1
    repeat' (first | refine go ?_ | intro _ | refine ⟨sb, ?_⟩ | refine ⟨sd, ?_⟩ | (refine ⟨fun h1 => ?_, fun h1 => ?_⟩ <;> first | exact ab h1 | ((try rw [h1]); (try simp only [bl] at h1))) | dsimp only)
    rename_i vv w5 o5
    have o6 : Hv w0 (coreR p (x.dr0 id z y) :: row 5 1 vv (y.2.q.many z) ((y.2.q.b.take (y.2.q.many z)).map byteV) :: R) w5 := core_put c1 (Sub.hv (subBox rfl (subMpn rfl rfl (subConn rfl rfl rfl rfl (subT (subTail rfl rfl rfl rfl rfl rfl rfl rfl (subRow rfl rfl subEnd)))))))
    clear o2 o5
    refine go ?_
    intro w6 o7
    repeat' (first | refine go ?_ | intro _ | refine ⟨sb, ?_⟩ | refine ⟨sd, ?_⟩ | (refine ⟨fun h1 => ?_, fun h1 => ?_⟩ <;> first | exact ab h1 | ((try rw [h1]); (try simp only [bl] at h1))) | dsimp only)
    exact h _ _ _ (Sub.hv (subRow rfl rfl (subK rfl subEnd)))⟩
end
end Go.Proofs.YtfgdalggkknffaaGreatDoor

namespace Go.Proofs.YtfgdalggkknffaaGreatDoor
open Go.Vx Go.Lib
structure Cs.good (x : Cs) (D N : Nat) : Prop where
  c : ∀ id y, x.conns id = some y → y.2.q.fine ∧ y.2.whole.fits
  nm : x.cf.name.length ≤ 10000
  now : 0 ≤ x.now ∧ x.now ≤ 1000000
  m : x.mon.rel.fit ∧ ∀ l, (x.mon.rel.byS l).length ≤ 1000
  w : x.watch.rel.fit ∧ ∀ l, (x.watch.rel.byS l).length ≤ 1000
  h : x.hold.l.length ≤ N ∧ x.hold.most ≤ 100000
  p : x.pulse.late.1 ≤ N ∧ x.pulse.ask.1 ≤ N ∧ x.pulse.dead.1 ≤ N
  b : 0 ≤ x.pulse.ping ∧ x.pulse.ping ≤ 1000000 ∧ 0 ≤ x.pulse.grace ∧ x.pulse.grace ≤ 1000000 ∧ 0 ≤ x.pulse.reg ∧ x.pulse.reg ≤ 1000000
  d : x.dying.length ≤ D
variable {x : Cs} {D N : Nat}
theorem Cs.good.live (g : x.good D N) {id : Int} {y : Nat × Cn} (h : x.live id = some y) : y.2.q.fine ∧ y.2.whole.fits := g.c _ _ (live_at h).1
theorem Cs.good.fine (g : x.good D N) : x.fine := ⟨fun id y h => (g.c id y h).1⟩
theorem Cs.good.timed (g : x.good D N) (h : N ≤ 100000) : x.timed := ⟨⟨by have := g.p; omega, by have := g.b; omega⟩, by have := g.now; omega⟩
theorem Cs.good.mono (g : x.good D N) {D' N' : Nat} (h1 : D ≤ D') (h2 : N ≤ N') : x.good D' N' := ⟨g.c, g.nm, g.now, g.m, g.w, ⟨Nat.le_trans g.h.1 h2, g.h.2⟩, by have := g.p; omega, g.b, Nat.le_trans g.d h1⟩
theorem Cs.good.put (g : x.good D N) {id : Int} {b : Nat} {y : Cn} {hh : Bk} {pp : Pl.Pst} {n : Nat} {dd : List Int} {N' D' : Nat} (h1 : y.q.fine) (h2 : y.whole.fits) (h3 : hh.l.length ≤ N' ∧ hh.most ≤ 100000) (h4 : pp.late.1 ≤ N' ∧ pp.ask.1 ≤ N' ∧ pp.dead.1 ≤ N') (h5 : pp.ping = x.pulse.ping ∧ pp.grace = x.pulse.grace ∧ pp.reg = x.pulse.reg) (h6 : dd.length ≤ D') :
    ({ x with conns := updF x.conns id (some (b, y)), n := n, hold := hh, pulse := pp, dying := dd } : Cs).good D' N' := by
  refine ⟨fun k u hu => ?_, g.nm, g.now, g.m, g.w, h3, h4, ?_, h6⟩
  · have hu : updF x.conns id (some (b, y)) k = some u := hu
    by_cases e : k = id
    · subst e; rw [updF_at] at hu; obtain rfl := Option.some.inj hu; exact ⟨h1, h2⟩
    · rw [updF_ne _ e] at hu; exact g.c _ _ hu
  · obtain ⟨e1, e2, e3⟩ := h5
    have := g.b
    rw [← e1, ← e2, ← e3] at this; exact this
theorem Cs.good.tell1 (g : x.good D N) (id : Int) (l : List UInt8) : (x.tell1 id l).good (D + 1) N := by
  have g' := g.mono (Nat.le_succ D) (Nat.le_refl N)
  unfold Cs.tell1
  cases h : x.live id with
  | none => exact g'
  | some y =>
    dsimp only
    split
    · exact g'
    · have hy := g.live h
      refine g.put (n := x.n) (hy.1.push l) hy.2 g.h g.p ⟨rfl, rfl, rfl⟩ ?_
      have := g.d
      split
      · rw [List.length_append]; simp; exact this
      · omega
theorem Cs.good.watchers (ids : List Int) (code : Nat) (ps : List (List UInt8)) : ∀ {x : Cs} {D : Nat}, x.good D N → (x.watchers ids code ps).good (D + ids.length) N := by
  unfold Cs.watchers
  induction ids with
  | nil => exact fun g => g
  | cons id ids ih =>
    intro x D g
    have := ih (g.tell1 id (Mk.numS x.cf.name code (x.sign id).nick ps))
    refine this.mono ?_ (Nat.le_refl _)
    simp only [List.length_cons]; omega
theorem Cs.good.online (g : x.good D N) (u : Per) : (x.online u).good (D + 2000) N := by
  unfold Cs.online
  have h1 := g.m.2 (foldS u.nick)
  have h2 := g.w.2 (foldS u.nick)
  exact ((g.watchers _ _ _).watchers _ _ _).mono (by omega) (Nat.le_refl _)
theorem Cs.good.offline (g : x.good D N) (u : Per) : (x.offline u).good (D + 2000) N := by
  unfold Cs.offline
  have h1 := g.m.2 (foldS u.nick)
  have h2 := g.w.2 (foldS u.nick)
  exact ((g.watchers _ _ _).watchers _ _ _).mono (by omega) (Nat.le_refl _)
theorem bdel_len (h : Bk) (n : List UInt8) : (h.del n).l.length ≤ h.l.length ∧ (h.del n).most = h.most := ⟨delT_len .., rfl⟩
theorem bput_len (h : Bk) (n : List UInt8) (z : Int) : (h.put n z).1.l.length ≤ h.l.length + 1 ∧ (h.put n z).1.most = h.most := by
  unfold Bk.put
  split
  · exact ⟨by simp, rfl⟩
  split
  · exact ⟨by dsimp only; omega, rfl⟩
  · exact ⟨by dsimp only; rw [insT_len]; exact Nat.le_refl _, rfl⟩
theorem Cs.good.claim0 (g : x.good D N) {id : Int} {nick : List UInt8} {y : Nat × Cn} (hl : x.live id = some y) (hn : nickS nick = true) : (x.claim0 id nick y).good D (N + 1) := by
  have hy := g.live hl
  have nl := nickS_len hn
  unfold Cs.claim0
  have hp := g.p
  refine g.put (n := x.n) (pp := x.pulse) (dd := x.dying) (hh := (if y.2.s.nick = [] then x.hold else x.hold.del y.2.s.nick).put nick id |>.1) hy.1 ⟨by show nick.length ≤ 300; omega, hy.2.b, hy.2.c, hy.2.d⟩ ?_ ⟨by omega, by omega, by omega⟩ ⟨rfl, rfl, rfl⟩ g.d
  have h1 := bput_len (if y.2.s.nick = [] then x.hold else x.hold.del y.2.s.nick) nick id
  have h2 := g.h
  split at h1
  · rename_i e; rw [if_pos e]; exact ⟨by omega, by rw [h1.2]; exact h2.2⟩
  · rename_i e; rw [if_neg e]; have h3 := bdel_len x.hold y.2.s.nick; exact ⟨by omega, by rw [h1.2, h3.2]; exact h2.2⟩
theorem Cs.good.claim (g : x.good D N) (id : Int) (nick : List UInt8) : (x.claim id nick).1.good (D + 4000) (N + 1) := by
  have g' := g.mono (show D ≤ D + 4000 by omega) (show N ≤ N + 1 by omega)
  unfold Cs.claim
  cases hl : x.live id with
  | none => exact g'
  | some y =>
    dsimp only
    split
    · exact g'
    split
    · exact g'
    rename_i hn _
    have hn : nickS nick = true := by simpa using hn
    have g0 := g.claim0 hl hn
    split
    · exact ((g0.offline _).online _).mono (by omega) (Nat.le_refl _)
    · exact g0.mono (by omega) (Nat.le_refl _)
theorem Cs.good.register (g : x.good D N) (id : Int) : (x.register id).1.good (D + 4000) (N + 1) := by
  have g' := g.mono (show D ≤ D + 4000 by omega) (show N ≤ N + 1 by omega)
  unfold Cs.register
  cases hl : x.live id with
  | none => exact g'
  | some y =>
    dsimp only
    split
    · exact g'
    have hy := g.live hl
    have g0 : (x.reg0 id y).good D (N + 1) := by
      unfold Cs.reg0
      have hp := g.p
      have hi : InR x.now := ⟨by have := g.now.1; omega, by have := g.now.2; omega⟩
      refine g.put (n := x.n) (hh := x.hold) (dd := x.dying) hy.1 ⟨hy.2.a, hy.2.b, hy.2.c, hi⟩ ⟨by have := g.h.1; omega, g.h.2⟩ ?_ ?_ g.d
      · unfold Pl.Pst.reg1; split
        · refine ⟨?_, ?_, ?_⟩ <;> (dsimp only [Pl.Tst.set, Pl.Tst.stop]; omega)
        · dsimp only at hp ⊢; omega
      · unfold Pl.Pst.reg1; split <;> exact ⟨rfl, rfl, rfl⟩
    exact (g0.online _).mono (by omega) (Nat.le_refl _)
theorem host_len (l : List UInt8) : (hostOf l).length ≤ 300 := by
  unfold hostOf
  split
  · rename_i h; simp [hostS, lenS] at h; omega
  · decide
theorem new_fine {z : Int} (h : z ≤ 65536) : (Qu.new z).fine := ⟨by simp [Qu.new], h, by simp [Qu.new], by simp [Qu.new]⟩
theorem Cs.good.connect (g : x.good D N) (b : Nat) (id : Int) (host : List UInt8) (h : x.cf.send ≤ 65536) : (x.connect b id host).good D (N + 1) := by
  have hp := g.p
  unfold Cs.connect
  refine g.put (n := x.n + 1) (hh := x.hold) (dd := x.dying) (new_fine h) ⟨Nat.zero_le _, Nat.zero_le _, host_len host, (show InR 0 from ⟨by decide, by decide⟩)⟩ ⟨by have := g.h.1; omega, g.h.2⟩ ?_ ⟨rfl, rfl, rfl⟩ g.d
  refine ⟨?_, ?_, ?_⟩ <;> (simp only [Pl.Pst.join, Pl.Pst.leave, Pl.Tst.set, Pl.Tst.stop]; omega)
end Go.Proofs.YtfgdalggkknffaaGreatDoor

namespace Go.Proofs.YtfgdalggkknffaaGreatDoor
open Go.Vx Go.Lib
def Cs.host (x : Cs) (id : Int) : List UInt8 := match x.conns id with | some y => y.2.p.host | none => []
def Cs.feed (x : Cs) (id : Int) (b : List UInt8) : Cs × List Lin := match x.live id with | some y => (x.set id y.1 { y.2 with f := (feedS y.2.f b).1 }, (feedS y.2.f b).2) | none => (x, [])
def Cs.heard (x : Cs) (id : Int) : Cs := if (x.live id).isSome then { x with pulse := x.pulse.line id x.now } else x
section
set_option maxRecDepth 20000
set_option synthInstance.maxSize 100000
set_option synthInstance.maxHeartbeats 4000000
variable {K : Value → St → Prop} {w0 w : World} {H R R2 : List SL} {ds : List Deferred} {p n : Nat} {v : Value} {l : List UInt8} {z id : Int} {x : Cs} {y : Nat × Cn} {q : Ptrs} {nick : List UInt8} {xs : List Value} {u : Per}
instance Config_ok [o : Hv w0 H w] [i : InK coreR p H x R] : Step (Cl P 148 #[.pointer (some ⟨p, 0, none⟩)] K ⟨w, ds⟩) (∀ w', Hv w0 (coreR p x :: R) w' → K (.agg (encCf x.cf).toArray) ⟨w', ds⟩) := ⟨fun h => by
  obtain ⟨q, o1⟩ := core_open (i.hv o)
  clear o
  refine s148 ?_
  unfold D148
  repeat' (first | refine go ?_ | intro _ | refine ⟨sb, ?_⟩ | refine ⟨sd, ?_⟩ | (refine ⟨fun h1 => ?_, fun h1 => ?_⟩ <;> first | exact ab h1 | ((try rw [h1]); (try simp only [bl] at h1))) | dsimp only)
  exact h _ (core_shut (Sub.hv (subBox rfl (subT (subTail rfl rfl rfl rfl rfl rfl rfl rfl subEnd)))))⟩
instance Heard_ok [o : Hv w0 H w] [i : InK coreR p H x R] : Step (Cl P 117 #[.pointer (some ⟨p, 0, none⟩), .int .i64 id] K ⟨w, ds⟩) (x.timed ∧ ∀ w', Hv w0 (coreR p (x.heard id) :: R) w' → K (.tuple #[]) ⟨w', ds⟩) := ⟨fun ⟨ht, h⟩ => by
  have o0 := i.hv o
  clear o
  have t1 := ht.p
  have t2 := ht.n
  unfold Cs.heard at h
  refine s117 ?_
  unfold D117
  repeat' (first | refine go ?_ | intro _ | refine ⟨sb, ?_⟩ | refine ⟨sd, ?_⟩ | (refine ⟨fun h1 => ?_, fun h1 => ?_⟩ <;> first | exact ab h1 | ((try rw [h1]); (try simp only [bl] at h1))) | dsimp only)
  · rename_i w1 o1
    rw [if_pos h1] at h
    obtain ⟨q, o2⟩ := core_open o1
    clear o0 o1
    repeat' (first | refine go ?_ | intro _ | refine ⟨sb, ?_⟩ | refine ⟨sd, ?_⟩ | (refine ⟨fun h1 => ?_, fun h1 => ?_⟩ <;> first | exact ab h1 | ((try rw [h1]); (try simp only [bl] at h1))) | dsimp only)
    exact h _ (core_shut (Sub.hv (subBox rfl (subT (subTail rfl rfl rfl rfl rfl rfl rfl rfl subEnd)))))
  · rw [if_neg (by simp [h1])] at h
    exact h _ (Sub.hv (subK rfl subEnd))⟩
end
end Go.Proofs.YtfgdalggkknffaaGreatDoor

namespace Go.Proofs.YtfgdalggkknffaaGreatDoor
open Go.Vx Go.Lib
structure Cs.framed (x : Cs) : Prop where
  f : ∀ id y, x.conns id = some y → y.2.f.1.length ≤ 510
section
set_option maxRecDepth 20000
set_option synthInstance.maxSize 100000
set_option synthInstance.maxHeartbeats 4000000
variable {K : Value → St → Prop} {w0 w : World} {H R R2 : List SL} {ds : List Deferred} {p n : Nat} {v : Value} {l : List UInt8} {z id : Int} {x : Cs} {y : Nat × Cn} {q : Ptrs} {nick : List UInt8} {xs : List Value} {u : Per}
instance (priority := low) rdsFL {H' : List SL} {size : Nat} [r : RdsL w0 H v size n xs] [d : DropTo H' H] : RdsF w0 H' v size n xs := ⟨fun w h => r.rd w (Hv.drop h)⟩
instance Feed_ok {bv : Value} {bs : List UInt8} {zs : List Value} [o : Hv w0 H w] [i : InK coreR p H x R] [rf : RdsF w0 R bv 1 n zs] [bz : Bys zs bs] : Step (Cl P 115 #[.pointer (some ⟨p, 0, none⟩), .int .i64 id, bv] K ⟨w, ds⟩)
    ((x.framed ∧ bs.length ≤ 1000000) ∧ ∀ v w', Hv w0 (row 197 2 v (x.feed id bs).2.length ((x.feed id bs).2.flatMap encLn) :: coreR p (x.feed id bs).1 :: R) w' → K v ⟨w', ds⟩) := ⟨fun ⟨⟨hf, hb⟩, h⟩ => by
  have o0 := i.hv o
  have rl := rf.loc
  clear o
  unfold Cs.feed at h
  cases hl : x.live id with
  | none =>
    have a1 : AtN x.live id := ⟨hl⟩
    rw [hl] at h
    refine s115 ?_
    unfold D115
    repeat' (first | refine go ?_ | intro _ | refine ⟨sb, ?_⟩ | refine ⟨sd, ?_⟩ | (refine ⟨fun h1 => ?_, fun h1 => ?_⟩ <;> first | exact ab h1 | ((try rw [h1]); (try simp only [bl] at h1))) | dsimp only)
    rename_i w1 o1
    exact h _ _ (Hv.nilRow 197 2 (Sub.hv (o := o1) (subK rfl subEnd)))
  | some y =>
    have a1 : AtS x.live id y := ⟨hl⟩
    rw [hl] at h
    have hy := (live_at hl).1
    have hff := hf.f _ _ hy
    refine s115 ?_
    unfold D115
    repeat (first | refine go ?_ | intro _ | refine ⟨sb, ?_⟩ | refine ⟨sd, ?_⟩ | dsimp only)
    rename_i w1 o1
    obtain ⟨q, g, M, qq, ff, ag, o2, c1, c2⟩ := core_at ((inferInstance : InK coreR p _ x _).hv o1) hy
    clear o0 o1
    repeat' (first | refine go ?_ | intro _ | refine ⟨sb, ?_⟩ | refine ⟨sd, ?_⟩ | (refine ⟨fun h1 => ?_, fun h1 => ?_⟩ <;> first | exact ab h1 | ((try rw [h1]); (try simp only [bl] at h1))) | dsimp only)
    rename_i vv w5 o5
    have o6 : Hv w0 (coreR p (x.set id y.1 { y.2 with f := (feedS y.2.f bs).1 }) :: row 197 2 vv (feedS y.2.f bs).2.length ((feedS y.2.f bs).2.flatMap encLn) :: R) w5 := core_put c1 (Sub.hv (subBox rfl (subMpn rfl rfl (subConn rfl rfl rfl rfl (subT (subTail rfl rfl rfl rfl rfl rfl rfl rfl (subRow rfl rfl subEnd)))))))
    exact h _ _ (Sub.hv (subRow rfl rfl (subK rfl subEnd)))⟩
end
end Go.Proofs.YtfgdalggkknffaaGreatDoor

namespace Go.Proofs.YtfgdalggkknffaaGreatDoor
open Go.Vx Go.Lib Mk
def capT : List UInt8 := [67, 65, 80]
def passT : List UInt8 := [80, 65, 83, 83]
def userT : List UInt8 := [85, 83, 69, 82]
def nickT : List UInt8 := [78, 73, 67, 75]
def pingT : List UInt8 := [80, 73, 78, 71]
def pongT : List UInt8 := [80, 79, 78, 71]
def quitT : List UInt8 := [81, 85, 73, 84]
def privT : List UInt8 := [80, 82, 73, 86, 77, 83, 71]
def notiT : List UInt8 := [78, 79, 84, 73, 67, 69]
def awayT : List UInt8 := [65, 87, 65, 89]
def operT : List UInt8 := [79, 80, 69, 82]
def killT : List UInt8 := [75, 73, 76, 76]
abbrev fnV (g : Nat) : Value := .func (.func g) #[] #[]
abbrev signV (b : Nat) : Value := .func (.func 315) #[] #[.pointer (some ⟨b, 0, none⟩)]
def Cs.ping (x : Cs) (id : Int) (ps : List (List UInt8)) : Cs := x.tell id [makeS x.cf.name pongT [x.cf.name, ps.getD 0 default]]
def doF (b1 b2 b3 : Nat) (w : List UInt8) : Option Value :=
  if w = killT then some (fnV 262) else if w = operT then some (fnV 261) else if w = awayT then some (fnV 260) else if w = notiT then some (fnV 259)
  else if w = privT then some (fnV 259) else if w = quitT then some (fnV 258) else if w = pongT then some (fnV 257) else if w = pingT then some (fnV 256)
  else if w = nickT then some (fnV 255) else if w = userT then some (signV b3) else if w = passT then some (signV b2) else if w = capT then some (signV b1) else none
section
set_option maxRecDepth 20000
set_option synthInstance.maxSize 100000
set_option synthInstance.maxHeartbeats 4000000
variable {K : Value → St → Prop} {w0 w : World} {H R : List SL} {ds : List Deferred} {p n : Nat} {v : Value} {l : List UInt8} {z id : Int} {x : Cs} {y : Nat × Cn}
instance settle0_ok [o : Hv w0 H w] [i : InK coreR p H x R] : Step (Cl P 87 #[.pointer (some ⟨p, 0, none⟩)] K ⟨w, ds⟩) (x.dying = [] ∧ ∀ w', Hv w0 (coreR p x :: R) w' → K (.int .i64 0) ⟨w', ds⟩) := ⟨fun ⟨hd, h⟩ => by
  obtain ⟨q, o1⟩ := core_open (i.hv o)
  clear o
  have hl : (x.dying.length : Int) = 0 := by rw [hd]; rfl
  refine s87 ?_
  unfold D87
  refine ⟨fun z s => z = .int .i64 0 ∧ s = ⟨w, []⟩, fun _ _ => 0, ⟨rfl, rfl⟩, ?_⟩
  rintro _ _ ⟨rfl, rfl⟩
  repeat' (first | refine go ?_ | intro _ | refine ⟨sb, ?_⟩ | refine ⟨sd, ?_⟩ | (refine ⟨fun h1 => ?_, fun h1 => ?_⟩ <;> first | exact ab h1 | ((try rw [h1]); (try simp only [bl] at h1))) | dsimp only)
  all_goals first
    | (exfalso; omega)
    | exact h _ (core_shut (Sub.hv (subBox rfl (subT (subTail rfl rfl rfl rfl rfl rfl rfl rfl subEnd)))))⟩
instance signs_ok {g : Nat} [o : Hv w0 H w] : Step (Cl P 251 #[.func (.func g) #[] #[]] K ⟨w, ds⟩) (∀ b w', Hv w0 (box b 352 [.func (.func g) #[] #[]] :: H) w' → K (signV b) ⟨w', ds⟩) := ⟨fun h => by
  refine s251 ?_
  unfold D251
  repeat' (first | refine go ?_ | intro _ | refine ⟨sb, ?_⟩ | refine ⟨sd, ?_⟩ | (refine ⟨fun h1 => ?_, fun h1 => ?_⟩ <;> first | exact ab h1 | ((try rw [h1]); (try simp only [bl] at h1))) | dsimp only)
  exact h _ _ (Sub.hv (subBox rfl subEnd))⟩
instance doers_ok [o : Hv w0 H w] : Step (Cl P 201 #[] K ⟨w, ds⟩) (∀ m n b1 b2 b3 w', Hv w0 (mpn m (fun l => str l) (doF b1 b2 b3) n :: box b3 352 [fnV 254] :: box b2 352 [fnV 253] :: box b1 352 [fnV 252] :: H) w' → K (.map (some m)) ⟨w', ds⟩) := ⟨fun h => by
  refine s201 ?_
  unfold D201
  repeat' (first | refine go ?_ | intro _ | refine ⟨sb, ?_⟩ | refine ⟨sd, ?_⟩ | (refine ⟨fun h1 => ?_, fun h1 => ?_⟩ <;> first | exact ab h1 | ((try rw [h1]); (try simp only [bl] at h1))) | dsimp only)
  rename_i ol
  refine h _ _ _ _ _ _ (Hv.mpnShut ?_ ?_ rfl ol)
  · refine nodup_put (nodup_put (nodup_put (nodup_put (nodup_put (nodup_put (nodup_put (nodup_put (nodup_put (nodup_put (nodup_put (nodup_put (es := []) List.nodup_nil _ _) _ _) _ _) _ _) _ _) _ _) _ _) _ _) _ _) _ _) _ _) _ _
  · intro k
    simp only [getA_put]
    rfl⟩
instance early_ok {w : World} {l : List UInt8} : VT (Cl P 202 #[str l]) w (.bool (decide (l = capT) || decide (l = passT) || decide (l = userT) || decide (l = nickT) || decide (l = pingT) || decide (l = pongT) || decide (l = quitT))) := ⟨fun {K ds} h => by
  refine s202 ?_
  unfold D202
  unfold capT passT userT nickT pingT pongT quitT at h
  repeat' (first | refine go ?_ | intro _ | refine ⟨sb, ?_⟩ | refine ⟨sd, ?_⟩ | (refine ⟨fun h1 => ?_, fun h1 => ?_⟩ <;> first | exact ab h1 | ((try rw [h1]); (try simp only [bl] at h1))) | dsimp only)
  all_goals
    refine cast (congrArg (fun b => K (.bool b) _) ?_) h
    simp [*]⟩
instance cfName {x : Cfg} {w : World} : VT (Vx.Fd P 46 (.agg (encCf x).toArray) 0) w (str x.name) := VT.of (by kernel_rfl)
variable {zs : List Value} {ps : List (List UInt8)} {pv : Value} {pre : List UInt8}
instance cparam_ok [o : Hv w0 H w] [i : InK coreR p H x R] [rp : RdsF w0 R pv 1 n zs] [ep : Strs zs ps] :
    Step (Cl P 325 #[.agg #[.pointer (some ⟨p, 0, none⟩), .int .i64 id, .slice none 0 0, str pre, str l, pv], .int .i64 z] K ⟨w, ds⟩) (∀ w', Hv w0 (coreR p x :: R) w' → K (str (if 0 ≤ z ∧ z < ps.length then ps.getD z.toNat default else [])) ⟨w', ds⟩) := ⟨fun h => by
  have o0 := i.hv o
  have lp := rp.loc
  clear o
  refine s325 ?_
  unfold D325
  repeat' (first | refine go ?_ | intro _ | refine ⟨sb, ?_⟩ | refine ⟨sd, ?_⟩ | (refine ⟨fun h1 => ?_, fun h1 => ?_⟩ <;> first | exact ab h1 | ((try rw [h1]); (try simp only [bl] at h1))) | dsimp only)
  exact h _ (Sub.hv (subK rfl subEnd))⟩
instance ping_ok [o : Hv w0 H w] [i : InK coreR p H x R] [rp : RdsF w0 R pv 1 n zs] [ep : Strs zs ps] :
    Step (Cl P 256 #[.agg #[.pointer (some ⟨p, 0, none⟩), .int .i64 id, .slice none 0 0, str pre, str l, pv]] K ⟨w, ds⟩)
      (((x.fine ∧ x.dying.length ≤ 900000 ∧ x.cf.name.length ≤ 999) ∧ ps ≠ [] ∧ ∀ u ∈ ps, u.length ≤ 999) ∧ ∀ w', Hv w0 (coreR p (x.ping id ps) :: R) w' → K (.tuple #[]) ⟨w', ds⟩) := ⟨fun ⟨⟨⟨hf, hd, hn⟩, hp, hu⟩, h⟩ => by
  have o0 := i.hv o
  have lp := rp.loc
  have em : n = ps.length := by have := (rp.rd w o0.tail).len; rw [ep.eq] at this; simpa using this.symm
  obtain rfl := ep.eq
  clear o
  subst em
  have hpl := List.length_pos_iff.2 hp
  have g1 := makeS_len x.cf.name pongT [x.cf.name, ps.getD 0 default]
  have g2 : (ps.getD 0 default).length ≤ 999 := hu _ (getD_mem hpl)
  refine s256 ?_
  unfold D256
  repeat (first | refine go ?_ | intro _ | refine ⟨sb, ?_⟩ | refine ⟨sd, ?_⟩ | dsimp only)
  refine And.intro (fun h1 => by exfalso; simp at h1; exact hp h1) (fun _ => ?_)
  repeat' (first | refine go ?_ | intro _ | refine ⟨sb, ?_⟩ | refine ⟨sd, ?_⟩ | (refine ⟨fun h1 => ?_, fun h1 => ?_⟩ <;> first | exact ab h1 | ((try rw [h1]); (try simp only [bl] at h1))) | dsimp only)
  have hE : (if (0 : Int) ≤ 0 ∧ (0 : Int) < (ps.length : Int) then ps.getD (Int.toNat 0) default else []) = ps.getD 0 default := if_pos ⟨Int.le_refl _, by omega⟩
  rw [hE] at *
  refine And.intro ⟨by omega, by decide, by simp, fun u hm => ?_⟩ ?_
  · simp only [List.mem_cons, List.not_mem_nil, or_false] at hm
    rcases hm with rfl | rfl
    · omega
    · exact g2
  intro w4 o4
  repeat' (first | refine go ?_ | intro _ | refine ⟨sb, ?_⟩ | refine ⟨sd, ?_⟩ | (refine ⟨fun h1 => ?_, fun h1 => ?_⟩ <;> first | exact ab h1 | ((try rw [h1]); (try simp only [bl] at h1))) | dsimp only)
  refine And.intro ⟨⟨hf, fun u hm => by rw [List.mem_singleton.1 hm]; exact Nat.le_trans g1 (by decide)⟩, by omega⟩ ?_
  intro w5 o5
  repeat' (first | refine go ?_ | intro _ | refine ⟨sb, ?_⟩ | refine ⟨sd, ?_⟩ | (refine ⟨fun h1 => ?_, fun h1 => ?_⟩ <;> first | exact ab h1 | ((try rw [h1]); (try simp only [bl] at h1))) | dsimp only)
  exact h _ (Sub.hv (subK rfl subEnd))⟩
theorem doF_ping {b1 b2 b3 : Nat} : doF b1 b2 b3 [80, 73, 78, 71] = some (fnV 256) := by
  unfold doF
  rw [if_neg (by decide), if_neg (by decide), if_neg (by decide), if_neg (by decide), if_neg (by decide), if_neg (by decide), if_neg (by decide), if_pos (by decide)]
instance (priority := high) early_ping {w : World} : VT (Cl P 202 #[str [80, 73, 78, 71]]) w (.bool true) := ⟨fun {K ds} h => go (show K (.bool (decide (([80, 73, 78, 71] : List UInt8) = capT) || decide (([80, 73, 78, 71] : List UInt8) = passT) || decide (([80, 73, 78, 71] : List UInt8) = userT) || decide (([80, 73, 78, 71] : List UInt8) = nickT) || decide (([80, 73, 78, 71] : List UInt8) = pingT) || decide (([80, 73, 78, 71] : List UInt8) = pongT) || decide (([80, 73, 78, 71] : List UInt8) = quitT))) _ from h)⟩
instance doPing_ok [o : Hv w0 H w] [i : InK coreR p H x R] [rp : RdsF w0 R pv 1 n zs] [ep : Strs zs ps] [a : AtS x.live id y] :
    Step (Cl P 151 #[.pointer (some ⟨p, 0, none⟩), .int .i64 id, .agg #[.slice none 0 0, str pre, str [80, 73, 78, 71], pv]] K ⟨w, ds⟩)
      (((x.fine ∧ x.dying.length ≤ 900000 ∧ x.cf.name.length ≤ 999) ∧ ps ≠ [] ∧ ∀ u ∈ ps, u.length ≤ 999) ∧ ∀ w', Hv w0 (coreR p (x.ping id ps) :: R) w' → K (.bool true) ⟨w', ds⟩) := ⟨fun ⟨hc, h⟩ => by
  have o0 := i.hv o
  have lp := rp.loc
  clear o
  have hl : (x.live id).isSome = true := by rw [a.eq]; rfl
  have hA : ∀ b1 b2 b3, AtS (doF b1 b2 b3) [80, 73, 78, 71] (fnV 256) := fun _ _ _ => ⟨doF_ping⟩
  refine s151 ?_
  unfold D151
  repeat' (first | refine go ?_ | intro _ | refine ⟨sb, ?_⟩ | refine ⟨sd, ?_⟩ | (refine ⟨fun h1 => ?_, fun h1 => ?_⟩ <;> first | exact ab h1 | ((try rw [h1]); (try simp only [bl] at h1))) | dsimp only)
  · rw [hl] at h1; cases h1
  · exact h _ (Sub.hv (subK rfl subEnd))⟩
end
end Go.Proofs.YtfgdalggkknffaaGreatDoor

