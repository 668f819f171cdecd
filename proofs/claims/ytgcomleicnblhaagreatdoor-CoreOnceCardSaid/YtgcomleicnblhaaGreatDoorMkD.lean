import Derived.Test.YtgcomleicnblhaaGreatDoorMkC
set_option linter.all false
namespace Go.Proofs.YtgcomleicnblhaaGreatDoor.Mk
open Go.Vx Go.Lib
/-! a line made -/
def dash (s : List UInt8) : List UInt8 := replS s 32 [45]
def unc (s : List UInt8) : List UInt8 := if hd s 58 then s.set 0 45 else s
def midS (p : List UInt8) : List UInt8 := if p = [] then [42] else unc (dash p)
theorem dash_len (s : List UInt8) : (dash s).length = s.length := by
  unfold dash replS
  induction s with
  | nil => rfl
  | cons b s ih => rw [List.flatMap_cons, List.length_append, ih]; split <;> simp <;> omega
theorem unc_len (s : List UInt8) : (unc s).length = s.length := by unfold unc; split <;> simp
theorem mid_len (s : List UInt8) : (midS s).length ≤ s.length + 1 := by
  unfold midS; split
  · simp
  · rw [unc_len, dash_len]; omega
def mkAt (ps : List (List UInt8)) (i : Nat) : List UInt8 := if i + 1 < ps.length then midS (cleanS (ps.getD i default)) else cleanS (ps.getD i default)
def mkTo (ps : List (List UInt8)) (i : Nat) : List (List UInt8) := (List.range i).map (mkAt ps)
theorem mkTo_step (ps : List (List UInt8)) (i : Nat) : mkTo ps (i + 1) = mkTo ps i ++ [mkAt ps i] := by unfold mkTo; rw [List.range_succ, List.map_append]; rfl
def makeS (pre name : List UInt8) (ps : List (List UInt8)) : List UInt8 :=
  if !cmdB name || (!decide (capsS name = name) || decide (15 < ps.length)) then [] else (plainM ([], dash (cleanS pre), name, mkTo ps ps.length)).take 510
section
variable {K : Value → St → Prop} {w0 w : World} {H R : List SL} {ds : List Deferred} {l : List UInt8}
instance (priority := high) dash_ok [o : Hv w0 H w] : Step (Cl P 176 #[str l, .string ⟨#[32]⟩, .string ⟨#[45]⟩] K ⟨w, ds⟩) (l.length ≤ 500000 ∧ ∀ w', Hv w0 H w' → K (str (dash l)) ⟨w', ds⟩) := ⟨fun ⟨hl, h⟩ => replaceAll_ok.prf ⟨⟨hl, by decide, by decide⟩, h⟩⟩
instance middle_ok [o : Hv w0 H w] : Step (Cl P 178 #[str l] K ⟨w, ds⟩) (l.length ≤ 100000 ∧ ∀ w', Hv w0 H w' → K (str (midS l)) ⟨w', ds⟩) := ⟨fun ⟨hl, h⟩ => by
  refine s178 ?_
  unfold D178
  dsimp only
  repeat' (first | refine go ?_ | intro _ | refine ⟨sb, ?_⟩ | refine ⟨sd, ?_⟩ | (refine ⟨fun h1 => ?_, fun h1 => ?_⟩ <;> first | exact ab h1 | ((try rw [h1]); (try simp only [bl] at h1))) | dsimp only)
  · subst h1; exact h _ o
  have hdl := dash_len l
  have hp := List.length_pos_iff.2 h1
  have em : midS l = unc (dash l) := by unfold midS; rw [if_neg h1]
  rw [em] at h
  have e0 : ∀ c, hd (dash l) c = decide ((dash l).getD 0 default = c) := fun c => by
    cases hx : dash l with
    | nil => rw [hx] at hdl; simp at hdl; omega
    | cons b t => rw [hd_cons]; simp
  repeat' (first | refine go ?_ | intro _ | refine ⟨sb, ?_⟩ | refine ⟨sd, ?_⟩ | (refine ⟨fun h1 => ?_, fun h1 => ?_⟩ <;> first | exact ab h1 | ((try rw [h1]); (try simp only [bl] at h1))) | dsimp only)
  · have : unc (dash l) = (dash l).set 0 45 := by unfold unc; rw [e0, decide_eq_true ‹_ = (58 : UInt8)›]; rfl
    rw [this] at h
    exact h _ (Sub.hv subEnd)
  · have : unc (dash l) = dash l := by unfold unc; rw [e0, decide_eq_false ‹¬ _ = (58 : UInt8)›]; rfl
    rw [this] at h
    exact h _ (Sub.hv subEnd)⟩
variable {xp : Value} {ps : List (List UInt8)} {np : Nat} {zp : List Value} {pre cmd : List UInt8}
instance make_ok [o : Hv w0 H w] [rp : RdsF w0 H xp 1 np zp] [ep : Strs zp ps] :
    Step (Cl P 107 #[str pre, str cmd, xp] K ⟨w, ds⟩) ((pre.length ≤ 10000 ∧ cmd.length ≤ 10000 ∧ ps.length ≤ 100 ∧ ∀ p ∈ ps, p.length ≤ 999) ∧ ∀ w', Hv w0 H w' → K (str (makeS pre cmd ps)) ⟨w', ds⟩) := ⟨fun ⟨⟨hpl, hcl, hps, hpp⟩, h⟩ => by
  refine s107 ?_
  have lp : RdsL w0 H xp 1 np zp := rp.loc
  have r1 := rp.rd w o
  have em : np = ps.length := by have := r1.len; rw [ep.eq] at this; simpa using this.symm
  obtain rfl := ep.eq
  clear r1 ep
  subst em
  have hc1 := clean_len pre
  have hd1 := dash_len (cleanS pre)
  unfold D107
  dsimp only
  repeat ((fail_if_success (refine l0_ind (fun _ _ => True) ?_ ?_)); (first | refine go ?_ | intro _ | refine ⟨sb, ?_⟩ | refine ⟨sd, ?_⟩ | dsimp only))
  rename_i b1 _ _ w1 o1
  have hat : ∀ i, (mkAt ps i).length ≤ 1000 := fun i => by
    have h1 := clean_len (ps.getD i default)
    have h2 : (ps.getD i default).length ≤ 999 := by
      rcases Nat.lt_or_ge i ps.length with hi | hi
      · exact hpp _ (getD_mem hi)
      · rw [List.getD_eq_getElem?_getD, List.getElem?_eq_none hi]; show ([] : List UInt8).length ≤ 999; simp
    have h3 := mid_len (cleanS (ps.getD i default))
    unfold mkAt; split <;> omega
  refine ⟨fun x s => ∃ (i : Nat) (v : Value) (w' : World), x = .int .i64 i ∧ s = ⟨w', []⟩ ∧ i ≤ ps.length ∧ Hv w0 (box b1 250 [.slice none 0 0, str (dash (cleanS pre)), str cmd, v] :: row 9 1 v i ((mkTo ps i).map str) :: H) w',
    fun x s => match x with | .int _ z => ps.length - z.toNat | _ => 0, ⟨0, _, w1, rfl, rfl, Nat.zero_le _, Hv.perm sep_swap (Hv.nilRow 9 1 o1)⟩, ?_⟩
  rintro x s ⟨i, v, w2, rfl, rfl, hi, o2⟩
  clear o1 o
  rcases Nat.lt_or_ge i ps.length with hlt | hge
  · have h2 : (ps.getD i default).length ≤ 999 := hpp _ (getD_mem hlt)
    have h3 := clean_len (ps.getD i default)
    have hst := mkTo_step ps i
    repeat ((fail_if_success (refine j1_any (fun _ _ => True) ?_ ?_)); (first | refine go ?_ | intro _ | refine ⟨sb, ?_⟩ | refine ⟨sd, ?_⟩ | dsimp only))
    refine And.intro (fun _ => ?_) (fun h1 => ?_)
    · repeat ((fail_if_success (refine j1_any (fun _ _ => True) ?_ ?_)); (first | refine go ?_ | intro _ | refine ⟨sb, ?_⟩ | refine ⟨sd, ?_⟩ | dsimp only))
      rename_i w3 o3
      refine j1_hv w0 (box b1 250 [.slice none 0 0, str (dash (cleanS pre)), str cmd, v] :: row 9 1 v i ((mkTo ps i).map str) :: H) [] (str (mkAt ps i)) ?_ ?_
      · repeat' (first | refine go ?_ | intro _ | refine ⟨sb, ?_⟩ | refine ⟨sd, ?_⟩ | (refine ⟨fun h1 => ?_, fun h1 => ?_⟩ <;> first | exact ab h1 | ((try rw [h1]); (try simp only [bl] at h1))) | dsimp only)
        · refine ⟨?_, _, rfl, Sub.hv (subBox rfl (subRow rfl rfl subEnd))⟩
          unfold mkAt; rw [if_pos (by omega)]
        · refine ⟨?_, _, rfl, Sub.hv (subBox rfl (subRow rfl rfl subEnd))⟩
          unfold mkAt; rw [if_neg (by omega)]
      intro w4 o4
      clear o2 o3
      repeat' (first | refine go ?_ | intro _ | refine ⟨sb, ?_⟩ | refine ⟨sd, ?_⟩ | (refine ⟨fun h1 => ?_, fun h1 => ?_⟩ <;> first | exact ab h1 | ((try rw [h1]); (try simp only [bl] at h1))) | dsimp only)
      refine ⟨⟨i + 1, _, _, rfl, rfl, hlt, Sub.hv (subBox rfl (subRow rfl (by rw [hst, List.map_append]; rfl) subEnd))⟩, by simp; omega⟩
    · exfalso; simp at h1; omega
  · obtain rfl : i = ps.length := by omega
    repeat' (first | refine go ?_ | intro _ | refine ⟨sb, ?_⟩ | refine ⟨sd, ?_⟩ | (refine ⟨fun h1 => ?_, fun h1 => ?_⟩ <;> first | exact ab h1 | ((try rw [h1]); (try simp only [bl] at h1))) | dsimp only)
    · exfalso; omega
    · have e : makeS pre cmd ps = [] := by
        unfold makeS; rw [if_pos]
        rcases h1 with h1 | h1
        · simp [h1]
        · have : 15 < ps.length := by omega
          simp [this]
      rw [e] at h
      exact h _ (Sub.hv subEnd)
    · rename_i hcb _ _ 
      have hml : (mkTo ps ps.length).length = ps.length := by simp [mkTo]
      have hmm : ∀ p ∈ mkTo ps ps.length, p.length ≤ 1000 := fun p hp => by
        obtain ⟨i, _, rfl⟩ := List.mem_map.1 hp
        exact hat i
      have hpm : (plainM ([], dash (cleanS pre), cmd, mkTo ps ps.length)).length ≤ 1000000 := by
        unfold plainM
        rw [List.length_append, ← parT_end]
        have h5 := parT_len (mkTo ps ps.length) hmm _ (Nat.le_refl _)
        have h6 : (if dash (cleanS pre) = [] then [] else 58 :: (dash (cleanS pre) ++ [32])).length ≤ 100002 := by split <;> simp <;> omega
        have h7 : (preP (dash (cleanS pre))).length ≤ 100002 := by unfold preP; split <;> simp <;> omega
        simp only [List.length_append]
        omega
      refine And.intro ⟨by omega, by omega, by omega, hmm⟩ ?_
      intro w5 o5
      have e : makeS pre cmd ps = (plainM ([], dash (cleanS pre), cmd, mkTo ps ps.length)).take 510 := by
        unfold makeS; rw [if_neg]
        have h2 : capsS cmd = cmd := h1.1
        have h3 : ¬ 15 < ps.length := by omega
        simp [hcb, h2, h3]
      rw [e] at h
      repeat' (first | refine go ?_ | intro _ | refine ⟨sb, ?_⟩ | refine ⟨sd, ?_⟩ | (refine ⟨fun h1 => ?_, fun h1 => ?_⟩ <;> first | exact ab h1 | ((try rw [h1]); (try simp only [bl] at h1))) | dsimp only)
      have e2 : (min ((plainM ([], dash (cleanS pre), cmd, mkTo ps ps.length)).length : Int) 510).toNat = min (plainM ([], dash (cleanS pre), cmd, mkTo ps ps.length)).length 510 := by omega
      have e3 : (plainM ([], dash (cleanS pre), cmd, mkTo ps ps.length)).take (min (plainM ([], dash (cleanS pre), cmd, mkTo ps ps.length)).length 510) = (plainM ([], dash (cleanS pre), cmd, mkTo ps ps.length)).take 510 := by
        rw [Nat.min_comm, ← List.take_take, List.take_length]
      rw [e2, e3]
      exact h _ (Sub.hv subEnd)
    · have e : makeS pre cmd ps = [] := by
        unfold makeS; rw [if_pos]; simp [‹cmdB cmd = false›]
      rw [e] at h
      exact h _ (Sub.hv subEnd)
    · exact absurd h1.1 (by decide)⟩
end
end Go.Proofs.YtgcomleicnblhaaGreatDoor.Mk

