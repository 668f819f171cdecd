import Derived.Test.YtapammcnagjigaaDoorMp
set_option linter.all false
namespace Go.Proofs.YtapammcnagjigaaDoor
open Go.Vx Go.Lib
/-! numerics -/
def codeS (n : Nat) : List UInt8 := [UInt8.ofNat (48 + n / 100), UInt8.ofNat (48 + n / 10 % 10), UInt8.ofNat (48 + n % 10)]
def numS (server : List UInt8) (code : Nat) (tgt : List UInt8) (ps : List (List UInt8)) : List UInt8 := if 14 < ps.length then [] else makeS server (codeS code) ((if tgt = [] then [42] else tgt) :: ps)
section
variable {K : Value → St → Prop} {w0 w : World} {H R : List SL} {ds : List Deferred} {l : List UInt8}
instance digits_ok {n : Nat} [o : Hv w0 H w] : Step (Cl P 36 #[.int .i64 n] K ⟨w, ds⟩) ((1 ≤ n ∧ n ≤ 999) ∧ ∀ w', Hv w0 H w' → K (str (codeS n)) ⟨w', ds⟩) := ⟨fun ⟨hn, h⟩ => by
  refine cl_ok (c36 (K := fun v w' => K v ⟨w', ds⟩) ?_ fun v w' h => ⟨v, rfl, h⟩)
  have q1 : (n : Int).tdiv 100 = ((n / 100 : Nat) : Int) := by rw [Int.tdiv_eq_ediv_of_nonneg (by omega)]; omega
  have q2 : (n : Int).tdiv 10 = ((n / 10 : Nat) : Int) := by rw [Int.tdiv_eq_ediv_of_nonneg (by omega)]; omega
  have q3 : ((n / 10 : Nat) : Int).tmod 10 = ((n / 10 % 10 : Nat) : Int) := by rw [Int.tmod_eq_emod_of_nonneg (by omega)]; omega
  have q4 : (n : Int).tmod 10 = ((n % 10 : Nat) : Int) := by rw [Int.tmod_eq_emod_of_nonneg (by omega)]; omega
  have q5 : ((n : Int).tdiv 10).tmod 10 = ((n / 10 % 10 : Nat) : Int) := by rw [q2, q3]
  have e1 : (48 + (n : Int).tdiv 100).toNat = 48 + n / 100 := by omega
  have e2 : (48 + ((n : Int).tdiv 10).tmod 10).toNat = 48 + n / 10 % 10 := by omega
  have e3 : (48 + (n : Int).tmod 10).toNat = 48 + n % 10 := by omega
  unfold D36
  dsimp only
  repeat' (first | refine go ?_ | intro _ | refine And.intro (Sd.mk (by (first | exact fun _ => True.intro | exact And.intro (fun _ => True.intro) (fun _ _ => True.intro) | (intro hq; (first | exact True.intro | omega | (simp only [and_true]; omega) | (simp only [bl] at hq; (try simp only [and_true]); omega) | fail)) | exact And.intro (fun hq => by first | exact True.intro | omega | (simp only [and_true]; omega) | (simp only [bl] at hq; (try simp only [and_true]); omega) | fail) (fun hq hr => by first | exact True.intro | omega | (simp only [and_true]; omega) | (simp only [bl] at hq hr; omega) | (simp only [bl] at hr; omega) | fail) | fail))) ?_ | refine And.intro (by (first | omega | (unfold InR; omega) | decide | (simp only [ll]; omega))) ?_ | (refine And.intro (fun h1 => ?_) (fun h1 => ?_) <;> first | (exact absurd h1 (by decide)) | ((try rw [h1]); (try simp only [bl] at h1))) | dsimp only)
  rw [e1, e2, e3]
  exact h _ (Sub.hv subEnd)⟩
instance codeR_ok {n : Nat} [o : Hv w0 H w] : Step (Cl P 13 #[.int .i64 n] K ⟨w, ds⟩) ((1 ≤ n ∧ n ≤ 999) ∧ ∀ w', Hv w0 H w' → K (str (codeS n)) ⟨w', ds⟩) := ⟨fun ⟨hn, h⟩ => by
  refine cl_ok (c13 (K := fun v w' => K v ⟨w', ds⟩) ?_ fun v w' h => ⟨v, rfl, h⟩)
  have q1 : (n : Int).tdiv 100 = ((n / 100 : Nat) : Int) := by rw [Int.tdiv_eq_ediv_of_nonneg (by omega)]; omega
  have q2 : (n : Int).tdiv 10 = ((n / 10 : Nat) : Int) := by rw [Int.tdiv_eq_ediv_of_nonneg (by omega)]; omega
  have q3 : ((n / 10 : Nat) : Int).tmod 10 = ((n / 10 % 10 : Nat) : Int) := by rw [Int.tmod_eq_emod_of_nonneg (by omega)]; omega
  have q4 : (n : Int).tmod 10 = ((n % 10 : Nat) : Int) := by rw [Int.tmod_eq_emod_of_nonneg (by omega)]; omega
  have q5 : ((n : Int).tdiv 10).tmod 10 = ((n / 10 % 10 : Nat) : Int) := by rw [q2, q3]
  have e1 : (48 + (n : Int).tdiv 100).toNat = 48 + n / 100 := by omega
  have e2 : (48 + ((n : Int).tdiv 10).tmod 10).toNat = 48 + n / 10 % 10 := by omega
  have e3 : (48 + (n : Int).tmod 10).toNat = 48 + n % 10 := by omega
  unfold D13
  dsimp only
  repeat' (first | refine go ?_ | intro _ | refine And.intro (Sd.mk (by (first | exact fun _ => True.intro | exact And.intro (fun _ => True.intro) (fun _ _ => True.intro) | (intro hq; (first | exact True.intro | omega | (simp only [and_true]; omega) | (simp only [bl] at hq; (try simp only [and_true]); omega) | fail)) | exact And.intro (fun hq => by first | exact True.intro | omega | (simp only [and_true]; omega) | (simp only [bl] at hq; (try simp only [and_true]); omega) | fail) (fun hq hr => by first | exact True.intro | omega | (simp only [and_true]; omega) | (simp only [bl] at hq hr; omega) | (simp only [bl] at hr; omega) | fail) | fail))) ?_ | refine And.intro (by (first | omega | (unfold InR; omega) | decide | (simp only [ll]; omega))) ?_ | (refine And.intro (fun h1 => ?_) (fun h1 => ?_) <;> first | (exact absurd h1 (by decide)) | ((try rw [h1]); (try simp only [bl] at h1))) | dsimp only)
  rw [e1, e2, e3]
  exact h _ (Sub.hv subEnd)⟩
variable {xp : Value} {ps : List (List UInt8)} {np : Nat} {zp : List Value} {server tgt : List UInt8}
instance numeric_ok {n : Nat} [o : Hv w0 H w] [rp : RdsF w0 H xp 1 np zp] [ep : Strs zp ps] :
    Step (Cl P 12 #[str server, .int .i64 n, str tgt, xp] K ⟨w, ds⟩) ((server.length ≤ 10000 ∧ (1 ≤ n ∧ n ≤ 999) ∧ tgt.length ≤ 999 ∧ ps.length ≤ 1000 ∧ ∀ p ∈ ps, p.length ≤ 999) ∧ ∀ w', Hv w0 H w' → K (str (numS server n tgt ps)) ⟨w', ds⟩) := ⟨fun ⟨⟨hsl, hn, htl, hps, hpp⟩, h⟩ => by
  refine cl_ok (c12 (K := fun v w' => K v ⟨w', ds⟩) ?_ fun v w' h => ⟨v, rfl, h⟩)
  have lp : RdsL w0 H xp 1 np zp := rp.loc
  have r1 := rp.rd w o
  have em : np = ps.length := by have := r1.len; rw [ep.eq] at this; simpa using this.symm
  obtain rfl := ep.eq
  clear r1 ep
  subst em
  unfold D12
  dsimp only
  repeat' (first | refine go ?_ | intro _ | refine And.intro (Sd.mk (by (first | exact fun _ => True.intro | exact And.intro (fun _ => True.intro) (fun _ _ => True.intro) | (intro hq; (first | exact True.intro | omega | (simp only [and_true]; omega) | (simp only [bl] at hq; (try simp only [and_true]); omega) | fail)) | exact And.intro (fun hq => by first | exact True.intro | omega | (simp only [and_true]; omega) | (simp only [bl] at hq; (try simp only [and_true]); omega) | fail) (fun hq hr => by first | exact True.intro | omega | (simp only [and_true]; omega) | (simp only [bl] at hq hr; omega) | (simp only [bl] at hr; omega) | fail) | fail))) ?_ | refine And.intro (by (first | omega | (unfold InR; omega) | decide | (simp only [ll]; omega))) ?_ | (refine And.intro (fun h1 => ?_) (fun h1 => ?_) <;> first | (exact absurd h1 (by decide)) | ((try rw [h1]); (try simp only [bl] at h1))) | dsimp only)
  · have e : numS server n tgt ps = [] := by unfold numS; rw [if_pos (by omega)]
    rw [e] at h
    exact h _ o
  · refine And.intro ⟨hsl, by simp [codeS], by simp; omega, fun p hp => ?_⟩ ?_
    · rcases List.mem_append.1 hp with hp | hp
      · rw [List.mem_singleton.1 hp]; simp
      · exact hpp p hp
    intro w2 o2
    repeat' (first | refine go ?_ | intro _ | refine And.intro (Sd.mk (by (first | exact fun _ => True.intro | exact And.intro (fun _ => True.intro) (fun _ _ => True.intro) | (intro hq; (first | exact True.intro | omega | (simp only [and_true]; omega) | (simp only [bl] at hq; (try simp only [and_true]); omega) | fail)) | exact And.intro (fun hq => by first | exact True.intro | omega | (simp only [and_true]; omega) | (simp only [bl] at hq; (try simp only [and_true]); omega) | fail) (fun hq hr => by first | exact True.intro | omega | (simp only [and_true]; omega) | (simp only [bl] at hq hr; omega) | (simp only [bl] at hr; omega) | fail) | fail))) ?_ | refine And.intro (by (first | omega | (unfold InR; omega) | decide | (simp only [ll]; omega))) ?_ | (refine And.intro (fun h1 => ?_) (fun h1 => ?_) <;> first | (exact absurd h1 (by decide)) | ((try rw [h1]); (try simp only [bl] at h1))) | dsimp only)
    have e : numS server n tgt ps = makeS server (codeS n) ([[42]] ++ ps) := by unfold numS; rw [if_neg (by omega), if_pos h1]; rfl
    rw [← e]
    exact h _ (Sub.hv subEnd)
  · refine And.intro ⟨hsl, by simp [codeS], by simp; omega, fun p hp => ?_⟩ ?_
    · rcases List.mem_append.1 hp with hp | hp
      · rw [List.mem_singleton.1 hp]; exact htl
      · exact hpp p hp
    intro w2 o2
    repeat' (first | refine go ?_ | intro _ | refine And.intro (Sd.mk (by (first | exact fun _ => True.intro | exact And.intro (fun _ => True.intro) (fun _ _ => True.intro) | (intro hq; (first | exact True.intro | omega | (simp only [and_true]; omega) | (simp only [bl] at hq; (try simp only [and_true]); omega) | fail)) | exact And.intro (fun hq => by first | exact True.intro | omega | (simp only [and_true]; omega) | (simp only [bl] at hq; (try simp only [and_true]); omega) | fail) (fun hq hr => by first | exact True.intro | omega | (simp only [and_true]; omega) | (simp only [bl] at hq hr; omega) | (simp only [bl] at hr; omega) | fail) | fail))) ?_ | refine And.intro (by (first | omega | (unfold InR; omega) | decide | (simp only [ll]; omega))) ?_ | (refine And.intro (fun h1 => ?_) (fun h1 => ?_) <;> first | (exact absurd h1 (by decide)) | ((try rw [h1]); (try simp only [bl] at h1))) | dsimp only)
    have e : numS server n tgt ps = makeS server (codeS n) ([tgt] ++ ps) := by unfold numS; rw [if_neg (by omega), if_neg h1]; rfl
    rw [← e]
    exact h _ (Sub.hv subEnd)⟩
theorem awN : numS [105, 114, 99, 46, 120] 1 [97, 110, 110] [[72, 105, 32, 116, 104, 101, 114, 101]] = [58, 105, 114, 99, 46, 120, 32, 48, 48, 49, 32, 97, 110, 110, 32, 58, 72, 105, 32, 116, 104, 101, 114, 101] := by decide +kernel
instance awake14_ok [o : Hv w0 H w] : Step (Cl P 10 #[] K ⟨w, ds⟩) (∀ w', Hv w0 H w' → K (.bool true) ⟨w', ds⟩) := ⟨fun h => by
  refine cl_ok (c10 (K := fun v w' => K v ⟨w', ds⟩) ?_ fun v w' h => ⟨v, rfl, h⟩)
  unfold D10
  dsimp only
  repeat (first | refine go ?_ | intro _ | refine And.intro (Sd.mk (by (first | exact fun _ => True.intro | exact And.intro (fun _ => True.intro) (fun _ _ => True.intro) | (intro hq; (first | exact True.intro | omega | (simp only [and_true]; omega) | (simp only [bl] at hq; (try simp only [and_true]); omega) | fail)) | exact And.intro (fun hq => by first | exact True.intro | omega | (simp only [and_true]; omega) | (simp only [bl] at hq; (try simp only [and_true]); omega) | fail) (fun hq hr => by first | exact True.intro | omega | (simp only [and_true]; omega) | (simp only [bl] at hq hr; omega) | (simp only [bl] at hr; omega) | fail) | fail))) ?_ | refine And.intro (by (first | omega | (unfold InR; omega) | decide | (simp only [ll]; omega))) ?_ | dsimp only)
  rename_i v1 w1 o1
  refine (numeric_ok (n := 1) (ps := [[72, 105, 32, 116, 104, 101, 114, 101]]) (o := o1) (rp := inferInstance) (ep := inferInstance)).prf ⟨⟨by decide, by decide, by decide, by decide, by decide⟩, fun w2 o2 => ?_⟩
  rw [awN]
  repeat' (first | refine go ?_ | intro _ | refine And.intro (Sd.mk (by (first | exact fun _ => True.intro | exact And.intro (fun _ => True.intro) (fun _ _ => True.intro) | (intro hq; (first | exact True.intro | omega | (simp only [and_true]; omega) | (simp only [bl] at hq; (try simp only [and_true]); omega) | fail)) | exact And.intro (fun hq => by first | exact True.intro | omega | (simp only [and_true]; omega) | (simp only [bl] at hq; (try simp only [and_true]); omega) | fail) (fun hq hr => by first | exact True.intro | omega | (simp only [and_true]; omega) | (simp only [bl] at hq hr; omega) | (simp only [bl] at hr; omega) | fail) | fail))) ?_ | refine And.intro (by (first | omega | (unfold InR; omega) | decide | (simp only [ll]; omega))) ?_ | (refine And.intro (fun h1 => ?_) (fun h1 => ?_) <;> first | (exact absurd h1 (by decide)) | ((try rw [h1]); (try simp only [bl] at h1))) | dsimp only)
  exact h _ (Sub.hv subEnd)⟩
instance who_ok {w : World} {a b c : List UInt8} : VS (Cl P 14 #[str a, str b, str c]) w (a.length ≤ 1000000 ∧ b.length ≤ 1000000 ∧ c.length ≤ 1000000) (str (a ++ [33] ++ b ++ [64] ++ c)) := ⟨fun ⟨h1, h2, h3⟩ {K ds} h => by
  refine cl_ok (c14 (K := fun v w' => K v ⟨w', ds⟩) ?_ fun v w' h => ⟨v, rfl, h⟩)
  unfold D14
  dsimp only
  repeat' (first | refine go ?_ | intro _ | refine And.intro (Sd.mk (by (first | exact fun _ => True.intro | exact And.intro (fun _ => True.intro) (fun _ _ => True.intro) | (intro hq; (first | exact True.intro | omega | (simp only [and_true]; omega) | (simp only [bl] at hq; (try simp only [and_true]); omega) | fail)) | exact And.intro (fun hq => by first | exact True.intro | omega | (simp only [and_true]; omega) | (simp only [bl] at hq; (try simp only [and_true]); omega) | fail) (fun hq hr => by first | exact True.intro | omega | (simp only [and_true]; omega) | (simp only [bl] at hq hr; omega) | (simp only [bl] at hr; omega) | fail) | fail))) ?_ | refine And.intro (by (first | omega | (unfold InR; omega) | decide | (simp only [ll]; omega))) ?_ | (refine And.intro (fun h1 => ?_) (fun h1 => ?_) <;> first | (exact absurd h1 (by decide)) | ((try rw [h1]); (try simp only [bl] at h1))) | dsimp only)
  exact h⟩
/-- No text is longer than n. -/
class FitL (n : Nat) (ps : List (List UInt8)) : Prop where out : ∀ p ∈ ps, p.length ≤ n
def greatS (ps : List (List UInt8)) : Bool := decide (20 < ps.length) || ps.any fun p => decide (200 < p.length)
instance great_ok [o : Hv w0 H w] [rp : RdsF w0 H xp 1 np zp] [ep : Strs zp ps] [fl : FitL 1000000000000000 ps] : Step (Cl P 11 #[xp] K ⟨w, ds⟩) (∀ w', Hv w0 H w' → K (.bool (greatS ps)) ⟨w', ds⟩) := ⟨fun h => by
  have hpp := fl.out
  refine cl_ok (c11 (K := fun v w' => K v ⟨w', ds⟩) ?_ fun v w' h => ⟨v, rfl, h⟩)
  have lp : RdsL w0 H xp 1 np zp := rp.loc
  have r1 := rp.rd w o
  have em : np = ps.length := by have := r1.len; rw [ep.eq] at this; simpa using this.symm
  obtain rfl := ep.eq
  clear r1 ep
  subst em
  unfold D11
  repeat ((fail_if_success (refine l0_ind (fun _ _ => True) ?_ ?_)); (first | refine go ?_ | intro _ | refine And.intro (Sd.mk (by (first | exact fun _ => True.intro | exact And.intro (fun _ => True.intro) (fun _ _ => True.intro) | (intro hq; (first | exact True.intro | omega | (simp only [and_true]; omega) | (simp only [bl] at hq; (try simp only [and_true]); omega) | fail)) | exact And.intro (fun hq => by first | exact True.intro | omega | (simp only [and_true]; omega) | (simp only [bl] at hq; (try simp only [and_true]); omega) | fail) (fun hq hr => by first | exact True.intro | omega | (simp only [and_true]; omega) | (simp only [bl] at hq hr; omega) | (simp only [bl] at hr; omega) | fail) | fail))) ?_ | refine And.intro (by (first | omega | (unfold InR; omega) | decide | (simp only [ll]; omega))) ?_ | dsimp only))
  refine And.intro (fun h1 => ?_) (fun h1 => ?_)
  · repeat' (first | refine go ?_ | intro _ | refine And.intro (Sd.mk (by (first | exact fun _ => True.intro | exact And.intro (fun _ => True.intro) (fun _ _ => True.intro) | (intro hq; (first | exact True.intro | omega | (simp only [and_true]; omega) | (simp only [bl] at hq; (try simp only [and_true]); omega) | fail)) | exact And.intro (fun hq => by first | exact True.intro | omega | (simp only [and_true]; omega) | (simp only [bl] at hq; (try simp only [and_true]); omega) | fail) (fun hq hr => by first | exact True.intro | omega | (simp only [and_true]; omega) | (simp only [bl] at hq hr; omega) | (simp only [bl] at hr; omega) | fail) | fail))) ?_ | refine And.intro (by (first | omega | (unfold InR; omega) | decide | (simp only [ll]; omega))) ?_ | (refine And.intro (fun h1 => ?_) (fun h1 => ?_) <;> first | (exact absurd h1 (by decide)) | ((try rw [h1]); (try simp only [bl] at h1))) | dsimp only)
    have e : greatS ps = true := by unfold greatS; rw [decide_eq_true (by simp at h1; omega)]; rfl
    rw [e] at h
    exact h _ o
  · refine ⟨fun x s => ∃ (i : Nat), x = .int .i64 i ∧ s = ⟨w, []⟩ ∧ i ≤ ps.length ∧ (ps.take i).any (fun p => decide (200 < p.length)) = false,
      fun x s => match x with | .int _ z => ps.length - z.toNat | _ => 0, ⟨0, rfl, rfl, Nat.zero_le _, rfl⟩, ?_⟩
    rintro x s ⟨i, rfl, rfl, hi, hn⟩
    have h20 : ps.length ≤ 20 := by simp at h1; omega
    rcases Nat.lt_or_ge i ps.length with hlt | hge
    · have h2 := hpp _ (getD_mem hlt)
      have h3 := take_snoc hlt
      repeat' (first | refine go ?_ | intro _ | refine And.intro (Sd.mk (by (first | exact fun _ => True.intro | exact And.intro (fun _ => True.intro) (fun _ _ => True.intro) | (intro hq; (first | exact True.intro | omega | (simp only [and_true]; omega) | (simp only [bl] at hq; (try simp only [and_true]); omega) | fail)) | exact And.intro (fun hq => by first | exact True.intro | omega | (simp only [and_true]; omega) | (simp only [bl] at hq; (try simp only [and_true]); omega) | fail) (fun hq hr => by first | exact True.intro | omega | (simp only [and_true]; omega) | (simp only [bl] at hq hr; omega) | (simp only [bl] at hr; omega) | fail) | fail))) ?_ | refine And.intro (by (first | omega | (unfold InR; omega) | decide | (simp only [ll]; omega))) ?_ | (refine And.intro (fun h1 => ?_) (fun h1 => ?_) <;> first | (exact absurd h1 (by decide)) | ((try rw [h1]); (try simp only [bl] at h1))) | dsimp only)
      · have e : greatS ps = true := by
          unfold greatS
          have : ps.any (fun p => decide (200 < p.length)) = true := List.any_eq_true.2 ⟨_, getD_mem hlt, by simp only [decide_eq_true_eq]; omega⟩
          rw [this, Bool.or_true]
        rw [e] at h
        exact h _ o
      · refine ⟨⟨i + 1, rfl, rfl, hlt, ?_⟩, by simp; omega⟩
        rw [h3, List.any_append, hn]
        simp only [Bool.false_or, List.any_cons, List.any_nil, Bool.or_false, decide_eq_false_iff_not]
        omega
      · exfalso; omega
    · obtain rfl : i = ps.length := by omega
      rw [List.take_length] at hn
      have e : greatS ps = false := by unfold greatS; rw [hn, decide_eq_false (by omega)]; rfl
      rw [e] at h
      repeat' (first | refine go ?_ | intro _ | refine And.intro (Sd.mk (by (first | exact fun _ => True.intro | exact And.intro (fun _ => True.intro) (fun _ _ => True.intro) | (intro hq; (first | exact True.intro | omega | (simp only [and_true]; omega) | (simp only [bl] at hq; (try simp only [and_true]); omega) | fail)) | exact And.intro (fun hq => by first | exact True.intro | omega | (simp only [and_true]; omega) | (simp only [bl] at hq; (try simp only [and_true]); omega) | fail) (fun hq hr => by first | exact True.intro | omega | (simp only [and_true]; omega) | (simp only [bl] at hq hr; omega) | (simp only [bl] at hr; omega) | fail) | fail))) ?_ | refine And.intro (by (first | omega | (unfold InR; omega) | decide | (simp only [ll]; omega))) ?_ | (refine And.intro (fun h1 => ?_) (fun h1 => ?_) <;> first | (exact absurd h1 (by decide)) | ((try rw [h1]); (try simp only [bl] at h1))) | dsimp only)
      · exfalso; omega
      · exact h _ o⟩
end
theorem rwho_ok {w : World} (a b c : List UInt8) : Calls P 4 #[str a, str b, str c] w fun e w' => e = .returned (.bool true) ∧ Hv w [] w' := by
  refine c4 (K := fun v w' => v = .bool true ∧ Hv w [] w') ?_ fun v w' h => ⟨by rw [h.1], h.2⟩
  have o := Hv.begin w
  unfold D4
  dsimp only
  repeat' (first | refine go ?_ | intro _ | refine And.intro (Sd.mk (by (first | exact fun _ => True.intro | exact And.intro (fun _ => True.intro) (fun _ _ => True.intro) | (intro hq; (first | exact True.intro | omega | (simp only [and_true]; omega) | (simp only [bl] at hq; (try simp only [and_true]); omega) | fail)) | exact And.intro (fun hq => by first | exact True.intro | omega | (simp only [and_true]; omega) | (simp only [bl] at hq; (try simp only [and_true]); omega) | fail) (fun hq hr => by first | exact True.intro | omega | (simp only [and_true]; omega) | (simp only [bl] at hq hr; omega) | (simp only [bl] at hr; omega) | fail) | fail))) ?_ | refine And.intro (by (first | omega | (unfold InR; omega) | decide | (simp only [ll]; omega))) ?_ | (refine And.intro (fun h1 => ?_) (fun h1 => ?_) <;> first | (exact absurd h1 (by decide)) | ((try rw [h1]); (try simp only [bl] at h1))) | dsimp only)
  · exact ⟨rfl, Sub.hv subEnd⟩
  · exact ⟨by simp, Sub.hv subEnd⟩
/-! the plain law of the line made -/
theorem clean_txt (l : List UInt8) : txtB (cleanS l) = true := txt_iff.2 fun b hb => by
  have := (List.mem_filter.1 hb).2
  simpa [okT, and_assoc] using this
theorem dash_mem {l : List UInt8} {b : UInt8} (h : b ∈ dash l) : b ∈ l ∨ b = 45 := by
  unfold dash replS at h
  obtain ⟨x, hx, hb⟩ := List.mem_flatMap.1 h
  split at hb
  · exact .inr (List.mem_singleton.1 hb)
  · exact .inl (by rw [List.mem_singleton.1 hb]; exact hx)
theorem dash_txt {l : List UInt8} (h : txtB l = true) : txtB (dash l) = true := txt_iff.2 fun b hb => by
  rcases dash_mem hb with hb | rfl
  · exact txt_iff.1 h b hb
  · decide
theorem unc_txt {l : List UInt8} (h : txtB l = true) : txtB (unc l) = true := txt_iff.2 fun b hb => by
  unfold unc at hb
  split at hb
  · rcases List.mem_or_eq_of_mem_set hb with hb | rfl
    · exact txt_iff.1 h b hb
    · decide
  · exact txt_iff.1 h b hb
theorem mid_txt {l : List UInt8} (h : txtB l = true) : txtB (midS l) = true := by
  unfold midS
  split
  · decide
  · exact unc_txt (dash_txt h)
theorem mkAt_txt (ps : List (List UInt8)) (i : Nat) : txtB (mkAt ps i) = true := by
  unfold mkAt
  split
  · exact mid_txt (clean_txt _)
  · exact clean_txt _
theorem make_txt (pre name : List UInt8) (ps : List (List UInt8)) : txtB (makeS pre name ps) = true := by
  unfold makeS
  split
  · rfl
  · rename_i h
    simp only [Bool.or_eq_true, Bool.not_eq_true', not_or, Bool.not_eq_false] at h
    refine txt_iff.2 fun b hb => ?_
    have hb := List.mem_of_mem_take hb
    unfold plainM at hb
    rcases List.mem_append.1 hb with hb | hb
    · rw [head_eq] at hb
      simp only [tagP, if_true, List.nil_append, List.mem_append] at hb
      rcases hb with hb | hb
      · unfold preP at hb
        split at hb
        · cases hb
        · simp only [List.mem_cons, List.mem_append, List.not_mem_nil, or_false] at hb
          rcases hb with rfl | hb | rfl
          · decide
          · exact txt_iff.1 (dash_txt (clean_txt _)) b hb
          · decide
      · have := cmd_no h.1 b hb
        exact ⟨this.2.2.2.1, this.2.2.2.2.1, this.2.2.2.2.2⟩
    · refine txt_iff.1 (txt_par (lastW_txt _) _ fun p hp => ?_) b hb
      obtain ⟨i, _, rfl⟩ := List.mem_map.1 hp
      exact mkAt_txt ps i
theorem code_all : (List.range 1000).all (fun c => cmdB (codeS c) && capsS (codeS c) == codeS c) = true := by decide +kernel
theorem code_cmd {c : Nat} (h : c < 1000) : cmdB (codeS c) = true ∧ capsS (codeS c) = codeS c := by
  have := List.all_eq_true.1 code_all c (List.mem_range.2 h)
  simpa using this
theorem par_cons (w p : List UInt8) (r : List (List UInt8)) (hr : r = [] → w = []) : ∃ X, parS w (p :: r) = 32 :: (p ++ X) := by
  cases r with
  | nil => exact ⟨[], by rw [hr rfl]; simp [parS]⟩
  | cons q r => exact ⟨_, rfl⟩
theorem rep_same (k : Nat) : dash (cleanS (List.replicate k 115)) = List.replicate k 115 := by
  induction k with
  | zero => rfl
  | succ k ih =>
    have e : cleanS (List.replicate (k + 1) 115) = 115 :: cleanS (List.replicate k 115) := rfl
    rw [e]
    have e2 : dash (115 :: cleanS (List.replicate k 115)) = 115 :: dash (cleanS (List.replicate k 115)) := rfl
    rw [e2, ih, List.replicate_succ]
/-- A numeric begins with its server, its digits and to whom it is told. -/
theorem num_head {pre tgt : List UInt8} {c : Nat} {ps : List (List UInt8)} (hc : c < 1000) (hp : dash (cleanS pre) = pre) (hne : pre ≠ []) (hps : ps.length ≤ 14) (ht : tgt ≠ []) (ht1 : midS (cleanS tgt) = tgt) (ht2 : cleanS tgt = tgt) (ht3 : spare tgt = false) :
    ∃ X, numS pre c tgt ps = (58 :: (pre ++ ([32] ++ (codeS c ++ (32 :: tgt)))) ++ X).take 510 := by
  have h1 := code_cmd hc
  have e : numS pre c tgt ps = (plainM ([], pre, codeS c, mkTo (tgt :: ps) (tgt :: ps).length)).take 510 := by
    unfold numS
    rw [if_neg (by omega), if_neg ht]
    unfold makeS
    rw [if_neg, hp]
    have : ¬ 15 < (tgt :: ps).length := by simp; omega
    simp only [h1.1, h1.2, Bool.or_eq_true, Bool.not_eq_true', decide_eq_false_iff_not, decide_eq_true_eq, not_or]
    exact ⟨by simp, by simp, this⟩
  have e1 : mkTo (tgt :: ps) (tgt :: ps).length = mkAt (tgt :: ps) 0 :: ((List.range ps.length).map Nat.succ).map (mkAt (tgt :: ps)) := by
    unfold mkTo
    rw [List.length_cons, List.range_succ_eq_map, List.map_cons]
  have e2 : mkAt (tgt :: ps) 0 = tgt := by
    unfold mkAt
    split
    · exact ht1
    · exact ht2
  rw [e2] at e1
  have hw : ((List.range ps.length).map Nat.succ).map (mkAt (tgt :: ps)) = [] → lastW (mkTo (tgt :: ps) (tgt :: ps).length) = [] := fun hr => by
    rw [e1, hr]; unfold lastW; simp [ht3]
  obtain ⟨X, hX⟩ := par_cons (lastW (mkTo (tgt :: ps) (tgt :: ps).length)) tgt _ hw
  refine ⟨X, ?_⟩
  rw [e]
  unfold plainM
  dsimp only
  conv => lhs; rw [e1]
  rw [e1] at hX
  rw [hX, head_eq]
  simp [tagP, preP, hne]
theorem take_head {α : Type} {A X : List α} {n : Nat} (h : A.length ≤ n) : ∃ Y, (A ++ X).take n = A ++ Y := ⟨X.take (n - A.length), by rw [List.take_append, List.take_of_length_le h]⟩
theorem rshort_ok {w : World} {xp : Value} {ps : List (List UInt8)} (n : UInt8) (code : Int) (hp : Arg w xp 1 ps.length (ps.map str)) (hsz : ∀ p ∈ ps, p.length ≤ 140737488351232) : Calls P 3 #[byteV n, .int .i64 code, xp] w fun e w' => e = .returned (.bool true) ∧ Hv w [] w' := by
  refine c3 (K := fun v w' => v = .bool true ∧ Hv w [] w') ?_ fun v w' h => ⟨by rw [h.1], h.2⟩
  have o := Hv.begin w
  unfold D3
  dsimp only
  have fl : FitL 1000000000000000 ps := ⟨fun p hp => by have := hsz p hp; omega⟩
  repeat' (first | refine go ?_ | intro _ | refine And.intro (Sd.mk (by (first | exact fun _ => True.intro | exact And.intro (fun _ => True.intro) (fun _ _ => True.intro) | (intro hq; (first | exact True.intro | omega | (simp only [and_true]; omega) | (simp only [bl] at hq; (try simp only [and_true]); omega) | fail)) | exact And.intro (fun hq => by first | exact True.intro | omega | (simp only [and_true]; omega) | (simp only [bl] at hq; (try simp only [and_true]); omega) | fail) (fun hq hr => by first | exact True.intro | omega | (simp only [and_true]; omega) | (simp only [bl] at hq hr; omega) | (simp only [bl] at hr; omega) | fail) | fail))) ?_ | refine And.intro (by (first | omega | (unfold InR; omega) | decide | (simp only [ll]; omega))) ?_ | (refine And.intro (fun h1 => ?_) (fun h1 => ?_) <;> first | (exact absurd h1 (by decide)) | ((try rw [h1]); (try simp only [bl] at h1))) | dsimp only)
  · exact ⟨rfl, Sub.hv subEnd⟩
  obtain ⟨⟨⟨hg, h14⟩, hc1⟩, hc2⟩ := h1
  obtain ⟨c, rfl⟩ := Int.eq_ofNat_of_zero_le (show 0 ≤ code by omega)
  have hpp : ∀ p ∈ ps, p.length ≤ 999 := fun p hp => by
    unfold greatS at hg
    simp only [Bool.or_eq_false_iff, List.any_eq_false, decide_eq_true_eq] at hg
    have := hg.2 p hp; omega
  have hq : (n.toNat : Int).tmod 60 = ((n.toNat % 60 : Nat) : Int) := by rw [Int.tmod_eq_emod_of_nonneg (by omega)]; omega
  rename_i w2 o2
  refine ⟨fun x y s => ∃ (i : Nat), x = str (List.replicate i 115) ∧ y = .int .i64 i ∧ s = ⟨w2, []⟩ ∧ i ≤ n.toNat % 60 + 1, fun _ y s => match y with | .int _ z => 61 - z.toNat | _ => 0, ⟨0, rfl, rfl, rfl, by omega⟩, ?_⟩
  rintro x y s ⟨i, rfl, rfl, rfl, hi⟩
  have hrl : (List.replicate i (115 : UInt8)).length = i := List.length_replicate
  rcases Nat.lt_or_ge i (n.toNat % 60 + 1) with hlt | hge
  · repeat' (first | refine go ?_ | intro _ | refine And.intro (Sd.mk (by (first | exact fun _ => True.intro | exact And.intro (fun _ => True.intro) (fun _ _ => True.intro) | (intro hq; (first | exact True.intro | omega | (simp only [and_true]; omega) | (simp only [bl] at hq; (try simp only [and_true]); omega) | fail)) | exact And.intro (fun hq => by first | exact True.intro | omega | (simp only [and_true]; omega) | (simp only [bl] at hq; (try simp only [and_true]); omega) | fail) (fun hq hr => by first | exact True.intro | omega | (simp only [and_true]; omega) | (simp only [bl] at hq hr; omega) | (simp only [bl] at hr; omega) | fail) | fail))) ?_ | refine And.intro (by (first | omega | (unfold InR; omega) | decide | (simp only [ll]; omega))) ?_ | (refine And.intro (fun h1 => ?_) (fun h1 => ?_) <;> first | (exact absurd h1 (by decide)) | ((try rw [h1]); (try simp only [bl] at h1))) | dsimp only)
    · refine ⟨⟨i + 1, ?_, rfl, rfl, hlt⟩, by simp; omega⟩
      have : List.replicate i (115 : UInt8) ++ [115] = List.replicate (i + 1) 115 := by rw [List.replicate_succ']
      rw [this]
    · exfalso; omega
  · have hne : List.replicate i (115 : UInt8) ≠ [] := by intro e; have := congrArg List.length e; simp at this; omega
    obtain ⟨X, hX⟩ := num_head (c := c) (ps := ps) (tgt := [97, 110, 110]) (by omega) (rep_same i) hne (by omega) (by decide) (by decide) (by decide) (by decide)
    generalize hA : (58 :: (List.replicate i (115 : UInt8) ++ ([32] ++ (codeS c ++ [32, 97, 110, 110])))) = A at hX
    have hAl : A.length = i + 9 := by rw [← hA]; simp [codeS]
    obtain ⟨Y, hY⟩ := take_head (A := A) (X := X) (n := 510) (by omega)
    have hlen : (A ++ Y).length ≤ 510 := by rw [← hY, List.length_take]; omega
    rw [hY] at hX
    have htx : txtB (A ++ Y) = true := by
      rw [← hX]; unfold numS; split
      · rfl
      · exact make_txt _ _ _
    have hcl : (codeS c).length = 3 := rfl
    have hA2 : [58] ++ List.replicate i 115 ++ [32] ++ codeS c ++ [32, 97, 110, 110] = A := by rw [← hA]; simp
    repeat' (first | refine go ?_ | intro _ | refine And.intro (Sd.mk (by (first | exact fun _ => True.intro | exact And.intro (fun _ => True.intro) (fun _ _ => True.intro) | (intro hq; (first | exact True.intro | omega | (simp only [and_true]; omega) | (simp only [bl] at hq; (try simp only [and_true]); omega) | fail)) | exact And.intro (fun hq => by first | exact True.intro | omega | (simp only [and_true]; omega) | (simp only [bl] at hq; (try simp only [and_true]); omega) | fail) (fun hq hr => by first | exact True.intro | omega | (simp only [and_true]; omega) | (simp only [bl] at hq hr; omega) | (simp only [bl] at hr; omega) | fail) | fail))) ?_ | refine And.intro (by (first | omega | (unfold InR; omega) | decide | (simp only [ll]; omega))) ?_ | (refine And.intro (fun h1 => ?_) (fun h1 => ?_) <;> first | (exact absurd h1 (by decide)) | ((try rw [h1]); (try simp only [bl] at h1))) | dsimp only)
    · exfalso; omega
    · refine And.intro ⟨by omega, by omega, by decide, by omega, hpp⟩ ?_
      intro w3 o3
      rw [hX]
      repeat ((fail_if_success (refine j1_any (fun _ _ => True) ?_ ?_)); (first | refine go ?_ | intro _ | refine And.intro (Sd.mk (by (first | exact fun _ => True.intro | exact And.intro (fun _ => True.intro) (fun _ _ => True.intro) | (intro hq; (first | exact True.intro | omega | (simp only [and_true]; omega) | (simp only [bl] at hq; (try simp only [and_true]); omega) | fail)) | exact And.intro (fun hq => by first | exact True.intro | omega | (simp only [and_true]; omega) | (simp only [bl] at hq; (try simp only [and_true]); omega) | fail) (fun hq hr => by first | exact True.intro | omega | (simp only [and_true]; omega) | (simp only [bl] at hq hr; omega) | (simp only [bl] at hr; omega) | fail) | fail))) ?_ | refine And.intro (by (first | omega | (unfold InR; omega) | decide | (simp only [ll]; omega))) ?_ | dsimp only))
      rw [hA2]
      have ht : (A ++ Y).take A.length = A := List.take_left
      repeat' (first | refine go ?_ | intro _ | refine And.intro (Sd.mk (by (first | exact fun _ => True.intro | exact And.intro (fun _ => True.intro) (fun _ _ => True.intro) | (intro hq; (first | exact True.intro | omega | (simp only [and_true]; omega) | (simp only [bl] at hq; (try simp only [and_true]); omega) | fail)) | exact And.intro (fun hq => by first | exact True.intro | omega | (simp only [and_true]; omega) | (simp only [bl] at hq; (try simp only [and_true]); omega) | fail) (fun hq hr => by first | exact True.intro | omega | (simp only [and_true]; omega) | (simp only [bl] at hq hr; omega) | (simp only [bl] at hr; omega) | fail) | fail))) ?_ | refine And.intro (by (first | omega | (unfold InR; omega) | decide | (simp only [ll]; omega))) ?_ | (refine And.intro (fun h1 => ?_) (fun h1 => ?_) <;> first | (exact absurd h1 (by decide)) | ((try rw [h1]); (try simp only [bl] at h1))) | dsimp only)
      · exfalso
        have hAY : (A ++ Y).length = A.length + Y.length := List.length_append
        rcases h1 with (h1 | h1) | h1
        · omega
        · omega
        · exact h1 ht
      · rename_i w4 o4
        clear hX hY hA hA2 ht
        generalize A ++ Y = L at htx hlen ⊢
        refine ⟨fun x s => ∃ (i : Nat), x = .int .i64 i ∧ s = ⟨w4, []⟩ ∧ i ≤ L.length, fun x s => match x with | .int _ z => L.length - z.toNat | _ => 0, ⟨0, rfl, rfl, Nat.zero_le _⟩, ?_⟩
        rintro x s ⟨i, rfl, rfl, hi⟩
        rcases Nat.lt_or_ge i L.length with hlt | hge
        · have hb := txt_iff.1 htx _ (getD_mem hlt)
          repeat' (first | refine go ?_ | intro _ | refine And.intro (Sd.mk (by (first | exact fun _ => True.intro | exact And.intro (fun _ => True.intro) (fun _ _ => True.intro) | (intro hq; (first | exact True.intro | omega | (simp only [and_true]; omega) | (simp only [bl] at hq; (try simp only [and_true]); omega) | fail)) | exact And.intro (fun hq => by first | exact True.intro | omega | (simp only [and_true]; omega) | (simp only [bl] at hq; (try simp only [and_true]); omega) | fail) (fun hq hr => by first | exact True.intro | omega | (simp only [and_true]; omega) | (simp only [bl] at hq hr; omega) | (simp only [bl] at hr; omega) | fail) | fail))) ?_ | refine And.intro (by (first | omega | (unfold InR; omega) | decide | (simp only [ll]; omega))) ?_ | (refine And.intro (fun h1 => ?_) (fun h1 => ?_) <;> first | (exact absurd h1 (by decide)) | ((try rw [h1]); (try simp only [bl] at h1))) | dsimp only)
          · exfalso
            rcases h1 with (h1 | h1) | h1
            · exact hb.1 h1
            · exact hb.2.2 h1
            · exact hb.2.1 h1
          · exact ⟨⟨i + 1, rfl, rfl, hlt⟩, by simp; omega⟩
          · exfalso; omega
        · repeat' (first | refine go ?_ | intro _ | refine And.intro (Sd.mk (by (first | exact fun _ => True.intro | exact And.intro (fun _ => True.intro) (fun _ _ => True.intro) | (intro hq; (first | exact True.intro | omega | (simp only [and_true]; omega) | (simp only [bl] at hq; (try simp only [and_true]); omega) | fail)) | exact And.intro (fun hq => by first | exact True.intro | omega | (simp only [and_true]; omega) | (simp only [bl] at hq; (try simp only [and_true]); omega) | fail) (fun hq hr => by first | exact True.intro | omega | (simp only [and_true]; omega) | (simp only [bl] at hq hr; omega) | (simp only [bl] at hr; omega) | fail) | fail))) ?_ | refine And.intro (by (first | omega | (unfold InR; omega) | decide | (simp only [ll]; omega))) ?_ | (refine And.intro (fun h1 => ?_) (fun h1 => ?_) <;> first | (exact absurd h1 (by decide)) | ((try rw [h1]); (try simp only [bl] at h1))) | dsimp only)
          · exfalso; omega
          · exact ⟨rfl, Sub.hv subEnd⟩
end Go.Proofs.YtapammcnagjigaaDoor

