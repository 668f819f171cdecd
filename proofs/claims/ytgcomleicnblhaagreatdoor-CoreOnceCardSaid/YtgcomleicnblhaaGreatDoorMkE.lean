import Derived.Test.YtgcomleicnblhaaGreatDoorMkD
set_option linter.all false
namespace Go.Proofs.YtgcomleicnblhaaGreatDoor.Mk
open Go.Vx Go.Lib
/-! numerics -/
def codeS (n : Nat) : List UInt8 := [UInt8.ofNat (48 + n / 100), UInt8.ofNat (48 + n / 10 % 10), UInt8.ofNat (48 + n % 10)]
def numS (server : List UInt8) (code : Nat) (tgt : List UInt8) (ps : List (List UInt8)) : List UInt8 := if 14 < ps.length then [] else makeS server (codeS code) ((if tgt = [] then [42] else tgt) :: ps)
section
variable {K : Value → St → Prop} {w0 w : World} {H R : List SL} {ds : List Deferred} {l : List UInt8}
instance digits_ok {n : Nat} [o : Hv w0 H w] : Step (Cl P 277 #[.int .i64 n] K ⟨w, ds⟩) ((1 ≤ n ∧ n ≤ 999) ∧ ∀ w', Hv w0 H w' → K (str (codeS n)) ⟨w', ds⟩) := ⟨fun ⟨hn, h⟩ => by
  refine s277 ?_
  have q1 : (n : Int).tdiv 100 = ((n / 100 : Nat) : Int) := by rw [Int.tdiv_eq_ediv_of_nonneg (by omega)]; omega
  have q2 : (n : Int).tdiv 10 = ((n / 10 : Nat) : Int) := by rw [Int.tdiv_eq_ediv_of_nonneg (by omega)]; omega
  have q3 : ((n / 10 : Nat) : Int).tmod 10 = ((n / 10 % 10 : Nat) : Int) := by rw [Int.tmod_eq_emod_of_nonneg (by omega)]; omega
  have q4 : (n : Int).tmod 10 = ((n % 10 : Nat) : Int) := by rw [Int.tmod_eq_emod_of_nonneg (by omega)]; omega
  have q5 : ((n : Int).tdiv 10).tmod 10 = ((n / 10 % 10 : Nat) : Int) := by rw [q2, q3]
  have e1 : (48 + (n : Int).tdiv 100).toNat = 48 + n / 100 := by omega
  have e2 : (48 + ((n : Int).tdiv 10).tmod 10).toNat = 48 + n / 10 % 10 := by omega
  have e3 : (48 + (n : Int).tmod 10).toNat = 48 + n % 10 := by omega
  unfold D277
  dsimp only
  repeat' (first | refine go ?_ | intro _ | refine ⟨sb, ?_⟩ | refine ⟨sd, ?_⟩ | (refine ⟨fun h1 => ?_, fun h1 => ?_⟩ <;> first | exact ab h1 | ((try rw [h1]); (try simp only [bl] at h1))) | dsimp only)
  rw [e1, e2, e3]
  exact h _ (Sub.hv subEnd)⟩
variable {xp : Value} {ps : List (List UInt8)} {np : Nat} {zp : List Value} {server tgt : List UInt8}
instance numeric_ok {n : Nat} [o : Hv w0 H w] [rp : RdsF w0 H xp 1 np zp] [ep : Strs zp ps] :
    Step (Cl P 200 #[str server, .int .i64 n, str tgt, xp] K ⟨w, ds⟩) ((server.length ≤ 10000 ∧ (1 ≤ n ∧ n ≤ 999) ∧ tgt.length ≤ 999 ∧ ps.length ≤ 1000 ∧ ∀ p ∈ ps, p.length ≤ 999) ∧ ∀ w', Hv w0 H w' → K (str (numS server n tgt ps)) ⟨w', ds⟩) := ⟨fun ⟨⟨hsl, hn, htl, hps, hpp⟩, h⟩ => by
  refine s200 ?_
  have lp : RdsL w0 H xp 1 np zp := rp.loc
  have r1 := rp.rd w o
  have em : np = ps.length := by have := r1.len; rw [ep.eq] at this; simpa using this.symm
  obtain rfl := ep.eq
  clear r1 ep
  subst em
  unfold D200
  dsimp only
  repeat' (first | refine go ?_ | intro _ | refine ⟨sb, ?_⟩ | refine ⟨sd, ?_⟩ | (refine ⟨fun h1 => ?_, fun h1 => ?_⟩ <;> first | exact ab h1 | ((try rw [h1]); (try simp only [bl] at h1))) | dsimp only)
  · have e : numS server n tgt ps = [] := by unfold numS; rw [if_pos (by omega)]
    rw [e] at h
    exact h _ o
  · refine And.intro ⟨hsl, by simp [codeS], by simp; omega, fun p hp => ?_⟩ ?_
    · rcases List.mem_append.1 hp with hp | hp
      · rw [List.mem_singleton.1 hp]; simp
      · exact hpp p hp
    intro w2 o2
    repeat' (first | refine go ?_ | intro _ | refine ⟨sb, ?_⟩ | refine ⟨sd, ?_⟩ | (refine ⟨fun h1 => ?_, fun h1 => ?_⟩ <;> first | exact ab h1 | ((try rw [h1]); (try simp only [bl] at h1))) | dsimp only)
    have e : numS server n tgt ps = makeS server (codeS n) ([[42]] ++ ps) := by unfold numS; rw [if_neg (by omega), if_pos h1]; rfl
    rw [← e]
    exact h _ (Sub.hv subEnd)
  · refine And.intro ⟨hsl, by simp [codeS], by simp; omega, fun p hp => ?_⟩ ?_
    · rcases List.mem_append.1 hp with hp | hp
      · rw [List.mem_singleton.1 hp]; exact htl
      · exact hpp p hp
    intro w2 o2
    repeat' (first | refine go ?_ | intro _ | refine ⟨sb, ?_⟩ | refine ⟨sd, ?_⟩ | (refine ⟨fun h1 => ?_, fun h1 => ?_⟩ <;> first | exact ab h1 | ((try rw [h1]); (try simp only [bl] at h1))) | dsimp only)
    have e : numS server n tgt ps = makeS server (codeS n) ([tgt] ++ ps) := by unfold numS; rw [if_neg (by omega), if_neg h1]; rfl
    rw [← e]
    exact h _ (Sub.hv subEnd)⟩
instance who_ok {w : World} {a b c : List UInt8} : VS (Cl P 182 #[str a, str b, str c]) w (a.length ≤ 1000000 ∧ b.length ≤ 1000000 ∧ c.length ≤ 1000000) (str (a ++ [33] ++ b ++ [64] ++ c)) := ⟨fun ⟨h1, h2, h3⟩ {K ds} h => by
  refine s182 ?_
  unfold D182
  dsimp only
  repeat' (first | refine go ?_ | intro _ | refine ⟨sb, ?_⟩ | refine ⟨sd, ?_⟩ | (refine ⟨fun h1 => ?_, fun h1 => ?_⟩ <;> first | exact ab h1 | ((try rw [h1]); (try simp only [bl] at h1))) | dsimp only)
  exact h⟩
end
end Go.Proofs.YtgcomleicnblhaaGreatDoor.Mk

