import Derived.Test.YtapammcnagjigaaDoorSgg
set_option linter.all false
namespace Go.Proofs.YtapammcnagjigaaDoor
open Go.Vx Go.Lib
section
set_option maxRecDepth 20000
set_option synthInstance.maxSize 100000
set_option synthInstance.maxHeartbeats 4000000
variable {K : Value → St → Prop} {w0 w : World} {H : List SL} {ds : List Deferred} {l : List UInt8} {xp : Value} {ps : List (List UInt8)} {np : Nat} {zp : List Value} {server nick pass user real : List UInt8} {z : Int} {tk dn : Bool}
theorem awake_line : makeS [105, 114, 99, 46, 120] capB [toS [], [65, 67, 75], awayB] = [58, 105, 114, 99, 46, 120, 32, 67, 65, 80, 32, 42, 32, 65, 67, 75, 32, 97, 119, 97, 121, 45, 110, 111, 116, 105, 102, 121] := by decide +kernel
theorem awake_app : applyS (splitS 32 awayB) 0 = some 1 := by decide +kernel
instance awakeG_ok [o : Hv w0 H w] [tb : Tabs w0] : Step (Cl P 29 #[] K ⟨w, ds⟩) (∀ w', Hv w0 H w' → K (.bool true) ⟨w', ds⟩) := ⟨fun h => by
  refine cl_ok (c29 (K := fun v w' => K v ⟨w', ds⟩) ?_ fun v w' h => ⟨v, rfl, h⟩)
  unfold D29
  repeat' (first | refine go ?_ | intro _ | refine And.intro (Sd.mk (by (first | exact fun _ => True.intro | exact And.intro (fun _ => True.intro) (fun _ _ => True.intro) | (intro hq; (first | exact True.intro | omega | (simp only [and_true]; omega) | (simp only [bl] at hq; (try simp only [and_true]); omega) | fail)) | exact And.intro (fun hq => by first | exact True.intro | omega | (simp only [and_true]; omega) | (simp only [bl] at hq; (try simp only [and_true]); omega) | fail) (fun hq hr => by first | exact True.intro | omega | (simp only [and_true]; omega) | (simp only [bl] at hq hr; omega) | (simp only [bl] at hr; omega) | fail) | fail))) ?_ | refine And.intro (by (first | omega | (unfold InR; omega) | decide | (simp only [ll]; omega))) ?_ | (refine And.intro (fun h1 => ?_) (fun h1 => ?_) <;> first | (exact absurd h1 (by decide)) | ((try rw [h1]); (try simp only [bl] at h1))) | dsimp only)
  rename_i v1 _ o1
  have zz : SzS [105, 114, 99, 46, 120] [] [] [] [] [[82, 69, 81], awayB] := ⟨by decide, by decide, by decide, by decide⟩
  refine (cap_ok (server := [105, 114, 99, 46, 120]) (nick := []) (pass := []) (user := []) (real := []) (ps := [[82, 69, 81], awayB]) (z := 0) (tk := false) (dn := false)).prf ?_
  intro z' b L v w2 hc o2
  obtain ⟨e1, e2, e3⟩ := hc.q up_req
  have ea : ([[82, 69, 81], awayB] : List (List UInt8)).getD 1 default = awayB := rfl
  rw [ea, awake_app] at e1 e3
  rw [awake_line] at e3
  have e4 := e3 rfl
  subst e4
  subst e1
  subst e2
  repeat' (first | refine go ?_ | intro _ | refine And.intro (Sd.mk (by (first | exact fun _ => True.intro | exact And.intro (fun _ => True.intro) (fun _ _ => True.intro) | (intro hq; (first | exact True.intro | omega | (simp only [and_true]; omega) | (simp only [bl] at hq; (try simp only [and_true]); omega) | fail)) | exact And.intro (fun hq => by first | exact True.intro | omega | (simp only [and_true]; omega) | (simp only [bl] at hq; (try simp only [and_true]); omega) | fail) (fun hq hr => by first | exact True.intro | omega | (simp only [and_true]; omega) | (simp only [bl] at hq hr; omega) | (simp only [bl] at hr; omega) | fail) | fail))) ?_ | refine And.intro (by (first | omega | (unfold InR; omega) | decide | (simp only [ll]; omega))) ?_ | (refine And.intro (fun h1 => ?_) (fun h1 => ?_) <;> first | (exact absurd h1 (by decide)) | ((try rw [h1]); (try simp only [bl] at h1))) | dsimp only)
  · exact h _ (Sub.hv subEnd)
  all_goals exact absurd ⟨⟨rfl, trivial⟩, rfl⟩ (by assumption)⟩
instance greatG_ok [o : Hv w0 H w] [rp : RdsF w0 H xp 1 np zp] [ep : Strs zp ps] :
    Step (Cl P 30 #[str server, .agg #[.int .i64 z, .bool tk, str pass, str nick, str user, str real, .bool dn], xp] K ⟨w, ds⟩) (∀ (b : Bool) w', (b = false → SzS server nick pass user real ps) → Hv w0 H w' → K (.bool b) ⟨w', ds⟩) := ⟨fun h => by
  refine cl_ok (c30 (K := fun v w' => K v ⟨w', ds⟩) ?_ fun v w' h => ⟨v, rfl, h⟩)
  have lp : RdsL w0 H xp 1 np zp := rp.loc
  have r1 := rp.rd w o
  have em : np = ps.length := by have := r1.len; rw [ep.eq] at this; simpa using this.symm
  obtain rfl := ep.eq
  clear r1 ep
  subst em
  unfold D30
  repeat' (first | refine go ?_ | intro _ | refine And.intro (Sd.mk (by (first | exact fun _ => True.intro | exact And.intro (fun _ => True.intro) (fun _ _ => True.intro) | (intro hq; (first | exact True.intro | omega | (simp only [and_true]; omega) | (simp only [bl] at hq; (try simp only [and_true]); omega) | fail)) | exact And.intro (fun hq => by first | exact True.intro | omega | (simp only [and_true]; omega) | (simp only [bl] at hq; (try simp only [and_true]); omega) | fail) (fun hq hr => by first | exact True.intro | omega | (simp only [and_true]; omega) | (simp only [bl] at hq hr; omega) | (simp only [bl] at hr; omega) | fail) | fail))) ?_ | refine And.intro (by (first | omega | (unfold InR; omega) | decide | (simp only [ll]; omega))) ?_ | (refine And.intro (fun h1 => ?_) (fun h1 => ?_) <;> first | (exact absurd h1 (by decide)) | ((try rw [h1]); (try simp only [bl] at h1))) | dsimp only)
  · exact h true _ (fun h => absurd h (by decide)) (Sub.hv subEnd)
  rename_i w1 o1
  refine ⟨fun x s => ∃ (i : Nat), x = .int .i64 i ∧ s = ⟨_, []⟩ ∧ i ≤ ps.length ∧ ∀ j, j < i → (ps.getD j default).length ≤ 100, fun x s => match x with | .int _ z => ps.length - z.toNat | _ => 0, ⟨0, rfl, rfl, Nat.zero_le _, fun j hj => absurd hj (Nat.not_lt_zero j)⟩, ?_⟩
  rintro x s ⟨i, rfl, rfl, hi, hp⟩
  rcases Nat.lt_or_ge i ps.length with hlt | hge
  · have hLb := (show Rds _ xp 1 ps.length _ from lp.rd _ o).le
    simp only [maxLen] at hLb
    repeat' (first | refine go ?_ | intro _ | refine And.intro (Sd.mk (by (first | exact fun _ => True.intro | exact And.intro (fun _ => True.intro) (fun _ _ => True.intro) | (intro hq; (first | exact True.intro | omega | (simp only [and_true]; omega) | (simp only [bl] at hq; (try simp only [and_true]); omega) | fail)) | exact And.intro (fun hq => by first | exact True.intro | omega | (simp only [and_true]; omega) | (simp only [bl] at hq; (try simp only [and_true]); omega) | fail) (fun hq hr => by first | exact True.intro | omega | (simp only [and_true]; omega) | (simp only [bl] at hq hr; omega) | (simp only [bl] at hr; omega) | fail) | fail))) ?_ | refine And.intro (by (first | omega | (unfold InR; omega) | decide | (simp only [ll]; omega))) ?_ | (refine And.intro (fun h1 => ?_) (fun h1 => ?_) <;> first | (exact absurd h1 (by decide)) | ((try rw [h1]); (try simp only [bl] at h1))) | dsimp only)
    · exact h true _ (fun h => absurd h (by decide)) (Sub.hv subEnd)
    · refine ⟨⟨i + 1, rfl, rfl, hlt, fun j hj => ?_⟩, by omega⟩
      rcases Nat.lt_or_ge j i with hj2 | hj2
      · exact hp j hj2
      · obtain rfl : j = i := by omega
        omega
    · exfalso; omega
  · repeat' (first | refine go ?_ | intro _ | refine And.intro (Sd.mk (by (first | exact fun _ => True.intro | exact And.intro (fun _ => True.intro) (fun _ _ => True.intro) | (intro hq; (first | exact True.intro | omega | (simp only [and_true]; omega) | (simp only [bl] at hq; (try simp only [and_true]); omega) | fail)) | exact And.intro (fun hq => by first | exact True.intro | omega | (simp only [and_true]; omega) | (simp only [bl] at hq; (try simp only [and_true]); omega) | fail) (fun hq hr => by first | exact True.intro | omega | (simp only [and_true]; omega) | (simp only [bl] at hq hr; omega) | (simp only [bl] at hr; omega) | fail) | fail))) ?_ | refine And.intro (by (first | omega | (unfold InR; omega) | decide | (simp only [ll]; omega))) ?_ | (refine And.intro (fun h1 => ?_) (fun h1 => ?_) <;> first | (exact absurd h1 (by decide)) | ((try rw [h1]); (try simp only [bl] at h1))) | dsimp only)
    · exfalso; omega
    · refine h false _ (fun _ => ⟨by omega, by omega, by omega, fun p hm => ?_⟩) (Sub.hv subEnd)
      obtain ⟨j, hj, rfl⟩ := List.mem_iff_getElem.1 hm
      have := hp j (by omega)
      rwa [List.getD_eq_getElem?_getD, List.getElem?_eq_getElem hj] at this⟩
end
end Go.Proofs.YtapammcnagjigaaDoor

