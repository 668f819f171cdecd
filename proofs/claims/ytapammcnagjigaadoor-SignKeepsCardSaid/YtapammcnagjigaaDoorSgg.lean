import Derived.Test.YtapammcnagjigaaDoorSgf
set_option linter.all false
namespace Go.Proofs.YtapammcnagjigaaDoor
open Go.Vx Go.Lib
section
set_option maxRecDepth 20000
set_option synthInstance.maxSize 100000
set_option synthInstance.maxHeartbeats 4000000
variable {K : Value → St → Prop} {w0 w : World} {H : List SL} {ds : List Deferred} {l : List UInt8} {xp : Value} {ps : List (List UInt8)} {np : Nat} {zp : List Value} {server nick pass user real : List UInt8} {z : Int} {tk dn : Bool}
/-- What CAP says of its answer. -/
structure CapR (server nick : List UInt8) (ps : List (List UInt8)) (z : Int) (tk dn : Bool) (z' : Int) (b : Bool) (L : List (List UInt8)) : Prop where
  d : dn = true → b = true → tk = true
  q : upS (ps.getD 0 default) = [82, 69, 81] → z' = (applyS (splitS 32 (ps.getD 1 default)) z).getD z ∧ b = !dn ∧ ((applyS (splitS 32 (ps.getD 1 default)) z).isSome = true → L = [makeS server capB [toS nick, [65, 67, 75], ps.getD 1 default]])
instance cap_ok [o : Hv w0 H w] [tb : Tabs w0] [rp : RdsF w0 H xp 1 np zp] [ep : Strs zp ps] [sz : SzS server nick pass user real ps] :
    Step (Cl P 33 #[str server, .agg #[.int .i64 z, .bool tk, str pass, str nick, str user, str real, .bool dn], xp] K ⟨w, ds⟩)
      (∀ (z' : Int) (b : Bool) (L : List (List UInt8)) v w', CapR server nick ps z tk dn z' b L → Hv w0 (row 9 1 v L.length (L.map str) :: H) w' → K (.tuple #[.agg #[.int .i64 z', .bool b, str pass, str nick, str user, str real, .bool dn], v]) ⟨w', ds⟩) := ⟨fun h => by
  refine cl_ok (c33 (K := fun v w' => K v ⟨w', ds⟩) ?_ fun v w' h => ⟨v, rfl, h⟩)
  have lp : RdsL w0 H xp 1 np zp := rp.loc
  have r1 := rp.rd w o
  have em : np = ps.length := by have := r1.len; rw [ep.eq] at this; simpa using this.symm
  obtain rfl := ep.eq
  clear r1 ep
  subst em
  obtain ⟨zs, zn, zl, zp⟩ := sz
  have zq : ∀ k, (ps.getD k default).length ≤ 100 := fun k => by
    rcases Nat.lt_or_ge k ps.length with hk | hk
    · exact zp _ (getD_mem hk)
    · rw [List.getD_eq_getElem?_getD, List.getElem?_eq_none hk]; exact Nat.zero_le _
  have zq0 := zq 0
  have zq1 := zq 1
  unfold D33
  repeat' (first | refine go ?_ | intro _ | refine And.intro (Sd.mk (by (first | exact fun _ => True.intro | exact And.intro (fun _ => True.intro) (fun _ _ => True.intro) | (intro hq; (first | exact True.intro | omega | (simp only [and_true]; omega) | (simp only [bl] at hq; (try simp only [and_true]); omega) | fail)) | exact And.intro (fun hq => by first | exact True.intro | omega | (simp only [and_true]; omega) | (simp only [bl] at hq; (try simp only [and_true]); omega) | fail) (fun hq hr => by first | exact True.intro | omega | (simp only [and_true]; omega) | (simp only [bl] at hq hr; omega) | (simp only [bl] at hr; omega) | fail) | fail))) ?_ | refine And.intro (by (first | omega | (unfold InR; omega) | decide | (simp only [ll]; omega))) ?_ | (refine And.intro (fun h1 => ?_) (fun h1 => ?_) <;> first | (exact absurd h1 (by decide)) | ((try rw [h1]); (try simp only [bl] at h1))) | dsimp only)
  · rename_i sl _ hsl _
    rw [h1]
    dsimp only [List.cons_append, List.nil_append]
    refine said_ok.prf ⟨⟨by omega, by omega, by decide, by omega⟩, fun v w3 o3 => ?_⟩
    repeat' (first | refine go ?_ | intro _ | refine And.intro (Sd.mk (by (first | exact fun _ => True.intro | exact And.intro (fun _ => True.intro) (fun _ _ => True.intro) | (intro hq; (first | exact True.intro | omega | (simp only [and_true]; omega) | (simp only [bl] at hq; (try simp only [and_true]); omega) | fail)) | exact And.intro (fun hq => by first | exact True.intro | omega | (simp only [and_true]; omega) | (simp only [bl] at hq; (try simp only [and_true]); omega) | fail) (fun hq hr => by first | exact True.intro | omega | (simp only [and_true]; omega) | (simp only [bl] at hq hr; omega) | (simp only [bl] at hr; omega) | fail) | fail))) ?_ | refine And.intro (by (first | omega | (unfold InR; omega) | decide | (simp only [ll]; omega))) ?_ | (refine And.intro (fun h1 => ?_) (fun h1 => ?_) <;> first | (exact absurd h1 (by decide)) | ((try rw [h1]); (try simp only [bl] at h1))) | dsimp only)
    refine h z (!dn) [_] _ _ ⟨fun h1 h2 => by rw [h1] at h2; exact absurd h2 (by decide), fun h2 => absurd (h1.symm.trans h2) (by decide)⟩ (Sub.hv (subRow rfl rfl subEnd))
  · rename_i sl _ hsl _
    rw [h1]
    dsimp only [List.cons_append, List.nil_append]
    refine said_ok.prf ⟨⟨by omega, by omega, by decide, by omega⟩, fun v w3 o3 => ?_⟩
    repeat' (first | refine go ?_ | intro _ | refine And.intro (Sd.mk (by (first | exact fun _ => True.intro | exact And.intro (fun _ => True.intro) (fun _ _ => True.intro) | (intro hq; (first | exact True.intro | omega | (simp only [and_true]; omega) | (simp only [bl] at hq; (try simp only [and_true]); omega) | fail)) | exact And.intro (fun hq => by first | exact True.intro | omega | (simp only [and_true]; omega) | (simp only [bl] at hq; (try simp only [and_true]); omega) | fail) (fun hq hr => by first | exact True.intro | omega | (simp only [and_true]; omega) | (simp only [bl] at hq hr; omega) | (simp only [bl] at hr; omega) | fail) | fail))) ?_ | refine And.intro (by (first | omega | (unfold InR; omega) | decide | (simp only [ll]; omega))) ?_ | (refine And.intro (fun h1 => ?_) (fun h1 => ?_) <;> first | (exact absurd h1 (by decide)) | ((try rw [h1]); (try simp only [bl] at h1))) | dsimp only)
    refine h z tk [_] _ _ ⟨fun _ h2 => h2, fun h2 => absurd (h1.symm.trans h2) (by decide)⟩ (Sub.hv (subRow rfl rfl subEnd))
  · dsimp only [List.cons_append, List.nil_append]
    refine (said_ok (what := [65, 67, 75])).prf ⟨⟨by omega, by omega, by decide, by omega⟩, fun v w3 o3 => ?_⟩
    repeat' (first | refine go ?_ | intro _ | refine And.intro (Sd.mk (by (first | exact fun _ => True.intro | exact And.intro (fun _ => True.intro) (fun _ _ => True.intro) | (intro hq; (first | exact True.intro | omega | (simp only [and_true]; omega) | (simp only [bl] at hq; (try simp only [and_true]); omega) | fail)) | exact And.intro (fun hq => by first | exact True.intro | omega | (simp only [and_true]; omega) | (simp only [bl] at hq; (try simp only [and_true]); omega) | fail) (fun hq hr => by first | exact True.intro | omega | (simp only [and_true]; omega) | (simp only [bl] at hq hr; omega) | (simp only [bl] at hr; omega) | fail) | fail))) ?_ | refine And.intro (by (first | omega | (unfold InR; omega) | decide | (simp only [ll]; omega))) ?_ | (refine And.intro (fun h1 => ?_) (fun h1 => ?_) <;> first | (exact absurd h1 (by decide)) | ((try rw [h1]); (try simp only [bl] at h1))) | dsimp only)
    refine h _ (!dn) [_] _ _ ⟨fun h1 h2 => by rw [h1] at h2; exact absurd h2 (by decide), fun h2 => ⟨rfl, rfl, fun _ => rfl⟩⟩ (Sub.hv (subRow rfl rfl subEnd))
  · dsimp only [List.cons_append, List.nil_append]
    refine (said_ok (what := [78, 65, 75])).prf ⟨⟨by omega, by omega, by decide, by omega⟩, fun v w3 o3 => ?_⟩
    repeat' (first | refine go ?_ | intro _ | refine And.intro (Sd.mk (by (first | exact fun _ => True.intro | exact And.intro (fun _ => True.intro) (fun _ _ => True.intro) | (intro hq; (first | exact True.intro | omega | (simp only [and_true]; omega) | (simp only [bl] at hq; (try simp only [and_true]); omega) | fail)) | exact And.intro (fun hq => by first | exact True.intro | omega | (simp only [and_true]; omega) | (simp only [bl] at hq; (try simp only [and_true]); omega) | fail) (fun hq hr => by first | exact True.intro | omega | (simp only [and_true]; omega) | (simp only [bl] at hq hr; omega) | (simp only [bl] at hr; omega) | fail) | fail))) ?_ | refine And.intro (by (first | omega | (unfold InR; omega) | decide | (simp only [ll]; omega))) ?_ | (refine And.intro (fun h1 => ?_) (fun h1 => ?_) <;> first | (exact absurd h1 (by decide)) | ((try rw [h1]); (try simp only [bl] at h1))) | dsimp only)
    refine h _ (!dn) [_] _ _ ⟨fun h1 h2 => by rw [h1] at h2; exact absurd h2 (by decide), fun h2 => ⟨rfl, rfl, fun h3 => by rw [h1] at h3; exact absurd h3 (by decide)⟩⟩ (Sub.hv (subRow rfl rfl subEnd))
  · have o5 := Hv.nilRow 9 1 (by assumption : Hv w0 _ _)
    refine h z false [] _ _ ⟨fun _ h2 => absurd h2 (by decide), fun h2 => absurd h2 (by assumption)⟩ (Sub.hv (subRow rfl rfl subEnd))
  · refine And.intro ⟨by decide, by omega, by omega, by simp, fun p hp => by rw [List.mem_singleton.1 hp]; omega⟩ fun sl w3 o3 => ?_
    repeat' (first | refine go ?_ | intro _ | refine And.intro (Sd.mk (by (first | exact fun _ => True.intro | exact And.intro (fun _ => True.intro) (fun _ _ => True.intro) | (intro hq; (first | exact True.intro | omega | (simp only [and_true]; omega) | (simp only [bl] at hq; (try simp only [and_true]); omega) | fail)) | exact And.intro (fun hq => by first | exact True.intro | omega | (simp only [and_true]; omega) | (simp only [bl] at hq; (try simp only [and_true]); omega) | fail) (fun hq hr => by first | exact True.intro | omega | (simp only [and_true]; omega) | (simp only [bl] at hq hr; omega) | (simp only [bl] at hr; omega) | fail) | fail))) ?_ | refine And.intro (by (first | omega | (unfold InR; omega) | decide | (simp only [ll]; omega))) ?_ | (refine And.intro (fun h1 => ?_) (fun h1 => ?_) <;> first | (exact absurd h1 (by decide)) | ((try rw [h1]); (try simp only [bl] at h1))) | dsimp only)
    refine And.intro ?_ ?_
    all_goals
      repeat' (first | refine go ?_ | intro _ | refine And.intro (Sd.mk (by (first | exact fun _ => True.intro | exact And.intro (fun _ => True.intro) (fun _ _ => True.intro) | (intro hq; (first | exact True.intro | omega | (simp only [and_true]; omega) | (simp only [bl] at hq; (try simp only [and_true]); omega) | fail)) | exact And.intro (fun hq => by first | exact True.intro | omega | (simp only [and_true]; omega) | (simp only [bl] at hq; (try simp only [and_true]); omega) | fail) (fun hq hr => by first | exact True.intro | omega | (simp only [and_true]; omega) | (simp only [bl] at hq hr; omega) | (simp only [bl] at hr; omega) | fail) | fail))) ?_ | refine And.intro (by (first | omega | (unfold InR; omega) | decide | (simp only [ll]; omega))) ?_ | (refine And.intro (fun h1 => ?_) (fun h1 => ?_) <;> first | (exact absurd h1 (by decide)) | ((try rw [h1]); (try simp only [bl] at h1))) | dsimp only)
      exact h z tk [sl] _ _ ⟨fun _ h2 => h2, fun h2 => absurd h2 (by assumption)⟩ (Sub.hv (subRow rfl rfl subEnd))⟩
end
end Go.Proofs.YtapammcnagjigaaDoor

