import Derived.Test.YtapammcnagjigaaDoorSge
set_option linter.all false
namespace Go.Proofs.YtapammcnagjigaaDoor
open Go.Vx Go.Lib
section
set_option maxRecDepth 20000
set_option synthInstance.maxSize 100000
set_option synthInstance.maxHeartbeats 4000000
variable {K : Value → St → Prop} {w0 w : World} {H : List SL} {ds : List Deferred} {l : List UInt8} {xp : Value} {ps : List (List UInt8)} {np : Nat} {zp : List Value} {server nick pass user real : List UInt8} {z : Int} {tk dn : Bool}
instance (priority := 20000) told_nil {c : Int} {tgt : List UInt8} [o : Hv w0 H w] :
    Step (Cl P 67 #[str server, .int .i64 c, str tgt, .slice none 0 0] K ⟨w, ds⟩) (((c = 410 ∨ c = 461 ∨ c = 462 ∨ c = 468) ∧ server.length ≤ 10000 ∧ tgt.length ≤ 900) ∧ ∀ s w', Hv w0 H w' → K (str s) ⟨w', ds⟩) := ⟨fun ⟨⟨hn, hs, ht⟩, h⟩ => by
  have o2 := Hv.nilRow 9 1 o
  clear o
  rcases hn with rfl | rfl | rfl | rfl
  · exact (told_ok (ps := []) (n := 410)).prf ⟨⟨by decide, hs, ht, by simp, by simp⟩, fun s w' o3 => h s w' (Sub.hv subEnd)⟩
  · exact (told_ok (ps := []) (n := 461)).prf ⟨⟨by decide, hs, ht, by simp, by simp⟩, fun s w' o3 => h s w' (Sub.hv subEnd)⟩
  · exact (told_ok (ps := []) (n := 462)).prf ⟨⟨by decide, hs, ht, by simp, by simp⟩, fun s w' o3 => h s w' (Sub.hv subEnd)⟩
  · exact (told_ok (ps := []) (n := 468)).prf ⟨⟨by decide, hs, ht, by simp, by simp⟩, fun s w' o3 => h s w' (Sub.hv subEnd)⟩⟩
instance (priority := 19000) told_lit {c : Int} {tgt : List UInt8} [o : Hv w0 H w] [rp : RdsF w0 H xp 1 np zp] [ep : Strs zp ps] :
    Step (Cl P 67 #[str server, .int .i64 c, str tgt, xp] K ⟨w, ds⟩) (((c = 410 ∨ c = 461 ∨ c = 462 ∨ c = 468) ∧ server.length ≤ 10000 ∧ tgt.length ≤ 900 ∧ ps.length ≤ 900 ∧ ∀ p ∈ ps, p.length ≤ 900) ∧ ∀ s w', Hv w0 H w' → K (str s) ⟨w', ds⟩) := ⟨fun ⟨⟨hn, hs⟩, h⟩ => by
  rcases hn with rfl | rfl | rfl | rfl
  · exact (told_ok (n := 410)).prf ⟨⟨by decide, hs⟩, h⟩
  · exact (told_ok (n := 461)).prf ⟨⟨by decide, hs⟩, h⟩
  · exact (told_ok (n := 462)).prf ⟨⟨by decide, hs⟩, h⟩
  · exact (told_ok (n := 468)).prf ⟨⟨by decide, hs⟩, h⟩⟩
/-- What is told is small. -/
class SzS (server nick pass user real : List UInt8) (ps : List (List UInt8)) : Prop where
  s : server.length ≤ 60
  n : nick.length ≤ 100
  l : ps.length ≤ 20
  p : ∀ p ∈ ps, p.length ≤ 100
instance pass_ok [o : Hv w0 H w] [rp : RdsF w0 H xp 1 np zp] [ep : Strs zp ps] [sz : SzS server nick pass user real ps] :
    Step (Cl P 31 #[str server, .agg #[.int .i64 z, .bool tk, str pass, str nick, str user, str real, .bool dn], xp] K ⟨w, ds⟩)
      (∀ (p : List UInt8) (L : List (List UInt8)) v w', (L ≠ [] ∨ dn = true → p = pass) → Hv w0 (row 9 1 v L.length (L.map str) :: H) w' → K (.tuple #[.agg #[.int .i64 z, .bool tk, str p, str nick, str user, str real, .bool dn], v]) ⟨w', ds⟩) := ⟨fun h => by
  refine cl_ok (c31 (K := fun v w' => K v ⟨w', ds⟩) ?_ fun v w' h => ⟨v, rfl, h⟩)
  have lp : RdsL w0 H xp 1 np zp := rp.loc
  have r1 := rp.rd w o
  have em : np = ps.length := by have := r1.len; rw [ep.eq] at this; simpa using this.symm
  obtain rfl := ep.eq
  clear r1 ep
  subst em
  obtain ⟨zs, zn, zl, zp⟩ := sz
  unfold D31
  repeat' (first | refine go ?_ | intro _ | refine And.intro (Sd.mk (by (first | exact fun _ => True.intro | exact And.intro (fun _ => True.intro) (fun _ _ => True.intro) | (intro hq; (first | exact True.intro | omega | (simp only [and_true]; omega) | (simp only [bl] at hq; (try simp only [and_true]); omega) | fail)) | exact And.intro (fun hq => by first | exact True.intro | omega | (simp only [and_true]; omega) | (simp only [bl] at hq; (try simp only [and_true]); omega) | fail) (fun hq hr => by first | exact True.intro | omega | (simp only [and_true]; omega) | (simp only [bl] at hq hr; omega) | (simp only [bl] at hr; omega) | fail) | fail))) ?_ | refine And.intro (by (first | omega | (unfold InR; omega) | decide | (simp only [ll]; omega))) ?_ | (refine And.intro (fun h1 => ?_) (fun h1 => ?_) <;> first | (exact absurd h1 (by decide)) | ((try rw [h1]); (try simp only [bl] at h1))) | dsimp only)
  · rename_i sl _ _
    refine And.intro ?_ ?_
    all_goals
      repeat' (first | refine go ?_ | intro _ | refine And.intro (Sd.mk (by (first | exact fun _ => True.intro | exact And.intro (fun _ => True.intro) (fun _ _ => True.intro) | (intro hq; (first | exact True.intro | omega | (simp only [and_true]; omega) | (simp only [bl] at hq; (try simp only [and_true]); omega) | fail)) | exact And.intro (fun hq => by first | exact True.intro | omega | (simp only [and_true]; omega) | (simp only [bl] at hq; (try simp only [and_true]); omega) | fail) (fun hq hr => by first | exact True.intro | omega | (simp only [and_true]; omega) | (simp only [bl] at hq hr; omega) | (simp only [bl] at hr; omega) | fail) | fail))) ?_ | refine And.intro (by (first | omega | (unfold InR; omega) | decide | (simp only [ll]; omega))) ?_ | (refine And.intro (fun h1 => ?_) (fun h1 => ?_) <;> first | (exact absurd h1 (by decide)) | ((try rw [h1]); (try simp only [bl] at h1))) | dsimp only)
      exact h pass [sl] _ _ (fun _ => rfl) (Sub.hv (subRow rfl rfl subEnd))
  · refine And.intro ⟨by decide, by omega, by omega, by decide, by decide⟩ fun sl w3 o3 => ?_
    repeat' (first | refine go ?_ | intro _ | refine And.intro (Sd.mk (by (first | exact fun _ => True.intro | exact And.intro (fun _ => True.intro) (fun _ _ => True.intro) | (intro hq; (first | exact True.intro | omega | (simp only [and_true]; omega) | (simp only [bl] at hq; (try simp only [and_true]); omega) | fail)) | exact And.intro (fun hq => by first | exact True.intro | omega | (simp only [and_true]; omega) | (simp only [bl] at hq; (try simp only [and_true]); omega) | fail) (fun hq hr => by first | exact True.intro | omega | (simp only [and_true]; omega) | (simp only [bl] at hq hr; omega) | (simp only [bl] at hr; omega) | fail) | fail))) ?_ | refine And.intro (by (first | omega | (unfold InR; omega) | decide | (simp only [ll]; omega))) ?_ | (refine And.intro (fun h1 => ?_) (fun h1 => ?_) <;> first | (exact absurd h1 (by decide)) | ((try rw [h1]); (try simp only [bl] at h1))) | dsimp only)
    refine And.intro ?_ ?_
    all_goals
      repeat' (first | refine go ?_ | intro _ | refine And.intro (Sd.mk (by (first | exact fun _ => True.intro | exact And.intro (fun _ => True.intro) (fun _ _ => True.intro) | (intro hq; (first | exact True.intro | omega | (simp only [and_true]; omega) | (simp only [bl] at hq; (try simp only [and_true]); omega) | fail)) | exact And.intro (fun hq => by first | exact True.intro | omega | (simp only [and_true]; omega) | (simp only [bl] at hq; (try simp only [and_true]); omega) | fail) (fun hq hr => by first | exact True.intro | omega | (simp only [and_true]; omega) | (simp only [bl] at hq hr; omega) | (simp only [bl] at hr; omega) | fail) | fail))) ?_ | refine And.intro (by (first | omega | (unfold InR; omega) | decide | (simp only [ll]; omega))) ?_ | (refine And.intro (fun h1 => ?_) (fun h1 => ?_) <;> first | (exact absurd h1 (by decide)) | ((try rw [h1]); (try simp only [bl] at h1))) | dsimp only)
      exact h pass [sl] _ _ (fun _ => rfl) (Sub.hv (subRow rfl rfl subEnd))
  · have o5 := Hv.nilRow 9 1 (by assumption : Hv w0 _ _)
    refine h _ [] _ _ (fun h => ?_) (Sub.hv (subRow rfl rfl subEnd))
    rcases h with h | h
    · exact absurd rfl h
    · rw [‹dn = false›] at h; exact absurd h (by decide)⟩
instance suser_ok [o : Hv w0 H w] [rp : RdsF w0 H xp 1 np zp] [ep : Strs zp ps] [sz : SzS server nick pass user real ps] :
    Step (Cl P 32 #[str server, .agg #[.int .i64 z, .bool tk, str pass, str nick, str user, str real, .bool dn], xp] K ⟨w, ds⟩)
      (∀ (p q : List UInt8) (L : List (List UInt8)) v w', (L ≠ [] ∨ dn = true → p = user ∧ q = real) → Hv w0 (row 9 1 v L.length (L.map str) :: H) w' → K (.tuple #[.agg #[.int .i64 z, .bool tk, str pass, str nick, str p, str q, .bool dn], v]) ⟨w', ds⟩) := ⟨fun h => by
  refine cl_ok (c32 (K := fun v w' => K v ⟨w', ds⟩) ?_ fun v w' h => ⟨v, rfl, h⟩)
  have lp : RdsL w0 H xp 1 np zp := rp.loc
  have r1 := rp.rd w o
  have em : np = ps.length := by have := r1.len; rw [ep.eq] at this; simpa using this.symm
  obtain rfl := ep.eq
  clear r1 ep
  subst em
  obtain ⟨zs, zn, zl, zp⟩ := sz
  have zq : ∀ k, (ps.getD k default).length ≤ 100 := fun k => by
    rcases Nat.lt_or_ge k ps.length with hk | hk
    · exact zp _ (getD_mem hk)
    · rw [List.getD_eq_getElem?_getD, List.getElem?_eq_none hk]; exact Nat.zero_le _
  have zq0 := zq 0
  have zq3 := zq 3
  unfold D32
  repeat' (first | refine go ?_ | intro _ | refine And.intro (Sd.mk (by (first | exact fun _ => True.intro | exact And.intro (fun _ => True.intro) (fun _ _ => True.intro) | (intro hq; (first | exact True.intro | omega | (simp only [and_true]; omega) | (simp only [bl] at hq; (try simp only [and_true]); omega) | fail)) | exact And.intro (fun hq => by first | exact True.intro | omega | (simp only [and_true]; omega) | (simp only [bl] at hq; (try simp only [and_true]); omega) | fail) (fun hq hr => by first | exact True.intro | omega | (simp only [and_true]; omega) | (simp only [bl] at hq hr; omega) | (simp only [bl] at hr; omega) | fail) | fail))) ?_ | refine And.intro (by (first | omega | (unfold InR; omega) | decide | (simp only [ll]; omega))) ?_ | (refine And.intro (fun h1 => ?_) (fun h1 => ?_) <;> first | (exact absurd h1 (by decide)) | ((try rw [h1]); (try simp only [bl] at h1))) | dsimp only)
  · rename_i sl _ _
    refine And.intro ?_ ?_
    all_goals
      repeat' (first | refine go ?_ | intro _ | refine And.intro (Sd.mk (by (first | exact fun _ => True.intro | exact And.intro (fun _ => True.intro) (fun _ _ => True.intro) | (intro hq; (first | exact True.intro | omega | (simp only [and_true]; omega) | (simp only [bl] at hq; (try simp only [and_true]); omega) | fail)) | exact And.intro (fun hq => by first | exact True.intro | omega | (simp only [and_true]; omega) | (simp only [bl] at hq; (try simp only [and_true]); omega) | fail) (fun hq hr => by first | exact True.intro | omega | (simp only [and_true]; omega) | (simp only [bl] at hq hr; omega) | (simp only [bl] at hr; omega) | fail) | fail))) ?_ | refine And.intro (by (first | omega | (unfold InR; omega) | decide | (simp only [ll]; omega))) ?_ | (refine And.intro (fun h1 => ?_) (fun h1 => ?_) <;> first | (exact absurd h1 (by decide)) | ((try rw [h1]); (try simp only [bl] at h1))) | dsimp only)
      exact h user real [sl] _ _ (fun _ => ⟨rfl, rfl⟩) (Sub.hv (subRow rfl rfl subEnd))
  · refine And.intro ⟨by decide, by omega, by omega, by decide, by decide⟩ fun sl w3 o3 => ?_
    repeat' (first | refine go ?_ | intro _ | refine And.intro (Sd.mk (by (first | exact fun _ => True.intro | exact And.intro (fun _ => True.intro) (fun _ _ => True.intro) | (intro hq; (first | exact True.intro | omega | (simp only [and_true]; omega) | (simp only [bl] at hq; (try simp only [and_true]); omega) | fail)) | exact And.intro (fun hq => by first | exact True.intro | omega | (simp only [and_true]; omega) | (simp only [bl] at hq; (try simp only [and_true]); omega) | fail) (fun hq hr => by first | exact True.intro | omega | (simp only [and_true]; omega) | (simp only [bl] at hq hr; omega) | (simp only [bl] at hr; omega) | fail) | fail))) ?_ | refine And.intro (by (first | omega | (unfold InR; omega) | decide | (simp only [ll]; omega))) ?_ | (refine And.intro (fun h1 => ?_) (fun h1 => ?_) <;> first | (exact absurd h1 (by decide)) | ((try rw [h1]); (try simp only [bl] at h1))) | dsimp only)
    refine And.intro ?_ ?_
    all_goals
      repeat' (first | refine go ?_ | intro _ | refine And.intro (Sd.mk (by (first | exact fun _ => True.intro | exact And.intro (fun _ => True.intro) (fun _ _ => True.intro) | (intro hq; (first | exact True.intro | omega | (simp only [and_true]; omega) | (simp only [bl] at hq; (try simp only [and_true]); omega) | fail)) | exact And.intro (fun hq => by first | exact True.intro | omega | (simp only [and_true]; omega) | (simp only [bl] at hq; (try simp only [and_true]); omega) | fail) (fun hq hr => by first | exact True.intro | omega | (simp only [and_true]; omega) | (simp only [bl] at hq hr; omega) | (simp only [bl] at hr; omega) | fail) | fail))) ?_ | refine And.intro (by (first | omega | (unfold InR; omega) | decide | (simp only [ll]; omega))) ?_ | (refine And.intro (fun h1 => ?_) (fun h1 => ?_) <;> first | (exact absurd h1 (by decide)) | ((try rw [h1]); (try simp only [bl] at h1))) | dsimp only)
      exact h user real [sl] _ _ (fun _ => ⟨rfl, rfl⟩) (Sub.hv (subRow rfl rfl subEnd))
  · rename_i sl _ _
    refine And.intro ?_ ?_
    all_goals
      repeat' (first | refine go ?_ | intro _ | refine And.intro (Sd.mk (by (first | exact fun _ => True.intro | exact And.intro (fun _ => True.intro) (fun _ _ => True.intro) | (intro hq; (first | exact True.intro | omega | (simp only [and_true]; omega) | (simp only [bl] at hq; (try simp only [and_true]); omega) | fail)) | exact And.intro (fun hq => by first | exact True.intro | omega | (simp only [and_true]; omega) | (simp only [bl] at hq; (try simp only [and_true]); omega) | fail) (fun hq hr => by first | exact True.intro | omega | (simp only [and_true]; omega) | (simp only [bl] at hq hr; omega) | (simp only [bl] at hr; omega) | fail) | fail))) ?_ | refine And.intro (by (first | omega | (unfold InR; omega) | decide | (simp only [ll]; omega))) ?_ | (refine And.intro (fun h1 => ?_) (fun h1 => ?_) <;> first | (exact absurd h1 (by decide)) | ((try rw [h1]); (try simp only [bl] at h1))) | dsimp only)
      exact h user real [sl] _ _ (fun _ => ⟨rfl, rfl⟩) (Sub.hv (subRow rfl rfl subEnd))
  · refine clean_ok (m := 100) (by omega) (fun w3 o3 => ?_)
    repeat' (first | refine go ?_ | intro _ | refine And.intro (Sd.mk (by (first | exact fun _ => True.intro | exact And.intro (fun _ => True.intro) (fun _ _ => True.intro) | (intro hq; (first | exact True.intro | omega | (simp only [and_true]; omega) | (simp only [bl] at hq; (try simp only [and_true]); omega) | fail)) | exact And.intro (fun hq => by first | exact True.intro | omega | (simp only [and_true]; omega) | (simp only [bl] at hq; (try simp only [and_true]); omega) | fail) (fun hq hr => by first | exact True.intro | omega | (simp only [and_true]; omega) | (simp only [bl] at hq hr; omega) | (simp only [bl] at hr; omega) | fail) | fail))) ?_ | refine And.intro (by (first | omega | (unfold InR; omega) | decide | (simp only [ll]; omega))) ?_ | (refine And.intro (fun h1 => ?_) (fun h1 => ?_) <;> first | (exact absurd h1 (by decide)) | ((try rw [h1]); (try simp only [bl] at h1))) | dsimp only)
    have o5 := Hv.nilRow 9 1 (by assumption : Hv w0 _ _)
    refine h _ _ [] _ _ (fun h => ?_) (Sub.hv (subRow rfl rfl subEnd))
    rcases h with h | h
    · exact absurd rfl h
    · rw [‹dn = false›] at h; exact absurd h (by decide)⟩
end
end Go.Proofs.YtapammcnagjigaaDoor

