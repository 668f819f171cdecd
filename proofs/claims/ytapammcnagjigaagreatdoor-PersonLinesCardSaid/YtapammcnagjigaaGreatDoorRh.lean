import Derived.Test.YtapammcnagjigaaGreatDoorRg
set_option linter.all false
namespace Go.Proofs.YtapammcnagjigaaGreatDoor
open Go.Vx Go.Lib
section
set_option maxRecDepth 20000
set_option synthInstance.maxSize 100000
set_option synthInstance.maxHeartbeats 4000000
variable {K : Value → St → Prop} {w0 w : World} {H T : List SL} {ds : List Deferred} {id sg sp now : Int} {od hid : Bool} {nick user host real away : List UInt8} {cp : Value} {ss : List (List UInt8)}
instance {w : World} {t : TypeId} {cx cy c : Bool} [h : EqV P 10000 t .nilFunc .nilFunc c] : VT (Bo P .neq t cx cy .nilFunc .nilFunc) w (.bool !c) := neq_of h rfl
theorem whoisN_ok (z : SzP nick user host real away) (i1 : InR (now - sp)) (i2 : InR sg) [tb : PowT w0] [o : Hv w0 H w] (h : ∀ v w', Hv w0 (row 9 1 v (whoisS nick user host real away od (now - sp) sg []).length ((whoisS nick user host real away od (now - sp) sg []).map str) :: H) w' → K v ⟨w', ds⟩) :
    Cl P 19 #[str irc, str ann, .agg #[.int .i64 id, str nick, str user, str host, str real, str away, .bool od, .bool hid, .int .i64 sg, .int .i64 sp], .nilFunc, .int .i64 now] K ⟨w, ds⟩ := by
  refine cl_ok (c19 (K := fun v w' => K v ⟨w', ds⟩) ?_ fun v w' h => ⟨v, rfl, h⟩)
  obtain ⟨z1, z2, z3, z4, z5⟩ := z
  obtain ⟨ss, hss⟩ : ∃ ss : List (List UInt8), ss = [] := ⟨_, rfl⟩
  have hp : ∀ s ∈ ss, s.length ≤ 60 := fun s hs => by rw [hss] at hs; cases hs
  have hl : ss.length ≤ 40 := by rw [hss]; decide
  rw [← hss] at h
  unfold D19
  have hel : (endR (rowsS nick ss)).length ≤ 41 := by
    have h1 := (rows_small (nick := nick) hp ss.length (Nat.le_refl _)).1
    rw [List.take_length] at h1
    unfold endR
    split
    · simp
    · omega
  obtain ⟨A1, e1⟩ : ∃ A, A = [numS irc 311 ann [nick, user, host, [42], real]] ++ (if ss = [] then [] else (endR (rowsS nick ss)).map (lnN nick)) := ⟨_, rfl⟩
  obtain ⟨A2, e2⟩ : ∃ A, A = A1 ++ [numS irc 312 ann [nick, irc, rollB]] ++ (if away = [] then [] else [numS irc 301 ann [nick, away]]) := ⟨_, rfl⟩
  obtain ⟨A3, e3⟩ : ∃ A, A = A2 ++ (if od = true then [numS irc 313 ann [nick, operB]] else []) := ⟨_, rfl⟩
  have ha1 : A1.length ≤ 42 := by
    rw [e1]; split
    · simp
    · first | (simp; omega) | simp
  have ha2 : A2.length ≤ 44 := by
    rw [e2]; split <;> simp <;> omega
  have ha3 : A3.length ≤ 45 := by
    rw [e3]; split <;> simp <;> omega
  have ew : whoisS nick user host real away od (now - sp) sg ss = A3 ++ [numS irc 317 ann [nick, decDigits (now - sp).toNat, decDigits sg.toNat, secB]] := by rw [e3, e2, e1]; rfl
  rw [ew] at h
  repeat' (first | refine go ?_ | intro _ | refine And.intro (Sd.mk (by (first | exact fun _ => True.intro | exact And.intro (fun _ => True.intro) (fun _ _ => True.intro) | (intro hq; (first | exact True.intro | omega | (simp only [and_true]; omega) | (simp only [bl] at hq; (try simp only [and_true]); omega) | fail)) | exact And.intro (fun hq => by first | exact True.intro | omega | (simp only [and_true]; omega) | (simp only [bl] at hq; (try simp only [and_true]); omega) | fail) (fun hq hr => by first | exact True.intro | omega | (simp only [and_true]; omega) | (simp only [bl] at hq hr; omega) | (simp only [bl] at hr; omega) | fail) | fail))) ?_ | refine And.intro (by (first | omega | (unfold InR; omega) | decide | (simp only [ll]; omega))) ?_ | (refine And.intro (fun h1 => ?_) (fun h1 => ?_) <;> first | (exact absurd h1 (by decide)) | ((try rw [h1]); (try simp only [bl] at h1))) | dsimp only)
  rename_i b1 _ _ v1 w1 o1
  refine And.intro ⟨by decide, by decide, by decide, by simp, fun p hp => ?_⟩ fun w2 o2 => ?_
  · simp only [List.mem_cons, List.not_mem_nil, or_false] at hp
    rcases hp with rfl | rfl | rfl | rfl | rfl <;> first | omega | decide
  repeat ((fail_if_success (refine And.intro (fun _ => ?_) (fun _ => ?_))); (first | refine go ?_ | intro _ | refine And.intro (Sd.mk (by (first | exact fun _ => True.intro | exact And.intro (fun _ => True.intro) (fun _ _ => True.intro) | (intro hq; (first | exact True.intro | omega | (simp only [and_true]; omega) | (simp only [bl] at hq; (try simp only [and_true]); omega) | fail)) | exact And.intro (fun hq => by first | exact True.intro | omega | (simp only [and_true]; omega) | (simp only [bl] at hq; (try simp only [and_true]); omega) | fail) (fun hq hr => by first | exact True.intro | omega | (simp only [and_true]; omega) | (simp only [bl] at hq hr; omega) | (simp only [bl] at hr; omega) | fail) | fail))) ?_ | refine And.intro (by (first | omega | (unfold InR; omega) | decide | (simp only [ll]; omega))) ?_ | dsimp only))
  refine And.intro (fun h1 => absurd h1 (by decide)) (fun _ => ?_)
  repeat ((fail_if_success (refine j1_any (fun _ _ => True) ?_ ?_)); (first | refine go ?_ | intro _ | refine And.intro (Sd.mk (by (first | exact fun _ => True.intro | exact And.intro (fun _ => True.intro) (fun _ _ => True.intro) | (intro hq; (first | exact True.intro | omega | (simp only [and_true]; omega) | (simp only [bl] at hq; (try simp only [and_true]); omega) | fail)) | exact And.intro (fun hq => by first | exact True.intro | omega | (simp only [and_true]; omega) | (simp only [bl] at hq; (try simp only [and_true]); omega) | fail) (fun hq hr => by first | exact True.intro | omega | (simp only [and_true]; omega) | (simp only [bl] at hq hr; omega) | (simp only [bl] at hr; omega) | fail) | fail))) ?_ | refine And.intro (by (first | omega | (unfold InR; omega) | decide | (simp only [ll]; omega))) ?_ | dsimp only))
  clear o o1 o2
  refine j1_any (fun x s => ∃ w', s = ⟨w', []⟩ ∧ Hv w0 (row 9 1 x (A1).length ((A1).map str) :: box b1 36 [.int .i64 id, str nick, str user, str host, str real, str away, .bool od, .bool hid, .int .i64 sg, .int .i64 sp] :: H) w') ?_ ?_
  · repeat' (first | refine go ?_ | intro _ | refine And.intro (Sd.mk (by (first | exact fun _ => True.intro | exact And.intro (fun _ => True.intro) (fun _ _ => True.intro) | (intro hq; (first | exact True.intro | omega | (simp only [and_true]; omega) | (simp only [bl] at hq; (try simp only [and_true]); omega) | fail)) | exact And.intro (fun hq => by first | exact True.intro | omega | (simp only [and_true]; omega) | (simp only [bl] at hq; (try simp only [and_true]); omega) | fail) (fun hq hr => by first | exact True.intro | omega | (simp only [and_true]; omega) | (simp only [bl] at hq hr; omega) | (simp only [bl] at hr; omega) | fail) | fail))) ?_ | refine And.intro (by (first | omega | (unfold InR; omega) | decide | (simp only [ll]; omega))) ?_ | (refine And.intro (fun h1 => ?_) (fun h1 => ?_) <;> first | (exact absurd h1 (by decide)) | ((try rw [h1]); (try simp only [bl] at h1))) | dsimp only)
    rw [e1, if_pos hss]
    exact ⟨_, rfl, Sub.hv (subRow (by simp) (by simp) (subBox rfl subEnd))⟩
  rintro x s ⟨w3, rfl, o3⟩
  repeat' (first | refine go ?_ | intro _ | refine And.intro (Sd.mk (by (first | exact fun _ => True.intro | exact And.intro (fun _ => True.intro) (fun _ _ => True.intro) | (intro hq; (first | exact True.intro | omega | (simp only [and_true]; omega) | (simp only [bl] at hq; (try simp only [and_true]); omega) | fail)) | exact And.intro (fun hq => by first | exact True.intro | omega | (simp only [and_true]; omega) | (simp only [bl] at hq; (try simp only [and_true]); omega) | fail) (fun hq hr => by first | exact True.intro | omega | (simp only [and_true]; omega) | (simp only [bl] at hq hr; omega) | (simp only [bl] at hr; omega) | fail) | fail))) ?_ | refine And.intro (by (first | omega | (unfold InR; omega) | decide | (simp only [ll]; omega))) ?_ | (refine And.intro (fun h1 => ?_) (fun h1 => ?_) <;> first | (exact absurd h1 (by decide)) | ((try rw [h1]); (try simp only [bl] at h1))) | dsimp only)
  refine And.intro ⟨by decide, by decide, by decide, by simp, fun p hp => ?_⟩ fun w4 o4 => ?_
  · simp only [List.mem_cons, List.not_mem_nil, or_false] at hp
    rcases hp with rfl | rfl | rfl <;> first | omega | decide
  repeat ((fail_if_success (refine j1_any (fun _ _ => True) ?_ ?_)); (first | refine go ?_ | intro _ | refine And.intro (Sd.mk (by (first | exact fun _ => True.intro | exact And.intro (fun _ => True.intro) (fun _ _ => True.intro) | (intro hq; (first | exact True.intro | omega | (simp only [and_true]; omega) | (simp only [bl] at hq; (try simp only [and_true]); omega) | fail)) | exact And.intro (fun hq => by first | exact True.intro | omega | (simp only [and_true]; omega) | (simp only [bl] at hq; (try simp only [and_true]); omega) | fail) (fun hq hr => by first | exact True.intro | omega | (simp only [and_true]; omega) | (simp only [bl] at hq hr; omega) | (simp only [bl] at hr; omega) | fail) | fail))) ?_ | refine And.intro (by (first | omega | (unfold InR; omega) | decide | (simp only [ll]; omega))) ?_ | dsimp only))
  clear o3 o4
  refine j1_any (fun x s => ∃ w', s = ⟨w', []⟩ ∧ Hv w0 (row 9 1 x (A2).length ((A2).map str) :: box b1 36 [.int .i64 id, str nick, str user, str host, str real, str away, .bool od, .bool hid, .int .i64 sg, .int .i64 sp] :: H) w') ?_ ?_
  · repeat' (first | refine go ?_ | intro _ | refine And.intro (Sd.mk (by (first | exact fun _ => True.intro | exact And.intro (fun _ => True.intro) (fun _ _ => True.intro) | (intro hq; (first | exact True.intro | omega | (simp only [and_true]; omega) | (simp only [bl] at hq; (try simp only [and_true]); omega) | fail)) | exact And.intro (fun hq => by first | exact True.intro | omega | (simp only [and_true]; omega) | (simp only [bl] at hq; (try simp only [and_true]); omega) | fail) (fun hq hr => by first | exact True.intro | omega | (simp only [and_true]; omega) | (simp only [bl] at hq hr; omega) | (simp only [bl] at hr; omega) | fail) | fail))) ?_ | refine And.intro (by (first | omega | (unfold InR; omega) | decide | (simp only [ll]; omega))) ?_ | (refine And.intro (fun h1 => ?_) (fun h1 => ?_) <;> first | (exact absurd h1 (by decide)) | ((try rw [h1]); (try simp only [bl] at h1))) | dsimp only)
    · rw [e2, if_neg h1]
      refine And.intro ⟨by decide, by decide, by decide, by simp, fun p hp => ?_⟩ fun w8 o8 => ?_
      · simp only [List.mem_cons, List.not_mem_nil, or_false] at hp
        rcases hp with rfl | rfl <;> first | omega | decide
      repeat' (first | refine go ?_ | intro _ | refine And.intro (Sd.mk (by (first | exact fun _ => True.intro | exact And.intro (fun _ => True.intro) (fun _ _ => True.intro) | (intro hq; (first | exact True.intro | omega | (simp only [and_true]; omega) | (simp only [bl] at hq; (try simp only [and_true]); omega) | fail)) | exact And.intro (fun hq => by first | exact True.intro | omega | (simp only [and_true]; omega) | (simp only [bl] at hq; (try simp only [and_true]); omega) | fail) (fun hq hr => by first | exact True.intro | omega | (simp only [and_true]; omega) | (simp only [bl] at hq hr; omega) | (simp only [bl] at hr; omega) | fail) | fail))) ?_ | refine And.intro (by (first | omega | (unfold InR; omega) | decide | (simp only [ll]; omega))) ?_ | (refine And.intro (fun h1 => ?_) (fun h1 => ?_) <;> first | (exact absurd h1 (by decide)) | ((try rw [h1]); (try simp only [bl] at h1))) | dsimp only)
      exact ⟨_, rfl, Sub.hv (subRow (by simp) (by simp [rollB, operB]) (subBox rfl subEnd))⟩
    · rw [e2, if_pos h1]
      exact ⟨_, rfl, Sub.hv (subRow (by simp) (by simp [rollB, operB]) (subBox rfl subEnd))⟩
  rintro x s ⟨w5, rfl, o5⟩
  refine j1_any (fun x s => ∃ w', s = ⟨w', []⟩ ∧ Hv w0 (row 9 1 x (A3).length ((A3).map str) :: box b1 36 [.int .i64 id, str nick, str user, str host, str real, str away, .bool od, .bool hid, .int .i64 sg, .int .i64 sp] :: H) w') ?_ ?_
  · repeat' (first | refine go ?_ | intro _ | refine And.intro (Sd.mk (by (first | exact fun _ => True.intro | exact And.intro (fun _ => True.intro) (fun _ _ => True.intro) | (intro hq; (first | exact True.intro | omega | (simp only [and_true]; omega) | (simp only [bl] at hq; (try simp only [and_true]); omega) | fail)) | exact And.intro (fun hq => by first | exact True.intro | omega | (simp only [and_true]; omega) | (simp only [bl] at hq; (try simp only [and_true]); omega) | fail) (fun hq hr => by first | exact True.intro | omega | (simp only [and_true]; omega) | (simp only [bl] at hq hr; omega) | (simp only [bl] at hr; omega) | fail) | fail))) ?_ | refine And.intro (by (first | omega | (unfold InR; omega) | decide | (simp only [ll]; omega))) ?_ | (refine And.intro (fun h1 => ?_) (fun h1 => ?_) <;> first | (exact absurd h1 (by decide)) | ((try rw [h1]); (try simp only [bl] at h1))) | dsimp only)
    · subst h1
      rw [e3, if_pos rfl]
      refine And.intro ⟨by decide, by decide, by decide, by simp, fun p hp => ?_⟩ fun w8 o8 => ?_
      · simp only [List.mem_cons, List.not_mem_nil, or_false] at hp
        rcases hp with rfl | rfl <;> first | omega | decide
      repeat' (first | refine go ?_ | intro _ | refine And.intro (Sd.mk (by (first | exact fun _ => True.intro | exact And.intro (fun _ => True.intro) (fun _ _ => True.intro) | (intro hq; (first | exact True.intro | omega | (simp only [and_true]; omega) | (simp only [bl] at hq; (try simp only [and_true]); omega) | fail)) | exact And.intro (fun hq => by first | exact True.intro | omega | (simp only [and_true]; omega) | (simp only [bl] at hq; (try simp only [and_true]); omega) | fail) (fun hq hr => by first | exact True.intro | omega | (simp only [and_true]; omega) | (simp only [bl] at hq hr; omega) | (simp only [bl] at hr; omega) | fail) | fail))) ?_ | refine And.intro (by (first | omega | (unfold InR; omega) | decide | (simp only [ll]; omega))) ?_ | (refine And.intro (fun h1 => ?_) (fun h1 => ?_) <;> first | (exact absurd h1 (by decide)) | ((try rw [h1]); (try simp only [bl] at h1))) | dsimp only)
      exact ⟨_, rfl, Sub.hv (subRow (by simp) (by simp [rollB, operB]) (subBox rfl subEnd))⟩
    · subst h1
      rw [e3, if_neg (by decide)]
      exact ⟨_, rfl, Sub.hv (subRow (by simp) (by simp [rollB, operB]) (subBox rfl subEnd))⟩
  rintro x s ⟨w6, rfl, o6⟩
  clear o5
  unfold InR at i1 i2
  have hd1 := dec_len (u := (now - sp).toNat) (by omega)
  have hd2 := dec_len (u := sg.toNat) (by omega)
  have i1' : InR (now - sp) := by unfold InR; omega
  have i2' : InR sg := by unfold InR; omega
  repeat' (first | refine go ?_ | intro _ | refine And.intro (Sd.mk (by (first | exact fun _ => True.intro | exact And.intro (fun _ => True.intro) (fun _ _ => True.intro) | (intro hq; (first | exact True.intro | omega | (simp only [and_true]; omega) | (simp only [bl] at hq; (try simp only [and_true]); omega) | fail)) | exact And.intro (fun hq => by first | exact True.intro | omega | (simp only [and_true]; omega) | (simp only [bl] at hq; (try simp only [and_true]); omega) | fail) (fun hq hr => by first | exact True.intro | omega | (simp only [and_true]; omega) | (simp only [bl] at hq hr; omega) | (simp only [bl] at hr; omega) | fail) | fail))) ?_ | refine And.intro (by (first | omega | (unfold InR; omega) | decide | (simp only [ll]; omega))) ?_ | (refine And.intro (fun h1 => ?_) (fun h1 => ?_) <;> first | (exact absurd h1 (by decide)) | ((try rw [h1]); (try simp only [bl] at h1))) | dsimp only)
  refine And.intro ⟨by decide, by decide, by decide, by simp, fun p hp => ?_⟩ fun w8 o8 => ?_
  · simp only [List.mem_cons, List.not_mem_nil, or_false] at hp
    rcases hp with rfl | rfl | rfl | rfl <;> first | omega | decide
  repeat' (first | refine go ?_ | intro _ | refine And.intro (Sd.mk (by (first | exact fun _ => True.intro | exact And.intro (fun _ => True.intro) (fun _ _ => True.intro) | (intro hq; (first | exact True.intro | omega | (simp only [and_true]; omega) | (simp only [bl] at hq; (try simp only [and_true]); omega) | fail)) | exact And.intro (fun hq => by first | exact True.intro | omega | (simp only [and_true]; omega) | (simp only [bl] at hq; (try simp only [and_true]); omega) | fail) (fun hq hr => by first | exact True.intro | omega | (simp only [and_true]; omega) | (simp only [bl] at hq hr; omega) | (simp only [bl] at hr; omega) | fail) | fail))) ?_ | refine And.intro (by (first | omega | (unfold InR; omega) | decide | (simp only [ll]; omega))) ?_ | (refine And.intro (fun h1 => ?_) (fun h1 => ?_) <;> first | (exact absurd h1 (by decide)) | ((try rw [h1]); (try simp only [bl] at h1))) | dsimp only)
  exact h _ _ (Sub.hv (subRow (by simp) (by simp [secB]) subEnd))
end
end Go.Proofs.YtapammcnagjigaaGreatDoor

