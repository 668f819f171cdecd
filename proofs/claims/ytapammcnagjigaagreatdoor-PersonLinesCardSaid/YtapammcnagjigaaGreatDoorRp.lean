import Derived.Test.YtapammcnagjigaaGreatDoorRh2
set_option linter.all false
namespace Go.Proofs.YtapammcnagjigaaGreatDoor
open Go.Vx Go.Lib
set_option maxRecDepth 20000 in
set_option synthInstance.maxSize 100000 in
set_option synthInstance.maxHeartbeats 4000000 in
theorem plines_ok {w : World} (htab : TabIs P w "internal/strconv.uint64pow10" .u64 pow10Tab) {id mid sg sp now : Int} {od hid op vo : Bool} {nick user host real away : List UInt8} {cp : Value} {ss : List (List UInt8)} (hcp : Arg w cp 1 ss.length (ss.map str)) (isg : InR sg) :
    Calls P 4 #[.agg #[.int .i64 id, str nick, str user, str host, str real, str away, .bool od, .bool hid, .int .i64 sg, .int .i64 sp], .agg #[.int .i64 mid, .bool op, .bool vo], cp, .int .i64 now] w fun e w' => e = .returned (.bool true) ∧ Hv w [] w' := by
  refine c4 (K := fun v w' => v = .bool true ∧ Hv w [] w') ?_ fun v w' h => ⟨by rw [h.1], h.2⟩
  have o := Hv.begin w
  have tb : PowT w := ⟨htab⟩
  have one1 : One w cp := inferInstance
  have one2 : ∀ w, One w cp := fun w => ⟨one1.eq⟩
  unfold D4
  repeat' (first | refine go ?_ | intro _ | refine And.intro (Sd.mk (by (first | exact fun _ => True.intro | exact And.intro (fun _ => True.intro) (fun _ _ => True.intro) | (intro hq; (first | exact True.intro | omega | (simp only [and_true]; omega) | (simp only [bl] at hq; (try simp only [and_true]); omega) | fail)) | exact And.intro (fun hq => by first | exact True.intro | omega | (simp only [and_true]; omega) | (simp only [bl] at hq; (try simp only [and_true]); omega) | fail) (fun hq hr => by first | exact True.intro | omega | (simp only [and_true]; omega) | (simp only [bl] at hq hr; omega) | (simp only [bl] at hr; omega) | fail) | fail))) ?_ | refine And.intro (by (first | omega | (unfold InR; omega) | decide | (simp only [ll]; omega))) ?_ | (refine And.intro (fun h1 => ?_) (fun h1 => ?_) <;> first | (exact absurd h1 (by decide)) | ((try rw [h1]); (try simp only [bl] at h1))) | dsimp only)
  · exact ⟨rfl, Sub.hv subEnd⟩
  rename_i b1 _ _ b2 _ _ _ _ _ bg w2 hbg o2
  have sz := hbg h1.1.1.1.1.1
  obtain ⟨z1, z2, z3, z4, z5⟩ := sz
  have hl : ss.length ≤ 40 := by omega
  have inr : InR (now - sp) := by unfold InR; omega
  have o3 : Hv w [box b1 36 [.int .i64 id, str nick, str user, str host, str real, str away, .bool od, .bool hid, .int .i64 sg, .int .i64 sp], box b2 38 [.int .i64 mid, .bool op, .bool vo]] w2 := Sub.hv (subBox rfl (subBox rfl subEnd))
  clear o2 o
  refine ⟨fun x s => ∃ (i : Nat), x = .int .i64 i ∧ s = ⟨w2, []⟩ ∧ i ≤ ss.length ∧ ∀ j, j < i → (ss.getD j default).length ≤ 60, fun x s => match x with | .int _ z => ss.length - z.toNat | _ => 0, ⟨0, rfl, rfl, Nat.zero_le _, fun j hj => absurd hj (Nat.not_lt_zero j)⟩, ?_⟩
  rintro x s ⟨i, rfl, rfl, hi, hpj⟩
  rcases Nat.lt_or_ge i ss.length with hlt | hge
  · repeat ((fail_if_success (refine And.intro (fun _ => ?_) (fun _ => ?_))); (first | refine go ?_ | intro _ | refine And.intro (Sd.mk (by (first | exact fun _ => True.intro | exact And.intro (fun _ => True.intro) (fun _ _ => True.intro) | (intro hq; (first | exact True.intro | omega | (simp only [and_true]; omega) | (simp only [bl] at hq; (try simp only [and_true]); omega) | fail)) | exact And.intro (fun hq => by first | exact True.intro | omega | (simp only [and_true]; omega) | (simp only [bl] at hq; (try simp only [and_true]); omega) | fail) (fun hq hr => by first | exact True.intro | omega | (simp only [and_true]; omega) | (simp only [bl] at hq hr; omega) | (simp only [bl] at hr; omega) | fail) | fail))) ?_ | refine And.intro (by (first | omega | (unfold InR; omega) | decide | (simp only [ll]; omega))) ?_ | dsimp only))
    refine And.intro (fun _ => ?_) (fun h1 => ?_)
    · repeat' (first | refine go ?_ | intro _ | refine And.intro (Sd.mk (by (first | exact fun _ => True.intro | exact And.intro (fun _ => True.intro) (fun _ _ => True.intro) | (intro hq; (first | exact True.intro | omega | (simp only [and_true]; omega) | (simp only [bl] at hq; (try simp only [and_true]); omega) | fail)) | exact And.intro (fun hq => by first | exact True.intro | omega | (simp only [and_true]; omega) | (simp only [bl] at hq; (try simp only [and_true]); omega) | fail) (fun hq hr => by first | exact True.intro | omega | (simp only [and_true]; omega) | (simp only [bl] at hq hr; omega) | (simp only [bl] at hr; omega) | fail) | fail))) ?_ | refine And.intro (by (first | omega | (unfold InR; omega) | decide | (simp only [ll]; omega))) ?_ | (refine And.intro (fun h1 => ?_) (fun h1 => ?_) <;> first | (exact absurd h1 (by decide)) | ((try rw [h1]); (try simp only [bl] at h1))) | dsimp only)
      · exact ⟨rfl, Sub.hv subEnd⟩
      · refine ⟨⟨i + 1, rfl, rfl, hlt, fun j hj => ?_⟩, by omega⟩
        rcases Nat.lt_or_ge j i with hj2 | hj2
        · exact hpj j hj2
        · obtain rfl : j = i := by omega
          omega
    · exfalso; simp at h1; omega
  have hp : ∀ s ∈ ss, s.length ≤ 60 := fun s hs => by
    obtain ⟨j, hj, rfl⟩ := List.mem_iff_getElem.1 hs
    have := hpj j (by omega)
    rwa [List.getD_eq_getElem?_getD, List.getElem?_eq_getElem hj] at this
  repeat ((fail_if_success (refine And.intro (fun _ => ?_) (fun _ => ?_))); (first | refine go ?_ | intro _ | refine And.intro (Sd.mk (by (first | exact fun _ => True.intro | exact And.intro (fun _ => True.intro) (fun _ _ => True.intro) | (intro hq; (first | exact True.intro | omega | (simp only [and_true]; omega) | (simp only [bl] at hq; (try simp only [and_true]); omega) | fail)) | exact And.intro (fun hq => by first | exact True.intro | omega | (simp only [and_true]; omega) | (simp only [bl] at hq; (try simp only [and_true]); omega) | fail) (fun hq hr => by first | exact True.intro | omega | (simp only [and_true]; omega) | (simp only [bl] at hq hr; omega) | (simp only [bl] at hr; omega) | fail) | fail))) ?_ | refine And.intro (by (first | omega | (unfold InR; omega) | decide | (simp only [ll]; omega))) ?_ | dsimp only))
  refine And.intro (fun h1 => ?_) (fun _ => ?_)
  · exfalso; simp at h1; omega
  refine j1_any (fun x s => ∃ ch : List UInt8, x = str ch ∧ ch.length ≤ 60 ∧ s = ⟨w2, []⟩) ?_ ?_
  · repeat' (first | refine go ?_ | intro _ | refine And.intro (Sd.mk (by (first | exact fun _ => True.intro | exact And.intro (fun _ => True.intro) (fun _ _ => True.intro) | (intro hq; (first | exact True.intro | omega | (simp only [and_true]; omega) | (simp only [bl] at hq; (try simp only [and_true]); omega) | fail)) | exact And.intro (fun hq => by first | exact True.intro | omega | (simp only [and_true]; omega) | (simp only [bl] at hq; (try simp only [and_true]); omega) | fail) (fun hq hr => by first | exact True.intro | omega | (simp only [and_true]; omega) | (simp only [bl] at hq hr; omega) | (simp only [bl] at hr; omega) | fail) | fail))) ?_ | refine And.intro (by (first | omega | (unfold InR; omega) | decide | (simp only [ll]; omega))) ?_ | (refine And.intro (fun h1 => ?_) (fun h1 => ?_) <;> first | (exact absurd h1 (by decide)) | ((try rw [h1]); (try simp only [bl] at h1))) | dsimp only)
    · exact ⟨_, rfl, hp _ (getD_mem (by omega)), rfl⟩
    · exact ⟨[], rfl, Nat.zero_le _, rfl⟩
  rintro x s ⟨ch, rfl, hch, rfl⟩
  refine ⟨fun x s => ∃ (k : Nat) (w' : World), x = .int .i64 k ∧ s = ⟨w', []⟩ ∧ k ≤ 2 ∧ Hv w [box b1 36 [.int .i64 id, str nick, str user, str host, str real, str away, .bool od, .bool hid, .int .i64 sg, .int .i64 sp], box b2 38 [.int .i64 mid, .bool op, .bool vo]] w', fun x s => match x with | .int _ z => 2 - z.toNat | _ => 0, ⟨0, w2, rfl, rfl, by omega, o3⟩, ?_⟩
  rintro x s ⟨k, w3, rfl, rfl, hk, o4⟩
  clear o3
  rcases Nat.lt_or_ge k 2 with hk2 | hk2
  · repeat' (first | refine go ?_ | intro _ | refine And.intro (Sd.mk (by (first | exact fun _ => True.intro | exact And.intro (fun _ => True.intro) (fun _ _ => True.intro) | (intro hq; (first | exact True.intro | omega | (simp only [and_true]; omega) | (simp only [bl] at hq; (try simp only [and_true]); omega) | fail)) | exact And.intro (fun hq => by first | exact True.intro | omega | (simp only [and_true]; omega) | (simp only [bl] at hq; (try simp only [and_true]); omega) | fail) (fun hq hr => by first | exact True.intro | omega | (simp only [and_true]; omega) | (simp only [bl] at hq hr; omega) | (simp only [bl] at hr; omega) | fail) | fail))) ?_ | refine And.intro (by (first | omega | (unfold InR; omega) | decide | (simp only [ll]; omega))) ?_ | (refine And.intro (fun h1 => ?_) (fun h1 => ?_) <;> first | (exact absurd h1 (by decide)) | ((try rw [h1]); (try simp only [bl] at h1))) | dsimp only)
    · exact absurd trivial h1
    · exact ⟨⟨k + 1, _, rfl, rfl, by omega, Sub.hv (subBox rfl (subBox rfl subEnd))⟩, by omega⟩
    · exfalso; omega
  repeat' (first | refine go ?_ | intro _ | refine And.intro (Sd.mk (by (first | exact fun _ => True.intro | exact And.intro (fun _ => True.intro) (fun _ _ => True.intro) | (intro hq; (first | exact True.intro | omega | (simp only [and_true]; omega) | (simp only [bl] at hq; (try simp only [and_true]); omega) | fail)) | exact And.intro (fun hq => by first | exact True.intro | omega | (simp only [and_true]; omega) | (simp only [bl] at hq; (try simp only [and_true]); omega) | fail) (fun hq hr => by first | exact True.intro | omega | (simp only [and_true]; omega) | (simp only [bl] at hq hr; omega) | (simp only [bl] at hr; omega) | fail) | fail))) ?_ | refine And.intro (by (first | omega | (unfold InR; omega) | decide | (simp only [ll]; omega))) ?_ | (refine And.intro (fun h1 => ?_) (fun h1 => ?_) <;> first | (exact absurd h1 (by decide)) | ((try rw [h1]); (try simp only [bl] at h1))) | dsimp only)
  · exfalso; omega
  rename_i b5 w5 o5
  have lcp : ∀ H, RdsL w H cp 1 ss.length (ss.map str) := fun H => ⟨fun w' o' => inferInstance⟩
  have l1 := lcp [box b1 36 [.int .i64 id, str nick, str user, str host, str real, str away, .bool od, .bool hid, .int .i64 sg, .int .i64 sp], box b2 38 [.int .i64 mid, .bool op, .bool vo]]
  have hlen : ∀ idle ss', ss'.length ≤ 40 → (∀ s ∈ ss', s.length ≤ 60) → (whoisS nick user host real away od idle sg ss').length ≤ 100 := fun idle ss' h1 h2 => by
    have h3 := (rows_small (nick := nick) h2 ss'.length (Nat.le_refl _)).1
    rw [List.take_length] at h3
    have h4 : (endR (rowsS nick ss')).length ≤ 41 := by
      unfold endR; split
      · simp
      · omega
    unfold whoisS
    simp only [List.length_append, List.length_cons, List.length_nil]
    split <;> split <;> split <;> simp <;> omega
  have hle1 := hlen (now - sp) ss hl hp
  have hle2 := hlen (now - sp) [] (by decide) (fun s hs => by cases hs)
  refine whoisL_ok (g := 55) (cap := [.pointer (some ⟨b5, 0, none⟩)]) (ss := ss) (o := o5) ⟨z1, z2, z3, z4, z5⟩ inr isg hl hp (listed_seq b5) ?_
  intro v6 w6 o6
  clear o5 o4
  repeat ((fail_if_success (refine (show Cl P 21 #[str irc, str ann, _, _, _] _ _ from ?_))); (first | refine go ?_ | intro _ | refine And.intro (Sd.mk (by (first | exact fun _ => True.intro | exact And.intro (fun _ => True.intro) (fun _ _ => True.intro) | (intro hq; (first | exact True.intro | omega | (simp only [and_true]; omega) | (simp only [bl] at hq; (try simp only [and_true]); omega) | fail)) | exact And.intro (fun hq => by first | exact True.intro | omega | (simp only [and_true]; omega) | (simp only [bl] at hq; (try simp only [and_true]); omega) | fail) (fun hq hr => by first | exact True.intro | omega | (simp only [and_true]; omega) | (simp only [bl] at hq hr; omega) | (simp only [bl] at hr; omega) | fail) | fail))) ?_ | refine And.intro (by (first | omega | (unfold InR; omega) | decide | (simp only [ll]; omega))) ?_ | dsimp only))
  refine (show Cl P 21 #[str irc, str ann, _, _, _] _ _ from ?_)
  repeat' (first | refine go ?_ | intro _ | refine And.intro (Sd.mk (by (first | exact fun _ => True.intro | exact And.intro (fun _ => True.intro) (fun _ _ => True.intro) | (intro hq; (first | exact True.intro | omega | (simp only [and_true]; omega) | (simp only [bl] at hq; (try simp only [and_true]); omega) | fail)) | exact And.intro (fun hq => by first | exact True.intro | omega | (simp only [and_true]; omega) | (simp only [bl] at hq; (try simp only [and_true]); omega) | fail) (fun hq hr => by first | exact True.intro | omega | (simp only [and_true]; omega) | (simp only [bl] at hq hr; omega) | (simp only [bl] at hr; omega) | fail) | fail))) ?_ | refine And.intro (by (first | omega | (unfold InR; omega) | decide | (simp only [ll]; omega))) ?_ | (refine And.intro (fun h1 => ?_) (fun h1 => ?_) <;> first | (exact absurd h1 (by decide)) | ((try rw [h1]); (try simp only [bl] at h1))) | dsimp only)
  refine And.intro ⟨⟨z1, z2, z3, z4, z5⟩, inr, isg, hl, hp⟩ fun v7 w7 o7 => ?_
  clear o6
  repeat' (first | refine go ?_ | intro _ | refine And.intro (Sd.mk (by (first | exact fun _ => True.intro | exact And.intro (fun _ => True.intro) (fun _ _ => True.intro) | (intro hq; (first | exact True.intro | omega | (simp only [and_true]; omega) | (simp only [bl] at hq; (try simp only [and_true]); omega) | fail)) | exact And.intro (fun hq => by first | exact True.intro | omega | (simp only [and_true]; omega) | (simp only [bl] at hq; (try simp only [and_true]); omega) | fail) (fun hq hr => by first | exact True.intro | omega | (simp only [and_true]; omega) | (simp only [bl] at hq hr; omega) | (simp only [bl] at hr; omega) | fail) | fail))) ?_ | refine And.intro (by (first | omega | (unfold InR; omega) | decide | (simp only [ll]; omega))) ?_ | (refine And.intro (fun h1 => ?_) (fun h1 => ?_) <;> first | (exact absurd h1 (by decide)) | ((try rw [h1]); (try simp only [bl] at h1))) | dsimp only)
  · rename_i o8
    clear o7
    refine whoisN_ok (o := o8) ⟨z1, z2, z3, z4, z5⟩ inr isg ?_
    intro v9 w9 o9
    clear o8
    have nilF : ∀ H, RdsF w H (.slice none 0 0) 1 ([] : List (List UInt8)).length (([] : List (List UInt8)).map str) := fun H => ⟨fun w _ => ⟨by simp, by simp, by simp [maxLen], none, 0, rfl, fun _ => rfl, Nat.le_refl _, fun j u h => by simp at h⟩⟩
    repeat ((fail_if_success (refine (show Cl P 21 #[str irc, str ann, _, _, _] _ _ from ?_))); (first | refine go ?_ | intro _ | refine And.intro (Sd.mk (by (first | exact fun _ => True.intro | exact And.intro (fun _ => True.intro) (fun _ _ => True.intro) | (intro hq; (first | exact True.intro | omega | (simp only [and_true]; omega) | (simp only [bl] at hq; (try simp only [and_true]); omega) | fail)) | exact And.intro (fun hq => by first | exact True.intro | omega | (simp only [and_true]; omega) | (simp only [bl] at hq; (try simp only [and_true]); omega) | fail) (fun hq hr => by first | exact True.intro | omega | (simp only [and_true]; omega) | (simp only [bl] at hq hr; omega) | (simp only [bl] at hr; omega) | fail) | fail))) ?_ | refine And.intro (by (first | omega | (unfold InR; omega) | decide | (simp only [ll]; omega))) ?_ | dsimp only))
    refine (show Cl P 21 #[str irc, str ann, _, _, _] _ _ from ?_)
    refine (whoisR_ok (ss := []) (rc := nilF _)).prf ⟨⟨⟨z1, z2, z3, z4, z5⟩, inr, isg, by decide, fun s hs => by cases hs⟩, fun v10 w10 o10 => ?_⟩
    clear o9
    repeat' (first | refine go ?_ | intro _ | refine And.intro (Sd.mk (by (first | exact fun _ => True.intro | exact And.intro (fun _ => True.intro) (fun _ _ => True.intro) | (intro hq; (first | exact True.intro | omega | (simp only [and_true]; omega) | (simp only [bl] at hq; (try simp only [and_true]); omega) | fail)) | exact And.intro (fun hq => by first | exact True.intro | omega | (simp only [and_true]; omega) | (simp only [bl] at hq; (try simp only [and_true]); omega) | fail) (fun hq hr => by first | exact True.intro | omega | (simp only [and_true]; omega) | (simp only [bl] at hq hr; omega) | (simp only [bl] at hr; omega) | fail) | fail))) ?_ | refine And.intro (by (first | omega | (unfold InR; omega) | decide | (simp only [ll]; omega))) ?_ | (refine And.intro (fun h1 => ?_) (fun h1 => ?_) <;> first | (exact absurd h1 (by decide)) | ((try rw [h1]); (try simp only [bl] at h1))) | dsimp only)
    · refine And.intro (by decide : (2 : Nat) ≤ 100000) fun w11 o11 => ?_
      repeat' (first | refine go ?_ | intro _ | refine And.intro (Sd.mk (by (first | exact fun _ => True.intro | exact And.intro (fun _ => True.intro) (fun _ _ => True.intro) | (intro hq; (first | exact True.intro | omega | (simp only [and_true]; omega) | (simp only [bl] at hq; (try simp only [and_true]); omega) | fail)) | exact And.intro (fun hq => by first | exact True.intro | omega | (simp only [and_true]; omega) | (simp only [bl] at hq; (try simp only [and_true]); omega) | fail) (fun hq hr => by first | exact True.intro | omega | (simp only [and_true]; omega) | (simp only [bl] at hq hr; omega) | (simp only [bl] at hr; omega) | fail) | fail))) ?_ | refine And.intro (by (first | omega | (unfold InR; omega) | decide | (simp only [ll]; omega))) ?_ | (refine And.intro (fun h1 => ?_) (fun h1 => ?_) <;> first | (exact absurd h1 (by decide)) | ((try rw [h1]); (try simp only [bl] at h1))) | dsimp only)
      exact ⟨by simp, Sub.hv subEnd⟩
    · exact absurd trivial h1
  · exact absurd trivial h1
end Go.Proofs.YtapammcnagjigaaGreatDoor

