import Derived.Test.YtapammcnagjigaaDoorMf
set_option linter.all false
namespace Go.Proofs.YtapammcnagjigaaDoor
open Go.Vx Go.Lib
/-! reading a line -/
section
variable {K : Value → St → Prop} {w0 w : World} {H R : List SL} {ds : List Deferred} {l : List UInt8}
instance params_ok [o : Hv w0 H w] : Step (Cl P 43 #[str l] K ⟨w, ds⟩) (l.length ≤ 100000 ∧ ∀ v w', Hv w0 (row 9 1 v (paramsM l).length ((paramsM l).map str) :: H) w' → K v ⟨w', ds⟩) := ⟨fun ⟨hl, h⟩ => by
  refine cl_ok (c43 (K := fun v w' => K v ⟨w', ds⟩) ?_ fun v w' h => ⟨v, rfl, h⟩)
  unfold D43
  dsimp only
  refine j1_any (fun x s => ∃ w', s = ⟨w', []⟩ ∧ Hv w0 (row 9 1 x (paramsM l).length ((paramsM l).map str) :: H) w') ?_ ?_
  · refine ⟨fun x y s => ∃ (f : Nat) (m : List UInt8) (out : List (List UInt8)) (v : Value) (w' : World), x = str m ∧ y = v ∧ s = ⟨w', []⟩ ∧ m.length ≤ f ∧ pgo f m out = paramsM l ∧ m.length ≤ l.length ∧ out.length ≤ 14 ∧ Hv w0 (row 9 1 v out.length (out.map str) :: H) w',
      fun x _ s => match x with | .string b => b.size | _ => 0, ⟨l.length, l, [], _, w, rfl, rfl, rfl, Nat.le_refl _, rfl, Nat.le_refl _, by simp, Hv.nilRow 9 1 o⟩, ?_⟩
    rintro x y s ⟨f, m, out, v, w1, rfl, rfl, rfl, hf, he, hm, ho, o1⟩
    clear o
    by_cases hne : m = []
    · subst hne
      rw [pgo_nil] at he
      subst he
      repeat' (first | refine go ?_ | intro _ | refine And.intro (Sd.mk (by (first | exact fun _ => True.intro | exact And.intro (fun _ => True.intro) (fun _ _ => True.intro) | (intro hq; (first | exact True.intro | omega | (simp only [and_true]; omega) | (simp only [bl] at hq; (try simp only [and_true]); omega) | fail)) | exact And.intro (fun hq => by first | exact True.intro | omega | (simp only [and_true]; omega) | (simp only [bl] at hq; (try simp only [and_true]); omega) | fail) (fun hq hr => by first | exact True.intro | omega | (simp only [and_true]; omega) | (simp only [bl] at hq hr; omega) | (simp only [bl] at hr; omega) | fail) | fail))) ?_ | refine And.intro (by (first | omega | (unfold InR; omega) | decide | (simp only [ll]; omega))) ?_ | (refine And.intro (fun h1 => ?_) (fun h1 => ?_) <;> first | (exact absurd h1 (by decide)) | ((try rw [h1]); (try simp only [bl] at h1))) | dsimp only)
      all_goals first
        | (exfalso; simp at h1; done)
        | exact ⟨_, rfl, o1⟩
    · cases f with
      | zero => exact absurd (List.eq_nil_of_length_eq_zero (by omega)) hne
      | succ f =>
        have hw := word_len m
        have hr := rest_len m
        have hlt := rest_lt hne
        repeat' (first | refine go ?_ | intro _ | refine And.intro (Sd.mk (by (first | exact fun _ => True.intro | exact And.intro (fun _ => True.intro) (fun _ _ => True.intro) | (intro hq; (first | exact True.intro | omega | (simp only [and_true]; omega) | (simp only [bl] at hq; (try simp only [and_true]); omega) | fail)) | exact And.intro (fun hq => by first | exact True.intro | omega | (simp only [and_true]; omega) | (simp only [bl] at hq; (try simp only [and_true]); omega) | fail) (fun hq hr => by first | exact True.intro | omega | (simp only [and_true]; omega) | (simp only [bl] at hq hr; omega) | (simp only [bl] at hr; omega) | fail) | fail))) ?_ | refine And.intro (by (first | omega | (unfold InR; omega) | decide | (simp only [ll]; omega))) ?_ | (refine And.intro (fun h1 => ?_) (fun h1 => ?_) <;> first | (exact absurd h1 (by decide)) | ((try rw [h1]); (try simp only [bl] at h1))) | dsimp only)
        all_goals first
          | (exfalso; exact hne h1)
          | skip
        · refine ⟨_, rfl, ?_⟩
          have e : paramsM l = out ++ [if hd m 58 then m.drop 1 else m] := by
            rw [← he]
            cases hh : hd m 58 with
            | true => obtain ⟨t, rfl⟩ := hd_true hh; rw [pgo_colon]; simp
            | false =>
              rw [hh] at h1
              have : out.length = 14 := by
                rcases h1 with h1 | h1
                · cases h1
                · omega
              rw [pgo_last hne hh this]; rfl
          rw [e]
          exact Sub.hv (subRow (by simp) (by simp) subEnd)
        · refine ⟨⟨f, restB m, out ++ [wordB m], _, _, rfl, rfl, rfl, by omega, ?_, by omega, by simp; omega, Sub.hv (subRow (by simp) (by simp) subEnd)⟩, by simpa [ByteArray.size] using hlt⟩
          rw [← he, pgo_step hne h1.1 (by omega)]
  · rintro v s ⟨w1, rfl, o1⟩
    repeat' (first | refine go ?_ | intro _ | refine And.intro (Sd.mk (by (first | exact fun _ => True.intro | exact And.intro (fun _ => True.intro) (fun _ _ => True.intro) | (intro hq; (first | exact True.intro | omega | (simp only [and_true]; omega) | (simp only [bl] at hq; (try simp only [and_true]); omega) | fail)) | exact And.intro (fun hq => by first | exact True.intro | omega | (simp only [and_true]; omega) | (simp only [bl] at hq; (try simp only [and_true]); omega) | fail) (fun hq hr => by first | exact True.intro | omega | (simp only [and_true]; omega) | (simp only [bl] at hq hr; omega) | (simp only [bl] at hr; omega) | fail) | fail))) ?_ | refine And.intro (by (first | omega | (unfold InR; omega) | decide | (simp only [ll]; omega))) ?_ | (refine And.intro (fun h1 => ?_) (fun h1 => ?_) <;> first | (exact absurd h1 (by decide)) | ((try rw [h1]); (try simp only [bl] at h1))) | dsimp only)
    exact h _ _ o1⟩
abbrev noMsgV : List Value := [.slice none 0 0, str [], str [], .slice none 0 0]
/-- What a reading gives, as a result. -/
def MsgK (K : Value → St → Prop) (w0 : World) (H : List SL) (ds : List Deferred) (m : Msg) (e : Int) : Prop :=
  ∀ tv pv w', Hv w0 (row 71 2 tv m.1.length (m.1.flatMap encT) :: row 9 1 pv m.2.2.2.length (m.2.2.2.map str) :: H) w' → K (.tuple #[.agg #[tv, str m.2.1, str m.2.2.1, pv], .int .i64 e]) ⟨w', ds⟩
theorem MsgK.err {e : Int} (h : MsgK K w0 H ds noMsg e) (o : Hv w0 H w) : K (.tuple #[.agg #[.slice none 0 0, str [], str [], .slice none 0 0], .int .i64 e]) ⟨w, ds⟩ :=
  h _ _ _ (Hv.nilRow 71 2 (Hv.nilRow 9 1 o))
theorem parse_tags {l : List UInt8} (h1 : l.length ≤ 510) (h2 : txtB l = true) : parseM l = if hd l 64 then (if (parseT (wordB (l.drop 1))).2 ≠ 0 then (noMsg, (parseT (wordB (l.drop 1))).2) else pM (parseT (wordB (l.drop 1))).1 (restB (l.drop 1))) else pM [] l := by
  unfold parseM; rw [if_neg (by omega), h2]; rfl
instance mparse_ok [o : Hv w0 H w] : Step (Cl P 16 #[str l] K ⟨w, ds⟩) (∀ tv pv w', Hv w0 (row 71 2 tv (parseM l).1.1.length ((parseM l).1.1.flatMap encT) :: row 9 1 pv (parseM l).1.2.2.2.length ((parseM l).1.2.2.2.map str) :: H) w' → K (.tuple #[.agg #[tv, str (parseM l).1.2.1, str (parseM l).1.2.2.1, pv], .int .i64 (parseM l).2]) ⟨w', ds⟩) := ⟨fun h => by
  replace h : MsgK K w0 H ds (parseM l).1 (parseM l).2 := h
  refine cl_ok (c16 (K := fun v w' => K v ⟨w', ds⟩) ?_ fun v w' h => ⟨v, rfl, h⟩)
  unfold D16
  dsimp only
  repeat ((fail_if_success (refine j1_any (fun _ _ => True) ?_ ?_)); (first | refine go ?_ | intro _ | refine And.intro (Sd.mk (by (first | exact fun _ => True.intro | exact And.intro (fun _ => True.intro) (fun _ _ => True.intro) | (intro hq; (first | exact True.intro | omega | (simp only [and_true]; omega) | (simp only [bl] at hq; (try simp only [and_true]); omega) | fail)) | exact And.intro (fun hq => by first | exact True.intro | omega | (simp only [and_true]; omega) | (simp only [bl] at hq; (try simp only [and_true]); omega) | fail) (fun hq hr => by first | exact True.intro | omega | (simp only [and_true]; omega) | (simp only [bl] at hq hr; omega) | (simp only [bl] at hr; omega) | fail) | fail))) ?_ | refine And.intro (by (first | omega | (unfold InR; omega) | decide | (simp only [ll]; omega))) ?_ | dsimp only))
  refine And.intro (fun h1 => ?_) (fun h1 => ?_)
  · repeat' (first | refine go ?_ | intro _ | refine And.intro (Sd.mk (by (first | exact fun _ => True.intro | exact And.intro (fun _ => True.intro) (fun _ _ => True.intro) | (intro hq; (first | exact True.intro | omega | (simp only [and_true]; omega) | (simp only [bl] at hq; (try simp only [and_true]); omega) | fail)) | exact And.intro (fun hq => by first | exact True.intro | omega | (simp only [and_true]; omega) | (simp only [bl] at hq; (try simp only [and_true]); omega) | fail) (fun hq hr => by first | exact True.intro | omega | (simp only [and_true]; omega) | (simp only [bl] at hq hr; omega) | (simp only [bl] at hr; omega) | fail) | fail))) ?_ | refine And.intro (by (first | omega | (unfold InR; omega) | decide | (simp only [ll]; omega))) ?_ | (refine And.intro (fun h1 => ?_) (fun h1 => ?_) <;> first | (exact absurd h1 (by decide)) | ((try rw [h1]); (try simp only [bl] at h1))) | dsimp only)
    have e : parseM l = (noMsg, 3) := by unfold parseM; rw [if_pos (by simp at h1; omega)]
    rw [e] at h
    exact h.err (Sub.hv subEnd)
  have h510 : l.length ≤ 510 := by simp at h1; omega
  have hl : l.length ≤ 100000 := by omega
  repeat ((fail_if_success (refine j1_any (fun _ _ => True) ?_ ?_)); (first | refine go ?_ | intro _ | refine And.intro (Sd.mk (by (first | exact fun _ => True.intro | exact And.intro (fun _ => True.intro) (fun _ _ => True.intro) | (intro hq; (first | exact True.intro | omega | (simp only [and_true]; omega) | (simp only [bl] at hq; (try simp only [and_true]); omega) | fail)) | exact And.intro (fun hq => by first | exact True.intro | omega | (simp only [and_true]; omega) | (simp only [bl] at hq; (try simp only [and_true]); omega) | fail) (fun hq hr => by first | exact True.intro | omega | (simp only [and_true]; omega) | (simp only [bl] at hq hr; omega) | (simp only [bl] at hr; omega) | fail) | fail))) ?_ | refine And.intro (by (first | omega | (unfold InR; omega) | decide | (simp only [ll]; omega))) ?_ | dsimp only))
  refine And.intro (fun h2 => ?_) (fun h2 => ?_)
  · repeat' (first | refine go ?_ | intro _ | refine And.intro (Sd.mk (by (first | exact fun _ => True.intro | exact And.intro (fun _ => True.intro) (fun _ _ => True.intro) | (intro hq; (first | exact True.intro | omega | (simp only [and_true]; omega) | (simp only [bl] at hq; (try simp only [and_true]); omega) | fail)) | exact And.intro (fun hq => by first | exact True.intro | omega | (simp only [and_true]; omega) | (simp only [bl] at hq; (try simp only [and_true]); omega) | fail) (fun hq hr => by first | exact True.intro | omega | (simp only [and_true]; omega) | (simp only [bl] at hq hr; omega) | (simp only [bl] at hr; omega) | fail) | fail))) ?_ | refine And.intro (by (first | omega | (unfold InR; omega) | decide | (simp only [ll]; omega))) ?_ | (refine And.intro (fun h1 => ?_) (fun h1 => ?_) <;> first | (exact absurd h1 (by decide)) | ((try rw [h1]); (try simp only [bl] at h1))) | dsimp only)
    have e : parseM l = (noMsg, 10) := by unfold parseM; rw [if_neg (by omega), if_pos h2]
    rw [e] at h
    exact h.err (Sub.hv subEnd)
  have htx : txtB l = true := by simpa using h2
  repeat ((fail_if_success (refine j1_any (fun _ _ => True) ?_ ?_)); (first | refine go ?_ | intro _ | refine And.intro (Sd.mk (by (first | exact fun _ => True.intro | exact And.intro (fun _ => True.intro) (fun _ _ => True.intro) | (intro hq; (first | exact True.intro | omega | (simp only [and_true]; omega) | (simp only [bl] at hq; (try simp only [and_true]); omega) | fail)) | exact And.intro (fun hq => by first | exact True.intro | omega | (simp only [and_true]; omega) | (simp only [bl] at hq; (try simp only [and_true]); omega) | fail) (fun hq hr => by first | exact True.intro | omega | (simp only [and_true]; omega) | (simp only [bl] at hq hr; omega) | (simp only [bl] at hr; omega) | fail) | fail))) ?_ | refine And.intro (by (first | omega | (unfold InR; omega) | decide | (simp only [ll]; omega))) ?_ | dsimp only))
  have hpt := parse_tags h510 htx
  rename_i b1 _ _ _ _ b2 w2 o2
  refine j1_any (fun x s => ∃ (T : List Tag) (r : List UInt8) (tv : Value) (w' : World), x = str r ∧ s = ⟨w', []⟩ ∧ parseM l = pM T r ∧ r.length ≤ l.length ∧ Hv w0 (box b2 32 [tv, str [], str [], .slice none 0 0] :: row 71 2 tv T.length (T.flatMap encT) :: box b1 32 noMsgV :: H) w') ?_ ?_
  · repeat' (first | refine go ?_ | intro _ | refine And.intro (Sd.mk (by (first | exact fun _ => True.intro | exact And.intro (fun _ => True.intro) (fun _ _ => True.intro) | (intro hq; (first | exact True.intro | omega | (simp only [and_true]; omega) | (simp only [bl] at hq; (try simp only [and_true]); omega) | fail)) | exact And.intro (fun hq => by first | exact True.intro | omega | (simp only [and_true]; omega) | (simp only [bl] at hq; (try simp only [and_true]); omega) | fail) (fun hq hr => by first | exact True.intro | omega | (simp only [and_true]; omega) | (simp only [bl] at hq hr; omega) | (simp only [bl] at hr; omega) | fail) | fail))) ?_ | refine And.intro (by (first | omega | (unfold InR; omega) | decide | (simp only [ll]; omega))) ?_ | (refine And.intro (fun h1 => ?_) (fun h1 => ?_) <;> first | (exact absurd h1 (by decide)) | ((try rw [h1]); (try simp only [bl] at h1))) | dsimp only)
    · obtain ⟨t, rfl⟩ := hd_true h1
      simp only [List.length_cons] at h510 hl
      have hw := word_len t
      have hr := rest_len t
      rw [if_pos h1] at hpt
      simp only [List.drop_succ_cons, List.drop_zero] at hpt ⊢
      repeat' (first | refine go ?_ | intro _ | refine And.intro (Sd.mk (by (first | exact fun _ => True.intro | exact And.intro (fun _ => True.intro) (fun _ _ => True.intro) | (intro hq; (first | exact True.intro | omega | (simp only [and_true]; omega) | (simp only [bl] at hq; (try simp only [and_true]); omega) | fail)) | exact And.intro (fun hq => by first | exact True.intro | omega | (simp only [and_true]; omega) | (simp only [bl] at hq; (try simp only [and_true]); omega) | fail) (fun hq hr => by first | exact True.intro | omega | (simp only [and_true]; omega) | (simp only [bl] at hq hr; omega) | (simp only [bl] at hr; omega) | fail) | fail))) ?_ | refine And.intro (by (first | omega | (unfold InR; omega) | decide | (simp only [ll]; omega))) ?_ | (refine And.intro (fun h1 => ?_) (fun h1 => ?_) <;> first | (exact absurd h1 (by decide)) | ((try rw [h1]); (try simp only [bl] at h1))) | dsimp only)
      · rw [if_pos h1] at hpt
        rw [hpt] at h
        exact h.err (Sub.hv subEnd)
      · rw [if_neg (by simpa using h1)] at hpt
        exact ⟨_, _, _, _, rfl, rfl, hpt, by simp; omega, Sub.hv (subBox rfl (subRow rfl rfl (subBox rfl subEnd)))⟩
    · rw [if_neg (by simp [h1])] at hpt
      exact ⟨[], l, .slice none 0 0, _, rfl, rfl, hpt, Nat.le_refl _, Hv.perm sep_swap (Hv.nilRow 71 2 (Sub.hv (G := _ :: _ :: H) (subBox rfl (subBox rfl subEnd))))⟩
  rintro x s ⟨T, r, tv, w3, rfl, rfl, hT, hrl, o3⟩
  clear o2 o
  repeat ((fail_if_success (refine j1_any (fun _ _ => True) ?_ ?_)); (first | refine go ?_ | intro _ | refine And.intro (Sd.mk (by (first | exact fun _ => True.intro | exact And.intro (fun _ => True.intro) (fun _ _ => True.intro) | (intro hq; (first | exact True.intro | omega | (simp only [and_true]; omega) | (simp only [bl] at hq; (try simp only [and_true]); omega) | fail)) | exact And.intro (fun hq => by first | exact True.intro | omega | (simp only [and_true]; omega) | (simp only [bl] at hq; (try simp only [and_true]); omega) | fail) (fun hq hr => by first | exact True.intro | omega | (simp only [and_true]; omega) | (simp only [bl] at hq hr; omega) | (simp only [bl] at hr; omega) | fail) | fail))) ?_ | refine And.intro (by (first | omega | (unfold InR; omega) | decide | (simp only [ll]; omega))) ?_ | dsimp only))
  refine j1_any (fun x s => ∃ (pre r : List UInt8) (w' : World), x = str r ∧ s = ⟨w', []⟩ ∧ parseM l = pC T pre r ∧ pre.length ≤ l.length ∧ r.length ≤ l.length ∧ Hv w0 (box b2 32 [tv, str pre, str [], .slice none 0 0] :: row 71 2 tv T.length (T.flatMap encT) :: box b1 32 noMsgV :: H) w') ?_ ?_
  · repeat' (first | refine go ?_ | intro _ | refine And.intro (Sd.mk (by (first | exact fun _ => True.intro | exact And.intro (fun _ => True.intro) (fun _ _ => True.intro) | (intro hq; (first | exact True.intro | omega | (simp only [and_true]; omega) | (simp only [bl] at hq; (try simp only [and_true]); omega) | fail)) | exact And.intro (fun hq => by first | exact True.intro | omega | (simp only [and_true]; omega) | (simp only [bl] at hq; (try simp only [and_true]); omega) | fail) (fun hq hr => by first | exact True.intro | omega | (simp only [and_true]; omega) | (simp only [bl] at hq hr; omega) | (simp only [bl] at hr; omega) | fail) | fail))) ?_ | refine And.intro (by (first | omega | (unfold InR; omega) | decide | (simp only [ll]; omega))) ?_ | (refine And.intro (fun h1 => ?_) (fun h1 => ?_) <;> first | (exact absurd h1 (by decide)) | ((try rw [h1]); (try simp only [bl] at h1))) | dsimp only)
    · obtain ⟨t, rfl⟩ := hd_true h1
      simp only [List.length_cons] at hrl
      have hw := word_len t
      have hr := rest_len t
      unfold pM at hT
      rw [if_pos h1] at hT
      simp only [List.drop_succ_cons, List.drop_zero] at hT ⊢
      repeat' (first | refine go ?_ | intro _ | refine And.intro (Sd.mk (by (first | exact fun _ => True.intro | exact And.intro (fun _ => True.intro) (fun _ _ => True.intro) | (intro hq; (first | exact True.intro | omega | (simp only [and_true]; omega) | (simp only [bl] at hq; (try simp only [and_true]); omega) | fail)) | exact And.intro (fun hq => by first | exact True.intro | omega | (simp only [and_true]; omega) | (simp only [bl] at hq; (try simp only [and_true]); omega) | fail) (fun hq hr => by first | exact True.intro | omega | (simp only [and_true]; omega) | (simp only [bl] at hq hr; omega) | (simp only [bl] at hr; omega) | fail) | fail))) ?_ | refine And.intro (by (first | omega | (unfold InR; omega) | decide | (simp only [ll]; omega))) ?_ | (refine And.intro (fun h1 => ?_) (fun h1 => ?_) <;> first | (exact absurd h1 (by decide)) | ((try rw [h1]); (try simp only [bl] at h1))) | dsimp only)
      · rw [if_pos h1] at hT
        rw [hT] at h
        exact h.err (Sub.hv subEnd)
      · rw [if_neg h1] at hT
        exact ⟨_, _, _, rfl, rfl, hT, by omega, by omega, Sub.hv (subBox rfl (subRow rfl rfl (subBox rfl subEnd)))⟩
    · unfold pM at hT
      rw [if_neg (by simp [h1])] at hT
      exact ⟨[], r, _, rfl, rfl, hT, by simp, hrl, Sub.hv (subBox rfl (subRow rfl rfl (subBox rfl subEnd)))⟩
  rintro x s ⟨pre, r, w4, rfl, rfl, hC, hpl, hrl, o4⟩
  clear o3
  have hw := word_len r
  have hr := rest_len r
  have hcl : (capsS (wordB r)).length = (wordB r).length := by simp [capsS]
  unfold pC at hC
  repeat' (first | refine go ?_ | intro _ | refine And.intro (Sd.mk (by (first | exact fun _ => True.intro | exact And.intro (fun _ => True.intro) (fun _ _ => True.intro) | (intro hq; (first | exact True.intro | omega | (simp only [and_true]; omega) | (simp only [bl] at hq; (try simp only [and_true]); omega) | fail)) | exact And.intro (fun hq => by first | exact True.intro | omega | (simp only [and_true]; omega) | (simp only [bl] at hq; (try simp only [and_true]); omega) | fail) (fun hq hr => by first | exact True.intro | omega | (simp only [and_true]; omega) | (simp only [bl] at hq hr; omega) | (simp only [bl] at hr; omega) | fail) | fail))) ?_ | refine And.intro (by (first | omega | (unfold InR; omega) | decide | (simp only [ll]; omega))) ?_ | (refine And.intro (fun h1 => ?_) (fun h1 => ?_) <;> first | (exact absurd h1 (by decide)) | ((try rw [h1]); (try simp only [bl] at h1))) | dsimp only)
  · rw [if_pos h1] at hC
    rw [hC] at h
    exact h.err (Sub.hv subEnd)
  · rw [if_neg ‹¬ r = []›, if_pos (by simp [h1])] at hC
    rw [hC] at h
    exact h.err (Sub.hv subEnd)
  · rw [if_neg ‹¬ r = []›, if_neg (by simp [h1])] at hC
    rw [hC] at h
    exact h _ _ _ (Sub.hv (subRow rfl rfl (subRow rfl rfl subEnd)))⟩
end
end Go.Proofs.YtapammcnagjigaaDoor

