import Derived.Test.YtapammcnagjigaaGreatDoorRa
set_option linter.all false
namespace Go.Proofs.YtapammcnagjigaaGreatDoor
open Go.Vx Go.Lib
/-! decimal digits; strconv.Itoa -/
abbrev PowT (w0 : World) : Prop := Tab P w0 "internal/strconv.uint64pow10" .u64 pow10Tab
section
set_option maxRecDepth 20000
set_option synthInstance.maxSize 100000
set_option synthInstance.maxHeartbeats 4000000
instance itoaL_ok {K : Value → St → Prop} {w0 w : World} {H : List SL} {ds : List Deferred} {n : Int} [o : Hv w0 H w] [tb : PowT w0] :
    Step (Cl P 93 #[.int .i64 n] K ⟨w, ds⟩) (InR n ∧ ∀ w', Hv w0 H w' → K (str (itoa n)) ⟨w', ds⟩) := ⟨fun ⟨hn, h⟩ => by
  refine cl_ok (c93 (K := fun v w' => K v ⟨w', ds⟩) ?_ fun v w' h => ⟨v, rfl, h⟩)
  unfold D93
  refine cl_ok ((Tryz.internal_strconv_Itoa n hn.1 hn.2 w (o.tab tb.eq)).mono fun e w' ⟨he, k, os, hw⟩ => ?_)
  subst hw
  refine ⟨_, he, ?_⟩
  refine go ?_
  exact h _ o.grown⟩
theorem decT_ok (m : Nat) : ∀ (n : Int), n.toNat < m → 0 ≤ n → n ≤ 9223372036854775807 → ∀ {K : Value → St → Prop} {w0 w : World} {H : List SL} {ds : List Deferred} [Hv w0 H w],
    (∀ w', Hv w0 H w' → K (str (decDigits n.toNat)) ⟨w', ds⟩) → Cl P 96 #[.int .i64 n] K ⟨w, ds⟩ := by
  induction m with
  | zero => intro n h; omega
  | succ m ih =>
  intro n hm h0 h1 K w0 w H ds o h
  refine cl_ok (c96 (K := fun v w' => K v ⟨w', ds⟩) ?_ fun v w' h => ⟨v, rfl, h⟩)
  unfold D96
  dsimp only
  obtain ⟨t1, t2, t3⟩ := tdiv_nat h0
  obtain ⟨m1, m2, m3⟩ := tmod_nat h0
  repeat' (first | refine go ?_ | intro _ | refine And.intro (Sd.mk (by (first | exact fun _ => True.intro | exact And.intro (fun _ => True.intro) (fun _ _ => True.intro) | (intro hq; (first | exact True.intro | omega | (simp only [and_true]; omega) | (simp only [bl] at hq; (try simp only [and_true]); omega) | fail)) | exact And.intro (fun hq => by first | exact True.intro | omega | (simp only [and_true]; omega) | (simp only [bl] at hq; (try simp only [and_true]); omega) | fail) (fun hq hr => by first | exact True.intro | omega | (simp only [and_true]; omega) | (simp only [bl] at hq hr; omega) | (simp only [bl] at hr; omega) | fail) | fail))) ?_ | refine And.intro (by (first | omega | (unfold InR; omega) | decide | (simp only [ll]; omega))) ?_ | (refine And.intro (fun h1 => ?_) (fun h1 => ?_) <;> first | (exact absurd h1 (by decide)) | ((try rw [h1]); (try simp only [bl] at h1))) | dsimp only)
  · rw [decDigits_one (show n.toNat < 10 by omega)] at h
    rw [show (48 + n).toNat = 48 + n.toNat by omega]
    exact h _ (Sub.hv subEnd)
  · have hd := dec_big (show ¬ n.toNat < 10 by omega)
    have e : (48 + n.tmod 10).toNat = 48 + n.toNat % 10 := by omega
    rw [hd, ← t1, ← e] at h
    have hl := dec_len (u := (n.tdiv 10).toNat) (by omega)
    refine And.intro (ih _ (by omega) t2 (by omega) ?_) ?_
    · repeat' (first | refine go ?_ | intro _ | refine And.intro (Sd.mk (by (first | exact fun _ => True.intro | exact And.intro (fun _ => True.intro) (fun _ _ => True.intro) | (intro hq; (first | exact True.intro | omega | (simp only [and_true]; omega) | (simp only [bl] at hq; (try simp only [and_true]); omega) | fail)) | exact And.intro (fun hq => by first | exact True.intro | omega | (simp only [and_true]; omega) | (simp only [bl] at hq; (try simp only [and_true]); omega) | fail) (fun hq hr => by first | exact True.intro | omega | (simp only [and_true]; omega) | (simp only [bl] at hq hr; omega) | (simp only [bl] at hr; omega) | fail) | fail))) ?_ | refine And.intro (by (first | omega | (unfold InR; omega) | decide | (simp only [ll]; omega))) ?_ | (refine And.intro (fun h1 => ?_) (fun h1 => ?_) <;> first | (exact absurd h1 (by decide)) | ((try rw [h1]); (try simp only [bl] at h1))) | dsimp only)
      exact h _ (Sub.hv subEnd)
    · repeat' (first | refine go ?_ | intro _ | refine And.intro (Sd.mk (by (first | exact fun _ => True.intro | exact And.intro (fun _ => True.intro) (fun _ _ => True.intro) | (intro hq; (first | exact True.intro | omega | (simp only [and_true]; omega) | (simp only [bl] at hq; (try simp only [and_true]); omega) | fail)) | exact And.intro (fun hq => by first | exact True.intro | omega | (simp only [and_true]; omega) | (simp only [bl] at hq; (try simp only [and_true]); omega) | fail) (fun hq hr => by first | exact True.intro | omega | (simp only [and_true]; omega) | (simp only [bl] at hq hr; omega) | (simp only [bl] at hr; omega) | fail) | fail))) ?_ | refine And.intro (by (first | omega | (unfold InR; omega) | decide | (simp only [ll]; omega))) ?_ | (refine And.intro (fun h1 => ?_) (fun h1 => ?_) <;> first | (exact absurd h1 (by decide)) | ((try rw [h1]); (try simp only [bl] at h1))) | dsimp only)
      refine ih _ (by omega) t2 (by omega) ?_
      repeat' (first | refine go ?_ | intro _ | refine And.intro (Sd.mk (by (first | exact fun _ => True.intro | exact And.intro (fun _ => True.intro) (fun _ _ => True.intro) | (intro hq; (first | exact True.intro | omega | (simp only [and_true]; omega) | (simp only [bl] at hq; (try simp only [and_true]); omega) | fail)) | exact And.intro (fun hq => by first | exact True.intro | omega | (simp only [and_true]; omega) | (simp only [bl] at hq; (try simp only [and_true]); omega) | fail) (fun hq hr => by first | exact True.intro | omega | (simp only [and_true]; omega) | (simp only [bl] at hq hr; omega) | (simp only [bl] at hr; omega) | fail) | fail))) ?_ | refine And.intro (by (first | omega | (unfold InR; omega) | decide | (simp only [ll]; omega))) ?_ | (refine And.intro (fun h1 => ?_) (fun h1 => ?_) <;> first | (exact absurd h1 (by decide)) | ((try rw [h1]); (try simp only [bl] at h1))) | dsimp only)
      exact h _ (Sub.hv subEnd)
variable {K : Value → St → Prop} {w0 w : World} {H : List SL} {ds : List Deferred} {n : Int}
instance digR_ok [o : Hv w0 H w] : Step (Cl P 96 #[.int .i64 n] K ⟨w, ds⟩) ((0 ≤ n ∧ n ≤ 9223372036854775807) ∧ ∀ w', Hv w0 H w' → K (str (decDigits n.toNat)) ⟨w', ds⟩) := ⟨fun ⟨hn, h⟩ => decT_ok _ n (Nat.lt_succ_self _) hn.1 hn.2 h⟩
instance cntS_ok [o : Hv w0 H w] [tb : PowT w0] : Step (Cl P 54 #[.int .i64 n] K ⟨w, ds⟩) (InR n ∧ ∀ w', Hv w0 H w' → K (str (decDigits n.toNat)) ⟨w', ds⟩) := ⟨fun ⟨hn, h⟩ => by
  refine cl_ok (c54 (K := fun v w' => K v ⟨w', ds⟩) ?_ fun v w' h => ⟨v, rfl, h⟩)
  unfold D54
  unfold InR at hn
  repeat' (first | refine go ?_ | intro _ | refine And.intro (Sd.mk (by (first | exact fun _ => True.intro | exact And.intro (fun _ => True.intro) (fun _ _ => True.intro) | (intro hq; (first | exact True.intro | omega | (simp only [and_true]; omega) | (simp only [bl] at hq; (try simp only [and_true]); omega) | fail)) | exact And.intro (fun hq => by first | exact True.intro | omega | (simp only [and_true]; omega) | (simp only [bl] at hq; (try simp only [and_true]); omega) | fail) (fun hq hr => by first | exact True.intro | omega | (simp only [and_true]; omega) | (simp only [bl] at hq hr; omega) | (simp only [bl] at hr; omega) | fail) | fail))) ?_ | refine And.intro (by (first | omega | (unfold InR; omega) | decide | (simp only [ll]; omega))) ?_ | (refine And.intro (fun h1 => ?_) (fun h1 => ?_) <;> first | (exact absurd h1 (by decide)) | ((try rw [h1]); (try simp only [bl] at h1))) | dsimp only)
  rw [itoa_pos (by omega), show (max n 0).toNat = n.toNat by omega]
  exact h _ (Sub.hv subEnd)⟩
instance nbrR_ok [o : Hv w0 H w] : Step (Cl P 57 #[.int .i64 n] K ⟨w, ds⟩) (InR n ∧ ∀ w', Hv w0 H w' → K (str (decDigits n.toNat)) ⟨w', ds⟩) := ⟨fun ⟨hn, h⟩ => by
  refine cl_ok (c57 (K := fun v w' => K v ⟨w', ds⟩) ?_ fun v w' h => ⟨v, rfl, h⟩)
  unfold D57
  unfold InR at hn
  repeat' (first | refine go ?_ | intro _ | refine And.intro (Sd.mk (by (first | exact fun _ => True.intro | exact And.intro (fun _ => True.intro) (fun _ _ => True.intro) | (intro hq; (first | exact True.intro | omega | (simp only [and_true]; omega) | (simp only [bl] at hq; (try simp only [and_true]); omega) | fail)) | exact And.intro (fun hq => by first | exact True.intro | omega | (simp only [and_true]; omega) | (simp only [bl] at hq; (try simp only [and_true]); omega) | fail) (fun hq hr => by first | exact True.intro | omega | (simp only [and_true]; omega) | (simp only [bl] at hq hr; omega) | (simp only [bl] at hr; omega) | fail) | fail))) ?_ | refine And.intro (by (first | omega | (unfold InR; omega) | decide | (simp only [ll]; omega))) ?_ | (refine And.intro (fun h1 => ?_) (fun h1 => ?_) <;> first | (exact absurd h1 (by decide)) | ((try rw [h1]); (try simp only [bl] at h1))) | dsimp only)
  · have e : n.toNat = 0 := by omega
    rw [e] at h
    exact h _ (Sub.hv subEnd)
  · exact h _ (Sub.hv subEnd)⟩
end
end Go.Proofs.YtapammcnagjigaaGreatDoor

