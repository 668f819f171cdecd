import Derived.Test.YtapammcnagjigaaDoorSgh
set_option linter.all false
namespace Go.Proofs.YtapammcnagjigaaDoor
open Go.Vx Go.Lib
section
variable {p1 p2 q2 pass user real server nick : List UInt8} {L1 L2 L ps : List (List UInt8)} {tk dn b : Bool} {z z' : Int}
theorem nonnil {L : List (List UInt8)} (h : 0 < (L.length : Int)) : L ≠ [] := fun e => by rw [e] at h; exact absurd h (by decide)
theorem fin1 (hp : L1 ≠ [] ∨ dn = true → p1 = pass) (hq : L2 ≠ [] ∨ dn = true → p2 = user ∧ q2 = real)
    (h : (0 < (L1.length : Int) ∧ (True → (tk == tk) = true → p1 = pass → True → True → True → (dn == dn) = true → true = false)) ∨ (0 < (L2.length : Int) ∧ (True → (tk == tk) = true → True → True → p2 = user → q2 = real → (dn == dn) = true → true = false))) : False := by
  rcases h with ⟨h1, h2⟩ | ⟨h1, h2⟩
  · exact absurd (h2 trivial (by simp) (hp (.inl (nonnil h1))) trivial trivial trivial (by simp)) (by decide)
  · have := hq (.inl (nonnil h1))
    exact absurd (h2 trivial (by simp) trivial trivial this.1 this.2 (by simp)) (by decide)
theorem fin3 (h : dn = true → b = false) (hd : dn = true) : Value.bool (false || !b) = Value.bool true := by rw [h hd]; rfl
theorem fin4 (h : CapR server nick ps z tk dn z' b L) (hd : dn = true) (hb : b = true) (ht : tk = false) : False := by
  have := h.d hd hb
  rw [ht] at this; exact absurd this (by decide)
theorem fin6 (hq : L2 ≠ [] ∨ dn = true → p2 = user ∧ q2 = real) (hd : dn = true) (h2 : True → (tk == tk) = true → True → True → p2 = user → q2 = real → (dn == dn) = true → true = false) : False :=
  absurd (h2 trivial (by simp) trivial trivial (hq (.inr hd)).1 (hq (.inr hd)).2 (by simp)) (by decide)
theorem fin7 (hp : L1 ≠ [] ∨ dn = true → p1 = pass) (hd : dn = true) (h2 : True → (tk == tk) = true → p1 = pass → True → True → True → (dn == dn) = true → true = false) : False :=
  absurd (h2 trivial (by simp) (hp (.inr hd)) trivial trivial trivial (by simp)) (by decide)
end
set_option maxRecDepth 20000 in
set_option synthInstance.maxSize 100000 in
set_option synthInstance.maxHeartbeats 4000000 in
theorem keeps_ok {w : World} {xp : Value} {ps : List (List UInt8)} {nick pass user real : List UInt8} {z : Int} {tk dn : Bool} (hp : Arg w xp 1 ps.length (ps.map str)) (hT : Lib.Utf8Tabs 1 2 w) :
    Calls P 9 #[.agg #[.int .i64 z, .bool tk, str pass, str nick, str user, str real, .bool dn], xp] w fun e w' => e = .returned (.bool true) ∧ Hv w [] w' := by
  refine c9 (K := fun v w' => v = .bool true ∧ Hv w [] w') ?_ fun v w' h => ⟨by rw [h.1], h.2⟩
  have o := Hv.begin w
  have tb : Tabs w := ⟨hT⟩
  have one1 : One w xp := inferInstance
  have one2 : ∀ w, One w xp := fun w => ⟨one1.eq⟩
  unfold D9
  repeat' (first | refine go ?_ | intro _ | refine And.intro (Sd.mk (by (first | exact fun _ => True.intro | exact And.intro (fun _ => True.intro) (fun _ _ => True.intro) | (intro hq; (first | exact True.intro | omega | (simp only [and_true]; omega) | (simp only [bl] at hq; (try simp only [and_true]); omega) | fail)) | exact And.intro (fun hq => by first | exact True.intro | omega | (simp only [and_true]; omega) | (simp only [bl] at hq; (try simp only [and_true]); omega) | fail) (fun hq hr => by first | exact True.intro | omega | (simp only [and_true]; omega) | (simp only [bl] at hq hr; omega) | (simp only [bl] at hr; omega) | fail) | fail))) ?_ | refine And.intro (by (first | omega | (unfold InR; omega) | decide | (simp only [ll]; omega))) ?_ | (refine And.intro (fun h1 => ?_) (fun h1 => ?_) <;> first | (exact absurd h1 (by decide)) | ((try rw [h1]); (try simp only [bl] at h1))) | dsimp only)
  · exact ⟨rfl, Sub.hv subEnd⟩
  rename_i bg wg hg og
  have sz0 := hg h1
  have sz : SzS [105, 114, 99, 46, 120] nick pass user real ps := ⟨by decide, sz0.n, sz0.l, sz0.p⟩
  repeat' (first | refine go ?_ | intro _ | refine And.intro (Sd.mk (by (first | exact fun _ => True.intro | exact And.intro (fun _ => True.intro) (fun _ _ => True.intro) | (intro hq; (first | exact True.intro | omega | (simp only [and_true]; omega) | (simp only [bl] at hq; (try simp only [and_true]); omega) | fail)) | exact And.intro (fun hq => by first | exact True.intro | omega | (simp only [and_true]; omega) | (simp only [bl] at hq; (try simp only [and_true]); omega) | fail) (fun hq hr => by first | exact True.intro | omega | (simp only [and_true]; omega) | (simp only [bl] at hq hr; omega) | (simp only [bl] at hr; omega) | fail) | fail))) ?_ | refine And.intro (by (first | omega | (unfold InR; omega) | decide | (simp only [ll]; omega))) ?_ | (refine And.intro (fun h1 => ?_) (fun h1 => ?_) <;> first | (exact absurd h1 (by decide)) | ((try rw [h1]); (try simp only [bl] at h1))) | dsimp only)
  · exact (fin1 (by assumption) (by assumption) h1).elim
  · exfalso; simp at h1
  · exact ⟨fin3 (by assumption) (by assumption), Sub.hv subEnd⟩
  · exact (fin4 (by assumption) (by assumption) (by assumption) h1).elim
  · exact ⟨fin3 (by assumption) (by assumption), Sub.hv subEnd⟩
  · exact (fin6 (by assumption) (by assumption) h1).elim
  · exact (fin7 (by assumption) (by assumption) h1).elim
  · exact ⟨rfl, Sub.hv subEnd⟩
end Go.Proofs.YtapammcnagjigaaDoor

