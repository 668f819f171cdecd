import Derived.Test.YtogoaohhaiggpaaPulI
set_option linter.all false
namespace Go.Proofs.Ytogoaohhaiggpaa
open Go.Vx
/-! PulseNone -/
section
set_option maxRecDepth 20000
set_option synthInstance.maxSize 100000
set_option synthInstance.maxHeartbeats 4000000
section
variable {K : Value → St → Prop} {w0 w : World} {H R : List SL} {ds : List Deferred} {x y : Value}
instance njoin_ok [o : Hv w0 H w] : Step (Cl P 8 #[.pointer none, x, y] K ⟨w, ds⟩) (∀ v w', Hv w0 H w' → K v ⟨w', ds⟩) := ⟨fun h => by
  refine s8 ?_
  unfold D8
  repeat' (first | refine go ?_ | intro _ | refine ⟨sb, ?_⟩ | refine ⟨sd, ?_⟩ | (refine ⟨fun h1 => ?_, fun h1 => ?_⟩ <;> first | exact ab h1 | ((try rw [h1]); (try simp only [bl] at h1))) | dsimp only)
  exact h _ _ o⟩
instance nreg_ok [o : Hv w0 H w] : Step (Cl P 9 #[.pointer none, x, y] K ⟨w, ds⟩) (∀ v w', Hv w0 H w' → K v ⟨w', ds⟩) := ⟨fun h => by
  refine s9 ?_
  unfold D9
  repeat' (first | refine go ?_ | intro _ | refine ⟨sb, ?_⟩ | refine ⟨sd, ?_⟩ | (refine ⟨fun h1 => ?_, fun h1 => ?_⟩ <;> first | exact ab h1 | ((try rw [h1]); (try simp only [bl] at h1))) | dsimp only)
  exact h _ _ o⟩
instance nline_ok [o : Hv w0 H w] : Step (Cl P 10 #[.pointer none, x, y] K ⟨w, ds⟩) (∀ v w', Hv w0 H w' → K v ⟨w', ds⟩) := ⟨fun h => by
  refine s10 ?_
  unfold D10
  repeat' (first | refine go ?_ | intro _ | refine ⟨sb, ?_⟩ | refine ⟨sd, ?_⟩ | (refine ⟨fun h1 => ?_, fun h1 => ?_⟩ <;> first | exact ab h1 | ((try rw [h1]); (try simp only [bl] at h1))) | dsimp only)
  exact h _ _ o⟩
instance nleave_ok [o : Hv w0 H w] : Step (Cl P 14 #[.pointer none, x] K ⟨w, ds⟩) (∀ v w', Hv w0 H w' → K v ⟨w', ds⟩) := ⟨fun h => by
  refine s14 ?_
  unfold D14
  repeat' (first | refine go ?_ | intro _ | refine ⟨sb, ?_⟩ | refine ⟨sd, ?_⟩ | (refine ⟨fun h1 => ?_, fun h1 => ?_⟩ <;> first | exact ab h1 | ((try rw [h1]); (try simp only [bl] at h1))) | dsimp only)
  exact h _ _ o⟩
instance nidle_ok [o : Hv w0 H w] : Step (Cl P 19 #[.pointer none, x, y] K ⟨w, ds⟩) (∀ w', Hv w0 H w' → K (.tuple #[.int .i64 0, .bool false]) ⟨w', ds⟩) := ⟨fun h => by
  refine s19 ?_
  unfold D19
  repeat' (first | refine go ?_ | intro _ | refine ⟨sb, ?_⟩ | refine ⟨sd, ?_⟩ | (refine ⟨fun h1 => ?_, fun h1 => ?_⟩ <;> first | exact ab h1 | ((try rw [h1]); (try simp only [bl] at h1))) | dsimp only)
  exact h _ o⟩
variable {now : Int}
instance ndue_ok [o : Hv w0 H w] : Step (Cl P 11 #[.pointer none, .int .i64 now] K ⟨w, ds⟩) (∀ w', Hv w0 H w' → K (.func (.func 25) #[] #[]) ⟨w', ds⟩) := ⟨fun h => by
  refine s11 ?_
  unfold D11
  repeat' (first | refine go ?_ | intro _ | refine ⟨sb, ?_⟩ | refine ⟨sd, ?_⟩ | (refine ⟨fun h1 => ?_, fun h1 => ?_⟩ <;> first | exact ab h1 | ((try rw [h1]); (try simp only [bl] at h1))) | dsimp only)
  exact h _ (Sub.hv subEnd)⟩
theorem nil_seq {T : List SL} {α : Type} {enc : α → List Value} : SeqOf P w0 (.func (.func 25) #[] #[]) T enc [] := by
  intro y J X w ds K o hy hk hx
  refine go ?_
  refine s25 ?_
  unfold D25
  refine go ?_
  exact hk _ _ o
instance nsame_ok [o : Hv w0 H w] : Step (Cl P 16 #[.pointer none, .slice none 0 0, .int .i64 now] K ⟨w, ds⟩) (∀ w', Hv w0 H w' → K (.bool true) ⟨w', ds⟩) := ⟨fun h => by
  refine s16 ?_
  unfold D16
  repeat' (first | refine go ?_ | intro _ | refine ⟨sb, ?_⟩ | refine ⟨sd, ?_⟩ | (refine ⟨fun h1 => ?_, fun h1 => ?_⟩ <;> first | exact ab h1 | ((try rw [h1]); (try simp only [bl] at h1))) | dsimp only)
  rename_i bw w1 o1 br w2 o2 bn w3 o3 w4 o4 bg w5 o5 w6 o6 w7 o7
  clear o o1 o2 o3 o4 o5 o6
  refine rf_go (w0 := w0) H (fun _ => many [box bg 4 [.bool true], box bn 3 [.int .i64 0], box br 4 [.bool false], box bw 42 [.slice none 0 0]]) (fun _ => lift False) (fun _ _ => lift False) (nil_seq (α := It) (enc := encIt)) (fun _ => rfl) ?_ ?_ ?_ (fun b i x w' _ h => h.lifted.elim) (fun b j i x w' _ h => h.lifted.elim)
  · exact Sub.hv <| Sub.many <| subBox rfl <| subBox rfl <| subBox rfl <| subBox rfl subEnd
  · intro b l rc R F w i x hi
    simp at hi
  · intro b w8 o8
    have o9 := o8.opens
    simp only [List.cons_append, List.nil_append] at o9
    clear o7 o8
    repeat' (first | refine go ?_ | intro _ | refine ⟨sb, ?_⟩ | refine ⟨sd, ?_⟩ | (refine ⟨fun h1 => ?_, fun h1 => ?_⟩ <;> first | exact ab h1 | ((try rw [h1]); (try simp only [bl] at h1))) | dsimp only)
    exact h _ (Sub.hv subEnd)⟩
end
theorem pnone_ok {w : World} (rg : UInt8) (id : Int) : Calls P 5 #[byteV rg, .int .i64 id] w fun e w' => e = .returned (.bool true) ∧ Hv w [] w' := by
  have o := Hv.begin w
  have ha : 0 ≤ (rg.toNat : Int).tmod 20 ∧ (rg.toNat : Int).tmod 20 ≤ 19 := ⟨Int.tmod_nonneg _ (by omega), by have := Int.tmod_lt_of_pos (rg.toNat : Int) (show (0 : Int) < 20 by omega); omega⟩
  have k0 := ok_new 1 1 (1 + (rg.toNat : Int).tmod 20) (by omega) (by omega) (by omega)
  have k1 := k0.join (by omega) id
  have f0 := k0.fit
  have f1 := k1.fit
  refine law_of ?_
  refine s5 ?_
  unfold D5
  repeat (first | refine go ?_ | intro _ | refine ⟨sb, ?_⟩ | refine ⟨sd, ?_⟩ | dsimp only)
  refine ⟨fun e => by simp at e, fun _ => ?_⟩
  repeat (first | refine go ?_ | intro _ | refine ⟨sb, ?_⟩ | refine ⟨sd, ?_⟩ | dsimp only)
  generalize hA : 1 + (rg.toNat : Int).tmod 20 = A at *
  have k1' : Ok _ ⟨1, 1, A, [(id, 0, false, false)]⟩ 0 1 := k1
  clear k1
  generalize hx1 : Pst.join _ id 0 = x1 at k1' f1
  have hline : ∀ t, x1.line id t = x1 := fun t => by
    have := ((k1'.rel.ins (id, 0, false, false) (by simp)).out rfl).2.2
    unfold Pst.line; rw [this]; rfl
  have d0 : ∀ t, dueC ⟨1, 1, A, [(id, 0, false, false)]⟩ t (id, 0, false, false) = if A ≤ t then 1 else 0 := fun t => by
    unfold dueC; simp
  have a0 : ∀ t, askC ⟨1, 1, A, [(id, 0, false, false)]⟩ t (id, 0, false, false) = (id, 0, false, false) := fun t => by
    unfold askC; rw [d0, if_neg]
    by_cases h : A ≤ t <;> simp [h]
  have due : ∀ {x : Pst} {t : Int} {n : Nat}, Ok x ⟨1, 1, A, [(id, 0, false, false)]⟩ t n → n < 1000 → Ok (x.due t) ⟨1, 1, A, [(id, 0, false, false)]⟩ t (n + 1) := fun {x t n} h hn => by
    have h2 : Ok (x.due t) ⟨1, 1, A, [askC ⟨1, 1, A, [(id, 0, false, false)]⟩ t (id, 0, false, false)]⟩ t (n + 1) := h.due hn
    rwa [a0] at h2
  have k2 := k1'.later (now' := A - 1) (m := 1) (by omega) (by omega) (by omega) (by omega)
  have k3 := due k2 (by omega)
  have k4 := k3.later (now' := A) (m := 2) (by omega) (by omega) (by omega) (by omega)
  have k5 := due k4 (by omega)
  have k6 := k5.later (now' := A + 1) (m := 3) (by omega) (by omega) (by omega) (by omega)
  have f3 := k3.fit
  have f5 := k5.fit
  have g1 := fun l hd => (due_one (l := l) k2.rel rfl hd).trans (show _ = ([] : List It) by rw [d0, if_neg (show ¬ A ≤ A - 1 by omega)]; rfl)
  have g2 := fun l hd => (due_one (l := l) k4.rel rfl hd).trans (show _ = [(id, (1 : Int))] by rw [d0, if_pos (Int.le_refl A)]; rfl)
  have g3 := fun l hd => (due_one (l := l) k6.rel rfl hd).trans (show _ = [(id, (1 : Int))] by rw [d0, if_pos (show A ≤ A + 1 by omega)]; rfl)
  clear k0 k1' k2 k3 k4 k5 k6
  rename_i p wA vB wB vC wC oA oB oC
  rw [hx1, hline] at oC
  clear oA oB o
  have i1 : InR (A - 1) := by unfold InR; omega
  have i2 : InR A := by unfold InR; omega
  have i3 : InR (A + 1) := by unfold InR; omega
  repeat' (first | refine go ?_ | intro _ | refine ⟨sb, ?_⟩ | refine ⟨sd, ?_⟩ | (refine ⟨fun h1 => ?_, fun h1 => ?_⟩ <;> first | exact ab h1 | ((try rw [h1]); (try simp only [bl] at h1))) | dsimp only)
  · rw [decide_eq_true (g3 _ (by assumption))]
    exact ⟨rfl, Sub.hv subEnd⟩
  · exact absurd (g2 _ (by assumption)) h1
  · exact absurd (g1 _ (by assumption)) h1
end
end Go.Proofs.Ytogoaohhaiggpaa

