import Derived.Test.YtapammcnagjigaaDoorTaN
import Derived.Test.YtapammcnagjigaaDoorSq
set_option linter.all false
namespace Go.Proofs.YtapammcnagjigaaDoor
open Go.Vx Go.Lib
theorem goQ_fits (ps : List (List UInt8)) (n : Nat) (hp : ∀ p ∈ ps, p.length ≤ n) : ∀ out r, goQ out ps = some r → (∀ t ∈ out, t.1.length ≤ n ∧ t.2.length ≤ n) → ∀ t ∈ r, t.1.length ≤ n ∧ t.2.length ≤ n := by
  induction ps with
  | nil => intro out r h hg; rw [goQ] at h; cases h; exact hg
  | cons p ps ih =>
    intro out r h hg
    rw [goQ] at h
    split at h
    · cases h
    · refine ih (fun q hq => hp q (List.mem_cons_of_mem _ hq)) _ _ h fun t ht => (insT_mem ht).elim (hg t) fun e => ?_
      subst e
      have h1 := cut_len p 61
      have h2 := unesc_len (cutB p 61).2.1
      have h3 := hp p (List.mem_cons_self ..)
      exact ⟨(show (cutB p 61).1.length ≤ n by omega), (show (unescS (cutB p 61).2.1).length ≤ n by omega)⟩
theorem parse_fits {s : List UInt8} (h : s.length ≤ 1000) : fits (parseT s).1 := by
  refine ⟨by have := parse_few s; omega, fun t ht => ?_⟩
  unfold parseT at ht
  cases hq : goQ [] (splitS 59 s) with
  | none => rw [(goP_err _ _ hq).1] at ht; cases ht
  | some r =>
    have e := goP_some hq
    rw [e] at ht
    split at ht
    · cases ht
    · have := goQ_fits (splitS 59 s) 1000 (fun p hp => by have := split_mem p hp; omega) [] r hq (by simp) t ht
      exact this
theorem getV_cons (t : Tag) (l : List Tag) (n : List UInt8) : getV (t :: l) n = if t.1 = n then (t.2, true) else getV l n := by
  unfold getV
  rw [List.findIdx?_cons]
  by_cases h : t.1 = n
  · simp [h]
  · simp only [h, decide_false, Bool.false_eq_true, if_false]
    cases l.findIdx? fun t => decide (t.1 = n) with
    | none => rfl
    | some i => simp
theorem parse_small {s : List UInt8} (h : s.length ≤ 200) : ∀ t ∈ (parseT s).1, t.1.length ≤ 200 ∧ t.2.length ≤ 200 := by
  intro t ht
  unfold parseT at ht
  cases hq : goQ [] (splitS 59 s) with
  | none => rw [(goP_err _ _ hq).1] at ht; cases ht
  | some r =>
    have e := goP_some hq
    rw [e] at ht
    split at ht
    · cases ht
    · exact goQ_fits (splitS 59 s) 200 (fun p hp => by have := split_mem p hp; omega) [] r hq (by simp) t ht
theorem joinm_len (m : Nat) (ps : List (List UInt8)) (h : ∀ p ∈ ps, p.length ≤ m) : (joinT ps).length ≤ (m + 1) * ps.length := by
  induction ps with
  | nil => simp [joinT, List.intercalate]
  | cons p ps ih =>
    have h1 := h p (List.mem_cons_self ..)
    have h2 := ih fun q hq => h q (List.mem_cons_of_mem _ hq)
    cases ps with
    | nil => simp [joinT, List.intercalate]; omega
    | cons q ps =>
      simp only [joinT, List.intercalate, List.intersperse_cons_cons, List.flatten_cons, List.length_append, List.length_cons, List.length_nil] at h2 ⊢
      rw [Nat.mul_add] at h2 ⊢
      rw [Nat.mul_add]
      omega
theorem text_len {l : List Tag} (hl : l.length ≤ 20) (h : ∀ t ∈ l, t.1.length ≤ 200 ∧ t.2.length ≤ 200) : (textT l).length ≤ 20000 := by
  unfold textT
  split
  · simp
  · have := joinm_len 601 (l.map pieceT) fun p hp => by
      obtain ⟨t, ht, rfl⟩ := List.mem_map.1 hp
      have h1 := h t ht
      have := escS_len t.2
      unfold pieceT; split <;> simp <;> omega
    rw [List.length_map] at this
    omega
section
set_option maxRecDepth 20000
set_option synthInstance.maxSize 100000
set_option synthInstance.maxHeartbeats 4000000
theorem tag_one (y : Tag) : ∀ u ∈ encT y, u.oneCell' = true := fun u hu => by
  simp only [encT, List.mem_cons, List.not_mem_nil, or_false] at hu
  rcases hu with rfl | rfl <;> rfl
theorem tag_each {H : Type} {enc : TypeId × Value → H} {W : World} {sp : Nat → Bool} {held : Bool} {fuel : Nat} {cs : List Value} {x : DataW H × List MemPlace} (h : DataW.trod enc Tryd.prog W 0 sp held fuel 71 cs = some x) (hl : cs.length = 2) : ∃ y : Tag, cs = encT y ∧ (y.1.length ∈ x.1.weights Tryd.prog 71 ∧ y.2.length ∈ x.1.weights Tryd.prog 71) := by
  obtain ⟨a, e0, w0⟩ := struct_strW (i := 0) Tryd.underlying71 h rfl Tryd.underlying9 (by kernel_rfl)
  obtain ⟨b, e1, w1⟩ := struct_strW (i := 1) Tryd.underlying71 h rfl Tryd.underlying9 (by kernel_rfl)
  refine ⟨(a.data.toList, b.data.toList), list_of_at (by rw [hl]; rfl) fun i hi => ?_, w0, w1⟩
  match i, hi with
  | 0, _ => exact e0.trans (congrArg some (str_of a).symm)
  | 1, _ => exact e1.trans (congrArg some (str_of b).symm)
  | n + 2, hi => exact absurd hi (by simp)
end
end Go.Proofs.YtapammcnagjigaaDoor
