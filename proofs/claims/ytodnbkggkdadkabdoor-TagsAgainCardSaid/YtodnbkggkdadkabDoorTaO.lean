import Derived.Test.YtodnbkggkdadkabDoorTaN
import Derived.Test.YtodnbkggkdadkabDoorSq
set_option linter.all false
namespace Go.Proofs.YtodnbkggkdadkabDoor
open Go.Vx Go.Lib
theorem goQ_fits (ps : List (List UInt8)) (n : Nat) (hp : ∀ p ∈ ps, p.length ≤ n) : ∀ out r, goQ out ps = some r → (∀ t ∈ out, t.1.length ≤ n ∧ t.2.length ≤ n) → ∀ t ∈ r, t.1.length ≤ n ∧ t.2.length ≤ n := by
  induction ps with
  | nil => intro out r h hg; rw [goQ] at h; cases h; exact hg
  | cons p ps ih =>
    intro out r h hg
    rw [goQ] at h
    split at h
    · cases h
    · refine ih (fun q hq => hp q (List.mem_cons_of_mem _ hq)) _ _ h fun t ht => (insT_mem ht).elim (hg t) fun e => ?_
      subst e
      have h1 := cut_len p 61
      have h2 := unesc_len (cutB p 61).2.1
      have h3 := hp p (List.mem_cons_self ..)
      exact ⟨(show (cutB p 61).1.length ≤ n by omega), (show (unescS (cutB p 61).2.1).length ≤ n by omega)⟩
theorem parse_fits {s : List UInt8} (h : s.length ≤ 1000) : fits (parseT s).1 := by
  refine ⟨by have := parse_few s; omega, fun t ht => ?_⟩
  unfold parseT at ht
  cases hq : goQ [] (splitS 59 s) with
  | none => rw [(goP_err _ _ hq).1] at ht; cases ht
  | some r =>
    have e := goP_some hq
    rw [e] at ht
    split at ht
    · cases ht
    · have := goQ_fits (splitS 59 s) 1000 (fun p hp => by have := split_mem p hp; omega) [] r hq (by simp) t ht
      exact this
theorem getV_cons (t : Tag) (l : List Tag) (n : List UInt8) : getV (t :: l) n = if t.1 = n then (t.2, true) else getV l n := by
  unfold getV
  rw [List.findIdx?_cons]
  by_cases h : t.1 = n
  · simp [h]
  · simp only [h, decide_false, Bool.false_eq_true, if_false]
    cases l.findIdx? fun t => decide (t.1 = n) with
    | none => rfl
    | some i => simp
theorem parse_small {s : List UInt8} (h : s.length ≤ 200) : ∀ t ∈ (parseT s).1, t.1.length ≤ 200 ∧ t.2.length ≤ 200 := by
  intro t ht
  unfold parseT at ht
  cases hq : goQ [] (splitS 59 s) with
  | none => rw [(goP_err _ _ hq).1] at ht; cases ht
  | some r =>
    have e := goP_some hq
    rw [e] at ht
    split at ht
    · cases ht
    · exact goQ_fits (splitS 59 s) 200 (fun p hp => by have := split_mem p hp; omega) [] r hq (by simp) t ht
theorem joinm_len (m : Nat) (ps : List (List UInt8)) (h : ∀ p ∈ ps, p.length ≤ m) : (joinT ps).length ≤ (m + 1) * ps.length := by
  induction ps with
  | nil => simp [joinT, List.intercalate]
  | cons p ps ih =>
    have h1 := h p (List.mem_cons_self ..)
    have h2 := ih fun q hq => h q (List.mem_cons_of_mem _ hq)
    cases ps with
    | nil => simp [joinT, List.intercalate]; omega
    | cons q ps =>
      simp only [joinT, List.intercalate, List.intersperse_cons_cons, List.flatten_cons, List.length_append, List.length_cons, List.length_nil] at h2 ⊢
      rw [Nat.mul_add] at h2 ⊢
      rw [Nat.mul_add]
      omega
theorem text_len {l : List Tag} (hl : l.length ≤ 20) (h : ∀ t ∈ l, t.1.length ≤ 200 ∧ t.2.length ≤ 200) : (textT l).length ≤ 20000 := by
  unfold textT
  split
  · simp
  · have := joinm_len 601 (l.map pieceT) fun p hp => by
      obtain ⟨t, ht, rfl⟩ := List.mem_map.1 hp
      have h1 := h t ht
      have := escS_len t.2
      unfold pieceT; split <;> simp <;> omega
    rw [List.length_map] at this
    omega
section
set_option maxRecDepth 20000
set_option synthInstance.maxSize 100000
set_option synthInstance.maxHeartbeats 4000000
theorem tagain_ok {w : World} (l : List UInt8) : Calls P 7 #[str l] w fun e w' => e = .returned (.bool true) ∧ Hv w [] w' := by
  refine c7 (K := fun v w' => v = .bool true ∧ Hv w [] w') ?_ fun v w' h => ⟨by rw [h.1], h.2⟩
  have o := Hv.begin w
  have f1 := parse_few l
  unfold D7
  dsimp only
  repeat' (first | refine go ?_ | intro _ | refine And.intro (Sd.mk (by (first | exact fun _ => True.intro | exact And.intro (fun _ => True.intro) (fun _ _ => True.intro) | (intro hq; (first | exact True.intro | omega | (simp only [and_true]; omega) | (simp only [Bool.not_eq_true', Bool.not_eq_false', decide_eq_true_eq, decide_eq_false_iff_not, Bool.and_eq_true, Bool.or_eq_true, Bool.or_eq_false_iff, Bool.and_eq_false_imp, Int.not_lt, Int.not_le, Nat.not_lt, Nat.not_le] at hq; (try simp only [and_true]); omega) | fail)) | exact And.intro (fun hq => by first | exact True.intro | omega | (simp only [and_true]; omega) | (simp only [Bool.not_eq_true', Bool.not_eq_false', decide_eq_true_eq, decide_eq_false_iff_not, Bool.and_eq_true, Bool.or_eq_true, Bool.or_eq_false_iff, Bool.and_eq_false_imp, Int.not_lt, Int.not_le, Nat.not_lt, Nat.not_le] at hq; (try simp only [and_true]); omega) | fail) (fun hq hr => by first | exact True.intro | omega | (simp only [and_true]; omega) | (simp only [Bool.not_eq_true', Bool.not_eq_false', decide_eq_true_eq, decide_eq_false_iff_not, Bool.and_eq_true, Bool.or_eq_true, Bool.or_eq_false_iff, Bool.and_eq_false_imp, Int.not_lt, Int.not_le, Nat.not_lt, Nat.not_le] at hq hr; omega) | (simp only [Bool.not_eq_true', Bool.not_eq_false', decide_eq_true_eq, decide_eq_false_iff_not, Bool.and_eq_true, Bool.or_eq_true, Bool.or_eq_false_iff, Bool.and_eq_false_imp, Int.not_lt, Int.not_le, Nat.not_lt, Nat.not_le] at hr; omega) | fail) | fail))) ?_ | refine And.intro (by (first | omega | (unfold InR; omega) | decide | (simp only [List.length_append, List.length_map, List.length_take, List.length_drop, List.length_replicate, List.length_cons, List.length_nil, List.length_set]; omega))) ?_ | (refine And.intro (fun h1 => ?_) (fun h1 => ?_) <;> first | (exact absurd h1 (by decide)) | ((try rw [h1]); (try simp only [Bool.not_eq_true', Bool.not_eq_false', decide_eq_true_eq, decide_eq_false_iff_not, Bool.and_eq_true, Bool.or_eq_true, Bool.or_eq_false_iff, Bool.and_eq_false_imp, Int.not_lt, Int.not_le, Nat.not_lt, Nat.not_le] at h1))) | dsimp only)
  · exact ⟨rfl, Sub.hv subEnd⟩
  · rw [parse_none h1]; exact ⟨rfl, Sub.hv subEnd⟩
  · have h0 := h1
    have hck := parse_check h0
    have hbt := back_text hck
    have htl := text_len (by omega) (parse_small (s := l) (by omega))
    have hfi := parse_fits (s := l) (by omega)
    have hm : ∀ t ∈ (parseT l).1, t.1.length ≤ 1000000 ∧ t.2.length ≤ 1000000 := fun t ht => by have := hfi.2 t ht; omega
    refine And.intro hfi ?_
    intro w1 o1
    refine go (And.intro htl ?_)
    rw [hbt]
    intro v2 w2 o2
    dsimp only
    repeat' (first | refine go ?_ | intro _ | refine And.intro (Sd.mk (by (first | exact fun _ => True.intro | exact And.intro (fun _ => True.intro) (fun _ _ => True.intro) | (intro hq; (first | exact True.intro | omega | (simp only [and_true]; omega) | (simp only [Bool.not_eq_true', Bool.not_eq_false', decide_eq_true_eq, decide_eq_false_iff_not, Bool.and_eq_true, Bool.or_eq_true, Bool.or_eq_false_iff, Bool.and_eq_false_imp, Int.not_lt, Int.not_le, Nat.not_lt, Nat.not_le] at hq; (try simp only [and_true]); omega) | fail)) | exact And.intro (fun hq => by first | exact True.intro | omega | (simp only [and_true]; omega) | (simp only [Bool.not_eq_true', Bool.not_eq_false', decide_eq_true_eq, decide_eq_false_iff_not, Bool.and_eq_true, Bool.or_eq_true, Bool.or_eq_false_iff, Bool.and_eq_false_imp, Int.not_lt, Int.not_le, Nat.not_lt, Nat.not_le] at hq; (try simp only [and_true]); omega) | fail) (fun hq hr => by first | exact True.intro | omega | (simp only [and_true]; omega) | (simp only [Bool.not_eq_true', Bool.not_eq_false', decide_eq_true_eq, decide_eq_false_iff_not, Bool.and_eq_true, Bool.or_eq_true, Bool.or_eq_false_iff, Bool.and_eq_false_imp, Int.not_lt, Int.not_le, Nat.not_lt, Nat.not_le] at hq hr; omega) | (simp only [Bool.not_eq_true', Bool.not_eq_false', decide_eq_true_eq, decide_eq_false_iff_not, Bool.and_eq_true, Bool.or_eq_true, Bool.or_eq_false_iff, Bool.and_eq_false_imp, Int.not_lt, Int.not_le, Nat.not_lt, Nat.not_le] at hr; omega) | fail) | fail))) ?_ | refine And.intro (by (first | omega | (unfold InR; omega) | decide | (simp only [List.length_append, List.length_map, List.length_take, List.length_drop, List.length_replicate, List.length_cons, List.length_nil, List.length_set]; omega))) ?_ | (refine And.intro (fun h1 => ?_) (fun h1 => ?_) <;> first | (exact absurd h1 (by decide)) | ((try rw [h1]); (try simp only [Bool.not_eq_true', Bool.not_eq_false', decide_eq_true_eq, decide_eq_false_iff_not, Bool.and_eq_true, Bool.or_eq_true, Bool.or_eq_false_iff, Bool.and_eq_false_imp, Int.not_lt, Int.not_le, Nat.not_lt, Nat.not_le] at h1))) | dsimp only)
    · refine And.intro ⟨by omega, hm⟩ ?_
      repeat' (first | refine go ?_ | intro _ | refine And.intro (Sd.mk (by (first | exact fun _ => True.intro | exact And.intro (fun _ => True.intro) (fun _ _ => True.intro) | (intro hq; (first | exact True.intro | omega | (simp only [and_true]; omega) | (simp only [Bool.not_eq_true', Bool.not_eq_false', decide_eq_true_eq, decide_eq_false_iff_not, Bool.and_eq_true, Bool.or_eq_true, Bool.or_eq_false_iff, Bool.and_eq_false_imp, Int.not_lt, Int.not_le, Nat.not_lt, Nat.not_le] at hq; (try simp only [and_true]); omega) | fail)) | exact And.intro (fun hq => by first | exact True.intro | omega | (simp only [and_true]; omega) | (simp only [Bool.not_eq_true', Bool.not_eq_false', decide_eq_true_eq, decide_eq_false_iff_not, Bool.and_eq_true, Bool.or_eq_true, Bool.or_eq_false_iff, Bool.and_eq_false_imp, Int.not_lt, Int.not_le, Nat.not_lt, Nat.not_le] at hq; (try simp only [and_true]); omega) | fail) (fun hq hr => by first | exact True.intro | omega | (simp only [and_true]; omega) | (simp only [Bool.not_eq_true', Bool.not_eq_false', decide_eq_true_eq, decide_eq_false_iff_not, Bool.and_eq_true, Bool.or_eq_true, Bool.or_eq_false_iff, Bool.and_eq_false_imp, Int.not_lt, Int.not_le, Nat.not_lt, Nat.not_le] at hq hr; omega) | (simp only [Bool.not_eq_true', Bool.not_eq_false', decide_eq_true_eq, decide_eq_false_iff_not, Bool.and_eq_true, Bool.or_eq_true, Bool.or_eq_false_iff, Bool.and_eq_false_imp, Int.not_lt, Int.not_le, Nat.not_lt, Nat.not_le] at hr; omega) | fail) | fail))) ?_ | refine And.intro (by (first | omega | (unfold InR; omega) | decide | (simp only [List.length_append, List.length_map, List.length_take, List.length_drop, List.length_replicate, List.length_cons, List.length_nil, List.length_set]; omega))) ?_ | (refine And.intro (fun h1 => ?_) (fun h1 => ?_) <;> first | (exact absurd h1 (by decide)) | ((try rw [h1]); (try simp only [Bool.not_eq_true', Bool.not_eq_false', decide_eq_true_eq, decide_eq_false_iff_not, Bool.and_eq_true, Bool.or_eq_true, Bool.or_eq_false_iff, Bool.and_eq_false_imp, Int.not_lt, Int.not_le, Nat.not_lt, Nat.not_le] at h1))) | dsimp only)
      exact ⟨by rw [hck]; rfl, Sub.hv subEnd⟩
    · first
        | exact (h1 trivial).elim
        | exact (h1 rfl).elim
theorem tag_one (y : Tag) : ∀ u ∈ encT y, u.oneCell' = true := fun u hu => by
  simp only [encT, List.mem_cons, List.not_mem_nil, or_false] at hu
  rcases hu with rfl | rfl <;> rfl
theorem tag_each {H : Type} {enc : TypeId × Value → H} {W : World} {sp : Nat → Bool} {held : Bool} {fuel : Nat} {cs : List Value} {x : DataW H × List MemPlace} (h : DataW.trod enc Tryd.prog W 0 sp held fuel 44 cs = some x) (hl : cs.length = 2) : ∃ y : Tag, cs = encT y ∧ (y.1.length ∈ x.1.weights Tryd.prog 44 ∧ y.2.length ∈ x.1.weights Tryd.prog 44) := by
  obtain ⟨a, e0, w0⟩ := struct_strW (i := 0) Tryd.underlying44 h rfl Tryd.underlying9 (by kernel_rfl)
  obtain ⟨b, e1, w1⟩ := struct_strW (i := 1) Tryd.underlying44 h rfl Tryd.underlying9 (by kernel_rfl)
  refine ⟨(a.data.toList, b.data.toList), list_of_at (by rw [hl]; rfl) fun i hi => ?_, w0, w1⟩
  match i, hi with
  | 0, _ => exact e0.trans (congrArg some (str_of a).symm)
  | 1, _ => exact e1.trans (congrArg some (str_of b).symm)
  | n + 2, hi => exact absurd hi (by simp)
theorem ttexts_ok {w : World} {v : Value} {xs : List Tag} (nm : List UInt8) (hp : Arg w v 2 xs.length (xs.flatMap encT)) (hsz : ∀ t ∈ xs, t.1.length ≤ 140737488351232 ∧ t.2.length ≤ 140737488351232) : Calls P 6 #[v, str nm] w fun e w' => e = .returned (.bool true) ∧ Hv w [] w' := by
  refine c6 (K := fun v w' => v = .bool true ∧ Hv w [] w') ?_ fun v w' h => ⟨by rw [h.1], h.2⟩
  have o := Hv.begin w
  unfold D6
  dsimp only
  have hxl : xs.length ≤ 9223372036854775807 := hp.le
  repeat' (first | refine go ?_ | intro _ | refine And.intro (Sd.mk (by (first | exact fun _ => True.intro | exact And.intro (fun _ => True.intro) (fun _ _ => True.intro) | (intro hq; (first | exact True.intro | omega | (simp only [and_true]; omega) | (simp only [Bool.not_eq_true', Bool.not_eq_false', decide_eq_true_eq, decide_eq_false_iff_not, Bool.and_eq_true, Bool.or_eq_true, Bool.or_eq_false_iff, Bool.and_eq_false_imp, Int.not_lt, Int.not_le, Nat.not_lt, Nat.not_le] at hq; (try simp only [and_true]); omega) | fail)) | exact And.intro (fun hq => by first | exact True.intro | omega | (simp only [and_true]; omega) | (simp only [Bool.not_eq_true', Bool.not_eq_false', decide_eq_true_eq, decide_eq_false_iff_not, Bool.and_eq_true, Bool.or_eq_true, Bool.or_eq_false_iff, Bool.and_eq_false_imp, Int.not_lt, Int.not_le, Nat.not_lt, Nat.not_le] at hq; (try simp only [and_true]); omega) | fail) (fun hq hr => by first | exact True.intro | omega | (simp only [and_true]; omega) | (simp only [Bool.not_eq_true', Bool.not_eq_false', decide_eq_true_eq, decide_eq_false_iff_not, Bool.and_eq_true, Bool.or_eq_true, Bool.or_eq_false_iff, Bool.and_eq_false_imp, Int.not_lt, Int.not_le, Nat.not_lt, Nat.not_le] at hq hr; omega) | (simp only [Bool.not_eq_true', Bool.not_eq_false', decide_eq_true_eq, decide_eq_false_iff_not, Bool.and_eq_true, Bool.or_eq_true, Bool.or_eq_false_iff, Bool.and_eq_false_imp, Int.not_lt, Int.not_le, Nat.not_lt, Nat.not_le] at hr; omega) | fail) | fail))) ?_ | refine And.intro (by (first | omega | (unfold InR; omega) | decide | (simp only [List.length_append, List.length_map, List.length_take, List.length_drop, List.length_replicate, List.length_cons, List.length_nil, List.length_set]; omega))) ?_ | (refine And.intro (fun h1 => ?_) (fun h1 => ?_) <;> first | (exact absurd h1 (by decide)) | ((try rw [h1]); (try simp only [Bool.not_eq_true', Bool.not_eq_false', decide_eq_true_eq, decide_eq_false_iff_not, Bool.and_eq_true, Bool.or_eq_true, Bool.or_eq_false_iff, Bool.and_eq_false_imp, Int.not_lt, Int.not_le, Nat.not_lt, Nat.not_le] at h1))) | dsimp only)
  · exact ⟨rfl, Sub.hv subEnd⟩
  · rename_i w1 o1 _ hl20
    refine ⟨fun x y z s => ∃ (i : Nat) (w' : World), x = str (getV (xs.drop i) nm).1 ∧ y = .bool (getV (xs.drop i) nm).2 ∧ z = .int .i64 ((i : Int) - 1) ∧ s = ⟨w', []⟩ ∧ i ≤ xs.length ∧ (∀ j, i ≤ j → j < xs.length → (xs.getD j default).1.length + (xs.getD j default).2.length ≤ 60) ∧ Hv w [] w',
      fun _ _ z s => match z with | .int _ z => (z + 1).toNat | _ => 0, ⟨xs.length, w1, by simp [getV], by simp [getV], rfl, rfl, Nat.le_refl _, fun j h1 h2 => by omega, o1⟩, ?_⟩
    rintro x y z s ⟨i, w2, rfl, rfl, rfl, rfl, hi, hsm, o2⟩
    rcases Nat.eq_zero_or_pos i with hz | hpos
    · subst hz
      rw [List.drop_zero]
      have hall : ∀ t ∈ xs, t.1.length + t.2.length ≤ 60 := fun t ht => by
        obtain ⟨j, hj, rfl⟩ := List.getElem_of_mem ht
        have := hsm j (Nat.zero_le _) hj
        rwa [List.getD_eq_getElem?_getD, List.getElem?_eq_getElem hj] at this
      have hfi : fits xs := ⟨by omega, fun t ht => by have := hall t ht; omega⟩
      have hm : ∀ t ∈ xs, t.1.length ≤ 1000000 ∧ t.2.length ≤ 1000000 := fun t ht => by have := hall t ht; omega
      have htl := text_len (l := xs) (by omega) (fun t ht => by have := hall t ht; omega)
      repeat' (first | refine go ?_ | intro _ | refine And.intro (Sd.mk (by (first | exact fun _ => True.intro | exact And.intro (fun _ => True.intro) (fun _ _ => True.intro) | (intro hq; (first | exact True.intro | omega | (simp only [and_true]; omega) | (simp only [Bool.not_eq_true', Bool.not_eq_false', decide_eq_true_eq, decide_eq_false_iff_not, Bool.and_eq_true, Bool.or_eq_true, Bool.or_eq_false_iff, Bool.and_eq_false_imp, Int.not_lt, Int.not_le, Nat.not_lt, Nat.not_le] at hq; (try simp only [and_true]); omega) | fail)) | exact And.intro (fun hq => by first | exact True.intro | omega | (simp only [and_true]; omega) | (simp only [Bool.not_eq_true', Bool.not_eq_false', decide_eq_true_eq, decide_eq_false_iff_not, Bool.and_eq_true, Bool.or_eq_true, Bool.or_eq_false_iff, Bool.and_eq_false_imp, Int.not_lt, Int.not_le, Nat.not_lt, Nat.not_le] at hq; (try simp only [and_true]); omega) | fail) (fun hq hr => by first | exact True.intro | omega | (simp only [and_true]; omega) | (simp only [Bool.not_eq_true', Bool.not_eq_false', decide_eq_true_eq, decide_eq_false_iff_not, Bool.and_eq_true, Bool.or_eq_true, Bool.or_eq_false_iff, Bool.and_eq_false_imp, Int.not_lt, Int.not_le, Nat.not_lt, Nat.not_le] at hq hr; omega) | (simp only [Bool.not_eq_true', Bool.not_eq_false', decide_eq_true_eq, decide_eq_false_iff_not, Bool.and_eq_true, Bool.or_eq_true, Bool.or_eq_false_iff, Bool.and_eq_false_imp, Int.not_lt, Int.not_le, Nat.not_lt, Nat.not_le] at hr; omega) | fail) | fail))) ?_ | refine And.intro (by (first | omega | (unfold InR; omega) | decide | (simp only [List.length_append, List.length_map, List.length_take, List.length_drop, List.length_replicate, List.length_cons, List.length_nil, List.length_set]; omega))) ?_ | (refine And.intro (fun h1 => ?_) (fun h1 => ?_) <;> first | (exact absurd h1 (by decide)) | ((try rw [h1]); (try simp only [Bool.not_eq_true', Bool.not_eq_false', decide_eq_true_eq, decide_eq_false_iff_not, Bool.and_eq_true, Bool.or_eq_true, Bool.or_eq_false_iff, Bool.and_eq_false_imp, Int.not_lt, Int.not_le, Nat.not_lt, Nat.not_le] at h1))) | dsimp only)
      refine And.intro ⟨by omega, hm⟩ ?_
      intro w3 o3
      refine go (And.intro hfi ?_)
      intro w4 o4
      repeat (first | refine go ?_ | intro _ | refine And.intro (Sd.mk (by (first | exact fun _ => True.intro | exact And.intro (fun _ => True.intro) (fun _ _ => True.intro) | (intro hq; (first | exact True.intro | omega | (simp only [and_true]; omega) | (simp only [Bool.not_eq_true', Bool.not_eq_false', decide_eq_true_eq, decide_eq_false_iff_not, Bool.and_eq_true, Bool.or_eq_true, Bool.or_eq_false_iff, Bool.and_eq_false_imp, Int.not_lt, Int.not_le, Nat.not_lt, Nat.not_le] at hq; (try simp only [and_true]); omega) | fail)) | exact And.intro (fun hq => by first | exact True.intro | omega | (simp only [and_true]; omega) | (simp only [Bool.not_eq_true', Bool.not_eq_false', decide_eq_true_eq, decide_eq_false_iff_not, Bool.and_eq_true, Bool.or_eq_true, Bool.or_eq_false_iff, Bool.and_eq_false_imp, Int.not_lt, Int.not_le, Nat.not_lt, Nat.not_le] at hq; (try simp only [and_true]); omega) | fail) (fun hq hr => by first | exact True.intro | omega | (simp only [and_true]; omega) | (simp only [Bool.not_eq_true', Bool.not_eq_false', decide_eq_true_eq, decide_eq_false_iff_not, Bool.and_eq_true, Bool.or_eq_true, Bool.or_eq_false_iff, Bool.and_eq_false_imp, Int.not_lt, Int.not_le, Nat.not_lt, Nat.not_le] at hq hr; omega) | (simp only [Bool.not_eq_true', Bool.not_eq_false', decide_eq_true_eq, decide_eq_false_iff_not, Bool.and_eq_true, Bool.or_eq_true, Bool.or_eq_false_iff, Bool.and_eq_false_imp, Int.not_lt, Int.not_le, Nat.not_lt, Nat.not_le] at hr; omega) | fail) | fail))) ?_ | refine And.intro (by (first | omega | (unfold InR; omega) | decide | (simp only [List.length_append, List.length_map, List.length_take, List.length_drop, List.length_replicate, List.length_cons, List.length_nil, List.length_set]; omega))) ?_ | dsimp only)
      refine And.intro ⟨by omega, hm⟩ ?_
      intro w5 o5
      have f1 := parse_few (textT xs)
      repeat' (first | refine go ?_ | intro _ | refine And.intro (Sd.mk (by (first | exact fun _ => True.intro | exact And.intro (fun _ => True.intro) (fun _ _ => True.intro) | (intro hq; (first | exact True.intro | omega | (simp only [and_true]; omega) | (simp only [Bool.not_eq_true', Bool.not_eq_false', decide_eq_true_eq, decide_eq_false_iff_not, Bool.and_eq_true, Bool.or_eq_true, Bool.or_eq_false_iff, Bool.and_eq_false_imp, Int.not_lt, Int.not_le, Nat.not_lt, Nat.not_le] at hq; (try simp only [and_true]); omega) | fail)) | exact And.intro (fun hq => by first | exact True.intro | omega | (simp only [and_true]; omega) | (simp only [Bool.not_eq_true', Bool.not_eq_false', decide_eq_true_eq, decide_eq_false_iff_not, Bool.and_eq_true, Bool.or_eq_true, Bool.or_eq_false_iff, Bool.and_eq_false_imp, Int.not_lt, Int.not_le, Nat.not_lt, Nat.not_le] at hq; (try simp only [and_true]); omega) | fail) (fun hq hr => by first | exact True.intro | omega | (simp only [and_true]; omega) | (simp only [Bool.not_eq_true', Bool.not_eq_false', decide_eq_true_eq, decide_eq_false_iff_not, Bool.and_eq_true, Bool.or_eq_true, Bool.or_eq_false_iff, Bool.and_eq_false_imp, Int.not_lt, Int.not_le, Nat.not_lt, Nat.not_le] at hq hr; omega) | (simp only [Bool.not_eq_true', Bool.not_eq_false', decide_eq_true_eq, decide_eq_false_iff_not, Bool.and_eq_true, Bool.or_eq_true, Bool.or_eq_false_iff, Bool.and_eq_false_imp, Int.not_lt, Int.not_le, Nat.not_lt, Nat.not_le] at hr; omega) | fail) | fail))) ?_ | refine And.intro (by (first | omega | (unfold InR; omega) | decide | (simp only [List.length_append, List.length_map, List.length_take, List.length_drop, List.length_replicate, List.length_cons, List.length_nil, List.length_set]; omega))) ?_ | (refine And.intro (fun h1 => ?_) (fun h1 => ?_) <;> first | (exact absurd h1 (by decide)) | ((try rw [h1]); (try simp only [Bool.not_eq_true', Bool.not_eq_false', decide_eq_true_eq, decide_eq_false_iff_not, Bool.and_eq_true, Bool.or_eq_true, Bool.or_eq_false_iff, Bool.and_eq_false_imp, Int.not_lt, Int.not_le, Nat.not_lt, Nat.not_le] at h1))) | dsimp only)
      all_goals first
        | (exfalso; simp at h1; done)
        | (exfalso; exact h1 rfl)
        | (exfalso; exact h1 trivial)
        | exact ⟨rfl, Sub.hv subEnd⟩
        | (have hck : checkT xs = 0 := by assumption
           have hbt := back_text hck
           first
             | exact ⟨by rw [hbt]; simp, Sub.hv subEnd⟩
             | (exfalso; rw [hbt] at h1; exact h1 rfl))
    · have hd : xs.drop (i - 1) = xs.getD (i - 1) default :: xs.drop i := by
        rw [List.drop_eq_getElem_cons (by omega)]
        congr 1
        · simp [show i - 1 < xs.length by omega]
        · rw [show i - 1 + 1 = i by omega]
      have hen : ((i : Int) - 1).toNat = i - 1 := by omega
      have hs2 := hsz (xs.getD (i - 1) default) (getD_mem (by omega))
      obtain ⟨m1, m2⟩ := hs2
      have hg := getV_cons (xs.getD (i - 1) default) (xs.drop i) nm
      rw [← hd] at hg
      repeat' (first | refine go ?_ | intro _ | refine And.intro (Sd.mk (by (first | exact fun _ => True.intro | exact And.intro (fun _ => True.intro) (fun _ _ => True.intro) | (intro hq; (first | exact True.intro | omega | (simp only [and_true]; omega) | (simp only [Bool.not_eq_true', Bool.not_eq_false', decide_eq_true_eq, decide_eq_false_iff_not, Bool.and_eq_true, Bool.or_eq_true, Bool.or_eq_false_iff, Bool.and_eq_false_imp, Int.not_lt, Int.not_le, Nat.not_lt, Nat.not_le] at hq; (try simp only [and_true]); omega) | fail)) | exact And.intro (fun hq => by first | exact True.intro | omega | (simp only [and_true]; omega) | (simp only [Bool.not_eq_true', Bool.not_eq_false', decide_eq_true_eq, decide_eq_false_iff_not, Bool.and_eq_true, Bool.or_eq_true, Bool.or_eq_false_iff, Bool.and_eq_false_imp, Int.not_lt, Int.not_le, Nat.not_lt, Nat.not_le] at hq; (try simp only [and_true]); omega) | fail) (fun hq hr => by first | exact True.intro | omega | (simp only [and_true]; omega) | (simp only [Bool.not_eq_true', Bool.not_eq_false', decide_eq_true_eq, decide_eq_false_iff_not, Bool.and_eq_true, Bool.or_eq_true, Bool.or_eq_false_iff, Bool.and_eq_false_imp, Int.not_lt, Int.not_le, Nat.not_lt, Nat.not_le] at hq hr; omega) | (simp only [Bool.not_eq_true', Bool.not_eq_false', decide_eq_true_eq, decide_eq_false_iff_not, Bool.and_eq_true, Bool.or_eq_true, Bool.or_eq_false_iff, Bool.and_eq_false_imp, Int.not_lt, Int.not_le, Nat.not_lt, Nat.not_le] at hr; omega) | fail) | fail))) ?_ | refine And.intro (by (first | omega | (unfold InR; omega) | decide | (simp only [List.length_append, List.length_map, List.length_take, List.length_drop, List.length_replicate, List.length_cons, List.length_nil, List.length_set]; omega))) ?_ | (refine And.intro (fun h1 => ?_) (fun h1 => ?_) <;> first | (exact absurd h1 (by decide)) | ((try rw [h1]); (try simp only [Bool.not_eq_true', Bool.not_eq_false', decide_eq_true_eq, decide_eq_false_iff_not, Bool.and_eq_true, Bool.or_eq_true, Bool.or_eq_false_iff, Bool.and_eq_false_imp, Int.not_lt, Int.not_le, Nat.not_lt, Nat.not_le] at h1))) | dsimp only)
      · rw [hen]
        refine And.intro (by unfold InR; omega) ?_
        repeat' (first | refine go ?_ | intro _ | refine And.intro (Sd.mk (by (first | exact fun _ => True.intro | exact And.intro (fun _ => True.intro) (fun _ _ => True.intro) | (intro hq; (first | exact True.intro | omega | (simp only [and_true]; omega) | (simp only [Bool.not_eq_true', Bool.not_eq_false', decide_eq_true_eq, decide_eq_false_iff_not, Bool.and_eq_true, Bool.or_eq_true, Bool.or_eq_false_iff, Bool.and_eq_false_imp, Int.not_lt, Int.not_le, Nat.not_lt, Nat.not_le] at hq; (try simp only [and_true]); omega) | fail)) | exact And.intro (fun hq => by first | exact True.intro | omega | (simp only [and_true]; omega) | (simp only [Bool.not_eq_true', Bool.not_eq_false', decide_eq_true_eq, decide_eq_false_iff_not, Bool.and_eq_true, Bool.or_eq_true, Bool.or_eq_false_iff, Bool.and_eq_false_imp, Int.not_lt, Int.not_le, Nat.not_lt, Nat.not_le] at hq; (try simp only [and_true]); omega) | fail) (fun hq hr => by first | exact True.intro | omega | (simp only [and_true]; omega) | (simp only [Bool.not_eq_true', Bool.not_eq_false', decide_eq_true_eq, decide_eq_false_iff_not, Bool.and_eq_true, Bool.or_eq_true, Bool.or_eq_false_iff, Bool.and_eq_false_imp, Int.not_lt, Int.not_le, Nat.not_lt, Nat.not_le] at hq hr; omega) | (simp only [Bool.not_eq_true', Bool.not_eq_false', decide_eq_true_eq, decide_eq_false_iff_not, Bool.and_eq_true, Bool.or_eq_true, Bool.or_eq_false_iff, Bool.and_eq_false_imp, Int.not_lt, Int.not_le, Nat.not_lt, Nat.not_le] at hr; omega) | fail) | fail))) ?_ | refine And.intro (by (first | omega | (unfold InR; omega) | decide | (simp only [List.length_append, List.length_map, List.length_take, List.length_drop, List.length_replicate, List.length_cons, List.length_nil, List.length_set]; omega))) ?_ | (refine And.intro (fun h1 => ?_) (fun h1 => ?_) <;> first | (exact absurd h1 (by decide)) | ((try rw [h1]); (try simp only [Bool.not_eq_true', Bool.not_eq_false', decide_eq_true_eq, decide_eq_false_iff_not, Bool.and_eq_true, Bool.or_eq_true, Bool.or_eq_false_iff, Bool.and_eq_false_imp, Int.not_lt, Int.not_le, Nat.not_lt, Nat.not_le] at h1))) | dsimp only)
        · exact ⟨rfl, Sub.hv subEnd⟩
        all_goals
          rw [hen] at h1
          have hs60 : (xs.getD (i - 1) default).1.length + (xs.getD (i - 1) default).2.length ≤ 60 := by omega
          have hsm' : ∀ j, i - 1 ≤ j → j < xs.length → (xs.getD j default).1.length + (xs.getD j default).2.length ≤ 60 := fun j h3 h4 => by
            rcases Nat.lt_or_ge j i with q | q
            · obtain rfl : j = i - 1 := by omega
              exact hs60
            · exact hsm j q h4
        · rw [hen]
          refine ⟨⟨i - 1, _, by rw [hg, if_pos h1], by rw [hg, if_pos h1], by congr 1; omega, rfl, by omega, hsm', Sub.hv subEnd⟩, by omega⟩
        · refine ⟨⟨i - 1, _, by rw [hg, if_neg h1], by rw [hg, if_neg h1], by congr 1; omega, rfl, by omega, hsm', Sub.hv subEnd⟩, by omega⟩
      · exfalso; omega
  · exact ⟨rfl, Sub.hv subEnd⟩
end
end Go.Proofs.YtodnbkggkdadkabDoor
