import Derived.Test.YtapammcnagjigaaDoorTaH
set_option linter.all false
namespace Go.Proofs.YtapammcnagjigaaDoor
open Go.Vx Go.Lib
/-! the document's Parse -/
theorem find_at {l : List UInt8} {i : Nat} {b : UInt8} (hi : i < l.length) (h : l.getD i default = b) (hp : ∀ j < i, l.getD j default ≠ b) : l.findIdx? (· == b) = some i := by
  rw [List.findIdx?_eq_some_iff_getElem]
  refine ⟨hi, ?_, fun j hj => ?_⟩
  · rw [← h]; simp [hi]
  · have := hp j hj
    have hj2 : j < l.length := by omega
    simpa [hj2] using this
theorem find_none {l : List UInt8} {b : UInt8} (hp : ∀ j < l.length, l.getD j default ≠ b) : l.findIdx? (· == b) = none := by
  rw [List.findIdx?_eq_none_iff]
  intro x hx
  obtain ⟨j, hj, rfl⟩ := List.getElem_of_mem hx
  have := hp j hj
  simpa [hj] using this
/-- A piece of a text. -/
abbrev seg (l : List UInt8) (a b : Nat) : List UInt8 := (l.take b).drop a
theorem seg_len {l : List UInt8} {a b : Nat} (hb : b ≤ l.length) : (seg l a b).length = b - a := by simp; omega
theorem seg_get {l : List UInt8} {a b j : Nat} (hj : a + j < b) : (seg l a b).getD j default = l.getD (a + j) default := by
  simp [List.getElem?_drop, List.getElem?_take, hj]
theorem drop_get {l : List UInt8} {a j : Nat} : (l.drop a).getD j default = l.getD (a + j) default := by simp
theorem split_at {l : List UInt8} {a t : Nat} {c : UInt8} (ha : a ≤ t) (ht : t ≤ l.length) (hno : ∀ j, a ≤ j → j < t → l.getD j default ≠ c) (he : t < l.length → l.getD t default = c) :
    splitS c (l.drop a) = seg l a t :: (if t < l.length then splitS c (l.drop (t + 1)) else []) := by
  rcases Nat.lt_or_ge t l.length with h | h
  · have hf : (l.drop a).findIdx? (· == c) = some (t - a) := find_at (by simp; omega) (by rw [drop_get, show a + (t - a) = t by omega]; exact he h) fun j hj => by rw [drop_get]; exact hno _ (by omega) (by omega)
    rw [splitS_some hf, if_pos h, List.drop_drop, show a + (t - a + 1) = t + 1 by omega]
    congr 1
    rw [← List.drop_take]
  · have hf : (l.drop a).findIdx? (· == c) = none := find_none fun j hj => by rw [drop_get]; exact hno _ (by omega) (by simp at hj; omega)
    rw [splitS_none hf, if_neg (by omega), seg, List.take_of_length_le (by omega)]
theorem cut_at {l : List UInt8} {a e t : Nat} {c : UInt8} (ha : a ≤ e) (het : e ≤ t) (ht : t ≤ l.length) (hno : ∀ j, a ≤ j → j < e → l.getD j default ≠ c) (he : e < t → l.getD e default = c) :
    (cutB (seg l a t) c).1 = seg l a e ∧ (cutB (seg l a t) c).2.1 = if e < t then seg l (e + 1) t else [] := by
  rcases Nat.lt_or_ge e t with h | h
  · have hf : (seg l a t).findIdx? (· == c) = some (e - a) := find_at (by rw [seg_len ht]; omega) (by rw [seg_get (by omega), show a + (e - a) = e by omega]; exact he h) fun j hj => by rw [seg_get (by omega)]; exact hno _ (by omega) (by omega)
    unfold cutB
    rw [hf, if_pos h]
    refine ⟨?_, ?_⟩
    · show (seg l a t).take (e - a) = seg l a e
      simp only [seg, List.take_drop, List.take_take]
      rw [show min (a + (e - a)) t = e by omega]
    · show (seg l a t).drop (e - a + 1) = seg l (e + 1) t
      simp only [seg, List.drop_drop]
      rw [show a + (e - a + 1) = e + 1 by omega]
  · have hte : t = e := by omega
    subst hte
    have hf : (seg l a t).findIdx? (· == c) = none := find_none fun j hj => by
      rw [seg_len ht] at hj
      rw [seg_get (by omega)]; exact hno _ (by omega) (by omega)
    unfold cutB
    rw [hf, if_neg (by omega)]
    exact ⟨rfl, rfl⟩
theorem bad_false {l : List UInt8} {a b : Nat} (hb : b ≤ l.length) (h : ∀ j, a ≤ j → j < b → ¬ (l.getD j default = 0 ∨ l.getD j default = 10 ∨ l.getD j default = 13 ∨ l.getD j default = 32)) : valBad (seg l a b) = false := by
  unfold valBad
  rw [List.any_eq_false]
  intro x hx
  obtain ⟨j, hj, rfl⟩ := List.getElem_of_mem hx
  rw [seg_len hb] at hj
  have h1 := h (a + j) (by omega) (by omega)
  have h2 := seg_get (l := l) (a := a) (b := b) (j := j) (by omega)
  rw [List.getD_eq_getElem?_getD, List.getElem?_eq_getElem (by rw [seg_len hb]; omega)] at h2
  simp only [Option.getD_some] at h2
  rw [h2]; simp; grind
theorem bad_true {l : List UInt8} {a b j : Nat} (hb : b ≤ l.length) (h1 : a ≤ j) (h2 : j < b) (h : l.getD j default = 0 ∨ l.getD j default = 10 ∨ l.getD j default = 13 ∨ l.getD j default = 32) : valBad (seg l a b) = true := by
  unfold valBad
  rw [List.any_eq_true]
  have h3 := seg_get (l := l) (a := a) (b := b) (j := j - a) (by omega)
  rw [show a + (j - a) = j by omega] at h3
  refine ⟨l.getD j default, ?_, by simp; grind⟩
  rw [← h3, List.getD_eq_getElem?_getD, List.getElem?_eq_getElem (by rw [seg_len hb]; omega)]
  exact List.getElem_mem _
theorem bad_zero {v : List UInt8} (h : valBad v = false) : ∀ i < v.length, v.getD i default ≠ 0 := by
  intro i hi e
  unfold valBad at h
  rw [List.any_eq_false] at h
  have := h (v.getD i default) (by rw [List.getD_eq_getElem?_getD, List.getElem?_eq_getElem hi]; exact List.getElem_mem hi)
  rw [e] at this
  simp at this
section
variable {K : Value → St → Prop} {w0 w : World} {H R : List SL} {ds : List Deferred}
set_option maxRecDepth 20000
set_option synthInstance.maxSize 100000
set_option synthInstance.maxHeartbeats 4000000
instance parseR_ok {l : List UInt8} [o : Hv w0 H w] :
    Step (Cl P 46 #[str l] K ⟨w, ds⟩) (l.length ≤ 1000 ∧ ∀ v w', Hv w0 (row 71 2 v (parseT l).1.length ((parseT l).1.flatMap encT) :: H) w' → K (.tuple #[v, .int .i64 (parseT l).2]) ⟨w', ds⟩) := ⟨fun ⟨hl, h⟩ => by
  refine cl_ok (c46 (K := fun v w' => K v ⟨w', ds⟩) ?_ fun v w' h => ⟨v, rfl, h⟩)
  unfold D46
  dsimp only
  unfold parseT at h
  generalize hps : goP [] (splitS 59 l) = res at *
  refine ⟨fun x y s => ∃ (fr : Nat) (out : List Tag) (w' : World), y = .int .i64 fr ∧ s = ⟨w', []⟩ ∧ fr ≤ l.length + 1 ∧ out.length ≤ fr ∧ res = (if fr ≤ l.length then goP out (splitS 59 (l.drop fr)) else goP out []) ∧ Hv w0 (row 71 2 x out.length (out.flatMap encT) :: H) w',
    fun _ y s => match y with | .int _ z => l.length + 1 - z.toNat | _ => 0, ⟨0, [], w, rfl, rfl, Nat.zero_le _, Nat.zero_le _, by rw [← hps]; simp, Hv.nilRow 71 2 o⟩, ?_⟩
  rintro x y s ⟨fr, out, w2, rfl, rfl, hi, ho, hg, o2⟩
  repeat (first | refine go ?_ | intro _ | refine And.intro (Sd.mk (by (first | exact fun _ => True.intro | exact And.intro (fun _ => True.intro) (fun _ _ => True.intro) | (intro hq; (first | exact True.intro | omega | (simp only [and_true]; omega) | (simp only [bl] at hq; (try simp only [and_true]); omega) | fail)) | exact And.intro (fun hq => by first | exact True.intro | omega | (simp only [and_true]; omega) | (simp only [bl] at hq; (try simp only [and_true]); omega) | fail) (fun hq hr => by first | exact True.intro | omega | (simp only [and_true]; omega) | (simp only [bl] at hq hr; omega) | (simp only [bl] at hr; omega) | fail) | fail))) ?_ | refine And.intro (by (first | omega | (unfold InR; omega) | decide | (simp only [ll]; omega))) ?_ | dsimp only)
  refine And.intro (fun h1 => ?_) (fun h1 => ?_)
  · have hfr : fr ≤ l.length := by simp at h1; omega
    rw [if_pos hfr] at hg
    refine ⟨fun y s => ∃ (t : Nat), y = .int .i64 t ∧ s = ⟨w2, []⟩ ∧ fr ≤ t ∧ t ≤ l.length ∧ ∀ j, fr ≤ j → j < t → l.getD j default ≠ 59,
      fun y s => match y with | .int _ z => l.length - z.toNat | _ => 0, ⟨fr, rfl, rfl, Nat.le_refl _, hfr, fun j h1 h2 => by omega⟩, ?_⟩
    rintro y s ⟨t, rfl, rfl, ht1, ht2, hno⟩
    repeat' (first | refine go ?_ | intro _ | refine And.intro (Sd.mk (by (first | exact fun _ => True.intro | exact And.intro (fun _ => True.intro) (fun _ _ => True.intro) | (intro hq; (first | exact True.intro | omega | (simp only [and_true]; omega) | (simp only [bl] at hq; (try simp only [and_true]); omega) | fail)) | exact And.intro (fun hq => by first | exact True.intro | omega | (simp only [and_true]; omega) | (simp only [bl] at hq; (try simp only [and_true]); omega) | fail) (fun hq hr => by first | exact True.intro | omega | (simp only [and_true]; omega) | (simp only [bl] at hq hr; omega) | (simp only [bl] at hr; omega) | fail) | fail))) ?_ | refine And.intro (by (first | omega | (unfold InR; omega) | decide | (simp only [ll]; omega))) ?_ | (refine And.intro (fun h1 => ?_) (fun h1 => ?_) <;> first | (exact absurd h1 (by decide)) | ((try rw [h1]); (try simp only [bl] at h1))) | dsimp only)
    · exact ⟨⟨t + 1, rfl, rfl, by omega, by omega, fun j h3 h4 => by
        rcases Nat.lt_or_ge j t with q | q
        · exact hno j h3 q
        · obtain rfl : j = t := by omega
          exact h1⟩, by simp; omega⟩
    all_goals
      have he : t < l.length → l.getD t default = 59 := by
        intro hq
        first
          | exact h1
          | (exfalso; omega)
      have hsp := split_at ht1 ht2 hno he
      rw [hsp, goP] at hg
      refine ⟨fun y s => ∃ (e : Nat), y = .int .i64 e ∧ s = ⟨w2, []⟩ ∧ fr ≤ e ∧ e ≤ t ∧ ∀ j, fr ≤ j → j < e → l.getD j default ≠ 61,
        fun y s => match y with | .int _ z => t - z.toNat | _ => 0, ⟨fr, rfl, rfl, Nat.le_refl _, ht1, fun j h1 h2 => by omega⟩, ?_⟩
      rintro y s ⟨e, rfl, rfl, he1, he2, hne⟩
      have hsl : (seg l fr e).length ≤ 1000000 := by rw [seg_len (by omega)]; omega
      have hlt3 : atS out ((l.take e).drop fr) < (out.length : Int) := atS_lt out (seg l fr e)
      repeat' (first | refine go ?_ | intro _ | refine And.intro (Sd.mk (by (first | exact fun _ => True.intro | exact And.intro (fun _ => True.intro) (fun _ _ => True.intro) | (intro hq; (first | exact True.intro | omega | (simp only [and_true]; omega) | (simp only [bl] at hq; (try simp only [and_true]); omega) | fail)) | exact And.intro (fun hq => by first | exact True.intro | omega | (simp only [and_true]; omega) | (simp only [bl] at hq; (try simp only [and_true]); omega) | fail) (fun hq hr => by first | exact True.intro | omega | (simp only [and_true]; omega) | (simp only [bl] at hq hr; omega) | (simp only [bl] at hr; omega) | fail) | fail))) ?_ | refine And.intro (by (first | omega | (unfold InR; omega) | decide | (simp only [ll]; omega))) ?_ | (refine And.intro (fun h1 => ?_) (fun h1 => ?_) <;> first | (exact absurd h1 (by decide)) | ((try rw [h1]); (try simp only [bl] at h1))) | dsimp only)
      · exact ⟨⟨e + 1, rfl, rfl, by omega, by omega, fun j h3 h4 => by
          rcases Nat.lt_or_ge j e with q | q
          · exact hne j h3 q
          · obtain rfl : j = e := by omega
            exact h1⟩, by simp; omega⟩
      all_goals first
        | (exfalso; omega)
        | skip
      all_goals
        have hcut := cut_at he1 he2 ht2 hne (fun hq => by first | assumption | (exfalso; omega))
        have hE : partE (seg l fr t) = if nameE (seg l fr e) ≠ 0 then nameE (seg l fr e) else if valBad (if e < t then seg l (e + 1) t else []) then 10 else 0 := by
          unfold partE; rw [hcut.1, hcut.2]
        have hT : partT (seg l fr t) = (seg l fr e, unescS (if e < t then seg l (e + 1) t else [])) := by unfold partT; rw [hcut.1, hcut.2]
        have hnl := insT_len out (partT (seg l fr t))
      all_goals first
        | (have e1 : partE (seg l fr t) = nameE (seg l fr e) := by rw [hE, if_pos h1]
           rw [if_pos (by rw [e1]; exact h1), e1] at hg
           rw [hg] at h
           exact h _ _ (Hv.nilRow 71 2 (Sub.hv subEnd)))
        | (have hlt : e < t := by omega)
        | (have hle : t ≤ e := by omega
           have hn0 : nameE (seg l fr e) = 0 := by assumption
           have e1 : partE (seg l fr t) = 0 := by rw [hE, if_neg (fun q => q hn0), if_neg (show ¬ e < t by omega)]; rfl
           rw [if_neg (by rw [e1]; decide)] at hg
           have hia := insT_at out (partT (seg l fr t))
           rw [hT, if_neg (show ¬ e < t by omega)] at hia
           dsimp only at hia
           have hu : unescS [] = [] := rfl
           rw [hu] at hia
           rw [hT, if_neg (show ¬ e < t by omega), hu] at hg hnl
           have hres : res = if t + 1 ≤ l.length then goP (insT out (seg l fr e, [])) (splitS 59 (l.drop (t + 1))) else goP (insT out (seg l fr e, [])) [] := by
             rw [hg]; split <;> (split <;> first | rfl | omega)
           refine ⟨⟨t + 1, _, _, rfl, rfl, by omega, by omega, hres, Sub.hv (subRow ?_ ?_ subEnd)⟩, by simp; omega⟩
           · rw [hia]
             first
               | rw [if_pos h1, List.length_set]
               | rw [if_neg (Int.not_le.2 h1), List.length_append, List.length_singleton]
           · rw [hia]
             first
               | rw [if_pos h1]
               | (rw [if_neg (Int.not_le.2 h1), List.flatMap_append]; rfl))
        | (trace_state; sorry)
      all_goals
        rw [if_pos hlt] at hE hT
        have hn0 : nameE (seg l fr e) = 0 := by assumption
        have hvl : (seg l (e + 1) t).length ≤ 100000 := by rw [seg_len (by omega)]; omega
        have hul := unesc_len (seg l (e + 1) t)
        rename_i b4 _ _ _ _ w3 o3 _
        refine ⟨fun y s => ∃ (i : Nat) (w' : World), y = .int .i64 i ∧ s = ⟨w', []⟩ ∧ e + 1 ≤ i ∧ i ≤ t ∧ (∀ j, e + 1 ≤ j → j < i → ¬ (l.getD j default = 0 ∨ l.getD j default = 10 ∨ l.getD j default = 13 ∨ l.getD j default = 32)) ∧ Hv w0 (box b4 71 [str (seg l fr e), str []] :: row 71 2 x out.length (out.flatMap encT) :: H) w',
          fun y s => match y with | .int _ z => t - z.toNat | _ => 0, ⟨e + 1, w3, rfl, rfl, Nat.le_refl _, hlt, fun j h1 h2 => by omega, o3⟩, ?_⟩
        rintro y s ⟨i, w4, rfl, rfl, hi1, hi2, hb, o4⟩
        have hia := insT_at out (partT (seg l fr t))
        rw [hT] at hia hnl
        dsimp only at hia
        have hbf : t ≤ i → valBad (seg l (e + 1) t) = false := fun hq => bad_false ht2 fun j h1 h2 => hb j h1 (by omega)
        repeat' (first | refine go ?_ | intro _ | refine And.intro (Sd.mk (by (first | exact fun _ => True.intro | exact And.intro (fun _ => True.intro) (fun _ _ => True.intro) | (intro hq; (first | exact True.intro | omega | (simp only [and_true]; omega) | (simp only [bl] at hq; (try simp only [and_true]); omega) | fail)) | exact And.intro (fun hq => by first | exact True.intro | omega | (simp only [and_true]; omega) | (simp only [bl] at hq; (try simp only [and_true]); omega) | fail) (fun hq hr => by first | exact True.intro | omega | (simp only [and_true]; omega) | (simp only [bl] at hq hr; omega) | (simp only [bl] at hr; omega) | fail) | fail))) ?_ | refine And.intro (by (first | omega | (unfold InR; omega) | decide | (simp only [ll]; omega))) ?_ | (refine And.intro (fun h1 => ?_) (fun h1 => ?_) <;> first | (exact absurd h1 (by decide)) | ((try rw [h1]); (try simp only [bl] at h1))) | dsimp only)
        all_goals first
          | (exfalso; omega)
          | (have e1 : partE (seg l fr t) = 10 := by
               rw [hE, if_neg (fun q => q hn0), if_pos (bad_true ht2 hi1 (by omega) (by grind))]
             rw [if_pos (by rw [e1]; decide), e1] at hg
             rw [hg] at h
             exact h _ _ (Hv.nilRow 71 2 (Sub.hv subEnd)))
          | (refine ⟨⟨i + 1, _, rfl, rfl, by omega, by omega, fun j h3 h4 => ?_, o4⟩, by simp; omega⟩
             rcases Nat.lt_or_ge j i with q | q
             · exact hb j h3 q
             · obtain rfl : j = i := by omega
               grind)
          | skip
        all_goals
          have hbf := hbf (by omega)
          have e1 : partE (seg l fr t) = 0 := by rw [hE, if_neg (fun q => q hn0), if_neg (by rw [hbf]; decide)]
          rw [if_neg (by rw [e1]; decide), hT] at hg
          have hres : res = if t + 1 ≤ l.length then goP (insT out (seg l fr e, unescS (seg l (e + 1) t))) (splitS 59 (l.drop (t + 1))) else goP (insT out (seg l fr e, unescS (seg l (e + 1) t))) [] := by
            rw [hg]; split <;> (split <;> first | rfl | omega)
          have hzz := bad_zero hbf
          have en : ((e : Int) + 1).toNat = e + 1 := by omega
          rw [en]
          have hlt4 : atS out (seg l fr e) < (out.length : Int) := hlt3
          refine And.intro ⟨hvl, hzz⟩ ?_
          repeat' (first | refine go ?_ | intro _ | refine And.intro (Sd.mk (by (first | exact fun _ => True.intro | exact And.intro (fun _ => True.intro) (fun _ _ => True.intro) | (intro hq; (first | exact True.intro | omega | (simp only [and_true]; omega) | (simp only [bl] at hq; (try simp only [and_true]); omega) | fail)) | exact And.intro (fun hq => by first | exact True.intro | omega | (simp only [and_true]; omega) | (simp only [bl] at hq; (try simp only [and_true]); omega) | fail) (fun hq hr => by first | exact True.intro | omega | (simp only [and_true]; omega) | (simp only [bl] at hq hr; omega) | (simp only [bl] at hr; omega) | fail) | fail))) ?_ | refine And.intro (by (first | omega | (unfold InR; omega) | decide | (simp only [ll]; omega))) ?_ | (refine And.intro (fun h1 => ?_) (fun h1 => ?_) <;> first | (exact absurd h1 (by decide)) | ((try rw [h1]); (try simp only [bl] at h1))) | dsimp only)
          all_goals
            refine ⟨⟨t + 1, _, _, rfl, rfl, by omega, by omega, hres, Sub.hv (subRow ?_ ?_ subEnd)⟩, by simp; omega⟩
            · rw [hia]
              first
                | rw [if_pos h1, List.length_set]
                | rw [if_neg (Int.not_le.2 h1), List.length_append, List.length_singleton]
            · rw [hia]
              first
                | rw [if_pos h1]
                | (rw [if_neg (Int.not_le.2 h1), List.flatMap_append]; rfl)
  · rw [if_neg (by have := of_decide_eq_false h1; omega)] at hg
    repeat' (first | refine go ?_ | intro _ | refine And.intro (Sd.mk (by (first | exact fun _ => True.intro | exact And.intro (fun _ => True.intro) (fun _ _ => True.intro) | (intro hq; (first | exact True.intro | omega | (simp only [and_true]; omega) | (simp only [bl] at hq; (try simp only [and_true]); omega) | fail)) | exact And.intro (fun hq => by first | exact True.intro | omega | (simp only [and_true]; omega) | (simp only [bl] at hq; (try simp only [and_true]); omega) | fail) (fun hq hr => by first | exact True.intro | omega | (simp only [and_true]; omega) | (simp only [bl] at hq hr; omega) | (simp only [bl] at hr; omega) | fail) | fail))) ?_ | refine And.intro (by (first | omega | (unfold InR; omega) | decide | (simp only [ll]; omega))) ?_ | (refine And.intro (fun h1 => ?_) (fun h1 => ?_) <;> first | (exact absurd h1 (by decide)) | ((try rw [h1]); (try simp only [bl] at h1))) | dsimp only)
    all_goals first
      | (have hgt : 16 < out.length := by omega
         have e : goP out [] = ([], 7) := by rw [goP, if_pos hgt]
         rw [hg, e] at h
         exact h _ _ (Hv.nilRow 71 2 (Sub.hv subEnd)))
      | (have hgt : ¬ 16 < out.length := by omega
         have e : goP out [] = (out, 0) := by rw [goP, if_neg hgt]
         rw [hg, e] at h
         exact h _ _ (Sub.hv (subRow rfl rfl subEnd)))⟩
end
end Go.Proofs.YtapammcnagjigaaDoor
