import Derived.Test.YtapammcnagjigaaDoorTaJ
set_option linter.all false
namespace Go.Proofs.YtapammcnagjigaaDoor
open Go.Vx Go.Lib
/-! the tags of two texts -/
theorem split_join (c : UInt8) (a b : List UInt8) : splitS c (a ++ c :: b) = splitS c a ++ splitS c b := by
  induction a with
  | nil => simp [splitS]
  | cons x a ih =>
    simp only [List.cons_append, splitS]
    by_cases hx : x == c
    · simp [hx, ih]
    · simp only [hx, Bool.false_eq_true, if_false, ih]
      cases hs : splitS c a with
      | nil => have := splitS_len c a; rw [hs] at this; simp at this
      | cons h r => simp
/-- The tags without the last look at how many there are. -/
def goQ (out : List Tag) : List (List UInt8) → Option (List Tag)
  | [] => some out
  | p :: ps => if partE p ≠ 0 then none else goQ (insT out (partT p)) ps
theorem goP_Q (ps : List (List UInt8)) : ∀ out, goP out ps = match goQ out ps with | some r => (if 16 < r.length then ([], 7) else (r, 0)) | none => ([], (goP out ps).2) := by
  induction ps with
  | nil => intro out; rfl
  | cons p ps ih =>
    intro out
    rw [goQ]
    by_cases h : partE p ≠ 0
    · rw [if_pos h, goP, if_pos h]
    · rw [if_neg h, goP, if_neg h]; exact ih _
theorem goP_err (ps : List (List UInt8)) : ∀ out, goQ out ps = none → (goP out ps).1 = [] ∧ ((goP out ps).2 = 9 ∨ (goP out ps).2 = 10) := by
  induction ps with
  | nil => intro out h; cases h
  | cons p ps ih =>
    intro out h
    rw [goQ] at h
    by_cases hp : partE p ≠ 0
    · rw [goP, if_pos hp]
      refine ⟨rfl, ?_⟩
      unfold partE nameE at hp ⊢
      grind
    · rw [if_neg hp] at h
      rw [goP, if_neg hp]
      exact ih _ h
theorem goQ_app (ps qs : List (List UInt8)) : ∀ out, goQ out (ps ++ qs) = (goQ out ps).bind fun r => goQ r qs := by
  induction ps with
  | nil => intro out; rfl
  | cons p ps ih =>
    intro out
    rw [List.cons_append, goQ, goQ]
    split
    · rfl
    · exact ih _
theorem goQ_none (ps : List (List UInt8)) : ∀ out out', goQ out ps = none → goQ out' ps = none := by
  induction ps with
  | nil => intro out out' h; cases h
  | cons p ps ih =>
    intro out out' h
    rw [goQ] at h ⊢
    split
    · rfl
    · rename_i hp; rw [if_neg hp] at h; exact ih _ _ h
/-- Each name stands but once. -/
def names (l : List Tag) : List (List UInt8) := l.map (·.1)
theorem findT_none {out : List Tag} {n : List UInt8} : out.findIdx? (fun u => decide (u.1 = n)) = none ↔ n ∉ names out := by
  rw [List.findIdx?_eq_none_iff]; simp [names]; grind
theorem insT_new {out : List Tag} {t : Tag} (h : t.1 ∉ names out) : insT out t = out ++ [t] := by
  unfold insT; rw [findT_none.2 h]
theorem insT_names (out : List Tag) (t : Tag) : ∀ n, n ∈ names (insT out t) ↔ n ∈ names out ∨ n = t.1 := by
  intro n
  unfold insT
  cases h : out.findIdx? fun u => decide (u.1 = t.1) with
  | none => first | (simp [names]; done) | (simp [names]; grind)
  | some i =>
    obtain ⟨hi, h1, _⟩ := List.findIdx?_eq_some_iff_getElem.1 h
    simp at h1
    have e : names (out.set i t) = names out := by
      unfold names
      rw [List.map_set]
      apply List.ext_getElem
      · simp
      · intro j h2 h3
        rw [List.getElem_set]; split
        · simp_all
        · rfl
    rw [e]
    refine ⟨.inl, fun q => q.elim id fun q => ?_⟩
    rw [q, ← h1]
    exact List.mem_map.2 ⟨out[i], List.getElem_mem hi, rfl⟩
theorem insT_app {x out : List Tag} {t : Tag} (h : t.1 ∉ names x) : insT (x ++ out) t = x ++ insT out t := by
  unfold insT
  rw [List.findIdx?_append, findT_none.2 h]
  cases hf : out.findIdx? fun u => decide (u.1 = t.1) with
  | none => simp
  | some i => simp [List.set_append]
theorem goQ_names (ps : List (List UInt8)) : ∀ out r, goQ out ps = some r → ∀ n ∈ names out, n ∈ names r := by
  induction ps with
  | nil => intro out r h n hn; rw [goQ] at h; cases h; exact hn
  | cons p ps ih =>
    intro out r h n hn
    rw [goQ] at h
    split at h
    · cases h
    · exact ih _ _ h n ((insT_names _ _ _).2 (.inl hn))
theorem goQ_shift (x : List Tag) (ps : List (List UInt8)) : ∀ out r, goQ out ps = some r → (∀ n ∈ names r, n ∉ names x) → goQ (x ++ out) ps = some (x ++ r) := by
  induction ps with
  | nil => intro out r h _; rw [goQ] at h ⊢; cases h; rfl
  | cons p ps ih =>
    intro out r h hn
    rw [goQ] at h ⊢
    split
    · rename_i hp; rw [if_pos hp] at h; cases h
    · rename_i hp
      rw [if_neg hp] at h
      have : (partT p).1 ∉ names x := hn _ (goQ_names ps _ _ h _ ((insT_names _ _ _).2 (.inr rfl)))
      rw [insT_app this]
      exact ih _ _ h hn
theorem sub_len {α : Type} [DecidableEq α] (l : List α) : ∀ m : List α, l.Nodup → (∀ x ∈ l, x ∈ m) → l.length ≤ m.length := by
  induction l with
  | nil => intro m _ _; simp
  | cons x l ih =>
    intro m hn hs
    rw [List.nodup_cons] at hn
    have hx := hs x (List.mem_cons_self ..)
    have h1 := ih (m.erase x) hn.2 fun y hy => (List.mem_erase_of_ne (fun e => hn.1 (by rw [← e]; exact hy))).2 (hs y (List.mem_cons_of_mem _ hy))
    rw [List.length_erase_of_mem hx] at h1
    have h2 := List.length_pos_of_mem hx
    simp; omega
theorem insT_nodup {out : List Tag} {t : Tag} (h : (names out).Nodup) : (names (insT out t)).Nodup := by
  unfold insT
  cases hf : out.findIdx? fun u => decide (u.1 = t.1) with
  | none =>
    have := findT_none.1 hf
    unfold names at *
    simp only [List.map_append, List.map_cons, List.map_nil]
    rw [List.nodup_append]
    exact ⟨h, by simp, fun a ha b hb e => by simp at hb; subst hb; subst e; exact this ha⟩
  | some i =>
    obtain ⟨hi, h1, _⟩ := List.findIdx?_eq_some_iff_getElem.1 hf
    simp at h1
    have e : names (out.set i t) = names out := by
      unfold names
      rw [List.map_set]
      apply List.ext_getElem
      · simp
      · intro j h2 h3
        rw [List.getElem_set]; split
        · subst_vars; try simp [h1]
        · rfl
    show (names (out.set i t)).Nodup
    rw [e]; exact h
theorem goQ_nodup (ps : List (List UInt8)) : ∀ out r, goQ out ps = some r → (names out).Nodup → (names r).Nodup := by
  induction ps with
  | nil => intro out r h hn; rw [goQ] at h; cases h; exact hn
  | cons p ps ih =>
    intro out r h hn
    rw [goQ] at h
    split at h
    · cases h
    · exact ih _ _ h (insT_nodup hn)
theorem goQ_more (ps : List (List UInt8)) : ∀ out out' r r', goQ out ps = some r → goQ out' ps = some r' → (∀ n ∈ names out, n ∈ names out') → ∀ n ∈ names r, n ∈ names r' := by
  induction ps with
  | nil => intro out out' r r' h h' hs; rw [goQ] at h h'; cases h; cases h'; exact hs
  | cons p ps ih =>
    intro out out' r r' h h' hs
    rw [goQ] at h h'
    by_cases hp : partE p ≠ 0
    · rw [if_pos hp] at h; cases h
    · rw [if_neg hp] at h h'
      exact ih _ _ _ _ h h' fun n hn => (insT_names _ _ _).2 (((insT_names _ _ _).1 hn).imp (hs n) id)
theorem names_len (l : List Tag) : (names l).length = l.length := by simp [names]
theorem goP_some {ps : List (List UInt8)} {out r : List Tag} (h : goQ out ps = some r) : goP out ps = if 16 < r.length then ([], 7) else (r, 0) := by
  rw [goP_Q, h]
theorem parse_join (a b : List UInt8) :
    ((parseT a).2 ≠ 0 ∨ (parseT b).2 ≠ 0 → (parseT (a ++ [59] ++ b)).2 ≠ 0 ∧ (parseT (a ++ [59] ++ b)).1 = []) ∧
    ((parseT a).2 = 0 → (parseT b).2 = 0 → (∀ n ∈ names (parseT b).1, n ∉ names (parseT a).1) →
      parseT (a ++ [59] ++ b) = if 16 < ((parseT a).1 ++ (parseT b).1).length then ([], 7) else ((parseT a).1 ++ (parseT b).1, 0)) := by
  unfold parseT
  have e : a ++ [59] ++ b = a ++ 59 :: b := by simp
  rw [e, split_join]
  generalize splitS 59 a = pa
  generalize splitS 59 b = pb
  have happ := goQ_app pa pb []
  cases hA : goQ [] pa with
  | none =>
    rw [hA] at happ
    have h1 := goP_err pa [] hA
    have h2 := goP_err (pa ++ pb) [] happ
    exact ⟨fun _ => ⟨by omega, h2.1⟩, fun h => by omega⟩
  | some r =>
    rw [hA] at happ
    simp only [Option.bind_some] at happ
    cases hB : goQ [] pb with
    | none =>
      rw [goQ_none pb [] r hB] at happ
      have h1 := goP_err pb [] hB
      have h2 := goP_err (pa ++ pb) [] happ
      exact ⟨fun _ => ⟨by omega, h2.1⟩, fun _ h => by omega⟩
    | some q =>
      have ea := goP_some hA
      have eb := goP_some hB
      cases hC : goQ r pb with
      | none => rw [goQ_none pb r [] hC] at hB; cases hB
      | some z =>
        rw [hC] at happ
        have ez := goP_some happ
        have n1 := goQ_nodup _ _ _ hA (by simp [names])
        have n2 := goQ_nodup _ _ _ hB (by simp [names])
        have l1 := sub_len (names r) (names z) n1 (goQ_names _ _ _ hC)
        have l2 := sub_len (names q) (names z) n2 (goQ_more pb [] r q z hB hC (by simp [names]))
        rw [names_len, names_len] at l1 l2
        refine ⟨fun h => ?_, fun h1 h2 h3 => ?_⟩
        · have : 16 < z.length := by
            rcases h with h | h
            · rw [ea] at h; split at h
              · omega
              · simp at h
            · rw [eb] at h; split at h
              · omega
              · simp at h
          rw [ez, if_pos this]; simp
        · have er : ¬ 16 < r.length := fun q => by rw [ea, if_pos q] at h1; simp at h1
          have eq' : ¬ 16 < q.length := fun q => by rw [eb, if_pos q] at h2; simp at h2
          rw [ea, if_neg er, eb, if_neg eq'] at h3 ⊢
          have hs := goQ_shift r pb [] q hB h3
          rw [List.append_nil, hC] at hs
          cases hs
          rw [ez]
theorem getV_has (l : List Tag) (n : List UInt8) : (getV l n).2 = true ↔ n ∈ names l := by
  unfold getV
  cases h : l.findIdx? fun t => decide (t.1 = n) with
  | none => simp; exact findT_none.1 h
  | some i =>
    simp
    apply Classical.byContradiction
    intro hn
    rw [findT_none.2 hn] at h; cases h
end Go.Proofs.YtapammcnagjigaaDoor
