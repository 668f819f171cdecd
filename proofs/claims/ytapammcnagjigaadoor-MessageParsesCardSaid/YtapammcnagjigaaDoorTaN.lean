import Derived.Test.YtapammcnagjigaaDoorTaM
set_option linter.all false
namespace Go.Proofs.YtapammcnagjigaaDoor
open Go.Vx Go.Lib
/-! what is written is read -/
theorem chk_zero (l : List Tag) : ∀ seen, chkGo seen l = 0 ↔ (∀ t ∈ l, nameE t.1 = 0 ∧ (0 : UInt8) ∉ t.2) ∧ (names l).Nodup ∧ ∀ n ∈ names l, n ∉ seen := by
  induction l with
  | nil => intro seen; simp [chkGo, names]
  | cons t l ih =>
    intro seen
    rw [chkGo]
    by_cases h1 : nameE t.1 = 0
    · rw [if_neg (fun q => q h1)]
      by_cases h2 : (0 : UInt8) ∈ t.2
      · rw [if_pos h2]; simp [h2]
      · rw [if_neg h2]
        by_cases h3 : t.1 ∈ seen
        · rw [if_pos h3]; simp [names, h3]
        · rw [if_neg h3, ih]
          simp only [names, List.map_cons, List.nodup_cons, List.mem_cons, List.mem_append, List.not_mem_nil, or_false, forall_eq_or_imp]
          constructor
          · rintro ⟨a, b, c⟩
            exact ⟨⟨⟨h1, h2⟩, a⟩, ⟨fun q => (c _ q) (.inr rfl), b⟩, h3, fun n hn q => c n hn (.inl q)⟩
          · rintro ⟨⟨_, a⟩, ⟨b, c⟩, _, d⟩
            exact ⟨a, c, fun n hn q => q.elim (d n hn) fun e => b (e ▸ hn)⟩
    · rw [if_pos h1]
      simp [h1]
theorem check_zero (l : List Tag) : checkT l = 0 ↔ l ≠ [] ∧ (∀ t ∈ l, nameE t.1 = 0 ∧ (0 : UInt8) ∉ t.2) ∧ (names l).Nodup ∧ l.length ≤ 16 := by
  have h := chk_zero l []
  unfold checkT
  by_cases h0 : l = []
  · rw [if_pos h0]; simp [h0]
  · rw [if_neg h0]
    by_cases h1 : chkGo [] l = 0
    · rw [if_neg (fun q => q h1)]
      have h2 := h.1 h1
      by_cases h3 : 16 < l.length
      · rw [if_pos h3]; simp; omega
      · rw [if_neg h3]; exact ⟨fun _ => ⟨h0, h2.1, h2.2.1, by omega⟩, fun _ => rfl⟩
    · rw [if_pos h1]
      constructor
      · intro q; exact absurd q h1
      · rintro ⟨_, a, b, _⟩; exact absurd (h.2 ⟨a, b, by simp⟩) h1
theorem bytes_all (p : UInt8 → Bool) (h : ∀ n : Fin 256, p (UInt8.ofNat n.val) = true) (b : UInt8) : p b = true := by
  have := h ⟨b.toNat, b.toNat_lt⟩
  simpa using this
theorem nm_sep (b : UInt8) : (nmB b && (b == 59 || b == 61)) = false := by
  have := bytes_all (fun b => !(nmB b && (b == 59 || b == 61))) (by decide +kernel) b
  cases h : (nmB b && (b == 59 || b == 61)) with
  | false => rfl
  | true => rw [h] at this; cases this
theorem esc_byte (b : UInt8) : (escB b).all (fun x => x != 59 && (b == 0 || !(([0, 13, 10, 32] : List UInt8).contains x))) = true :=
  bytes_all (fun b => (escB b).all (fun x => x != 59 && (b == 0 || !(([0, 13, 10, 32] : List UInt8).contains x)))) (by decide +kernel) b
theorem esc_back (b : UInt8) : (if signB b = 0 then decide (b ≠ 92) else decide (plainB (signB b) = b)) = true :=
  bytes_all (fun b => if signB b = 0 then decide (b ≠ 92) else decide (plainB (signB b) = b)) (by decide +kernel) b
theorem plain_nz (b : UInt8) : (b == 0 || plainB b != 0) = true := bytes_all (fun b => b == 0 || plainB b != 0) (by decide +kernel) b
theorem esc_no59 (v : List UInt8) : (59 : UInt8) ∉ escS v := by
  intro h
  obtain ⟨b, _, hx⟩ := List.mem_flatMap.1 h
  have := List.all_eq_true.1 (esc_byte b) _ hx
  simp at this
theorem esc_good {v : List UInt8} (h : (0 : UInt8) ∉ v) : valBad (escS v) = false := by
  unfold valBad
  rw [List.any_eq_false]
  intro x hx
  obtain ⟨b, hb, hx⟩ := List.mem_flatMap.1 hx
  have h1 := List.all_eq_true.1 (esc_byte b) _ hx
  have h2 : b ≠ 0 := fun e => h (e ▸ hb)
  simp [h2] at h1
  simp; grind
theorem unesc_go (v : List UInt8) : ∀ out, (escS v).foldl stepU (false, out) = (false, out ++ v) := by
  induction v with
  | nil => intro out; simp [escS]
  | cons b v ih =>
    intro out
    have e : escS (b :: v) = escB b ++ escS v := by simp [escS]
    rw [e, List.foldl_append]
    have hb := esc_back b
    have : (escB b).foldl stepU (false, out) = (false, out ++ [b]) := by
      unfold escB
      split at hb
      · rename_i h; rw [if_pos h]; simp at hb; simp [stepU, hb]
      · rename_i h; rw [if_neg h]; simp at hb; simp [stepU, hb]
    rw [this, ih]; simp
theorem unesc_esc (v : List UInt8) : unescS (escS v) = v := by
  unfold unescS foldU
  rw [unesc_go]; simp
theorem name_bytes {n : List UInt8} (h : nameE n = 0) : n ≠ [] ∧ ∀ b ∈ n, nmB b = true := by
  unfold nameE at h
  by_cases h0 : n = []
  · rw [if_pos h0] at h; cases h
  · rw [if_neg h0] at h
    refine ⟨h0, fun b hb => ?_⟩
    by_cases h1 : n.all nmB = true
    · exact List.all_eq_true.1 h1 b hb
    · rw [if_neg h1] at h; cases h
theorem name_sep {n : List UInt8} (h : nameE n = 0) : (59 : UInt8) ∉ n ∧ (61 : UInt8) ∉ n := by
  have h1 := (name_bytes h).2
  constructor
  · intro q; have a := h1 _ q; have b := nm_sep 59; rw [a] at b; simp at b
  · intro q; have a := h1 _ q; have b := nm_sep 61; rw [a] at b; simp at b
theorem find_no {l : List UInt8} {c : UInt8} (h : c ∉ l) : l.findIdx? (· == c) = none := by
  rw [List.findIdx?_eq_none_iff]; intro x hx; simp; exact fun e => h (e ▸ hx)
theorem piece_cut {t : Tag} (h : nameE t.1 = 0) : (cutB (pieceT t) 61).1 = t.1 ∧ (cutB (pieceT t) 61).2.1 = escS t.2 := by
  have hs := (name_sep h).2
  unfold pieceT
  by_cases h2 : t.2 = []
  · rw [if_pos h2, List.append_nil, h2]
    unfold cutB
    rw [find_no hs]
    exact ⟨rfl, rfl⟩
  · rw [if_neg h2]
    have hf : (t.1 ++ ([61] ++ escS t.2)).findIdx? (· == (61 : UInt8)) = some t.1.length := by
      rw [List.findIdx?_append, find_no hs]; simp [List.findIdx?_cons]
    unfold cutB
    rw [hf]
    simp
theorem piece_no59 {t : Tag} (h : nameE t.1 = 0) : (59 : UInt8) ∉ pieceT t := by
  unfold pieceT
  have h1 := (name_sep h).1
  have h2 := esc_no59 t.2
  split <;> simp [h1, h2]
theorem piece_part {t : Tag} (h : nameE t.1 = 0) (h0 : (0 : UInt8) ∉ t.2) : partE (pieceT t) = 0 ∧ partT (pieceT t) = t := by
  obtain ⟨a, b⟩ := piece_cut h
  unfold partE partT
  rw [a, b, if_neg (fun q => q h), esc_good h0, unesc_esc]
  exact ⟨by simp, rfl⟩
theorem split_joinT (ps : List (List UInt8)) (hne : ps ≠ []) (h : ∀ p ∈ ps, (59 : UInt8) ∉ p) : splitS 59 (joinT ps) = ps := by
  induction ps with
  | nil => exact absurd rfl hne
  | cons p ps ih =>
    have hp := splitS_none (find_no (h p (List.mem_cons_self ..)))
    cases ps with
    | nil => simpa [joinT, List.intercalate] using hp
    | cons q ps =>
      have e : joinT (p :: q :: ps) = p ++ 59 :: joinT (q :: ps) := by simp [joinT, List.intercalate]
      rw [e, split_join, hp, ih (by simp) fun r hr => h r (List.mem_cons_of_mem _ hr)]
      rfl
theorem goQ_pieces (l : List Tag) : ∀ out, (∀ t ∈ l, nameE t.1 = 0 ∧ (0 : UInt8) ∉ t.2) → (names l).Nodup → (∀ n ∈ names l, n ∉ names out) → goQ out (l.map pieceT) = some (out ++ l) := by
  induction l with
  | nil => intro out _ _ _; simp [goQ]
  | cons t l ih =>
    intro out hg hn hd
    obtain ⟨a, b⟩ := hg t (List.mem_cons_self ..)
    obtain ⟨c, d⟩ := piece_part a b
    rw [List.map_cons, goQ, if_neg (fun q => q c), d]
    have hnew : t.1 ∉ names out := hd _ (by simp [names])
    rw [insT_new hnew, ih _ (fun u hu => hg u (List.mem_cons_of_mem _ hu))]
    · simp
    · simp only [names, List.map_cons, List.nodup_cons] at hn; exact hn.2
    · intro n hn2
      simp only [names, List.map_cons, List.nodup_cons] at hn
      simp only [names, List.map_append, List.map_cons, List.map_nil, List.mem_append, List.mem_singleton, not_or]
      refine ⟨hd n (by simp only [names, List.map_cons]; exact List.mem_cons_of_mem _ hn2), fun e => hn.1 ?_⟩
      rw [← e]; exact hn2
theorem back_text {l : List Tag} (h : checkT l = 0) : parseT (textT l) = (l, 0) := by
  obtain ⟨h0, h1, h2, h3⟩ := (check_zero l).1 h
  unfold textT parseT
  rw [if_neg (fun q => q h), split_joinT _ (by simpa using h0) fun p hp => by
    obtain ⟨t, ht, rfl⟩ := List.mem_map.1 hp
    exact piece_no59 (h1 t ht).1]
  rw [goP_some (goQ_pieces l [] h1 h2 (by simp [names]))]
  rw [if_neg (by simp; omega)]; rfl
/-! what was read may be written -/
def goodT (t : Tag) : Prop := nameE t.1 = 0 ∧ (0 : UInt8) ∉ t.2
theorem unesc_nz {v : List UInt8} (h : (0 : UInt8) ∉ v) : (0 : UInt8) ∉ unescS v := by
  have key : ∀ (v : List UInt8) p, (0 : UInt8) ∉ v → (0 : UInt8) ∉ p.2 → (0 : UInt8) ∉ (v.foldl stepU p).2 := by
    intro v
    induction v with
    | nil => intro p _ h; exact h
    | cons b v ih =>
      intro p hv hp
      simp only [List.mem_cons, not_or] at hv
      refine ih _ hv.2 ?_
      unfold stepU
      have := plain_nz b
      split
      · simp [hp]; grind
      · split
        · exact hp
        · simp [hp]; exact hv.1
  exact key v (false, []) h (by simp)
theorem part_good {p : List UInt8} (h : partE p = 0) : goodT (partT p) := by
  unfold partE at h
  by_cases h1 : nameE (cutB p 61).1 = 0
  · rw [if_neg (fun q => q h1)] at h
    refine ⟨h1, unesc_nz fun q => ?_⟩
    have hb : valBad (cutB p 61).2.1 = true := by
      unfold valBad; rw [List.any_eq_true]; exact ⟨0, q, by decide⟩
    rw [if_pos hb] at h; cases h
  · rw [if_pos h1] at h; exact absurd h h1
theorem insT_mem {out : List Tag} {t u : Tag} (h : u ∈ insT out t) : u ∈ out ∨ u = t := by
  unfold insT at h
  split at h
  · exact List.mem_or_eq_of_mem_set h
  · rcases List.mem_append.1 h with q | q
    · exact .inl q
    · exact .inr (by simpa using q)
theorem goQ_good (ps : List (List UInt8)) : ∀ out r, goQ out ps = some r → (∀ t ∈ out, goodT t) → ∀ t ∈ r, goodT t := by
  induction ps with
  | nil => intro out r h hg; rw [goQ] at h; cases h; exact hg
  | cons p ps ih =>
    intro out r h hg
    rw [goQ] at h
    by_cases hp : partE p = 0
    · rw [if_neg (fun q => q hp)] at h
      exact ih _ _ h fun t ht => (insT_mem ht).elim (hg t) fun e => e ▸ part_good hp
    · rw [if_pos hp] at h; cases h
theorem insT_ne (out : List Tag) (t : Tag) : insT out t ≠ [] := by
  unfold insT
  split
  · rename_i i hf
    have := (List.findIdx?_eq_some_iff_getElem.1 hf).1
    intro e; have := congrArg List.length e; rw [List.length_set, List.length_nil] at this; omega
  · simp
theorem goQ_ne (ps : List (List UInt8)) : ∀ out r, goQ out ps = some r → ps ≠ [] ∨ out ≠ [] → r ≠ [] := by
  induction ps with
  | nil => intro out r h hg; rw [goQ] at h; cases h; exact hg.resolve_left (fun q => q rfl)
  | cons p ps ih =>
    intro out r h _
    rw [goQ] at h
    split at h
    · cases h
    · exact ih _ _ h (.inr (insT_ne _ _))
theorem parse_check {s : List UInt8} (h : (parseT s).2 = 0) : checkT (parseT s).1 = 0 := by
  unfold parseT at h ⊢
  cases hq : goQ [] (splitS 59 s) with
  | none => have := goP_err _ _ hq; omega
  | some r =>
    have e := goP_some hq
    by_cases hr : 16 < r.length
    · rw [e, if_pos hr] at h; cases h
    · rw [e, if_neg hr]
      refine (check_zero r).2 ⟨goQ_ne _ _ _ hq (.inl fun q => ?_), goQ_good _ _ _ hq (by simp), goQ_nodup _ _ _ hq (by simp [names]), by omega⟩
      have := splitS_len 59 s; rw [q] at this; simp at this
theorem parse_none {s : List UInt8} (h : (parseT s).2 ≠ 0) : (parseT s).1 = [] := by
  unfold parseT at h ⊢
  cases hq : goQ [] (splitS 59 s) with
  | none => exact (goP_err _ _ hq).1
  | some r =>
    have e := goP_some hq
    by_cases hr : 16 < r.length
    · rw [e, if_pos hr]
    · rw [e, if_neg hr] at h; exact absurd rfl h
end Go.Proofs.YtapammcnagjigaaDoor
