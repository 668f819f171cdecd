import Derived.Test.YtapammcnagjigaaDoorMe
set_option linter.all false
namespace Go.Proofs.YtapammcnagjigaaDoor
open Go.Vx Go.Lib
/-! messages: the plain law -/
theorem word_app {p z : List UInt8} (h : (32 : UInt8) ∉ p) (hz : z = [] ∨ ∃ t, z = 32 :: t) : wordB (p ++ z) = p ∧ restB (p ++ z) = trimL z 32 := by
  induction p with
  | nil =>
    rcases hz with rfl | ⟨t, rfl⟩
    · exact ⟨rfl, rfl⟩
    · simp [wordB, restB, trimL]
  | cons b p ih =>
    have hb : b ≠ 32 := fun e => h (by rw [e]; exact List.mem_cons_self ..)
    have := ih fun hm => h (List.mem_cons_of_mem _ hm)
    unfold wordB restB at this ⊢
    simp only [List.cons_append, List.takeWhile_cons, List.dropWhile_cons, bne_iff_ne, ne_eq, hb, not_false_eq_true, if_true]
    exact ⟨by rw [this.1], this.2⟩
theorem trim_hd {b : UInt8} {t : List UInt8} (h : b ≠ 32) : trimL (b :: t) 32 = b :: t := by simp [trimL, h]
theorem trim_32 {t : List UInt8} : trimL (32 :: t) 32 = trimL t 32 := by simp [trimL]
theorem trim_no {p z : List UInt8} (hp : p ≠ []) (h : (32 : UInt8) ∉ p) : trimL (p ++ z) 32 = p ++ z := by
  cases p with
  | nil => exact absurd rfl hp
  | cons b p => exact trim_hd fun e => h (by rw [e]; exact List.mem_cons_self ..)
theorem spare_no {p : List UInt8} (h : spare p = false) : p ≠ [] ∧ hd p 58 = false ∧ (32 : UInt8) ∉ p := by
  unfold spare at h
  simp only [Bool.or_eq_false_iff, decide_eq_false_iff_not] at h
  exact ⟨h.1, h.2.1, by simpa using h.2.2⟩
theorem hd_app {p z : List UInt8} {c : UInt8} (hp : p ≠ []) : hd (p ++ z) c = hd p c := by
  cases p with
  | nil => exact absurd rfl hp
  | cons b p => simp [hd]
/-- The parameters of a text that writes them. -/
theorem pgo_par (w : List UInt8) (ps : List (List UInt8)) : ∀ (out : List (List UInt8)) (f : Nat), out.length + ps.length ≤ 15 → (∀ p ∈ ps.dropLast, spare p = false) →
    (∀ p ∈ ps.getLast?, ∀ (out : List (List UInt8)) (f : Nat), out.length ≤ 14 → (trimL (w ++ p) 32).length ≤ f → pgo f (trimL (w ++ p) 32) out = out ++ [p]) →
    (trimL (parS w ps) 32).length ≤ f → pgo f (trimL (parS w ps) 32) out = out ++ ps := by
  induction ps with
  | nil =>
    intro out f _ _ _ _
    have : trimL (parS w []) 32 = [] := rfl
    rw [this, pgo_nil]; simp
  | cons p ps ih =>
    intro out f hl hs hb hf
    cases ps with
    | nil =>
      have e : parS w [p] = 32 :: (w ++ p) := rfl
      rw [e, trim_32] at hf ⊢
      exact hb p rfl out f (by simp at hl; omega) hf
    | cons q r =>
      obtain ⟨h1, h2, h3⟩ := spare_no (hs p (by simp))
      have e : parS w (p :: q :: r) = 32 :: (p ++ parS w (q :: r)) := rfl
      rw [e, trim_32, trim_no h1 h3] at hf ⊢
      have hz : parS w (q :: r) = [] ∨ ∃ t, parS w (q :: r) = 32 :: t := by cases r <;> exact .inr ⟨_, rfl⟩
      obtain ⟨g1, g2⟩ := word_app h3 hz
      cases f with
      | zero => exfalso; apply h1; simp at hf; exact hf.1
      | succ f =>
        rw [pgo_step (by simp [h1]) (by rw [hd_app h1]; exact h2) (by simp at hl; omega), g1, g2]
        rw [ih (out ++ [p]) f (by simp at hl ⊢; omega) (fun x hx => hs x (by simp at hx ⊢; exact .inr hx)) (fun x hx => hb x (by simpa using hx)) ?_]
        · simp
        · have h4 : (trimL (parS w (q :: r)) 32).length ≤ (parS w (q :: r)).length := (List.dropWhile_suffix _).length_le
          have h5 : 0 < p.length := List.length_pos_iff.2 h1
          simp only [List.length_append] at hf
          omega
theorem last_colon {p : List UInt8} (out : List (List UInt8)) (f : Nat) (_ : out.length ≤ 14) (hf : (trimL ([58] ++ p) 32).length ≤ f) : pgo f (trimL ([58] ++ p) 32) out = out ++ [p] := by
  have e : trimL ([58] ++ p) 32 = 58 :: p := by simp [trimL]
  rw [e] at hf ⊢
  cases f with
  | zero => simp at hf
  | succ f => rw [pgo_colon]
theorem last_plain {p : List UInt8} (hp : spare p = false) {k : List UInt8} (hk : ∀ b ∈ k, b = 32) (out : List (List UInt8)) (f : Nat) (ho : out.length ≤ 14) (hf : (trimL (k ++ p) 32).length ≤ f) : pgo f (trimL (k ++ p) 32) out = out ++ [p] := by
  obtain ⟨h1, h2, h3⟩ := spare_no hp
  have e : trimL (k ++ p) 32 = p := by
    clear hf
    induction k with
    | nil => have := trim_no (z := []) h1 h3; simpa using this
    | cons b k ih => rw [hk b (List.mem_cons_self ..), List.cons_append, trim_32]; exact ih fun x hx => hk x (List.mem_cons_of_mem _ hx)
  rw [e] at hf ⊢
  cases f with
  | zero => exact absurd (List.eq_nil_of_length_eq_zero (by omega)) h1
  | succ f =>
    by_cases h14 : out.length = 14
    · rw [pgo_last h1 h2 h14]
    · rw [pgo_step h1 h2 (by omega)]
      obtain ⟨g1, g2⟩ := word_app (z := []) h3 (.inl rfl)
      rw [List.append_nil] at g1 g2
      rw [g1, g2]
      have : trimL ([] : List UInt8) 32 = [] := rfl
      rw [this, pgo_nil]
theorem cmd_bytes {c : List UInt8} (h : cmdB c = true) : c ≠ [] ∧ ∀ b ∈ c, (letB b || digB b) = true := by
  unfold cmdB at h
  simp only [Bool.or_eq_true, Bool.and_eq_true, bne_iff_ne, decide_eq_true_eq, List.all_eq_true] at h
  rcases h with ⟨h1, h2⟩ | ⟨h1, h2⟩
  · exact ⟨h1, fun b hb => by simp [h2 b hb]⟩
  · exact ⟨by intro e; subst e; simp at h1, fun b hb => by simp [h2 b hb]⟩
theorem ld_byte (b : UInt8) : (!(letB b || digB b) || (b != 32 && b != 58 && b != 64 && b != 0 && b != 10 && b != 13)) = true := bytes_all (fun b => !(letB b || digB b) || (b != 32 && b != 58 && b != 64 && b != 0 && b != 10 && b != 13)) (by decide +kernel) b
theorem cmd_no {c : List UInt8} (h : cmdB c = true) : ∀ b ∈ c, b ≠ 32 ∧ b ≠ 58 ∧ b ≠ 64 ∧ b ≠ 0 ∧ b ≠ 10 ∧ b ≠ 13 := fun b hb => by
  have h1 := (cmd_bytes h).2 b hb
  have h2 := ld_byte b
  rw [h1] at h2
  simp only [Bool.not_true, Bool.false_or, Bool.and_eq_true, bne_iff_ne] at h2
  obtain ⟨⟨⟨⟨⟨a, b⟩, c⟩, d⟩, e⟩, f⟩ := h2
  exact ⟨a, b, c, d, e, f⟩
theorem nm_byte (b : UInt8) : (!nmB b || !(([0, 13, 10, 32] : List UInt8).contains b)) = true := bytes_all (fun b => !nmB b || !(([0, 13, 10, 32] : List UInt8).contains b)) (by decide +kernel) b
/-- The bytes of the tags' text. -/
theorem text_bytes {T : List Tag} (h : checkT T = 0) : valBad (textT T) = false := by
  obtain ⟨_, h2, _, _⟩ := (check_zero T).1 h
  have hp : ∀ p ∈ T.map pieceT, valBad p = false := fun p hp => by
    obtain ⟨t, ht, rfl⟩ := List.mem_map.1 hp
    obtain ⟨hn, hv⟩ := h2 t ht
    unfold pieceT valBad
    rw [List.any_append, Bool.or_eq_false_iff]
    constructor
    · rw [List.any_eq_false]
      intro b hb hc
      have := nm_byte b
      rw [(name_bytes hn).2 b hb] at this
      simp only [Bool.not_true, Bool.false_or, Bool.not_eq_true'] at this
      rw [this] at hc; cases hc
    · split
      · rfl
      · rw [List.any_append, Bool.or_eq_false_iff]
        exact ⟨rfl, esc_good hv⟩
  have hj : ∀ ps : List (List UInt8), (∀ p ∈ ps, valBad p = false) → valBad (joinT ps) = false := by
    intro ps
    induction ps with
    | nil => intro _; rfl
    | cons p ps ih =>
      intro h
      cases ps with
      | nil => simpa [joinT, List.intercalate] using h p (List.mem_cons_self ..)
      | cons q r =>
        have := ih fun x hx => h x (List.mem_cons_of_mem _ hx)
        simp only [joinT, List.intercalate, List.intersperse_cons_cons, List.flatten_cons] at this ⊢
        unfold valBad at this ⊢
        rw [List.any_append, List.any_append, this]
        have h1 := h p (List.mem_cons_self ..)
        unfold valBad at h1
        rw [h1]; rfl
  unfold textT
  rw [if_neg (by simp [h])]
  exact hj _ hp
theorem bad_bytes {s : List UInt8} (h : valBad s = false) : ∀ b ∈ s, b ≠ 0 ∧ b ≠ 10 ∧ b ≠ 13 ∧ b ≠ 32 := fun b hb => by
  have := List.any_eq_false.1 h b hb
  simp at this
  exact ⟨this.1, this.2.2.1, this.2.1, this.2.2.2⟩
/-- What may be ahead of the parameters. -/
def okH (T : List Tag) (pre cmd : List UInt8) : Prop := (T = [] ∨ checkT T = 0) ∧ txtB pre = true ∧ (32 : UInt8) ∉ pre ∧ cmdB cmd = true ∧ capsS cmd = cmd
theorem parse_head {T : List Tag} {pre cmd z : List UInt8} (h : okH T pre cmd) (hz : z = [] ∨ ∃ t, z = 32 :: t) (ht : txtB z = true) (hl : (headM T pre cmd ++ z).length ≤ 510) :
    parseM (headM T pre cmd ++ z) = ((T, pre, cmd, paramsM (trimL z 32)), 0) := by
  obtain ⟨h1, h2, h3, h4, h5⟩ := h
  have hc := cmd_no h4
  have hcne := (cmd_bytes h4).1
  have htx : txtB (headM T pre cmd ++ z) = true := by
    rw [txt_iff] at h2 ht ⊢
    intro b hb
    unfold headM at hb
    simp only [List.mem_append] at hb
    rcases hb with (hb | hb | hb) | hb
    · split at hb
      · cases hb
      · rename_i hT
        rcases List.mem_cons.1 hb with rfl | hb
        · decide
        · rcases List.mem_append.1 hb with hb | hb
          · have := bad_bytes (text_bytes (h1.resolve_left hT)) b hb
            exact ⟨this.1, this.2.1, this.2.2.1⟩
          · rw [List.mem_singleton.1 hb]; decide
    · split at hb
      · cases hb
      · rcases List.mem_cons.1 hb with rfl | hb
        · decide
        · rcases List.mem_append.1 hb with hb | hb
          · exact h2 b hb
          · rw [List.mem_singleton.1 hb]; decide
    · have := hc b hb
      exact ⟨this.2.2.2.1, this.2.2.2.2.1, this.2.2.2.2.2⟩
    · exact ht b hb
  have hC : ∀ T pre, pC T pre (cmd ++ z) = ((T, pre, cmd, paramsM (trimL z 32)), 0) := by
    intro T pre
    obtain ⟨g1, g2⟩ := word_app (p := cmd) (z := z) (fun hm => (hc _ hm).1 rfl) hz
    unfold pC
    rw [if_neg (by simp [hcne]), g1, g2, h4, h5]
    rfl
  have hdc : hd (cmd ++ z) 58 = false := by
    rw [hd_app hcne]
    cases cmd with
    | nil => exact absurd rfl hcne
    | cons b t => rw [hd_cons]; simpa using (hc b (List.mem_cons_self ..)).2.1
  have hP : ∀ T, pM T ((if pre = [] then [] else 58 :: (pre ++ [32])) ++ cmd ++ z) = ((T, pre, cmd, paramsM (trimL z 32)), 0) := by
    intro T
    unfold pM
    by_cases hp : pre = []
    · subst hp
      simp only [if_true, List.nil_append]
      rw [hdc]
      exact hC T []
    · rw [if_neg hp]
      have e : (58 :: (pre ++ [32]) ++ cmd ++ z) = 58 :: (pre ++ (32 :: (cmd ++ z))) := by simp
      have hw := word_app (p := pre) (z := 32 :: (cmd ++ z)) h3 (.inr ⟨_, rfl⟩)
      have ht : trimL (32 :: (cmd ++ z)) 32 = cmd ++ z := by rw [trim_32]; exact trim_no hcne fun hm => (hc _ hm).1 rfl
      rw [e, hd_cons]
      simp only [decide_true, if_true, List.drop_succ_cons, List.drop_zero]
      rw [hw.1, hw.2, ht, if_neg hp]
      exact hC T pre
  have ha : headM T pre cmd ++ z = (if T = [] then [] else 64 :: (textT T ++ [32])) ++ ((if pre = [] then [] else 58 :: (pre ++ [32])) ++ cmd ++ z) := by unfold headM; simp
  unfold parseM
  rw [if_neg (by omega), htx]
  simp only [Bool.not_true, Bool.false_eq_true, if_false]
  by_cases hT : T = []
  · subst hT
    rw [ha]
    simp only [if_true, List.nil_append]
    have : hd ((if pre = [] then [] else 58 :: (pre ++ [32])) ++ cmd ++ z) 64 = false := by
      by_cases hp : pre = []
      · subst hp
        simp only [if_true, List.nil_append]
        rw [hd_app hcne]
        cases cmd with
        | nil => exact absurd rfl hcne
        | cons b t => rw [hd_cons]; simpa using (hc b (List.mem_cons_self ..)).2.2.1
      · rw [if_neg hp]; simp [hd]
    rw [this]
    simp only [Bool.false_eq_true, if_false, ne_eq, not_true_eq_false]
    exact hP []
  · have hck := h1.resolve_left hT
    rw [ha, if_neg hT]
    generalize hY : (if pre = [] then [] else 58 :: (pre ++ [32])) ++ cmd ++ z = Y at hP ⊢
    have e : (64 :: (textT T ++ [32]) ++ Y) = 64 :: (textT T ++ (32 :: Y)) := by simp
    have hw := word_app (p := textT T) (z := 32 :: Y) (fun hm => (bad_bytes (text_bytes hck) _ hm).2.2.2 rfl) (.inr ⟨_, rfl⟩)
    have ht : trimL (32 :: Y) 32 = Y := by
      rw [trim_32, ← hY]
      by_cases hp : pre = []
      · subst hp
        simp only [if_true, List.nil_append]
        exact trim_no hcne fun hm => (hc _ hm).1 rfl
      · rw [if_neg hp]; simp [trimL]
    rw [e, hd_cons]
    simp only [decide_true, if_true, List.drop_succ_cons, List.drop_zero]
    rw [hw.1, hw.2, ht, back_text hck]
    simp only [ne_eq, not_true_eq_false, if_false]
    exact hP T
theorem par_shape (w : List UInt8) (ps : List (List UInt8)) : parS w ps = [] ∨ ∃ t, parS w ps = 32 :: t := by
  cases ps with
  | nil => exact .inl rfl
  | cons p ps => cases ps <;> exact .inr ⟨_, rfl⟩
theorem txt_par {w : List UInt8} (hw : txtB w = true) (ps : List (List UInt8)) (h : ∀ p ∈ ps, txtB p = true) : txtB (parS w ps) = true := by
  rw [txt_iff] at hw ⊢
  induction ps with
  | nil => intro b hb; cases hb
  | cons p ps ih =>
    have hp := txt_iff.1 (h p (List.mem_cons_self ..))
    have ih := ih fun x hx => h x (List.mem_cons_of_mem _ hx)
    cases ps with
    | nil =>
      intro b hb
      rcases List.mem_cons.1 hb with rfl | hb
      · decide
      · rcases List.mem_append.1 hb with hb | hb
        · exact hw b hb
        · exact hp b hb
    | cons q r =>
      intro b hb
      rcases List.mem_cons.1 hb with rfl | hb
      · decide
      · rcases List.mem_append.1 hb with hb | hb
        · exact hp b hb
        · exact ih b hb
theorem parse_var {T : List Tag} {pre cmd w : List UInt8} {ps : List (List UInt8)} (h : okH T pre cmd) (hw : txtB w = true) (ht : ∀ p ∈ ps, txtB p = true) (h15 : ps.length ≤ 15) (hs : ∀ p ∈ ps.dropLast, spare p = false)
    (hb : ∀ p ∈ ps.getLast?, ∀ (out : List (List UInt8)) (f : Nat), out.length ≤ 14 → (trimL (w ++ p) 32).length ≤ f → pgo f (trimL (w ++ p) 32) out = out ++ [p])
    (hl : (headM T pre cmd ++ parS w ps).length ≤ 510) : parseM (headM T pre cmd ++ parS w ps) = ((T, pre, cmd, ps), 0) := by
  rw [parse_head h (par_shape w ps) (txt_par hw ps ht) hl]
  unfold paramsM
  rw [pgo_par w ps [] _ (by simpa using h15) hs hb (Nat.le_refl _)]
  rfl
theorem last_base (ps : List (List UInt8)) : ∀ p ∈ ps.getLast?, ∀ (out : List (List UInt8)) (f : Nat), out.length ≤ 14 → (trimL (lastW ps ++ p) 32).length ≤ f → pgo f (trimL (lastW ps ++ p) 32) out = out ++ [p] := by
  intro p hp out f ho hf
  unfold lastW at hf ⊢
  rw [Option.mem_def.1 hp] at hf ⊢
  dsimp only at hf ⊢
  cases hsp : spare p with
  | true => rw [hsp] at hf; simp only [if_true] at hf ⊢; exact last_colon out f ho hf
  | false => rw [hsp] at hf; simp only [Bool.false_eq_true, if_false] at hf ⊢; exact last_plain hsp (fun b hb => by cases hb) out f ho hf
theorem lastW_txt (ps : List (List UInt8)) : txtB (lastW ps) = true := by
  unfold lastW
  split
  · split <;> decide
  · decide
theorem check_parts {m : Msg} (h : checkM m = 0) : okH m.1 m.2.1 m.2.2.1 ∧ (∀ p ∈ m.2.2.2, txtB p = true) ∧ m.2.2.2.length ≤ 15 ∧ (∀ p ∈ m.2.2.2.dropLast, spare p = false) ∧ (plainM m).length ≤ 510 := by
  unfold checkM at h
  split at h
  · rename_i h1; exact absurd h h1.2
  · rename_i h1
    split at h
    · cases h
    · rename_i h2
      split at h
      · cases h
      · rename_i h3
        split at h
        · cases h
        · rename_i h4
          split at h
          · cases h
          · split at h
            · cases h
            · rename_i h6
              split at h
              · cases h
              · rename_i h7
                simp only [Bool.or_eq_true, Bool.not_eq_true', not_or, Bool.not_eq_false, List.contains_eq_mem, decide_eq_true_eq, List.any_eq_true, decide_eq_false_iff_not, Decidable.not_not, not_exists, not_and] at h2 h3 h6
                refine ⟨⟨?_, h2.1.1, h2.1.2, h3.1, h3.2⟩, fun p hp => by simpa using h2.2 p hp, by omega, fun p hp => by simpa using h6 p hp, by omega⟩
                by_cases hT : m.1 = []
                · exact .inl hT
                · exact .inr (Decidable.byContradiction fun hc => h1 ⟨hT, hc⟩)
theorem parse_text {m : Msg} (h : checkM m = 0) : parseM (plainM m) = (m, 0) := by
  obtain ⟨h1, h2, h3, h4, h5⟩ := check_parts h
  exact parse_var h1 (lastW_txt _) h2 h3 h4 (last_base _) h5
/-- The text, but for what stands ahead of the last parameter. -/
theorem colon_text {m : Msg} {ps : List (List UInt8)} {p : List UInt8} (hm : m.2.2.2 = ps ++ [p]) (hp : spare p = false) (w : List UInt8) :
    (plainM m).take ((plainM m).length - p.length) ++ w ++ p = headM m.1 m.2.1 m.2.2.1 ++ parS w m.2.2.2 := by
  have e : lastW m.2.2.2 = [] := by rw [hm]; unfold lastW; simp [hp]
  have e1 : plainM m = (headM m.1 m.2.1 m.2.2.1 ++ (parI ps ++ [32])) ++ p := by
    unfold plainM; rw [e, hm, par_snoc]; simp
  rw [e1, List.length_append, Nat.add_sub_cancel, List.take_left, hm, par_snoc]
  simp
theorem colon_parse {m : Msg} {ps : List (List UInt8)} {p w : List UInt8} (h : checkM m = 0) (hm : m.2.2.2 = ps ++ [p]) (hp : spare p = false) (hw : w = [58] ∨ w = [32]) (hl : (plainM m).length + 1 ≤ 510) :
    parseM ((plainM m).take ((plainM m).length - p.length) ++ w ++ p) = (m, 0) := by
  obtain ⟨h1, h2, h3, h4, h5⟩ := check_parts h
  have e := colon_text hm hp w
  have hwl : w.length = 1 := by rcases hw with rfl | rfl <;> rfl
  have hlen : (headM m.1 m.2.1 m.2.2.1 ++ parS w m.2.2.2).length ≤ 510 := by
    rw [← e]; simp only [List.length_append, List.length_take]
    have : p.length ≤ (plainM m).length := by
      have e0 : lastW m.2.2.2 = [] := by rw [hm]; unfold lastW; simp [hp]
      unfold plainM; rw [e0, hm, par_snoc]; simp; omega
    omega
  rw [e]
  refine parse_var h1 (by rcases hw with rfl | rfl <;> decide) h2 h3 h4 ?_ hlen
  intro q hq out f ho hf
  rw [hm] at hq
  simp only [List.getLast?_append, List.getLast?_singleton, Option.some_or, Option.mem_def, Option.some.injEq] at hq
  subst hq
  rcases hw with rfl | rfl
  · exact last_colon out f ho hf
  · exact last_plain hp (fun b hb => List.mem_singleton.1 hb) out f ho hf
/-! what is read may be written -/
theorem word_rest {r : List UInt8} (h : restB r ≠ []) : (wordB r).length + (restB r).length + 1 ≤ r.length := by
  have e : r = wordB r ++ r.dropWhile (· != 32) := (List.takeWhile_append_dropWhile ..).symm
  have h1 : restB r = trimL (r.dropWhile (· != 32)) 32 := rfl
  cases hd : r.dropWhile (· != 32) with
  | nil => rw [h1, hd] at h; exact absurd rfl h
  | cons b t =>
    have hb : b = 32 := by
      have := List.head?_dropWhile_not (fun x : UInt8 => x != 32) r
      rw [hd] at this
      simpa using this
    subst hb
    have h2 : restB r = trimL t 32 := by rw [h1, hd, trim_32]
    have h3 : (trimL t 32).length ≤ t.length := (List.dropWhile_suffix _).length_le
    have h4 := congrArg List.length e
    rw [List.length_append, hd, List.length_cons] at h4
    rw [h2]; omega
theorem word_mem {r : List UInt8} : ∀ b ∈ wordB r, b ∈ r := fun b hb => (List.takeWhile_prefix _).subset hb
theorem rest_mem {r : List UInt8} : ∀ b ∈ restB r, b ∈ r := fun b hb => (List.dropWhile_suffix _).subset ((List.dropWhile_suffix _).subset hb)
theorem word_spare {r : List UInt8} (h1 : r ≠ []) (h2 : ∀ t, r ≠ 32 :: t) (h3 : hd r 58 = false) : spare (wordB r) = false := by
  cases r with
  | nil => exact absurd rfl h1
  | cons b t =>
    have hb : b ≠ 32 := fun e => h2 t (by rw [e])
    have e : wordB (b :: t) = b :: wordB t := by simp [wordB, hb]
    have h4 := word_no32 (b :: t)
    unfold spare
    rw [e] at h4 ⊢
    rw [hd_cons] at h3 ⊢
    rw [h3]
    simp only [reduceCtorEq, decide_false, Bool.false_or]
    simpa using h4
theorem pgo_parts (f : Nat) : ∀ (r : List UInt8) (out : List (List UInt8)), r.length ≤ f → (∀ t, r ≠ 32 :: t) → out.length ≤ 14 →
    ∃ ps, pgo f r out = out ++ ps ∧ out.length + ps.length ≤ 15 ∧ (∀ p ∈ ps, ∀ b ∈ p, b ∈ r) ∧ (∀ p ∈ ps.dropLast, spare p = false) ∧ (out.length + ps.length ≠ 15 → (parS (lastW ps) ps).length ≤ r.length + 1) := by
  induction f with
  | zero => intro r out hr _ ho; exact ⟨[], by simp [pgo], by simp; omega, by simp, by simp, fun _ => by simp [parS]⟩
  | succ f ih =>
    intro r out hr h32 ho
    by_cases h1 : r = []
    · subst h1; exact ⟨[], by rw [pgo_nil]; simp, by simp; omega, by simp, by simp, fun _ => by simp [parS]⟩
    · cases h2 : hd r 58 with
      | true =>
        obtain ⟨t, rfl⟩ := hd_true h2
        refine ⟨[t], pgo_colon, by simp; omega, fun p hp b hb => ?_, by simp, fun _ => ?_⟩
        · rw [List.mem_singleton.1 hp] at hb; exact List.mem_cons_of_mem _ hb
        · have : (lastW [t]).length ≤ 1 := by unfold lastW; simp only [List.getLast?_singleton]; split <;> simp
          simp only [parS, List.length_cons, List.length_append]; omega
      | false =>
        by_cases h14 : out.length = 14
        · refine ⟨[r], pgo_last h1 h2 h14, by simp; omega, fun p hp b hb => ?_, by simp, fun hc => ?_⟩
          · rwa [List.mem_singleton.1 hp] at hb
          · simp at hc; omega
        · have hlt := rest_lt h1
          obtain ⟨ps, g1, g2, g3, g4, g5⟩ := ih (restB r) (out ++ [wordB r]) (by omega) (rest_no32 r) (by simp; omega)
          have hsp := word_spare h1 h32 h2
          simp only [List.length_append, List.length_cons, List.length_nil] at g2 g5
          refine ⟨wordB r :: ps, by rw [pgo_step h1 h2 h14, g1]; simp, by simp; omega, fun p hp b hb => ?_, fun p hp => ?_, fun hc => ?_⟩
          · rcases List.mem_cons.1 hp with rfl | hp
            · exact word_mem b hb
            · exact rest_mem b (g3 p hp b hb)
          · cases ps with
            | nil => simp at hp
            | cons q s =>
              rw [List.dropLast_cons_of_ne_nil (by simp)] at hp
              rcases List.mem_cons.1 hp with rfl | hp
              · exact hsp
              · exact g4 p hp
          · cases ps with
            | nil =>
              have : lastW [wordB r] = [] := by unfold lastW; simp [hsp]
              rw [this]
              have := word_len r
              simp only [parS, List.nil_append, List.length_cons]; omega
            | cons q s =>
              have hne : restB r ≠ [] := by
                intro e
                rw [e, pgo_nil] at g1
                simp at g1
              have h5 := word_rest hne
              have e1 : lastW (wordB r :: q :: s) = lastW (q :: s) := by unfold lastW; simp [List.getLast?_cons_cons]
              rw [e1]
              simp only [List.length_cons] at hc g5
              have := g5 (by omega)
              simp only [parS, List.length_cons, List.length_append] at this ⊢
              omega
theorem up_byte (b : UInt8) : (letB (upB b) == letB b && digB (upB b) == digB b && upB (upB b) == upB b) = true := bytes_all (fun b => letB (upB b) == letB b && digB (upB b) == digB b && upB (upB b) == upB b) (by decide +kernel) b
theorem caps_cmd {c : List UInt8} (h : cmdB c = true) : cmdB (capsS c) = true ∧ capsS (capsS c) = capsS c := by
  have hb : ∀ b, letB (upB b) = letB b ∧ digB (upB b) = digB b ∧ upB (upB b) = upB b := fun b => by
    have := up_byte b
    simp only [Bool.and_eq_true, beq_iff_eq] at this
    exact ⟨this.1.1, this.1.2, this.2⟩
  constructor
  · unfold cmdB capsS at *
    simp only [List.all_map, List.length_map]
    have e1 : (letB ∘ upB) = letB := funext fun b => (hb b).1
    have e2 : (digB ∘ upB) = digB := funext fun b => (hb b).2.1
    rw [e1, e2]
    have e3 : (c.map upB != []) = (c != []) := by cases c <;> rfl
    rw [e3]; exact h
  · unfold capsS
    rw [List.map_map]
    exact List.map_congr_left fun b _ => (hb b).2.2
/-- What a reading gives. -/
def good (l : List UInt8) (m : Msg) : Prop := okH m.1 m.2.1 m.2.2.1 ∧ (∀ p ∈ m.2.2.2, txtB p = true) ∧ m.2.2.2.length ≤ 15 ∧ (∀ p ∈ m.2.2.2.dropLast, spare p = false) ∧ (m.1 = [] → m.2.2.2.length ≠ 15 → (plainM m).length ≤ l.length)
theorem txt_sub {r s : List UInt8} (h : txtB s = true) (hs : ∀ b ∈ r, b ∈ s) : txtB r = true := txt_iff.2 fun b hb => txt_iff.1 h b (hs b hb)
theorem pC_good {l r pre : List UInt8} {T : List Tag} (hT : T = [] ∨ checkT T = 0) (hl : txtB l = true) (hr : ∀ b ∈ r, b ∈ l) (hp : ∀ b ∈ pre, b ∈ l) (hp32 : (32 : UInt8) ∉ pre) (hlen : r ≠ [] → (if pre = [] then 0 else pre.length + 2) + r.length ≤ l.length ∨ T ≠ [])
    (h : (pC T pre r).2 = 0) : good l (pC T pre r).1 := by
  unfold pC at h ⊢
  split at h
  · cases h
  · rename_i h1
    split at h
    · cases h
    · rename_i h2
      simp only [Bool.not_eq_true', Bool.not_eq_false] at h2
      rw [if_neg h1, if_neg (by simpa using h2)]
      obtain ⟨ps, g1, g2, g3, g4, g5⟩ := pgo_parts (restB r).length (restB r) [] (Nat.le_refl _) (rest_no32 r) (by simp)
      have e : paramsM (restB r) = ps := by unfold paramsM; rw [g1]; rfl
      rw [e]
      simp only [List.length_nil, Nat.zero_add] at g2 g5
      refine ⟨⟨hT, txt_sub hl hp, hp32, (caps_cmd h2).1, (caps_cmd h2).2⟩, fun p hp => txt_sub hl fun b hb => hr b (rest_mem b (g3 p hp b hb)), g2, g4, fun hT0 h15 => ?_⟩
      have h3 := (hlen h1).resolve_right (fun hn => hn hT0)
      have h4 := g5 h15
      dsimp only at hT0 ⊢
      subst hT0
      have hcl : (capsS (wordB r)).length = (wordB r).length := by simp [capsS]
      have h5 : (headM [] pre (capsS (wordB r))).length = (if pre = [] then 0 else pre.length + 2) + (wordB r).length := by
        unfold headM
        simp only [if_true, List.nil_append, List.length_append, hcl]
        split <;> simp
      unfold plainM
      dsimp only
      rw [List.length_append, h5]
      cases ps with
      | nil => have := word_len r; simp only [parS, List.length_nil]; omega
      | cons q s =>
        have hne : restB r ≠ [] := by intro e2; rw [e2, pgo_nil] at g1; simp at g1
        have := word_rest hne
        omega
theorem pM_good {l r : List UInt8} {T : List Tag} (hT : T = [] ∨ checkT T = 0) (hl : txtB l = true) (hr : ∀ b ∈ r, b ∈ l) (hlen : r.length ≤ l.length ∨ T ≠ []) (h : (pM T r).2 = 0) : good l (pM T r).1 := by
  unfold pM at h ⊢
  cases h1 : hd r 58 with
  | false =>
    rw [h1] at h
    simp only [Bool.false_eq_true, if_false] at h ⊢
    exact pC_good hT hl hr (by simp) (by simp) (fun _ => hlen.imp (fun h => by simpa using h) id) h
  | true =>
    rw [h1] at h
    simp only [if_true] at h ⊢
    obtain ⟨t, rfl⟩ := hd_true h1
    simp only [List.drop_succ_cons, List.drop_zero] at h ⊢
    split at h
    · cases h
    · rename_i h2
      rw [if_neg h2]
      refine pC_good hT hl (fun b hb => hr b (List.mem_cons_of_mem _ (rest_mem b hb))) (fun b hb => hr b (List.mem_cons_of_mem _ (word_mem b hb))) (word_no32 t) (fun hne => hlen.imp (fun h => ?_) id) h
      have := word_rest hne
      rw [if_neg h2]
      simp only [List.length_cons] at h
      omega
theorem parse_good {l : List UInt8} (h : (parseM l).2 = 0) : good l (parseM l).1 := by
  unfold parseM at h ⊢
  split at h
  · cases h
  · rename_i h1
    rw [if_neg h1]
    split at h
    · cases h
    · rename_i h2
      rw [if_neg h2]
      simp only [Bool.not_eq_true', Bool.not_eq_false] at h2
      split at h
      · rename_i h3
        rw [if_pos h3]
        split at h
        · rename_i h4; exact absurd h h4
        · rename_i h4
          rw [if_neg h4]
          have hck := parse_check (s := wordB (l.drop 1)) (Decidable.not_not.1 h4)
          refine pM_good (.inr hck) h2 (fun b hb => List.mem_of_mem_drop (rest_mem b hb)) (.inr fun e => ?_) h
          rw [e] at hck; simp [checkT] at hck
      · rename_i h3
        rw [if_neg h3]
        exact pM_good (.inl rfl) h2 (fun b hb => hb) (.inl (Nat.le_refl _)) h
theorem good_check {l : List UInt8} {m : Msg} (h : good l m) : checkM m = if 510 < (plainM m).length then 3 else 0 := by
  obtain ⟨⟨h1, h2, h3, h4, h5⟩, h6, h7, h8, _⟩ := h
  unfold checkM
  rw [if_neg (fun hc => hc.2 (h1.resolve_left hc.1)), if_neg, if_neg, if_neg (by omega), if_neg, if_neg]
  · simp only [List.any_eq_true, not_exists, not_and, Bool.not_eq_true]
    exact h8
  · simp only [List.any_eq_true, not_exists, not_and, decide_eq_true_eq]
    exact fun p hp e => (spare_no (h8 p hp)).1 e
  · simp [h4, h5]
  · simp only [Bool.or_eq_true, Bool.not_eq_true', not_or, Bool.not_eq_false, List.contains_eq_mem, decide_eq_true_eq, List.any_eq_true, not_exists, not_and]
    exact ⟨⟨h2, h3⟩, fun p hp => by rw [h6 p hp]⟩
theorem parse_err {l : List UInt8} (h : (parseM l).2 ≠ 0) : (parseM l).1 = noMsg ∧ (l.length ≤ 510 ∨ (parseM l).2 = 3) := by
  have hC : ∀ T pre r, (pC T pre r).2 ≠ 0 → (pC T pre r).1 = noMsg := by
    intro T pre r h
    unfold pC at h ⊢
    split at h
    · rename_i h1; rw [if_pos h1]
    · rename_i h1
      rw [if_neg h1]
      split at h
      · rename_i h2; rw [if_pos h2]
      · exact absurd rfl h
  have hM : ∀ T r, (pM T r).2 ≠ 0 → (pM T r).1 = noMsg := by
    intro T r h
    unfold pM at h ⊢
    split at h
    · rename_i h1
      rw [if_pos h1]
      split at h
      · rename_i h2; rw [if_pos h2]
      · rename_i h2; rw [if_neg h2]; exact hC _ _ _ h
    · rename_i h1; rw [if_neg h1]; exact hC _ _ _ h
  unfold parseM at h ⊢
  split at h
  · rename_i h1; rw [if_pos h1]; exact ⟨rfl, .inr rfl⟩
  · rename_i h1
    rw [if_neg h1]
    refine ⟨?_, .inl (by omega)⟩
    split at h
    · rename_i h2; rw [if_pos h2]
    · rename_i h2
      rw [if_neg h2]
      split at h
      · rename_i h3
        rw [if_pos h3]
        split at h
        · rename_i h4; rw [if_pos h4]
        · rename_i h4; rw [if_neg h4]; exact hM _ _ h
      · rename_i h3; rw [if_neg h3]; exact hM _ _ h
end Go.Proofs.YtapammcnagjigaaDoor

