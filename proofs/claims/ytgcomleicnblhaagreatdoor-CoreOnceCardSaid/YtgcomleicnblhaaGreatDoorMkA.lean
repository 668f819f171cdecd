import Derived.Test.YtgcomleicnblhaaGreatDoorLbD
set_option linter.all false
namespace Go.Proofs.YtgcomleicnblhaaGreatDoor.Mk
open Go.Vx Go.Lib
/-! lines made, without tags: words -/
def hd (l : List UInt8) (c : UInt8) : Bool := decide (0 < l.length) && decide (l.take 1 = [c])
theorem hd_true {l : List UInt8} {c : UInt8} (h : hd l c = true) : ∃ t, l = c :: t := by
  cases l with
  | nil => simp [hd] at h
  | cons b t => simp [hd] at h; exact ⟨t, by rw [h]⟩
theorem hd_cons {b c : UInt8} {t : List UInt8} : hd (b :: t) c = decide (b = c) := by simp [hd]
instance count_ok {w : World} {l : List UInt8} {c : UInt8} : VT (Cl P 308 #[str l, str [c]]) w (.int .i64 (l.count c : Nat)) := ⟨fun {K ds} h => by
  refine cl_ok ((Tryz.strings_Count_one ⟨l.toArray⟩ c w).mono fun e w' ⟨he, hw⟩ => ?_)
  subst hw
  refine ⟨_, he, ?_⟩
  simpa [countByte] using h⟩
theorem idxB_some {l : List UInt8} {c : UInt8} {i : Nat} (h : l.findIdx? (· == c) = some i) : idxB l c = (i : Int) := by unfold idxB; rw [h]
theorem idxB_none {l : List UInt8} {c : UInt8} (h : l.findIdx? (· == c) = none) : idxB l c = -1 := by unfold idxB; rw [h]
def letB (b : UInt8) : Bool := (decide (65 ≤ b) && decide (b ≤ 90)) || (decide (97 ≤ b) && decide (b ≤ 122))
def cmdB (s : List UInt8) : Bool := (s != [] && s.all letB) || (decide (s.length = 3) && s.all digB)
def upB (b : UInt8) : UInt8 := if decide (97 ≤ b) && decide (b ≤ 122) then b - 32 else b
def capsS (s : List UInt8) : List UInt8 := s.map upB
def txtB (s : List UInt8) : Bool := !s.contains 0 && !s.contains 10 && !s.contains 13
theorem txt_iff {s : List UInt8} : txtB s = true ↔ ∀ b ∈ s, b ≠ 0 ∧ b ≠ 10 ∧ b ≠ 13 := by
  unfold txtB
  simp only [List.contains_eq_mem, Bool.and_eq_true, Bool.not_eq_true', decide_eq_false_iff_not]
  constructor
  · rintro ⟨⟨h1, h2⟩, h3⟩ b hb
    exact ⟨fun e => h1 (e ▸ hb), fun e => h2 (e ▸ hb), fun e => h3 (e ▸ hb)⟩
  · intro h
    exact ⟨⟨fun hm => (h _ hm).1 rfl, fun hm => (h _ hm).2.1 rfl⟩, fun hm => (h _ hm).2.2 rfl⟩
def spare (p : List UInt8) : Bool := decide (p = []) || (hd p 58 || p.contains 32)
def parS (w : List UInt8) : List (List UInt8) → List UInt8
  | [] => []
  | [p] => 32 :: (w ++ p)
  | p :: q :: r => 32 :: (p ++ parS w (q :: r))
def lastW (ps : List (List UInt8)) : List UInt8 := match ps.getLast? with | some p => if spare p then [58] else [] | none => []
def plainM (m : List Nat × List UInt8 × List UInt8 × List (List UInt8)) : List UInt8 := ((if m.2.1 = [] then [] else 58 :: (m.2.1 ++ [32])) ++ m.2.2.1) ++ parS (lastW m.2.2.2) m.2.2.2
def parI (ps : List (List UInt8)) : List UInt8 := ps.flatMap fun p => 32 :: p
theorem par_snoc (w p : List UInt8) (ps : List (List UInt8)) : parS w (ps ++ [p]) = parI ps ++ 32 :: (w ++ p) := by
  induction ps with
  | nil => rfl
  | cons q ps ih =>
    have e : parS w ((q :: ps) ++ [p]) = 32 :: (q ++ parS w (ps ++ [p])) := by cases ps <;> rfl
    rw [e, ih]; simp [parI]
def replS (l : List UInt8) (c : UInt8) (t : List UInt8) : List UInt8 := l.flatMap fun b => if b = c then t else [b]
theorem repl_app (a b : List UInt8) (c : UInt8) (t : List UInt8) : replS (a ++ b) c t = replS a c t ++ replS b c t := List.flatMap_append ..
theorem repl_no {l : List UInt8} {c : UInt8} {t : List UInt8} (h : c ∉ l) : replS l c t = l := by
  induction l with
  | nil => rfl
  | cons b l ih =>
    have hb : b ≠ c := fun e => h (by rw [e]; exact List.mem_cons_self ..)
    have := ih fun hm => h (List.mem_cons_of_mem _ hm)
    unfold replS at this ⊢
    rw [List.flatMap_cons, if_neg hb, this]; rfl
theorem repl_len (l : List UInt8) (c : UInt8) (t : List UInt8) (ht : t.length ≤ 1) : (replS l c t).length ≤ l.length := by
  induction l with
  | nil => simp [replS]
  | cons b l ih =>
    unfold replS at ih ⊢
    rw [List.flatMap_cons, List.length_append, List.length_cons]
    split
    · omega
    · simp only [List.length_cons, List.length_nil]; omega
theorem idx_count {l : List UInt8} {c : UInt8} (h : 0 < l.count c) : ∃ k : Nat, idxB l c = (k : Int) ∧ k < l.length ∧ l.getD k default = c ∧ c ∉ l.take k := by
  cases hf : l.findIdx? (· == c) with
  | none =>
    rw [List.findIdx?_eq_none_iff] at hf
    rw [List.count_pos_iff] at h
    simpa using hf c h
  | some k =>
    obtain ⟨hk, h1, h2⟩ := List.findIdx?_eq_some_iff_getElem.1 hf
    refine ⟨k, idxB_some hf, hk, by simp [hk]; simpa using h1, fun hm => ?_⟩
    obtain ⟨j, hj, he⟩ := List.getElem_of_mem hm
    simp only [List.length_take] at hj
    have := h2 j (by omega)
    simp only [List.getElem_take] at he
    simp [he] at this
theorem split_get {α : Type} [Inhabited α] {l : List α} {k : Nat} (h : k < l.length) : l = l.take k ++ l.getD k default :: l.drop (k + 1) := by
  have : l.drop k = l.getD k default :: l.drop (k + 1) := by
    rw [List.drop_eq_getElem_cons h]; congr 1; simp [h]
  rw [← this, List.take_append_drop]
instance replace_ok {K : Value → St → Prop} {w0 w : World} {H : List SL} {ds : List Deferred} {l : List UInt8} {c : UInt8} {t : List UInt8} [o : Hv w0 H w] :
    Step (Cl P 256 #[str l, str [c], str t, .int .i64 (-1)] K ⟨w, ds⟩) ((l.length ≤ 500000 ∧ t.length ≤ 1 ∧ t ≠ [c]) ∧ ∀ w', Hv w0 H w' → K (str (replS l c t)) ⟨w', ds⟩) := ⟨fun ⟨⟨hl, ht, hne⟩, h⟩ => by
  refine s256 ?_
  have hcl : l.count c ≤ l.length := List.count_le_length
  have e1 : [c].length = 1 := rfl
  unfold D256
  dsimp only
  have hd : decide ([c] = t) = false := by simpa using Ne.symm hne
  repeat ((fail_if_success (refine j1_any (fun _ _ => True) ?_ ?_)); (first | refine go ?_ | intro _ | refine ⟨sb, ?_⟩ | refine ⟨sd, ?_⟩ | dsimp only))
  rw [hd]
  refine j1_hv w0 H [] (.bool false) ?_ ?_
  · repeat' (first | refine go ?_ | intro _ | refine ⟨sb, ?_⟩ | refine ⟨sd, ?_⟩ | (refine ⟨fun h1 => ?_, fun h1 => ?_⟩ <;> first | exact ab h1 | ((try rw [h1]); (try simp only [bl] at h1))) | dsimp only)
    exact ⟨rfl, _, rfl, o⟩
  intro w1 o1
  clear o
  repeat ((fail_if_success (refine j1_any (fun _ _ => True) ?_ ?_)); (first | refine go ?_ | intro _ | refine ⟨sb, ?_⟩ | refine ⟨sd, ?_⟩ | dsimp only))
  refine j1_any (fun x s => x = .int .i64 (l.count c : Nat) ∧ 0 < l.count c ∧ ∃ w', s = ⟨w', []⟩ ∧ Hv w0 H w') ?_ ?_
  · repeat' (first | refine go ?_ | intro _ | refine ⟨sb, ?_⟩ | refine ⟨sd, ?_⟩ | (refine ⟨fun h1 => ?_, fun h1 => ?_⟩ <;> first | exact ab h1 | ((try rw [h1]); (try simp only [bl] at h1))) | dsimp only)
    · have h0 : c ∉ l := by rw [← List.count_eq_zero]; omega
      rw [repl_no h0] at h
      exact h _ (Sub.hv subEnd)
    all_goals first
      | exact ⟨rfl, by omega, _, rfl, Sub.hv subEnd⟩
      | (exfalso; simp at h1; done)
  rintro _ _ ⟨rfl, hpos, w2, rfl, o2⟩
  clear o1
  have hm : InR ((l.count c : Int) * ((t.length : Int) - ([c].length : Nat))) := by
    unfold InR
    rcases (show t.length = 0 ∨ t.length = 1 by omega) with e | e <;> rw [e] <;> simp <;> omega
  have hg : 0 ≤ (l.length : Int) + (l.count c : Int) * ((t.length : Int) - ([c].length : Nat)) ∧ (l.length : Int) + (l.count c : Int) * ((t.length : Int) - ([c].length : Nat)) ≤ 1000000 := by
    rcases (show t.length = 0 ∨ t.length = 1 by omega) with e | e <;> rw [e] <;> simp <;> omega
  generalize hX : (l.count c : Int) * ((t.length : Int) - ([c].length : Nat)) = X at hm hg
  repeat ((fail_if_success (refine j1_any (fun _ _ => True) ?_ ?_)); (first | refine go ?_ | intro _ | refine ⟨sb, ?_⟩ | refine ⟨sd, ?_⟩ | dsimp only))
  all_goals (try rw [hX])
  repeat ((fail_if_success (refine j1_any (fun _ _ => True) ?_ ?_)); (first | refine go ?_ | intro _ | refine ⟨sb, ?_⟩ | refine ⟨sd, ?_⟩ | dsimp only))
  rename_i b1 _ _ w3 o3
  refine j1_any (fun x s => ∃ (st : Nat) (w' : World), x = .int .i64 st ∧ s = ⟨w', []⟩ ∧ st ≤ l.length ∧ c ∉ l.drop st ∧ Hv w0 (sbd 321 5 b1 (replS (l.take st) c t) :: H) w') ?_ ?_
  · repeat (first | refine go ?_ | intro _ | refine ⟨sb, ?_⟩ | refine ⟨sd, ?_⟩ | dsimp only)
    refine And.intro (fun _ => ?_) (fun h1 => ?_)
    · refine ⟨fun x y s => ∃ (st i : Nat) (w' : World), x = .int .i64 st ∧ y = .int .i64 i ∧ s = ⟨w', []⟩ ∧ st ≤ l.length ∧ (l.drop st).count c + i = l.count c ∧ Hv w0 (sbd 321 5 b1 (replS (l.take st) c t) :: H) w',
        fun _ y s => match y with | .int _ z => l.count c - z.toNat | _ => 0, ⟨0, 0, w3, rfl, rfl, rfl, Nat.zero_le _, by simp, o3⟩, ?_⟩
      rintro x y s ⟨st, i, w4, rfl, rfl, rfl, hst, hi, o4⟩
      clear o3 o2
      have hr := repl_len (l.take st) c t ht
      have hl2 : (l.take st).length ≤ l.length := by rw [List.length_take]; omega
      rcases Nat.lt_or_ge i (l.count c) with hlt | hge
      · obtain ⟨k, hk, hkl, hkc, hno⟩ := idx_count (l := l.drop st) (c := c) (by omega)
        have hdl : (l.drop st).length = l.length - st := List.length_drop
        have hz : ((st : Int) + idxB (l.drop st) c).toNat = st + k := by omega
        have hpl : ((l.take ((st : Int) + idxB (l.drop st) c).toNat).drop st).length ≤ 1000000 := by simp; omega
        have hpl2 : ((l.take ((st : Int) + idxB (l.drop st) c).toNat).drop st).length = k := by rw [hz]; simp; omega
        repeat' (first | refine go ?_ | intro _ | refine ⟨sb, ?_⟩ | refine ⟨sd, ?_⟩ | (refine ⟨fun h1 => ?_, fun h1 => ?_⟩ <;> first | exact ab h1 | ((try rw [h1]); (try simp only [bl] at h1))) | dsimp only)
        · have e2 : (l.take ((st : Int) + idxB (l.drop st) c).toNat).drop st = (l.drop st).take k := by rw [hz, List.take_drop]
          have e3 : l.take (st + k + 1) = l.take st ++ ((l.drop st).take k ++ [c]) := by
            have : (l.drop st).take (k + 1) = (l.drop st).take k ++ [c] := by rw [take_snoc hkl, hkc]
            rw [← this, Nat.add_assoc, List.take_add]
          have e4 : replS (l.take st) c t ++ (l.take ((st : Int) + idxB (l.drop st) c).toNat).drop st ++ t = replS (l.take (st + k + 1)) c t := by
            rw [e3, e2, repl_app, repl_app, repl_no hno]
            simp [replS]
          refine ⟨⟨st + k + 1, i + 1, _, by rw [hk]; simp, rfl, rfl, by omega, ?_, Sub.hv (subSb e4 subEnd)⟩, by simp; omega⟩
          have : (l.drop st).count c = (l.drop (st + k + 1)).count c + 1 := by
            have e5 : l.drop st = (l.drop st).take k ++ c :: l.drop (st + k + 1) := by
              have := split_get hkl
              rw [hkc, List.drop_drop] at this
              rw [show st + k + 1 = st + (k + 1) by omega]; exact this
            conv => lhs; rw [e5]
            rw [List.count_append, List.count_cons_self, List.count_eq_zero.2 hno]; omega
          omega
        · exfalso; simp at h1; omega
      · repeat' (first | refine go ?_ | intro _ | refine ⟨sb, ?_⟩ | refine ⟨sd, ?_⟩ | (refine ⟨fun h1 => ?_, fun h1 => ?_⟩ <;> first | exact ab h1 | ((try rw [h1]); (try simp only [bl] at h1))) | dsimp only)
        · exfalso; simp at h1; omega
        · exact ⟨st, _, rfl, rfl, hst, by rw [← List.count_eq_zero]; omega, Sub.hv (subSb rfl subEnd)⟩
    · exfalso; simp at h1
  · rintro _ _ ⟨st, w4, rfl, rfl, hst, hno, o4⟩
    clear o3 o2
    have e : replS l c t = replS (l.take st) c t ++ l.drop st := by
      conv => lhs; rw [← List.take_append_drop st l, repl_app, repl_no hno]
    have hr := repl_len (l.take st) c t ht
    have hl2 : (l.take st).length ≤ l.length := by rw [List.length_take]; omega
    repeat' (first | refine go ?_ | intro _ | refine ⟨sb, ?_⟩ | refine ⟨sd, ?_⟩ | (refine ⟨fun h1 => ?_, fun h1 => ?_⟩ <;> first | exact ab h1 | ((try rw [h1]); (try simp only [bl] at h1))) | dsimp only)
    rw [e] at h
    exact h _ (Sub.hv subEnd)⟩
instance replaceAll_ok {K : Value → St → Prop} {w0 w : World} {H : List SL} {ds : List Deferred} {l : List UInt8} {c : UInt8} {t : List UInt8} [o : Hv w0 H w] :
    Step (Cl P 176 #[str l, str [c], str t] K ⟨w, ds⟩) ((l.length ≤ 500000 ∧ t.length ≤ 1 ∧ t ≠ [c]) ∧ ∀ w', Hv w0 H w' → K (str (replS l c t)) ⟨w', ds⟩) := ⟨fun ⟨hs, h⟩ => by
  refine s176 ?_
  unfold D176
  dsimp only
  refine go (And.intro hs ?_)
  intro w1 o1
  repeat' (first | refine go ?_ | intro _ | refine ⟨sb, ?_⟩ | refine ⟨sd, ?_⟩ | (refine ⟨fun h1 => ?_, fun h1 => ?_⟩ <;> first | exact ab h1 | ((try rw [h1]); (try simp only [bl] at h1))) | dsimp only)
  exact h _ o1⟩
end Go.Proofs.YtgcomleicnblhaaGreatDoor.Mk

