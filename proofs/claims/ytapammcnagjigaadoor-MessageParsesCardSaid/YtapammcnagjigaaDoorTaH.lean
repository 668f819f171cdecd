import Derived.Test.YtapammcnagjigaaDoorTaG
set_option linter.all false
namespace Go.Proofs.YtapammcnagjigaaDoor
open Go.Vx Go.Lib
/-! the tags of a text -/
def valBad (v : List UInt8) : Bool := v.any (([0, 13, 10, 32] : List UInt8).contains ·)
def partE (p : List UInt8) : Int := if nameE (cutB p 61).1 ≠ 0 then nameE (cutB p 61).1 else if valBad (cutB p 61).2.1 then 10 else 0
def partT (p : List UInt8) : Tag := ((cutB p 61).1, unescS (cutB p 61).2.1)
def insT (out : List Tag) (t : Tag) : List Tag := match out.findIdx? fun u => decide (u.1 = t.1) with | some i => out.set i t | none => out ++ [t]
def goP (out : List Tag) : List (List UInt8) → List Tag × Int
  | [] => if 16 < out.length then ([], 7) else (out, 0)
  | p :: ps => if partE p ≠ 0 then ([], partE p) else goP (insT out (partT p)) ps
def parseT (l : List UInt8) : List Tag × Int := goP [] (splitS 59 l)
theorem atS_lt (out : List Tag) (n : List UInt8) : atS out n < (out.length : Int) := by
  unfold atS
  cases h : out.findIdx? fun t => decide (t.1 = n) with
  | none => simp; omega
  | some i => have := (List.findIdx?_eq_some_iff_getElem.1 h).1; simp; omega
theorem insT_at (out : List Tag) (t : Tag) : insT out t = if 0 ≤ atS out t.1 then out.set (atS out t.1).toNat t else out ++ [t] := by
  unfold insT atS
  cases h : out.findIdx? fun u => decide (u.1 = t.1) with
  | none => simp
  | some i => simp
theorem insT_len (out : List Tag) (t : Tag) : (insT out t).length ≤ out.length + 1 := by
  unfold insT; split <;> simp
theorem goP_drop {out : List Tag} {ps : List (List UInt8)} {i : Nat} (h : i < ps.length) : goP out (ps.drop i) = if partE (ps.getD i default) ≠ 0 then ([], partE (ps.getD i default)) else goP (insT out (partT (ps.getD i default))) (ps.drop (i + 1)) := by
  have : ps.drop i = ps.getD i default :: ps.drop (i + 1) := by
    rw [List.drop_eq_getElem_cons h]; congr 1; simp [h]
  rw [this, goP]
theorem cut_len (l : List UInt8) (c : UInt8) : (cutB l c).1.length ≤ l.length ∧ (cutB l c).2.1.length ≤ l.length := by
  unfold cutB; split <;> simp
  exact Nat.min_le_right _ _
theorem split_mem {c : UInt8} {l : List UInt8} : ∀ p ∈ splitS c l, p.length ≤ l.length := by
  induction l with
  | nil => simp [splitS]
  | cons b t ih =>
    intro p hp
    simp only [splitS] at hp
    split at hp
    · rcases List.mem_cons.1 hp with e | e
      · subst e; simp
      · have := ih p e; simp; omega
    · cases hs : splitS c t with
      | nil => rw [hs] at hp; simp at hp; subst hp; simp
      | cons h r =>
        rw [hs] at hp ih
        rcases List.mem_cons.1 hp with e | e
        · subst e; have := ih h (by simp); simp; exact this
        · have := ih p (by simp [e]); simp; omega
theorem unesc_len (l : List UInt8) : (unescS l).length ≤ l.length := by
  have := foldU_len l l.length (Nat.le_refl _)
  rwa [List.take_length] at this
section
variable {K : Value → St → Prop} {w0 w : World} {H R : List SL} {ds : List Deferred}
set_option maxRecDepth 20000
set_option synthInstance.maxSize 100000
set_option synthInstance.maxHeartbeats 4000000
instance parse_ok {l : List UInt8} [o : Hv w0 H w] :
    Step (Cl P 40 #[str l] K ⟨w, ds⟩) (l.length ≤ 20000 ∧ ∀ v w', Hv w0 (row 71 2 v (parseT l).1.length ((parseT l).1.flatMap encT) :: H) w' → K (.tuple #[v, .int .i64 (parseT l).2]) ⟨w', ds⟩) := ⟨fun ⟨hl, h⟩ => by
  refine cl_ok (c40 (K := fun v w' => K v ⟨w', ds⟩) ?_ fun v w' h => ⟨v, rfl, h⟩)
  unfold D40
  dsimp only
  repeat (first | refine go ?_ | intro _ | refine And.intro (Sd.mk (by (first | exact fun _ => True.intro | exact And.intro (fun _ => True.intro) (fun _ _ => True.intro) | (intro hq; (first | exact True.intro | omega | (simp only [and_true]; omega) | (simp only [bl] at hq; (try simp only [and_true]); omega) | fail)) | exact And.intro (fun hq => by first | exact True.intro | omega | (simp only [and_true]; omega) | (simp only [bl] at hq; (try simp only [and_true]); omega) | fail) (fun hq hr => by first | exact True.intro | omega | (simp only [and_true]; omega) | (simp only [bl] at hq hr; omega) | (simp only [bl] at hr; omega) | fail) | fail))) ?_ | refine And.intro (by (first | omega | (unfold InR; omega) | decide | (simp only [ll]; omega))) ?_ | dsimp only)
  rename_i v1 w1 o1
  have hpl : (splitS 59 l).length ≤ 20001 := by
    rw [splitS_len]; have := List.count_le_length (a := (59 : UInt8)) (l := l); omega
  have hpm := @split_mem 59 l
  unfold parseT at h
  generalize hps : splitS 59 l = ps at *
  refine ⟨fun x y s => ∃ (i : Nat) (out : List Tag) (w' : World), y = .int .i64 i ∧ s = ⟨w', []⟩ ∧ i ≤ ps.length ∧ out.length ≤ i ∧ goP [] ps = goP out (ps.drop i) ∧ Hv w0 (row 71 2 x out.length (out.flatMap encT) :: row 9 1 v1 ps.length (ps.map str) :: H) w',
    fun _ y s => match y with | .int _ z => ps.length - z.toNat | _ => 0, ⟨0, [], w1, rfl, rfl, Nat.zero_le _, Nat.zero_le _, rfl, Hv.nilRow 71 2 o1⟩, ?_⟩
  clear o1
  rintro x y s ⟨i, out, w2, rfl, rfl, hi, ho, hg, o2⟩
  rcases Nat.lt_or_ge i ps.length with hlt | hge
  · have hp1 : (ps.getD i default).length ≤ 20000 := by
      have := hpm (ps.getD i default) (by rw [List.getD_eq_getElem?_getD, List.getElem?_eq_getElem hlt]; exact List.getElem_mem hlt)
      omega
    have hgd := goP_drop (out := out) hlt
    rw [hgd] at hg
    have hcl := cut_len (ps.getD i default) 61
    have hul := unesc_len (cutB (ps.getD i default) 61).2.1
    have hnl := insT_len out (partT (ps.getD i default))
    have hE : partE (ps.getD i default) = if nameE (cutB (ps.getD i default) 61).1 ≠ 0 then nameE (cutB (ps.getD i default) 61).1 else if valBad (cutB (ps.getD i default) 61).2.1 then 10 else 0 := rfl
    have hT : partT (ps.getD i default) = ((cutB (ps.getD i default) 61).1, unescS (cutB (ps.getD i default) 61).2.1) := rfl
    rw [hT] at hg hgd hnl
    clear hgd
    have c1 : (cutB (ps.getD i default) 61).1.length ≤ 1000000 := by omega
    have c2 : (cutB (ps.getD i default) 61).2.1.length ≤ 100000 := by omega
    have c3 : (cutB (ps.getD i default) 61).2.1.length ≤ 1000000 := by omega
    have hch : ∀ b ∈ ([0, 13, 10, 32] : List UInt8), b.toNat < 128 := by decide
    have hany : (cutB (ps.getD i default) 61).2.1.any (([0, 13, 10, 32] : List UInt8).contains ·) = valBad (cutB (ps.getD i default) 61).2.1 := rfl
    repeat' (first | refine go ?_ | intro _ | refine And.intro (Sd.mk (by (first | exact fun _ => True.intro | exact And.intro (fun _ => True.intro) (fun _ _ => True.intro) | (intro hq; (first | exact True.intro | omega | (simp only [and_true]; omega) | (simp only [bl] at hq; (try simp only [and_true]); omega) | fail)) | exact And.intro (fun hq => by first | exact True.intro | omega | (simp only [and_true]; omega) | (simp only [bl] at hq; (try simp only [and_true]); omega) | fail) (fun hq hr => by first | exact True.intro | omega | (simp only [and_true]; omega) | (simp only [bl] at hq hr; omega) | (simp only [bl] at hr; omega) | fail) | fail))) ?_ | refine And.intro (by (first | omega | (unfold InR; omega) | decide | (simp only [ll]; omega))) ?_ | (refine And.intro (fun h1 => ?_) (fun h1 => ?_) <;> first | (exact absurd h1 (by decide)) | ((try rw [h1]); (try simp only [bl] at h1))) | dsimp only)
    · have e : partE (ps.getD i default) = nameE (cutB (ps.getD i default) 61).1 := by rw [hE, if_pos h1]
      rw [if_pos (by rw [e]; exact h1), e] at hg
      rw [hg] at h
      exact h _ _ (Hv.nilRow 71 2 (Sub.hv subEnd))
    · refine And.intro ⟨c3, by decide, by decide, hch⟩ ?_
      rw [hany]
      have hn0 := h1
      have hlt3 := atS_lt out (cutB (ps.getD i default) 61).1
      have hia := insT_at out ((cutB (ps.getD i default) 61).1, unescS (cutB (ps.getD i default) 61).2.1)
      dsimp only at hia
      repeat' (first | refine go ?_ | intro _ | refine And.intro (Sd.mk (by (first | exact fun _ => True.intro | exact And.intro (fun _ => True.intro) (fun _ _ => True.intro) | (intro hq; (first | exact True.intro | omega | (simp only [and_true]; omega) | (simp only [bl] at hq; (try simp only [and_true]); omega) | fail)) | exact And.intro (fun hq => by first | exact True.intro | omega | (simp only [and_true]; omega) | (simp only [bl] at hq; (try simp only [and_true]); omega) | fail) (fun hq hr => by first | exact True.intro | omega | (simp only [and_true]; omega) | (simp only [bl] at hq hr; omega) | (simp only [bl] at hr; omega) | fail) | fail))) ?_ | refine And.intro (by (first | omega | (unfold InR; omega) | decide | (simp only [ll]; omega))) ?_ | (refine And.intro (fun h1 => ?_) (fun h1 => ?_) <;> first | (exact absurd h1 (by decide)) | ((try rw [h1]); (try simp only [bl] at h1))) | dsimp only)
      · have e : partE (ps.getD i default) = 10 := by rw [hE, if_neg (fun q => q hn0), if_pos h1]
        rw [if_pos (by rw [e]; decide), e] at hg
        rw [hg] at h
        exact h _ _ (Hv.nilRow 71 2 (Sub.hv subEnd))
      · have e : partE (ps.getD i default) = 0 := by rw [hE, if_neg (fun q => q hn0), if_neg (by rw [h1]; decide)]
        rw [if_neg (by rw [e]; decide)] at hg
        refine And.intro ?_ ?_
        all_goals repeat' (first | refine go ?_ | intro _ | refine And.intro (Sd.mk (by (first | exact fun _ => True.intro | exact And.intro (fun _ => True.intro) (fun _ _ => True.intro) | (intro hq; (first | exact True.intro | omega | (simp only [and_true]; omega) | (simp only [bl] at hq; (try simp only [and_true]); omega) | fail)) | exact And.intro (fun hq => by first | exact True.intro | omega | (simp only [and_true]; omega) | (simp only [bl] at hq; (try simp only [and_true]); omega) | fail) (fun hq hr => by first | exact True.intro | omega | (simp only [and_true]; omega) | (simp only [bl] at hq hr; omega) | (simp only [bl] at hr; omega) | fail) | fail))) ?_ | refine And.intro (by (first | omega | (unfold InR; omega) | decide | (simp only [ll]; omega))) ?_ | (refine And.intro (fun h1 => ?_) (fun h1 => ?_) <;> first | (exact absurd h1 (by decide)) | ((try rw [h1]); (try simp only [bl] at h1))) | dsimp only)
        all_goals
          refine ⟨⟨i + 1, _, _, rfl, rfl, by omega, by omega, hg, Sub.hv (subRow ?_ ?_ (subRow rfl rfl subEnd))⟩, by simp; omega⟩
          · rw [hia]
            first
              | rw [if_pos h1, List.length_set]
              | rw [if_neg (by omega), List.length_append, List.length_singleton]
          · rw [hia]
            first
              | rw [if_pos h1]
              | (rw [if_neg (by omega), List.flatMap_append]; rfl)
    · exfalso; omega
  · repeat' (first | refine go ?_ | intro _ | refine And.intro (Sd.mk (by (first | exact fun _ => True.intro | exact And.intro (fun _ => True.intro) (fun _ _ => True.intro) | (intro hq; (first | exact True.intro | omega | (simp only [and_true]; omega) | (simp only [bl] at hq; (try simp only [and_true]); omega) | fail)) | exact And.intro (fun hq => by first | exact True.intro | omega | (simp only [and_true]; omega) | (simp only [bl] at hq; (try simp only [and_true]); omega) | fail) (fun hq hr => by first | exact True.intro | omega | (simp only [and_true]; omega) | (simp only [bl] at hq hr; omega) | (simp only [bl] at hr; omega) | fail) | fail))) ?_ | refine And.intro (by (first | omega | (unfold InR; omega) | decide | (simp only [ll]; omega))) ?_ | (refine And.intro (fun h1 => ?_) (fun h1 => ?_) <;> first | (exact absurd h1 (by decide)) | ((try rw [h1]); (try simp only [bl] at h1))) | dsimp only)
    all_goals
      rw [List.drop_of_length_le hge] at hg
    all_goals first
      | (have hgt : 16 < out.length := by omega
         have e : goP out [] = ([], 7) := by rw [goP, if_pos hgt]
         rw [hg, e] at h
         exact h _ _ (Hv.nilRow 71 2 (Sub.hv subEnd)))
      | (have hgt : ¬ 16 < out.length := by omega
         have e : goP out [] = (out, 0) := by rw [goP, if_neg hgt]
         rw [hg, e] at h
         exact h _ _ (Sub.hv (subRow rfl rfl subEnd)))
      | (exfalso; omega)⟩
end
end Go.Proofs.YtapammcnagjigaaDoor
