import Derived.Test.YtodnbkggkdadkaaMoA
set_option linter.all false
namespace Go.Proofs.Ytodnbkggkdadkaa
open Go.Vx
/-! the changes that parameters write -/
abbrev PSt := List Chg × List (List UInt8) × Nat
def stepP (p : PSt) (x : UInt8 × Bool) : PSt :=
  if takesS x.1 x.2 = false then (p.1 ++ [(x.2, x.1, [])], p.2.1, p.2.2)
  else if p.2.2 = 4 ∨ (p.2.1.length = 0 ∧ x.1 ≠ 98) then p
  else (p.1 ++ [(x.2, x.1, p.2.1.headD [])], p.2.1.tail, p.2.2 + 1)
def foldP (ss : List (List UInt8)) (l : List (UInt8 × Bool)) : PSt := l.foldl stepP ([], ss, 0)
def parseS : List (List UInt8) → List Chg
  | [] => []
  | r :: rest => (foldP rest (seqS true r)).1
theorem foldP_snoc (ss : List (List UInt8)) (l : List (UInt8 × Bool)) (x : UInt8 × Bool) : foldP ss (l ++ [x]) = stepP (foldP ss l) x := by simp [foldP]
theorem foldP_inv (ss : List (List UInt8)) (l : List (UInt8 × Bool)) : (foldP ss l).1.length ≤ l.length ∧ (foldP ss l).2.2 ≤ 4 ∧ ((foldP ss l).1.filter fun c => takesS c.2.1 c.1).length ≤ (foldP ss l).2.2 ∧ ∃ k, (foldP ss l).2.1 = ss.drop k := by
  have key : ∀ m, ∀ l : List (UInt8 × Bool), l.length = m → (foldP ss l).1.length ≤ l.length ∧ (foldP ss l).2.2 ≤ 4 ∧ ((foldP ss l).1.filter fun c => takesS c.2.1 c.1).length ≤ (foldP ss l).2.2 ∧ ∃ k, (foldP ss l).2.1 = ss.drop k := by
    intro m
    induction m with
    | zero => intro l hl; have := List.eq_nil_of_length_eq_zero hl; subst this; exact ⟨by simp [foldP], by simp [foldP], by simp [foldP], 0, by simp [foldP]⟩
    | succ m ihm =>
    intro l hl
    obtain ⟨l0, x, rfl⟩ : ∃ l0 x, l = l0 ++ [x] := ⟨l.dropLast, l.getLast (by intro e; subst e; simp at hl), (List.dropLast_concat_getLast _).symm⟩
    have ih := ihm l0 (by simpa using hl)
    rw [foldP_snoc]
    generalize foldP ss l0 = p at ih
    obtain ⟨out, rest, n⟩ := p
    obtain ⟨h1, h2, h3, k, h4⟩ := ih
    dsimp only at h1 h2 h3 h4
    unfold stepP
    dsimp only
    split
    · rename_i h
      refine ⟨by simp; omega, h2, ?_, k, h4⟩
      rw [List.filter_append]
      simpa [h] using h3
    · split
      · exact ⟨by simp; omega, h2, h3, k, h4⟩
      · rename_i h5 h6
        refine ⟨by simp; omega, by dsimp only; omega, ?_, k + 1, by rw [h4, List.tail_drop]⟩
        dsimp only
        rw [List.filter_append, List.length_append]
        have : (List.filter (fun c : Chg => takesS c.2.1 c.1) [(x.2, x.1, rest.headD [])]).length ≤ 1 := List.length_filter_le _ _
        omega
  exact key _ l rfl
instance parse_ok {K : Value → St → Prop} {w0 w : World} {H : List SL} {ds : List Deferred} {x : Value} {ss : List (List UInt8)} {n : Nat} {zs : List Value} [o : Hv w0 H w] [rf : RdsF w0 H x 1 n zs] [bz : Strs zs ss] :
    Step (Cl P 26 #[x] K ⟨w, ds⟩) ((ss.headD []).length ≤ 1000000 ∧ ∀ v w', Hv w0 (row 51 3 v (parseS ss).length ((parseS ss).flatMap encC) :: H) w' → K v ⟨w', ds⟩) := ⟨fun ⟨hb, h⟩ => by
  refine cl_ok (c26 (K := fun v w' => K v ⟨w', ds⟩) ?_ fun v w' h => ⟨v, rfl, h⟩)
  obtain rfl := bz.eq
  obtain rfl : n = ss.length := by have := (rf.rd w o).len; simpa using this.symm
  have rl := rf.loc
  unfold D26
  dsimp only
  cases ss with
  | nil =>
    repeat' (first | refine go ?_ | intro _ | refine And.intro (by (first | omega | (unfold InR; omega) | decide | (simp only [List.length_append, List.length_map, List.length_take, List.length_drop, List.length_replicate, List.length_cons, List.length_nil, List.length_set]; omega))) ?_ | (refine And.intro (fun h1 => ?_) (fun h1 => ?_) <;> first | (exact absurd h1 (by decide)) | ((try rw [h1]); (try simp only [Bool.not_eq_true', Bool.not_eq_false', decide_eq_true_eq, decide_eq_false_iff_not, Bool.and_eq_true, Bool.or_eq_true, Bool.or_eq_false_iff, Bool.and_eq_false_imp, Int.not_lt, Int.not_le, Nat.not_lt, Nat.not_le] at h1))) | dsimp only)
    all_goals first
      | exact h _ _ (by simpa [parseS] using Hv.nilRow 51 3 o)
      | (exfalso; exact absurd rfl h1)
  | cons r rest =>
    repeat' (first | refine go ?_ | intro _ | refine And.intro (by (first | omega | (unfold InR; omega) | decide | (simp only [List.length_append, List.length_map, List.length_take, List.length_drop, List.length_replicate, List.length_cons, List.length_nil, List.length_set]; omega))) ?_ | (refine And.intro (fun h1 => ?_) (fun h1 => ?_) <;> first | (exact absurd h1 (by decide)) | ((try rw [h1]); (try simp only [Bool.not_eq_true', Bool.not_eq_false', decide_eq_true_eq, decide_eq_false_iff_not, Bool.and_eq_true, Bool.or_eq_true, Bool.or_eq_false_iff, Bool.and_eq_false_imp, Int.not_lt, Int.not_le, Nat.not_lt, Nat.not_le] at h1))) | dsimp only)
    · exfalso; simp at h1; omega
    rename_i bg _ _ rv0 sb br _ _ _ _ bt _ _ w1 o1 _ _ bq w2 o2
    have hrl : (r :: rest).length ≤ maxLen := by have := (rf.rd w o).le; exact this
    have rfr : RdsF w0 H rv0 1 rest.length (rest.map str) := by simpa using RdsF.drop rf sb rfl
    refine rf_go (w0 := w0) (T := [box bq 9 [str r]]) (J := fun i => any fun q : Value × Value => many [lift (RdsF w0 H q.2 1 (foldP rest ((seqS true r).take i)).2.1.length ((foldP rest ((seqS true r).take i)).2.1.map str)),
        box bg 47 [q.1], row 51 3 q.1 (foldP rest ((seqS true r).take i)).1.length ((foldP rest ((seqS true r).take i)).1.flatMap encC), box br 41 [q.2], box bt 3 [.int .i64 (foldP rest ((seqS true r).take i)).2.2], many H])
      (XR := fun _ => lift False) (XE := fun _ _ => lift False) (seq_seq bq r hb) (fun _ => rfl) ?_ ?_ ?_ (fun b i x w' _ h => h.lifted.elim) (fun b j i x w' _ h => h.lifted.elim)
    · refine Hv.give (.slice none 0 0, rv0) (Hv.closes (H := [_, _, _, _, _, _]) ?_)
      have o3 := Hv.lift (Hv.nilRow 51 3 o2) rfr
      simp only [List.take_zero, foldP, List.foldl_nil]
      exact Sub.hv (subA (subBox rfl (subRow rfl rfl (subBox rfl (subBox rfl subM1)))))
    · intro bd l rc R F w8 i xl hi o8 hn hr hx
      obtain ⟨⟨gv, rv⟩, o9⟩ := o8.pick
      have o10 := o9.opens
      dsimp only [List.cons_append, List.nil_append, List.headD, List.tail] at o10 ⊢
      have rfv := o10.lifted
      have o11 := o10.tail
      have hlt : i < (seqS true r).length := (List.getElem?_eq_some_iff.1 hi).1
      have hxl : xl = (seqS true r).getD i default := by simp [hi]
      have ht : foldP rest ((seqS true r).take (i + 1)) = stepP (foldP rest ((seqS true r).take i)) xl := by rw [take_snoc hlt, foldP_snoc, hxl]
      have hinv := foldP_inv rest ((seqS true r).take i)
      generalize foldP rest ((seqS true r).take i) = p at *
      obtain ⟨out, rs, tk⟩ := p
      obtain ⟨c, on⟩ := xl
      dsimp only at *
      clear o8 o9 o10
      have rlv := rfv.loc
      have hb' : r.length ≤ 1000000 := hb
      have hol : out.length ≤ 1000000 := by
        have h1 := hinv.1
        have h2 := seqS_len r true
        rw [List.length_take] at h1; omega
      rw [ht] at hn
      have fin : ∀ (gv' rv' : Value) (q : PSt) (w' : World), stepP (out, rs, tk) (c, on) = q → RdsF w0 H rv' 1 q.2.1.length (q.2.1.map str) → Hv w0 (box bg 47 [gv'] :: row 51 3 gv' q.1.length (q.1.flatMap encC) :: box br 41 [rv'] :: box bt 3 [.int .i64 q.2.2] :: many H :: lpR rc l :: dfb bd :: F) w' → R (.bool true) w' := by
        intro gv' rv' q w' e hr' ho
        rw [e] at hn
        exact hn w' (Hv.give (gv', rv') (Hv.closes (H := [_, _, _, _, _, _]) (Hv.lift ho hr')))
      repeat' (first | refine go ?_ | intro _ | refine And.intro (by (first | omega | (unfold InR; omega) | decide | (simp only [List.length_append, List.length_map, List.length_take, List.length_drop, List.length_replicate, List.length_cons, List.length_nil, List.length_set]; omega))) ?_ | (refine And.intro (fun h1 => ?_) (fun h1 => ?_) <;> first | (exact absurd h1 (by decide)) | ((try rw [h1]); (try simp only [Bool.not_eq_true', Bool.not_eq_false', decide_eq_true_eq, decide_eq_false_iff_not, Bool.and_eq_true, Bool.or_eq_true, Bool.or_eq_false_iff, Bool.and_eq_false_imp, Int.not_lt, Int.not_le, Nat.not_lt, Nat.not_le] at h1))) | dsimp only)
      · refine fin _ rv (out ++ [(on, c, [])], rs, tk) _ (by unfold stepP; rw [if_pos h1]) rfv (Sub.hv (subBox rfl (subRow ?_ ?_ (subBox rfl (subBox rfl (subA (subA subEnd)))))))
        · simp
        · simp
      all_goals first
        | (exfalso; omega)
        | (refine fin gv rv (out, rs, tk) _ ?_ rfv (Sub.hv (subBox rfl (subRow rfl rfl (subBox rfl (subBox rfl (subA (subA subEnd)))))))
           unfold stepP
           rw [if_neg (by simp [*]), if_pos (by simp only [*]; first | (left; omega) | (right; exact ⟨by omega, ‹_›⟩))])
        | skip
      · have hrs : rs = [] := List.eq_nil_of_length_eq_zero (by omega)
        subst hrs
        refine fin _ rv (out ++ [(on, c, [])], [], tk + 1) _ ?_ rfv (Sub.hv (subBox rfl (subRow ?_ ?_ (subBox rfl (subBox ?_ (subA (subA subEnd)))))))
        · unfold stepP
          rw [if_neg (by intro h; rw [‹takesS c on = true›] at h; cases h), if_neg (by rintro (h | h); (exact absurd h (by dsimp only; omega)); exact h.2 ‹_›)]
          rfl
        · simp
        · simp
        · simp
      · refine fin _ _ (out ++ [(on, c, rs.headD [])], rs.tail, tk + 1) _ ?_ (by have := RdsF.drop rfv ‹SubSl rv _ 1 1 (rs.length - 1)› rfl; rwa [List.drop_one] at this) (Sub.hv (subBox rfl (subRow ?_ ?_ (subBox rfl (subBox ?_ (subA (subA subEnd)))))))
        · unfold stepP
          rw [if_neg (by intro h; rw [‹takesS c on = true›] at h; cases h), if_neg (by rintro (h | h); (exact absurd h (by dsimp only; omega)); (exact absurd h.1 (by dsimp only; omega)))]
        · simp
        · have hd : rs.getD 0 default = rs.headD [] := by cases rs <;> rfl
          rw [hd]; simp
        · simp
    · intro bd w8 o8
      obtain ⟨⟨gv, rv⟩, o9⟩ := o8.pick
      have o10 := o9.opens
      dsimp only [List.cons_append, List.nil_append] at o10
      rw [List.take_length] at o10
      have rfv := o10.lifted
      have o11 := o10.tail
      clear o8 o9 o10
      repeat' (first | refine go ?_ | intro _ | refine And.intro (by (first | omega | (unfold InR; omega) | decide | (simp only [List.length_append, List.length_map, List.length_take, List.length_drop, List.length_replicate, List.length_cons, List.length_nil, List.length_set]; omega))) ?_ | (refine And.intro (fun h1 => ?_) (fun h1 => ?_) <;> first | (exact absurd h1 (by decide)) | ((try rw [h1]); (try simp only [Bool.not_eq_true', Bool.not_eq_false', decide_eq_true_eq, decide_eq_false_iff_not, Bool.and_eq_true, Bool.or_eq_true, Bool.or_eq_false_iff, Bool.and_eq_false_imp, Int.not_lt, Int.not_le, Nat.not_lt, Nat.not_le] at h1))) | dsimp only)
      exact h _ _ (Sub.hv (subRow rfl rfl subEnd))⟩
