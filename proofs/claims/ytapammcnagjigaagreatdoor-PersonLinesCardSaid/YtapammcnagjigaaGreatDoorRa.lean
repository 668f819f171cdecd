import Derived.Test.YtapammcnagjigaaGreatDoorMo
set_option linter.all false
namespace Go.Proofs.YtapammcnagjigaaGreatDoor
open Go.Vx Go.Lib
/-! the reference's lines -/
theorem dash_map (l : List UInt8) : dash l = l.map fun b => if b = 32 then 45 else b := by
  unfold dash replS
  induction l with
  | nil => rfl
  | cons b l ih => rw [List.flatMap_cons, ih, List.map_cons]; split <;> rfl
def dashT (st : Bool) (l : List UInt8) : List UInt8 := if st then unc (dash l) else dash l
theorem dashT_len (st : Bool) (l : List UInt8) : (dashT st l).length = l.length := by
  unfold dashT; split
  · rw [unc_len, dash_len]
  · exact dash_len l
theorem dash_at {l : List UInt8} {i : Nat} (h : i < l.length) : (dash l).getD i default = if l.getD i default = 32 then 45 else l.getD i default := by
  rw [dash_map, List.getD_eq_getElem?_getD, List.getElem?_map, getD_at h]; rfl
theorem hd_dash (l : List UInt8) : hd (dash l) 58 = hd l 58 := by
  rw [dash_map]
  cases l with
  | nil => rfl
  | cons b t =>
    rw [List.map_cons, hd_cons, hd_cons]
    by_cases h : b = 32
    · subst h; decide
    · rw [if_neg h]
theorem dashT_at {st : Bool} {l : List UInt8} {i : Nat} (h : i < l.length) : (dashT st l).getD i default = if l.getD i default = 32 ∨ (st = true ∧ i = 0 ∧ l.getD i default = 58) then 45 else l.getD i default := by
  cases st with
  | false =>
    rw [show dashT false l = dash l from rfl, dash_at h]
    simp
  | true =>
    rw [show dashT true l = unc (dash l) from rfl]
    unfold unc
    rw [hd_dash]
    cases l with
    | nil => simp at h
    | cons b t =>
      rw [hd_cons]
      cases i with
      | zero =>
        by_cases hb : b = 58
        · subst hb; rw [dash_map]; simp
        · rw [decide_eq_false hb, dash_map]; simp [hb]
      | succ i =>
        by_cases hb : b = 58
        · subst hb; rw [dash_map]; simp [List.getElem?_set]
          cases h2 : t[i]? with
          | none => simp at h; have := List.getElem?_eq_none_iff.1 h2; omega
          | some c => simp
        · rw [decide_eq_false hb, dash_map]; simp
          cases h2 : t[i]? with
          | none => simp at h; have := List.getElem?_eq_none_iff.1 h2; omega
          | some c => simp
section
set_option maxRecDepth 20000
set_option synthInstance.maxSize 100000
set_option synthInstance.maxHeartbeats 4000000
variable {K : Value → St → Prop} {w0 w : World} {H R : List SL} {ds : List Deferred} {l : List UInt8}
instance cleanR_ok [o : Hv w0 H w] : Step (Cl P 120 #[str l, .int .i64 l.length] K ⟨w, ds⟩) (l.length ≤ 1000000 ∧ ∀ w', Hv w0 H w' → K (str (cleanS l)) ⟨w', ds⟩) := ⟨fun ⟨hl, h⟩ => by
  refine cl_ok (c120 (K := fun v w' => K v ⟨w', ds⟩) ?_ fun v w' h => ⟨v, rfl, h⟩)
  unfold D120
  refine ⟨fun x y s => ∃ (i : Nat) (w' : World), x = str (cleanS (l.take i)) ∧ y = .int .i64 i ∧ s = ⟨w', []⟩ ∧ i ≤ l.length ∧ Hv w0 H w', fun _ y s => match y with | .int _ z => l.length - z.toNat | _ => 0, ⟨0, w, rfl, rfl, rfl, Nat.zero_le _, o⟩, ?_⟩
  rintro x y s ⟨i, w2, rfl, rfl, rfl, hi, o2⟩
  clear o
  have hcl := clean_len (l.take i)
  rw [List.length_take] at hcl
  rcases Nat.lt_or_ge i l.length with hlt | hge
  · have hsn := clean_snoc hlt
    have hone : (l.take (i + 1)).drop i = [l.getD i default] := one_piece hlt rfl
    have hok : okT (l.getD i default) = true ↔ (¬ l.getD i default = 0 ∧ ¬ l.getD i default = 10) ∧ ¬ l.getD i default = 13 := by simp [okT]
    repeat' (first | refine go ?_ | intro _ | refine And.intro (Sd.mk (by (first | exact fun _ => True.intro | exact And.intro (fun _ => True.intro) (fun _ _ => True.intro) | (intro hq; (first | exact True.intro | omega | (simp only [and_true]; omega) | (simp only [bl] at hq; (try simp only [and_true]); omega) | fail)) | exact And.intro (fun hq => by first | exact True.intro | omega | (simp only [and_true]; omega) | (simp only [bl] at hq; (try simp only [and_true]); omega) | fail) (fun hq hr => by first | exact True.intro | omega | (simp only [and_true]; omega) | (simp only [bl] at hq hr; omega) | (simp only [bl] at hr; omega) | fail) | fail))) ?_ | refine And.intro (by (first | omega | (unfold InR; omega) | decide | (simp only [ll]; omega))) ?_ | (refine And.intro (fun h1 => ?_) (fun h1 => ?_) <;> first | (exact absurd h1 (by decide)) | ((try rw [h1]); (try simp only [bl] at h1))) | dsimp only)
    · refine ⟨⟨i + 1, _, ?_, rfl, rfl, hlt, o2⟩, by omega⟩
      rw [show ((i : Int) + 1).toNat = i + 1 by omega, hone, hsn, if_pos (hok.2 h1.1)]
    · refine ⟨⟨i + 1, _, ?_, rfl, rfl, hlt, o2⟩, by omega⟩
      rw [hsn, if_neg, List.append_nil]
      intro hc
      have h2 := h1 (hok.1 hc)
      omega
    · exfalso; omega
  · repeat' (first | refine go ?_ | intro _ | refine And.intro (Sd.mk (by (first | exact fun _ => True.intro | exact And.intro (fun _ => True.intro) (fun _ _ => True.intro) | (intro hq; (first | exact True.intro | omega | (simp only [and_true]; omega) | (simp only [bl] at hq; (try simp only [and_true]); omega) | fail)) | exact And.intro (fun hq => by first | exact True.intro | omega | (simp only [and_true]; omega) | (simp only [bl] at hq; (try simp only [and_true]); omega) | fail) (fun hq hr => by first | exact True.intro | omega | (simp only [and_true]; omega) | (simp only [bl] at hq hr; omega) | (simp only [bl] at hr; omega) | fail) | fail))) ?_ | refine And.intro (by (first | omega | (unfold InR; omega) | decide | (simp only [ll]; omega))) ?_ | (refine And.intro (fun h1 => ?_) (fun h1 => ?_) <;> first | (exact absurd h1 (by decide)) | ((try rw [h1]); (try simp only [bl] at h1))) | dsimp only)
    · exfalso; omega
    · rw [List.take_of_length_le hge]; exact h _ o2⟩
instance dashed_ok {st : Bool} [o : Hv w0 H w] : Step (Cl P 119 #[str l, .bool st] K ⟨w, ds⟩) (l.length ≤ 1000000 ∧ ∀ w', Hv w0 H w' → K (str (dashT st l)) ⟨w', ds⟩) := ⟨fun ⟨hl, h⟩ => by
  refine cl_ok (c119 (K := fun v w' => K v ⟨w', ds⟩) ?_ fun v w' h => ⟨v, rfl, h⟩)
  unfold D119
  refine ⟨fun x y s => ∃ (i : Nat) (w' : World), x = str ((dashT st l).take i) ∧ y = .int .i64 i ∧ s = ⟨w', []⟩ ∧ i ≤ l.length ∧ Hv w0 H w', fun _ y s => match y with | .int _ z => l.length - z.toNat | _ => 0, ⟨0, w, rfl, rfl, rfl, Nat.zero_le _, o⟩, ?_⟩
  rintro x y s ⟨i, w2, rfl, rfl, rfl, hi, o2⟩
  clear o
  have hdl := dashT_len st l
  have htl : ((dashT st l).take i).length = i := by rw [List.length_take]; omega
  rcases Nat.lt_or_ge i l.length with hlt | hge
  · have hone : (l.take (i + 1)).drop i = [l.getD i default] := one_piece hlt rfl
    have hat := dashT_at (st := st) hlt
    have hsn : (dashT st l).take (i + 1) = (dashT st l).take i ++ [(dashT st l).getD i default] := take_snoc (by omega)
    rw [hat] at hsn
    have e1 : ((i : Int) + 1).toNat = i + 1 := by omega
    repeat' (first | refine go ?_ | intro _ | refine And.intro (Sd.mk (by (first | exact fun _ => True.intro | exact And.intro (fun _ => True.intro) (fun _ _ => True.intro) | (intro hq; (first | exact True.intro | omega | (simp only [and_true]; omega) | (simp only [bl] at hq; (try simp only [and_true]); omega) | fail)) | exact And.intro (fun hq => by first | exact True.intro | omega | (simp only [and_true]; omega) | (simp only [bl] at hq; (try simp only [and_true]); omega) | fail) (fun hq hr => by first | exact True.intro | omega | (simp only [and_true]; omega) | (simp only [bl] at hq hr; omega) | (simp only [bl] at hr; omega) | fail) | fail))) ?_ | refine And.intro (by (first | omega | (unfold InR; omega) | decide | (simp only [ll]; omega))) ?_ | (refine And.intro (fun h1 => ?_) (fun h1 => ?_) <;> first | (exact absurd h1 (by decide)) | ((try rw [h1]); (try simp only [bl] at h1))) | dsimp only)
    · rename_i hst
      rw [hst, if_pos (.inr ⟨rfl, by have := h1.resolve_left (by decide); omega, (h1.resolve_left (by decide)).2⟩)] at hsn
      exact ⟨⟨i + 1, _, by rw [hsn], rfl, rfl, hlt, o2⟩, by omega⟩
    · rename_i hst
      rw [hst, if_neg (by rintro (h | ⟨_, h2, h3⟩); exact absurd h (by assumption); exact h1.2 (by omega) h3)] at hsn
      exact ⟨⟨i + 1, _, by rw [e1, hone, hsn], rfl, rfl, hlt, o2⟩, by omega⟩
    · exfalso; simp at h1
    · rename_i hst
      rw [hst, if_neg (by rintro (h | ⟨h2, _⟩); exact absurd h (by assumption); exact absurd h2 (by decide))] at hsn
      exact ⟨⟨i + 1, _, by rw [e1, hone, hsn], rfl, rfl, hlt, o2⟩, by omega⟩
    · rw [if_pos (.inl h1)] at hsn
      exact ⟨⟨i + 1, _, by rw [hsn], rfl, rfl, hlt, o2⟩, by omega⟩
    · exfalso; omega
  · repeat' (first | refine go ?_ | intro _ | refine And.intro (Sd.mk (by (first | exact fun _ => True.intro | exact And.intro (fun _ => True.intro) (fun _ _ => True.intro) | (intro hq; (first | exact True.intro | omega | (simp only [and_true]; omega) | (simp only [bl] at hq; (try simp only [and_true]); omega) | fail)) | exact And.intro (fun hq => by first | exact True.intro | omega | (simp only [and_true]; omega) | (simp only [bl] at hq; (try simp only [and_true]); omega) | fail) (fun hq hr => by first | exact True.intro | omega | (simp only [and_true]; omega) | (simp only [bl] at hq hr; omega) | (simp only [bl] at hr; omega) | fail) | fail))) ?_ | refine And.intro (by (first | omega | (unfold InR; omega) | decide | (simp only [ll]; omega))) ?_ | (refine And.intro (fun h1 => ?_) (fun h1 => ?_) <;> first | (exact absurd h1 (by decide)) | ((try rw [h1]); (try simp only [bl] at h1))) | dsimp only)
    · exfalso; omega
    · have e : (dashT st l).take i = dashT st l := List.take_of_length_le (by omega)
      rw [e]; exact h _ o2⟩
variable {xp : Value} {ps : List (List UInt8)} {np : Nat} {zp : List Value} {pre cmd : List UInt8}
theorem mkAtR (ps : List (List UInt8)) {i : Nat} : mkAt ps i = if i + 1 < ps.length then (if dashT true (cleanS (ps.getD i default)) = [] then [42] else dashT true (cleanS (ps.getD i default))) else cleanS (ps.getD i default) := by
  unfold mkAt midS
  by_cases h : cleanS (ps.getD i default) = []
  · rw [h]; rfl
  · have : dashT true (cleanS (ps.getD i default)) ≠ [] := fun e => h (List.eq_nil_of_length_eq_zero (by rw [← dashT_len true, e]; rfl))
    rw [if_neg h, if_neg this]; rfl
instance makeR_ok [o : Hv w0 H w] [rp : RdsF w0 H xp 1 np zp] [ep : Strs zp ps] :
    Step (Cl P 87 #[str pre, str cmd, xp] K ⟨w, ds⟩) ((pre.length ≤ 10000 ∧ cmd.length ≤ 10000 ∧ ps.length ≤ 100 ∧ ∀ p ∈ ps, p.length ≤ 999) ∧ ∀ w', Hv w0 H w' → K (str (makeS pre cmd ps)) ⟨w', ds⟩) := ⟨fun ⟨⟨hpl, hcl, hps, hpp⟩, h⟩ => by
  refine cl_ok (c87 (K := fun v w' => K v ⟨w', ds⟩) ?_ fun v w' h => ⟨v, rfl, h⟩)
  have lp : RdsL w0 H xp 1 np zp := rp.loc
  have r1 := rp.rd w o
  have em : np = ps.length := by have := r1.len; rw [ep.eq] at this; simpa using this.symm
  obtain rfl := ep.eq
  clear r1 ep
  subst em
  unfold makeS at h
  unfold D87
  have hdp := dashT_len false (cleanS pre)
  have hcp := clean_len pre
  have hat : ∀ i, (mkAt ps i).length ≤ 1000 := fun i => by
    have h1 := clean_len (ps.getD i default)
    have h2 : (ps.getD i default).length ≤ 999 := by
      rcases Nat.lt_or_ge i ps.length with hi | hi
      · exact hpp _ (getD_mem hi)
      · rw [List.getD_eq_getElem?_getD, List.getElem?_eq_none hi]; show ([] : List UInt8).length ≤ 999; simp
    have h3 := mid_len (cleanS (ps.getD i default))
    unfold mkAt; split <;> omega
  have nilT : ∀ H, RdsF w0 H (.slice none 0 0) 2 0 [] := fun H => ⟨fun w _ => ⟨by simp, by simp, by simp [maxLen], none, 0, rfl, fun _ => rfl, Nat.le_refl _, fun j u h => by simp at h⟩⟩
  repeat' (first | refine go ?_ | intro _ | refine And.intro (Sd.mk (by (first | exact fun _ => True.intro | exact And.intro (fun _ => True.intro) (fun _ _ => True.intro) | (intro hq; (first | exact True.intro | omega | (simp only [and_true]; omega) | (simp only [bl] at hq; (try simp only [and_true]); omega) | fail)) | exact And.intro (fun hq => by first | exact True.intro | omega | (simp only [and_true]; omega) | (simp only [bl] at hq; (try simp only [and_true]); omega) | fail) (fun hq hr => by first | exact True.intro | omega | (simp only [and_true]; omega) | (simp only [bl] at hq hr; omega) | (simp only [bl] at hr; omega) | fail) | fail))) ?_ | refine And.intro (by (first | omega | (unfold InR; omega) | decide | (simp only [ll]; omega))) ?_ | (refine And.intro (fun h1 => ?_) (fun h1 => ?_) <;> first | (exact absurd h1 (by decide)) | ((try rw [h1]); (try simp only [bl] at h1))) | dsimp only)
  · rw [if_pos (by
      rcases h1 with h1 | h1
      · simp [h1]
      · have : 15 < ps.length := by omega
        simp [this])] at h
    exact h _ (Sub.hv subEnd)
  · rw [if_neg (by have : ¬ 15 < ps.length := by omega
                   simp [h1.1, this, ‹cmdB cmd = true›])] at h
    rename_i b1 _ _ w1 o1
    refine ⟨fun x s => ∃ (i : Nat) (v : Value) (w' : World), x = .int .i64 i ∧ s = ⟨w', []⟩ ∧ i ≤ ps.length ∧ Hv w0 (box b1 25 [.slice none 0 0, str (dashT false (cleanS pre)), str cmd, v] :: row 9 1 v i ((mkTo ps i).map str) :: H) w',
      fun x s => match x with | .int _ z => ps.length - z.toNat | _ => 0, ⟨0, _, w1, rfl, rfl, Nat.zero_le _, Hv.perm sep_swap (Hv.nilRow 9 1 o1)⟩, ?_⟩
    rintro x s ⟨i, v, w2, rfl, rfl, hi, o2⟩
    clear o1 o
    rcases Nat.lt_or_ge i ps.length with hlt | hge
    · have h2 : (ps.getD i default).length ≤ 999 := hpp _ (getD_mem hlt)
      have h3 := clean_len (ps.getD i default)
      have hst := mkTo_step ps i
      have hmr := mkAtR ps (i := i)
      have h4 := dashT_len true (cleanS (ps.getD i default))
      repeat ((fail_if_success (refine j1_any (fun _ _ => True) ?_ ?_)); (first | refine go ?_ | intro _ | refine And.intro (Sd.mk (by (first | exact fun _ => True.intro | exact And.intro (fun _ => True.intro) (fun _ _ => True.intro) | (intro hq; (first | exact True.intro | omega | (simp only [and_true]; omega) | (simp only [bl] at hq; (try simp only [and_true]); omega) | fail)) | exact And.intro (fun hq => by first | exact True.intro | omega | (simp only [and_true]; omega) | (simp only [bl] at hq; (try simp only [and_true]); omega) | fail) (fun hq hr => by first | exact True.intro | omega | (simp only [and_true]; omega) | (simp only [bl] at hq hr; omega) | (simp only [bl] at hr; omega) | fail) | fail))) ?_ | refine And.intro (by (first | omega | (unfold InR; omega) | decide | (simp only [ll]; omega))) ?_ | dsimp only))
      refine And.intro (fun _ => ?_) (fun h1 => ?_)
      · repeat ((fail_if_success (refine j1_any (fun _ _ => True) ?_ ?_)); (first | refine go ?_ | intro _ | refine And.intro (Sd.mk (by (first | exact fun _ => True.intro | exact And.intro (fun _ => True.intro) (fun _ _ => True.intro) | (intro hq; (first | exact True.intro | omega | (simp only [and_true]; omega) | (simp only [bl] at hq; (try simp only [and_true]); omega) | fail)) | exact And.intro (fun hq => by first | exact True.intro | omega | (simp only [and_true]; omega) | (simp only [bl] at hq; (try simp only [and_true]); omega) | fail) (fun hq hr => by first | exact True.intro | omega | (simp only [and_true]; omega) | (simp only [bl] at hq hr; omega) | (simp only [bl] at hr; omega) | fail) | fail))) ?_ | refine And.intro (by (first | omega | (unfold InR; omega) | decide | (simp only [ll]; omega))) ?_ | dsimp only))
        rename_i w3 o3
        refine j1_hv w0 (box b1 25 [.slice none 0 0, str (dashT false (cleanS pre)), str cmd, v] :: row 9 1 v i ((mkTo ps i).map str) :: H) [] (str (mkAt ps i)) ?_ ?_
        · repeat' (first | refine go ?_ | intro _ | refine And.intro (Sd.mk (by (first | exact fun _ => True.intro | exact And.intro (fun _ => True.intro) (fun _ _ => True.intro) | (intro hq; (first | exact True.intro | omega | (simp only [and_true]; omega) | (simp only [bl] at hq; (try simp only [and_true]); omega) | fail)) | exact And.intro (fun hq => by first | exact True.intro | omega | (simp only [and_true]; omega) | (simp only [bl] at hq; (try simp only [and_true]); omega) | fail) (fun hq hr => by first | exact True.intro | omega | (simp only [and_true]; omega) | (simp only [bl] at hq hr; omega) | (simp only [bl] at hr; omega) | fail) | fail))) ?_ | refine And.intro (by (first | omega | (unfold InR; omega) | decide | (simp only [ll]; omega))) ?_ | (refine And.intro (fun h1 => ?_) (fun h1 => ?_) <;> first | (exact absurd h1 (by decide)) | ((try rw [h1]); (try simp only [bl] at h1))) | dsimp only)
          · refine ⟨?_, _, rfl, Sub.hv (subBox rfl (subRow rfl rfl subEnd))⟩
            rw [hmr, if_pos (by omega), if_pos h1]
          · refine ⟨?_, _, rfl, Sub.hv (subBox rfl (subRow rfl rfl subEnd))⟩
            rw [hmr, if_pos (by omega), if_neg h1]
          · refine ⟨?_, _, rfl, Sub.hv (subBox rfl (subRow rfl rfl subEnd))⟩
            rw [hmr, if_neg (by omega)]
        intro w4 o4
        clear o2 o3
        repeat' (first | refine go ?_ | intro _ | refine And.intro (Sd.mk (by (first | exact fun _ => True.intro | exact And.intro (fun _ => True.intro) (fun _ _ => True.intro) | (intro hq; (first | exact True.intro | omega | (simp only [and_true]; omega) | (simp only [bl] at hq; (try simp only [and_true]); omega) | fail)) | exact And.intro (fun hq => by first | exact True.intro | omega | (simp only [and_true]; omega) | (simp only [bl] at hq; (try simp only [and_true]); omega) | fail) (fun hq hr => by first | exact True.intro | omega | (simp only [and_true]; omega) | (simp only [bl] at hq hr; omega) | (simp only [bl] at hr; omega) | fail) | fail))) ?_ | refine And.intro (by (first | omega | (unfold InR; omega) | decide | (simp only [ll]; omega))) ?_ | (refine And.intro (fun h1 => ?_) (fun h1 => ?_) <;> first | (exact absurd h1 (by decide)) | ((try rw [h1]); (try simp only [bl] at h1))) | dsimp only)
        refine ⟨⟨i + 1, _, _, rfl, rfl, hlt, Sub.hv (subBox rfl (subRow rfl (by rw [hst, List.map_append]; rfl) subEnd))⟩, by simp; omega⟩
      · exfalso; simp at h1; omega
    · obtain rfl : i = ps.length := by omega
      have hml : (mkTo ps ps.length).length = ps.length := by simp [mkTo]
      have hmm : ∀ p ∈ mkTo ps ps.length, p.length ≤ 1000 := fun p hp => by
        obtain ⟨i, _, rfl⟩ := List.mem_map.1 hp
        exact hat i
      have ok : okS ([], dashT false (cleanS pre), cmd, mkTo ps ps.length) := ⟨⟨by simp, by simp⟩, by simp, by dsimp only; omega, by dsimp only; omega, by dsimp only; omega, hmm⟩
      repeat' (first | refine go ?_ | intro _ | refine And.intro (Sd.mk (by (first | exact fun _ => True.intro | exact And.intro (fun _ => True.intro) (fun _ _ => True.intro) | (intro hq; (first | exact True.intro | omega | (simp only [and_true]; omega) | (simp only [bl] at hq; (try simp only [and_true]); omega) | fail)) | exact And.intro (fun hq => by first | exact True.intro | omega | (simp only [and_true]; omega) | (simp only [bl] at hq; (try simp only [and_true]); omega) | fail) (fun hq hr => by first | exact True.intro | omega | (simp only [and_true]; omega) | (simp only [bl] at hq hr; omega) | (simp only [bl] at hr; omega) | fail) | fail))) ?_ | refine And.intro (by (first | omega | (unfold InR; omega) | decide | (simp only [ll]; omega))) ?_ | (refine And.intro (fun h1 => ?_) (fun h1 => ?_) <;> first | (exact absurd h1 (by decide)) | ((try rw [h1]); (try simp only [bl] at h1))) | dsimp only)
      · exfalso; omega
      · exact h _ (Sub.hv subEnd)
      · have e : (plainM ([], dash (cleanS pre), cmd, mkTo ps ps.length)).take 510 = plainM ([], dashT false (cleanS pre), cmd, mkTo ps ps.length) := List.take_of_length_le (by show (plainM ([], dashT false (cleanS pre), cmd, mkTo ps ps.length)).length ≤ 510; omega)
        rw [e] at h
        exact h _ (Sub.hv subEnd)
  · rw [if_pos (by simp [‹cmdB cmd = false›])] at h
    exact h _ (Sub.hv subEnd)
  · exact absurd h1.1 (by decide)⟩
variable {server tgt : List UInt8}
instance numericR_ok {c : Int} {n : Nat} [zn : ToN c n] [o : Hv w0 H w] [rp : RdsF w0 H xp 1 np zp] [ep : Strs zp ps] :
    Step (Cl P 50 #[str server, .int .i64 c, str tgt, xp] K ⟨w, ds⟩) ((server.length ≤ 10000 ∧ (1 ≤ c ∧ c ≤ 999) ∧ tgt.length ≤ 999 ∧ ps.length ≤ 1000 ∧ ∀ p ∈ ps, p.length ≤ 999) ∧ ∀ w', Hv w0 H w' → K (str (numS server n tgt ps)) ⟨w', ds⟩) := ⟨fun ⟨⟨hsl, hn, htl, hps, hpp⟩, h⟩ => by
  refine cl_ok (c50 (K := fun v w' => K v ⟨w', ds⟩) ?_ fun v w' h => ⟨v, rfl, h⟩)
  obtain rfl : c = (n : Int) := by have := zn.eq (by omega); omega
  have lp : RdsL w0 H xp 1 np zp := rp.loc
  have r1 := rp.rd w o
  have em : np = ps.length := by have := r1.len; rw [ep.eq] at this; simpa using this.symm
  obtain rfl := ep.eq
  clear r1 ep
  subst em
  unfold D50
  dsimp only
  repeat' (first | refine go ?_ | intro _ | refine And.intro (Sd.mk (by (first | exact fun _ => True.intro | exact And.intro (fun _ => True.intro) (fun _ _ => True.intro) | (intro hq; (first | exact True.intro | omega | (simp only [and_true]; omega) | (simp only [bl] at hq; (try simp only [and_true]); omega) | fail)) | exact And.intro (fun hq => by first | exact True.intro | omega | (simp only [and_true]; omega) | (simp only [bl] at hq; (try simp only [and_true]); omega) | fail) (fun hq hr => by first | exact True.intro | omega | (simp only [and_true]; omega) | (simp only [bl] at hq hr; omega) | (simp only [bl] at hr; omega) | fail) | fail))) ?_ | refine And.intro (by (first | omega | (unfold InR; omega) | decide | (simp only [ll]; omega))) ?_ | (refine And.intro (fun h1 => ?_) (fun h1 => ?_) <;> first | (exact absurd h1 (by decide)) | ((try rw [h1]); (try simp only [bl] at h1))) | dsimp only)
  · have e : numS server n tgt ps = [] := by unfold numS; rw [if_pos (by omega)]
    rw [e] at h
    exact h _ o
  · refine And.intro ⟨hsl, by simp [codeS], by simp; omega, fun p hp => ?_⟩ ?_
    · rcases List.mem_append.1 hp with hp | hp
      · rw [List.mem_singleton.1 hp]; simp
      · exact hpp p hp
    intro w2 o2
    repeat' (first | refine go ?_ | intro _ | refine And.intro (Sd.mk (by (first | exact fun _ => True.intro | exact And.intro (fun _ => True.intro) (fun _ _ => True.intro) | (intro hq; (first | exact True.intro | omega | (simp only [and_true]; omega) | (simp only [bl] at hq; (try simp only [and_true]); omega) | fail)) | exact And.intro (fun hq => by first | exact True.intro | omega | (simp only [and_true]; omega) | (simp only [bl] at hq; (try simp only [and_true]); omega) | fail) (fun hq hr => by first | exact True.intro | omega | (simp only [and_true]; omega) | (simp only [bl] at hq hr; omega) | (simp only [bl] at hr; omega) | fail) | fail))) ?_ | refine And.intro (by (first | omega | (unfold InR; omega) | decide | (simp only [ll]; omega))) ?_ | (refine And.intro (fun h1 => ?_) (fun h1 => ?_) <;> first | (exact absurd h1 (by decide)) | ((try rw [h1]); (try simp only [bl] at h1))) | dsimp only)
    have e : numS server n tgt ps = makeS server (codeS n) ([[42]] ++ ps) := by unfold numS; rw [if_neg (by omega), if_pos h1]; rfl
    rw [← e]
    exact h _ (Sub.hv subEnd)
  · refine And.intro ⟨hsl, by simp [codeS], by simp; omega, fun p hp => ?_⟩ ?_
    · rcases List.mem_append.1 hp with hp | hp
      · rw [List.mem_singleton.1 hp]; exact htl
      · exact hpp p hp
    intro w2 o2
    repeat' (first | refine go ?_ | intro _ | refine And.intro (Sd.mk (by (first | exact fun _ => True.intro | exact And.intro (fun _ => True.intro) (fun _ _ => True.intro) | (intro hq; (first | exact True.intro | omega | (simp only [and_true]; omega) | (simp only [bl] at hq; (try simp only [and_true]); omega) | fail)) | exact And.intro (fun hq => by first | exact True.intro | omega | (simp only [and_true]; omega) | (simp only [bl] at hq; (try simp only [and_true]); omega) | fail) (fun hq hr => by first | exact True.intro | omega | (simp only [and_true]; omega) | (simp only [bl] at hq hr; omega) | (simp only [bl] at hr; omega) | fail) | fail))) ?_ | refine And.intro (by (first | omega | (unfold InR; omega) | decide | (simp only [ll]; omega))) ?_ | (refine And.intro (fun h1 => ?_) (fun h1 => ?_) <;> first | (exact absurd h1 (by decide)) | ((try rw [h1]); (try simp only [bl] at h1))) | dsimp only)
    have e : numS server n tgt ps = makeS server (codeS n) ([tgt] ++ ps) := by unfold numS; rw [if_neg (by omega), if_neg h1]; rfl
    rw [← e]
    exact h _ (Sub.hv subEnd)⟩
instance (priority := high) numericL_ok {c : Int} {n : Nat} [zn : ToN c n] [o : Hv w0 H w] [rp : RdsF w0 H xp 1 np zp] [ep : Strs zp ps] :
    Step (Cl P 48 #[str server, .int .i64 c, str tgt, xp] K ⟨w, ds⟩) ((server.length ≤ 10000 ∧ (1 ≤ c ∧ c ≤ 999) ∧ tgt.length ≤ 999 ∧ ps.length ≤ 1000 ∧ ∀ p ∈ ps, p.length ≤ 999) ∧ ∀ w', Hv w0 H w' → K (str (numS server n tgt ps)) ⟨w', ds⟩) := ⟨fun ⟨⟨hsl, hn, htl, hps, hpp⟩, h⟩ => by
  obtain rfl : c = (n : Int) := by have := zn.eq (by omega); omega
  exact numeric_ok.prf ⟨⟨hsl, by omega, htl, hps, hpp⟩, h⟩⟩
end
end Go.Proofs.YtapammcnagjigaaGreatDoor

