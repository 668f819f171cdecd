import Derived.Test.YtapammcnagjigaaDoorMg
set_option linter.all false
namespace Go.Proofs.YtapammcnagjigaaDoor
open Go.Vx Go.Lib
/-! the document's reading -/
theorem word_cons {b : UInt8} {t : List UInt8} : wordB (b :: t) = if b = 32 then [] else b :: wordB t := by
  unfold wordB; rw [List.takeWhile_cons]; by_cases h : b = 32 <;> simp [h]
theorem drop_cons {l : List UInt8} {i : Nat} (h : i < l.length) : l.drop i = l.getD i default :: l.drop (i + 1) := by
  rw [List.drop_eq_getElem_cons h]; congr 1; simp [h]
theorem word_drop (m : List UInt8) : m.drop (wordB m).length = m.dropWhile (· != 32) := by
  have e := List.takeWhile_append_dropWhile (p := (· != (32 : UInt8))) (l := m)
  calc m.drop (wordB m).length = (m.takeWhile (· != 32) ++ m.dropWhile (· != 32)).drop (m.takeWhile (· != 32)).length := by rw [e]; rfl
    _ = _ := List.drop_left
theorem word_take (l : List UInt8) (i : Nat) : (l.take (i + (wordB (l.drop i)).length)).drop i = wordB (l.drop i) := by
  rw [List.drop_take, Nat.add_sub_cancel_left]
  generalize l.drop i = m
  have e := List.takeWhile_append_dropWhile (p := (· != (32 : UInt8))) (l := m)
  calc m.take (wordB m).length = (m.takeWhile (· != 32) ++ m.dropWhile (· != 32)).take (m.takeWhile (· != 32)).length := by rw [e]; rfl
    _ = _ := List.take_left
theorem hd_drop {l : List UInt8} {i : Nat} (c : UInt8) : hd (l.drop i) c = (decide (i < l.length) && decide (l.getD i default = c)) := by
  by_cases h : i < l.length
  · rw [drop_cons h, hd_cons, decide_eq_true h]; rfl
  · rw [List.drop_eq_nil_of_le (by omega), decide_eq_false h]; simp [hd]
/-- Where the blanks end. -/
def blk (l : List UInt8) (i : Nat) : Nat := l.length - (trimL (l.drop i) 32).length
theorem trim_len (l : List UInt8) : (trimL l 32).length ≤ l.length := (List.dropWhile_suffix _).length_le
theorem blk_le (l : List UInt8) (i : Nat) : blk l i ≤ l.length := Nat.sub_le ..
theorem blk_drop (l : List UInt8) (i : Nat) : l.drop (blk l i) = trimL (l.drop i) 32 := by
  have h : trimL (l.drop i) 32 <:+ l := (List.dropWhile_suffix _).trans (List.drop_suffix _ _)
  unfold blk
  exact (List.suffix_iff_eq_drop.1 h).symm
theorem rest_blk (l : List UInt8) (i : Nat) : l.drop (blk l (i + (wordB (l.drop i)).length)) = restB (l.drop i) := by
  rw [blk_drop, ← List.drop_drop, word_drop]; rfl
theorem rest_cons {b : UInt8} {t : List UInt8} (h : b ≠ 32) : restB (b :: t) = restB t := by
  unfold restB; rw [List.dropWhile_cons, if_pos (by simpa using h)]
section
variable {K : Value → St → Prop} {w0 w : World} {H R : List SL} {ds : List Deferred} {l : List UInt8}
instance word_ok {w : World} {z : Int} {i : Nat} [zn : ToN z i] : VS (Cl P 45 #[str l, .int .i64 z]) w (l.length ≤ 100000 ∧ 0 ≤ z ∧ z ≤ l.length) (.int .i64 ((i + (wordB (l.drop i)).length : Nat) : Int)) := ⟨fun ⟨hl, h0, h1⟩ {K ds} h => by
  have e := zn.eq h0
  obtain rfl : z = (i : Int) := by omega
  refine cl_ok (c45 (K := fun v w' => K v ⟨w', ds⟩) ?_ fun v w' h => ⟨v, rfl, h⟩)
  unfold D45
  dsimp only
  refine ⟨fun x s => ∃ (j : Nat), x = .int .i64 j ∧ s = ⟨w, []⟩ ∧ j ≤ l.length ∧ j + (wordB (l.drop j)).length = i + (wordB (l.drop i)).length, fun x s => match x with | .int _ z => l.length - z.toNat | _ => 0, ⟨i, rfl, rfl, by omega, rfl⟩, ?_⟩
  rintro x s ⟨j, rfl, rfl, hj, he⟩
  rcases Nat.lt_or_ge j l.length with hlt | hge
  · have hd := drop_cons hlt
    rw [hd, word_cons] at he
    repeat' (first | refine go ?_ | intro _ | refine And.intro (Sd.mk (by (first | exact fun _ => True.intro | exact And.intro (fun _ => True.intro) (fun _ _ => True.intro) | (intro hq; (first | exact True.intro | omega | (simp only [and_true]; omega) | (simp only [bl] at hq; (try simp only [and_true]); omega) | fail)) | exact And.intro (fun hq => by first | exact True.intro | omega | (simp only [and_true]; omega) | (simp only [bl] at hq; (try simp only [and_true]); omega) | fail) (fun hq hr => by first | exact True.intro | omega | (simp only [and_true]; omega) | (simp only [bl] at hq hr; omega) | (simp only [bl] at hr; omega) | fail) | fail))) ?_ | refine And.intro (by (first | omega | (unfold InR; omega) | decide | (simp only [ll]; omega))) ?_ | (refine And.intro (fun h1 => ?_) (fun h1 => ?_) <;> first | (exact absurd h1 (by decide)) | ((try rw [h1]); (try simp only [bl] at h1))) | dsimp only)
    · rw [if_neg h1.2] at he
      exact ⟨⟨j + 1, rfl, rfl, hlt, by rw [← he]; simp; omega⟩, by simp; omega⟩
    · have hx : l.getD j default = 32 := by
        have := h1 (by omega); simpa using this
      rw [if_pos hx] at he
      have e2 : i + (wordB (l.drop i)).length = j := by rw [← he]; rfl
      rw [e2] at h; exact h
  · have hd : l.drop j = [] := List.drop_eq_nil_of_le hge
    rw [hd] at he
    have hj2 : j = i + (wordB (l.drop i)).length := by rw [← he]; simp [wordB]
    repeat' (first | refine go ?_ | intro _ | refine And.intro (Sd.mk (by (first | exact fun _ => True.intro | exact And.intro (fun _ => True.intro) (fun _ _ => True.intro) | (intro hq; (first | exact True.intro | omega | (simp only [and_true]; omega) | (simp only [bl] at hq; (try simp only [and_true]); omega) | fail)) | exact And.intro (fun hq => by first | exact True.intro | omega | (simp only [and_true]; omega) | (simp only [bl] at hq; (try simp only [and_true]); omega) | fail) (fun hq hr => by first | exact True.intro | omega | (simp only [and_true]; omega) | (simp only [bl] at hq hr; omega) | (simp only [bl] at hr; omega) | fail) | fail))) ?_ | refine And.intro (by (first | omega | (unfold InR; omega) | decide | (simp only [ll]; omega))) ?_ | (refine And.intro (fun h1 => ?_) (fun h1 => ?_) <;> first | (exact absurd h1 (by decide)) | ((try rw [h1]); (try simp only [bl] at h1))) | dsimp only)
    all_goals first
      | (exfalso; omega)
      | (rw [← hj2] at h; exact h)⟩
instance blanks_ok {w : World} {z : Int} {i : Nat} [zn : ToN z i] : VS (Cl P 47 #[str l, .int .i64 z]) w (l.length ≤ 100000 ∧ 0 ≤ z ∧ z ≤ l.length) (.int .i64 ((blk l i : Nat) : Int)) := ⟨fun ⟨hl, h0, h1⟩ {K ds} h => by
  have e := zn.eq h0
  obtain rfl : z = (i : Int) := by omega
  refine cl_ok (c47 (K := fun v w' => K v ⟨w', ds⟩) ?_ fun v w' h => ⟨v, rfl, h⟩)
  unfold D47
  dsimp only
  refine ⟨fun x s => ∃ (j : Nat), x = .int .i64 j ∧ s = ⟨w, []⟩ ∧ j ≤ l.length ∧ trimL (l.drop j) 32 = trimL (l.drop i) 32, fun x s => match x with | .int _ z => l.length - z.toNat | _ => 0, ⟨i, rfl, rfl, by omega, rfl⟩, ?_⟩
  rintro x s ⟨j, rfl, rfl, hj, he⟩
  have fin : trimL (l.drop j) 32 = l.drop j → j = blk l i := fun h2 => by
    unfold blk; rw [← he, h2, List.length_drop]; omega
  rcases Nat.lt_or_ge j l.length with hlt | hge
  · have hd := drop_cons hlt
    repeat' (first | refine go ?_ | intro _ | refine And.intro (Sd.mk (by (first | exact fun _ => True.intro | exact And.intro (fun _ => True.intro) (fun _ _ => True.intro) | (intro hq; (first | exact True.intro | omega | (simp only [and_true]; omega) | (simp only [bl] at hq; (try simp only [and_true]); omega) | fail)) | exact And.intro (fun hq => by first | exact True.intro | omega | (simp only [and_true]; omega) | (simp only [bl] at hq; (try simp only [and_true]); omega) | fail) (fun hq hr => by first | exact True.intro | omega | (simp only [and_true]; omega) | (simp only [bl] at hq hr; omega) | (simp only [bl] at hr; omega) | fail) | fail))) ?_ | refine And.intro (by (first | omega | (unfold InR; omega) | decide | (simp only [ll]; omega))) ?_ | (refine And.intro (fun h1 => ?_) (fun h1 => ?_) <;> first | (exact absurd h1 (by decide)) | ((try rw [h1]); (try simp only [bl] at h1))) | dsimp only)
    · rw [hd, h1.2, trim_32] at he
      exact ⟨⟨j + 1, rfl, rfl, hlt, he⟩, by simp; omega⟩
    · have hx : l.getD j default ≠ 32 := h1 (by omega)
      rw [← fin (by rw [hd, trim_hd hx])] at h
      exact h
  · rw [← fin (by rw [List.drop_eq_nil_of_le hge]; rfl)] at h
    repeat' (first | refine go ?_ | intro _ | refine And.intro (Sd.mk (by (first | exact fun _ => True.intro | exact And.intro (fun _ => True.intro) (fun _ _ => True.intro) | (intro hq; (first | exact True.intro | omega | (simp only [and_true]; omega) | (simp only [bl] at hq; (try simp only [and_true]); omega) | fail)) | exact And.intro (fun hq => by first | exact True.intro | omega | (simp only [and_true]; omega) | (simp only [bl] at hq; (try simp only [and_true]); omega) | fail) (fun hq hr => by first | exact True.intro | omega | (simp only [and_true]; omega) | (simp only [bl] at hq hr; omega) | (simp only [bl] at hr; omega) | fail) | fail))) ?_ | refine And.intro (by (first | omega | (unfold InR; omega) | decide | (simp only [ll]; omega))) ?_ | (refine And.intro (fun h1 => ?_) (fun h1 => ?_) <;> first | (exact absurd h1 (by decide)) | ((try rw [h1]); (try simp only [bl] at h1))) | dsimp only)
    all_goals first
      | (exfalso; omega)
      | exact h⟩
theorem txt_parts (l : List UInt8) : txtB l = (!l.contains 0 && !l.contains 10 && !l.contains 13) := rfl
instance textRef_ok {w : World} : VS (Cl P 44 #[str l]) w (l.length ≤ 1000000000) (.bool (txtB l)) := ⟨fun hl {K ds} h => by
  refine cl_ok (c44 (K := fun v w' => K v ⟨w', ds⟩) ?_ fun v w' h => ⟨v, rfl, h⟩)
  unfold D44
  repeat' (first | refine go ?_ | intro _ | refine And.intro (Sd.mk (by (first | exact fun _ => True.intro | exact And.intro (fun _ => True.intro) (fun _ _ => True.intro) | (intro hq; (first | exact True.intro | omega | (simp only [and_true]; omega) | (simp only [bl] at hq; (try simp only [and_true]); omega) | fail)) | exact And.intro (fun hq => by first | exact True.intro | omega | (simp only [and_true]; omega) | (simp only [bl] at hq; (try simp only [and_true]); omega) | fail) (fun hq hr => by first | exact True.intro | omega | (simp only [and_true]; omega) | (simp only [bl] at hq hr; omega) | (simp only [bl] at hr; omega) | fail) | fail))) ?_ | refine And.intro (by (first | omega | (unfold InR; omega) | decide | (simp only [ll]; omega))) ?_ | (refine And.intro (fun h1 => ?_) (fun h1 => ?_) <;> first | (exact absurd h1 (by decide)) | ((try rw [h1]); (try simp only [bl] at h1))) | dsimp only)
  exact h⟩
theorem snd_all {l : List UInt8} {i : Nat} (p : UInt8 → Bool) (h : i < l.length) : (l.take (i + 1)).all p = ((l.take i).all p && p (l.getD i default)) := all_take h
instance commandR_ok {w : World} : VS (Cl P 48 #[str l]) w (l.length ≤ 100000) (.bool (cmdB l)) := ⟨fun hl {K ds} h => by
  refine cl_ok (c48 (K := fun v w' => K v ⟨w', ds⟩) ?_ fun v w' h => ⟨v, rfl, h⟩)
  unfold D48
  repeat ((fail_if_success (refine l0_ind (fun _ _ => True) ?_ ?_)); (first | refine go ?_ | intro _ | refine And.intro (Sd.mk (by (first | exact fun _ => True.intro | exact And.intro (fun _ => True.intro) (fun _ _ => True.intro) | (intro hq; (first | exact True.intro | omega | (simp only [and_true]; omega) | (simp only [bl] at hq; (try simp only [and_true]); omega) | fail)) | exact And.intro (fun hq => by first | exact True.intro | omega | (simp only [and_true]; omega) | (simp only [bl] at hq; (try simp only [and_true]); omega) | fail) (fun hq hr => by first | exact True.intro | omega | (simp only [and_true]; omega) | (simp only [bl] at hq hr; omega) | (simp only [bl] at hr; omega) | fail) | fail))) ?_ | refine And.intro (by (first | omega | (unfold InR; omega) | decide | (simp only [ll]; omega))) ?_ | dsimp only))
  refine ⟨fun x y z s => ∃ (i : Nat), x = .bool (decide (0 < (l.length : Int)) && (l.take i).all letB) ∧ y = .bool (decide ((l.length : Int) = 3) && (l.take i).all digB) ∧ z = .int .i64 i ∧ s = ⟨w, []⟩ ∧ i ≤ l.length, fun _ _ z s => match z with | .int _ z => l.length - z.toNat | _ => 0, ⟨0, by simp, by simp, rfl, rfl, Nat.zero_le _⟩, ?_⟩
  rintro x y z s ⟨i, rfl, rfl, rfl, rfl, hi⟩
  have hc : cmdB l = ((decide (0 < (l.length : Int)) && l.all letB) || (decide ((l.length : Int) = 3) && l.all digB)) := by
    unfold cmdB
    congr 1
    · congr 1; cases l <;> simp
    · congr 1; rw [decide_eq_decide]; omega
  rcases Nat.lt_or_ge i l.length with hlt | hge
  · have ha := snd_all letB hlt
    have hb := snd_all digB hlt
    repeat' (first | refine go ?_ | intro _ | refine And.intro (Sd.mk (by (first | exact fun _ => True.intro | exact And.intro (fun _ => True.intro) (fun _ _ => True.intro) | (intro hq; (first | exact True.intro | omega | (simp only [and_true]; omega) | (simp only [bl] at hq; (try simp only [and_true]); omega) | fail)) | exact And.intro (fun hq => by first | exact True.intro | omega | (simp only [and_true]; omega) | (simp only [bl] at hq; (try simp only [and_true]); omega) | fail) (fun hq hr => by first | exact True.intro | omega | (simp only [and_true]; omega) | (simp only [bl] at hq hr; omega) | (simp only [bl] at hr; omega) | fail) | fail))) ?_ | refine And.intro (by (first | omega | (unfold InR; omega) | decide | (simp only [ll]; omega))) ?_ | (refine And.intro (fun h1 => ?_) (fun h1 => ?_) <;> first | (exact absurd h1 (by decide)) | ((try rw [h1]); (try simp only [bl] at h1))) | dsimp only)
    · exact ⟨⟨i + 1, by rw [ha, Bool.and_assoc], by rw [hb, Bool.and_assoc], rfl, rfl, hlt⟩, by simp; omega⟩
    · exfalso; omega
  · rw [List.take_of_length_le hge]
    repeat' (first | refine go ?_ | intro _ | refine And.intro (Sd.mk (by (first | exact fun _ => True.intro | exact And.intro (fun _ => True.intro) (fun _ _ => True.intro) | (intro hq; (first | exact True.intro | omega | (simp only [and_true]; omega) | (simp only [bl] at hq; (try simp only [and_true]); omega) | fail)) | exact And.intro (fun hq => by first | exact True.intro | omega | (simp only [and_true]; omega) | (simp only [bl] at hq; (try simp only [and_true]); omega) | fail) (fun hq hr => by first | exact True.intro | omega | (simp only [and_true]; omega) | (simp only [bl] at hq hr; omega) | (simp only [bl] at hr; omega) | fail) | fail))) ?_ | refine And.intro (by (first | omega | (unfold InR; omega) | decide | (simp only [ll]; omega))) ?_ | (refine And.intro (fun h1 => ?_) (fun h1 => ?_) <;> first | (exact absurd h1 (by decide)) | ((try rw [h1]); (try simp only [bl] at h1))) | dsimp only)
    · exfalso; omega
    · rw [hc] at h; exact h⟩
instance capitalsR_ok [o : Hv w0 H w] : Step (Cl P 49 #[str l] K ⟨w, ds⟩) (l.length ≤ 100000 ∧ ∀ w', Hv w0 H w' → K (str (capsS l)) ⟨w', ds⟩) := ⟨fun ⟨hl, h⟩ => by
  refine cl_ok (c49 (K := fun v w' => K v ⟨w', ds⟩) ?_ fun v w' h => ⟨v, rfl, h⟩)
  unfold D49
  dsimp only
  refine ⟨fun x y s => ∃ (i : Nat) (w' : World), x = str (capsS (l.take i)) ∧ y = .int .i64 i ∧ s = ⟨w', []⟩ ∧ i ≤ l.length ∧ Hv w0 H w', fun _ y s => match y with | .int _ z => l.length - z.toNat | _ => 0, ⟨0, w, by simp [capsS], rfl, rfl, Nat.zero_le _, o⟩, ?_⟩
  rintro x y s ⟨i, w1, rfl, rfl, rfl, hi, o1⟩
  clear o
  have hcl : (capsS (l.take i)).length ≤ l.length := by simp [capsS]; omega
  rcases Nat.lt_or_ge i l.length with hlt | hge
  · have hs : capsS (l.take (i + 1)) = capsS (l.take i) ++ [upB (l.getD i default)] := by unfold capsS; rw [take_snoc hlt, List.map_append]; rfl
    repeat' (first | refine go ?_ | intro _ | refine And.intro (Sd.mk (by (first | exact fun _ => True.intro | exact And.intro (fun _ => True.intro) (fun _ _ => True.intro) | (intro hq; (first | exact True.intro | omega | (simp only [and_true]; omega) | (simp only [bl] at hq; (try simp only [and_true]); omega) | fail)) | exact And.intro (fun hq => by first | exact True.intro | omega | (simp only [and_true]; omega) | (simp only [bl] at hq; (try simp only [and_true]); omega) | fail) (fun hq hr => by first | exact True.intro | omega | (simp only [and_true]; omega) | (simp only [bl] at hq hr; omega) | (simp only [bl] at hr; omega) | fail) | fail))) ?_ | refine And.intro (by (first | omega | (unfold InR; omega) | decide | (simp only [ll]; omega))) ?_ | (refine And.intro (fun h1 => ?_) (fun h1 => ?_) <;> first | (exact absurd h1 (by decide)) | ((try rw [h1]); (try simp only [bl] at h1))) | dsimp only)
    · refine ⟨⟨i + 1, _, ?_, rfl, rfl, hlt, Sub.hv subEnd⟩, by simp; omega⟩
      rw [hs]; unfold upB; rw [decide_eq_true h1.1, decide_eq_true h1.2]; rfl
    · refine ⟨⟨i + 1, _, ?_, rfl, rfl, hlt, Sub.hv subEnd⟩, by simp; omega⟩
      have : upB (l.getD i default) = l.getD i default := by
        unfold upB
        split
        · rename_i hx; simp only [Bool.and_eq_true, decide_eq_true_eq] at hx; exact absurd hx.2 (h1 hx.1)
        · rfl
      rw [hs, this]
    · exfalso; omega
  · rw [List.take_of_length_le hge]
    repeat' (first | refine go ?_ | intro _ | refine And.intro (Sd.mk (by (first | exact fun _ => True.intro | exact And.intro (fun _ => True.intro) (fun _ _ => True.intro) | (intro hq; (first | exact True.intro | omega | (simp only [and_true]; omega) | (simp only [bl] at hq; (try simp only [and_true]); omega) | fail)) | exact And.intro (fun hq => by first | exact True.intro | omega | (simp only [and_true]; omega) | (simp only [bl] at hq; (try simp only [and_true]); omega) | fail) (fun hq hr => by first | exact True.intro | omega | (simp only [and_true]; omega) | (simp only [bl] at hq hr; omega) | (simp only [bl] at hr; omega) | fail) | fail))) ?_ | refine And.intro (by (first | omega | (unfold InR; omega) | decide | (simp only [ll]; omega))) ?_ | (refine And.intro (fun h1 => ?_) (fun h1 => ?_) <;> first | (exact absurd h1 (by decide)) | ((try rw [h1]); (try simp only [bl] at h1))) | dsimp only)
    all_goals first
      | (exfalso; omega)
      | exact h _ (Sub.hv subEnd)⟩
set_option maxRecDepth 10000 in
instance mparseR_ok [o : Hv w0 H w] : Step (Cl P 17 #[str l] K ⟨w, ds⟩) (l.length ≤ 1000 ∧ ∀ tv pv w', Hv w0 (row 71 2 tv (parseM l).1.1.length ((parseM l).1.1.flatMap encT) :: row 9 1 pv (parseM l).1.2.2.2.length ((parseM l).1.2.2.2.map str) :: H) w' → K (.tuple #[.agg #[tv, str (parseM l).1.2.1, str (parseM l).1.2.2.1, pv], .int .i64 (parseM l).2]) ⟨w', ds⟩) := ⟨fun ⟨hl, h⟩ => by
  replace h : MsgK K w0 H ds (parseM l).1 (parseM l).2 := h
  refine cl_ok (c17 (K := fun v w' => K v ⟨w', ds⟩) ?_ fun v w' h => ⟨v, rfl, h⟩)
  unfold D17
  dsimp only
  repeat ((fail_if_success (refine j1_any (fun _ _ => True) ?_ ?_)); (first | refine go ?_ | intro _ | refine And.intro (Sd.mk (by (first | exact fun _ => True.intro | exact And.intro (fun _ => True.intro) (fun _ _ => True.intro) | (intro hq; (first | exact True.intro | omega | (simp only [and_true]; omega) | (simp only [bl] at hq; (try simp only [and_true]); omega) | fail)) | exact And.intro (fun hq => by first | exact True.intro | omega | (simp only [and_true]; omega) | (simp only [bl] at hq; (try simp only [and_true]); omega) | fail) (fun hq hr => by first | exact True.intro | omega | (simp only [and_true]; omega) | (simp only [bl] at hq hr; omega) | (simp only [bl] at hr; omega) | fail) | fail))) ?_ | refine And.intro (by (first | omega | (unfold InR; omega) | decide | (simp only [ll]; omega))) ?_ | dsimp only))
  refine And.intro (fun h1 => ?_) (fun h1 => ?_)
  · repeat' (first | refine go ?_ | intro _ | refine And.intro (Sd.mk (by (first | exact fun _ => True.intro | exact And.intro (fun _ => True.intro) (fun _ _ => True.intro) | (intro hq; (first | exact True.intro | omega | (simp only [and_true]; omega) | (simp only [bl] at hq; (try simp only [and_true]); omega) | fail)) | exact And.intro (fun hq => by first | exact True.intro | omega | (simp only [and_true]; omega) | (simp only [bl] at hq; (try simp only [and_true]); omega) | fail) (fun hq hr => by first | exact True.intro | omega | (simp only [and_true]; omega) | (simp only [bl] at hq hr; omega) | (simp only [bl] at hr; omega) | fail) | fail))) ?_ | refine And.intro (by (first | omega | (unfold InR; omega) | decide | (simp only [ll]; omega))) ?_ | (refine And.intro (fun h1 => ?_) (fun h1 => ?_) <;> first | (exact absurd h1 (by decide)) | ((try rw [h1]); (try simp only [bl] at h1))) | dsimp only)
    have e : parseM l = (noMsg, 3) := by unfold parseM; rw [if_pos (by simp at h1; omega)]
    rw [e] at h
    exact h.err (Sub.hv subEnd)
  have h510 : l.length ≤ 510 := by simp at h1; omega
  repeat ((fail_if_success (refine j1_any (fun _ _ => True) ?_ ?_)); (first | refine go ?_ | intro _ | refine And.intro (Sd.mk (by (first | exact fun _ => True.intro | exact And.intro (fun _ => True.intro) (fun _ _ => True.intro) | (intro hq; (first | exact True.intro | omega | (simp only [and_true]; omega) | (simp only [bl] at hq; (try simp only [and_true]); omega) | fail)) | exact And.intro (fun hq => by first | exact True.intro | omega | (simp only [and_true]; omega) | (simp only [bl] at hq; (try simp only [and_true]); omega) | fail) (fun hq hr => by first | exact True.intro | omega | (simp only [and_true]; omega) | (simp only [bl] at hq hr; omega) | (simp only [bl] at hr; omega) | fail) | fail))) ?_ | refine And.intro (by (first | omega | (unfold InR; omega) | decide | (simp only [ll]; omega))) ?_ | dsimp only))
  refine And.intro (fun h2 => ?_) (fun h2 => ?_)
  · repeat' (first | refine go ?_ | intro _ | refine And.intro (Sd.mk (by (first | exact fun _ => True.intro | exact And.intro (fun _ => True.intro) (fun _ _ => True.intro) | (intro hq; (first | exact True.intro | omega | (simp only [and_true]; omega) | (simp only [bl] at hq; (try simp only [and_true]); omega) | fail)) | exact And.intro (fun hq => by first | exact True.intro | omega | (simp only [and_true]; omega) | (simp only [bl] at hq; (try simp only [and_true]); omega) | fail) (fun hq hr => by first | exact True.intro | omega | (simp only [and_true]; omega) | (simp only [bl] at hq hr; omega) | (simp only [bl] at hr; omega) | fail) | fail))) ?_ | refine And.intro (by (first | omega | (unfold InR; omega) | decide | (simp only [ll]; omega))) ?_ | (refine And.intro (fun h1 => ?_) (fun h1 => ?_) <;> first | (exact absurd h1 (by decide)) | ((try rw [h1]); (try simp only [bl] at h1))) | dsimp only)
    have e : parseM l = (noMsg, 10) := by unfold parseM; rw [if_neg (by omega), if_pos h2]
    rw [e] at h
    exact h.err (Sub.hv subEnd)
  have htx : txtB l = true := by simpa using h2
  repeat ((fail_if_success (refine j1_any (fun _ _ => True) ?_ ?_)); (first | refine go ?_ | intro _ | refine And.intro (Sd.mk (by (first | exact fun _ => True.intro | exact And.intro (fun _ => True.intro) (fun _ _ => True.intro) | (intro hq; (first | exact True.intro | omega | (simp only [and_true]; omega) | (simp only [bl] at hq; (try simp only [and_true]); omega) | fail)) | exact And.intro (fun hq => by first | exact True.intro | omega | (simp only [and_true]; omega) | (simp only [bl] at hq; (try simp only [and_true]); omega) | fail) (fun hq hr => by first | exact True.intro | omega | (simp only [and_true]; omega) | (simp only [bl] at hq hr; omega) | (simp only [bl] at hr; omega) | fail) | fail))) ?_ | refine And.intro (by (first | omega | (unfold InR; omega) | decide | (simp only [ll]; omega))) ?_ | dsimp only))
  have hpt := parse_tags h510 htx
  have hh0 := hd_drop (l := l) (i := 0) 64
  rw [List.drop_zero] at hh0
  rename_i b1 _ _ b2 _ _ w2 o2
  refine j1_any (fun x s => ∃ (T : List Tag) (at_ : Nat) (tv : Value) (w' : World), x = .int .i64 at_ ∧ s = ⟨w', []⟩ ∧ parseM l = pM T (l.drop at_) ∧ at_ ≤ l.length ∧ Hv w0 (box b2 32 [tv, str [], str [], .slice none 0 0] :: row 71 2 tv T.length (T.flatMap encT) :: box b1 32 noMsgV :: H) w') ?_ ?_
  · have hwl := word_len (l.drop 0)
    have hw1 := word_take l 0
    rw [List.drop_zero] at hwl hw1
    repeat' (first | refine go ?_ | intro _ | refine And.intro (Sd.mk (by (first | exact fun _ => True.intro | exact And.intro (fun _ => True.intro) (fun _ _ => True.intro) | (intro hq; (first | exact True.intro | omega | (simp only [and_true]; omega) | (simp only [bl] at hq; (try simp only [and_true]); omega) | fail)) | exact And.intro (fun hq => by first | exact True.intro | omega | (simp only [and_true]; omega) | (simp only [bl] at hq; (try simp only [and_true]); omega) | fail) (fun hq hr => by first | exact True.intro | omega | (simp only [and_true]; omega) | (simp only [bl] at hq hr; omega) | (simp only [bl] at hr; omega) | fail) | fail))) ?_ | refine And.intro (by (first | omega | (unfold InR; omega) | decide | (simp only [ll]; omega))) ?_ | (refine And.intro (fun h1 => ?_) (fun h1 => ?_) <;> first | (exact absurd h1 (by decide)) | ((try rw [h1]); (try simp only [bl] at h1))) | dsimp only)
    · have hh : hd l 64 = true := by rw [hh0, decide_eq_true (by omega), decide_eq_true h1.2]; rfl
      rw [if_pos hh] at hpt
      obtain ⟨t, rfl⟩ := hd_true hh
      have hw0 : wordB ((64 :: t).drop 0) = 64 :: wordB t := by rw [List.drop_zero, word_cons]; rfl
      have hwl2 := word_len t
      have hpc : ((64 :: t).take (0 + (wordB ((64 :: t).drop 0)).length)).drop 1 = wordB t := by
        rw [hw0, Nat.zero_add, List.length_cons, List.take_succ_cons, List.drop_succ_cons, List.drop_zero]
        have := word_take t 0
        simpa using this
      have hend : (64 :: t).drop (blk (64 :: t) (0 + (wordB ((64 :: t).drop 0)).length)) = restB t := by
        rw [blk_drop, hw0, Nat.zero_add, List.length_cons, List.drop_succ_cons, word_drop]; rfl
      have hlw : (wordB ((64 :: t).drop 0)).length = (wordB t).length + 1 := by rw [hw0]; rfl
      have hbl := blk_le (64 :: t) (0 + (wordB ((64 :: t).drop 0)).length)
      simp only [List.length_cons] at hl h510 hbl
      simp only [List.drop_succ_cons, List.drop_zero] at hpt
      refine And.intro (by simp only [List.length_cons]; omega) ?_
      rw [hpc]
      repeat' (first | refine go ?_ | intro _ | refine And.intro (Sd.mk (by (first | exact fun _ => True.intro | exact And.intro (fun _ => True.intro) (fun _ _ => True.intro) | (intro hq; (first | exact True.intro | omega | (simp only [and_true]; omega) | (simp only [bl] at hq; (try simp only [and_true]); omega) | fail)) | exact And.intro (fun hq => by first | exact True.intro | omega | (simp only [and_true]; omega) | (simp only [bl] at hq; (try simp only [and_true]); omega) | fail) (fun hq hr => by first | exact True.intro | omega | (simp only [and_true]; omega) | (simp only [bl] at hq hr; omega) | (simp only [bl] at hr; omega) | fail) | fail))) ?_ | refine And.intro (by (first | omega | (unfold InR; omega) | decide | (simp only [ll]; omega))) ?_ | (refine And.intro (fun h1 => ?_) (fun h1 => ?_) <;> first | (exact absurd h1 (by decide)) | ((try rw [h1]); (try simp only [bl] at h1))) | dsimp only)
      · rw [if_pos h1] at hpt
        rw [hpt] at h
        exact h.err (Sub.hv subEnd)
      · rw [if_neg (by simpa using h1)] at hpt
        exact ⟨_, _, _, _, rfl, rfl, by rw [hend]; exact hpt, by simp only [List.length_cons]; omega, Sub.hv (subBox rfl (subRow rfl rfl (subBox rfl subEnd)))⟩
    · have hh : hd l 64 = false := by
        rw [hh0]
        cases hx : decide (0 < l.length) with
        | false => rfl
        | true => rw [decide_eq_false (h1 (by simpa using hx))]; rfl
      rw [if_neg (by simp [hh])] at hpt
      exact ⟨[], 0, .slice none 0 0, _, rfl, rfl, hpt, Nat.zero_le _, Hv.perm sep_swap (Hv.nilRow 71 2 (Sub.hv (G := _ :: _ :: H) (subBox rfl (subBox rfl subEnd))))⟩
  rintro x s ⟨T, a1, tv, w3, rfl, rfl, hT, ha1, o3⟩
  clear o2 o
  repeat ((fail_if_success (refine j1_any (fun _ _ => True) ?_ ?_)); (first | refine go ?_ | intro _ | refine And.intro (Sd.mk (by (first | exact fun _ => True.intro | exact And.intro (fun _ => True.intro) (fun _ _ => True.intro) | (intro hq; (first | exact True.intro | omega | (simp only [and_true]; omega) | (simp only [bl] at hq; (try simp only [and_true]); omega) | fail)) | exact And.intro (fun hq => by first | exact True.intro | omega | (simp only [and_true]; omega) | (simp only [bl] at hq; (try simp only [and_true]); omega) | fail) (fun hq hr => by first | exact True.intro | omega | (simp only [and_true]; omega) | (simp only [bl] at hq hr; omega) | (simp only [bl] at hr; omega) | fail) | fail))) ?_ | refine And.intro (by (first | omega | (unfold InR; omega) | decide | (simp only [ll]; omega))) ?_ | dsimp only))
  have hh1 := hd_drop (l := l) (i := a1) 58
  refine j1_any (fun x s => ∃ (pre : List UInt8) (at_ : Nat) (w' : World), x = .int .i64 at_ ∧ s = ⟨w', []⟩ ∧ parseM l = pC T pre (l.drop at_) ∧ at_ ≤ l.length ∧ Hv w0 (box b2 32 [tv, str pre, str [], .slice none 0 0] :: row 71 2 tv T.length (T.flatMap encT) :: box b1 32 noMsgV :: H) w') ?_ ?_
  · repeat ((fail_if_success (refine And.intro (fun _ => ?_) (fun _ => ?_))); (first | refine go ?_ | intro _ | refine And.intro (Sd.mk (by (first | exact fun _ => True.intro | exact And.intro (fun _ => True.intro) (fun _ _ => True.intro) | (intro hq; (first | exact True.intro | omega | (simp only [and_true]; omega) | (simp only [bl] at hq; (try simp only [and_true]); omega) | fail)) | exact And.intro (fun hq => by first | exact True.intro | omega | (simp only [and_true]; omega) | (simp only [bl] at hq; (try simp only [and_true]); omega) | fail) (fun hq hr => by first | exact True.intro | omega | (simp only [and_true]; omega) | (simp only [bl] at hq hr; omega) | (simp only [bl] at hr; omega) | fail) | fail))) ?_ | refine And.intro (by (first | omega | (unfold InR; omega) | decide | (simp only [ll]; omega))) ?_ | dsimp only))
    refine And.intro (fun h1 => ?_) (fun h1 => ?_)
    · simp only [Bool.and_eq_true, decide_eq_true_eq] at h1
      obtain ⟨hlt, hc58⟩ := h1
      have hdc := drop_cons (l := l) (i := a1) (by omega)
      rw [hc58] at hdc
      have hw0 : wordB (l.drop a1) = 58 :: wordB (l.drop (a1 + 1)) := by rw [hdc, word_cons]; rfl
      have hwl2 := word_len (l.drop (a1 + 1))
      have hdl : (l.drop (a1 + 1)).length = l.length - (a1 + 1) := List.length_drop
      have hlw : (wordB (l.drop a1)).length = (wordB (l.drop (a1 + 1))).length + 1 := by rw [hw0]; rfl
      have hh : hd (l.drop a1) 58 = true := by rw [hdc, hd_cons]; rfl
      have hpc : (l.take (a1 + (wordB (l.drop a1)).length)).drop ((a1 : Int) + 1).toNat = wordB (l.drop (a1 + 1)) := by
        have h2 := word_take l a1
        have e : ((a1 : Int) + 1).toNat = a1 + 1 := by omega
        rw [e, ← List.drop_drop, h2, hw0]; rfl
      have hend : l.drop (blk l (a1 + (wordB (l.drop a1)).length)) = restB (l.drop (a1 + 1)) := by
        rw [rest_blk, hdc, rest_cons (by decide)]
      have hbl := blk_le l (a1 + (wordB (l.drop a1)).length)
      unfold pM at hT
      rw [if_pos hh] at hT
      have hd1 : (l.drop a1).drop 1 = l.drop (a1 + 1) := by rw [List.drop_drop]
      rw [hd1] at hT
      repeat' (first | refine go ?_ | intro _ | refine And.intro (Sd.mk (by (first | exact fun _ => True.intro | exact And.intro (fun _ => True.intro) (fun _ _ => True.intro) | (intro hq; (first | exact True.intro | omega | (simp only [and_true]; omega) | (simp only [bl] at hq; (try simp only [and_true]); omega) | fail)) | exact And.intro (fun hq => by first | exact True.intro | omega | (simp only [and_true]; omega) | (simp only [bl] at hq; (try simp only [and_true]); omega) | fail) (fun hq hr => by first | exact True.intro | omega | (simp only [and_true]; omega) | (simp only [bl] at hq hr; omega) | (simp only [bl] at hr; omega) | fail) | fail))) ?_ | refine And.intro (by (first | omega | (unfold InR; omega) | decide | (simp only [ll]; omega))) ?_ | (refine And.intro (fun h1 => ?_) (fun h1 => ?_) <;> first | (exact absurd h1 (by decide)) | ((try rw [h1]); (try simp only [bl] at h1))) | dsimp only)
      · rw [if_pos (List.eq_nil_of_length_eq_zero (by omega))] at hT
        rw [hT] at h
        exact h.err (Sub.hv subEnd)
      · rw [if_neg (by intro e; rw [e] at hlw; simp at hlw; omega)] at hT
        exact ⟨wordB (l.drop (a1 + 1)), _, _, rfl, rfl, by rw [hend]; exact hT, by omega, Sub.hv (subBox (by rw [hpc]) (subRow rfl rfl (subBox rfl subEnd)))⟩
    · have hh : hd (l.drop a1) 58 = false := by
        rw [hh1, ← h1]; congr 1; rw [decide_eq_decide]; omega
      repeat' (first | refine go ?_ | intro _ | refine And.intro (Sd.mk (by (first | exact fun _ => True.intro | exact And.intro (fun _ => True.intro) (fun _ _ => True.intro) | (intro hq; (first | exact True.intro | omega | (simp only [and_true]; omega) | (simp only [bl] at hq; (try simp only [and_true]); omega) | fail)) | exact And.intro (fun hq => by first | exact True.intro | omega | (simp only [and_true]; omega) | (simp only [bl] at hq; (try simp only [and_true]); omega) | fail) (fun hq hr => by first | exact True.intro | omega | (simp only [and_true]; omega) | (simp only [bl] at hq hr; omega) | (simp only [bl] at hr; omega) | fail) | fail))) ?_ | refine And.intro (by (first | omega | (unfold InR; omega) | decide | (simp only [ll]; omega))) ?_ | (refine And.intro (fun h1 => ?_) (fun h1 => ?_) <;> first | (exact absurd h1 (by decide)) | ((try rw [h1]); (try simp only [bl] at h1))) | dsimp only)
      unfold pM at hT
      rw [if_neg (by simp [hh])] at hT
      exact ⟨[], a1, _, rfl, rfl, hT, ha1, Sub.hv (subBox rfl (subRow rfl rfl (subBox rfl subEnd)))⟩
  rintro x s ⟨pre, a2, w4, rfl, rfl, hC, ha2, o4⟩
  clear o3
  unfold pC at hC
  repeat ((fail_if_success (refine j0_any (fun _ => True) ?_ ?_)); (first | refine go ?_ | intro _ | refine And.intro (Sd.mk (by (first | exact fun _ => True.intro | exact And.intro (fun _ => True.intro) (fun _ _ => True.intro) | (intro hq; (first | exact True.intro | omega | (simp only [and_true]; omega) | (simp only [bl] at hq; (try simp only [and_true]); omega) | fail)) | exact And.intro (fun hq => by first | exact True.intro | omega | (simp only [and_true]; omega) | (simp only [bl] at hq; (try simp only [and_true]); omega) | fail) (fun hq hr => by first | exact True.intro | omega | (simp only [and_true]; omega) | (simp only [bl] at hq hr; omega) | (simp only [bl] at hr; omega) | fail) | fail))) ?_ | refine And.intro (by (first | omega | (unfold InR; omega) | decide | (simp only [ll]; omega))) ?_ | dsimp only))
  refine And.intro (fun h1 => ?_) (fun h1 => ?_)
  · repeat' (first | refine go ?_ | intro _ | refine And.intro (Sd.mk (by (first | exact fun _ => True.intro | exact And.intro (fun _ => True.intro) (fun _ _ => True.intro) | (intro hq; (first | exact True.intro | omega | (simp only [and_true]; omega) | (simp only [bl] at hq; (try simp only [and_true]); omega) | fail)) | exact And.intro (fun hq => by first | exact True.intro | omega | (simp only [and_true]; omega) | (simp only [bl] at hq; (try simp only [and_true]); omega) | fail) (fun hq hr => by first | exact True.intro | omega | (simp only [and_true]; omega) | (simp only [bl] at hq hr; omega) | (simp only [bl] at hr; omega) | fail) | fail))) ?_ | refine And.intro (by (first | omega | (unfold InR; omega) | decide | (simp only [ll]; omega))) ?_ | (refine And.intro (fun h1 => ?_) (fun h1 => ?_) <;> first | (exact absurd h1 (by decide)) | ((try rw [h1]); (try simp only [bl] at h1))) | dsimp only)
    rw [if_pos (List.drop_eq_nil_of_le (by simp at h1; omega))] at hC
    rw [hC] at h
    exact h.err (Sub.hv subEnd)
  have hlt2 : a2 < l.length := by simp at h1; omega
  rw [if_neg (by intro e; have := congrArg List.length e; simp at this; omega)] at hC
  have hwl := word_len (l.drop a2)
  have hdl : (l.drop a2).length = l.length - a2 := List.length_drop
  have hpc := word_take l a2
  have hend := rest_blk l a2
  have hbl := blk_le l (a2 + (wordB (l.drop a2)).length)
  have hcl : (capsS (wordB (l.drop a2))).length = (wordB (l.drop a2)).length := by simp [capsS]
  repeat ((fail_if_success (refine And.intro (fun _ => ?_) (fun _ => ?_))); (first | refine go ?_ | intro _ | refine And.intro (Sd.mk (by (first | exact fun _ => True.intro | exact And.intro (fun _ => True.intro) (fun _ _ => True.intro) | (intro hq; (first | exact True.intro | omega | (simp only [and_true]; omega) | (simp only [bl] at hq; (try simp only [and_true]); omega) | fail)) | exact And.intro (fun hq => by first | exact True.intro | omega | (simp only [and_true]; omega) | (simp only [bl] at hq; (try simp only [and_true]); omega) | fail) (fun hq hr => by first | exact True.intro | omega | (simp only [and_true]; omega) | (simp only [bl] at hq hr; omega) | (simp only [bl] at hr; omega) | fail) | fail))) ?_ | refine And.intro (by (first | omega | (unfold InR; omega) | decide | (simp only [ll]; omega))) ?_ | dsimp only))
  rw [hpc]
  refine And.intro (fun h3 => ?_) (fun h3 => ?_)
  · repeat' (first | refine go ?_ | intro _ | refine And.intro (Sd.mk (by (first | exact fun _ => True.intro | exact And.intro (fun _ => True.intro) (fun _ _ => True.intro) | (intro hq; (first | exact True.intro | omega | (simp only [and_true]; omega) | (simp only [bl] at hq; (try simp only [and_true]); omega) | fail)) | exact And.intro (fun hq => by first | exact True.intro | omega | (simp only [and_true]; omega) | (simp only [bl] at hq; (try simp only [and_true]); omega) | fail) (fun hq hr => by first | exact True.intro | omega | (simp only [and_true]; omega) | (simp only [bl] at hq hr; omega) | (simp only [bl] at hr; omega) | fail) | fail))) ?_ | refine And.intro (by (first | omega | (unfold InR; omega) | decide | (simp only [ll]; omega))) ?_ | (refine And.intro (fun h1 => ?_) (fun h1 => ?_) <;> first | (exact absurd h1 (by decide)) | ((try rw [h1]); (try simp only [bl] at h1))) | dsimp only)
    rw [if_pos h3] at hC
    rw [hC] at h
    exact h.err (Sub.hv subEnd)
  rw [if_neg (by simp at h3; simp [h3])] at hC
  rw [hC] at h
  have hpl2 : ((l.take (a2 + (wordB (l.drop a2)).length)).drop a2).length ≤ 510 := by rw [hpc]; omega
  repeat ((fail_if_success (refine j0_any (fun _ => True) ?_ ?_)); (first | refine go ?_ | intro _ | refine And.intro (Sd.mk (by (first | exact fun _ => True.intro | exact And.intro (fun _ => True.intro) (fun _ _ => True.intro) | (intro hq; (first | exact True.intro | omega | (simp only [and_true]; omega) | (simp only [bl] at hq; (try simp only [and_true]); omega) | fail)) | exact And.intro (fun hq => by first | exact True.intro | omega | (simp only [and_true]; omega) | (simp only [bl] at hq; (try simp only [and_true]); omega) | fail) (fun hq hr => by first | exact True.intro | omega | (simp only [and_true]; omega) | (simp only [bl] at hq hr; omega) | (simp only [bl] at hr; omega) | fail) | fail))) ?_ | refine And.intro (by (first | omega | (unfold InR; omega) | decide | (simp only [ll]; omega))) ?_ | dsimp only))
  rename_i w5 o5
  rw [hpc] at o5
  clear o4
  refine j0_any (fun s => ∃ pv w', s = ⟨w', []⟩ ∧ Hv w0 (box b2 32 [tv, str pre, str (capsS (wordB (l.drop a2))), pv] :: row 9 1 pv (paramsM (restB (l.drop a2))).length ((paramsM (restB (l.drop a2))).map str) :: row 71 2 tv T.length (T.flatMap encT) :: box b1 32 noMsgV :: H) w') ?_ ?_
  · refine ⟨fun x s => ∃ (f i : Nat) (out : List (List UInt8)) (v : Value) (w' : World), x = .int .i64 i ∧ s = ⟨w', []⟩ ∧ (l.drop i).length ≤ f ∧ pgo f (l.drop i) out = paramsM (restB (l.drop a2)) ∧ i ≤ l.length ∧ out.length ≤ 14 ∧ Hv w0 (box b2 32 [tv, str pre, str (capsS (wordB (l.drop a2))), v] :: row 9 1 v out.length (out.map str) :: row 71 2 tv T.length (T.flatMap encT) :: box b1 32 noMsgV :: H) w',
      fun x s => match x with | .int _ z => l.length - z.toNat | _ => 0, ⟨(restB (l.drop a2)).length, _, [], _, _, rfl, rfl, by rw [hend]; exact Nat.le_refl _, by rw [hend]; rfl, hbl, by simp, Hv.perm sep_swap (Hv.nilRow 9 1 o5)⟩, ?_⟩
    rintro x s ⟨f, i, out, v, w6, rfl, rfl, hf, he, hi, ho, o6⟩
    clear o5
    rcases Nat.lt_or_ge i l.length with hlt | hge
    · have hdi := drop_cons hlt
      have hne : l.drop i ≠ [] := by rw [hdi]; simp
      have hhi := hd_drop (l := l) (i := i) 58
      rw [decide_eq_true hlt, Bool.true_and] at hhi
      cases f with
      | zero => exact absurd (List.eq_nil_of_length_eq_zero (by omega)) hne
      | succ f =>
        have hwi := word_len (l.drop i)
        have hli : (l.drop i).length = l.length - i := List.length_drop
        have hpi := word_take l i
        have hei := rest_blk l i
        have hbi := blk_le l (i + (wordB (l.drop i)).length)
        have hrl := rest_lt hne
        have hlb : (l.drop (blk l (i + (wordB (l.drop i)).length))).length = l.length - blk l (i + (wordB (l.drop i)).length) := List.length_drop
        rw [hei] at hlb
        repeat' (first | refine go ?_ | intro _ | refine And.intro (Sd.mk (by (first | exact fun _ => True.intro | exact And.intro (fun _ => True.intro) (fun _ _ => True.intro) | (intro hq; (first | exact True.intro | omega | (simp only [and_true]; omega) | (simp only [bl] at hq; (try simp only [and_true]); omega) | fail)) | exact And.intro (fun hq => by first | exact True.intro | omega | (simp only [and_true]; omega) | (simp only [bl] at hq; (try simp only [and_true]); omega) | fail) (fun hq hr => by first | exact True.intro | omega | (simp only [and_true]; omega) | (simp only [bl] at hq hr; omega) | (simp only [bl] at hr; omega) | fail) | fail))) ?_ | refine And.intro (by (first | omega | (unfold InR; omega) | decide | (simp only [ll]; omega))) ?_ | (refine And.intro (fun h1 => ?_) (fun h1 => ?_) <;> first | (exact absurd h1 (by decide)) | ((try rw [h1]); (try simp only [bl] at h1))) | dsimp only)
        · have e : paramsM (restB (l.drop a2)) = out ++ [l.drop ((i : Int) + 1).toNat] := by
            rw [← he, hdi, h1, pgo_colon, show ((i : Int) + 1).toNat = i + 1 by omega]
          rw [e]
          exact ⟨_, _, rfl, Sub.hv (subBox rfl (subRow (by simp) (by simp) (subRow rfl rfl (subBox rfl subEnd))))⟩
        · have hx : l.getD i default ≠ 58 := by assumption
          have e : paramsM (restB (l.drop a2)) = out ++ [l.drop i] := by
            rw [← he, pgo_last hne (by rw [hhi, decide_eq_false hx]) (by omega)]
          rw [e]
          exact ⟨_, _, rfl, Sub.hv (subBox rfl (subRow (by simp) (by simp) (subRow rfl rfl (subBox rfl subEnd))))⟩
        · have hx : l.getD i default ≠ 58 := by assumption
          rw [pgo_step hne (by rw [hhi, decide_eq_false hx]) (by omega)] at he
          refine ⟨⟨f, _, out ++ [wordB (l.drop i)], _, _, rfl, rfl, by rw [hei]; omega, by rw [hei]; exact he, by omega, by simp; omega, Sub.hv (subBox rfl (subRow (by simp) (by rw [hpi]; simp) (subRow rfl rfl (subBox rfl subEnd))))⟩, ?_⟩
          omega
        · exfalso; omega
    · rw [List.drop_eq_nil_of_le hge, pgo_nil] at he
      subst he
      repeat' (first | refine go ?_ | intro _ | refine And.intro (Sd.mk (by (first | exact fun _ => True.intro | exact And.intro (fun _ => True.intro) (fun _ _ => True.intro) | (intro hq; (first | exact True.intro | omega | (simp only [and_true]; omega) | (simp only [bl] at hq; (try simp only [and_true]); omega) | fail)) | exact And.intro (fun hq => by first | exact True.intro | omega | (simp only [and_true]; omega) | (simp only [bl] at hq; (try simp only [and_true]); omega) | fail) (fun hq hr => by first | exact True.intro | omega | (simp only [and_true]; omega) | (simp only [bl] at hq hr; omega) | (simp only [bl] at hr; omega) | fail) | fail))) ?_ | refine And.intro (by (first | omega | (unfold InR; omega) | decide | (simp only [ll]; omega))) ?_ | (refine And.intro (fun h1 => ?_) (fun h1 => ?_) <;> first | (exact absurd h1 (by decide)) | ((try rw [h1]); (try simp only [bl] at h1))) | dsimp only)
      all_goals first
        | (exfalso; omega)
        | exact ⟨_, _, rfl, o6⟩
  rintro s ⟨pv, w6, rfl, o6⟩
  clear o5
  repeat' (first | refine go ?_ | intro _ | refine And.intro (Sd.mk (by (first | exact fun _ => True.intro | exact And.intro (fun _ => True.intro) (fun _ _ => True.intro) | (intro hq; (first | exact True.intro | omega | (simp only [and_true]; omega) | (simp only [bl] at hq; (try simp only [and_true]); omega) | fail)) | exact And.intro (fun hq => by first | exact True.intro | omega | (simp only [and_true]; omega) | (simp only [bl] at hq; (try simp only [and_true]); omega) | fail) (fun hq hr => by first | exact True.intro | omega | (simp only [and_true]; omega) | (simp only [bl] at hq hr; omega) | (simp only [bl] at hr; omega) | fail) | fail))) ?_ | refine And.intro (by (first | omega | (unfold InR; omega) | decide | (simp only [ll]; omega))) ?_ | (refine And.intro (fun h1 => ?_) (fun h1 => ?_) <;> first | (exact absurd h1 (by decide)) | ((try rw [h1]); (try simp only [bl] at h1))) | dsimp only)
  exact h _ _ _ (Sub.hv (subRow rfl rfl (subRow rfl rfl subEnd)))⟩
end
end Go.Proofs.YtapammcnagjigaaDoor

