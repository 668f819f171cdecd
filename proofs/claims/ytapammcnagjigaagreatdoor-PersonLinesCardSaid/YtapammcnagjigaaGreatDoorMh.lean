import Derived.Test.YtapammcnagjigaaGreatDoorMg
set_option linter.all false
namespace Go.Proofs.YtapammcnagjigaaGreatDoor
open Go.Vx Go.Lib
/-! the document's reading -/
theorem drop_cons {l : List UInt8} {i : Nat} (h : i < l.length) : l.drop i = l.getD i default :: l.drop (i + 1) := by
  rw [List.drop_eq_getElem_cons h]; congr 1; simp [h]
theorem hd_drop {l : List UInt8} {i : Nat} (c : UInt8) : hd (l.drop i) c = (decide (i < l.length) && decide (l.getD i default = c)) := by
  by_cases h : i < l.length
  · rw [drop_cons h, hd_cons, decide_eq_true h]; rfl
  · rw [List.drop_eq_nil_of_le (by omega), decide_eq_false h]; simp [hd]
/-- Where the blanks end. -/
def blk (l : List UInt8) (i : Nat) : Nat := l.length - (trimL (l.drop i) 32).length
section
variable {K : Value → St → Prop} {w0 w : World} {H R : List SL} {ds : List Deferred} {l : List UInt8}
theorem snd_all {l : List UInt8} {i : Nat} (p : UInt8 → Bool) (h : i < l.length) : (l.take (i + 1)).all p = ((l.take i).all p && p (l.getD i default)) := all_take h
instance commandR_ok {w : World} : VS (Cl P 27 #[str l]) w (l.length ≤ 100000) (.bool (cmdB l)) := ⟨fun hl {K ds} h => by
  refine cl_ok (c27 (K := fun v w' => K v ⟨w', ds⟩) ?_ fun v w' h => ⟨v, rfl, h⟩)
  unfold D27
  repeat ((fail_if_success (refine l0_ind (fun _ _ => True) ?_ ?_)); (first | refine go ?_ | intro _ | refine And.intro (Sd.mk (by (first | exact fun _ => True.intro | exact And.intro (fun _ => True.intro) (fun _ _ => True.intro) | (intro hq; (first | exact True.intro | omega | (simp only [and_true]; omega) | (simp only [bl] at hq; (try simp only [and_true]); omega) | fail)) | exact And.intro (fun hq => by first | exact True.intro | omega | (simp only [and_true]; omega) | (simp only [bl] at hq; (try simp only [and_true]); omega) | fail) (fun hq hr => by first | exact True.intro | omega | (simp only [and_true]; omega) | (simp only [bl] at hq hr; omega) | (simp only [bl] at hr; omega) | fail) | fail))) ?_ | refine And.intro (by (first | omega | (unfold InR; omega) | decide | (simp only [ll]; omega))) ?_ | dsimp only))
  refine ⟨fun x y z s => ∃ (i : Nat), x = .bool (decide (0 < (l.length : Int)) && (l.take i).all letB) ∧ y = .bool (decide ((l.length : Int) = 3) && (l.take i).all digB) ∧ z = .int .i64 i ∧ s = ⟨w, []⟩ ∧ i ≤ l.length, fun _ _ z s => match z with | .int _ z => l.length - z.toNat | _ => 0, ⟨0, by simp, by simp, rfl, rfl, Nat.zero_le _⟩, ?_⟩
  rintro x y z s ⟨i, rfl, rfl, rfl, rfl, hi⟩
  have hc : cmdB l = ((decide (0 < (l.length : Int)) && l.all letB) || (decide ((l.length : Int) = 3) && l.all digB)) := by
    unfold cmdB
    congr 1
    · congr 1; cases l <;> simp
    · congr 1; rw [decide_eq_decide]; omega
  rcases Nat.lt_or_ge i l.length with hlt | hge
  · have ha := snd_all letB hlt
    have hb := snd_all digB hlt
    repeat' (first | refine go ?_ | intro _ | refine And.intro (Sd.mk (by (first | exact fun _ => True.intro | exact And.intro (fun _ => True.intro) (fun _ _ => True.intro) | (intro hq; (first | exact True.intro | omega | (simp only [and_true]; omega) | (simp only [bl] at hq; (try simp only [and_true]); omega) | fail)) | exact And.intro (fun hq => by first | exact True.intro | omega | (simp only [and_true]; omega) | (simp only [bl] at hq; (try simp only [and_true]); omega) | fail) (fun hq hr => by first | exact True.intro | omega | (simp only [and_true]; omega) | (simp only [bl] at hq hr; omega) | (simp only [bl] at hr; omega) | fail) | fail))) ?_ | refine And.intro (by (first | omega | (unfold InR; omega) | decide | (simp only [ll]; omega))) ?_ | (refine And.intro (fun h1 => ?_) (fun h1 => ?_) <;> first | (exact absurd h1 (by decide)) | ((try rw [h1]); (try simp only [bl] at h1))) | dsimp only)
    · exact ⟨⟨i + 1, by rw [ha, Bool.and_assoc], by rw [hb, Bool.and_assoc], rfl, rfl, hlt⟩, by simp; omega⟩
    · exfalso; omega
  · rw [List.take_of_length_le hge]
    repeat' (first | refine go ?_ | intro _ | refine And.intro (Sd.mk (by (first | exact fun _ => True.intro | exact And.intro (fun _ => True.intro) (fun _ _ => True.intro) | (intro hq; (first | exact True.intro | omega | (simp only [and_true]; omega) | (simp only [bl] at hq; (try simp only [and_true]); omega) | fail)) | exact And.intro (fun hq => by first | exact True.intro | omega | (simp only [and_true]; omega) | (simp only [bl] at hq; (try simp only [and_true]); omega) | fail) (fun hq hr => by first | exact True.intro | omega | (simp only [and_true]; omega) | (simp only [bl] at hq hr; omega) | (simp only [bl] at hr; omega) | fail) | fail))) ?_ | refine And.intro (by (first | omega | (unfold InR; omega) | decide | (simp only [ll]; omega))) ?_ | (refine And.intro (fun h1 => ?_) (fun h1 => ?_) <;> first | (exact absurd h1 (by decide)) | ((try rw [h1]); (try simp only [bl] at h1))) | dsimp only)
    · exfalso; omega
    · rw [hc] at h; exact h⟩
instance capitalsR_ok [o : Hv w0 H w] : Step (Cl P 28 #[str l] K ⟨w, ds⟩) (l.length ≤ 100000 ∧ ∀ w', Hv w0 H w' → K (str (capsS l)) ⟨w', ds⟩) := ⟨fun ⟨hl, h⟩ => by
  refine cl_ok (c28 (K := fun v w' => K v ⟨w', ds⟩) ?_ fun v w' h => ⟨v, rfl, h⟩)
  unfold D28
  dsimp only
  refine ⟨fun x y s => ∃ (i : Nat) (w' : World), x = str (capsS (l.take i)) ∧ y = .int .i64 i ∧ s = ⟨w', []⟩ ∧ i ≤ l.length ∧ Hv w0 H w', fun _ y s => match y with | .int _ z => l.length - z.toNat | _ => 0, ⟨0, w, by simp [capsS], rfl, rfl, Nat.zero_le _, o⟩, ?_⟩
  rintro x y s ⟨i, w1, rfl, rfl, rfl, hi, o1⟩
  clear o
  have hcl : (capsS (l.take i)).length ≤ l.length := by simp [capsS]; omega
  rcases Nat.lt_or_ge i l.length with hlt | hge
  · have hs : capsS (l.take (i + 1)) = capsS (l.take i) ++ [upB (l.getD i default)] := by unfold capsS; rw [take_snoc hlt, List.map_append]; rfl
    repeat' (first | refine go ?_ | intro _ | refine And.intro (Sd.mk (by (first | exact fun _ => True.intro | exact And.intro (fun _ => True.intro) (fun _ _ => True.intro) | (intro hq; (first | exact True.intro | omega | (simp only [and_true]; omega) | (simp only [bl] at hq; (try simp only [and_true]); omega) | fail)) | exact And.intro (fun hq => by first | exact True.intro | omega | (simp only [and_true]; omega) | (simp only [bl] at hq; (try simp only [and_true]); omega) | fail) (fun hq hr => by first | exact True.intro | omega | (simp only [and_true]; omega) | (simp only [bl] at hq hr; omega) | (simp only [bl] at hr; omega) | fail) | fail))) ?_ | refine And.intro (by (first | omega | (unfold InR; omega) | decide | (simp only [ll]; omega))) ?_ | (refine And.intro (fun h1 => ?_) (fun h1 => ?_) <;> first | (exact absurd h1 (by decide)) | ((try rw [h1]); (try simp only [bl] at h1))) | dsimp only)
    · refine ⟨⟨i + 1, _, ?_, rfl, rfl, hlt, Sub.hv subEnd⟩, by simp; omega⟩
      rw [hs]; unfold upB; rw [decide_eq_true h1.1, decide_eq_true h1.2]; rfl
    · refine ⟨⟨i + 1, _, ?_, rfl, rfl, hlt, Sub.hv subEnd⟩, by simp; omega⟩
      have : upB (l.getD i default) = l.getD i default := by
        unfold upB
        split
        · rename_i hx; simp only [Bool.and_eq_true, decide_eq_true_eq] at hx; exact absurd hx.2 (h1 hx.1)
        · rfl
      rw [hs, this]
    · exfalso; omega
  · rw [List.take_of_length_le hge]
    repeat' (first | refine go ?_ | intro _ | refine And.intro (Sd.mk (by (first | exact fun _ => True.intro | exact And.intro (fun _ => True.intro) (fun _ _ => True.intro) | (intro hq; (first | exact True.intro | omega | (simp only [and_true]; omega) | (simp only [bl] at hq; (try simp only [and_true]); omega) | fail)) | exact And.intro (fun hq => by first | exact True.intro | omega | (simp only [and_true]; omega) | (simp only [bl] at hq; (try simp only [and_true]); omega) | fail) (fun hq hr => by first | exact True.intro | omega | (simp only [and_true]; omega) | (simp only [bl] at hq hr; omega) | (simp only [bl] at hr; omega) | fail) | fail))) ?_ | refine And.intro (by (first | omega | (unfold InR; omega) | decide | (simp only [ll]; omega))) ?_ | (refine And.intro (fun h1 => ?_) (fun h1 => ?_) <;> first | (exact absurd h1 (by decide)) | ((try rw [h1]); (try simp only [bl] at h1))) | dsimp only)
    all_goals first
      | (exfalso; omega)
      | exact h _ (Sub.hv subEnd)⟩
end
end Go.Proofs.YtapammcnagjigaaGreatDoor

