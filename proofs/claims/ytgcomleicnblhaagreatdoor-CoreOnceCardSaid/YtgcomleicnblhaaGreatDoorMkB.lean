import Derived.Test.YtgcomleicnblhaaGreatDoorMkA
set_option linter.all false
namespace Go.Proofs.YtgcomleicnblhaaGreatDoor.Mk
open Go.Vx Go.Lib
/-! commands, capitals -/
theorem all_txt (l : List UInt8) : allK 64 l = txtB l := by
  unfold allK
  have : (fun c : UInt8 => (kindN c.toNat &&& 64) != 0) = okT := funext ok_kind
  rw [this, Bool.eq_iff_iff, txt_iff, List.all_eq_true]
  simp [okT, and_assoc]
section
variable {K : Value → St → Prop} {w0 w : World} {H R : List SL} {ds : List Deferred} {l : List UInt8}
def lets : List UInt8 := [65, 66, 67, 68, 69, 70, 71, 72, 73, 74, 75, 76, 77, 78, 79, 80, 81, 82, 83, 84, 85, 86, 87, 88, 89, 90, 97, 98, 99, 100, 101, 102, 103, 104, 105, 106, 107, 108, 109, 110, 111, 112, 113, 114, 115, 116, 117, 118, 119, 120, 121, 122]
def digs : List UInt8 := [48, 49, 50, 51, 52, 53, 54, 55, 56, 57]
theorem lets_eq (b : UInt8) : lets.contains b = letB b := by
  have := bytes_all (fun b => lets.contains b == letB b) (by decide +kernel) b
  simpa using this
theorem digs_eq (b : UInt8) : digs.contains b = digB b := by
  have := bytes_all (fun b => digs.contains b == digB b) (by decide +kernel) b
  simpa using this
instance command_ok [o : Hv w0 H w] : Step (Cl P 179 #[str l] K ⟨w, ds⟩) (l.length ≤ 100000 ∧ ∀ w', Hv w0 H w' → K (.bool (cmdB l)) ⟨w', ds⟩) := ⟨fun ⟨hl, h⟩ => by
  refine s179 ?_
  have h1 : ∀ cs : List UInt8, l.all (cs.contains ·) = decide (trimLs (trimRs l cs) cs = []) := fun cs => (trims_nil l cs).symm
  have e1 : (fun x => lets.contains x) = letB := funext lets_eq
  have e2 : (fun x => digs.contains x) = digB := funext digs_eq
  have hc : cmdB l = ((!decide (l = []) && decide (trimLs (trimRs l lets) lets = [])) || (decide ((l.length : Int) = 3) && decide (trimLs (trimRs l digs) digs = []))) := by
    unfold cmdB
    rw [← h1, ← h1, e1, e2]
    congr 1
    · congr 1; cases l <;> rfl
    · congr 1; rw [decide_eq_decide]; omega
  unfold D179
  show Cl P 260 #[str l, str lets] _ _
  refine go (And.intro ⟨hl, by decide, by decide, by decide⟩ ?_)
  intro w1 o1
  clear o
  repeat (first | refine go ?_ | intro _ | refine ⟨sb, ?_⟩ | refine ⟨sd, ?_⟩ | dsimp only)
  refine And.intro (fun hA => ?_) (fun hA => ?_)
  · repeat' (first | refine go ?_ | intro _ | refine ⟨sb, ?_⟩ | refine ⟨sd, ?_⟩ | (refine ⟨fun h1 => ?_, fun h1 => ?_⟩ <;> first | exact ab h1 | ((try rw [h1]); (try simp only [bl] at h1))) | dsimp only)
    · refine And.intro ⟨hl, by decide, by decide, by decide⟩ ?_
      intro w2 o2
      repeat' (first | refine go ?_ | intro _ | refine ⟨sb, ?_⟩ | refine ⟨sd, ?_⟩ | (refine ⟨fun h1 => ?_, fun h1 => ?_⟩ <;> first | exact ab h1 | ((try rw [h1]); (try simp only [bl] at h1))) | dsimp only)
      refine cast (congrArg (fun b => K (.bool b) _) ?_) (h _ o2)
      rw [hc, hA, decide_eq_true h1]; rfl
    · refine cast (congrArg (fun b => K (.bool b) _) ?_) (h _ o1)
      rw [hc, hA, decide_eq_false h1]; rfl
  · rw [hA]
    repeat' (first | refine go ?_ | intro _ | refine ⟨sb, ?_⟩ | refine ⟨sd, ?_⟩ | (refine ⟨fun h1 => ?_, fun h1 => ?_⟩ <;> first | exact ab h1 | ((try rw [h1]); (try simp only [bl] at h1))) | dsimp only)
    refine cast (congrArg (fun b => K (.bool b) _) ?_) (h _ o1)
    rw [hc, hA]; simp⟩
def capsTo (l : List UInt8) (i : Nat) : List UInt8 := (l.take i).map upB ++ l.drop i
theorem capsTo_set {l : List UInt8} {i : Nat} (h : i < l.length) (u : UInt8) (hu : u = upB (l.getD i default)) : (capsTo l i).set i u = capsTo l (i + 1) := by
  unfold capsTo
  have h1 : ((l.take i).map upB).length = i := by simp; omega
  rw [List.set_append_right _ _ (by omega), h1, Nat.sub_self, List.drop_eq_getElem_cons h, List.set_cons_zero, take_snoc h, List.map_append, hu]
  simp
theorem capsTo_get {l : List UInt8} {i : Nat} (h : i < l.length) : (capsTo l i).getD i default = l.getD i default := by
  unfold capsTo
  have h1 : ((l.take i).map upB).length = i := by simp; omega
  rw [List.getD_eq_getElem?_getD, List.getElem?_append_right (by omega), h1, Nat.sub_self]
  simp
theorem set_same {α : Type} [Inhabited α] {l : List α} {i : Nat} {a : α} (h : l.getD i default = a) (hi : i < l.length) : l.set i a = l := by
  subst h
  refine List.ext_getElem (by simp) fun j h1 h2 => ?_
  rw [List.getElem_set]
  split
  · rename_i e; subst e; simp [hi]
  · rfl
instance capitals_ok [o : Hv w0 H w] : Step (Cl P 180 #[str l] K ⟨w, ds⟩) (l.length ≤ 100000 ∧ ∀ w', Hv w0 H w' → K (str (capsS l)) ⟨w', ds⟩) := ⟨fun ⟨hl, h⟩ => by
  refine s180 ?_
  unfold D180
  repeat ((fail_if_success (refine l0_ind (fun _ _ => True) ?_ ?_)); (first | refine go ?_ | intro _ | refine ⟨sb, ?_⟩ | refine ⟨sd, ?_⟩ | dsimp only))
  rename_i v w1 o1
  refine ⟨fun x s => ∃ (i : Nat) (w' : World), x = .int .i64 i ∧ s = ⟨w', []⟩ ∧ i ≤ l.length ∧ Hv w0 (srow v l.length (capsTo l i) :: H) w',
    fun x s => match x with | .int _ z => l.length - z.toNat | _ => 0, ⟨0, w1, rfl, rfl, Nat.zero_le _, by simpa [capsTo] using o1⟩, ?_⟩
  rintro x s ⟨i, w2, rfl, rfl, hi, o2⟩
  clear o1 o
  rcases Nat.lt_or_ge i l.length with hlt | hge
  · have hg := capsTo_get hlt
    repeat' (first | refine go ?_ | intro _ | refine ⟨sb, ?_⟩ | refine ⟨sd, ?_⟩ | (refine ⟨fun h1 => ?_, fun h1 => ?_⟩ <;> first | exact ab h1 | ((try rw [h1]); (try simp only [bl] at h1))) | dsimp only)
    · rw [hg] at h1
      refine ⟨⟨i + 1, _, rfl, rfl, hlt, Sub.hv (subSrow rfl ?_ subEnd)⟩, by simp; omega⟩
      refine capsTo_set hlt _ ?_
      rw [hg]; unfold upB; rw [decide_eq_true h1.1, decide_eq_true h1.2]; rfl
    · rw [hg] at h1
      refine ⟨⟨i + 1, _, rfl, rfl, hlt, Sub.hv (subSrow rfl ?_ subEnd)⟩, by simp; omega⟩
      have := capsTo_set hlt (l.getD i default) (by
        unfold upB
        split
        · rename_i hx; simp only [Bool.and_eq_true, decide_eq_true_eq] at hx; exact absurd hx.2 (by have := h1 hx.1; exact this)
        · rfl)
      rw [← this]
      exact (set_same hg (by simp [capsTo]; omega)).symm
    · exfalso; simp at h1; omega
  · obtain rfl : i = l.length := by omega
    repeat' (first | refine go ?_ | intro _ | refine ⟨sb, ?_⟩ | refine ⟨sd, ?_⟩ | (refine ⟨fun h1 => ?_, fun h1 => ?_⟩ <;> first | exact ab h1 | ((try rw [h1]); (try simp only [bl] at h1))) | dsimp only)
    · exfalso; simp at h1
    · have e : capsTo l l.length = capsS l := by simp [capsTo, capsS]
      rw [e]
      exact h _ (Sub.hv subEnd)⟩
theorem spare_eq (p : List UInt8) : spare p = (decide (p = []) || (hd p 58 || p.contains 32)) := rfl
instance spare_ok [o : Hv w0 H w] : Step (Cl P 263 #[str l] K ⟨w, ds⟩) (l.length ≤ 1000000 ∧ ∀ w', Hv w0 H w' → K (.bool (spare l)) ⟨w', ds⟩) := ⟨fun ⟨hl, h⟩ => by
  refine s263 ?_
  unfold D263
  dsimp only
  repeat' (first | refine go ?_ | intro _ | refine ⟨sb, ?_⟩ | refine ⟨sd, ?_⟩ | (refine ⟨fun h1 => ?_, fun h1 => ?_⟩ <;> first | exact ab h1 | ((try rw [h1]); (try simp only [bl] at h1))) | dsimp only)
  refine And.intro (Sd.mk fun hq => ⟨⟨by omega, ?_⟩, True.intro⟩) ?_
  · have : l ≠ [] := by simpa using hq
    have := List.length_pos_iff.2 this
    omega
  repeat' (first | refine go ?_ | intro _ | refine ⟨sb, ?_⟩ | refine ⟨sd, ?_⟩ | (refine ⟨fun h1 => ?_, fun h1 => ?_⟩ <;> first | exact ab h1 | ((try rw [h1]); (try simp only [bl] at h1))) | dsimp only)
  refine cast (congrArg (fun b => K (.bool b) _) ?_) (h _ o)
  unfold spare
  cases l with
  | nil => rfl
  | cons b l => simp [hd_cons]⟩
end
end Go.Proofs.YtgcomleicnblhaaGreatDoor.Mk

