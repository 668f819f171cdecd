import Derived.Test.YtapammcnagjigaaGreatDoorMb
set_option linter.all false
namespace Go.Proofs.YtapammcnagjigaaGreatDoor
open Go.Vx Go.Lib
/-! valid.Text, valid.Clean -/
def okT (b : UInt8) : Bool := b != 0 && b != 10 && b != 13
theorem ok_byte (b : UInt8) : (((kindN b.toNat &&& 64) != 0) == okT b) = true := bytes_all (fun b => ((kindN b.toNat &&& 64) != 0) == okT b) (by decide +kernel) b
theorem ok_kind (b : UInt8) : ((kindN b.toNat &&& 64) != 0) = okT b := by simpa using ok_byte b
def cleanS (l : List UInt8) : List UInt8 := l.filter okT
theorem clean_snoc {l : List UInt8} {i : Nat} (h : i < l.length) : cleanS (l.take (i + 1)) = cleanS (l.take i) ++ (if okT (l.getD i default) then [l.getD i default] else []) := by
  unfold cleanS
  rw [take_snoc h, List.filter_append]
  congr 1
  rw [List.filter_cons]
  rfl
theorem clean_len (l : List UInt8) : (cleanS l).length ≤ l.length := List.length_filter_le ..
theorem clean_pre (l : List UInt8) (i : Nat) : cleanS (l.take i) <+: cleanS l := by
  unfold cleanS
  conv => rhs; rw [← List.take_append_drop i l, List.filter_append]
  exact List.prefix_append ..
section
variable {K : Value → St → Prop} {w0 w : World} {H R : List SL} {ds : List Deferred} {l : List UInt8}
theorem clean_ok {m : Nat} [o : Hv w0 H w] (hl : l.length ≤ 1000000) (h : ∀ w', Hv w0 H w' → K (str ((cleanS l).take m)) ⟨w', ds⟩) : Cl P 117 #[str l, .int .i64 m] K ⟨w, ds⟩ := by
  refine cl_ok (c117 (K := fun v w' => K v ⟨w', ds⟩) ?_ fun v w' h => ⟨v, rfl, h⟩)
  unfold D117
  dsimp only
  repeat (first | refine go ?_ | intro _ | refine And.intro (Sd.mk (by (first | exact fun _ => True.intro | exact And.intro (fun _ => True.intro) (fun _ _ => True.intro) | (intro hq; (first | exact True.intro | omega | (simp only [and_true]; omega) | (simp only [bl] at hq; (try simp only [and_true]); omega) | fail)) | exact And.intro (fun hq => by first | exact True.intro | omega | (simp only [and_true]; omega) | (simp only [bl] at hq; (try simp only [and_true]); omega) | fail) (fun hq hr => by first | exact True.intro | omega | (simp only [and_true]; omega) | (simp only [bl] at hq hr; omega) | (simp only [bl] at hr; omega) | fail) | fail))) ?_ | refine And.intro (by (first | omega | (unfold InR; omega) | decide | (simp only [ll]; omega))) ?_ | dsimp only)
  rename_i b1 _ _ w1 o1 b2 w2 o2
  have o3 := sbd_new (e := 5) o2
  clear o2 o1 o
  refine ⟨fun x s => ∃ (i : Nat) (w' : World), x = .int .i64 i ∧ s = ⟨w', []⟩ ∧ i ≤ l.length ∧ (cleanS (l.take i)).length ≤ m ∧ Hv w0 (sbd 80 5 b2 (cleanS (l.take i)) :: box b1 110 tabV :: H) w',
    fun x s => match x with | .int _ z => l.length - z.toNat | _ => 0, ⟨0, w2, rfl, rfl, Nat.zero_le _, by simp [cleanS], o3⟩, ?_⟩
  rintro x s ⟨i, w3, rfl, rfl, hi, hm, o4⟩
  clear o3
  have hcl := clean_len (l.take i)
  have hcl2 : (l.take i).length ≤ l.length := by rw [List.length_take]; omega
  rcases Nat.lt_or_ge i l.length with hlt | hge
  · have hc := (l.getD i default).toNat_lt
    have hk : kindN (l.getD i default).toNat < 65536 := kd_lt 7 _
    have hs := clean_snoc hlt
    have hok := ok_kind (l.getD i default)
    repeat' (first | refine go ?_ | intro _ | refine And.intro (Sd.mk (by (first | exact fun _ => True.intro | exact And.intro (fun _ => True.intro) (fun _ _ => True.intro) | (intro hq; (first | exact True.intro | omega | (simp only [and_true]; omega) | (simp only [bl] at hq; (try simp only [and_true]); omega) | fail)) | exact And.intro (fun hq => by first | exact True.intro | omega | (simp only [and_true]; omega) | (simp only [bl] at hq; (try simp only [and_true]); omega) | fail) (fun hq hr => by first | exact True.intro | omega | (simp only [and_true]; omega) | (simp only [bl] at hq hr; omega) | (simp only [bl] at hr; omega) | fail) | fail))) ?_ | refine And.intro (by (first | omega | (unfold InR; omega) | decide | (simp only [ll]; omega))) ?_ | (refine And.intro (fun h1 => ?_) (fun h1 => ?_) <;> first | (exact absurd h1 (by decide)) | ((try rw [h1]); (try simp only [bl] at h1))) | dsimp only)
    all_goals first
      | (exfalso; omega)
      | skip
    · have hb : okT (l.getD i default) = true := by
        rw [← hok, bne_iff_ne]
        intro e; apply h1; simp only [Int.toNat_natCast]; rw [show (64 : Int).toNat = 64 from rfl, e]; rfl
      rw [hb, if_pos rfl] at hs
      refine ⟨⟨i + 1, _, rfl, rfl, hlt, by rw [hs]; simp; omega, Sub.hv (subSb hs.symm (subBox rfl subEnd))⟩, by simp [-List.getD_eq_getElem?_getD]; omega⟩
    · have hb : okT (l.getD i default) = false := by
        rw [← hok]
        simp only [Int.toNat_natCast] at h1
        rw [show (64 : Int).toNat = 64 from rfl] at h1
        have : kindN (l.getD i default).toNat &&& 64 = 0 := by omega
        rw [this]; rfl
      rw [hb] at hs
      simp only [Bool.false_eq_true, if_false, List.append_nil] at hs
      refine ⟨⟨i + 1, _, rfl, rfl, hlt, by rw [hs]; omega, Sub.hv (subSb hs.symm (subBox rfl subEnd))⟩, by simp [-List.getD_eq_getElem?_getD]; omega⟩
    · have e : (cleanS l).take m = cleanS (l.take i) := by
        obtain ⟨t, ht⟩ := clean_pre l i
        rw [← ht, List.take_append_of_le_length (by omega), List.take_of_length_le (by omega)]
      rw [e] at h
      exact h _ (Sub.hv subEnd)
  · rw [List.take_of_length_le hge] at hm o4 hcl hcl2
    rw [List.take_of_length_le hm] at h
    repeat' (first | refine go ?_ | intro _ | refine And.intro (Sd.mk (by (first | exact fun _ => True.intro | exact And.intro (fun _ => True.intro) (fun _ _ => True.intro) | (intro hq; (first | exact True.intro | omega | (simp only [and_true]; omega) | (simp only [bl] at hq; (try simp only [and_true]); omega) | fail)) | exact And.intro (fun hq => by first | exact True.intro | omega | (simp only [and_true]; omega) | (simp only [bl] at hq; (try simp only [and_true]); omega) | fail) (fun hq hr => by first | exact True.intro | omega | (simp only [and_true]; omega) | (simp only [bl] at hq hr; omega) | (simp only [bl] at hr; omega) | fail) | fail))) ?_ | refine And.intro (by (first | omega | (unfold InR; omega) | decide | (simp only [ll]; omega))) ?_ | (refine And.intro (fun h1 => ?_) (fun h1 => ?_) <;> first | (exact absurd h1 (by decide)) | ((try rw [h1]); (try simp only [bl] at h1))) | dsimp only)
    all_goals first
      | (exfalso; omega)
      | exact h _ (Sub.hv subEnd)
instance cleanA_ok [o : Hv w0 H w] : Step (Cl P 117 #[str l, .int .i64 l.length] K ⟨w, ds⟩) (l.length ≤ 1000000 ∧ ∀ w', Hv w0 H w' → K (str (cleanS l)) ⟨w', ds⟩) := ⟨fun ⟨hl, h⟩ => clean_ok hl (by rw [List.take_of_length_le (clean_len l)]; exact h)⟩
/-! parts of a line -/
def lets : List UInt8 := [65, 66, 67, 68, 69, 70, 71, 72, 73, 74, 75, 76, 77, 78, 79, 80, 81, 82, 83, 84, 85, 86, 87, 88, 89, 90, 97, 98, 99, 100, 101, 102, 103, 104, 105, 106, 107, 108, 109, 110, 111, 112, 113, 114, 115, 116, 117, 118, 119, 120, 121, 122]
def digs : List UInt8 := [48, 49, 50, 51, 52, 53, 54, 55, 56, 57]
theorem lets_eq (b : UInt8) : lets.contains b = letB b := by
  have := bytes_all (fun b => lets.contains b == letB b) (by decide +kernel) b
  simpa using this
theorem digs_eq (b : UInt8) : digs.contains b = digB b := by
  have := bytes_all (fun b => digs.contains b == digB b) (by decide +kernel) b
  simpa using this
instance command_ok [o : Hv w0 H w] : Step (Cl P 36 #[str l] K ⟨w, ds⟩) (l.length ≤ 100000 ∧ ∀ w', Hv w0 H w' → K (.bool (cmdB l)) ⟨w', ds⟩) := ⟨fun ⟨hl, h⟩ => by
  refine cl_ok (c36 (K := fun v w' => K v ⟨w', ds⟩) ?_ fun v w' h => ⟨v, rfl, h⟩)
  have h1 : ∀ cs : List UInt8, l.all (cs.contains ·) = decide (trimLs (trimRs l cs) cs = []) := fun cs => (trims_nil l cs).symm
  have e1 : (fun x => lets.contains x) = letB := funext lets_eq
  have e2 : (fun x => digs.contains x) = digB := funext digs_eq
  have hc : cmdB l = ((!decide (l = []) && decide (trimLs (trimRs l lets) lets = [])) || (decide ((l.length : Int) = 3) && decide (trimLs (trimRs l digs) digs = []))) := by
    unfold cmdB
    rw [← h1, ← h1, e1, e2]
    congr 1
    · congr 1; cases l <;> rfl
    · congr 1; rw [decide_eq_decide]; omega
  unfold D36
  show Cl P 74 #[str l, str lets] _ _
  refine go (And.intro ⟨hl, by decide, by decide, by decide⟩ ?_)
  intro w1 o1
  clear o
  repeat (first | refine go ?_ | intro _ | refine And.intro (Sd.mk (by (first | exact fun _ => True.intro | exact And.intro (fun _ => True.intro) (fun _ _ => True.intro) | (intro hq; (first | exact True.intro | omega | (simp only [and_true]; omega) | (simp only [bl] at hq; (try simp only [and_true]); omega) | fail)) | exact And.intro (fun hq => by first | exact True.intro | omega | (simp only [and_true]; omega) | (simp only [bl] at hq; (try simp only [and_true]); omega) | fail) (fun hq hr => by first | exact True.intro | omega | (simp only [and_true]; omega) | (simp only [bl] at hq hr; omega) | (simp only [bl] at hr; omega) | fail) | fail))) ?_ | refine And.intro (by (first | omega | (unfold InR; omega) | decide | (simp only [ll]; omega))) ?_ | dsimp only)
  refine And.intro (fun hA => ?_) (fun hA => ?_)
  · repeat' (first | refine go ?_ | intro _ | refine And.intro (Sd.mk (by (first | exact fun _ => True.intro | exact And.intro (fun _ => True.intro) (fun _ _ => True.intro) | (intro hq; (first | exact True.intro | omega | (simp only [and_true]; omega) | (simp only [bl] at hq; (try simp only [and_true]); omega) | fail)) | exact And.intro (fun hq => by first | exact True.intro | omega | (simp only [and_true]; omega) | (simp only [bl] at hq; (try simp only [and_true]); omega) | fail) (fun hq hr => by first | exact True.intro | omega | (simp only [and_true]; omega) | (simp only [bl] at hq hr; omega) | (simp only [bl] at hr; omega) | fail) | fail))) ?_ | refine And.intro (by (first | omega | (unfold InR; omega) | decide | (simp only [ll]; omega))) ?_ | (refine And.intro (fun h1 => ?_) (fun h1 => ?_) <;> first | (exact absurd h1 (by decide)) | ((try rw [h1]); (try simp only [bl] at h1))) | dsimp only)
    · refine And.intro ⟨hl, by decide, by decide, by decide⟩ ?_
      intro w2 o2
      repeat' (first | refine go ?_ | intro _ | refine And.intro (Sd.mk (by (first | exact fun _ => True.intro | exact And.intro (fun _ => True.intro) (fun _ _ => True.intro) | (intro hq; (first | exact True.intro | omega | (simp only [and_true]; omega) | (simp only [bl] at hq; (try simp only [and_true]); omega) | fail)) | exact And.intro (fun hq => by first | exact True.intro | omega | (simp only [and_true]; omega) | (simp only [bl] at hq; (try simp only [and_true]); omega) | fail) (fun hq hr => by first | exact True.intro | omega | (simp only [and_true]; omega) | (simp only [bl] at hq hr; omega) | (simp only [bl] at hr; omega) | fail) | fail))) ?_ | refine And.intro (by (first | omega | (unfold InR; omega) | decide | (simp only [ll]; omega))) ?_ | (refine And.intro (fun h1 => ?_) (fun h1 => ?_) <;> first | (exact absurd h1 (by decide)) | ((try rw [h1]); (try simp only [bl] at h1))) | dsimp only)
      refine cast (congrArg (fun b => K (.bool b) _) ?_) (h _ o2)
      rw [hc, hA, decide_eq_true h1]; rfl
    · refine cast (congrArg (fun b => K (.bool b) _) ?_) (h _ o1)
      rw [hc, hA, decide_eq_false h1]; rfl
  · rw [hA]
    repeat' (first | refine go ?_ | intro _ | refine And.intro (Sd.mk (by (first | exact fun _ => True.intro | exact And.intro (fun _ => True.intro) (fun _ _ => True.intro) | (intro hq; (first | exact True.intro | omega | (simp only [and_true]; omega) | (simp only [bl] at hq; (try simp only [and_true]); omega) | fail)) | exact And.intro (fun hq => by first | exact True.intro | omega | (simp only [and_true]; omega) | (simp only [bl] at hq; (try simp only [and_true]); omega) | fail) (fun hq hr => by first | exact True.intro | omega | (simp only [and_true]; omega) | (simp only [bl] at hq hr; omega) | (simp only [bl] at hr; omega) | fail) | fail))) ?_ | refine And.intro (by (first | omega | (unfold InR; omega) | decide | (simp only [ll]; omega))) ?_ | (refine And.intro (fun h1 => ?_) (fun h1 => ?_) <;> first | (exact absurd h1 (by decide)) | ((try rw [h1]); (try simp only [bl] at h1))) | dsimp only)
    refine cast (congrArg (fun b => K (.bool b) _) ?_) (h _ o1)
    rw [hc, hA]; simp⟩
def capsTo (l : List UInt8) (i : Nat) : List UInt8 := (l.take i).map upB ++ l.drop i
theorem capsTo_set {l : List UInt8} {i : Nat} (h : i < l.length) (u : UInt8) (hu : u = upB (l.getD i default)) : (capsTo l i).set i u = capsTo l (i + 1) := by
  unfold capsTo
  have h1 : ((l.take i).map upB).length = i := by simp; omega
  rw [List.set_append_right _ _ (by omega), h1, Nat.sub_self, List.drop_eq_getElem_cons h, List.set_cons_zero, take_snoc h, List.map_append, hu]
  simp
theorem capsTo_get {l : List UInt8} {i : Nat} (h : i < l.length) : (capsTo l i).getD i default = l.getD i default := by
  unfold capsTo
  have h1 : ((l.take i).map upB).length = i := by simp; omega
  rw [List.getD_eq_getElem?_getD, List.getElem?_append_right (by omega), h1, Nat.sub_self]
  simp
theorem set_same {α : Type} [Inhabited α] {l : List α} {i : Nat} {a : α} (h : l.getD i default = a) (hi : i < l.length) : l.set i a = l := by
  subst h
  refine List.ext_getElem (by simp) fun j h1 h2 => ?_
  rw [List.getElem_set]
  split
  · rename_i e; subst e; simp [hi]
  · rfl
instance capitals_ok [o : Hv w0 H w] : Step (Cl P 37 #[str l] K ⟨w, ds⟩) (l.length ≤ 100000 ∧ ∀ w', Hv w0 H w' → K (str (capsS l)) ⟨w', ds⟩) := ⟨fun ⟨hl, h⟩ => by
  refine cl_ok (c37 (K := fun v w' => K v ⟨w', ds⟩) ?_ fun v w' h => ⟨v, rfl, h⟩)
  unfold D37
  repeat ((fail_if_success (refine l0_ind (fun _ _ => True) ?_ ?_)); (first | refine go ?_ | intro _ | refine And.intro (Sd.mk (by (first | exact fun _ => True.intro | exact And.intro (fun _ => True.intro) (fun _ _ => True.intro) | (intro hq; (first | exact True.intro | omega | (simp only [and_true]; omega) | (simp only [bl] at hq; (try simp only [and_true]); omega) | fail)) | exact And.intro (fun hq => by first | exact True.intro | omega | (simp only [and_true]; omega) | (simp only [bl] at hq; (try simp only [and_true]); omega) | fail) (fun hq hr => by first | exact True.intro | omega | (simp only [and_true]; omega) | (simp only [bl] at hq hr; omega) | (simp only [bl] at hr; omega) | fail) | fail))) ?_ | refine And.intro (by (first | omega | (unfold InR; omega) | decide | (simp only [ll]; omega))) ?_ | dsimp only))
  rename_i v w1 o1
  refine ⟨fun x s => ∃ (i : Nat) (w' : World), x = .int .i64 i ∧ s = ⟨w', []⟩ ∧ i ≤ l.length ∧ Hv w0 (srow v l.length (capsTo l i) :: H) w',
    fun x s => match x with | .int _ z => l.length - z.toNat | _ => 0, ⟨0, w1, rfl, rfl, Nat.zero_le _, by simpa [capsTo] using o1⟩, ?_⟩
  rintro x s ⟨i, w2, rfl, rfl, hi, o2⟩
  clear o1 o
  rcases Nat.lt_or_ge i l.length with hlt | hge
  · have hg := capsTo_get hlt
    repeat' (first | refine go ?_ | intro _ | refine And.intro (Sd.mk (by (first | exact fun _ => True.intro | exact And.intro (fun _ => True.intro) (fun _ _ => True.intro) | (intro hq; (first | exact True.intro | omega | (simp only [and_true]; omega) | (simp only [bl] at hq; (try simp only [and_true]); omega) | fail)) | exact And.intro (fun hq => by first | exact True.intro | omega | (simp only [and_true]; omega) | (simp only [bl] at hq; (try simp only [and_true]); omega) | fail) (fun hq hr => by first | exact True.intro | omega | (simp only [and_true]; omega) | (simp only [bl] at hq hr; omega) | (simp only [bl] at hr; omega) | fail) | fail))) ?_ | refine And.intro (by (first | omega | (unfold InR; omega) | decide | (simp only [ll]; omega))) ?_ | (refine And.intro (fun h1 => ?_) (fun h1 => ?_) <;> first | (exact absurd h1 (by decide)) | ((try rw [h1]); (try simp only [bl] at h1))) | dsimp only)
    · rw [hg] at h1
      refine ⟨⟨i + 1, _, rfl, rfl, hlt, Sub.hv (subSrow rfl ?_ subEnd)⟩, by simp; omega⟩
      refine capsTo_set hlt _ ?_
      rw [hg]; unfold upB; rw [decide_eq_true h1.1, decide_eq_true h1.2]; rfl
    · rw [hg] at h1
      refine ⟨⟨i + 1, _, rfl, rfl, hlt, Sub.hv (subSrow rfl ?_ subEnd)⟩, by simp; omega⟩
      have := capsTo_set hlt (l.getD i default) (by
        unfold upB
        split
        · rename_i hx; simp only [Bool.and_eq_true, decide_eq_true_eq] at hx; exact absurd hx.2 (by have := h1 hx.1; exact this)
        · rfl)
      rw [← this]
      exact (set_same hg (by simp [capsTo]; omega)).symm
    · exfalso; simp at h1; omega
  · obtain rfl : i = l.length := by omega
    repeat' (first | refine go ?_ | intro _ | refine And.intro (Sd.mk (by (first | exact fun _ => True.intro | exact And.intro (fun _ => True.intro) (fun _ _ => True.intro) | (intro hq; (first | exact True.intro | omega | (simp only [and_true]; omega) | (simp only [bl] at hq; (try simp only [and_true]); omega) | fail)) | exact And.intro (fun hq => by first | exact True.intro | omega | (simp only [and_true]; omega) | (simp only [bl] at hq; (try simp only [and_true]); omega) | fail) (fun hq hr => by first | exact True.intro | omega | (simp only [and_true]; omega) | (simp only [bl] at hq hr; omega) | (simp only [bl] at hr; omega) | fail) | fail))) ?_ | refine And.intro (by (first | omega | (unfold InR; omega) | decide | (simp only [ll]; omega))) ?_ | (refine And.intro (fun h1 => ?_) (fun h1 => ?_) <;> first | (exact absurd h1 (by decide)) | ((try rw [h1]); (try simp only [bl] at h1))) | dsimp only)
    · exfalso; simp at h1
    · have e : capsTo l l.length = capsS l := by simp [capsTo, capsS]
      rw [e]
      exact h _ (Sub.hv subEnd)⟩
instance contains_ok {w : World} {l : List UInt8} {c : UInt8} : VT (Cl P 33 #[str l, str [c]]) w (.bool (l.contains c)) := ⟨fun {K ds} h => by
  refine cl_ok (c33 (K := fun v w' => K v ⟨w', ds⟩) ?_ fun v w' h => ⟨v, rfl, h⟩)
  unfold D33
  dsimp only
  repeat' (first | refine go ?_ | intro _ | refine And.intro (Sd.mk (by (first | exact fun _ => True.intro | exact And.intro (fun _ => True.intro) (fun _ _ => True.intro) | (intro hq; (first | exact True.intro | omega | (simp only [and_true]; omega) | (simp only [bl] at hq; (try simp only [and_true]); omega) | fail)) | exact And.intro (fun hq => by first | exact True.intro | omega | (simp only [and_true]; omega) | (simp only [bl] at hq; (try simp only [and_true]); omega) | fail) (fun hq hr => by first | exact True.intro | omega | (simp only [and_true]; omega) | (simp only [bl] at hq hr; omega) | (simp only [bl] at hr; omega) | fail) | fail))) ?_ | refine And.intro (by (first | omega | (unfold InR; omega) | decide | (simp only [ll]; omega))) ?_ | (refine And.intro (fun h1 => ?_) (fun h1 => ?_) <;> first | (exact absurd h1 (by decide)) | ((try rw [h1]); (try simp only [bl] at h1))) | dsimp only)
  rw [idxB_has]
  exact h⟩
theorem spare_eq (p : List UInt8) : spare p = (decide (p = []) || (hd p 58 || p.contains 32)) := rfl
instance spare_ok [o : Hv w0 H w] : Step (Cl P 39 #[str l] K ⟨w, ds⟩) (l.length ≤ 1000000 ∧ ∀ w', Hv w0 H w' → K (.bool (spare l)) ⟨w', ds⟩) := ⟨fun ⟨hl, h⟩ => by
  refine cl_ok (c39 (K := fun v w' => K v ⟨w', ds⟩) ?_ fun v w' h => ⟨v, rfl, h⟩)
  unfold D39
  dsimp only
  repeat' (first | refine go ?_ | intro _ | refine And.intro (Sd.mk (by (first | exact fun _ => True.intro | exact And.intro (fun _ => True.intro) (fun _ _ => True.intro) | (intro hq; (first | exact True.intro | omega | (simp only [and_true]; omega) | (simp only [bl] at hq; (try simp only [and_true]); omega) | fail)) | exact And.intro (fun hq => by first | exact True.intro | omega | (simp only [and_true]; omega) | (simp only [bl] at hq; (try simp only [and_true]); omega) | fail) (fun hq hr => by first | exact True.intro | omega | (simp only [and_true]; omega) | (simp only [bl] at hq hr; omega) | (simp only [bl] at hr; omega) | fail) | fail))) ?_ | refine And.intro (by (first | omega | (unfold InR; omega) | decide | (simp only [ll]; omega))) ?_ | (refine And.intro (fun h1 => ?_) (fun h1 => ?_) <;> first | (exact absurd h1 (by decide)) | ((try rw [h1]); (try simp only [bl] at h1))) | dsimp only)
  refine And.intro (Sd.mk fun hq => ⟨⟨by omega, ?_⟩, True.intro⟩) ?_
  · have : l ≠ [] := by simpa using hq
    have := List.length_pos_iff.2 this
    omega
  repeat' (first | refine go ?_ | intro _ | refine And.intro (Sd.mk (by (first | exact fun _ => True.intro | exact And.intro (fun _ => True.intro) (fun _ _ => True.intro) | (intro hq; (first | exact True.intro | omega | (simp only [and_true]; omega) | (simp only [bl] at hq; (try simp only [and_true]); omega) | fail)) | exact And.intro (fun hq => by first | exact True.intro | omega | (simp only [and_true]; omega) | (simp only [bl] at hq; (try simp only [and_true]); omega) | fail) (fun hq hr => by first | exact True.intro | omega | (simp only [and_true]; omega) | (simp only [bl] at hq hr; omega) | (simp only [bl] at hr; omega) | fail) | fail))) ?_ | refine And.intro (by (first | omega | (unfold InR; omega) | decide | (simp only [ll]; omega))) ?_ | (refine And.intro (fun h1 => ?_) (fun h1 => ?_) <;> first | (exact absurd h1 (by decide)) | ((try rw [h1]); (try simp only [bl] at h1))) | dsimp only)
  refine cast (congrArg (fun b => K (.bool b) _) ?_) (h _ o)
  unfold spare
  cases l with
  | nil => rfl
  | cons b l => simp [hd_cons]⟩
end
end Go.Proofs.YtapammcnagjigaaGreatDoor

