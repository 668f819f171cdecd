import Derived.Test.YtapammcnagjigaaDoorBl
import Derived.Test.YtapammcnagjigaaDoorShelf
set_option linter.all false
namespace Go.Proofs.YtapammcnagjigaaDoor
open Go.Vx Go.Lib
/-! strings: IndexByte, Index, Count, Cut, Split -/
instance sidx_ok {w : World} {l : List UInt8} {c : UInt8} : VT (Cl P 129 #[str l, byteV c]) w (.int .i64 (idxB l c)) := ⟨fun {K ds} h => by
  refine cl_ok (c129 (K := fun v w' => K v ⟨w', ds⟩) ?_ fun v w' h => ⟨v, rfl, h⟩)
  unfold D129
  repeat' (first | refine go ?_ | intro _ | refine And.intro (by (first | omega | (unfold InR; omega) | decide | (simp only [ll]; omega))) ?_ | (refine And.intro (fun h1 => ?_) (fun h1 => ?_) <;> first | (exact absurd h1 (by decide)) | ((try rw [h1]); (try simp only [bl] at h1))) | dsimp only)
  exact h⟩
instance idx_ok {w : World} {l : List UInt8} {c : UInt8} : VT (Cl P 97 #[str l, byteV c]) w (.int .i64 (idxB l c)) := ⟨fun {K ds} h => by
  refine cl_ok (c97 (K := fun v w' => K v ⟨w', ds⟩) ?_ fun v w' h => ⟨v, rfl, h⟩)
  unfold D97
  repeat' (first | refine go ?_ | intro _ | refine And.intro (by (first | omega | (unfold InR; omega) | decide | (simp only [ll]; omega))) ?_ | (refine And.intro (fun h1 => ?_) (fun h1 => ?_) <;> first | (exact absurd h1 (by decide)) | ((try rw [h1]); (try simp only [bl] at h1))) | dsimp only)
  exact h⟩
instance idx70_ok {w : World} {l : List UInt8} {c : UInt8} : VT (Cl P 99 #[str l, str [c]]) w (.int .i64 (idxB l c)) := ⟨fun {K ds} h => by
  refine cl_ok ((Tryd.strings_Index_one ⟨l.toArray⟩ c w).mono fun e w' ⟨he, hw⟩ => ?_)
  subst hw
  refine ⟨_, he, ?_⟩
  simpa [idx_eq] using h⟩
instance idx71_ok {w : World} {l : List UInt8} {c : UInt8} : VT (Cl P 130 #[str l, str [c]]) w (.int .i64 (idxB l c)) := ⟨fun {K ds} h => by
  refine cl_ok ((Tryd.stringslite_Index_one ⟨l.toArray⟩ c w).mono fun e w' ⟨he, hw⟩ => ?_)
  subst hw
  refine ⟨_, he, ?_⟩
  simpa [idx_eq] using h⟩
instance count_ok {w : World} {l : List UInt8} {c : UInt8} : VT (Cl P 143 #[str l, str [c]]) w (.int .i64 (l.count c : Nat)) := ⟨fun {K ds} h => by
  refine cl_ok ((Tryd.strings_Count_one ⟨l.toArray⟩ c w).mono fun e w' ⟨he, hw⟩ => ?_)
  subst hw
  refine ⟨_, he, ?_⟩
  simpa [countByte] using h⟩
theorem idxB_some {l : List UInt8} {c : UInt8} {i : Nat} (h : l.findIdx? (· == c) = some i) : idxB l c = (i : Int) := by unfold idxB; rw [h]
theorem idxB_none {l : List UInt8} {c : UInt8} (h : l.findIdx? (· == c) = none) : idxB l c = -1 := by unfold idxB; rw [h]
def cutB (l : List UInt8) (c : UInt8) : List UInt8 × List UInt8 × Bool := match l.findIdx? (· == c) with | some i => (l.take i, l.drop (i + 1), true) | none => (l, [], false)
theorem find_lt {l : List UInt8} {c : UInt8} {i : Nat} (h : l.findIdx? (· == c) = some i) : i < l.length := (List.findIdx?_eq_some_iff_getElem.1 h).1
instance cut49_ok {K : Value → St → Prop} {w0 w : World} {H : List SL} {ds : List Deferred} {l : List UInt8} {c : UInt8} [o : Hv w0 H w] :
    Step (Cl P 115 #[str l, str [c]] K ⟨w, ds⟩) (l.length ≤ 1000000000 ∧ ∀ w', Hv w0 H w' → K (.tuple #[str (cutB l c).1, str (cutB l c).2.1, .bool (cutB l c).2.2]) ⟨w', ds⟩) := ⟨fun ⟨hb, h⟩ => by
  refine cl_ok (c115 (K := fun v w' => K v ⟨w', ds⟩) ?_ fun v w' h => ⟨v, rfl, h⟩)
  unfold D115
  dsimp only
  unfold cutB at h
  have hi : idxB l c = match l.findIdx? (· == c) with | some i => (i : Int) | none => -1 := rfl
  cases hf : l.findIdx? (· == c) with
  | none =>
    rw [hf] at h hi
    dsimp only at h hi
    repeat (first | refine go ?_ | intro _ | refine And.intro (Sd.mk (by (first | exact fun _ => True.intro | exact And.intro (fun _ => True.intro) (fun _ _ => True.intro) | (intro hq; (first | exact True.intro | omega | (simp only [and_true]; omega) | (simp only [bl] at hq; (try simp only [and_true]); omega) | fail)) | exact And.intro (fun hq => by first | exact True.intro | omega | (simp only [and_true]; omega) | (simp only [bl] at hq; (try simp only [and_true]); omega) | fail) (fun hq hr => by first | exact True.intro | omega | (simp only [and_true]; omega) | (simp only [bl] at hq hr; omega) | (simp only [bl] at hr; omega) | fail) | fail))) ?_ | refine And.intro (by (first | omega | (unfold InR; omega) | decide | (simp only [ll]; omega))) ?_ | dsimp only)
    rw [hi]
    repeat' (first | refine go ?_ | intro _ | refine And.intro (Sd.mk (by (first | exact fun _ => True.intro | exact And.intro (fun _ => True.intro) (fun _ _ => True.intro) | (intro hq; (first | exact True.intro | omega | (simp only [and_true]; omega) | (simp only [bl] at hq; (try simp only [and_true]); omega) | fail)) | exact And.intro (fun hq => by first | exact True.intro | omega | (simp only [and_true]; omega) | (simp only [bl] at hq; (try simp only [and_true]); omega) | fail) (fun hq hr => by first | exact True.intro | omega | (simp only [and_true]; omega) | (simp only [bl] at hq hr; omega) | (simp only [bl] at hr; omega) | fail) | fail))) ?_ | refine And.intro (by (first | omega | (unfold InR; omega) | decide | (simp only [ll]; omega))) ?_ | (refine And.intro (fun h1 => ?_) (fun h1 => ?_) <;> first | (exact absurd h1 (by decide)) | ((try rw [h1]); (try simp only [bl] at h1))) | dsimp only)
    exact h _ o
  | some i =>
    have hlt := find_lt hf
    rw [hf] at h hi
    dsimp only at h hi
    repeat (first | refine go ?_ | intro _ | refine And.intro (Sd.mk (by (first | exact fun _ => True.intro | exact And.intro (fun _ => True.intro) (fun _ _ => True.intro) | (intro hq; (first | exact True.intro | omega | (simp only [and_true]; omega) | (simp only [bl] at hq; (try simp only [and_true]); omega) | fail)) | exact And.intro (fun hq => by first | exact True.intro | omega | (simp only [and_true]; omega) | (simp only [bl] at hq; (try simp only [and_true]); omega) | fail) (fun hq hr => by first | exact True.intro | omega | (simp only [and_true]; omega) | (simp only [bl] at hq hr; omega) | (simp only [bl] at hr; omega) | fail) | fail))) ?_ | refine And.intro (by (first | omega | (unfold InR; omega) | decide | (simp only [ll]; omega))) ?_ | dsimp only)
    rw [hi]
    have e1 : [c].length = 1 := rfl
    repeat' (first | refine go ?_ | intro _ | refine And.intro (Sd.mk (by (first | exact fun _ => True.intro | exact And.intro (fun _ => True.intro) (fun _ _ => True.intro) | (intro hq; (first | exact True.intro | omega | (simp only [and_true]; omega) | (simp only [bl] at hq; (try simp only [and_true]); omega) | fail)) | exact And.intro (fun hq => by first | exact True.intro | omega | (simp only [and_true]; omega) | (simp only [bl] at hq; (try simp only [and_true]); omega) | fail) (fun hq hr => by first | exact True.intro | omega | (simp only [and_true]; omega) | (simp only [bl] at hq hr; omega) | (simp only [bl] at hr; omega) | fail) | fail))) ?_ | refine And.intro (by (first | omega | (unfold InR; omega) | decide | (simp only [ll]; omega))) ?_ | (refine And.intro (fun h1 => ?_) (fun h1 => ?_) <;> first | (exact absurd h1 (by decide)) | ((try rw [h1]); (try simp only [bl] at h1))) | dsimp only)
    · have e2 : ((i : Int) + ([c].length : Nat)).toNat = i + 1 := by omega
      rw [e2]
      exact h _ ‹_›
    · exact absurd h1 (Int.not_lt.2 (Int.natCast_nonneg i))⟩
instance cut_ok {K : Value → St → Prop} {w0 w : World} {H : List SL} {ds : List Deferred} {l : List UInt8} {c : UInt8} [o : Hv w0 H w] :
    Step (Cl P 80 #[str l, str [c]] K ⟨w, ds⟩) (l.length ≤ 1000000000 ∧ ∀ w', Hv w0 H w' → K (.tuple #[str (cutB l c).1, str (cutB l c).2.1, .bool (cutB l c).2.2]) ⟨w', ds⟩) := ⟨fun ⟨hb, h⟩ => by
  refine cl_ok (c80 (K := fun v w' => K v ⟨w', ds⟩) ?_ fun v w' h => ⟨v, rfl, h⟩)
  unfold D80
  dsimp only
  repeat' (first | refine go ?_ | intro _ | refine And.intro (Sd.mk (by (first | exact fun _ => True.intro | exact And.intro (fun _ => True.intro) (fun _ _ => True.intro) | (intro hq; (first | exact True.intro | omega | (simp only [and_true]; omega) | (simp only [bl] at hq; (try simp only [and_true]); omega) | fail)) | exact And.intro (fun hq => by first | exact True.intro | omega | (simp only [and_true]; omega) | (simp only [bl] at hq; (try simp only [and_true]); omega) | fail) (fun hq hr => by first | exact True.intro | omega | (simp only [and_true]; omega) | (simp only [bl] at hq hr; omega) | (simp only [bl] at hr; omega) | fail) | fail))) ?_ | refine And.intro (by (first | omega | (unfold InR; omega) | decide | (simp only [ll]; omega))) ?_ | (refine And.intro (fun h1 => ?_) (fun h1 => ?_) <;> first | (exact absurd h1 (by decide)) | ((try rw [h1]); (try simp only [bl] at h1))) | dsimp only)
  exact h _ (Sub.hv subEnd)⟩
def splitS (c : UInt8) : List UInt8 → List (List UInt8)
  | [] => [[]]
  | b :: t => if b == c then [] :: splitS c t else match splitS c t with | [] => [[b]] | h :: r => (b :: h) :: r
theorem splitS_none {c : UInt8} {l : List UInt8} (h : l.findIdx? (· == c) = none) : splitS c l = [l] := by
  induction l with
  | nil => rfl
  | cons b t ih =>
    rw [List.findIdx?_cons] at h
    by_cases hb : b == c
    · simp [hb] at h
    · simp only [hb, Bool.false_eq_true, if_false, Option.map_eq_none_iff] at h
      simp only [splitS, hb, Bool.false_eq_true, if_false, ih h]
theorem splitS_some {c : UInt8} {l : List UInt8} : ∀ {i : Nat}, l.findIdx? (· == c) = some i → splitS c l = l.take i :: splitS c (l.drop (i + 1)) := by
  induction l with
  | nil => intro i h; simp at h
  | cons b t ih =>
    intro i h
    rw [List.findIdx?_cons] at h
    by_cases hb : b == c
    · simp only [hb, if_true, Option.some.injEq] at h
      subst h
      simp [splitS, hb]
    · simp only [hb, Bool.false_eq_true, if_false, Option.map_eq_some_iff] at h
      obtain ⟨j, hj, rfl⟩ := h
      simp only [splitS, hb, Bool.false_eq_true, if_false, ih hj]
      simp
theorem splitS_len (c : UInt8) (l : List UInt8) : (splitS c l).length = l.count c + 1 := by
  induction l with
  | nil => rfl
  | cons b t ih =>
    simp only [splitS]
    by_cases hb : b == c
    · simp only [hb, if_true, List.length_cons, ih, List.count_cons]
    · simp only [hb, Bool.false_eq_true, if_false, List.count_cons]
      cases hs : splitS c t with
      | nil => rw [hs] at ih; simp at ih
      | cons h r => rw [hs] at ih; simpa using ih
def fills (done : List (List UInt8)) (m : Nat) : List (List UInt8) := done ++ List.replicate m []
theorem fills_set {done : List (List UInt8)} {m i : Nat} {x : List UInt8} (hi : i = done.length) : ((fills done (m + 1)).map str).set i (str x) = (fills (done ++ [x]) m).map str := by
  subst hi
  unfold fills
  rw [← List.map_set, List.set_append_right _ _ (Nat.le_refl _), Nat.sub_self, List.replicate_succ]
  simp
theorem count_idx {c : UInt8} {l : List UInt8} : 0 < l.count c ↔ 0 ≤ idxB l c := by
  rw [List.count_pos_iff]
  have := @idxB_neg l c
  constructor
  · intro h
    rcases Int.lt_or_le (idxB l c) 0 with h2 | h2
    · exact absurd rfl (this.1 h2 c h)
    · exact h2
  · intro h
    apply Classical.byContradiction
    intro hn
    have := this.2 fun x hx e => hn (e ▸ hx)
    omega
instance gsplit_ok {K : Value → St → Prop} {w0 w : World} {H : List SL} {ds : List Deferred} {l : List UInt8} {c : UInt8} [o : Hv w0 H w] :
    Step (Cl P 120 #[str l, str [c], .int .i64 0, .int .i64 (-1)] K ⟨w, ds⟩) (l.length ≤ 100000 ∧ ∀ v w', Hv w0 (row 9 1 v (splitS c l).length ((splitS c l).map str) :: H) w' → K v ⟨w', ds⟩) := ⟨fun ⟨hb, h⟩ => by
  refine cl_ok (c120 (K := fun v w' => K v ⟨w', ds⟩) ?_ fun v w' h => ⟨v, rfl, h⟩)
  unfold D120
  dsimp only
  have hcl : l.count c ≤ l.length := List.count_le_length
  have e1 : [c].length = 1 := rfl
  repeat' (first | refine go ?_ | intro _ | refine And.intro (Sd.mk (by (first | exact fun _ => True.intro | exact And.intro (fun _ => True.intro) (fun _ _ => True.intro) | (intro hq; (first | exact True.intro | omega | (simp only [and_true]; omega) | (simp only [bl] at hq; (try simp only [and_true]); omega) | fail)) | exact And.intro (fun hq => by first | exact True.intro | omega | (simp only [and_true]; omega) | (simp only [bl] at hq; (try simp only [and_true]); omega) | fail) (fun hq hr => by first | exact True.intro | omega | (simp only [and_true]; omega) | (simp only [bl] at hq hr; omega) | (simp only [bl] at hr; omega) | fail) | fail))) ?_ | refine And.intro (by (first | omega | (unfold InR; omega) | decide | (simp only [ll]; omega))) ?_ | (refine And.intro (fun h1 => ?_) (fun h1 => ?_) <;> first | (exact absurd h1 (by decide)) | ((try rw [h1]); (try simp only [bl] at h1))) | dsimp only)
  · exact absurd h1 (by simp)
  · have en : min (((l.count c : Nat) : Int) + 1) ((l.length : Int) + 1) = (l.count c : Nat) + 1 := by omega
    have en2 : (((l.count c : Nat) : Int) + 1).toNat = l.count c + 1 := by omega
    rename_i v w1 o1
    rw [en, en2] at o1
    rw [en]
    refine ⟨fun x y s => ∃ (done : List (List UInt8)) (rest : List UInt8) (w' : World), x = str rest ∧ y = .int .i64 (done.length : Nat) ∧ s = ⟨w', []⟩ ∧ splitS c l = done ++ splitS c rest ∧ done.length + rest.count c = l.count c ∧ rest.length ≤ l.length ∧ Hv w0 (row 9 1 v (l.count c + 1) ((fills done (rest.count c + 1)).map str) :: H) w',
      fun x _ s => match x with | .string b => b.size | _ => 0, ⟨[], l, w1, rfl, rfl, rfl, rfl, by simp, Nat.le_refl _, by simpa [fills] using o1⟩, ?_⟩
    rintro x y s ⟨done, rest, w2, rfl, rfl, rfl, hs, hc, hr, o2⟩
    have hcr := @count_idx c rest
    have hi : idxB rest c = match rest.findIdx? (· == c) with | some i => (i : Int) | none => -1 := rfl
    repeat' (first | refine go ?_ | intro _ | refine And.intro (Sd.mk (by (first | exact fun _ => True.intro | exact And.intro (fun _ => True.intro) (fun _ _ => True.intro) | (intro hq; (first | exact True.intro | omega | (simp only [and_true]; omega) | (simp only [bl] at hq; (try simp only [and_true]); omega) | fail)) | exact And.intro (fun hq => by first | exact True.intro | omega | (simp only [and_true]; omega) | (simp only [bl] at hq; (try simp only [and_true]); omega) | fail) (fun hq hr => by first | exact True.intro | omega | (simp only [and_true]; omega) | (simp only [bl] at hq hr; omega) | (simp only [bl] at hr; omega) | fail) | fail))) ?_ | refine And.intro (by (first | omega | (unfold InR; omega) | decide | (simp only [ll]; omega))) ?_ | (refine And.intro (fun h1 => ?_) (fun h1 => ?_) <;> first | (exact absurd h1 (by decide)) | ((try rw [h1]); (try simp only [bl] at h1))) | dsimp only)
    · exfalso; omega
    · obtain ⟨i, hf, hi2⟩ : ∃ i : Nat, rest.findIdx? (· == c) = some i ∧ idxB rest c = i := by
        cases hf : rest.findIdx? (· == c) with
        | none => rw [hf] at hi; dsimp only at hi; omega
        | some i => rw [hf] at hi; exact ⟨i, rfl, hi⟩
      have hlt := find_lt hf
      have hss := splitS_some hf
      have hsl := congrArg List.length hss
      rw [List.length_cons, splitS_len, splitS_len] at hsl
      rw [hi2]
      repeat' (first | refine go ?_ | intro _ | refine And.intro (Sd.mk (by (first | exact fun _ => True.intro | exact And.intro (fun _ => True.intro) (fun _ _ => True.intro) | (intro hq; (first | exact True.intro | omega | (simp only [and_true]; omega) | (simp only [bl] at hq; (try simp only [and_true]); omega) | fail)) | exact And.intro (fun hq => by first | exact True.intro | omega | (simp only [and_true]; omega) | (simp only [bl] at hq; (try simp only [and_true]); omega) | fail) (fun hq hr => by first | exact True.intro | omega | (simp only [and_true]; omega) | (simp only [bl] at hq hr; omega) | (simp only [bl] at hr; omega) | fail) | fail))) ?_ | refine And.intro (by (first | omega | (unfold InR; omega) | decide | (simp only [ll]; omega))) ?_ | (refine And.intro (fun h1 => ?_) (fun h1 => ?_) <;> first | (exact absurd h1 (by decide)) | ((try rw [h1]); (try simp only [bl] at h1))) | dsimp only)
      rename_i w3 o3 _
      have e2 : ((i : Int) + ([c].length : Nat)).toNat = i + 1 := by omega
      have e3 : ((i : Int) + 0).toNat = i := by omega
      rw [e2]
      refine ⟨⟨done ++ [rest.take i], rest.drop (i + 1), _, rfl, by simp, rfl, by rw [hs, hss]; simp, by simp; omega, by simp; omega, ?_⟩, by simp [ByteArray.size]; omega⟩
      refine Sub.hv (subRow rfl ?_ subEnd)
      rw [e3]
      have : rest.count c + 1 = ((rest.drop (i + 1)).count c + 1) + 1 := by omega
      rw [this]
      exact fills_set rfl
    · have hc0 : rest.count c = 0 := by omega
      have hf : rest.findIdx? (· == c) = none := by
        cases hf : rest.findIdx? (· == c) with
        | none => rfl
        | some i => have := idxB_some hf; omega
      rw [splitS_none hf] at hs
      rw [hs] at h
      refine h _ _ (Sub.hv (subRow ?_ ?_ subEnd))
      · simp
      · rw [hc0, fills_set rfl, List.take_of_length_le (by simp [fills])]; simp [fills]⟩
instance split_ok {K : Value → St → Prop} {w0 w : World} {H : List SL} {ds : List Deferred} {l : List UInt8} {c : UInt8} [o : Hv w0 H w] :
    Step (Cl P 82 #[str l, str [c]] K ⟨w, ds⟩) (l.length ≤ 100000 ∧ ∀ v w', Hv w0 (row 9 1 v (splitS c l).length ((splitS c l).map str) :: H) w' → K v ⟨w', ds⟩) := ⟨fun ⟨hb, h⟩ => by
  refine cl_ok (c82 (K := fun v w' => K v ⟨w', ds⟩) ?_ fun v w' h => ⟨v, rfl, h⟩)
  unfold D82
  dsimp only
  repeat' (first | refine go ?_ | intro _ | refine And.intro (Sd.mk (by (first | exact fun _ => True.intro | exact And.intro (fun _ => True.intro) (fun _ _ => True.intro) | (intro hq; (first | exact True.intro | omega | (simp only [and_true]; omega) | (simp only [bl] at hq; (try simp only [and_true]); omega) | fail)) | exact And.intro (fun hq => by first | exact True.intro | omega | (simp only [and_true]; omega) | (simp only [bl] at hq; (try simp only [and_true]); omega) | fail) (fun hq hr => by first | exact True.intro | omega | (simp only [and_true]; omega) | (simp only [bl] at hq hr; omega) | (simp only [bl] at hr; omega) | fail) | fail))) ?_ | refine And.intro (by (first | omega | (unfold InR; omega) | decide | (simp only [ll]; omega))) ?_ | (refine And.intro (fun h1 => ?_) (fun h1 => ?_) <;> first | (exact absurd h1 (by decide)) | ((try rw [h1]); (try simp only [bl] at h1))) | dsimp only)
  exact h _ _ (Sub.hv (subRow rfl rfl subEnd))⟩
end Go.Proofs.YtapammcnagjigaaDoor
