import Derived.Test.YtapammcnagjigaaDoorBl
import Derived.Test.YtapammcnagjigaaDoorShelf
import Derived.Test.YtapammcnagjigaaDoorEng
set_option linter.all false
namespace Go.Proofs.YtapammcnagjigaaDoor
open Go.Vx Go.Lib
/-! strings: IndexByte, Index, Count, Cut, Split -/
instance sidx_ok {w : World} {l : List UInt8} {c : UInt8} : VT (Cl P 129 #[str l, byteV c]) w (.int .i64 (idxB l c)) := ⟨fun {K ds} h => by
  refine cl_ok (c129 (K := fun v w' => K v ⟨w', ds⟩) ?_ fun v w' h => ⟨v, rfl, h⟩)
  unfold D129
  repeat' (first | refine go ?_ | intro _ | refine And.intro (by (first | omega | (unfold InR; omega) | decide | (simp only [ll]; omega))) ?_ | (refine And.intro (fun h1 => ?_) (fun h1 => ?_) <;> first | (exact absurd h1 (by decide)) | ((try rw [h1]); (try simp only [bl] at h1))) | dsimp only)
  exact h⟩
instance idx_ok {w : World} {l : List UInt8} {c : UInt8} : VT (Cl P 97 #[str l, byteV c]) w (.int .i64 (idxB l c)) := ⟨fun {K ds} h => by
  refine cl_ok (c97 (K := fun v w' => K v ⟨w', ds⟩) ?_ fun v w' h => ⟨v, rfl, h⟩)
  unfold D97
  repeat' (first | refine go ?_ | intro _ | refine And.intro (by (first | omega | (unfold InR; omega) | decide | (simp only [ll]; omega))) ?_ | (refine And.intro (fun h1 => ?_) (fun h1 => ?_) <;> first | (exact absurd h1 (by decide)) | ((try rw [h1]); (try simp only [bl] at h1))) | dsimp only)
  exact h⟩
instance idx70_ok {w : World} {l : List UInt8} {c : UInt8} : VT (Cl P 99 #[str l, str [c]]) w (.int .i64 (idxB l c)) := ⟨fun {K ds} h => by
  refine cl_ok ((Tryd.strings_Index_one ⟨l.toArray⟩ c w).mono fun e w' ⟨he, hw⟩ => ?_)
  subst hw
  refine ⟨_, he, ?_⟩
  simpa [idx_eq] using h⟩
instance idx71_ok {w : World} {l : List UInt8} {c : UInt8} : VT (Cl P 130 #[str l, str [c]]) w (.int .i64 (idxB l c)) := ⟨fun {K ds} h => by
  refine cl_ok ((Tryd.stringslite_Index_one ⟨l.toArray⟩ c w).mono fun e w' ⟨he, hw⟩ => ?_)
  subst hw
  refine ⟨_, he, ?_⟩
  simpa [idx_eq] using h⟩
instance count_ok {w : World} {l : List UInt8} {c : UInt8} : VT (Cl P 143 #[str l, str [c]]) w (.int .i64 (l.count c : Nat)) := ⟨fun {K ds} h => by
  refine cl_ok ((Tryd.strings_Count_one ⟨l.toArray⟩ c w).mono fun e w' ⟨he, hw⟩ => ?_)
  subst hw
  refine ⟨_, he, ?_⟩
  simpa [countByte] using h⟩
theorem idxB_some {l : List UInt8} {c : UInt8} {i : Nat} (h : l.findIdx? (· == c) = some i) : idxB l c = (i : Int) := by unfold idxB; rw [h]
theorem idxB_none {l : List UInt8} {c : UInt8} (h : l.findIdx? (· == c) = none) : idxB l c = -1 := by unfold idxB; rw [h]
def cutB (l : List UInt8) (c : UInt8) : List UInt8 × List UInt8 × Bool := match l.findIdx? (· == c) with | some i => (l.take i, l.drop (i + 1), true) | none => (l, [], false)
theorem find_lt {l : List UInt8} {c : UInt8} {i : Nat} (h : l.findIdx? (· == c) = some i) : i < l.length := (List.findIdx?_eq_some_iff_getElem.1 h).1
instance cut49_ok {K : Value → St → Prop} {w0 w : World} {H : List SL} {ds : List Deferred} {l : List UInt8} {c : UInt8} [o : Hv w0 H w] :
    Step (Cl P 115 #[str l, str [c]] K ⟨w, ds⟩) (l.length ≤ 1000000000 ∧ ∀ w', Hv w0 H w' → K (.tuple #[str (cutB l c).1, str (cutB l c).2.1, .bool (cutB l c).2.2]) ⟨w', ds⟩) := ⟨fun ⟨hb, h⟩ => by
  refine cl_ok (c115 (K := fun v w' => K v ⟨w', ds⟩) ?_ fun v w' h => ⟨v, rfl, h⟩)
  unfold D115
  dsimp only
  unfold cutB at h
  have hi : idxB l c = match l.findIdx? (· == c) with | some i => (i : Int) | none => -1 := rfl
  cases hf : l.findIdx? (· == c) with
  | none =>
    rw [hf] at h hi
    dsimp only at h hi
    repeat (first | refine go ?_ | intro _ | refine And.intro (Sd.mk (by (first | exact fun _ => True.intro | exact And.intro (fun _ => True.intro) (fun _ _ => True.intro) | (intro hq; (first | exact True.intro | omega | (simp only [and_true]; omega) | (simp only [bl] at hq; (try simp only [and_true]); omega) | fail)) | exact And.intro (fun hq => by first | exact True.intro | omega | (simp only [and_true]; omega) | (simp only [bl] at hq; (try simp only [and_true]); omega) | fail) (fun hq hr => by first | exact True.intro | omega | (simp only [and_true]; omega) | (simp only [bl] at hq hr; omega) | (simp only [bl] at hr; omega) | fail) | fail))) ?_ | refine And.intro (by (first | omega | (unfold InR; omega) | decide | (simp only [ll]; omega))) ?_ | dsimp only)
    rw [hi]
    repeat' (first | refine go ?_ | intro _ | refine And.intro (Sd.mk (by (first | exact fun _ => True.intro | exact And.intro (fun _ => True.intro) (fun _ _ => True.intro) | (intro hq; (first | exact True.intro | omega | (simp only [and_true]; omega) | (simp only [bl] at hq; (try simp only [and_true]); omega) | fail)) | exact And.intro (fun hq => by first | exact True.intro | omega | (simp only [and_true]; omega) | (simp only [bl] at hq; (try simp only [and_true]); omega) | fail) (fun hq hr => by first | exact True.intro | omega | (simp only [and_true]; omega) | (simp only [bl] at hq hr; omega) | (simp only [bl] at hr; omega) | fail) | fail))) ?_ | refine And.intro (by (first | omega | (unfold InR; omega) | decide | (simp only [ll]; omega))) ?_ | (refine And.intro (fun h1 => ?_) (fun h1 => ?_) <;> first | (exact absurd h1 (by decide)) | ((try rw [h1]); (try simp only [bl] at h1))) | dsimp only)
    exact h _ o
  | some i =>
    have hlt := find_lt hf
    rw [hf] at h hi
    dsimp only at h hi
    repeat (first | refine go ?_ | intro _ | refine And.intro (Sd.mk (by (first | exact fun _ => True.intro | exact And.intro (fun _ => True.intro) (fun _ _ => True.intro) | (intro hq; (first | exact True.intro | omega | (simp only [and_true]; omega) | (simp only [bl] at hq; (try simp only [and_true]); omega) | fail)) | exact And.intro (fun hq => by first | exact True.intro | omega | (simp only [and_true]; omega) | (simp only [bl] at hq; (try simp only [and_true]); omega) | fail) (fun hq hr => by first | exact True.intro | omega | (simp only [and_true]; omega) | (simp only [bl] at hq hr; omega) | (simp only [bl] at hr; omega) | fail) | fail))) ?_ | refine And.intro (by (first | omega | (unfold InR; omega) | decide | (simp only [ll]; omega))) ?_ | dsimp only)
    rw [hi]
    have e1 : [c].length = 1 := rfl
    repeat' (first | refine go ?_ | intro _ | refine And.intro (Sd.mk (by (first | exact fun _ => True.intro | exact And.intro (fun _ => True.intro) (fun _ _ => True.intro) | (intro hq; (first | exact True.intro | omega | (simp only [and_true]; omega) | (simp only [bl] at hq; (try simp only [and_true]); omega) | fail)) | exact And.intro (fun hq => by first | exact True.intro | omega | (simp only [and_true]; omega) | (simp only [bl] at hq; (try simp only [and_true]); omega) | fail) (fun hq hr => by first | exact True.intro | omega | (simp only [and_true]; omega) | (simp only [bl] at hq hr; omega) | (simp only [bl] at hr; omega) | fail) | fail))) ?_ | refine And.intro (by (first | omega | (unfold InR; omega) | decide | (simp only [ll]; omega))) ?_ | (refine And.intro (fun h1 => ?_) (fun h1 => ?_) <;> first | (exact absurd h1 (by decide)) | ((try rw [h1]); (try simp only [bl] at h1))) | dsimp only)
    · have e2 : ((i : Int) + ([c].length : Nat)).toNat = i + 1 := by omega
      rw [e2]
      exact h _ ‹_›
    · exact absurd h1 (Int.not_lt.2 (Int.natCast_nonneg i))⟩
instance cut_ok {K : Value → St → Prop} {w0 w : World} {H : List SL} {ds : List Deferred} {l : List UInt8} {c : UInt8} [o : Hv w0 H w] :
    Step (Cl P 80 #[str l, str [c]] K ⟨w, ds⟩) (l.length ≤ 1000000000 ∧ ∀ w', Hv w0 H w' → K (.tuple #[str (cutB l c).1, str (cutB l c).2.1, .bool (cutB l c).2.2]) ⟨w', ds⟩) := ⟨fun ⟨hb, h⟩ => by
  refine cl_ok (c80 (K := fun v w' => K v ⟨w', ds⟩) ?_ fun v w' h => ⟨v, rfl, h⟩)
  unfold D80
  dsimp only
  repeat' (first | refine go ?_ | intro _ | refine And.intro (Sd.mk (by (first | exact fun _ => True.intro | exact And.intro (fun _ => True.intro) (fun _ _ => True.intro) | (intro hq; (first | exact True.intro | omega | (simp only [and_true]; omega) | (simp only [bl] at hq; (try simp only [and_true]); omega) | fail)) | exact And.intro (fun hq => by first | exact True.intro | omega | (simp only [and_true]; omega) | (simp only [bl] at hq; (try simp only [and_true]); omega) | fail) (fun hq hr => by first | exact True.intro | omega | (simp only [and_true]; omega) | (simp only [bl] at hq hr; omega) | (simp only [bl] at hr; omega) | fail) | fail))) ?_ | refine And.intro (by (first | omega | (unfold InR; omega) | decide | (simp only [ll]; omega))) ?_ | (refine And.intro (fun h1 => ?_) (fun h1 => ?_) <;> first | (exact absurd h1 (by decide)) | ((try rw [h1]); (try simp only [bl] at h1))) | dsimp only)
  exact h _ (Sub.hv subEnd)⟩
def splitS (c : UInt8) : List UInt8 → List (List UInt8)
  | [] => [[]]
  | b :: t => if b == c then [] :: splitS c t else match splitS c t with | [] => [[b]] | h :: r => (b :: h) :: r
theorem splitS_none {c : UInt8} {l : List UInt8} (h : l.findIdx? (· == c) = none) : splitS c l = [l] := by
  induction l with
  | nil => rfl
  | cons b t ih =>
    rw [List.findIdx?_cons] at h
    by_cases hb : b == c
    · simp [hb] at h
    · simp only [hb, Bool.false_eq_true, if_false, Option.map_eq_none_iff] at h
      simp only [splitS, hb, Bool.false_eq_true, if_false, ih h]
theorem splitS_some {c : UInt8} {l : List UInt8} : ∀ {i : Nat}, l.findIdx? (· == c) = some i → splitS c l = l.take i :: splitS c (l.drop (i + 1)) := by
  induction l with
  | nil => intro i h; simp at h
  | cons b t ih =>
    intro i h
    rw [List.findIdx?_cons] at h
    by_cases hb : b == c
    · simp only [hb, if_true, Option.some.injEq] at h
      subst h
      simp [splitS, hb]
    · simp only [hb, Bool.false_eq_true, if_false, Option.map_eq_some_iff] at h
      obtain ⟨j, hj, rfl⟩ := h
      simp only [splitS, hb, Bool.false_eq_true, if_false, ih hj]
      simp
theorem splitS_len (c : UInt8) (l : List UInt8) : (splitS c l).length = l.count c + 1 := by
  induction l with
  | nil => rfl
  | cons b t ih =>
    simp only [splitS]
    by_cases hb : b == c
    · simp only [hb, if_true, List.length_cons, ih, List.count_cons]
    · simp only [hb, Bool.false_eq_true, if_false, List.count_cons]
      cases hs : splitS c t with
      | nil => rw [hs] at ih; simp at ih
      | cons h r => rw [hs] at ih; simpa using ih
def fills (done : List (List UInt8)) (m : Nat) : List (List UInt8) := done ++ List.replicate m []
theorem fills_set {done : List (List UInt8)} {m i : Nat} {x : List UInt8} (hi : i = done.length) : ((fills done (m + 1)).map str).set i (str x) = (fills (done ++ [x]) m).map str := by
  subst hi
  unfold fills
  rw [← List.map_set, List.set_append_right _ _ (Nat.le_refl _), Nat.sub_self, List.replicate_succ]
  simp
theorem count_idx {c : UInt8} {l : List UInt8} : 0 < l.count c ↔ 0 ≤ idxB l c := by
  rw [List.count_pos_iff]
  have := @idxB_neg l c
  constructor
  · intro h
    rcases Int.lt_or_le (idxB l c) 0 with h2 | h2
    · exact absurd rfl (this.1 h2 c h)
    · exact h2
  · intro h
    apply Classical.byContradiction
    intro hn
    have := this.2 fun x hx e => hn (e ▸ hx)
    omega
instance gsplit_ok {K : Value → St → Prop} {w0 w : World} {H : List SL} {ds : List Deferred} {l : List UInt8} {c : UInt8} [o : Hv w0 H w] :
    Step (Cl P 120 #[str l, str [c], .int .i64 0, .int .i64 (-1)] K ⟨w, ds⟩) (l.length ≤ 100000 ∧ ∀ v w', Hv w0 (row 9 1 v (splitS c l).length ((splitS c l).map str) :: H) w' → K v ⟨w', ds⟩) := ⟨fun ⟨hb, h⟩ => by
  refine cl_ok (c120 (K := fun v w' => K v ⟨w', ds⟩) ?_ fun v w' h => ⟨v, rfl, h⟩)
  unfold D120
  dsimp only
  have hcl : l.count c ≤ l.length := List.count_le_length
  have e1 : [c].length = 1 := rfl
  repeat' (first | refine go ?_ | intro _ | refine And.intro (Sd.mk (by (first | exact fun _ => True.intro | exact And.intro (fun _ => True.intro) (fun _ _ => True.intro) | (intro hq; (first | exact True.intro | omega | (simp only [and_true]; omega) | (simp only [bl] at hq; (try simp only [and_true]); omega) | fail)) | exact And.intro (fun hq => by first | exact True.intro | omega | (simp only [and_true]; omega) | (simp only [bl] at hq; (try simp only [and_true]); omega) | fail) (fun hq hr => by first | exact True.intro | omega | (simp only [and_true]; omega) | (simp only [bl] at hq hr; omega) | (simp only [bl] at hr; omega) | fail) | fail))) ?_ | refine And.intro (by (first | omega | (unfold InR; omega) | decide | (simp only [ll]; omega))) ?_ | (refine And.intro (fun h1 => ?_) (fun h1 => ?_) <;> first | (exact absurd h1 (by decide)) | ((try rw [h1]); (try simp only [bl] at h1))) | dsimp only)
  · exact absurd h1 (by simp)
  · have en : min (((l.count c : Nat) : Int) + 1) ((l.length : Int) + 1) = (l.count c : Nat) + 1 := by omega
    have en2 : (((l.count c : Nat) : Int) + 1).toNat = l.count c + 1 := by omega
    rename_i v w1 o1
    rw [en, en2] at o1
    rw [en]
    refine ⟨fun x y s => ∃ (done : List (List UInt8)) (rest : List UInt8) (w' : World), x = str rest ∧ y = .int .i64 (done.length : Nat) ∧ s = ⟨w', []⟩ ∧ splitS c l = done ++ splitS c rest ∧ done.length + rest.count c = l.count c ∧ rest.length ≤ l.length ∧ Hv w0 (row 9 1 v (l.count c + 1) ((fills done (rest.count c + 1)).map str) :: H) w',
      fun x _ s => match x with | .string b => b.size | _ => 0, ⟨[], l, w1, rfl, rfl, rfl, rfl, by simp, Nat.le_refl _, by simpa [fills] using o1⟩, ?_⟩
    rintro x y s ⟨done, rest, w2, rfl, rfl, rfl, hs, hc, hr, o2⟩
    have hcr := @count_idx c rest
    have hi : idxB rest c = match rest.findIdx? (· == c) with | some i => (i : Int) | none => -1 := rfl
    repeat' (first | refine go ?_ | intro _ | refine And.intro (Sd.mk (by (first | exact fun _ => True.intro | exact And.intro (fun _ => True.intro) (fun _ _ => True.intro) | (intro hq; (first | exact True.intro | omega | (simp only [and_true]; omega) | (simp only [bl] at hq; (try simp only [and_true]); omega) | fail)) | exact And.intro (fun hq => by first | exact True.intro | omega | (simp only [and_true]; omega) | (simp only [bl] at hq; (try simp only [and_true]); omega) | fail) (fun hq hr => by first | exact True.intro | omega | (simp only [and_true]; omega) | (simp only [bl] at hq hr; omega) | (simp only [bl] at hr; omega) | fail) | fail))) ?_ | refine And.intro (by (first | omega | (unfold InR; omega) | decide | (simp only [ll]; omega))) ?_ | (refine And.intro (fun h1 => ?_) (fun h1 => ?_) <;> first | (exact absurd h1 (by decide)) | ((try rw [h1]); (try simp only [bl] at h1))) | dsimp only)
    · exfalso; omega
    · obtain ⟨i, hf, hi2⟩ : ∃ i : Nat, rest.findIdx? (· == c) = some i ∧ idxB rest c = i := by
        cases hf : rest.findIdx? (· == c) with
        | none => rw [hf] at hi; dsimp only at hi; omega
        | some i => rw [hf] at hi; exact ⟨i, rfl, hi⟩
      have hlt := find_lt hf
      have hss := splitS_some hf
      have hsl := congrArg List.length hss
      rw [List.length_cons, splitS_len, splitS_len] at hsl
      rw [hi2]
      repeat' (first | refine go ?_ | intro _ | refine And.intro (Sd.mk (by (first | exact fun _ => True.intro | exact And.intro (fun _ => True.intro) (fun _ _ => True.intro) | (intro hq; (first | exact True.intro | omega | (simp only [and_true]; omega) | (simp only [bl] at hq; (try simp only [and_true]); omega) | fail)) | exact And.intro (fun hq => by first | exact True.intro | omega | (simp only [and_true]; omega) | (simp only [bl] at hq; (try simp only [and_true]); omega) | fail) (fun hq hr => by first | exact True.intro | omega | (simp only [and_true]; omega) | (simp only [bl] at hq hr; omega) | (simp only [bl] at hr; omega) | fail) | fail))) ?_ | refine And.intro (by (first | omega | (unfold InR; omega) | decide | (simp only [ll]; omega))) ?_ | (refine And.intro (fun h1 => ?_) (fun h1 => ?_) <;> first | (exact absurd h1 (by decide)) | ((try rw [h1]); (try simp only [bl] at h1))) | dsimp only)
      rename_i w3 o3 _
      have e2 : ((i : Int) + ([c].length : Nat)).toNat = i + 1 := by omega
      have e3 : ((i : Int) + 0).toNat = i := by omega
      rw [e2]
      refine ⟨⟨done ++ [rest.take i], rest.drop (i + 1), _, rfl, by simp, rfl, by rw [hs, hss]; simp, by simp; omega, by simp; omega, ?_⟩, by simp [ByteArray.size]; omega⟩
      refine Sub.hv (subRow rfl ?_ subEnd)
      rw [e3]
      have : rest.count c + 1 = ((rest.drop (i + 1)).count c + 1) + 1 := by omega
      rw [this]
      exact fills_set rfl
    · have hc0 : rest.count c = 0 := by omega
      have hf : rest.findIdx? (· == c) = none := by
        cases hf : rest.findIdx? (· == c) with
        | none => rfl
        | some i => have := idxB_some hf; omega
      rw [splitS_none hf] at hs
      rw [hs] at h
      refine h _ _ (Sub.hv (subRow ?_ ?_ subEnd))
      · simp
      · rw [hc0, fills_set rfl, List.take_of_length_le (by simp [fills])]; simp [fills]⟩
instance split_ok {K : Value → St → Prop} {w0 w : World} {H : List SL} {ds : List Deferred} {l : List UInt8} {c : UInt8} [o : Hv w0 H w] :
    Step (Cl P 82 #[str l, str [c]] K ⟨w, ds⟩) (l.length ≤ 100000 ∧ ∀ v w', Hv w0 (row 9 1 v (splitS c l).length ((splitS c l).map str) :: H) w' → K v ⟨w', ds⟩) := ⟨fun ⟨hb, h⟩ => by
  refine cl_ok (c82 (K := fun v w' => K v ⟨w', ds⟩) ?_ fun v w' h => ⟨v, rfl, h⟩)
  unfold D82
  dsimp only
  repeat' (first | refine go ?_ | intro _ | refine And.intro (Sd.mk (by (first | exact fun _ => True.intro | exact And.intro (fun _ => True.intro) (fun _ _ => True.intro) | (intro hq; (first | exact True.intro | omega | (simp only [and_true]; omega) | (simp only [bl] at hq; (try simp only [and_true]); omega) | fail)) | exact And.intro (fun hq => by first | exact True.intro | omega | (simp only [and_true]; omega) | (simp only [bl] at hq; (try simp only [and_true]); omega) | fail) (fun hq hr => by first | exact True.intro | omega | (simp only [and_true]; omega) | (simp only [bl] at hq hr; omega) | (simp only [bl] at hr; omega) | fail) | fail))) ?_ | refine And.intro (by (first | omega | (unfold InR; omega) | decide | (simp only [ll]; omega))) ?_ | (refine And.intro (fun h1 => ?_) (fun h1 => ?_) <;> first | (exact absurd h1 (by decide)) | ((try rw [h1]); (try simp only [bl] at h1))) | dsimp only)
  exact h _ _ (Sub.hv (subRow rfl rfl subEnd))⟩
end Go.Proofs.YtapammcnagjigaaDoor

namespace Go.Proofs.YtapammcnagjigaaDoor
open Go.Vx Go.Lib
/-! strings: IndexRune, IndexAny -/
instance valid_ok {w : World} {r : Int} : VT (Cl P 161 #[.int .i32 r]) w (.bool (validRune r)) := ⟨fun {K ds} h => by
  refine cl_ok ((Tryd.utf8_ValidRune r w).mono fun e w' ⟨he, hw⟩ => ?_)
  subst hw
  exact ⟨_, he, h⟩⟩
theorem Hv.pos {w0 w : World} {H : List SL} {b pos : Nat} {l : List UInt8} (o : Hv w0 (itr b l pos :: H) w) : w.iterPos b = pos := by
  have := o.at
  simp [World.iterPos, this]
theorem getD_low {l : List UInt8} (ha : ∀ b ∈ l, b.toNat < 128) (i : Nat) : (l.getD i default).toNat < 128 := by
  rcases Nat.lt_or_ge i l.length with h | h
  · rw [List.getD_eq_getElem?_getD, List.getElem?_eq_getElem h]; exact ha _ (List.getElem_mem h)
  · rw [List.getD_eq_getElem?_getD, List.getElem?_eq_none h]; decide
set_option maxRecDepth 200000 in
instance irune_ok {K : Value → St → Prop} {w0 w : World} {H : List SL} {ds : List Deferred} {l : List UInt8} {r : Nat} [o : Hv w0 H w] :
    Step (Cl P 147 #[str l, .int .i32 (r : Int)] K ⟨w, ds⟩) ((r ≤ 1114111 ∧ l.length ≤ 1000 ∧ ∀ b ∈ l, b.toNat < 128) ∧ ∀ w', Hv w0 H w' → K (.int .i64 (if r < 128 then idxB l (UInt8.ofNat r) else -1)) ⟨w', ds⟩) := ⟨fun ⟨⟨hr, hl, ha⟩, h⟩ => by
  refine cl_ok (c147 (K := fun v w' => K v ⟨w', ds⟩) ?_ fun v w' h => ⟨v, rfl, h⟩)
  unfold D147
  dsimp only
  repeat' (first | refine go ?_ | intro _ | refine And.intro (Sd.mk (by (first | exact fun _ => True.intro | exact And.intro (fun _ => True.intro) (fun _ _ => True.intro) | (intro hq; (first | exact True.intro | omega | (simp only [and_true]; omega) | (simp only [bl] at hq; (try simp only [and_true]); omega) | fail)) | exact And.intro (fun hq => by first | exact True.intro | omega | (simp only [and_true]; omega) | (simp only [bl] at hq; (try simp only [and_true]); omega) | fail) (fun hq hr => by first | exact True.intro | omega | (simp only [and_true]; omega) | (simp only [bl] at hq hr; omega) | (simp only [bl] at hr; omega) | fail) | fail))) ?_ | refine And.intro (by (first | omega | (unfold InR; omega) | decide | (simp only [ll]; omega))) ?_ | (refine And.intro (fun h1 => ?_) (fun h1 => ?_) <;> first | (exact absurd h1 (by decide)) | ((try rw [h1]); (try simp only [bl] at h1))) | dsimp only)
  · have e : Value.int .u8 (IntKind.u8.wrap (r : Int)) = byteV (UInt8.ofNat r) := by
      simp [byteV, IntKind.wrap, IntKind.signed, IntKind.bits, UInt8.toNat_ofNat']
    rw [e]
    repeat' (first | refine go ?_ | intro _ | refine And.intro (Sd.mk (by (first | exact fun _ => True.intro | exact And.intro (fun _ => True.intro) (fun _ _ => True.intro) | (intro hq; (first | exact True.intro | omega | (simp only [and_true]; omega) | (simp only [bl] at hq; (try simp only [and_true]); omega) | fail)) | exact And.intro (fun hq => by first | exact True.intro | omega | (simp only [and_true]; omega) | (simp only [bl] at hq; (try simp only [and_true]); omega) | fail) (fun hq hr => by first | exact True.intro | omega | (simp only [and_true]; omega) | (simp only [bl] at hq hr; omega) | (simp only [bl] at hr; omega) | fail) | fail))) ?_ | refine And.intro (by (first | omega | (unfold InR; omega) | decide | (simp only [ll]; omega))) ?_ | (refine And.intro (fun h1 => ?_) (fun h1 => ?_) <;> first | (exact absurd h1 (by decide)) | ((try rw [h1]); (try simp only [bl] at h1))) | dsimp only)
    rw [if_pos (by omega)] at h
    exact h _ o
  · rename_i b w1 o1
    rw [if_neg (by omega)] at h
    refine ⟨fun s => ∃ (pos : Nat) (w' : World), s = ⟨w', []⟩ ∧ Hv w0 (itr b l pos :: H) w', fun s => l.length - s.w.iterPos b, ⟨0, w1, rfl, o1⟩, ?_⟩
    rintro s ⟨pos, w2, rfl, o2⟩
    have hp := Hv.pos o2
    repeat' (first | refine go ?_ | intro _ | refine And.intro (Sd.mk (by (first | exact fun _ => True.intro | exact And.intro (fun _ => True.intro) (fun _ _ => True.intro) | (intro hq; (first | exact True.intro | omega | (simp only [and_true]; omega) | (simp only [bl] at hq; (try simp only [and_true]); omega) | fail)) | exact And.intro (fun hq => by first | exact True.intro | omega | (simp only [and_true]; omega) | (simp only [bl] at hq; (try simp only [and_true]); omega) | fail) (fun hq hr => by first | exact True.intro | omega | (simp only [and_true]; omega) | (simp only [bl] at hq hr; omega) | (simp only [bl] at hr; omega) | fail) | fail))) ?_ | refine And.intro (by (first | omega | (unfold InR; omega) | decide | (simp only [ll]; omega))) ?_ | (refine And.intro (fun h1 => ?_) (fun h1 => ?_) <;> first | (exact absurd h1 (by decide)) | ((try rw [h1]); (try simp only [bl] at h1))) | dsimp only)
    · rename_i hlt c wd w3 hR o3
      exfalso
      have h3 : (l.getD pos 0).toNat < 128 := getD_low ha pos
      have h2 := (hR.low h3).1
      omega
    · rename_i hlt c wd w3 hR o3
      have hp3 := Hv.pos o3
      have := hR.wd1
      refine ⟨⟨_, _, rfl, o3⟩, ?_⟩
      show l.length - w3.iterPos b < l.length - w2.iterPos b
      rw [hp, hp3]; omega
    · exact h _ (Sub.hv subEnd)
  · rw [if_neg (by omega)] at h
    exact h _ o
  · rw [if_neg (by omega)] at h
    obtain ⟨e1, e2, e3⟩ := encR_high (r := (r : Int)) (by omega)
    generalize encR (r : Int) = E at *
    have hE : ∀ i < E.length, 128 ≤ (E.getD i default).toNat := fun i hi => by
      rw [List.getD_eq_getElem?_getD, List.getElem?_eq_getElem hi]; exact e3 _ (List.getElem_mem hi)
    refine And.intro (by unfold InR; omega) ?_
    refine ⟨fun x s => x = .int .i64 ((E.length : Int) - 1) ∧ ∃ w' : World, s = ⟨w', []⟩ ∧ Hv w0 H w', fun _ _ => 0, ⟨rfl, w, rfl, o⟩, ?_⟩
    rintro x s ⟨rfl, w2, rfl, o2⟩
    have h4 := hE ((E.length : Int) - 1).toNat (by omega)
    have h5 := getD_low ha ((E.length : Int) - 1).toNat
    have h6 : ∀ j, idxB (l.drop j) (E.getD ((E.length : Int) - 1).toNat default) < 0 := fun j => idxB_neg.2 fun x hx e => by
      have := ha x (List.mem_of_mem_drop hx)
      rw [e] at this; omega
    have h7 := h6 ((E.length : Int) - 1 + 1).toNat
    repeat' (first | refine go ?_ | intro _ | refine And.intro (Sd.mk (by (first | exact fun _ => True.intro | exact And.intro (fun _ => True.intro) (fun _ _ => True.intro) | (intro hq; (first | exact True.intro | omega | (simp only [and_true]; omega) | (simp only [bl] at hq; (try simp only [and_true]); omega) | fail)) | exact And.intro (fun hq => by first | exact True.intro | omega | (simp only [and_true]; omega) | (simp only [bl] at hq; (try simp only [and_true]); omega) | fail) (fun hq hr => by first | exact True.intro | omega | (simp only [and_true]; omega) | (simp only [bl] at hq hr; omega) | (simp only [bl] at hr; omega) | fail) | fail))) ?_ | refine And.intro (by (first | omega | (unfold InR; omega) | decide | (simp only [ll]; omega))) ?_ | (refine And.intro (fun h1 => ?_) (fun h1 => ?_) <;> first | (exact absurd h1 (by decide)) | ((try rw [h1]); (try simp only [bl] at h1))) | dsimp only)
    all_goals first
      | exact h _ (Sub.hv subEnd)
      | (exfalso; omega)
      | (exfalso; rename_i hq; rw [hq] at h5; omega)
      | (exfalso; rw [h1] at h5; omega)
  · exfalso; omega⟩
theorem zeroSet (w : World) : (zeroValue 126).run Tryd.prog w = .ok (.agg (Array.replicate 256 (.bool false))) w := tyz_of (P := Tryd.prog) (t := 126) (inf_of Tryd.type126) (by kernel_rfl) w
instance useset_ok {w : World} {n : Int} : VT (Cl P 148 #[.int .i64 n]) w (.bool (decide (8 < n))) := ⟨fun {K ds} h => by
  refine cl_ok (c148 (K := fun v w' => K v ⟨w', ds⟩) ?_ fun v w' h => ⟨v, rfl, h⟩)
  unfold D148
  dsimp only
  repeat' (first | refine go ?_ | intro _ | refine And.intro (Sd.mk (by (first | exact fun _ => True.intro | exact And.intro (fun _ => True.intro) (fun _ _ => True.intro) | (intro hq; (first | exact True.intro | omega | (simp only [and_true]; omega) | (simp only [bl] at hq; (try simp only [and_true]); omega) | fail)) | exact And.intro (fun hq => by first | exact True.intro | omega | (simp only [and_true]; omega) | (simp only [bl] at hq; (try simp only [and_true]); omega) | fail) (fun hq hr => by first | exact True.intro | omega | (simp only [and_true]; omega) | (simp only [bl] at hq hr; omega) | (simp only [bl] at hr; omega) | fail) | fail))) ?_ | refine And.intro (by (first | omega | (unfold InR; omega) | decide | (simp only [ll]; omega))) ?_ | (refine And.intro (fun h1 => ?_) (fun h1 => ?_) <;> first | (exact absurd h1 (by decide)) | ((try rw [h1]); (try simp only [bl] at h1))) | dsimp only)
  exact h⟩
theorem any_idx {l cs : List UInt8} {pos : Nat} (h : pos < l.length) (h2 : l.getD pos 0 ∈ cs) : l.any (cs.contains ·) = true := by
  rw [List.any_eq_true]
  refine ⟨l.getD pos 0, ?_, by simpa using h2⟩
  rw [List.getD_eq_getElem?_getD, List.getElem?_eq_getElem h]; exact List.getElem_mem h
theorem any_none {l cs : List UInt8} (h : ∀ j < l.length, l.getD j 0 ∉ cs) : l.any (cs.contains ·) = false := by
  rw [List.any_eq_false]
  intro x hx
  obtain ⟨j, hj, rfl⟩ := List.getElem_of_mem hx
  have := h j hj
  rw [List.getD_eq_getElem?_getD, List.getElem?_eq_getElem hj] at this
  simpa using this
set_option maxRecDepth 200000 in
instance iany_ok {K : Value → St → Prop} {w0 w : World} {H : List SL} {ds : List Deferred} {l cs : List UInt8} [o : Hv w0 H w] :
    Step (Cl P 121 #[str l, str cs] K ⟨w, ds⟩) ((l.length ≤ 1000000 ∧ 2 ≤ cs.length ∧ cs.length ≤ 1000 ∧ ∀ b ∈ cs, b.toNat < 128) ∧ ∀ z w', decide (0 ≤ z) = l.any (cs.contains ·) → Hv w0 H w' → K (.int .i64 z) ⟨w', ds⟩) := ⟨fun ⟨⟨hl, h2, h3, ha⟩, h⟩ => by
  rcases Nat.lt_or_ge 8 l.length with h8 | h8
  · refine cl_ok ((Tryd.strings_IndexAny_long zeroSet ⟨l.toArray⟩ ⟨cs.toArray⟩ w (by simpa [ByteArray.size] using h2) (by simpa [ByteArray.size] using h8) (by simp [ByteArray.size]; omega) (by simp [ByteArray.size]; omega) (fun j b hb => ha b (List.mem_of_getElem? (by simpa using hb)))).mono fun e w' ⟨he, hw⟩ => ?_)
    subst hw
    exact ⟨_, he, h _ _ (by simpa using indexAny_has l cs) ((o.newObj _).newObj _).tail.tail⟩
  refine cl_ok (c121 (K := fun v w' => K v ⟨w', ds⟩) ?_ fun v w' h => ⟨v, rfl, h⟩)
  unfold D121
  dsimp only
  repeat' (first | refine go ?_ | intro _ | refine And.intro (Sd.mk (by (first | exact fun _ => True.intro | exact And.intro (fun _ => True.intro) (fun _ _ => True.intro) | (intro hq; (first | exact True.intro | omega | (simp only [and_true]; omega) | (simp only [bl] at hq; (try simp only [and_true]); omega) | fail)) | exact And.intro (fun hq => by first | exact True.intro | omega | (simp only [and_true]; omega) | (simp only [bl] at hq; (try simp only [and_true]); omega) | fail) (fun hq hr => by first | exact True.intro | omega | (simp only [and_true]; omega) | (simp only [bl] at hq hr; omega) | (simp only [bl] at hr; omega) | fail) | fail))) ?_ | refine And.intro (by (first | omega | (unfold InR; omega) | decide | (simp only [ll]; omega))) ?_ | (refine And.intro (fun h1 => ?_) (fun h1 => ?_) <;> first | (exact absurd h1 (by decide)) | ((try rw [h1]); (try simp only [bl] at h1))) | dsimp only)
  · exfalso; rw [h1] at h2; simp at h2
  · exfalso; omega
  · exfalso; omega
  · rename_i b w1 o1
    refine ⟨fun s => ∃ (pos : Nat) (w' : World), s = ⟨w', []⟩ ∧ pos ≤ l.length ∧ (∀ j < pos, l.getD j 0 ∉ cs) ∧ Hv w0 (itr b l pos :: H) w', fun s => l.length - s.w.iterPos b, ⟨0, w1, rfl, Nat.zero_le _, fun j h => by omega, o1⟩, ?_⟩
    rintro s ⟨pos, w2, rfl, hpl, hno, o2⟩
    have hp := Hv.pos o2
    repeat' (first | refine go ?_ | intro _ | refine And.intro (Sd.mk (by (first | exact fun _ => True.intro | exact And.intro (fun _ => True.intro) (fun _ _ => True.intro) | (intro hq; (first | exact True.intro | omega | (simp only [and_true]; omega) | (simp only [bl] at hq; (try simp only [and_true]); omega) | fail)) | exact And.intro (fun hq => by first | exact True.intro | omega | (simp only [and_true]; omega) | (simp only [bl] at hq; (try simp only [and_true]); omega) | fail) (fun hq hr => by first | exact True.intro | omega | (simp only [and_true]; omega) | (simp only [bl] at hq hr; omega) | (simp only [bl] at hr; omega) | fail) | fail))) ?_ | refine And.intro (by (first | omega | (unfold InR; omega) | decide | (simp only [ll]; omega))) ?_ | (refine And.intro (fun h1 => ?_) (fun h1 => ?_) <;> first | (exact absurd h1 (by decide)) | ((try rw [h1]); (try simp only [bl] at h1))) | dsimp only)
    · rename_i c wd w3 hR o3
      have hlt : pos < l.length := h1
      refine And.intro ⟨hR.top, h3, ha⟩ ?_
      have hf := hR.fits
      have hd := hR.wd1
      repeat' (first | refine go ?_ | intro _ | refine And.intro (Sd.mk (by (first | exact fun _ => True.intro | exact And.intro (fun _ => True.intro) (fun _ _ => True.intro) | (intro hq; (first | exact True.intro | omega | (simp only [and_true]; omega) | (simp only [bl] at hq; (try simp only [and_true]); omega) | fail)) | exact And.intro (fun hq => by first | exact True.intro | omega | (simp only [and_true]; omega) | (simp only [bl] at hq; (try simp only [and_true]); omega) | fail) (fun hq hr => by first | exact True.intro | omega | (simp only [and_true]; omega) | (simp only [bl] at hq hr; omega) | (simp only [bl] at hr; omega) | fail) | fail))) ?_ | refine And.intro (by (first | omega | (unfold InR; omega) | decide | (simp only [ll]; omega))) ?_ | (refine And.intro (fun h1 => ?_) (fun h1 => ?_) <;> first | (exact absurd h1 (by decide)) | ((try rw [h1]); (try simp only [bl] at h1))) | dsimp only)
      · rename_i w4 o4
        refine h _ _ ?_ (Sub.hv subEnd)
        have hlo : (l.getD pos 0).toNat < 128 := by
          apply Classical.byContradiction
          intro hn
          have := (hR.high (by omega)).1
          rw [if_neg (by omega)] at h1
          omega
        have hc := (hR.low hlo).1
        rw [if_pos (by omega)] at h1
        have hm : l.getD pos 0 ∈ cs := by
          apply Classical.byContradiction
          intro hn
          have := idxB_neg.2 fun x hx (e : x = UInt8.ofNat c) => hn (by rw [hc] at e; rw [e] at hx; simpa using hx)
          omega
        rw [any_idx hlt hm]
        simp
      · rename_i w4 o4
        have hp4 := Hv.pos o4
        have h9 := h1
        refine ⟨⟨pos + wd, _, rfl, by omega, fun j hj => ?_, o4⟩, ?_⟩
        · rcases Nat.lt_or_ge j pos with x | x
          · exact hno j x
          · rcases Nat.lt_or_ge (l.getD pos 0).toNat 128 with y | y
            · obtain ⟨hc, hw1⟩ := hR.low y
              obtain rfl : j = pos := by omega
              rw [if_pos (by omega)] at h9
              intro hm
              exact idxB_neg.1 h9 _ hm (by rw [hc]; simp)
            · have h6 := (hR.high y).2 (j - pos) (by omega)
              rw [show pos + (j - pos) = j by omega] at h6
              intro hm
              have := ha _ hm
              omega
        · show l.length - w4.iterPos b < l.length - w2.iterPos b
          rw [hp, hp4]; omega
    · refine h _ _ ?_ (Sub.hv subEnd)
      rw [any_none fun j hj => hno j (by omega)]
      rfl⟩
instance cany_ok {K : Value → St → Prop} {w0 w : World} {H : List SL} {ds : List Deferred} {l cs : List UInt8} [o : Hv w0 H w] :
    Step (Cl P 84 #[str l, str cs] K ⟨w, ds⟩) ((l.length ≤ 1000000 ∧ 2 ≤ cs.length ∧ cs.length ≤ 1000 ∧ ∀ b ∈ cs, b.toNat < 128) ∧ ∀ w', Hv w0 H w' → K (.bool (l.any (cs.contains ·))) ⟨w', ds⟩) := ⟨fun ⟨hc, h⟩ => by
  refine cl_ok (c84 (K := fun v w' => K v ⟨w', ds⟩) ?_ fun v w' h => ⟨v, rfl, h⟩)
  unfold D84
  dsimp only
  refine go (And.intro hc ?_)
  intro z w1 hz o1
  repeat' (first | refine go ?_ | intro _ | refine And.intro (Sd.mk (by (first | exact fun _ => True.intro | exact And.intro (fun _ => True.intro) (fun _ _ => True.intro) | (intro hq; (first | exact True.intro | omega | (simp only [and_true]; omega) | (simp only [bl] at hq; (try simp only [and_true]); omega) | fail)) | exact And.intro (fun hq => by first | exact True.intro | omega | (simp only [and_true]; omega) | (simp only [bl] at hq; (try simp only [and_true]); omega) | fail) (fun hq hr => by first | exact True.intro | omega | (simp only [and_true]; omega) | (simp only [bl] at hq hr; omega) | (simp only [bl] at hr; omega) | fail) | fail))) ?_ | refine And.intro (by (first | omega | (unfold InR; omega) | decide | (simp only [ll]; omega))) ?_ | (refine And.intro (fun h1 => ?_) (fun h1 => ?_) <;> first | (exact absurd h1 (by decide)) | ((try rw [h1]); (try simp only [bl] at h1))) | dsimp only)
  rw [hz]
  exact h _ o1⟩
end Go.Proofs.YtapammcnagjigaaDoor

namespace Go.Proofs.YtapammcnagjigaaDoor
end Go.Proofs.YtapammcnagjigaaDoor

namespace Go.Proofs.YtapammcnagjigaaDoor
open Go.Vx Go.Lib
/-! names; escapes -/
def letB (b : UInt8) : Bool := (decide (65 ≤ b) && decide (b ≤ 90)) || (decide (97 ≤ b) && decide (b ≤ 122))
def digB (b : UInt8) : Bool := decide (48 ≤ b) && decide (b ≤ 57)
def nmB (b : UInt8) : Bool := letB b || (digB b || (b == 45 || (b == 47 || (b == 43 || b == 46))))
def nameE (l : List UInt8) : Int := if l = [] then 9 else if l.all nmB then 0 else 10
instance let_ok {w : World} {b : UInt8} : VT (Cl P 94 #[byteV b]) w (.bool (letB b)) := ⟨fun {K ds} h => by
  refine cl_ok (c94 (K := fun v w' => K v ⟨w', ds⟩) ?_ fun v w' h => ⟨v, rfl, h⟩)
  unfold D94
  dsimp only
  repeat' (first | refine go ?_ | intro _ | refine And.intro (Sd.mk (by (first | exact fun _ => True.intro | exact And.intro (fun _ => True.intro) (fun _ _ => True.intro) | (intro hq; (first | exact True.intro | omega | (simp only [and_true]; omega) | (simp only [bl] at hq; (try simp only [and_true]); omega) | fail)) | exact And.intro (fun hq => by first | exact True.intro | omega | (simp only [and_true]; omega) | (simp only [bl] at hq; (try simp only [and_true]); omega) | fail) (fun hq hr => by first | exact True.intro | omega | (simp only [and_true]; omega) | (simp only [bl] at hq hr; omega) | (simp only [bl] at hr; omega) | fail) | fail))) ?_ | refine And.intro (by (first | omega | (unfold InR; omega) | decide | (simp only [ll]; omega))) ?_ | (refine And.intro (fun h1 => ?_) (fun h1 => ?_) <;> first | (exact absurd h1 (by decide)) | ((try rw [h1]); (try simp only [bl] at h1))) | dsimp only)
  all_goals exact cast (congrArg (fun b => K (.bool b) _) (by unfold letB; grind)) h⟩
instance dig_ok {w : World} {b : UInt8} : VT (Cl P 95 #[byteV b]) w (.bool (digB b)) := ⟨fun {K ds} h => by
  refine cl_ok (c95 (K := fun v w' => K v ⟨w', ds⟩) ?_ fun v w' h => ⟨v, rfl, h⟩)
  unfold D95
  dsimp only
  repeat' (first | refine go ?_ | intro _ | refine And.intro (Sd.mk (by (first | exact fun _ => True.intro | exact And.intro (fun _ => True.intro) (fun _ _ => True.intro) | (intro hq; (first | exact True.intro | omega | (simp only [and_true]; omega) | (simp only [bl] at hq; (try simp only [and_true]); omega) | fail)) | exact And.intro (fun hq => by first | exact True.intro | omega | (simp only [and_true]; omega) | (simp only [bl] at hq; (try simp only [and_true]); omega) | fail) (fun hq hr => by first | exact True.intro | omega | (simp only [and_true]; omega) | (simp only [bl] at hq hr; omega) | (simp only [bl] at hr; omega) | fail) | fail))) ?_ | refine And.intro (by (first | omega | (unfold InR; omega) | decide | (simp only [ll]; omega))) ?_ | (refine And.intro (fun h1 => ?_) (fun h1 => ?_) <;> first | (exact absurd h1 (by decide)) | ((try rw [h1]); (try simp only [bl] at h1))) | dsimp only)
  all_goals exact cast (congrArg (fun b => K (.bool b) _) (by unfold digB; grind)) h⟩
theorem idx4 (b : UInt8) : idxB [45, 47, 43, 46] b < 0 ↔ ¬ (b = 45 ∨ b = 47 ∨ b = 43 ∨ b = 46) := by
  rw [idxB_neg]; simp; grind
theorem all_snoc {p : UInt8 → Bool} {l : List UInt8} {i : Nat} (hi : i < l.length) (h : (l.take i).all p = true) (hp : p (l.getD i default) = true) : (l.take (i + 1)).all p = true := by
  rw [take_snoc hi]; simp [h, -List.getD_eq_getElem?_getD, hp]
theorem all_false {p : UInt8 → Bool} {l : List UInt8} {i : Nat} (hi : i < l.length) (hp : p (l.getD i default) = false) : l.all p = false := by
  rw [List.all_eq_false]
  refine ⟨l.getD i default, ?_, by simp [hp, -List.getD_eq_getElem?_getD]⟩
  rw [List.getD_eq_getElem?_getD, List.getElem?_eq_getElem hi]; exact List.getElem_mem hi
instance named_ok {K : Value → St → Prop} {w0 w : World} {H : List SL} {ds : List Deferred} {l : List UInt8} [o : Hv w0 H w] :
    Step (Cl P 83 #[str l] K ⟨w, ds⟩) (l.length ≤ 1000000 ∧ ∀ w', Hv w0 H w' → K (.int .i64 (nameE l)) ⟨w', ds⟩) := ⟨fun ⟨hl, h⟩ => by
  refine cl_ok (c83 (K := fun v w' => K v ⟨w', ds⟩) ?_ fun v w' h => ⟨v, rfl, h⟩)
  unfold D83
  dsimp only
  repeat' (first | refine go ?_ | intro _ | refine And.intro (Sd.mk (by (first | exact fun _ => True.intro | exact And.intro (fun _ => True.intro) (fun _ _ => True.intro) | (intro hq; (first | exact True.intro | omega | (simp only [and_true]; omega) | (simp only [bl] at hq; (try simp only [and_true]); omega) | fail)) | exact And.intro (fun hq => by first | exact True.intro | omega | (simp only [and_true]; omega) | (simp only [bl] at hq; (try simp only [and_true]); omega) | fail) (fun hq hr => by first | exact True.intro | omega | (simp only [and_true]; omega) | (simp only [bl] at hq hr; omega) | (simp only [bl] at hr; omega) | fail) | fail))) ?_ | refine And.intro (by (first | omega | (unfold InR; omega) | decide | (simp only [ll]; omega))) ?_ | (refine And.intro (fun h1 => ?_) (fun h1 => ?_) <;> first | (exact absurd h1 (by decide)) | ((try rw [h1]); (try simp only [bl] at h1))) | dsimp only)
  · unfold nameE at h; rw [if_pos h1] at h; exact h _ o
  · have hne := h1
    unfold nameE at h; rw [if_neg hne] at h
    refine ⟨fun y s => ∃ (i : Nat) (w' : World), y = .int .i64 i ∧ s = ⟨w', []⟩ ∧ i ≤ l.length ∧ (l.take i).all nmB = true ∧ Hv w0 H w',
      fun y s => match y with | .int _ z => l.length - z.toNat | _ => 0, ⟨0, w, rfl, rfl, Nat.zero_le _, by simp, o⟩, ?_⟩
    rintro y s ⟨i, w1, rfl, rfl, hi, hp, o1⟩
    rcases Nat.lt_or_ge i l.length with hlt | hge
    · have bad : ∀ w', nmB (l.getD i default) = false → Hv w0 H w' → K (.int .i64 10) ⟨w', ds⟩ := fun w' hb o' => by
        rw [if_neg (by rw [all_false hlt hb]; decide)] at h; exact h _ o'
      have good : ∀ w', nmB (l.getD i default) = true → Hv w0 H w' → ((∃ (i_1 : Nat) (w'_1 : World), Value.int .i64 ((i : Int) + 1) = .int .i64 i_1 ∧ (⟨w', []⟩ : St) = ⟨w'_1, []⟩ ∧ i_1 ≤ l.length ∧ (l.take i_1).all nmB = true ∧ Hv w0 H w'_1) ∧ l.length - ((i : Int) + 1).toNat < l.length - (i : Int).toNat) :=
        fun w' hb o' => ⟨⟨i + 1, w', rfl, rfl, hlt, all_snoc hlt hp hb, o'⟩, by simp; omega⟩
      clear h
      have h4 := idx4 (l.getD i default)
      repeat' (first | refine go ?_ | intro _ | refine And.intro (Sd.mk (by (first | exact fun _ => True.intro | exact And.intro (fun _ => True.intro) (fun _ _ => True.intro) | (intro hq; (first | exact True.intro | omega | (simp only [and_true]; omega) | (simp only [bl] at hq; (try simp only [and_true]); omega) | fail)) | exact And.intro (fun hq => by first | exact True.intro | omega | (simp only [and_true]; omega) | (simp only [bl] at hq; (try simp only [and_true]); omega) | fail) (fun hq hr => by first | exact True.intro | omega | (simp only [and_true]; omega) | (simp only [bl] at hq hr; omega) | (simp only [bl] at hr; omega) | fail) | fail))) ?_ | refine And.intro (by (first | omega | (unfold InR; omega) | decide | (simp only [ll]; omega))) ?_ | (refine And.intro (fun h1 => ?_) (fun h1 => ?_) <;> first | (exact absurd h1 (by decide)) | ((try rw [h1]); (try simp only [bl] at h1))) | dsimp only)
      all_goals first
        | (exfalso; omega)
        | (refine good _ ?_ (Sub.hv subEnd); clear good bad; generalize l.getD i default = b at *; unfold nmB letB digB; grind)
        | (refine bad _ ?_ (Sub.hv subEnd); clear good bad; generalize l.getD i default = b at *; unfold nmB letB digB; grind)
    · rw [List.take_of_length_le hge] at hp
      rw [if_pos hp] at h
      repeat' (first | refine go ?_ | intro _ | refine And.intro (Sd.mk (by (first | exact fun _ => True.intro | exact And.intro (fun _ => True.intro) (fun _ _ => True.intro) | (intro hq; (first | exact True.intro | omega | (simp only [and_true]; omega) | (simp only [bl] at hq; (try simp only [and_true]); omega) | fail)) | exact And.intro (fun hq => by first | exact True.intro | omega | (simp only [and_true]; omega) | (simp only [bl] at hq; (try simp only [and_true]); omega) | fail) (fun hq hr => by first | exact True.intro | omega | (simp only [and_true]; omega) | (simp only [bl] at hq hr; omega) | (simp only [bl] at hr; omega) | fail) | fail))) ?_ | refine And.intro (by (first | omega | (unfold InR; omega) | decide | (simp only [ll]; omega))) ?_ | (refine And.intro (fun h1 => ?_) (fun h1 => ?_) <;> first | (exact absurd h1 (by decide)) | ((try rw [h1]); (try simp only [bl] at h1))) | dsimp only)
      all_goals first
        | exact h _ (Sub.hv subEnd)
        | (exfalso; omega)⟩
instance name_ok {K : Value → St → Prop} {w0 w : World} {H : List SL} {ds : List Deferred} {l : List UInt8} [o : Hv w0 H w] :
    Step (Cl P 91 #[str l] K ⟨w, ds⟩) (l.length ≤ 1000000 ∧ ∀ w', Hv w0 H w' → K (.int .i64 (nameE l)) ⟨w', ds⟩) := ⟨fun ⟨hl, h⟩ => by
  refine cl_ok (c91 (K := fun v w' => K v ⟨w', ds⟩) ?_ fun v w' h => ⟨v, rfl, h⟩)
  unfold D91
  dsimp only
  repeat' (first | refine go ?_ | intro _ | refine And.intro (Sd.mk (by (first | exact fun _ => True.intro | exact And.intro (fun _ => True.intro) (fun _ _ => True.intro) | (intro hq; (first | exact True.intro | omega | (simp only [and_true]; omega) | (simp only [bl] at hq; (try simp only [and_true]); omega) | fail)) | exact And.intro (fun hq => by first | exact True.intro | omega | (simp only [and_true]; omega) | (simp only [bl] at hq; (try simp only [and_true]); omega) | fail) (fun hq hr => by first | exact True.intro | omega | (simp only [and_true]; omega) | (simp only [bl] at hq hr; omega) | (simp only [bl] at hr; omega) | fail) | fail))) ?_ | refine And.intro (by (first | omega | (unfold InR; omega) | decide | (simp only [ll]; omega))) ?_ | (refine And.intro (fun h1 => ?_) (fun h1 => ?_) <;> first | (exact absurd h1 (by decide)) | ((try rw [h1]); (try simp only [bl] at h1))) | dsimp only)
  · unfold nameE at h; rw [if_pos h1] at h; exact h _ o
  · have hne := h1
    unfold nameE at h; rw [if_neg hne] at h
    refine ⟨fun y s => ∃ (i : Nat) (w' : World), y = .int .i64 i ∧ s = ⟨w', []⟩ ∧ i ≤ l.length ∧ (l.take i).all nmB = true ∧ Hv w0 H w',
      fun y s => match y with | .int _ z => l.length - z.toNat | _ => 0, ⟨0, w, rfl, rfl, Nat.zero_le _, by simp, o⟩, ?_⟩
    rintro y s ⟨i, w1, rfl, rfl, hi, hp, o1⟩
    rcases Nat.lt_or_ge i l.length with hlt | hge
    · have bad : ∀ w', nmB (l.getD i default) = false → Hv w0 H w' → K (.int .i64 10) ⟨w', ds⟩ := fun w' hb o' => by
        rw [if_neg (by rw [all_false hlt hb]; decide)] at h; exact h _ o'
      have good : ∀ w', nmB (l.getD i default) = true → Hv w0 H w' → ((∃ (i_1 : Nat) (w'_1 : World), Value.int .i64 ((i : Int) + 1) = .int .i64 i_1 ∧ (⟨w', []⟩ : St) = ⟨w'_1, []⟩ ∧ i_1 ≤ l.length ∧ (l.take i_1).all nmB = true ∧ Hv w0 H w'_1) ∧ l.length - ((i : Int) + 1).toNat < l.length - (i : Int).toNat) :=
        fun w' hb o' => ⟨⟨i + 1, w', rfl, rfl, hlt, all_snoc hlt hp hb, o'⟩, by simp; omega⟩
      clear h
      repeat' (first | refine go ?_ | intro _ | refine And.intro (Sd.mk (by (first | exact fun _ => True.intro | exact And.intro (fun _ => True.intro) (fun _ _ => True.intro) | (intro hq; (first | exact True.intro | omega | (simp only [and_true]; omega) | (simp only [bl] at hq; (try simp only [and_true]); omega) | fail)) | exact And.intro (fun hq => by first | exact True.intro | omega | (simp only [and_true]; omega) | (simp only [bl] at hq; (try simp only [and_true]); omega) | fail) (fun hq hr => by first | exact True.intro | omega | (simp only [and_true]; omega) | (simp only [bl] at hq hr; omega) | (simp only [bl] at hr; omega) | fail) | fail))) ?_ | refine And.intro (by (first | omega | (unfold InR; omega) | decide | (simp only [ll]; omega))) ?_ | (refine And.intro (fun h1 => ?_) (fun h1 => ?_) <;> first | (exact absurd h1 (by decide)) | ((try rw [h1]); (try simp only [bl] at h1))) | dsimp only)
      all_goals first
        | (exfalso; omega)
        | (refine good _ ?_ (Sub.hv subEnd); clear good bad; generalize l.getD i default = b at *; unfold nmB; grind)
        | (refine bad _ ?_ (Sub.hv subEnd); clear good bad; generalize l.getD i default = b at *; unfold nmB; grind)
    · rw [List.take_of_length_le hge] at hp
      rw [if_pos hp] at h
      repeat' (first | refine go ?_ | intro _ | refine And.intro (Sd.mk (by (first | exact fun _ => True.intro | exact And.intro (fun _ => True.intro) (fun _ _ => True.intro) | (intro hq; (first | exact True.intro | omega | (simp only [and_true]; omega) | (simp only [bl] at hq; (try simp only [and_true]); omega) | fail)) | exact And.intro (fun hq => by first | exact True.intro | omega | (simp only [and_true]; omega) | (simp only [bl] at hq; (try simp only [and_true]); omega) | fail) (fun hq hr => by first | exact True.intro | omega | (simp only [and_true]; omega) | (simp only [bl] at hq hr; omega) | (simp only [bl] at hr; omega) | fail) | fail))) ?_ | refine And.intro (by (first | omega | (unfold InR; omega) | decide | (simp only [ll]; omega))) ?_ | (refine And.intro (fun h1 => ?_) (fun h1 => ?_) <;> first | (exact absurd h1 (by decide)) | ((try rw [h1]); (try simp only [bl] at h1))) | dsimp only)
      all_goals first
        | exact h _ (Sub.hv subEnd)
        | (exfalso; omega)⟩
end Go.Proofs.YtapammcnagjigaaDoor

namespace Go.Proofs.YtapammcnagjigaaDoor
open Go.Vx Go.Lib
/-! escapes -/
def plainB (c : UInt8) : UInt8 := if c = 58 then 59 else if c = 115 then 32 else if c = 114 then 13 else if c = 110 then 10 else c
def signB (b : UInt8) : UInt8 := if b = 59 then 58 else if b = 32 then 115 else if b = 92 then 92 else if b = 13 then 114 else if b = 10 then 110 else 0
instance plain_ok {w : World} {b : UInt8} : VT (Cl P 122 #[byteV b]) w (byteV (plainB b)) := ⟨fun {K ds} h => by
  refine cl_ok (c122 (K := fun v w' => K v ⟨w', ds⟩) ?_ fun v w' h => ⟨v, rfl, h⟩)
  unfold D122
  dsimp only
  repeat' (first | refine go ?_ | intro _ | refine And.intro (Sd.mk (by (first | exact fun _ => True.intro | exact And.intro (fun _ => True.intro) (fun _ _ => True.intro) | (intro hq; (first | exact True.intro | omega | (simp only [and_true]; omega) | (simp only [bl] at hq; (try simp only [and_true]); omega) | fail)) | exact And.intro (fun hq => by first | exact True.intro | omega | (simp only [and_true]; omega) | (simp only [bl] at hq; (try simp only [and_true]); omega) | fail) (fun hq hr => by first | exact True.intro | omega | (simp only [and_true]; omega) | (simp only [bl] at hq hr; omega) | (simp only [bl] at hr; omega) | fail) | fail))) ?_ | refine And.intro (by (first | omega | (unfold InR; omega) | decide | (simp only [ll]; omega))) ?_ | (refine And.intro (fun h1 => ?_) (fun h1 => ?_) <;> first | (exact absurd h1 (by decide)) | ((try rw [h1]); (try simp only [bl] at h1))) | dsimp only)
  all_goals exact cast (congrArg (fun b => K (byteV b) _) (by unfold plainB; grind)) h⟩
instance sign_ok {w : World} {b : UInt8} : VT (Cl P 127 #[byteV b]) w (byteV (signB b)) := ⟨fun {K ds} h => by
  refine cl_ok (c127 (K := fun v w' => K v ⟨w', ds⟩) ?_ fun v w' h => ⟨v, rfl, h⟩)
  unfold D127
  dsimp only
  repeat' (first | refine go ?_ | intro _ | refine And.intro (Sd.mk (by (first | exact fun _ => True.intro | exact And.intro (fun _ => True.intro) (fun _ _ => True.intro) | (intro hq; (first | exact True.intro | omega | (simp only [and_true]; omega) | (simp only [bl] at hq; (try simp only [and_true]); omega) | fail)) | exact And.intro (fun hq => by first | exact True.intro | omega | (simp only [and_true]; omega) | (simp only [bl] at hq; (try simp only [and_true]); omega) | fail) (fun hq hr => by first | exact True.intro | omega | (simp only [and_true]; omega) | (simp only [bl] at hq hr; omega) | (simp only [bl] at hr; omega) | fail) | fail))) ?_ | refine And.intro (by (first | omega | (unfold InR; omega) | decide | (simp only [ll]; omega))) ?_ | (refine And.intro (fun h1 => ?_) (fun h1 => ?_) <;> first | (exact absurd h1 (by decide)) | ((try rw [h1]); (try simp only [bl] at h1))) | dsimp only)
  all_goals exact cast (congrArg (fun b => K (byteV b) _) (by unfold signB; grind)) h⟩
/-- What a text stands for: read so far, and whether a backslash waits. -/
def stepU (p : Bool × List UInt8) (b : UInt8) : Bool × List UInt8 := if p.1 then (false, p.2 ++ [plainB b]) else if b = 92 then (true, p.2) else (false, p.2 ++ [b])
def foldU (l : List UInt8) : Bool × List UInt8 := l.foldl stepU (false, [])
def unescS (l : List UInt8) : List UInt8 := (foldU l).2
theorem foldU_snoc (l : List UInt8) (b : UInt8) : foldU (l ++ [b]) = stepU (foldU l) b := by simp [foldU]
theorem foldU_len (l : List UInt8) : ∀ i, i ≤ l.length → (foldU (l.take i)).2.length ≤ i := by
  intro i
  induction i with
  | zero => intro _; simp [foldU]
  | succ i ih =>
    intro h
    have := ih (by omega)
    rw [take_snoc (by omega), foldU_snoc]
    unfold stepU
    split
    · simp; omega
    · split
      · simp; omega
      · simp; omega
instance unesc_ok {K : Value → St → Prop} {w0 w : World} {H : List SL} {ds : List Deferred} {l : List UInt8} [o : Hv w0 H w] :
    Step (Cl P 85 #[str l] K ⟨w, ds⟩) (l.length ≤ 100000 ∧ ∀ w', Hv w0 H w' → K (str (unescS l)) ⟨w', ds⟩) := ⟨fun ⟨hl, h⟩ => by
  refine cl_ok (c85 (K := fun v w' => K v ⟨w', ds⟩) ?_ fun v w' h => ⟨v, rfl, h⟩)
  unfold D85
  dsimp only
  repeat (first | refine go ?_ | intro _ | refine And.intro (Sd.mk (by (first | exact fun _ => True.intro | exact And.intro (fun _ => True.intro) (fun _ _ => True.intro) | (intro hq; (first | exact True.intro | omega | (simp only [and_true]; omega) | (simp only [bl] at hq; (try simp only [and_true]); omega) | fail)) | exact And.intro (fun hq => by first | exact True.intro | omega | (simp only [and_true]; omega) | (simp only [bl] at hq; (try simp only [and_true]); omega) | fail) (fun hq hr => by first | exact True.intro | omega | (simp only [and_true]; omega) | (simp only [bl] at hq hr; omega) | (simp only [bl] at hr; omega) | fail) | fail))) ?_ | refine And.intro (by (first | omega | (unfold InR; omega) | decide | (simp only [ll]; omega))) ?_ | dsimp only)
  rename_i b w1 o1
  have o2 := sbd_new (e := 5) o1
  clear o1
  refine ⟨fun x y s => ∃ (i : Nat) (w' : World), x = .bool (foldU (l.take i)).1 ∧ y = .int .i64 i ∧ s = ⟨w', []⟩ ∧ i ≤ l.length ∧ Hv w0 (sbd 107 5 b (foldU (l.take i)).2 :: H) w',
    fun _ y s => match y with | .int _ z => l.length - z.toNat | _ => 0, ⟨0, w1, rfl, rfl, rfl, Nat.zero_le _, o2⟩, ?_⟩
  clear o2
  rintro x y s ⟨i, w2, rfl, rfl, rfl, hi, o2⟩
  have hlen := foldU_len l i hi
  rcases Nat.lt_or_ge i l.length with hlt | hge
  · have ht : foldU (l.take (i + 1)) = stepU (foldU (l.take i)) (l.getD i default) := by rw [take_snoc hlt, foldU_snoc]
    generalize foldU (l.take i) = p at *
    obtain ⟨tu, out⟩ := p
    dsimp only at hlen o2 ⊢
    have fin : ∀ (t' : Bool) (out' : List UInt8) (w' : World), stepU (tu, out) (l.getD i default) = (t', out') → Hv w0 (sbd 107 5 b out' :: H) w' →
        ((∃ (i_1 : Nat) (w'_1 : World), Value.bool t' = .bool (foldU (l.take i_1)).1 ∧ Value.int .i64 ((i : Int) + 1) = .int .i64 i_1 ∧ (⟨w', []⟩ : St) = ⟨w'_1, []⟩ ∧ i_1 ≤ l.length ∧ Hv w0 (sbd 107 5 b (foldU (l.take i_1)).2 :: H) w'_1) ∧ l.length - ((i : Int) + 1).toNat < l.length - (i : Int).toNat) := by
      intro t' out' w' e ho
      exact ⟨⟨i + 1, w', by rw [ht, e], rfl, rfl, hlt, by rw [ht, e]; exact ho⟩, by simp; omega⟩
    repeat' (first | refine go ?_ | intro _ | refine And.intro (Sd.mk (by (first | exact fun _ => True.intro | exact And.intro (fun _ => True.intro) (fun _ _ => True.intro) | (intro hq; (first | exact True.intro | omega | (simp only [and_true]; omega) | (simp only [bl] at hq; (try simp only [and_true]); omega) | fail)) | exact And.intro (fun hq => by first | exact True.intro | omega | (simp only [and_true]; omega) | (simp only [bl] at hq; (try simp only [and_true]); omega) | fail) (fun hq hr => by first | exact True.intro | omega | (simp only [and_true]; omega) | (simp only [bl] at hq hr; omega) | (simp only [bl] at hr; omega) | fail) | fail))) ?_ | refine And.intro (by (first | omega | (unfold InR; omega) | decide | (simp only [ll]; omega))) ?_ | (refine And.intro (fun h1 => ?_) (fun h1 => ?_) <;> first | (exact absurd h1 (by decide)) | ((try rw [h1]); (try simp only [bl] at h1))) | dsimp only)
    all_goals first
      | (exfalso; omega)
      | (refine fin _ _ _ ?_ (Sub.hv (subSb rfl subEnd)); unfold stepU; simp_all; done)
      | skip
  · rw [List.take_of_length_le hge] at o2 hlen
    have hlen2 : (foldU l).2.length ≤ 100000 := by omega
    repeat' (first | refine go ?_ | intro _ | refine And.intro (Sd.mk (by (first | exact fun _ => True.intro | exact And.intro (fun _ => True.intro) (fun _ _ => True.intro) | (intro hq; (first | exact True.intro | omega | (simp only [and_true]; omega) | (simp only [bl] at hq; (try simp only [and_true]); omega) | fail)) | exact And.intro (fun hq => by first | exact True.intro | omega | (simp only [and_true]; omega) | (simp only [bl] at hq; (try simp only [and_true]); omega) | fail) (fun hq hr => by first | exact True.intro | omega | (simp only [and_true]; omega) | (simp only [bl] at hq hr; omega) | (simp only [bl] at hr; omega) | fail) | fail))) ?_ | refine And.intro (by (first | omega | (unfold InR; omega) | decide | (simp only [ll]; omega))) ?_ | (refine And.intro (fun h1 => ?_) (fun h1 => ?_) <;> first | (exact absurd h1 (by decide)) | ((try rw [h1]); (try simp only [bl] at h1))) | dsimp only)
    all_goals first
      | (exfalso; omega)
      | exact h _ (Sub.hv subEnd)⟩
def escB (b : UInt8) : List UInt8 := if signB b = 0 then [b] else [92, signB b]
def escS (l : List UInt8) : List UInt8 := l.flatMap escB
theorem escS_snoc {l : List UInt8} {i : Nat} (h : i < l.length) : escS (l.take (i + 1)) = escS (l.take i) ++ escB (l.getD i default) := by
  rw [take_snoc h]; simp [escS, -List.getD_eq_getElem?_getD]
theorem escS_len (l : List UInt8) : (escS l).length ≤ 2 * l.length := by
  induction l with
  | nil => simp [escS]
  | cons b l ih =>
    have : (escB b).length ≤ 2 := by unfold escB; split <;> simp
    simp [escS] at ih ⊢; omega
theorem one_piece {l : List UInt8} {i j : Nat} (h : i < l.length) (hj : j = i + 1) : (l.take j).drop i = [l.getD i default] := by
  subst hj
  rw [take_snoc h, List.drop_append]; simp [show min i l.length = i by omega]
def cAt (s : UInt8) : Nat → UInt8
  | 0 => s
  | k + 1 => if signB (UInt8.ofNat k) = s then UInt8.ofNat k else cAt s k
theorem cAt_fin : ∀ n : Fin 256, n.val = 0 ∨ cAt (UInt8.ofNat n.val) 256 = plainB (UInt8.ofNat n.val) := by decide +kernel
theorem cAt_eq {b : UInt8} (h : b ≠ 0) : cAt b 256 = plainB b := by
  rcases cAt_fin ⟨b.toNat, b.toNat_lt⟩ with h2 | h2
  · exact absurd (UInt8.toNat_inj.1 (by simpa using h2)) h
  · simpa using h2
instance unescR_ok {K : Value → St → Prop} {w0 w : World} {H : List SL} {ds : List Deferred} {l : List UInt8} [o : Hv w0 H w] :
    Step (Cl P 92 #[str l] K ⟨w, ds⟩) ((l.length ≤ 100000 ∧ ∀ i < l.length, l.getD i default ≠ 0) ∧ ∀ w', Hv w0 H w' → K (str (unescS l)) ⟨w', ds⟩) := ⟨fun ⟨⟨hl, hz⟩, h⟩ => by
  refine cl_ok (c92 (K := fun v w' => K v ⟨w', ds⟩) ?_ fun v w' h => ⟨v, rfl, h⟩)
  unfold D92
  dsimp only
  refine ⟨fun x y s => ∃ (i : Nat) (w' : World), x = str (foldU (l.take i)).2 ∧ y = .int .i64 i ∧ s = ⟨w', []⟩ ∧ i ≤ l.length ∧ (foldU (l.take i)).1 = false ∧ Hv w0 H w',
    fun _ y s => match y with | .int _ z => l.length - z.toNat | _ => 0, ⟨0, w, rfl, rfl, rfl, Nat.zero_le _, rfl, o⟩, ?_⟩
  rintro x y s ⟨i, w2, rfl, rfl, rfl, hi, hf, o2⟩
  have hlen := foldU_len l i hi
  rcases Nat.lt_or_ge i l.length with hlt | hge
  · have ht : foldU (l.take (i + 1)) = stepU (foldU (l.take i)) (l.getD i default) := by rw [take_snoc hlt, foldU_snoc]
    generalize hp : foldU (l.take i) = p at *
    obtain ⟨tu, out⟩ := p
    dsimp only at hlen hf ⊢
    subst hf
    have hpl : ((l.take (i + 1)).drop i).length = 1 := by rw [one_piece hlt rfl]; rfl
    repeat' (first | refine go ?_ | intro _ | refine And.intro (Sd.mk (by (first | exact fun _ => True.intro | exact And.intro (fun _ => True.intro) (fun _ _ => True.intro) | (intro hq; (first | exact True.intro | omega | (simp only [and_true]; omega) | (simp only [bl] at hq; (try simp only [and_true]); omega) | fail)) | exact And.intro (fun hq => by first | exact True.intro | omega | (simp only [and_true]; omega) | (simp only [bl] at hq; (try simp only [and_true]); omega) | fail) (fun hq hr => by first | exact True.intro | omega | (simp only [and_true]; omega) | (simp only [bl] at hq hr; omega) | (simp only [bl] at hr; omega) | fail) | fail))) ?_ | refine And.intro (by (first | omega | (unfold InR; omega) | decide | (simp only [ll]; omega))) ?_ | (refine And.intro (fun h1 => ?_) (fun h1 => ?_) <;> first | (exact absurd h1 (by decide)) | ((try rw [h1]); (try simp only [bl] at h1))) | dsimp only)
    · have e2 : ((i : Int) + 1).toNat = i + 1 := by omega
      rw [e2, one_piece hlt rfl]
      refine ⟨⟨i + 1, _, ?_, rfl, rfl, hlt, ?_, o2⟩, by simp; omega⟩
      · rw [ht]; unfold stepU; rw [if_neg (by simp), if_neg h1]
      · rw [ht]; unfold stepU; rw [if_neg (by simp), if_neg h1]
    · have h92 : l.getD i default = 92 := by assumption
      have e : unescS l = out := by
        have : l.take (i + 1) = l := List.take_of_length_le (by omega)
        unfold unescS
        rw [← this, ht]; unfold stepU; rw [if_neg (by simp), if_pos h92]
      rw [e] at h
      exact h _ o2
    · have h92 : l.getD i default = 92 := by assumption
      have hlt2 : i + 1 < l.length := by omega
      have e2 : ((i : Int) + 1).toNat = i + 1 := by omega
      rw [e2]
      have hs := hz _ hlt2
      have ht2 : foldU (l.take (i + 2)) = (false, out ++ [plainB (l.getD (i + 1) default)]) := by
        rw [take_snoc hlt2, foldU_snoc, ht]; unfold stepU; simp [h92, -List.getD_eq_getElem?_getD]
      refine ⟨fun x y s => ∃ (k : Nat) (w' : World), x = byteV (cAt (l.getD (i + 1) default) k) ∧ y = .int .i64 k ∧ s = ⟨w', []⟩ ∧ k ≤ 256 ∧ Hv w0 H w',
        fun _ y s => match y with | .int _ z => 256 - z.toNat | _ => 0, ⟨0, w2, rfl, rfl, rfl, Nat.zero_le _, o2⟩, ?_⟩
      rintro x y s ⟨k, w3, rfl, rfl, rfl, hk, o3⟩
      repeat' (first | refine go ?_ | intro _ | refine And.intro (Sd.mk (by (first | exact fun _ => True.intro | exact And.intro (fun _ => True.intro) (fun _ _ => True.intro) | (intro hq; (first | exact True.intro | omega | (simp only [and_true]; omega) | (simp only [bl] at hq; (try simp only [and_true]); omega) | fail)) | exact And.intro (fun hq => by first | exact True.intro | omega | (simp only [and_true]; omega) | (simp only [bl] at hq; (try simp only [and_true]); omega) | fail) (fun hq hr => by first | exact True.intro | omega | (simp only [and_true]; omega) | (simp only [bl] at hq hr; omega) | (simp only [bl] at hr; omega) | fail) | fail))) ?_ | refine And.intro (by (first | omega | (unfold InR; omega) | decide | (simp only [ll]; omega))) ?_ | (refine And.intro (fun h1 => ?_) (fun h1 => ?_) <;> first | (exact absurd h1 (by decide)) | ((try rw [h1]); (try simp only [bl] at h1))) | dsimp only)
      · refine ⟨⟨k + 1, _, ?_, rfl, rfl, by omega, ‹_›⟩, by simp; omega⟩
        rw [e2] at h1; rw [cAt, if_pos h1]
      · refine ⟨⟨k + 1, _, ?_, rfl, rfl, by omega, ‹_›⟩, by simp; omega⟩
        rw [e2] at h1; rw [cAt, if_neg h1]
      · have hk2 : k = 256 := by omega
        subst hk2
        rw [cAt_eq hs]
        refine ⟨⟨i + 2, _, ?_, rfl, rfl, by omega, ?_, Sub.hv subEnd⟩, by simp; omega⟩
        · rw [ht2]
        · rw [ht2]
    · exfalso; omega
  · rw [List.take_of_length_le hge] at hlen
    repeat' (first | refine go ?_ | intro _ | refine And.intro (Sd.mk (by (first | exact fun _ => True.intro | exact And.intro (fun _ => True.intro) (fun _ _ => True.intro) | (intro hq; (first | exact True.intro | omega | (simp only [and_true]; omega) | (simp only [bl] at hq; (try simp only [and_true]); omega) | fail)) | exact And.intro (fun hq => by first | exact True.intro | omega | (simp only [and_true]; omega) | (simp only [bl] at hq; (try simp only [and_true]); omega) | fail) (fun hq hr => by first | exact True.intro | omega | (simp only [and_true]; omega) | (simp only [bl] at hq hr; omega) | (simp only [bl] at hr; omega) | fail) | fail))) ?_ | refine And.intro (by (first | omega | (unfold InR; omega) | decide | (simp only [ll]; omega))) ?_ | (refine And.intro (fun h1 => ?_) (fun h1 => ?_) <;> first | (exact absurd h1 (by decide)) | ((try rw [h1]); (try simp only [bl] at h1))) | dsimp only)
    all_goals first
      | (exfalso; omega)
      | (rw [List.take_of_length_le hge]; exact h _ (Sub.hv subEnd))⟩
instance esc_ok {K : Value → St → Prop} {w0 w : World} {H : List SL} {ds : List Deferred} {l : List UInt8} [o : Hv w0 H w] :
    Step (Cl P 132 #[str l] K ⟨w, ds⟩) (l.length ≤ 100000 ∧ ∀ w', Hv w0 H w' → K (str (escS l)) ⟨w', ds⟩) := ⟨fun ⟨hl, h⟩ => by
  refine cl_ok (c132 (K := fun v w' => K v ⟨w', ds⟩) ?_ fun v w' h => ⟨v, rfl, h⟩)
  unfold D132
  dsimp only
  repeat (first | refine go ?_ | intro _ | refine And.intro (Sd.mk (by (first | exact fun _ => True.intro | exact And.intro (fun _ => True.intro) (fun _ _ => True.intro) | (intro hq; (first | exact True.intro | omega | (simp only [and_true]; omega) | (simp only [bl] at hq; (try simp only [and_true]); omega) | fail)) | exact And.intro (fun hq => by first | exact True.intro | omega | (simp only [and_true]; omega) | (simp only [bl] at hq; (try simp only [and_true]); omega) | fail) (fun hq hr => by first | exact True.intro | omega | (simp only [and_true]; omega) | (simp only [bl] at hq hr; omega) | (simp only [bl] at hr; omega) | fail) | fail))) ?_ | refine And.intro (by (first | omega | (unfold InR; omega) | decide | (simp only [ll]; omega))) ?_ | dsimp only)
  rename_i b w1 o1
  have o2 := sbd_new (e := 5) o1
  clear o1
  refine ⟨fun y s => ∃ (i : Nat) (w' : World), y = .int .i64 i ∧ s = ⟨w', []⟩ ∧ i ≤ l.length ∧ Hv w0 (sbd 107 5 b (escS (l.take i)) :: H) w',
    fun y s => match y with | .int _ z => l.length - z.toNat | _ => 0, ⟨0, w1, rfl, rfl, Nat.zero_le _, o2⟩, ?_⟩
  clear o2
  rintro y s ⟨i, w2, rfl, rfl, hi, o2⟩
  have hlen := escS_len (l.take i)
  rw [List.length_take] at hlen
  rcases Nat.lt_or_ge i l.length with hlt | hge
  · have ht := escS_snoc hlt
    have fin : ∀ (w' : World), Hv w0 (sbd 107 5 b (escS (l.take i) ++ escB (l.getD i default)) :: H) w' →
        ((∃ (i_1 : Nat) (w'_1 : World), Value.int .i64 ((i : Int) + 1) = .int .i64 i_1 ∧ (⟨w', []⟩ : St) = ⟨w'_1, []⟩ ∧ i_1 ≤ l.length ∧ Hv w0 (sbd 107 5 b (escS (l.take i_1)) :: H) w'_1) ∧ l.length - ((i : Int) + 1).toNat < l.length - (i : Int).toNat) := by
      intro w' ho
      exact ⟨⟨i + 1, w', rfl, rfl, hlt, by rw [ht]; exact ho⟩, by simp; omega⟩
    generalize escS (l.take i) = out at *
    have q1 : ([92, 58] : List UInt8).length = 2 := rfl
    have q2 : ([92, 115] : List UInt8).length = 2 := rfl
    have q3 : ([92, 114] : List UInt8).length = 2 := rfl
    have q4 : ([92, 110] : List UInt8).length = 2 := rfl
    repeat' (first | refine go ?_ | intro _ | refine And.intro (Sd.mk (by (first | exact fun _ => True.intro | exact And.intro (fun _ => True.intro) (fun _ _ => True.intro) | (intro hq; (first | exact True.intro | omega | (simp only [and_true]; omega) | (simp only [bl] at hq; (try simp only [and_true]); omega) | fail)) | exact And.intro (fun hq => by first | exact True.intro | omega | (simp only [and_true]; omega) | (simp only [bl] at hq; (try simp only [and_true]); omega) | fail) (fun hq hr => by first | exact True.intro | omega | (simp only [and_true]; omega) | (simp only [bl] at hq hr; omega) | (simp only [bl] at hr; omega) | fail) | fail))) ?_ | refine And.intro (by (first | omega | (unfold InR; omega) | decide | (simp only [ll]; omega))) ?_ | (refine And.intro (fun h1 => ?_) (fun h1 => ?_) <;> first | (exact absurd h1 (by decide)) | ((try rw [h1]); (try simp only [bl] at h1))) | dsimp only)
    all_goals first
      | (exfalso; omega)
      | (refine fin _ (Sub.hv (subSb ?_ subEnd)); unfold escB signB; simp_all; done)
      | (refine And.intro ⟨by omega, by decide, by decide⟩ ?_
         repeat' (first | refine go ?_ | intro _ | refine And.intro (Sd.mk (by (first | exact fun _ => True.intro | exact And.intro (fun _ => True.intro) (fun _ _ => True.intro) | (intro hq; (first | exact True.intro | omega | (simp only [and_true]; omega) | (simp only [bl] at hq; (try simp only [and_true]); omega) | fail)) | exact And.intro (fun hq => by first | exact True.intro | omega | (simp only [and_true]; omega) | (simp only [bl] at hq; (try simp only [and_true]); omega) | fail) (fun hq hr => by first | exact True.intro | omega | (simp only [and_true]; omega) | (simp only [bl] at hq hr; omega) | (simp only [bl] at hr; omega) | fail) | fail))) ?_ | refine And.intro (by (first | omega | (unfold InR; omega) | decide | (simp only [ll]; omega))) ?_ | (refine And.intro (fun h1 => ?_) (fun h1 => ?_) <;> first | (exact absurd h1 (by decide)) | ((try rw [h1]); (try simp only [bl] at h1))) | dsimp only)
         refine fin _ (Sub.hv (subSb ?_ subEnd)); unfold escB signB; simp_all; done)
  · rw [List.take_of_length_le hge] at o2
    have hlen2 := escS_len l
    repeat' (first | refine go ?_ | intro _ | refine And.intro (Sd.mk (by (first | exact fun _ => True.intro | exact And.intro (fun _ => True.intro) (fun _ _ => True.intro) | (intro hq; (first | exact True.intro | omega | (simp only [and_true]; omega) | (simp only [bl] at hq; (try simp only [and_true]); omega) | fail)) | exact And.intro (fun hq => by first | exact True.intro | omega | (simp only [and_true]; omega) | (simp only [bl] at hq; (try simp only [and_true]); omega) | fail) (fun hq hr => by first | exact True.intro | omega | (simp only [and_true]; omega) | (simp only [bl] at hq hr; omega) | (simp only [bl] at hr; omega) | fail) | fail))) ?_ | refine And.intro (by (first | omega | (unfold InR; omega) | decide | (simp only [ll]; omega))) ?_ | (refine And.intro (fun h1 => ?_) (fun h1 => ?_) <;> first | (exact absurd h1 (by decide)) | ((try rw [h1]); (try simp only [bl] at h1))) | dsimp only)
    all_goals first
      | (exfalso; omega)
      | exact h _ (Sub.hv subEnd)⟩
end Go.Proofs.YtapammcnagjigaaDoor

namespace Go.Proofs.YtapammcnagjigaaDoor
open Go.Vx Go.Lib
instance escR_ok {K : Value → St → Prop} {w0 w : World} {H : List SL} {ds : List Deferred} {l : List UInt8} [o : Hv w0 H w] :
    Step (Cl P 128 #[str l] K ⟨w, ds⟩) (l.length ≤ 100000 ∧ ∀ w', Hv w0 H w' → K (str (escS l)) ⟨w', ds⟩) := ⟨fun ⟨hl, h⟩ => by
  refine cl_ok (c128 (K := fun v w' => K v ⟨w', ds⟩) ?_ fun v w' h => ⟨v, rfl, h⟩)
  unfold D128
  dsimp only
  refine ⟨fun x y s => ∃ (i : Nat) (w' : World), x = str (escS (l.take i)) ∧ y = .int .i64 i ∧ s = ⟨w', []⟩ ∧ i ≤ l.length ∧ Hv w0 H w',
    fun _ y s => match y with | .int _ z => l.length - z.toNat | _ => 0, ⟨0, w, rfl, rfl, rfl, Nat.zero_le _, o⟩, ?_⟩
  rintro x y s ⟨i, w2, rfl, rfl, rfl, hi, o2⟩
  have hlen := escS_len (l.take i)
  rw [List.length_take] at hlen
  rcases Nat.lt_or_ge i l.length with hlt | hge
  · have ht := escS_snoc hlt
    have fin : ∀ (out : List UInt8) (w' : World), out = escS (l.take i) ++ escB (l.getD i default) → Hv w0 H w' →
        ((∃ (i_1 : Nat) (w'_1 : World), str out = str (escS (l.take i_1)) ∧ Value.int .i64 ((i : Int) + 1) = .int .i64 i_1 ∧ (⟨w', []⟩ : St) = ⟨w'_1, []⟩ ∧ i_1 ≤ l.length ∧ Hv w0 H w'_1) ∧ l.length - ((i : Int) + 1).toNat < l.length - (i : Int).toNat) := by
      intro out w' e ho
      exact ⟨⟨i + 1, w', by rw [ht, e], rfl, rfl, hlt, ho⟩, by simp; omega⟩
    generalize escS (l.take i) = out at *
    have e2 : ((i : Int) + 1).toNat = i + 1 := by omega
    repeat' (first | refine go ?_ | intro _ | refine And.intro (Sd.mk (by (first | exact fun _ => True.intro | exact And.intro (fun _ => True.intro) (fun _ _ => True.intro) | (intro hq; (first | exact True.intro | omega | (simp only [and_true]; omega) | (simp only [bl] at hq; (try simp only [and_true]); omega) | fail)) | exact And.intro (fun hq => by first | exact True.intro | omega | (simp only [and_true]; omega) | (simp only [bl] at hq; (try simp only [and_true]); omega) | fail) (fun hq hr => by first | exact True.intro | omega | (simp only [and_true]; omega) | (simp only [bl] at hq hr; omega) | (simp only [bl] at hr; omega) | fail) | fail))) ?_ | refine And.intro (by (first | omega | (unfold InR; omega) | decide | (simp only [ll]; omega))) ?_ | (refine And.intro (fun h1 => ?_) (fun h1 => ?_) <;> first | (exact absurd h1 (by decide)) | ((try rw [h1]); (try simp only [bl] at h1))) | dsimp only)
    all_goals first
      | (exfalso; omega)
      | (refine fin _ _ ?_ (Sub.hv subEnd); (try rw [e2, one_piece hlt rfl]); unfold escB; simp_all; done)
  · rw [List.take_of_length_le hge]
    have hlen2 := escS_len l
    repeat' (first | refine go ?_ | intro _ | refine And.intro (Sd.mk (by (first | exact fun _ => True.intro | exact And.intro (fun _ => True.intro) (fun _ _ => True.intro) | (intro hq; (first | exact True.intro | omega | (simp only [and_true]; omega) | (simp only [bl] at hq; (try simp only [and_true]); omega) | fail)) | exact And.intro (fun hq => by first | exact True.intro | omega | (simp only [and_true]; omega) | (simp only [bl] at hq; (try simp only [and_true]); omega) | fail) (fun hq hr => by first | exact True.intro | omega | (simp only [and_true]; omega) | (simp only [bl] at hq hr; omega) | (simp only [bl] at hr; omega) | fail) | fail))) ?_ | refine And.intro (by (first | omega | (unfold InR; omega) | decide | (simp only [ll]; omega))) ?_ | (refine And.intro (fun h1 => ?_) (fun h1 => ?_) <;> first | (exact absurd h1 (by decide)) | ((try rw [h1]); (try simp only [bl] at h1))) | dsimp only)
    all_goals first
      | (exfalso; omega)
      | exact h _ (Sub.hv subEnd)⟩
/-! tags -/
abbrev Tag := List UInt8 × List UInt8
abbrev encT (t : Tag) : List Value := [str t.1, str t.2]
instance : UEnc encT 2 := ⟨fun _ => rfl⟩
instance : EncTy 71 Tag encT 2 := ⟨fun _ => rfl⟩
instance {a b : List UInt8} {zs : List Value} {ys : List Tag} [h : Encs encT zs ys] : Encs encT (str a :: str b :: zs) ((a, b) :: ys) := ⟨by rw [h.eq]; rfl⟩
def getS (l : List Tag) (n : List UInt8) : Option Tag := l.find? fun t => decide (t.1 = n)
def atS (l : List Tag) (n : List UInt8) : Int := match l.findIdx? fun t => decide (t.1 = n) with | some i => i | none => -1
theorem atF {l : List Tag} {n : List UInt8} {i : Nat} (h : i < l.length) (hp : ∀ j < i, (l.getD j default).1 ≠ n) (he : (l.getD i default).1 = n) : l.findIdx? (fun t => decide (t.1 = n)) = some i := by
  rw [List.findIdx?_eq_some_iff_getElem]
  refine ⟨h, by simpa [h] using he, fun j hj => ?_⟩
  have := hp j hj
  have hj2 : j < l.length := by omega
  simpa [hj2] using this
theorem atN {l : List Tag} {n : List UInt8} (hp : ∀ j < l.length, (l.getD j default).1 ≠ n) : l.findIdx? (fun t => decide (t.1 = n)) = none := by
  rw [List.findIdx?_eq_none_iff]
  intro x hx
  obtain ⟨j, hj, rfl⟩ := List.getElem_of_mem hx
  have := hp j hj
  simpa [hj] using this
theorem at_some {l : List Tag} {n : List UInt8} {i : Nat} (h : i < l.length) (hp : ∀ j < i, (l.getD j default).1 ≠ n) (he : (l.getD i default).1 = n) : atS l n = (i : Int) := by
  unfold atS; rw [atF h hp he]
theorem at_none {l : List Tag} {n : List UInt8} (hp : ∀ j < l.length, (l.getD j default).1 ≠ n) : atS l n = -1 := by
  unfold atS; rw [atN hp]
section
variable {K : Value → St → Prop} {w0 w : World} {H : List SL} {ds : List Deferred} {x y : Value} {xs ys : List Tag} {n m : Nat} {zx zy : List Value} {nm : List UInt8}
instance at_ok [o : Hv w0 H w] [rx : RdsF w0 H x 2 n zx] [ex : Encs encT zx xs] :
    Step (Cl P 93 #[x, str nm] K ⟨w, ds⟩) (xs.length ≤ 100000 ∧ ∀ w', Hv w0 H w' → K (.int .i64 (atS xs nm)) ⟨w', ds⟩) := ⟨fun ⟨hl, h⟩ => by
  refine cl_ok (c93 (K := fun v w' => K v ⟨w', ds⟩) ?_ fun v w' h => ⟨v, rfl, h⟩)
  obtain rfl : n = xs.length := ex.len (rx.rd w o).len (by decide)
  obtain rfl := ex.eq
  have rlx := rx.loc
  unfold D93
  dsimp only
  refine ⟨fun y s => ∃ (i : Nat) (w' : World), y = .int .i64 i ∧ s = ⟨w', []⟩ ∧ i ≤ xs.length ∧ (∀ j < i, (xs.getD j default).1 ≠ nm) ∧ Hv w0 H w',
    fun y s => match y with | .int _ z => xs.length - z.toNat | _ => 0, ⟨0, w, rfl, rfl, Nat.zero_le _, fun j h => by omega, o⟩, ?_⟩
  rintro y s ⟨i, w1, rfl, rfl, hi, hp, o1⟩
  repeat' (first | refine go ?_ | intro _ | refine And.intro (Sd.mk (by (first | exact fun _ => True.intro | exact And.intro (fun _ => True.intro) (fun _ _ => True.intro) | (intro hq; (first | exact True.intro | omega | (simp only [and_true]; omega) | (simp only [bl] at hq; (try simp only [and_true]); omega) | fail)) | exact And.intro (fun hq => by first | exact True.intro | omega | (simp only [and_true]; omega) | (simp only [bl] at hq; (try simp only [and_true]); omega) | fail) (fun hq hr => by first | exact True.intro | omega | (simp only [and_true]; omega) | (simp only [bl] at hq hr; omega) | (simp only [bl] at hr; omega) | fail) | fail))) ?_ | refine And.intro (by (first | omega | (unfold InR; omega) | decide | (simp only [ll]; omega))) ?_ | (refine And.intro (fun h1 => ?_) (fun h1 => ?_) <;> first | (exact absurd h1 (by decide)) | ((try rw [h1]); (try simp only [bl] at h1))) | dsimp only)
  · have hlt : i < xs.length := by omega
    rw [at_some hlt hp h1] at h
    exact h _ ‹_›
  · have hlt : i < xs.length := by omega
    refine ⟨⟨i + 1, _, rfl, rfl, hlt, fun j hj => ?_, ‹_›⟩, by simp; omega⟩
    rcases Nat.lt_or_ge j i with q | q
    · exact hp j q
    · obtain rfl : j = i := by omega
      exact h1
  · rw [at_none fun j hj => hp j (by omega)] at h
    exact h _ ‹_›⟩
end
end Go.Proofs.YtapammcnagjigaaDoor

namespace Go.Proofs.YtapammcnagjigaaDoor
open Go.Vx Go.Lib
section
variable {K : Value → St → Prop} {w0 w : World} {H R : List SL} {ds : List Deferred} {x y : Value} {xs ys : List Tag} {n m : Nat} {zx zy : List Value} {nm : List UInt8}
instance namedF_ok {b : Nat} {a v : List UInt8} [o : Hv w0 H w] [i : BoxIn H b 9 [str nm] R] :
    Step (Cl P 87 #[.agg #[str a, str v], .pointer (some ⟨b, 0, none⟩)] K ⟨w, ds⟩) (∀ w', Hv w0 H w' → K (.bool (decide (a = nm))) ⟨w', ds⟩) := ⟨fun h => by
  refine cl_ok (c87 (K := fun v w' => K v ⟨w', ds⟩) ?_ fun v w' h => ⟨v, rfl, h⟩)
  unfold D87
  dsimp only
  repeat' (first | refine go ?_ | intro _ | refine And.intro (Sd.mk (by (first | exact fun _ => True.intro | exact And.intro (fun _ => True.intro) (fun _ _ => True.intro) | (intro hq; (first | exact True.intro | omega | (simp only [and_true]; omega) | (simp only [bl] at hq; (try simp only [and_true]); omega) | fail)) | exact And.intro (fun hq => by first | exact True.intro | omega | (simp only [and_true]; omega) | (simp only [bl] at hq; (try simp only [and_true]); omega) | fail) (fun hq hr => by first | exact True.intro | omega | (simp only [and_true]; omega) | (simp only [bl] at hq hr; omega) | (simp only [bl] at hr; omega) | fail) | fail))) ?_ | refine And.intro (by (first | omega | (unfold InR; omega) | decide | (simp only [ll]; omega))) ?_ | (refine And.intro (fun h1 => ?_) (fun h1 => ?_) <;> first | (exact absurd h1 (by decide)) | ((try rw [h1]); (try simp only [bl] at h1))) | dsimp only)
  exact h _ (Sub.hv subEnd)⟩
instance indexF_ok {b : Nat} [o : Hv w0 H w] [i : BoxIn H b 9 [str nm] R] [rx : RdsF w0 H x 2 n zx] [ex : Encs encT zx xs] :
    Step (Cl P 86 #[x, .func (.func 87) #[] #[.pointer (some ⟨b, 0, none⟩)]] K ⟨w, ds⟩) (xs.length ≤ 100000 ∧ ∀ w', Hv w0 H w' → K (.int .i64 (atS xs nm)) ⟨w', ds⟩) := ⟨fun ⟨hl, h⟩ => by
  refine cl_ok (c86 (K := fun v w' => K v ⟨w', ds⟩) ?_ fun v w' h => ⟨v, rfl, h⟩)
  obtain rfl : n = xs.length := ex.len (rx.rd w o).len (by decide)
  obtain rfl := ex.eq
  have rlx := rx.loc
  unfold D86
  dsimp only
  repeat (first | refine go ?_ | intro _ | refine And.intro (Sd.mk (by (first | exact fun _ => True.intro | exact And.intro (fun _ => True.intro) (fun _ _ => True.intro) | (intro hq; (first | exact True.intro | omega | (simp only [and_true]; omega) | (simp only [bl] at hq; (try simp only [and_true]); omega) | fail)) | exact And.intro (fun hq => by first | exact True.intro | omega | (simp only [and_true]; omega) | (simp only [bl] at hq; (try simp only [and_true]); omega) | fail) (fun hq hr => by first | exact True.intro | omega | (simp only [and_true]; omega) | (simp only [bl] at hq hr; omega) | (simp only [bl] at hr; omega) | fail) | fail))) ?_ | refine And.intro (by (first | omega | (unfold InR; omega) | decide | (simp only [ll]; omega))) ?_ | dsimp only)
  refine ⟨fun y s => ∃ (i : Nat) (w' : World), y = .int .i64 i ∧ s = ⟨w', []⟩ ∧ i ≤ xs.length ∧ (∀ j < i, (xs.getD j default).1 ≠ nm) ∧ Hv w0 H w',
    fun y s => match y with | .int _ z => xs.length - z.toNat | _ => 0, ⟨0, w, rfl, rfl, Nat.zero_le _, fun j h => by omega, o⟩, ?_⟩
  rintro y s ⟨i, w1, rfl, rfl, hi, hp, o1⟩
  repeat' (first | refine go ?_ | intro _ | refine And.intro (Sd.mk (by (first | exact fun _ => True.intro | exact And.intro (fun _ => True.intro) (fun _ _ => True.intro) | (intro hq; (first | exact True.intro | omega | (simp only [and_true]; omega) | (simp only [bl] at hq; (try simp only [and_true]); omega) | fail)) | exact And.intro (fun hq => by first | exact True.intro | omega | (simp only [and_true]; omega) | (simp only [bl] at hq; (try simp only [and_true]); omega) | fail) (fun hq hr => by first | exact True.intro | omega | (simp only [and_true]; omega) | (simp only [bl] at hq hr; omega) | (simp only [bl] at hr; omega) | fail) | fail))) ?_ | refine And.intro (by (first | omega | (unfold InR; omega) | decide | (simp only [ll]; omega))) ?_ | (refine And.intro (fun h1 => ?_) (fun h1 => ?_) <;> first | (exact absurd h1 (by decide)) | ((try rw [h1]); (try simp only [bl] at h1))) | dsimp only)
  simp only [List.cons_append, List.nil_append]
  repeat' (first | refine go ?_ | intro _ | refine And.intro (Sd.mk (by (first | exact fun _ => True.intro | exact And.intro (fun _ => True.intro) (fun _ _ => True.intro) | (intro hq; (first | exact True.intro | omega | (simp only [and_true]; omega) | (simp only [bl] at hq; (try simp only [and_true]); omega) | fail)) | exact And.intro (fun hq => by first | exact True.intro | omega | (simp only [and_true]; omega) | (simp only [bl] at hq; (try simp only [and_true]); omega) | fail) (fun hq hr => by first | exact True.intro | omega | (simp only [and_true]; omega) | (simp only [bl] at hq hr; omega) | (simp only [bl] at hr; omega) | fail) | fail))) ?_ | refine And.intro (by (first | omega | (unfold InR; omega) | decide | (simp only [ll]; omega))) ?_ | (refine And.intro (fun h1 => ?_) (fun h1 => ?_) <;> first | (exact absurd h1 (by decide)) | ((try rw [h1]); (try simp only [bl] at h1))) | dsimp only)
  · have hlt : i < xs.length := by omega
    rw [at_some hlt hp h1] at h
    exact h _ ‹_›
  · have hlt : i < xs.length := by omega
    refine ⟨⟨i + 1, _, rfl, rfl, hlt, fun j hj => ?_, ‹_›⟩, by simp; omega⟩
    rcases Nat.lt_or_ge j i with q | q
    · exact hp j q
    · obtain rfl : j = i := by omega
      exact h1
  · rw [at_none fun j hj => hp j (by omega)] at h
    exact h _ ‹_›⟩
instance same_ok [o : Hv w0 H w] [rx : RdsF w0 H x 2 n zx] [ex : Encs encT zx xs] [ry : RdsF w0 H y 2 m zy] [ey : Encs encT zy ys] :
    Step (Cl P 26 #[x, y] K ⟨w, ds⟩) (xs.length ≤ 100000 ∧ ∀ w', Hv w0 H w' → K (.bool (decide (xs = ys))) ⟨w', ds⟩) := ⟨fun ⟨hl, h⟩ => by
  refine cl_ok (c26 (K := fun v w' => K v ⟨w', ds⟩) ?_ fun v w' h => ⟨v, rfl, h⟩)
  obtain rfl : n = xs.length := ex.len (rx.rd w o).len (by decide)
  obtain rfl := ex.eq
  obtain rfl : m = ys.length := ey.len (ry.rd w o).len (by decide)
  obtain rfl := ey.eq
  have rlx := rx.loc
  have rly := ry.loc
  unfold D26
  dsimp only
  repeat' (first | refine go ?_ | intro _ | refine And.intro (Sd.mk (by (first | exact fun _ => True.intro | exact And.intro (fun _ => True.intro) (fun _ _ => True.intro) | (intro hq; (first | exact True.intro | omega | (simp only [and_true]; omega) | (simp only [bl] at hq; (try simp only [and_true]); omega) | fail)) | exact And.intro (fun hq => by first | exact True.intro | omega | (simp only [and_true]; omega) | (simp only [bl] at hq; (try simp only [and_true]); omega) | fail) (fun hq hr => by first | exact True.intro | omega | (simp only [and_true]; omega) | (simp only [bl] at hq hr; omega) | (simp only [bl] at hr; omega) | fail) | fail))) ?_ | refine And.intro (by (first | omega | (unfold InR; omega) | decide | (simp only [ll]; omega))) ?_ | (refine And.intro (fun h1 => ?_) (fun h1 => ?_) <;> first | (exact absurd h1 (by decide)) | ((try rw [h1]); (try simp only [bl] at h1))) | dsimp only)
  · have hne : xs ≠ ys := fun e => h1 (by rw [e])
    simpa [hne] using h _ o
  have hn : xs.length = ys.length := by omega
  refine ⟨fun y s => ∃ (i : Nat) (w' : World), y = .int .i64 i ∧ s = ⟨w', []⟩ ∧ i ≤ xs.length ∧ xs.take i = ys.take i ∧ Hv w0 H w',
    fun y s => match y with | .int _ z => xs.length - z.toNat | _ => 0, ⟨0, w, rfl, rfl, Nat.zero_le _, by simp, o⟩, ?_⟩
  rintro y s ⟨i, w1, rfl, rfl, hi, he, o1⟩
  repeat' (first | refine go ?_ | intro _ | refine And.intro (Sd.mk (by (first | exact fun _ => True.intro | exact And.intro (fun _ => True.intro) (fun _ _ => True.intro) | (intro hq; (first | exact True.intro | omega | (simp only [and_true]; omega) | (simp only [bl] at hq; (try simp only [and_true]); omega) | fail)) | exact And.intro (fun hq => by first | exact True.intro | omega | (simp only [and_true]; omega) | (simp only [bl] at hq; (try simp only [and_true]); omega) | fail) (fun hq hr => by first | exact True.intro | omega | (simp only [and_true]; omega) | (simp only [bl] at hq hr; omega) | (simp only [bl] at hr; omega) | fail) | fail))) ?_ | refine And.intro (by (first | omega | (unfold InR; omega) | decide | (simp only [ll]; omega))) ?_ | (refine And.intro (fun h1 => ?_) (fun h1 => ?_) <;> first | (exact absurd h1 (by decide)) | ((try rw [h1]); (try simp only [bl] at h1))) | dsimp only)
  · have hlt : i < xs.length := by omega
    have hne : xs ≠ ys := fun e => by subst e; simp at h1
    simpa [hne] using h _ (Sub.hv subEnd)
  · have hlt : i < xs.length := by omega
    refine ⟨⟨i + 1, _, rfl, rfl, hlt, ?_, Sub.hv subEnd⟩, by simp; omega⟩
    rw [take_snoc hlt, take_snoc (show i < ys.length by omega), he, Prod.ext h1.1 h1.2.1]
  · have : xs = ys := by rw [← List.take_of_length_le (show xs.length ≤ i by omega), he, List.take_of_length_le (by omega)]
    simpa [this] using h _ (Sub.hv subEnd)⟩
def getV (l : List Tag) (n : List UInt8) : List UInt8 × Bool := match l.findIdx? fun t => decide (t.1 = n) with | some i => ((l.getD i default).2, true) | none => ([], false)
instance get_ok [o : Hv w0 H w] [rx : RdsF w0 H x 2 n zx] [ex : Encs encT zx xs] :
    Step (Cl P 98 #[x, str nm] K ⟨w, ds⟩) (xs.length ≤ 100000 ∧ ∀ w', Hv w0 H w' → K (.tuple #[str (getV xs nm).1, .bool (getV xs nm).2]) ⟨w', ds⟩) := ⟨fun ⟨hl, h⟩ => by
  refine cl_ok (c98 (K := fun v w' => K v ⟨w', ds⟩) ?_ fun v w' h => ⟨v, rfl, h⟩)
  obtain rfl : n = xs.length := ex.len (rx.rd w o).len (by decide)
  obtain rfl := ex.eq
  have rlx := rx.loc
  unfold D98
  dsimp only
  repeat (first | refine go ?_ | intro _ | refine And.intro (Sd.mk (by (first | exact fun _ => True.intro | exact And.intro (fun _ => True.intro) (fun _ _ => True.intro) | (intro hq; (first | exact True.intro | omega | (simp only [and_true]; omega) | (simp only [bl] at hq; (try simp only [and_true]); omega) | fail)) | exact And.intro (fun hq => by first | exact True.intro | omega | (simp only [and_true]; omega) | (simp only [bl] at hq; (try simp only [and_true]); omega) | fail) (fun hq hr => by first | exact True.intro | omega | (simp only [and_true]; omega) | (simp only [bl] at hq hr; omega) | (simp only [bl] at hr; omega) | fail) | fail))) ?_ | refine And.intro (by (first | omega | (unfold InR; omega) | decide | (simp only [ll]; omega))) ?_ | dsimp only)
  refine ⟨fun y s => ∃ (i : Nat) (w' : World), y = .int .i64 i ∧ s = ⟨w', []⟩ ∧ i ≤ xs.length ∧ (∀ j < i, (xs.getD j default).1 ≠ nm) ∧ Hv w0 H w',
    fun y s => match y with | .int _ z => xs.length - z.toNat | _ => 0, ⟨0, w, rfl, rfl, Nat.zero_le _, fun j h => by omega, o⟩, ?_⟩
  rintro y s ⟨i, w1, rfl, rfl, hi, hp, o1⟩
  repeat' (first | refine go ?_ | intro _ | refine And.intro (Sd.mk (by (first | exact fun _ => True.intro | exact And.intro (fun _ => True.intro) (fun _ _ => True.intro) | (intro hq; (first | exact True.intro | omega | (simp only [and_true]; omega) | (simp only [bl] at hq; (try simp only [and_true]); omega) | fail)) | exact And.intro (fun hq => by first | exact True.intro | omega | (simp only [and_true]; omega) | (simp only [bl] at hq; (try simp only [and_true]); omega) | fail) (fun hq hr => by first | exact True.intro | omega | (simp only [and_true]; omega) | (simp only [bl] at hq hr; omega) | (simp only [bl] at hr; omega) | fail) | fail))) ?_ | refine And.intro (by (first | omega | (unfold InR; omega) | decide | (simp only [ll]; omega))) ?_ | (refine And.intro (fun h1 => ?_) (fun h1 => ?_) <;> first | (exact absurd h1 (by decide)) | ((try rw [h1]); (try simp only [bl] at h1))) | dsimp only)
  · have hlt : i < xs.length := by omega
    unfold getV at h
    rw [atF hlt hp h1] at h
    exact h _ (Sub.hv subEnd)
  · have hlt : i < xs.length := by omega
    refine ⟨⟨i + 1, _, rfl, rfl, hlt, fun j hj => ?_, Sub.hv subEnd⟩, by simp; omega⟩
    rcases Nat.lt_or_ge j i with q | q
    · exact hp j q
    · obtain rfl : j = i := by omega
      exact h1
  · unfold getV at h
    rw [atN fun j hj => hp j (by omega)] at h
    exact h _ (Sub.hv subEnd)⟩
end
end Go.Proofs.YtapammcnagjigaaDoor

namespace Go.Proofs.YtapammcnagjigaaDoor
open Go.Vx Go.Lib
/-! the tags of a text -/
def valBad (v : List UInt8) : Bool := v.any (([0, 13, 10, 32] : List UInt8).contains ·)
def partE (p : List UInt8) : Int := if nameE (cutB p 61).1 ≠ 0 then nameE (cutB p 61).1 else if valBad (cutB p 61).2.1 then 10 else 0
def partT (p : List UInt8) : Tag := ((cutB p 61).1, unescS (cutB p 61).2.1)
def insT (out : List Tag) (t : Tag) : List Tag := match out.findIdx? fun u => decide (u.1 = t.1) with | some i => out.set i t | none => out ++ [t]
def goP (out : List Tag) : List (List UInt8) → List Tag × Int
  | [] => if 16 < out.length then ([], 7) else (out, 0)
  | p :: ps => if partE p ≠ 0 then ([], partE p) else goP (insT out (partT p)) ps
def parseT (l : List UInt8) : List Tag × Int := goP [] (splitS 59 l)
theorem atS_lt (out : List Tag) (n : List UInt8) : atS out n < (out.length : Int) := by
  unfold atS
  cases h : out.findIdx? fun t => decide (t.1 = n) with
  | none => simp; omega
  | some i => have := (List.findIdx?_eq_some_iff_getElem.1 h).1; simp; omega
theorem insT_at (out : List Tag) (t : Tag) : insT out t = if 0 ≤ atS out t.1 then out.set (atS out t.1).toNat t else out ++ [t] := by
  unfold insT atS
  cases h : out.findIdx? fun u => decide (u.1 = t.1) with
  | none => simp
  | some i => simp
theorem insT_len (out : List Tag) (t : Tag) : (insT out t).length ≤ out.length + 1 := by
  unfold insT; split <;> simp
theorem goP_drop {out : List Tag} {ps : List (List UInt8)} {i : Nat} (h : i < ps.length) : goP out (ps.drop i) = if partE (ps.getD i default) ≠ 0 then ([], partE (ps.getD i default)) else goP (insT out (partT (ps.getD i default))) (ps.drop (i + 1)) := by
  have : ps.drop i = ps.getD i default :: ps.drop (i + 1) := by
    rw [List.drop_eq_getElem_cons h]; congr 1; simp [h]
  rw [this, goP]
theorem cut_len (l : List UInt8) (c : UInt8) : (cutB l c).1.length ≤ l.length ∧ (cutB l c).2.1.length ≤ l.length := by
  unfold cutB; split <;> simp
  exact Nat.min_le_right _ _
theorem split_mem {c : UInt8} {l : List UInt8} : ∀ p ∈ splitS c l, p.length ≤ l.length := by
  induction l with
  | nil => simp [splitS]
  | cons b t ih =>
    intro p hp
    simp only [splitS] at hp
    split at hp
    · rcases List.mem_cons.1 hp with e | e
      · subst e; simp
      · have := ih p e; simp; omega
    · cases hs : splitS c t with
      | nil => rw [hs] at hp; simp at hp; subst hp; simp
      | cons h r =>
        rw [hs] at hp ih
        rcases List.mem_cons.1 hp with e | e
        · subst e; have := ih h (by simp); simp; exact this
        · have := ih p (by simp [e]); simp; omega
theorem unesc_len (l : List UInt8) : (unescS l).length ≤ l.length := by
  have := foldU_len l l.length (Nat.le_refl _)
  rwa [List.take_length] at this
section
variable {K : Value → St → Prop} {w0 w : World} {H R : List SL} {ds : List Deferred}
set_option maxRecDepth 20000
set_option synthInstance.maxSize 100000
set_option synthInstance.maxHeartbeats 4000000
instance parse_ok {l : List UInt8} [o : Hv w0 H w] :
    Step (Cl P 40 #[str l] K ⟨w, ds⟩) (l.length ≤ 20000 ∧ ∀ v w', Hv w0 (row 71 2 v (parseT l).1.length ((parseT l).1.flatMap encT) :: H) w' → K (.tuple #[v, .int .i64 (parseT l).2]) ⟨w', ds⟩) := ⟨fun ⟨hl, h⟩ => by
  refine cl_ok (c40 (K := fun v w' => K v ⟨w', ds⟩) ?_ fun v w' h => ⟨v, rfl, h⟩)
  unfold D40
  dsimp only
  repeat (first | refine go ?_ | intro _ | refine And.intro (Sd.mk (by (first | exact fun _ => True.intro | exact And.intro (fun _ => True.intro) (fun _ _ => True.intro) | (intro hq; (first | exact True.intro | omega | (simp only [and_true]; omega) | (simp only [bl] at hq; (try simp only [and_true]); omega) | fail)) | exact And.intro (fun hq => by first | exact True.intro | omega | (simp only [and_true]; omega) | (simp only [bl] at hq; (try simp only [and_true]); omega) | fail) (fun hq hr => by first | exact True.intro | omega | (simp only [and_true]; omega) | (simp only [bl] at hq hr; omega) | (simp only [bl] at hr; omega) | fail) | fail))) ?_ | refine And.intro (by (first | omega | (unfold InR; omega) | decide | (simp only [ll]; omega))) ?_ | dsimp only)
  rename_i v1 w1 o1
  have hpl : (splitS 59 l).length ≤ 20001 := by
    rw [splitS_len]; have := List.count_le_length (a := (59 : UInt8)) (l := l); omega
  have hpm := @split_mem 59 l
  unfold parseT at h
  generalize hps : splitS 59 l = ps at *
  refine ⟨fun x y s => ∃ (i : Nat) (out : List Tag) (w' : World), y = .int .i64 i ∧ s = ⟨w', []⟩ ∧ i ≤ ps.length ∧ out.length ≤ i ∧ goP [] ps = goP out (ps.drop i) ∧ Hv w0 (row 71 2 x out.length (out.flatMap encT) :: row 9 1 v1 ps.length (ps.map str) :: H) w',
    fun _ y s => match y with | .int _ z => ps.length - z.toNat | _ => 0, ⟨0, [], w1, rfl, rfl, Nat.zero_le _, Nat.zero_le _, rfl, Hv.nilRow 71 2 o1⟩, ?_⟩
  clear o1
  rintro x y s ⟨i, out, w2, rfl, rfl, hi, ho, hg, o2⟩
  rcases Nat.lt_or_ge i ps.length with hlt | hge
  · have hp1 : (ps.getD i default).length ≤ 20000 := by
      have := hpm (ps.getD i default) (by rw [List.getD_eq_getElem?_getD, List.getElem?_eq_getElem hlt]; exact List.getElem_mem hlt)
      omega
    have hgd := goP_drop (out := out) hlt
    rw [hgd] at hg
    have hcl := cut_len (ps.getD i default) 61
    have hul := unesc_len (cutB (ps.getD i default) 61).2.1
    have hnl := insT_len out (partT (ps.getD i default))
    have hE : partE (ps.getD i default) = if nameE (cutB (ps.getD i default) 61).1 ≠ 0 then nameE (cutB (ps.getD i default) 61).1 else if valBad (cutB (ps.getD i default) 61).2.1 then 10 else 0 := rfl
    have hT : partT (ps.getD i default) = ((cutB (ps.getD i default) 61).1, unescS (cutB (ps.getD i default) 61).2.1) := rfl
    rw [hT] at hg hgd hnl
    clear hgd
    have c1 : (cutB (ps.getD i default) 61).1.length ≤ 1000000 := by omega
    have c2 : (cutB (ps.getD i default) 61).2.1.length ≤ 100000 := by omega
    have c3 : (cutB (ps.getD i default) 61).2.1.length ≤ 1000000 := by omega
    have hch : ∀ b ∈ ([0, 13, 10, 32] : List UInt8), b.toNat < 128 := by decide
    have hany : (cutB (ps.getD i default) 61).2.1.any (([0, 13, 10, 32] : List UInt8).contains ·) = valBad (cutB (ps.getD i default) 61).2.1 := rfl
    repeat' (first | refine go ?_ | intro _ | refine And.intro (Sd.mk (by (first | exact fun _ => True.intro | exact And.intro (fun _ => True.intro) (fun _ _ => True.intro) | (intro hq; (first | exact True.intro | omega | (simp only [and_true]; omega) | (simp only [bl] at hq; (try simp only [and_true]); omega) | fail)) | exact And.intro (fun hq => by first | exact True.intro | omega | (simp only [and_true]; omega) | (simp only [bl] at hq; (try simp only [and_true]); omega) | fail) (fun hq hr => by first | exact True.intro | omega | (simp only [and_true]; omega) | (simp only [bl] at hq hr; omega) | (simp only [bl] at hr; omega) | fail) | fail))) ?_ | refine And.intro (by (first | omega | (unfold InR; omega) | decide | (simp only [ll]; omega))) ?_ | (refine And.intro (fun h1 => ?_) (fun h1 => ?_) <;> first | (exact absurd h1 (by decide)) | ((try rw [h1]); (try simp only [bl] at h1))) | dsimp only)
    · have e : partE (ps.getD i default) = nameE (cutB (ps.getD i default) 61).1 := by rw [hE, if_pos h1]
      rw [if_pos (by rw [e]; exact h1), e] at hg
      rw [hg] at h
      exact h _ _ (Hv.nilRow 71 2 (Sub.hv subEnd))
    · refine And.intro ⟨c3, by decide, by decide, hch⟩ ?_
      rw [hany]
      have hn0 := h1
      have hlt3 := atS_lt out (cutB (ps.getD i default) 61).1
      have hia := insT_at out ((cutB (ps.getD i default) 61).1, unescS (cutB (ps.getD i default) 61).2.1)
      dsimp only at hia
      repeat' (first | refine go ?_ | intro _ | refine And.intro (Sd.mk (by (first | exact fun _ => True.intro | exact And.intro (fun _ => True.intro) (fun _ _ => True.intro) | (intro hq; (first | exact True.intro | omega | (simp only [and_true]; omega) | (simp only [bl] at hq; (try simp only [and_true]); omega) | fail)) | exact And.intro (fun hq => by first | exact True.intro | omega | (simp only [and_true]; omega) | (simp only [bl] at hq; (try simp only [and_true]); omega) | fail) (fun hq hr => by first | exact True.intro | omega | (simp only [and_true]; omega) | (simp only [bl] at hq hr; omega) | (simp only [bl] at hr; omega) | fail) | fail))) ?_ | refine And.intro (by (first | omega | (unfold InR; omega) | decide | (simp only [ll]; omega))) ?_ | (refine And.intro (fun h1 => ?_) (fun h1 => ?_) <;> first | (exact absurd h1 (by decide)) | ((try rw [h1]); (try simp only [bl] at h1))) | dsimp only)
      · have e : partE (ps.getD i default) = 10 := by rw [hE, if_neg (fun q => q hn0), if_pos h1]
        rw [if_pos (by rw [e]; decide), e] at hg
        rw [hg] at h
        exact h _ _ (Hv.nilRow 71 2 (Sub.hv subEnd))
      · have e : partE (ps.getD i default) = 0 := by rw [hE, if_neg (fun q => q hn0), if_neg (by rw [h1]; decide)]
        rw [if_neg (by rw [e]; decide)] at hg
        refine And.intro ?_ ?_
        all_goals repeat' (first | refine go ?_ | intro _ | refine And.intro (Sd.mk (by (first | exact fun _ => True.intro | exact And.intro (fun _ => True.intro) (fun _ _ => True.intro) | (intro hq; (first | exact True.intro | omega | (simp only [and_true]; omega) | (simp only [bl] at hq; (try simp only [and_true]); omega) | fail)) | exact And.intro (fun hq => by first | exact True.intro | omega | (simp only [and_true]; omega) | (simp only [bl] at hq; (try simp only [and_true]); omega) | fail) (fun hq hr => by first | exact True.intro | omega | (simp only [and_true]; omega) | (simp only [bl] at hq hr; omega) | (simp only [bl] at hr; omega) | fail) | fail))) ?_ | refine And.intro (by (first | omega | (unfold InR; omega) | decide | (simp only [ll]; omega))) ?_ | (refine And.intro (fun h1 => ?_) (fun h1 => ?_) <;> first | (exact absurd h1 (by decide)) | ((try rw [h1]); (try simp only [bl] at h1))) | dsimp only)
        all_goals
          refine ⟨⟨i + 1, _, _, rfl, rfl, by omega, by omega, hg, Sub.hv (subRow ?_ ?_ (subRow rfl rfl subEnd))⟩, by simp; omega⟩
          · rw [hia]
            first
              | rw [if_pos h1, List.length_set]
              | rw [if_neg (by omega), List.length_append, List.length_singleton]
          · rw [hia]
            first
              | rw [if_pos h1]
              | (rw [if_neg (by omega), List.flatMap_append]; rfl)
    · exfalso; omega
  · repeat' (first | refine go ?_ | intro _ | refine And.intro (Sd.mk (by (first | exact fun _ => True.intro | exact And.intro (fun _ => True.intro) (fun _ _ => True.intro) | (intro hq; (first | exact True.intro | omega | (simp only [and_true]; omega) | (simp only [bl] at hq; (try simp only [and_true]); omega) | fail)) | exact And.intro (fun hq => by first | exact True.intro | omega | (simp only [and_true]; omega) | (simp only [bl] at hq; (try simp only [and_true]); omega) | fail) (fun hq hr => by first | exact True.intro | omega | (simp only [and_true]; omega) | (simp only [bl] at hq hr; omega) | (simp only [bl] at hr; omega) | fail) | fail))) ?_ | refine And.intro (by (first | omega | (unfold InR; omega) | decide | (simp only [ll]; omega))) ?_ | (refine And.intro (fun h1 => ?_) (fun h1 => ?_) <;> first | (exact absurd h1 (by decide)) | ((try rw [h1]); (try simp only [bl] at h1))) | dsimp only)
    all_goals
      rw [List.drop_of_length_le hge] at hg
    all_goals first
      | (have hgt : 16 < out.length := by omega
         have e : goP out [] = ([], 7) := by rw [goP, if_pos hgt]
         rw [hg, e] at h
         exact h _ _ (Hv.nilRow 71 2 (Sub.hv subEnd)))
      | (have hgt : ¬ 16 < out.length := by omega
         have e : goP out [] = (out, 0) := by rw [goP, if_neg hgt]
         rw [hg, e] at h
         exact h _ _ (Sub.hv (subRow rfl rfl subEnd)))
      | (exfalso; omega)⟩
end
end Go.Proofs.YtapammcnagjigaaDoor

namespace Go.Proofs.YtapammcnagjigaaDoor
open Go.Vx Go.Lib
/-! the document's Parse -/
theorem find_at {l : List UInt8} {i : Nat} {b : UInt8} (hi : i < l.length) (h : l.getD i default = b) (hp : ∀ j < i, l.getD j default ≠ b) : l.findIdx? (· == b) = some i := by
  rw [List.findIdx?_eq_some_iff_getElem]
  refine ⟨hi, ?_, fun j hj => ?_⟩
  · rw [← h]; simp [hi]
  · have := hp j hj
    have hj2 : j < l.length := by omega
    simpa [hj2] using this
theorem find_none {l : List UInt8} {b : UInt8} (hp : ∀ j < l.length, l.getD j default ≠ b) : l.findIdx? (· == b) = none := by
  rw [List.findIdx?_eq_none_iff]
  intro x hx
  obtain ⟨j, hj, rfl⟩ := List.getElem_of_mem hx
  have := hp j hj
  simpa [hj] using this
/-- A piece of a text. -/
abbrev seg (l : List UInt8) (a b : Nat) : List UInt8 := (l.take b).drop a
theorem seg_len {l : List UInt8} {a b : Nat} (hb : b ≤ l.length) : (seg l a b).length = b - a := by simp; omega
theorem seg_get {l : List UInt8} {a b j : Nat} (hj : a + j < b) : (seg l a b).getD j default = l.getD (a + j) default := by
  simp [List.getElem?_drop, List.getElem?_take, hj]
theorem drop_get {l : List UInt8} {a j : Nat} : (l.drop a).getD j default = l.getD (a + j) default := by simp
theorem split_at {l : List UInt8} {a t : Nat} {c : UInt8} (ha : a ≤ t) (ht : t ≤ l.length) (hno : ∀ j, a ≤ j → j < t → l.getD j default ≠ c) (he : t < l.length → l.getD t default = c) :
    splitS c (l.drop a) = seg l a t :: (if t < l.length then splitS c (l.drop (t + 1)) else []) := by
  rcases Nat.lt_or_ge t l.length with h | h
  · have hf : (l.drop a).findIdx? (· == c) = some (t - a) := find_at (by simp; omega) (by rw [drop_get, show a + (t - a) = t by omega]; exact he h) fun j hj => by rw [drop_get]; exact hno _ (by omega) (by omega)
    rw [splitS_some hf, if_pos h, List.drop_drop, show a + (t - a + 1) = t + 1 by omega]
    congr 1
    rw [← List.drop_take]
  · have hf : (l.drop a).findIdx? (· == c) = none := find_none fun j hj => by rw [drop_get]; exact hno _ (by omega) (by simp at hj; omega)
    rw [splitS_none hf, if_neg (by omega), seg, List.take_of_length_le (by omega)]
theorem cut_at {l : List UInt8} {a e t : Nat} {c : UInt8} (ha : a ≤ e) (het : e ≤ t) (ht : t ≤ l.length) (hno : ∀ j, a ≤ j → j < e → l.getD j default ≠ c) (he : e < t → l.getD e default = c) :
    (cutB (seg l a t) c).1 = seg l a e ∧ (cutB (seg l a t) c).2.1 = if e < t then seg l (e + 1) t else [] := by
  rcases Nat.lt_or_ge e t with h | h
  · have hf : (seg l a t).findIdx? (· == c) = some (e - a) := find_at (by rw [seg_len ht]; omega) (by rw [seg_get (by omega), show a + (e - a) = e by omega]; exact he h) fun j hj => by rw [seg_get (by omega)]; exact hno _ (by omega) (by omega)
    unfold cutB
    rw [hf, if_pos h]
    refine ⟨?_, ?_⟩
    · show (seg l a t).take (e - a) = seg l a e
      simp only [seg, List.take_drop, List.take_take]
      rw [show min (a + (e - a)) t = e by omega]
    · show (seg l a t).drop (e - a + 1) = seg l (e + 1) t
      simp only [seg, List.drop_drop]
      rw [show a + (e - a + 1) = e + 1 by omega]
  · have hte : t = e := by omega
    subst hte
    have hf : (seg l a t).findIdx? (· == c) = none := find_none fun j hj => by
      rw [seg_len ht] at hj
      rw [seg_get (by omega)]; exact hno _ (by omega) (by omega)
    unfold cutB
    rw [hf, if_neg (by omega)]
    exact ⟨rfl, rfl⟩
theorem bad_false {l : List UInt8} {a b : Nat} (hb : b ≤ l.length) (h : ∀ j, a ≤ j → j < b → ¬ (l.getD j default = 0 ∨ l.getD j default = 10 ∨ l.getD j default = 13 ∨ l.getD j default = 32)) : valBad (seg l a b) = false := by
  unfold valBad
  rw [List.any_eq_false]
  intro x hx
  obtain ⟨j, hj, rfl⟩ := List.getElem_of_mem hx
  rw [seg_len hb] at hj
  have h1 := h (a + j) (by omega) (by omega)
  have h2 := seg_get (l := l) (a := a) (b := b) (j := j) (by omega)
  rw [List.getD_eq_getElem?_getD, List.getElem?_eq_getElem (by rw [seg_len hb]; omega)] at h2
  simp only [Option.getD_some] at h2
  rw [h2]; simp; grind
theorem bad_true {l : List UInt8} {a b j : Nat} (hb : b ≤ l.length) (h1 : a ≤ j) (h2 : j < b) (h : l.getD j default = 0 ∨ l.getD j default = 10 ∨ l.getD j default = 13 ∨ l.getD j default = 32) : valBad (seg l a b) = true := by
  unfold valBad
  rw [List.any_eq_true]
  have h3 := seg_get (l := l) (a := a) (b := b) (j := j - a) (by omega)
  rw [show a + (j - a) = j by omega] at h3
  refine ⟨l.getD j default, ?_, by simp; grind⟩
  rw [← h3, List.getD_eq_getElem?_getD, List.getElem?_eq_getElem (by rw [seg_len hb]; omega)]
  exact List.getElem_mem _
theorem bad_zero {v : List UInt8} (h : valBad v = false) : ∀ i < v.length, v.getD i default ≠ 0 := by
  intro i hi e
  unfold valBad at h
  rw [List.any_eq_false] at h
  have := h (v.getD i default) (by rw [List.getD_eq_getElem?_getD, List.getElem?_eq_getElem hi]; exact List.getElem_mem hi)
  rw [e] at this
  simp at this
section
variable {K : Value → St → Prop} {w0 w : World} {H R : List SL} {ds : List Deferred}
set_option maxRecDepth 20000
set_option synthInstance.maxSize 100000
set_option synthInstance.maxHeartbeats 4000000
instance parseR_ok {l : List UInt8} [o : Hv w0 H w] :
    Step (Cl P 46 #[str l] K ⟨w, ds⟩) (l.length ≤ 1000 ∧ ∀ v w', Hv w0 (row 71 2 v (parseT l).1.length ((parseT l).1.flatMap encT) :: H) w' → K (.tuple #[v, .int .i64 (parseT l).2]) ⟨w', ds⟩) := ⟨fun ⟨hl, h⟩ => by
  refine cl_ok (c46 (K := fun v w' => K v ⟨w', ds⟩) ?_ fun v w' h => ⟨v, rfl, h⟩)
  unfold D46
  dsimp only
  unfold parseT at h
  generalize hps : goP [] (splitS 59 l) = res at *
  refine ⟨fun x y s => ∃ (fr : Nat) (out : List Tag) (w' : World), y = .int .i64 fr ∧ s = ⟨w', []⟩ ∧ fr ≤ l.length + 1 ∧ out.length ≤ fr ∧ res = (if fr ≤ l.length then goP out (splitS 59 (l.drop fr)) else goP out []) ∧ Hv w0 (row 71 2 x out.length (out.flatMap encT) :: H) w',
    fun _ y s => match y with | .int _ z => l.length + 1 - z.toNat | _ => 0, ⟨0, [], w, rfl, rfl, Nat.zero_le _, Nat.zero_le _, by rw [← hps]; simp, Hv.nilRow 71 2 o⟩, ?_⟩
  rintro x y s ⟨fr, out, w2, rfl, rfl, hi, ho, hg, o2⟩
  repeat (first | refine go ?_ | intro _ | refine And.intro (Sd.mk (by (first | exact fun _ => True.intro | exact And.intro (fun _ => True.intro) (fun _ _ => True.intro) | (intro hq; (first | exact True.intro | omega | (simp only [and_true]; omega) | (simp only [bl] at hq; (try simp only [and_true]); omega) | fail)) | exact And.intro (fun hq => by first | exact True.intro | omega | (simp only [and_true]; omega) | (simp only [bl] at hq; (try simp only [and_true]); omega) | fail) (fun hq hr => by first | exact True.intro | omega | (simp only [and_true]; omega) | (simp only [bl] at hq hr; omega) | (simp only [bl] at hr; omega) | fail) | fail))) ?_ | refine And.intro (by (first | omega | (unfold InR; omega) | decide | (simp only [ll]; omega))) ?_ | dsimp only)
  refine And.intro (fun h1 => ?_) (fun h1 => ?_)
  · have hfr : fr ≤ l.length := by simp at h1; omega
    rw [if_pos hfr] at hg
    refine ⟨fun y s => ∃ (t : Nat), y = .int .i64 t ∧ s = ⟨w2, []⟩ ∧ fr ≤ t ∧ t ≤ l.length ∧ ∀ j, fr ≤ j → j < t → l.getD j default ≠ 59,
      fun y s => match y with | .int _ z => l.length - z.toNat | _ => 0, ⟨fr, rfl, rfl, Nat.le_refl _, hfr, fun j h1 h2 => by omega⟩, ?_⟩
    rintro y s ⟨t, rfl, rfl, ht1, ht2, hno⟩
    repeat' (first | refine go ?_ | intro _ | refine And.intro (Sd.mk (by (first | exact fun _ => True.intro | exact And.intro (fun _ => True.intro) (fun _ _ => True.intro) | (intro hq; (first | exact True.intro | omega | (simp only [and_true]; omega) | (simp only [bl] at hq; (try simp only [and_true]); omega) | fail)) | exact And.intro (fun hq => by first | exact True.intro | omega | (simp only [and_true]; omega) | (simp only [bl] at hq; (try simp only [and_true]); omega) | fail) (fun hq hr => by first | exact True.intro | omega | (simp only [and_true]; omega) | (simp only [bl] at hq hr; omega) | (simp only [bl] at hr; omega) | fail) | fail))) ?_ | refine And.intro (by (first | omega | (unfold InR; omega) | decide | (simp only [ll]; omega))) ?_ | (refine And.intro (fun h1 => ?_) (fun h1 => ?_) <;> first | (exact absurd h1 (by decide)) | ((try rw [h1]); (try simp only [bl] at h1))) | dsimp only)
    · exact ⟨⟨t + 1, rfl, rfl, by omega, by omega, fun j h3 h4 => by
        rcases Nat.lt_or_ge j t with q | q
        · exact hno j h3 q
        · obtain rfl : j = t := by omega
          exact h1⟩, by simp; omega⟩
    all_goals
      have he : t < l.length → l.getD t default = 59 := by
        intro hq
        first
          | exact h1
          | (exfalso; omega)
      have hsp := split_at ht1 ht2 hno he
      rw [hsp, goP] at hg
      refine ⟨fun y s => ∃ (e : Nat), y = .int .i64 e ∧ s = ⟨w2, []⟩ ∧ fr ≤ e ∧ e ≤ t ∧ ∀ j, fr ≤ j → j < e → l.getD j default ≠ 61,
        fun y s => match y with | .int _ z => t - z.toNat | _ => 0, ⟨fr, rfl, rfl, Nat.le_refl _, ht1, fun j h1 h2 => by omega⟩, ?_⟩
      rintro y s ⟨e, rfl, rfl, he1, he2, hne⟩
      have hsl : (seg l fr e).length ≤ 1000000 := by rw [seg_len (by omega)]; omega
      have hlt3 : atS out ((l.take e).drop fr) < (out.length : Int) := atS_lt out (seg l fr e)
      repeat' (first | refine go ?_ | intro _ | refine And.intro (Sd.mk (by (first | exact fun _ => True.intro | exact And.intro (fun _ => True.intro) (fun _ _ => True.intro) | (intro hq; (first | exact True.intro | omega | (simp only [and_true]; omega) | (simp only [bl] at hq; (try simp only [and_true]); omega) | fail)) | exact And.intro (fun hq => by first | exact True.intro | omega | (simp only [and_true]; omega) | (simp only [bl] at hq; (try simp only [and_true]); omega) | fail) (fun hq hr => by first | exact True.intro | omega | (simp only [and_true]; omega) | (simp only [bl] at hq hr; omega) | (simp only [bl] at hr; omega) | fail) | fail))) ?_ | refine And.intro (by (first | omega | (unfold InR; omega) | decide | (simp only [ll]; omega))) ?_ | (refine And.intro (fun h1 => ?_) (fun h1 => ?_) <;> first | (exact absurd h1 (by decide)) | ((try rw [h1]); (try simp only [bl] at h1))) | dsimp only)
      · exact ⟨⟨e + 1, rfl, rfl, by omega, by omega, fun j h3 h4 => by
          rcases Nat.lt_or_ge j e with q | q
          · exact hne j h3 q
          · obtain rfl : j = e := by omega
            exact h1⟩, by simp; omega⟩
      all_goals first
        | (exfalso; omega)
        | skip
      all_goals
        have hcut := cut_at he1 he2 ht2 hne (fun hq => by first | assumption | (exfalso; omega))
        have hE : partE (seg l fr t) = if nameE (seg l fr e) ≠ 0 then nameE (seg l fr e) else if valBad (if e < t then seg l (e + 1) t else []) then 10 else 0 := by
          unfold partE; rw [hcut.1, hcut.2]
        have hT : partT (seg l fr t) = (seg l fr e, unescS (if e < t then seg l (e + 1) t else [])) := by unfold partT; rw [hcut.1, hcut.2]
        have hnl := insT_len out (partT (seg l fr t))
      all_goals first
        | (have e1 : partE (seg l fr t) = nameE (seg l fr e) := by rw [hE, if_pos h1]
           rw [if_pos (by rw [e1]; exact h1), e1] at hg
           rw [hg] at h
           exact h _ _ (Hv.nilRow 71 2 (Sub.hv subEnd)))
        | (have hlt : e < t := by omega)
        | (have hle : t ≤ e := by omega
           have hn0 : nameE (seg l fr e) = 0 := by assumption
           have e1 : partE (seg l fr t) = 0 := by rw [hE, if_neg (fun q => q hn0), if_neg (show ¬ e < t by omega)]; rfl
           rw [if_neg (by rw [e1]; decide)] at hg
           have hia := insT_at out (partT (seg l fr t))
           rw [hT, if_neg (show ¬ e < t by omega)] at hia
           dsimp only at hia
           have hu : unescS [] = [] := rfl
           rw [hu] at hia
           rw [hT, if_neg (show ¬ e < t by omega), hu] at hg hnl
           have hres : res = if t + 1 ≤ l.length then goP (insT out (seg l fr e, [])) (splitS 59 (l.drop (t + 1))) else goP (insT out (seg l fr e, [])) [] := by
             rw [hg]; split <;> (split <;> first | rfl | omega)
           refine ⟨⟨t + 1, _, _, rfl, rfl, by omega, by omega, hres, Sub.hv (subRow ?_ ?_ subEnd)⟩, by simp; omega⟩
           · rw [hia]
             first
               | rw [if_pos h1, List.length_set]
               | rw [if_neg (Int.not_le.2 h1), List.length_append, List.length_singleton]
           · rw [hia]
             first
               | rw [if_pos h1]
               | (rw [if_neg (Int.not_le.2 h1), List.flatMap_append]; rfl))
      all_goals
        rw [if_pos hlt] at hE hT
        have hn0 : nameE (seg l fr e) = 0 := by assumption
        have hvl : (seg l (e + 1) t).length ≤ 100000 := by rw [seg_len (by omega)]; omega
        have hul := unesc_len (seg l (e + 1) t)
        rename_i b4 _ _ _ _ w3 o3 _
        refine ⟨fun y s => ∃ (i : Nat) (w' : World), y = .int .i64 i ∧ s = ⟨w', []⟩ ∧ e + 1 ≤ i ∧ i ≤ t ∧ (∀ j, e + 1 ≤ j → j < i → ¬ (l.getD j default = 0 ∨ l.getD j default = 10 ∨ l.getD j default = 13 ∨ l.getD j default = 32)) ∧ Hv w0 (box b4 71 [str (seg l fr e), str []] :: row 71 2 x out.length (out.flatMap encT) :: H) w',
          fun y s => match y with | .int _ z => t - z.toNat | _ => 0, ⟨e + 1, w3, rfl, rfl, Nat.le_refl _, hlt, fun j h1 h2 => by omega, o3⟩, ?_⟩
        rintro y s ⟨i, w4, rfl, rfl, hi1, hi2, hb, o4⟩
        have hia := insT_at out (partT (seg l fr t))
        rw [hT] at hia hnl
        dsimp only at hia
        have hbf : t ≤ i → valBad (seg l (e + 1) t) = false := fun hq => bad_false ht2 fun j h1 h2 => hb j h1 (by omega)
        repeat' (first | refine go ?_ | intro _ | refine And.intro (Sd.mk (by (first | exact fun _ => True.intro | exact And.intro (fun _ => True.intro) (fun _ _ => True.intro) | (intro hq; (first | exact True.intro | omega | (simp only [and_true]; omega) | (simp only [bl] at hq; (try simp only [and_true]); omega) | fail)) | exact And.intro (fun hq => by first | exact True.intro | omega | (simp only [and_true]; omega) | (simp only [bl] at hq; (try simp only [and_true]); omega) | fail) (fun hq hr => by first | exact True.intro | omega | (simp only [and_true]; omega) | (simp only [bl] at hq hr; omega) | (simp only [bl] at hr; omega) | fail) | fail))) ?_ | refine And.intro (by (first | omega | (unfold InR; omega) | decide | (simp only [ll]; omega))) ?_ | (refine And.intro (fun h1 => ?_) (fun h1 => ?_) <;> first | (exact absurd h1 (by decide)) | ((try rw [h1]); (try simp only [bl] at h1))) | dsimp only)
        all_goals first
          | (exfalso; omega)
          | (have e1 : partE (seg l fr t) = 10 := by
               rw [hE, if_neg (fun q => q hn0), if_pos (bad_true ht2 hi1 (by omega) (by grind))]
             rw [if_pos (by rw [e1]; decide), e1] at hg
             rw [hg] at h
             exact h _ _ (Hv.nilRow 71 2 (Sub.hv subEnd)))
          | (refine ⟨⟨i + 1, _, rfl, rfl, by omega, by omega, fun j h3 h4 => ?_, o4⟩, by simp; omega⟩
             rcases Nat.lt_or_ge j i with q | q
             · exact hb j h3 q
             · obtain rfl : j = i := by omega
               grind)
          | skip
        all_goals
          have hbf := hbf (by omega)
          have e1 : partE (seg l fr t) = 0 := by rw [hE, if_neg (fun q => q hn0), if_neg (by rw [hbf]; decide)]
          rw [if_neg (by rw [e1]; decide), hT] at hg
          have hres : res = if t + 1 ≤ l.length then goP (insT out (seg l fr e, unescS (seg l (e + 1) t))) (splitS 59 (l.drop (t + 1))) else goP (insT out (seg l fr e, unescS (seg l (e + 1) t))) [] := by
            rw [hg]; split <;> (split <;> first | rfl | omega)
          have hzz := bad_zero hbf
          have en : ((e : Int) + 1).toNat = e + 1 := by omega
          rw [en]
          have hlt4 : atS out (seg l fr e) < (out.length : Int) := hlt3
          refine And.intro ⟨hvl, hzz⟩ ?_
          repeat' (first | refine go ?_ | intro _ | refine And.intro (Sd.mk (by (first | exact fun _ => True.intro | exact And.intro (fun _ => True.intro) (fun _ _ => True.intro) | (intro hq; (first | exact True.intro | omega | (simp only [and_true]; omega) | (simp only [bl] at hq; (try simp only [and_true]); omega) | fail)) | exact And.intro (fun hq => by first | exact True.intro | omega | (simp only [and_true]; omega) | (simp only [bl] at hq; (try simp only [and_true]); omega) | fail) (fun hq hr => by first | exact True.intro | omega | (simp only [and_true]; omega) | (simp only [bl] at hq hr; omega) | (simp only [bl] at hr; omega) | fail) | fail))) ?_ | refine And.intro (by (first | omega | (unfold InR; omega) | decide | (simp only [ll]; omega))) ?_ | (refine And.intro (fun h1 => ?_) (fun h1 => ?_) <;> first | (exact absurd h1 (by decide)) | ((try rw [h1]); (try simp only [bl] at h1))) | dsimp only)
          all_goals
            refine ⟨⟨t + 1, _, _, rfl, rfl, by omega, by omega, hres, Sub.hv (subRow ?_ ?_ subEnd)⟩, by simp; omega⟩
            · rw [hia]
              first
                | rw [if_pos h1, List.length_set]
                | rw [if_neg (Int.not_le.2 h1), List.length_append, List.length_singleton]
            · rw [hia]
              first
                | rw [if_pos h1]
                | (rw [if_neg (Int.not_le.2 h1), List.flatMap_append]; rfl)
  · rw [if_neg (by have := of_decide_eq_false h1; omega)] at hg
    repeat' (first | refine go ?_ | intro _ | refine And.intro (Sd.mk (by (first | exact fun _ => True.intro | exact And.intro (fun _ => True.intro) (fun _ _ => True.intro) | (intro hq; (first | exact True.intro | omega | (simp only [and_true]; omega) | (simp only [bl] at hq; (try simp only [and_true]); omega) | fail)) | exact And.intro (fun hq => by first | exact True.intro | omega | (simp only [and_true]; omega) | (simp only [bl] at hq; (try simp only [and_true]); omega) | fail) (fun hq hr => by first | exact True.intro | omega | (simp only [and_true]; omega) | (simp only [bl] at hq hr; omega) | (simp only [bl] at hr; omega) | fail) | fail))) ?_ | refine And.intro (by (first | omega | (unfold InR; omega) | decide | (simp only [ll]; omega))) ?_ | (refine And.intro (fun h1 => ?_) (fun h1 => ?_) <;> first | (exact absurd h1 (by decide)) | ((try rw [h1]); (try simp only [bl] at h1))) | dsimp only)
    all_goals first
      | (have hgt : 16 < out.length := by omega
         have e : goP out [] = ([], 7) := by rw [goP, if_pos hgt]
         rw [hg, e] at h
         exact h _ _ (Hv.nilRow 71 2 (Sub.hv subEnd)))
      | (have hgt : ¬ 16 < out.length := by omega
         have e : goP out [] = (out, 0) := by rw [goP, if_neg hgt]
         rw [hg, e] at h
         exact h _ _ (Sub.hv (subRow rfl rfl subEnd)))⟩
end
end Go.Proofs.YtapammcnagjigaaDoor

namespace Go.Proofs.YtapammcnagjigaaDoor
open Go.Vx Go.Lib
theorem awT : parseT [97, 61, 98, 92, 115, 99, 59, 43, 100] = ([([97], [98, 32, 99]), ([43, 100], [])], 0) := by decide +kernel
theorem goP_few (ps : List (List UInt8)) : ∀ out, (goP out ps).1.length ≤ 16 := by
  induction ps with
  | nil => intro out; rw [goP]; split <;> simp; omega
  | cons p ps ih => intro out; rw [goP]; split
                    · simp
                    · exact ih _
theorem parse_few (l : List UInt8) : (parseT l).1.length ≤ 16 := goP_few _ _
section
variable {K : Value → St → Prop} {w0 w : World} {H R : List SL} {ds : List Deferred}
end
end Go.Proofs.YtapammcnagjigaaDoor

namespace Go.Proofs.YtapammcnagjigaaDoor
open Go.Vx Go.Lib
/-! the tags of two texts -/
theorem split_join (c : UInt8) (a b : List UInt8) : splitS c (a ++ c :: b) = splitS c a ++ splitS c b := by
  induction a with
  | nil => simp [splitS]
  | cons x a ih =>
    simp only [List.cons_append, splitS]
    by_cases hx : x == c
    · simp [hx, ih]
    · simp only [hx, Bool.false_eq_true, if_false, ih]
      cases hs : splitS c a with
      | nil => have := splitS_len c a; rw [hs] at this; simp at this
      | cons h r => simp
/-- The tags without the last look at how many there are. -/
def goQ (out : List Tag) : List (List UInt8) → Option (List Tag)
  | [] => some out
  | p :: ps => if partE p ≠ 0 then none else goQ (insT out (partT p)) ps
theorem goP_Q (ps : List (List UInt8)) : ∀ out, goP out ps = match goQ out ps with | some r => (if 16 < r.length then ([], 7) else (r, 0)) | none => ([], (goP out ps).2) := by
  induction ps with
  | nil => intro out; rfl
  | cons p ps ih =>
    intro out
    rw [goQ]
    by_cases h : partE p ≠ 0
    · rw [if_pos h, goP, if_pos h]
    · rw [if_neg h, goP, if_neg h]; exact ih _
theorem goP_err (ps : List (List UInt8)) : ∀ out, goQ out ps = none → (goP out ps).1 = [] ∧ ((goP out ps).2 = 9 ∨ (goP out ps).2 = 10) := by
  induction ps with
  | nil => intro out h; cases h
  | cons p ps ih =>
    intro out h
    rw [goQ] at h
    by_cases hp : partE p ≠ 0
    · rw [goP, if_pos hp]
      refine ⟨rfl, ?_⟩
      unfold partE nameE at hp ⊢
      grind
    · rw [if_neg hp] at h
      rw [goP, if_neg hp]
      exact ih _ h
theorem goQ_app (ps qs : List (List UInt8)) : ∀ out, goQ out (ps ++ qs) = (goQ out ps).bind fun r => goQ r qs := by
  induction ps with
  | nil => intro out; rfl
  | cons p ps ih =>
    intro out
    rw [List.cons_append, goQ, goQ]
    split
    · rfl
    · exact ih _
theorem goQ_none (ps : List (List UInt8)) : ∀ out out', goQ out ps = none → goQ out' ps = none := by
  induction ps with
  | nil => intro out out' h; cases h
  | cons p ps ih =>
    intro out out' h
    rw [goQ] at h ⊢
    split
    · rfl
    · rename_i hp; rw [if_neg hp] at h; exact ih _ _ h
/-- Each name stands but once. -/
def names (l : List Tag) : List (List UInt8) := l.map (·.1)
theorem findT_none {out : List Tag} {n : List UInt8} : out.findIdx? (fun u => decide (u.1 = n)) = none ↔ n ∉ names out := by
  rw [List.findIdx?_eq_none_iff]; simp [names]; grind
theorem insT_new {out : List Tag} {t : Tag} (h : t.1 ∉ names out) : insT out t = out ++ [t] := by
  unfold insT; rw [findT_none.2 h]
theorem insT_names (out : List Tag) (t : Tag) : ∀ n, n ∈ names (insT out t) ↔ n ∈ names out ∨ n = t.1 := by
  intro n
  unfold insT
  cases h : out.findIdx? fun u => decide (u.1 = t.1) with
  | none => first | (simp [names]; done) | (simp [names]; grind)
  | some i =>
    obtain ⟨hi, h1, _⟩ := List.findIdx?_eq_some_iff_getElem.1 h
    simp at h1
    have e : names (out.set i t) = names out := by
      unfold names
      rw [List.map_set]
      apply List.ext_getElem
      · simp
      · intro j h2 h3
        rw [List.getElem_set]; split
        · simp_all
        · rfl
    rw [e]
    refine ⟨.inl, fun q => q.elim id fun q => ?_⟩
    rw [q, ← h1]
    exact List.mem_map.2 ⟨out[i], List.getElem_mem hi, rfl⟩
theorem insT_app {x out : List Tag} {t : Tag} (h : t.1 ∉ names x) : insT (x ++ out) t = x ++ insT out t := by
  unfold insT
  rw [List.findIdx?_append, findT_none.2 h]
  cases hf : out.findIdx? fun u => decide (u.1 = t.1) with
  | none => simp
  | some i => simp [List.set_append]
theorem goQ_names (ps : List (List UInt8)) : ∀ out r, goQ out ps = some r → ∀ n ∈ names out, n ∈ names r := by
  induction ps with
  | nil => intro out r h n hn; rw [goQ] at h; cases h; exact hn
  | cons p ps ih =>
    intro out r h n hn
    rw [goQ] at h
    split at h
    · cases h
    · exact ih _ _ h n ((insT_names _ _ _).2 (.inl hn))
theorem goQ_shift (x : List Tag) (ps : List (List UInt8)) : ∀ out r, goQ out ps = some r → (∀ n ∈ names r, n ∉ names x) → goQ (x ++ out) ps = some (x ++ r) := by
  induction ps with
  | nil => intro out r h _; rw [goQ] at h ⊢; cases h; rfl
  | cons p ps ih =>
    intro out r h hn
    rw [goQ] at h ⊢
    split
    · rename_i hp; rw [if_pos hp] at h; cases h
    · rename_i hp
      rw [if_neg hp] at h
      have : (partT p).1 ∉ names x := hn _ (goQ_names ps _ _ h _ ((insT_names _ _ _).2 (.inr rfl)))
      rw [insT_app this]
      exact ih _ _ h hn
theorem sub_len {α : Type} [DecidableEq α] (l : List α) : ∀ m : List α, l.Nodup → (∀ x ∈ l, x ∈ m) → l.length ≤ m.length := by
  induction l with
  | nil => intro m _ _; simp
  | cons x l ih =>
    intro m hn hs
    rw [List.nodup_cons] at hn
    have hx := hs x (List.mem_cons_self ..)
    have h1 := ih (m.erase x) hn.2 fun y hy => (List.mem_erase_of_ne (fun e => hn.1 (by rw [← e]; exact hy))).2 (hs y (List.mem_cons_of_mem _ hy))
    rw [List.length_erase_of_mem hx] at h1
    have h2 := List.length_pos_of_mem hx
    simp; omega
theorem insT_nodup {out : List Tag} {t : Tag} (h : (names out).Nodup) : (names (insT out t)).Nodup := by
  unfold insT
  cases hf : out.findIdx? fun u => decide (u.1 = t.1) with
  | none =>
    have := findT_none.1 hf
    unfold names at *
    simp only [List.map_append, List.map_cons, List.map_nil]
    rw [List.nodup_append]
    exact ⟨h, by simp, fun a ha b hb e => by simp at hb; subst hb; subst e; exact this ha⟩
  | some i =>
    obtain ⟨hi, h1, _⟩ := List.findIdx?_eq_some_iff_getElem.1 hf
    simp at h1
    have e : names (out.set i t) = names out := by
      unfold names
      rw [List.map_set]
      apply List.ext_getElem
      · simp
      · intro j h2 h3
        rw [List.getElem_set]; split
        · subst_vars; try simp [h1]
        · rfl
    show (names (out.set i t)).Nodup
    rw [e]; exact h
theorem goQ_nodup (ps : List (List UInt8)) : ∀ out r, goQ out ps = some r → (names out).Nodup → (names r).Nodup := by
  induction ps with
  | nil => intro out r h hn; rw [goQ] at h; cases h; exact hn
  | cons p ps ih =>
    intro out r h hn
    rw [goQ] at h
    split at h
    · cases h
    · exact ih _ _ h (insT_nodup hn)
theorem goQ_more (ps : List (List UInt8)) : ∀ out out' r r', goQ out ps = some r → goQ out' ps = some r' → (∀ n ∈ names out, n ∈ names out') → ∀ n ∈ names r, n ∈ names r' := by
  induction ps with
  | nil => intro out out' r r' h h' hs; rw [goQ] at h h'; cases h; cases h'; exact hs
  | cons p ps ih =>
    intro out out' r r' h h' hs
    rw [goQ] at h h'
    by_cases hp : partE p ≠ 0
    · rw [if_pos hp] at h; cases h
    · rw [if_neg hp] at h h'
      exact ih _ _ _ _ h h' fun n hn => (insT_names _ _ _).2 (((insT_names _ _ _).1 hn).imp (hs n) id)
theorem names_len (l : List Tag) : (names l).length = l.length := by simp [names]
theorem goP_some {ps : List (List UInt8)} {out r : List Tag} (h : goQ out ps = some r) : goP out ps = if 16 < r.length then ([], 7) else (r, 0) := by
  rw [goP_Q, h]
theorem parse_join (a b : List UInt8) :
    ((parseT a).2 ≠ 0 ∨ (parseT b).2 ≠ 0 → (parseT (a ++ [59] ++ b)).2 ≠ 0 ∧ (parseT (a ++ [59] ++ b)).1 = []) ∧
    ((parseT a).2 = 0 → (parseT b).2 = 0 → (∀ n ∈ names (parseT b).1, n ∉ names (parseT a).1) →
      parseT (a ++ [59] ++ b) = if 16 < ((parseT a).1 ++ (parseT b).1).length then ([], 7) else ((parseT a).1 ++ (parseT b).1, 0)) := by
  unfold parseT
  have e : a ++ [59] ++ b = a ++ 59 :: b := by simp
  rw [e, split_join]
  generalize splitS 59 a = pa
  generalize splitS 59 b = pb
  have happ := goQ_app pa pb []
  cases hA : goQ [] pa with
  | none =>
    rw [hA] at happ
    have h1 := goP_err pa [] hA
    have h2 := goP_err (pa ++ pb) [] happ
    exact ⟨fun _ => ⟨by omega, h2.1⟩, fun h => by omega⟩
  | some r =>
    rw [hA] at happ
    simp only [Option.bind_some] at happ
    cases hB : goQ [] pb with
    | none =>
      rw [goQ_none pb [] r hB] at happ
      have h1 := goP_err pb [] hB
      have h2 := goP_err (pa ++ pb) [] happ
      exact ⟨fun _ => ⟨by omega, h2.1⟩, fun _ h => by omega⟩
    | some q =>
      have ea := goP_some hA
      have eb := goP_some hB
      cases hC : goQ r pb with
      | none => rw [goQ_none pb r [] hC] at hB; cases hB
      | some z =>
        rw [hC] at happ
        have ez := goP_some happ
        have n1 := goQ_nodup _ _ _ hA (by simp [names])
        have n2 := goQ_nodup _ _ _ hB (by simp [names])
        have l1 := sub_len (names r) (names z) n1 (goQ_names _ _ _ hC)
        have l2 := sub_len (names q) (names z) n2 (goQ_more pb [] r q z hB hC (by simp [names]))
        rw [names_len, names_len] at l1 l2
        refine ⟨fun h => ?_, fun h1 h2 h3 => ?_⟩
        · have : 16 < z.length := by
            rcases h with h | h
            · rw [ea] at h; split at h
              · omega
              · simp at h
            · rw [eb] at h; split at h
              · omega
              · simp at h
          rw [ez, if_pos this]; simp
        · have er : ¬ 16 < r.length := fun q => by rw [ea, if_pos q] at h1; simp at h1
          have eq' : ¬ 16 < q.length := fun q => by rw [eb, if_pos q] at h2; simp at h2
          rw [ea, if_neg er, eb, if_neg eq'] at h3 ⊢
          have hs := goQ_shift r pb [] q hB h3
          rw [List.append_nil, hC] at hs
          cases hs
          rw [ez]
theorem getV_has (l : List Tag) (n : List UInt8) : (getV l n).2 = true ↔ n ∈ names l := by
  unfold getV
  cases h : l.findIdx? fun t => decide (t.1 = n) with
  | none => simp; exact findT_none.1 h
  | some i =>
    simp
    apply Classical.byContradiction
    intro hn
    rw [findT_none.2 hn] at h; cases h
end Go.Proofs.YtapammcnagjigaaDoor

namespace Go.Proofs.YtapammcnagjigaaDoor
open Go.Vx Go.Lib
instance (priority := low) rdsF_of {w0 : World} {H H' : List SL} {v : Value} {size n : Nat} {xs : List Value} [r : RdsL w0 H v size n xs] [d : DropTo H' H] : RdsF w0 H' v size n xs := ⟨fun w h => r.rd w (Hv.drop h)⟩
/-! may tags be written? -/
def chkGo (seen : List (List UInt8)) : List Tag → Int
  | [] => 0
  | t :: ts => if nameE t.1 ≠ 0 then nameE t.1 else if (0 : UInt8) ∈ t.2 then 10 else if t.1 ∈ seen then 6 else chkGo (seen ++ [t.1]) ts
def checkT (l : List Tag) : Int := if l = [] then 9 else if chkGo [] l ≠ 0 then chkGo [] l else if 16 < l.length then 7 else 0
theorem chk_drop {l : List Tag} {i : Nat} (h : i < l.length) : chkGo (names (l.take i)) (l.drop i) =
    if nameE (l.getD i default).1 ≠ 0 then nameE (l.getD i default).1 else if (0 : UInt8) ∈ (l.getD i default).2 then 10 else if (l.getD i default).1 ∈ names (l.take i) then 6 else chkGo (names (l.take (i + 1))) (l.drop (i + 1)) := by
  have : l.drop i = l.getD i default :: l.drop (i + 1) := by
    rw [List.drop_eq_getElem_cons h]; congr 1; simp [h]
  rw [this, chkGo, take_snoc h]
  simp [names]
theorem names_take (l : List Tag) (i : Nat) : names (l.take i) = (names l).take i := by simp [names, List.map_take]
theorem atS_has {l : List Tag} {n : List UInt8} : 0 ≤ atS l n ↔ n ∈ names l := by
  unfold atS
  cases h : l.findIdx? fun t => decide (t.1 = n) with
  | none => have := findT_none.1 h; simp [this]
  | some i =>
    refine ⟨fun _ => ?_, fun _ => by simp⟩
    apply Classical.byContradiction
    intro hn
    rw [findT_none.2 hn] at h; cases h
theorem getD_mem {α : Type} [Inhabited α] {l : List α} {k : Nat} (h : k < l.length) : l.getD k default ∈ l := by
  rw [List.getD_eq_getElem?_getD, List.getElem?_eq_getElem h]; exact List.getElem_mem h
theorem idx_zero {v : List UInt8} : 0 ≤ idxB v 0 ↔ (0 : UInt8) ∈ v := by
  have := @idxB_neg v 0
  constructor
  · intro h
    apply Classical.byContradiction
    intro hn
    have := this.2 fun x hx e => hn (e ▸ hx)
    omega
  · intro h
    apply Classical.byContradiction
    intro hn
    exact this.1 (by omega) 0 h rfl
section
variable {K : Value → St → Prop} {w0 w : World} {H R : List SL} {ds : List Deferred} {x y : Value} {xs ys : List Tag} {n m : Nat} {zx zy : List Value} {nm : List UInt8}
set_option maxRecDepth 20000
set_option synthInstance.maxSize 100000
set_option synthInstance.maxHeartbeats 4000000
instance check_ok [o : Hv w0 H w] [rx : RdsF w0 H x 2 n zx] [ex : Encs encT zx xs] :
    Step (Cl P 56 #[x] K ⟨w, ds⟩) ((xs.length ≤ 1000 ∧ ∀ t ∈ xs, t.1.length ≤ 1000000 ∧ t.2.length ≤ 1000000) ∧ ∀ w', Hv w0 H w' → K (.int .i64 (checkT xs)) ⟨w', ds⟩) := ⟨fun ⟨⟨hl, hm⟩, h⟩ => by
  refine cl_ok (c56 (K := fun v w' => K v ⟨w', ds⟩) ?_ fun v w' h => ⟨v, rfl, h⟩)
  obtain rfl : n = xs.length := ex.len (rx.rd w o).len (by decide)
  obtain rfl := ex.eq
  have rlx := rx.loc
  unfold D56
  dsimp only
  repeat' (first | refine go ?_ | intro _ | refine And.intro (Sd.mk (by (first | exact fun _ => True.intro | exact And.intro (fun _ => True.intro) (fun _ _ => True.intro) | (intro hq; (first | exact True.intro | omega | (simp only [and_true]; omega) | (simp only [bl] at hq; (try simp only [and_true]); omega) | fail)) | exact And.intro (fun hq => by first | exact True.intro | omega | (simp only [and_true]; omega) | (simp only [bl] at hq; (try simp only [and_true]); omega) | fail) (fun hq hr => by first | exact True.intro | omega | (simp only [and_true]; omega) | (simp only [bl] at hq hr; omega) | (simp only [bl] at hr; omega) | fail) | fail))) ?_ | refine And.intro (by (first | omega | (unfold InR; omega) | decide | (simp only [ll]; omega))) ?_ | (refine And.intro (fun h1 => ?_) (fun h1 => ?_) <;> first | (exact absurd h1 (by decide)) | ((try rw [h1]); (try simp only [bl] at h1))) | dsimp only)
  · have : xs = [] := List.eq_nil_of_length_eq_zero (by omega)
    subst this
    exact h _ o
  have hne : xs ≠ [] := fun e => h1 (by rw [e]; rfl)
  unfold checkT at h
  rw [if_neg hne] at h
  refine ⟨fun y s => ∃ (i : Nat) (w' : World), y = .int .i64 i ∧ s = ⟨w', []⟩ ∧ i ≤ xs.length ∧ chkGo [] xs = chkGo (names (xs.take i)) (xs.drop i) ∧ Hv w0 H w',
    fun y s => match y with | .int _ z => xs.length - z.toNat | _ => 0, ⟨0, w, rfl, rfl, Nat.zero_le _, rfl, o⟩, ?_⟩
  rintro y s ⟨i, w1, rfl, rfl, hi, hp, o1⟩
  rcases Nat.lt_or_ge i xs.length with hlt | hge
  · rw [chk_drop hlt] at hp
    have hmi := hm (xs.getD i default) (by rw [List.getD_eq_getElem?_getD, List.getElem?_eq_getElem hlt]; exact List.getElem_mem hlt)
    obtain ⟨m1, m2⟩ := hmi
    have hz := @idx_zero (xs.getD i default).2
    have hti : (xs.take i).length = i := by simp; omega
    have hgv := getV_has (xs.take i) (xs.getD i default).1
    repeat' (first | refine go ?_ | intro _ | refine And.intro (Sd.mk (by (first | exact fun _ => True.intro | exact And.intro (fun _ => True.intro) (fun _ _ => True.intro) | (intro hq; (first | exact True.intro | omega | (simp only [and_true]; omega) | (simp only [bl] at hq; (try simp only [and_true]); omega) | fail)) | exact And.intro (fun hq => by first | exact True.intro | omega | (simp only [and_true]; omega) | (simp only [bl] at hq; (try simp only [and_true]); omega) | fail) (fun hq hr => by first | exact True.intro | omega | (simp only [and_true]; omega) | (simp only [bl] at hq hr; omega) | (simp only [bl] at hr; omega) | fail) | fail))) ?_ | refine And.intro (by (first | omega | (unfold InR; omega) | decide | (simp only [ll]; omega))) ?_ | (refine And.intro (fun h1 => ?_) (fun h1 => ?_) <;> first | (exact absurd h1 (by decide)) | ((try rw [h1]); (try simp only [bl] at h1))) | dsimp only)
    · rw [if_pos h1] at hp
      rw [hp, if_pos h1] at h
      exact h _ (Sub.hv subEnd)
    · rename_i hn0
      rw [if_neg (fun q => q hn0), if_pos (hz.1 h1)] at hp
      rw [hp] at h
      exact h _ (Sub.hv subEnd)
    · rename_i v2 hsub
      have hn0 : nameE (xs.getD i default).1 = 0 := by assumption
      have hz0 : ¬ (0 : UInt8) ∈ (xs.getD i default).2 := fun q => by have := hz.2 q; omega
      rw [if_neg (fun q => q hn0), if_neg hz0] at hp
      have rf : RdsF w0 H v2 2 (i - 0) ((xs.take i).flatMap encT) := by
        have := RdsF.part (enc := encT) (fun _ => rfl) rx hsub
        simpa using this
      have rlf := rf.loc
      clear hsub
      repeat' (first | refine go ?_ | intro _ | refine And.intro (Sd.mk (by (first | exact fun _ => True.intro | exact And.intro (fun _ => True.intro) (fun _ _ => True.intro) | (intro hq; (first | exact True.intro | omega | (simp only [and_true]; omega) | (simp only [bl] at hq; (try simp only [and_true]); omega) | fail)) | exact And.intro (fun hq => by first | exact True.intro | omega | (simp only [and_true]; omega) | (simp only [bl] at hq; (try simp only [and_true]); omega) | fail) (fun hq hr => by first | exact True.intro | omega | (simp only [and_true]; omega) | (simp only [bl] at hq hr; omega) | (simp only [bl] at hr; omega) | fail) | fail))) ?_ | refine And.intro (by (first | omega | (unfold InR; omega) | decide | (simp only [ll]; omega))) ?_ | (refine And.intro (fun h1 => ?_) (fun h1 => ?_) <;> first | (exact absurd h1 (by decide)) | ((try rw [h1]); (try simp only [bl] at h1))) | dsimp only)
      · rw [if_pos (hgv.1 h1)] at hp
        rw [hp] at h
        exact h _ (Sub.hv subEnd)
      · have hnm : ¬ (xs.getD i default).1 ∈ names (xs.take i) := fun q => by rw [hgv.2 q] at h1; cases h1
        rw [if_neg hnm] at hp
        exact ⟨⟨i + 1, _, rfl, rfl, hlt, hp, Sub.hv subEnd⟩, by simp; omega⟩
    · exfalso; omega
  · rw [List.drop_of_length_le hge, chkGo] at hp
    rw [hp, if_neg (by decide)] at h
    repeat' (first | refine go ?_ | intro _ | refine And.intro (Sd.mk (by (first | exact fun _ => True.intro | exact And.intro (fun _ => True.intro) (fun _ _ => True.intro) | (intro hq; (first | exact True.intro | omega | (simp only [and_true]; omega) | (simp only [bl] at hq; (try simp only [and_true]); omega) | fail)) | exact And.intro (fun hq => by first | exact True.intro | omega | (simp only [and_true]; omega) | (simp only [bl] at hq; (try simp only [and_true]); omega) | fail) (fun hq hr => by first | exact True.intro | omega | (simp only [and_true]; omega) | (simp only [bl] at hq hr; omega) | (simp only [bl] at hr; omega) | fail) | fail))) ?_ | refine And.intro (by (first | omega | (unfold InR; omega) | decide | (simp only [ll]; omega))) ?_ | (refine And.intro (fun h1 => ?_) (fun h1 => ?_) <;> first | (exact absurd h1 (by decide)) | ((try rw [h1]); (try simp only [bl] at h1))) | dsimp only)
    · exfalso; omega
    · rw [if_pos (by omega)] at h
      exact h _ (Sub.hv subEnd)
    · rw [if_neg (by omega)] at h
      exact h _ (Sub.hv subEnd)⟩
instance checkR_ok [o : Hv w0 H w] [rx : RdsF w0 H x 2 n zx] [ex : Encs encT zx xs] :
    Step (Cl P 51 #[x] K ⟨w, ds⟩) ((xs.length ≤ 1000 ∧ ∀ t ∈ xs, t.1.length ≤ 1000000 ∧ t.2.length ≤ 1000000) ∧ ∀ w', Hv w0 H w' → K (.int .i64 (checkT xs)) ⟨w', ds⟩) := ⟨fun ⟨⟨hl, hm⟩, h⟩ => by
  refine cl_ok (c51 (K := fun v w' => K v ⟨w', ds⟩) ?_ fun v w' h => ⟨v, rfl, h⟩)
  obtain rfl : n = xs.length := ex.len (rx.rd w o).len (by decide)
  obtain rfl := ex.eq
  have rlx := rx.loc
  unfold D51
  dsimp only
  repeat' (first | refine go ?_ | intro _ | refine And.intro (Sd.mk (by (first | exact fun _ => True.intro | exact And.intro (fun _ => True.intro) (fun _ _ => True.intro) | (intro hq; (first | exact True.intro | omega | (simp only [and_true]; omega) | (simp only [bl] at hq; (try simp only [and_true]); omega) | fail)) | exact And.intro (fun hq => by first | exact True.intro | omega | (simp only [and_true]; omega) | (simp only [bl] at hq; (try simp only [and_true]); omega) | fail) (fun hq hr => by first | exact True.intro | omega | (simp only [and_true]; omega) | (simp only [bl] at hq hr; omega) | (simp only [bl] at hr; omega) | fail) | fail))) ?_ | refine And.intro (by (first | omega | (unfold InR; omega) | decide | (simp only [ll]; omega))) ?_ | (refine And.intro (fun h1 => ?_) (fun h1 => ?_) <;> first | (exact absurd h1 (by decide)) | ((try rw [h1]); (try simp only [bl] at h1))) | dsimp only)
  · have : xs = [] := List.eq_nil_of_length_eq_zero (by omega)
    subst this
    exact h _ o
  have hne : xs ≠ [] := fun e => h1 (by rw [e]; rfl)
  unfold checkT at h
  rw [if_neg hne] at h
  refine ⟨fun y s => ∃ (i : Nat) (w' : World), y = .int .i64 i ∧ s = ⟨w', []⟩ ∧ i ≤ xs.length ∧ chkGo [] xs = chkGo (names (xs.take i)) (xs.drop i) ∧ Hv w0 H w',
    fun y s => match y with | .int _ z => xs.length - z.toNat | _ => 0, ⟨0, w, rfl, rfl, Nat.zero_le _, rfl, o⟩, ?_⟩
  rintro y s ⟨i, w1, rfl, rfl, hi, hp, o1⟩
  rcases Nat.lt_or_ge i xs.length with hlt | hge
  · rw [chk_drop hlt] at hp
    have hmi := hm (xs.getD i default) (by rw [List.getD_eq_getElem?_getD, List.getElem?_eq_getElem hlt]; exact List.getElem_mem hlt)
    obtain ⟨m1, m2⟩ := hmi
    have hti : (xs.take i).length = i := by simp; omega
    have hat := @atS_has (xs.take i) (xs.getD i default).1
    repeat' (first | refine go ?_ | intro _ | refine And.intro (Sd.mk (by (first | exact fun _ => True.intro | exact And.intro (fun _ => True.intro) (fun _ _ => True.intro) | (intro hq; (first | exact True.intro | omega | (simp only [and_true]; omega) | (simp only [bl] at hq; (try simp only [and_true]); omega) | fail)) | exact And.intro (fun hq => by first | exact True.intro | omega | (simp only [and_true]; omega) | (simp only [bl] at hq; (try simp only [and_true]); omega) | fail) (fun hq hr => by first | exact True.intro | omega | (simp only [and_true]; omega) | (simp only [bl] at hq hr; omega) | (simp only [bl] at hr; omega) | fail) | fail))) ?_ | refine And.intro (by (first | omega | (unfold InR; omega) | decide | (simp only [ll]; omega))) ?_ | (refine And.intro (fun h1 => ?_) (fun h1 => ?_) <;> first | (exact absurd h1 (by decide)) | ((try rw [h1]); (try simp only [bl] at h1))) | dsimp only)
    · rw [if_pos h1] at hp
      rw [hp, if_pos h1] at h
      exact h _ (Sub.hv subEnd)
    · have hn0 := h1
      rw [if_neg (fun q => q hn0)] at hp
      rename_i w2 o2
      refine ⟨fun y s => ∃ (k : Nat), y = .int .i64 k ∧ s = ⟨w2, []⟩ ∧ k ≤ (xs.getD i default).2.length ∧ ∀ j < k, (xs.getD i default).2.getD j default ≠ 0,
        fun y s => match y with | .int _ z => (xs.getD i default).2.length - z.toNat | _ => 0, ⟨0, rfl, rfl, Nat.zero_le _, fun j h => by omega⟩, ?_⟩
      rintro y s ⟨k, rfl, rfl, hk, hno⟩
      have hz0 : (xs.getD i default).2.length ≤ k → ¬ (0 : UInt8) ∈ (xs.getD i default).2 := fun q hm => by
        obtain ⟨j, hj, e⟩ := List.getElem_of_mem hm
        have q2 := q
        refine hno j (Nat.lt_of_lt_of_le hj q2) ?_
        rw [List.getD_eq_getElem?_getD, List.getElem?_eq_getElem hj]; exact e
      repeat' (first | refine go ?_ | intro _ | refine And.intro (Sd.mk (by (first | exact fun _ => True.intro | exact And.intro (fun _ => True.intro) (fun _ _ => True.intro) | (intro hq; (first | exact True.intro | omega | (simp only [and_true]; omega) | (simp only [bl] at hq; (try simp only [and_true]); omega) | fail)) | exact And.intro (fun hq => by first | exact True.intro | omega | (simp only [and_true]; omega) | (simp only [bl] at hq; (try simp only [and_true]); omega) | fail) (fun hq hr => by first | exact True.intro | omega | (simp only [and_true]; omega) | (simp only [bl] at hq hr; omega) | (simp only [bl] at hr; omega) | fail) | fail))) ?_ | refine And.intro (by (first | omega | (unfold InR; omega) | decide | (simp only [ll]; omega))) ?_ | (refine And.intro (fun h1 => ?_) (fun h1 => ?_) <;> first | (exact absurd h1 (by decide)) | ((try rw [h1]); (try simp only [bl] at h1))) | dsimp only)
      · have hz1 : (0 : UInt8) ∈ (xs.getD i default).2 := by
          have := getD_mem (show k < (xs.getD i default).2.length by omega)
          rwa [h1] at this
        rw [if_pos hz1] at hp
        rw [hp] at h
        exact h _ (Sub.hv subEnd)
      · refine ⟨⟨k + 1, rfl, rfl, by omega, fun j hj => ?_⟩, (show (xs.getD i default).2.length - ((k : Int) + 1).toNat < (xs.getD i default).2.length - ((k : Int)).toNat by omega)⟩
        rcases Nat.lt_or_ge j k with q | q
        · exact hno j q
        · obtain rfl : j = k := by omega
          exact h1
      · rename_i v2 hsub _ _
        rw [if_neg (hz0 (by omega))] at hp
        have rf : RdsF w0 H v2 2 (i - 0) ((xs.take i).flatMap encT) := by
          have := RdsF.part (enc := encT) (fun _ => rfl) rx hsub
          simpa using this
        have rlf := rf.loc
        clear hsub
        repeat' (first | refine go ?_ | intro _ | refine And.intro (Sd.mk (by (first | exact fun _ => True.intro | exact And.intro (fun _ => True.intro) (fun _ _ => True.intro) | (intro hq; (first | exact True.intro | omega | (simp only [and_true]; omega) | (simp only [bl] at hq; (try simp only [and_true]); omega) | fail)) | exact And.intro (fun hq => by first | exact True.intro | omega | (simp only [and_true]; omega) | (simp only [bl] at hq; (try simp only [and_true]); omega) | fail) (fun hq hr => by first | exact True.intro | omega | (simp only [and_true]; omega) | (simp only [bl] at hq hr; omega) | (simp only [bl] at hr; omega) | fail) | fail))) ?_ | refine And.intro (by (first | omega | (unfold InR; omega) | decide | (simp only [ll]; omega))) ?_ | (refine And.intro (fun h1 => ?_) (fun h1 => ?_) <;> first | (exact absurd h1 (by decide)) | ((try rw [h1]); (try simp only [bl] at h1))) | dsimp only)
        · rw [if_pos (hat.1 h1)] at hp
          rw [hp] at h
          exact h _ (Sub.hv subEnd)
        · have hnm : ¬ (xs.getD i default).1 ∈ names (xs.take i) := fun q => by have := hat.2 q; omega
          rw [if_neg hnm] at hp
          exact ⟨⟨i + 1, _, rfl, rfl, hlt, hp, Sub.hv subEnd⟩, by simp; omega⟩
    · exfalso; omega
  · rw [List.drop_of_length_le hge, chkGo] at hp
    rw [hp, if_neg (by decide)] at h
    repeat' (first | refine go ?_ | intro _ | refine And.intro (Sd.mk (by (first | exact fun _ => True.intro | exact And.intro (fun _ => True.intro) (fun _ _ => True.intro) | (intro hq; (first | exact True.intro | omega | (simp only [and_true]; omega) | (simp only [bl] at hq; (try simp only [and_true]); omega) | fail)) | exact And.intro (fun hq => by first | exact True.intro | omega | (simp only [and_true]; omega) | (simp only [bl] at hq; (try simp only [and_true]); omega) | fail) (fun hq hr => by first | exact True.intro | omega | (simp only [and_true]; omega) | (simp only [bl] at hq hr; omega) | (simp only [bl] at hr; omega) | fail) | fail))) ?_ | refine And.intro (by (first | omega | (unfold InR; omega) | decide | (simp only [ll]; omega))) ?_ | (refine And.intro (fun h1 => ?_) (fun h1 => ?_) <;> first | (exact absurd h1 (by decide)) | ((try rw [h1]); (try simp only [bl] at h1))) | dsimp only)
    · exfalso; omega
    · rw [if_pos (by omega)] at h
      exact h _ (Sub.hv subEnd)
    · rw [if_neg (by omega)] at h
      exact h _ (Sub.hv subEnd)⟩
/-! the text of tags -/
def pieceT (t : Tag) : List UInt8 := t.1 ++ (if t.2 = [] then [] else [61] ++ escS t.2)
def joinT (ps : List (List UInt8)) : List UInt8 := ([59] : List UInt8).intercalate ps
def textT (l : List Tag) : List UInt8 := if checkT l ≠ 0 then [] else joinT (l.map pieceT)
theorem joinT_snoc (ps : List (List UInt8)) (p : List UInt8) : joinT (ps ++ [p]) = (if ps = [] then [] else joinT ps ++ [59]) ++ p := by
  induction ps with
  | nil => simp [joinT, List.intercalate]
  | cons q ps ih =>
    rw [if_neg (by simp)]
    cases ps with
    | nil => simp [joinT, List.intercalate]
    | cons r ps =>
      rw [if_neg (by simp)] at ih
      simp only [joinT, List.intercalate, List.cons_append] at ih ⊢
      simp only [List.intersperse_cons_cons, List.flatten_cons, List.append_assoc] at ih ⊢
      rw [ih]
end
end Go.Proofs.YtapammcnagjigaaDoor

namespace Go.Proofs.YtapammcnagjigaaDoor
open Go.Vx Go.Lib
theorem join_eq (ss : List (List UInt8)) : Lib.join ss [59] = joinT ss := rfl
section
variable {K : Value → St → Prop} {w0 w : World} {H R : List SL} {ds : List Deferred} {x y : Value} {xs ys : List Tag} {n m : Nat} {zx zy : List Value} {nm : List UInt8} {ss : List (List UInt8)}
instance join_ok [o : Hv w0 H w] [r : RowIn H x 9 1 n zx R] [es : Strs zx ss] :
    Step (Cl P 112 #[x, str [59]] K ⟨w, ds⟩) ((ss.length ≤ 100000 ∧ (joinT ss).length ≤ 1000000) ∧ ∀ w', Hv w0 H w' → K (str (joinT ss)) ⟨w', ds⟩) := ⟨fun ⟨⟨hss, hl⟩, h⟩ => by
  obtain rfl := es.eq
  have o1 := Hv.perm r.perm o
  obtain ⟨S, hS, _, hr, h1⟩ := o1.ok
  have hn : ss.length = n := by have := hr.1; simpa using this
  rcases hr.2 with ⟨rfl, h0⟩ | ⟨g, cap, cur, rfl, hb, hg, hnc, hcm, hcs, ht⟩
  · have e : ss = [] := List.eq_nil_of_length_eq_zero (by omega)
    subst e
    refine cl_ok ((Tryd.strings_Join_none none 0 ⟨#[59]⟩ w).mono fun e w' ⟨he, hw⟩ => ?_)
    subst hw
    exact ⟨_, he, h _ o⟩
  · subst hn
    have hlen : (ss.map fun s => (⟨s.toArray⟩ : ByteArray)).length = ss.length := by simp
    have hmap : (ss.map fun s => (⟨s.toArray⟩ : ByteArray)).map (·.data.toList) = ss := by simp [Function.comp_def]
    have hJ := Tryd.strings_Join g 0 cap (ss.map fun s => ⟨s.toArray⟩) ⟨#[59]⟩ w (fun j x hx => by
      have hj : j < ss.length := by
        have := (List.getElem?_eq_some_iff.1 hx).1; simpa using this
      have hc := hr.cellAt j (by omega)
      rw [Nat.zero_add, hc]
      simp [hj] at hx ⊢
      exact hx) (Array.getElem?_eq_some_iff.1 hg).1 (by rw [hlen]; omega) (by rw [hlen]; omega) (by rw [hmap]; show (joinT ss).length ≤ _; omega)
    rw [hlen, hmap] at hJ
    refine cl_ok (hJ.mono fun e w' ⟨he, hw⟩ => ?_)
    exact ⟨_, he, h _ (o.call (G := []) ⟨hw, emp, fun _ h => h.elim, fun _ h => h⟩)⟩⟩
def fits (l : List Tag) : Prop := l.length ≤ 100 ∧ ∀ t ∈ l, t.1.length ≤ 1000 ∧ t.2.length ≤ 1000
theorem piece_len {t : Tag} (h : t.1.length ≤ 1000 ∧ t.2.length ≤ 1000) : (pieceT t).length ≤ 3001 := by
  have := escS_len t.2
  unfold pieceT; split <;> simp <;> omega
theorem join_len (ps : List (List UInt8)) (h : ∀ p ∈ ps, p.length ≤ 3001) : (joinT ps).length ≤ 3002 * ps.length := by
  induction ps with
  | nil => simp [joinT, List.intercalate]
  | cons p ps ih =>
    have h1 := h p (List.mem_cons_self ..)
    have h2 := ih fun q hq => h q (List.mem_cons_of_mem _ hq)
    cases ps with
    | nil => simp [joinT, List.intercalate]; omega
    | cons q ps =>
      simp only [joinT, List.intercalate, List.intersperse_cons_cons, List.flatten_cons, List.length_append, List.length_cons, List.length_nil] at h2 ⊢
      omega
theorem joinp_len {l : List Tag} (h : fits l) (i : Nat) : (joinT ((l.take i).map pieceT)).length ≤ 310000 := by
  have h1 := join_len ((l.take i).map pieceT) fun p hp => by
    obtain ⟨t, ht, rfl⟩ := List.mem_map.1 hp
    exact piece_len (h.2 t (List.mem_of_mem_take ht))
  have h2 := h.1
  rw [List.length_map, List.length_take] at h1
  omega
theorem fits_at {l : List Tag} (h : fits l) {i : Nat} (hi : i < l.length) : (l.getD i default).1.length ≤ 1000 ∧ (l.getD i default).2.length ≤ 1000 := h.2 _ (getD_mem hi)
set_option maxRecDepth 20000
set_option synthInstance.maxSize 100000
set_option synthInstance.maxHeartbeats 4000000
instance text_ok [o : Hv w0 H w] [rx : RdsF w0 H x 2 n zx] [ex : Encs encT zx xs] :
    Step (Cl P 103 #[x] K ⟨w, ds⟩) (fits xs ∧ ∀ w', Hv w0 H w' → K (str (textT xs)) ⟨w', ds⟩) := ⟨fun ⟨hf, h⟩ => by
  refine cl_ok (c103 (K := fun v w' => K v ⟨w', ds⟩) ?_ fun v w' h => ⟨v, rfl, h⟩)
  obtain rfl : n = xs.length := ex.len (rx.rd w o).len (by decide)
  obtain rfl := ex.eq
  have rlx := rx.loc
  unfold D103
  dsimp only
  refine go (And.intro ⟨by have := hf.1; omega, fun t ht => by have := hf.2 t ht; omega⟩ ?_)
  intro w1 o1
  unfold textT at h
  have hl := hf.1
  repeat' (first | refine go ?_ | intro _ | refine And.intro (Sd.mk (by (first | exact fun _ => True.intro | exact And.intro (fun _ => True.intro) (fun _ _ => True.intro) | (intro hq; (first | exact True.intro | omega | (simp only [and_true]; omega) | (simp only [bl] at hq; (try simp only [and_true]); omega) | fail)) | exact And.intro (fun hq => by first | exact True.intro | omega | (simp only [and_true]; omega) | (simp only [bl] at hq; (try simp only [and_true]); omega) | fail) (fun hq hr => by first | exact True.intro | omega | (simp only [and_true]; omega) | (simp only [bl] at hq hr; omega) | (simp only [bl] at hr; omega) | fail) | fail))) ?_ | refine And.intro (by (first | omega | (unfold InR; omega) | decide | (simp only [ll]; omega))) ?_ | (refine And.intro (fun h1 => ?_) (fun h1 => ?_) <;> first | (exact absurd h1 (by decide)) | ((try rw [h1]); (try simp only [bl] at h1))) | dsimp only)
  · rw [if_pos h1] at h; exact h _ o1
  · rw [if_neg (fun q => q h1)] at h
    refine ⟨fun x y s => ∃ (i : Nat) (w' : World), y = .int .i64 i ∧ s = ⟨w', []⟩ ∧ i ≤ xs.length ∧ Hv w0 (row 9 1 x i (((xs.take i).map pieceT).map str) :: H) w',
      fun _ y s => match y with | .int _ z => xs.length - z.toNat | _ => 0, ⟨0, w1, rfl, rfl, Nat.zero_le _, Hv.nilRow 9 1 o1⟩, ?_⟩
    clear o1
    rintro y z s ⟨i, w2, rfl, rfl, hi, o2⟩
    rcases Nat.lt_or_ge i xs.length with hlt | hge
    · have hfa := fits_at hf hlt
      obtain ⟨m1, m2⟩ := hfa
      have hes := escS_len (xs.getD i default).2
      have ht : (xs.take (i + 1)).map pieceT = (xs.take i).map pieceT ++ [pieceT (xs.getD i default)] := by
        rw [take_snoc hlt, List.map_append]; rfl
      have hpc : pieceT (xs.getD i default) = (xs.getD i default).1 ++ (if (xs.getD i default).2 = [] then [] else [61] ++ escS (xs.getD i default).2) := rfl
      have q1 : ([61] : List UInt8).length = 1 := rfl
      repeat' (first | refine go ?_ | intro _ | refine And.intro (Sd.mk (by (first | exact fun _ => True.intro | exact And.intro (fun _ => True.intro) (fun _ _ => True.intro) | (intro hq; (first | exact True.intro | omega | (simp only [and_true]; omega) | (simp only [bl] at hq; (try simp only [and_true]); omega) | fail)) | exact And.intro (fun hq => by first | exact True.intro | omega | (simp only [and_true]; omega) | (simp only [bl] at hq; (try simp only [and_true]); omega) | fail) (fun hq hr => by first | exact True.intro | omega | (simp only [and_true]; omega) | (simp only [bl] at hq hr; omega) | (simp only [bl] at hr; omega) | fail) | fail))) ?_ | refine And.intro (by (first | omega | (unfold InR; omega) | decide | (simp only [ll]; omega))) ?_ | (refine And.intro (fun h1 => ?_) (fun h1 => ?_) <;> first | (exact absurd h1 (by decide)) | ((try rw [h1]); (try simp only [bl] at h1))) | dsimp only)
      · refine ⟨⟨i + 1, _, rfl, rfl, hlt, Sub.hv (subRow rfl ?_ subEnd)⟩, by simp; omega⟩
        rw [ht, hpc, if_neg h1]; simp
      · refine ⟨⟨i + 1, _, rfl, rfl, hlt, Sub.hv (subRow rfl ?_ subEnd)⟩, by simp; omega⟩
        rw [ht, hpc, if_pos h1]; simp
      · exfalso; omega
    · have hil : ((xs.take i).map pieceT).length ≤ 100000 := by simp; omega
      have hjl := joinp_len hf i
      have hjl2 : (joinT ((xs.take i).map pieceT)).length ≤ 1000000 := by omega
      repeat' (first | refine go ?_ | intro _ | refine And.intro (Sd.mk (by (first | exact fun _ => True.intro | exact And.intro (fun _ => True.intro) (fun _ _ => True.intro) | (intro hq; (first | exact True.intro | omega | (simp only [and_true]; omega) | (simp only [bl] at hq; (try simp only [and_true]); omega) | fail)) | exact And.intro (fun hq => by first | exact True.intro | omega | (simp only [and_true]; omega) | (simp only [bl] at hq; (try simp only [and_true]); omega) | fail) (fun hq hr => by first | exact True.intro | omega | (simp only [and_true]; omega) | (simp only [bl] at hq hr; omega) | (simp only [bl] at hr; omega) | fail) | fail))) ?_ | refine And.intro (by (first | omega | (unfold InR; omega) | decide | (simp only [ll]; omega))) ?_ | (refine And.intro (fun h1 => ?_) (fun h1 => ?_) <;> first | (exact absurd h1 (by decide)) | ((try rw [h1]); (try simp only [bl] at h1))) | dsimp only)
      · exfalso; omega
      · rw [List.take_of_length_le hge]
        exact h _ (Sub.hv subEnd)⟩
instance textR_ok [o : Hv w0 H w] [rx : RdsF w0 H x 2 n zx] [ex : Encs encT zx xs] :
    Step (Cl P 96 #[x] K ⟨w, ds⟩) (fits xs ∧ ∀ w', Hv w0 H w' → K (str (textT xs)) ⟨w', ds⟩) := ⟨fun ⟨hf, h⟩ => by
  refine cl_ok (c96 (K := fun v w' => K v ⟨w', ds⟩) ?_ fun v w' h => ⟨v, rfl, h⟩)
  obtain rfl : n = xs.length := ex.len (rx.rd w o).len (by decide)
  obtain rfl := ex.eq
  have rlx := rx.loc
  unfold D96
  dsimp only
  refine go (And.intro ⟨by have := hf.1; omega, fun t ht => by have := hf.2 t ht; omega⟩ ?_)
  intro w1 o1
  unfold textT at h
  have hl := hf.1
  repeat' (first | refine go ?_ | intro _ | refine And.intro (Sd.mk (by (first | exact fun _ => True.intro | exact And.intro (fun _ => True.intro) (fun _ _ => True.intro) | (intro hq; (first | exact True.intro | omega | (simp only [and_true]; omega) | (simp only [bl] at hq; (try simp only [and_true]); omega) | fail)) | exact And.intro (fun hq => by first | exact True.intro | omega | (simp only [and_true]; omega) | (simp only [bl] at hq; (try simp only [and_true]); omega) | fail) (fun hq hr => by first | exact True.intro | omega | (simp only [and_true]; omega) | (simp only [bl] at hq hr; omega) | (simp only [bl] at hr; omega) | fail) | fail))) ?_ | refine And.intro (by (first | omega | (unfold InR; omega) | decide | (simp only [ll]; omega))) ?_ | (refine And.intro (fun h1 => ?_) (fun h1 => ?_) <;> first | (exact absurd h1 (by decide)) | ((try rw [h1]); (try simp only [bl] at h1))) | dsimp only)
  · rw [if_pos h1] at h; exact h _ o1
  · rw [if_neg (fun q => q h1)] at h
    refine ⟨fun x y s => ∃ (i : Nat) (w' : World), x = str (joinT ((xs.take i).map pieceT)) ∧ y = .int .i64 i ∧ s = ⟨w', []⟩ ∧ i ≤ xs.length ∧ Hv w0 H w',
      fun _ y s => match y with | .int _ z => xs.length - z.toNat | _ => 0, ⟨0, w1, rfl, rfl, rfl, Nat.zero_le _, o1⟩, ?_⟩
    clear o1
    rintro y z s ⟨i, w2, rfl, rfl, rfl, hi, o2⟩
    have hjl := joinp_len hf i
    rcases Nat.lt_or_ge i xs.length with hlt | hge
    · have hfa := fits_at hf hlt
      obtain ⟨m1, m2⟩ := hfa
      have hes := escS_len (xs.getD i default).2
      have ht : joinT ((xs.take (i + 1)).map pieceT) = (if i = 0 then [] else joinT ((xs.take i).map pieceT) ++ [59]) ++ pieceT (xs.getD i default) := by
        rw [take_snoc hlt, List.map_append, List.map_singleton, joinT_snoc]
        congr 1
        cases i with
        | zero => simp
        | succ i => rw [if_neg (by intro e; have := congrArg List.length e; rw [List.length_map, List.length_take, List.length_nil] at this; omega), if_neg (by omega)]
      have hj0 : i = 0 → joinT ((xs.take i).map pieceT) = [] := fun e => by subst e; rfl
      have hpc : pieceT (xs.getD i default) = (xs.getD i default).1 ++ (if (xs.getD i default).2 = [] then [] else [61] ++ escS (xs.getD i default).2) := rfl
      have q1 : ([61] : List UInt8).length = 1 := rfl
      have q2 : ([59] : List UInt8).length = 1 := rfl
      generalize joinT ((xs.take i).map pieceT) = out at *
      repeat' (first | refine go ?_ | intro _ | refine And.intro (Sd.mk (by (first | exact fun _ => True.intro | exact And.intro (fun _ => True.intro) (fun _ _ => True.intro) | (intro hq; (first | exact True.intro | omega | (simp only [and_true]; omega) | (simp only [bl] at hq; (try simp only [and_true]); omega) | fail)) | exact And.intro (fun hq => by first | exact True.intro | omega | (simp only [and_true]; omega) | (simp only [bl] at hq; (try simp only [and_true]); omega) | fail) (fun hq hr => by first | exact True.intro | omega | (simp only [and_true]; omega) | (simp only [bl] at hq hr; omega) | (simp only [bl] at hr; omega) | fail) | fail))) ?_ | refine And.intro (by (first | omega | (unfold InR; omega) | decide | (simp only [ll]; omega))) ?_ | (refine And.intro (fun h1 => ?_) (fun h1 => ?_) <;> first | (exact absurd h1 (by decide)) | ((try rw [h1]); (try simp only [bl] at h1))) | dsimp only)
      all_goals first
        | (exfalso; omega)
        | (refine ⟨⟨i + 1, _, ?_, rfl, rfl, hlt, Sub.hv subEnd⟩, by simp; omega⟩
           rw [ht, hpc]
           first
             | rw [if_neg (show ¬ i = 0 by omega), if_neg h1]; simp
             | rw [if_neg (show ¬ i = 0 by omega), if_pos h1]; simp
             | (have hi0 : i = 0 := by omega
                rw [hj0 hi0, if_pos hi0, if_neg h1]; simp)
             | (have hi0 : i = 0 := by omega
                rw [hj0 hi0, if_pos hi0, if_pos h1]; simp))
    · repeat' (first | refine go ?_ | intro _ | refine And.intro (Sd.mk (by (first | exact fun _ => True.intro | exact And.intro (fun _ => True.intro) (fun _ _ => True.intro) | (intro hq; (first | exact True.intro | omega | (simp only [and_true]; omega) | (simp only [bl] at hq; (try simp only [and_true]); omega) | fail)) | exact And.intro (fun hq => by first | exact True.intro | omega | (simp only [and_true]; omega) | (simp only [bl] at hq; (try simp only [and_true]); omega) | fail) (fun hq hr => by first | exact True.intro | omega | (simp only [and_true]; omega) | (simp only [bl] at hq hr; omega) | (simp only [bl] at hr; omega) | fail) | fail))) ?_ | refine And.intro (by (first | omega | (unfold InR; omega) | decide | (simp only [ll]; omega))) ?_ | (refine And.intro (fun h1 => ?_) (fun h1 => ?_) <;> first | (exact absurd h1 (by decide)) | ((try rw [h1]); (try simp only [bl] at h1))) | dsimp only)
      · exfalso; omega
      · rw [List.take_of_length_le hge]
        exact h _ (Sub.hv subEnd)⟩
end
end Go.Proofs.YtapammcnagjigaaDoor

namespace Go.Proofs.YtapammcnagjigaaDoor
open Go.Vx Go.Lib
/-! what is written is read -/
theorem chk_zero (l : List Tag) : ∀ seen, chkGo seen l = 0 ↔ (∀ t ∈ l, nameE t.1 = 0 ∧ (0 : UInt8) ∉ t.2) ∧ (names l).Nodup ∧ ∀ n ∈ names l, n ∉ seen := by
  induction l with
  | nil => intro seen; simp [chkGo, names]
  | cons t l ih =>
    intro seen
    rw [chkGo]
    by_cases h1 : nameE t.1 = 0
    · rw [if_neg (fun q => q h1)]
      by_cases h2 : (0 : UInt8) ∈ t.2
      · rw [if_pos h2]; simp [h2]
      · rw [if_neg h2]
        by_cases h3 : t.1 ∈ seen
        · rw [if_pos h3]; simp [names, h3]
        · rw [if_neg h3, ih]
          simp only [names, List.map_cons, List.nodup_cons, List.mem_cons, List.mem_append, List.not_mem_nil, or_false, forall_eq_or_imp]
          constructor
          · rintro ⟨a, b, c⟩
            exact ⟨⟨⟨h1, h2⟩, a⟩, ⟨fun q => (c _ q) (.inr rfl), b⟩, h3, fun n hn q => c n hn (.inl q)⟩
          · rintro ⟨⟨_, a⟩, ⟨b, c⟩, _, d⟩
            exact ⟨a, c, fun n hn q => q.elim (d n hn) fun e => b (e ▸ hn)⟩
    · rw [if_pos h1]
      simp [h1]
theorem check_zero (l : List Tag) : checkT l = 0 ↔ l ≠ [] ∧ (∀ t ∈ l, nameE t.1 = 0 ∧ (0 : UInt8) ∉ t.2) ∧ (names l).Nodup ∧ l.length ≤ 16 := by
  have h := chk_zero l []
  unfold checkT
  by_cases h0 : l = []
  · rw [if_pos h0]; simp [h0]
  · rw [if_neg h0]
    by_cases h1 : chkGo [] l = 0
    · rw [if_neg (fun q => q h1)]
      have h2 := h.1 h1
      by_cases h3 : 16 < l.length
      · rw [if_pos h3]; simp; omega
      · rw [if_neg h3]; exact ⟨fun _ => ⟨h0, h2.1, h2.2.1, by omega⟩, fun _ => rfl⟩
    · rw [if_pos h1]
      constructor
      · intro q; exact absurd q h1
      · rintro ⟨_, a, b, _⟩; exact absurd (h.2 ⟨a, b, by simp⟩) h1
theorem bytes_all (p : UInt8 → Bool) (h : ∀ n : Fin 256, p (UInt8.ofNat n.val) = true) (b : UInt8) : p b = true := by
  have := h ⟨b.toNat, b.toNat_lt⟩
  simpa using this
theorem nm_sep (b : UInt8) : (nmB b && (b == 59 || b == 61)) = false := by
  have := bytes_all (fun b => !(nmB b && (b == 59 || b == 61))) (by decide +kernel) b
  cases h : (nmB b && (b == 59 || b == 61)) with
  | false => rfl
  | true => rw [h] at this; cases this
theorem esc_byte (b : UInt8) : (escB b).all (fun x => x != 59 && (b == 0 || !(([0, 13, 10, 32] : List UInt8).contains x))) = true :=
  bytes_all (fun b => (escB b).all (fun x => x != 59 && (b == 0 || !(([0, 13, 10, 32] : List UInt8).contains x)))) (by decide +kernel) b
theorem esc_back (b : UInt8) : (if signB b = 0 then decide (b ≠ 92) else decide (plainB (signB b) = b)) = true :=
  bytes_all (fun b => if signB b = 0 then decide (b ≠ 92) else decide (plainB (signB b) = b)) (by decide +kernel) b
theorem plain_nz (b : UInt8) : (b == 0 || plainB b != 0) = true := bytes_all (fun b => b == 0 || plainB b != 0) (by decide +kernel) b
theorem esc_no59 (v : List UInt8) : (59 : UInt8) ∉ escS v := by
  intro h
  obtain ⟨b, _, hx⟩ := List.mem_flatMap.1 h
  have := List.all_eq_true.1 (esc_byte b) _ hx
  simp at this
theorem esc_good {v : List UInt8} (h : (0 : UInt8) ∉ v) : valBad (escS v) = false := by
  unfold valBad
  rw [List.any_eq_false]
  intro x hx
  obtain ⟨b, hb, hx⟩ := List.mem_flatMap.1 hx
  have h1 := List.all_eq_true.1 (esc_byte b) _ hx
  have h2 : b ≠ 0 := fun e => h (e ▸ hb)
  simp [h2] at h1
  simp; grind
theorem unesc_go (v : List UInt8) : ∀ out, (escS v).foldl stepU (false, out) = (false, out ++ v) := by
  induction v with
  | nil => intro out; simp [escS]
  | cons b v ih =>
    intro out
    have e : escS (b :: v) = escB b ++ escS v := by simp [escS]
    rw [e, List.foldl_append]
    have hb := esc_back b
    have : (escB b).foldl stepU (false, out) = (false, out ++ [b]) := by
      unfold escB
      split at hb
      · rename_i h; rw [if_pos h]; simp at hb; simp [stepU, hb]
      · rename_i h; rw [if_neg h]; simp at hb; simp [stepU, hb]
    rw [this, ih]; simp
theorem unesc_esc (v : List UInt8) : unescS (escS v) = v := by
  unfold unescS foldU
  rw [unesc_go]; simp
theorem name_bytes {n : List UInt8} (h : nameE n = 0) : n ≠ [] ∧ ∀ b ∈ n, nmB b = true := by
  unfold nameE at h
  by_cases h0 : n = []
  · rw [if_pos h0] at h; cases h
  · rw [if_neg h0] at h
    refine ⟨h0, fun b hb => ?_⟩
    by_cases h1 : n.all nmB = true
    · exact List.all_eq_true.1 h1 b hb
    · rw [if_neg h1] at h; cases h
theorem name_sep {n : List UInt8} (h : nameE n = 0) : (59 : UInt8) ∉ n ∧ (61 : UInt8) ∉ n := by
  have h1 := (name_bytes h).2
  constructor
  · intro q; have a := h1 _ q; have b := nm_sep 59; rw [a] at b; simp at b
  · intro q; have a := h1 _ q; have b := nm_sep 61; rw [a] at b; simp at b
theorem find_no {l : List UInt8} {c : UInt8} (h : c ∉ l) : l.findIdx? (· == c) = none := by
  rw [List.findIdx?_eq_none_iff]; intro x hx; simp; exact fun e => h (e ▸ hx)
theorem piece_cut {t : Tag} (h : nameE t.1 = 0) : (cutB (pieceT t) 61).1 = t.1 ∧ (cutB (pieceT t) 61).2.1 = escS t.2 := by
  have hs := (name_sep h).2
  unfold pieceT
  by_cases h2 : t.2 = []
  · rw [if_pos h2, List.append_nil, h2]
    unfold cutB
    rw [find_no hs]
    exact ⟨rfl, rfl⟩
  · rw [if_neg h2]
    have hf : (t.1 ++ ([61] ++ escS t.2)).findIdx? (· == (61 : UInt8)) = some t.1.length := by
      rw [List.findIdx?_append, find_no hs]; simp [List.findIdx?_cons]
    unfold cutB
    rw [hf]
    simp
theorem piece_no59 {t : Tag} (h : nameE t.1 = 0) : (59 : UInt8) ∉ pieceT t := by
  unfold pieceT
  have h1 := (name_sep h).1
  have h2 := esc_no59 t.2
  split <;> simp [h1, h2]
theorem piece_part {t : Tag} (h : nameE t.1 = 0) (h0 : (0 : UInt8) ∉ t.2) : partE (pieceT t) = 0 ∧ partT (pieceT t) = t := by
  obtain ⟨a, b⟩ := piece_cut h
  unfold partE partT
  rw [a, b, if_neg (fun q => q h), esc_good h0, unesc_esc]
  exact ⟨by simp, rfl⟩
theorem split_joinT (ps : List (List UInt8)) (hne : ps ≠ []) (h : ∀ p ∈ ps, (59 : UInt8) ∉ p) : splitS 59 (joinT ps) = ps := by
  induction ps with
  | nil => exact absurd rfl hne
  | cons p ps ih =>
    have hp := splitS_none (find_no (h p (List.mem_cons_self ..)))
    cases ps with
    | nil => simpa [joinT, List.intercalate] using hp
    | cons q ps =>
      have e : joinT (p :: q :: ps) = p ++ 59 :: joinT (q :: ps) := by simp [joinT, List.intercalate]
      rw [e, split_join, hp, ih (by simp) fun r hr => h r (List.mem_cons_of_mem _ hr)]
      rfl
theorem goQ_pieces (l : List Tag) : ∀ out, (∀ t ∈ l, nameE t.1 = 0 ∧ (0 : UInt8) ∉ t.2) → (names l).Nodup → (∀ n ∈ names l, n ∉ names out) → goQ out (l.map pieceT) = some (out ++ l) := by
  induction l with
  | nil => intro out _ _ _; simp [goQ]
  | cons t l ih =>
    intro out hg hn hd
    obtain ⟨a, b⟩ := hg t (List.mem_cons_self ..)
    obtain ⟨c, d⟩ := piece_part a b
    rw [List.map_cons, goQ, if_neg (fun q => q c), d]
    have hnew : t.1 ∉ names out := hd _ (by simp [names])
    rw [insT_new hnew, ih _ (fun u hu => hg u (List.mem_cons_of_mem _ hu))]
    · simp
    · simp only [names, List.map_cons, List.nodup_cons] at hn; exact hn.2
    · intro n hn2
      simp only [names, List.map_cons, List.nodup_cons] at hn
      simp only [names, List.map_append, List.map_cons, List.map_nil, List.mem_append, List.mem_singleton, not_or]
      refine ⟨hd n (by simp only [names, List.map_cons]; exact List.mem_cons_of_mem _ hn2), fun e => hn.1 ?_⟩
      rw [← e]; exact hn2
theorem back_text {l : List Tag} (h : checkT l = 0) : parseT (textT l) = (l, 0) := by
  obtain ⟨h0, h1, h2, h3⟩ := (check_zero l).1 h
  unfold textT parseT
  rw [if_neg (fun q => q h), split_joinT _ (by simpa using h0) fun p hp => by
    obtain ⟨t, ht, rfl⟩ := List.mem_map.1 hp
    exact piece_no59 (h1 t ht).1]
  rw [goP_some (goQ_pieces l [] h1 h2 (by simp [names]))]
  rw [if_neg (by simp; omega)]; rfl
/-! what was read may be written -/
def goodT (t : Tag) : Prop := nameE t.1 = 0 ∧ (0 : UInt8) ∉ t.2
theorem unesc_nz {v : List UInt8} (h : (0 : UInt8) ∉ v) : (0 : UInt8) ∉ unescS v := by
  have key : ∀ (v : List UInt8) p, (0 : UInt8) ∉ v → (0 : UInt8) ∉ p.2 → (0 : UInt8) ∉ (v.foldl stepU p).2 := by
    intro v
    induction v with
    | nil => intro p _ h; exact h
    | cons b v ih =>
      intro p hv hp
      simp only [List.mem_cons, not_or] at hv
      refine ih _ hv.2 ?_
      unfold stepU
      have := plain_nz b
      split
      · simp [hp]; grind
      · split
        · exact hp
        · simp [hp]; exact hv.1
  exact key v (false, []) h (by simp)
theorem part_good {p : List UInt8} (h : partE p = 0) : goodT (partT p) := by
  unfold partE at h
  by_cases h1 : nameE (cutB p 61).1 = 0
  · rw [if_neg (fun q => q h1)] at h
    refine ⟨h1, unesc_nz fun q => ?_⟩
    have hb : valBad (cutB p 61).2.1 = true := by
      unfold valBad; rw [List.any_eq_true]; exact ⟨0, q, by decide⟩
    rw [if_pos hb] at h; cases h
  · rw [if_pos h1] at h; exact absurd h h1
theorem insT_mem {out : List Tag} {t u : Tag} (h : u ∈ insT out t) : u ∈ out ∨ u = t := by
  unfold insT at h
  split at h
  · exact List.mem_or_eq_of_mem_set h
  · rcases List.mem_append.1 h with q | q
    · exact .inl q
    · exact .inr (by simpa using q)
theorem goQ_good (ps : List (List UInt8)) : ∀ out r, goQ out ps = some r → (∀ t ∈ out, goodT t) → ∀ t ∈ r, goodT t := by
  induction ps with
  | nil => intro out r h hg; rw [goQ] at h; cases h; exact hg
  | cons p ps ih =>
    intro out r h hg
    rw [goQ] at h
    by_cases hp : partE p = 0
    · rw [if_neg (fun q => q hp)] at h
      exact ih _ _ h fun t ht => (insT_mem ht).elim (hg t) fun e => e ▸ part_good hp
    · rw [if_pos hp] at h; cases h
theorem insT_ne (out : List Tag) (t : Tag) : insT out t ≠ [] := by
  unfold insT
  split
  · rename_i i hf
    have := (List.findIdx?_eq_some_iff_getElem.1 hf).1
    intro e; have := congrArg List.length e; rw [List.length_set, List.length_nil] at this; omega
  · simp
theorem goQ_ne (ps : List (List UInt8)) : ∀ out r, goQ out ps = some r → ps ≠ [] ∨ out ≠ [] → r ≠ [] := by
  induction ps with
  | nil => intro out r h hg; rw [goQ] at h; cases h; exact hg.resolve_left (fun q => q rfl)
  | cons p ps ih =>
    intro out r h _
    rw [goQ] at h
    split at h
    · cases h
    · exact ih _ _ h (.inr (insT_ne _ _))
theorem parse_check {s : List UInt8} (h : (parseT s).2 = 0) : checkT (parseT s).1 = 0 := by
  unfold parseT at h ⊢
  cases hq : goQ [] (splitS 59 s) with
  | none => have := goP_err _ _ hq; omega
  | some r =>
    have e := goP_some hq
    by_cases hr : 16 < r.length
    · rw [e, if_pos hr] at h; cases h
    · rw [e, if_neg hr]
      refine (check_zero r).2 ⟨goQ_ne _ _ _ hq (.inl fun q => ?_), goQ_good _ _ _ hq (by simp), goQ_nodup _ _ _ hq (by simp [names]), by omega⟩
      have := splitS_len 59 s; rw [q] at this; simp at this
theorem parse_none {s : List UInt8} (h : (parseT s).2 ≠ 0) : (parseT s).1 = [] := by
  unfold parseT at h ⊢
  cases hq : goQ [] (splitS 59 s) with
  | none => exact (goP_err _ _ hq).1
  | some r =>
    have e := goP_some hq
    by_cases hr : 16 < r.length
    · rw [e, if_pos hr]
    · rw [e, if_neg hr] at h; exact absurd rfl h
end Go.Proofs.YtapammcnagjigaaDoor

namespace Go.Proofs.YtapammcnagjigaaDoor
open Go.Vx Go.Lib
theorem goQ_fits (ps : List (List UInt8)) (n : Nat) (hp : ∀ p ∈ ps, p.length ≤ n) : ∀ out r, goQ out ps = some r → (∀ t ∈ out, t.1.length ≤ n ∧ t.2.length ≤ n) → ∀ t ∈ r, t.1.length ≤ n ∧ t.2.length ≤ n := by
  induction ps with
  | nil => intro out r h hg; rw [goQ] at h; cases h; exact hg
  | cons p ps ih =>
    intro out r h hg
    rw [goQ] at h
    split at h
    · cases h
    · refine ih (fun q hq => hp q (List.mem_cons_of_mem _ hq)) _ _ h fun t ht => (insT_mem ht).elim (hg t) fun e => ?_
      subst e
      have h1 := cut_len p 61
      have h2 := unesc_len (cutB p 61).2.1
      have h3 := hp p (List.mem_cons_self ..)
      exact ⟨(show (cutB p 61).1.length ≤ n by omega), (show (unescS (cutB p 61).2.1).length ≤ n by omega)⟩
theorem parse_fits {s : List UInt8} (h : s.length ≤ 1000) : fits (parseT s).1 := by
  refine ⟨by have := parse_few s; omega, fun t ht => ?_⟩
  unfold parseT at ht
  cases hq : goQ [] (splitS 59 s) with
  | none => rw [(goP_err _ _ hq).1] at ht; cases ht
  | some r =>
    have e := goP_some hq
    rw [e] at ht
    split at ht
    · cases ht
    · have := goQ_fits (splitS 59 s) 1000 (fun p hp => by have := split_mem p hp; omega) [] r hq (by simp) t ht
      exact this
theorem getV_cons (t : Tag) (l : List Tag) (n : List UInt8) : getV (t :: l) n = if t.1 = n then (t.2, true) else getV l n := by
  unfold getV
  rw [List.findIdx?_cons]
  by_cases h : t.1 = n
  · simp [h]
  · simp only [h, decide_false, Bool.false_eq_true, if_false]
    cases l.findIdx? fun t => decide (t.1 = n) with
    | none => rfl
    | some i => simp
theorem parse_small {s : List UInt8} (h : s.length ≤ 200) : ∀ t ∈ (parseT s).1, t.1.length ≤ 200 ∧ t.2.length ≤ 200 := by
  intro t ht
  unfold parseT at ht
  cases hq : goQ [] (splitS 59 s) with
  | none => rw [(goP_err _ _ hq).1] at ht; cases ht
  | some r =>
    have e := goP_some hq
    rw [e] at ht
    split at ht
    · cases ht
    · exact goQ_fits (splitS 59 s) 200 (fun p hp => by have := split_mem p hp; omega) [] r hq (by simp) t ht
theorem joinm_len (m : Nat) (ps : List (List UInt8)) (h : ∀ p ∈ ps, p.length ≤ m) : (joinT ps).length ≤ (m + 1) * ps.length := by
  induction ps with
  | nil => simp [joinT, List.intercalate]
  | cons p ps ih =>
    have h1 := h p (List.mem_cons_self ..)
    have h2 := ih fun q hq => h q (List.mem_cons_of_mem _ hq)
    cases ps with
    | nil => simp [joinT, List.intercalate]; omega
    | cons q ps =>
      simp only [joinT, List.intercalate, List.intersperse_cons_cons, List.flatten_cons, List.length_append, List.length_cons, List.length_nil] at h2 ⊢
      rw [Nat.mul_add] at h2 ⊢
      rw [Nat.mul_add]
      omega
theorem text_len {l : List Tag} (hl : l.length ≤ 20) (h : ∀ t ∈ l, t.1.length ≤ 200 ∧ t.2.length ≤ 200) : (textT l).length ≤ 20000 := by
  unfold textT
  split
  · simp
  · have := joinm_len 601 (l.map pieceT) fun p hp => by
      obtain ⟨t, ht, rfl⟩ := List.mem_map.1 hp
      have h1 := h t ht
      have := escS_len t.2
      unfold pieceT; split <;> simp <;> omega
    rw [List.length_map] at this
    omega
section
set_option maxRecDepth 20000
set_option synthInstance.maxSize 100000
set_option synthInstance.maxHeartbeats 4000000
theorem tag_one (y : Tag) : ∀ u ∈ encT y, u.oneCell' = true := fun u hu => by
  simp only [encT, List.mem_cons, List.not_mem_nil, or_false] at hu
  rcases hu with rfl | rfl <;> rfl
theorem tag_each {H : Type} {enc : TypeId × Value → H} {W : World} {sp : Nat → Bool} {held : Bool} {fuel : Nat} {cs : List Value} {x : DataW H × List MemPlace} (h : DataW.trod enc Tryd.prog W 0 sp held fuel 71 cs = some x) (hl : cs.length = 2) : ∃ y : Tag, cs = encT y ∧ (y.1.length ∈ x.1.weights Tryd.prog 71 ∧ y.2.length ∈ x.1.weights Tryd.prog 71) := by
  obtain ⟨a, e0, w0⟩ := struct_strW (i := 0) Tryd.underlying71 h rfl Tryd.underlying9 (by kernel_rfl)
  obtain ⟨b, e1, w1⟩ := struct_strW (i := 1) Tryd.underlying71 h rfl Tryd.underlying9 (by kernel_rfl)
  refine ⟨(a.data.toList, b.data.toList), list_of_at (by rw [hl]; rfl) fun i hi => ?_, w0, w1⟩
  match i, hi with
  | 0, _ => exact e0.trans (congrArg some (str_of a).symm)
  | 1, _ => exact e1.trans (congrArg some (str_of b).symm)
  | n + 2, hi => exact absurd hi (by simp)
end
end Go.Proofs.YtapammcnagjigaaDoor

