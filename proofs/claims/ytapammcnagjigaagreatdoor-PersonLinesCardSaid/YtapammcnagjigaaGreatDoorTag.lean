import Derived.Test.YtapammcnagjigaaGreatDoorBl
import Derived.Test.YtapammcnagjigaaGreatDoorShelf
import Derived.Test.YtapammcnagjigaaGreatDoorEng
set_option linter.all false
namespace Go.Proofs.YtapammcnagjigaaGreatDoor
open Go.Vx Go.Lib
/-! strings: IndexByte, Index, Count, Cut, Split -/
instance sidx_ok {w : World} {l : List UInt8} {c : UInt8} : VT (Cl P 101 #[str l, byteV c]) w (.int .i64 (idxB l c)) := ⟨fun {K ds} h => by
  refine cl_ok (c101 (K := fun v w' => K v ⟨w', ds⟩) ?_ fun v w' h => ⟨v, rfl, h⟩)
  unfold D101
  repeat' (first | refine go ?_ | intro _ | refine And.intro (by (first | omega | (unfold InR; omega) | decide | (simp only [ll]; omega))) ?_ | (refine And.intro (fun h1 => ?_) (fun h1 => ?_) <;> first | (exact absurd h1 (by decide)) | ((try rw [h1]); (try simp only [bl] at h1))) | dsimp only)
  exact h⟩
instance idx_ok {w : World} {l : List UInt8} {c : UInt8} : VT (Cl P 69 #[str l, byteV c]) w (.int .i64 (idxB l c)) := ⟨fun {K ds} h => by
  refine cl_ok (c69 (K := fun v w' => K v ⟨w', ds⟩) ?_ fun v w' h => ⟨v, rfl, h⟩)
  unfold D69
  repeat' (first | refine go ?_ | intro _ | refine And.intro (by (first | omega | (unfold InR; omega) | decide | (simp only [ll]; omega))) ?_ | (refine And.intro (fun h1 => ?_) (fun h1 => ?_) <;> first | (exact absurd h1 (by decide)) | ((try rw [h1]); (try simp only [bl] at h1))) | dsimp only)
  exact h⟩
instance idx70_ok {w : World} {l : List UInt8} {c : UInt8} : VT (Cl P 72 #[str l, str [c]]) w (.int .i64 (idxB l c)) := ⟨fun {K ds} h => by
  refine cl_ok ((Tryz.strings_Index_one ⟨l.toArray⟩ c w).mono fun e w' ⟨he, hw⟩ => ?_)
  subst hw
  refine ⟨_, he, ?_⟩
  simpa [idx_eq] using h⟩
instance idx71_ok {w : World} {l : List UInt8} {c : UInt8} : VT (Cl P 103 #[str l, str [c]]) w (.int .i64 (idxB l c)) := ⟨fun {K ds} h => by
  refine cl_ok ((Tryz.stringslite_Index_one ⟨l.toArray⟩ c w).mono fun e w' ⟨he, hw⟩ => ?_)
  subst hw
  refine ⟨_, he, ?_⟩
  simpa [idx_eq] using h⟩
instance count_ok {w : World} {l : List UInt8} {c : UInt8} : VT (Cl P 136 #[str l, str [c]]) w (.int .i64 (l.count c : Nat)) := ⟨fun {K ds} h => by
  refine cl_ok ((Tryz.strings_Count_one ⟨l.toArray⟩ c w).mono fun e w' ⟨he, hw⟩ => ?_)
  subst hw
  refine ⟨_, he, ?_⟩
  simpa [countByte] using h⟩
theorem idxB_some {l : List UInt8} {c : UInt8} {i : Nat} (h : l.findIdx? (· == c) = some i) : idxB l c = (i : Int) := by unfold idxB; rw [h]
theorem idxB_none {l : List UInt8} {c : UInt8} (h : l.findIdx? (· == c) = none) : idxB l c = -1 := by unfold idxB; rw [h]
def cutB (l : List UInt8) (c : UInt8) : List UInt8 × List UInt8 × Bool := match l.findIdx? (· == c) with | some i => (l.take i, l.drop (i + 1), true) | none => (l, [], false)
theorem find_lt {l : List UInt8} {c : UInt8} {i : Nat} (h : l.findIdx? (· == c) = some i) : i < l.length := (List.findIdx?_eq_some_iff_getElem.1 h).1
instance cut49_ok {K : Value → St → Prop} {w0 w : World} {H : List SL} {ds : List Deferred} {l : List UInt8} {c : UInt8} [o : Hv w0 H w] :
    Step (Cl P 111 #[str l, str [c]] K ⟨w, ds⟩) (l.length ≤ 1000000000 ∧ ∀ w', Hv w0 H w' → K (.tuple #[str (cutB l c).1, str (cutB l c).2.1, .bool (cutB l c).2.2]) ⟨w', ds⟩) := ⟨fun ⟨hb, h⟩ => by
  refine cl_ok (c111 (K := fun v w' => K v ⟨w', ds⟩) ?_ fun v w' h => ⟨v, rfl, h⟩)
  unfold D111
  dsimp only
  unfold cutB at h
  have hi : idxB l c = match l.findIdx? (· == c) with | some i => (i : Int) | none => -1 := rfl
  cases hf : l.findIdx? (· == c) with
  | none =>
    rw [hf] at h hi
    dsimp only at h hi
    repeat (first | refine go ?_ | intro _ | refine And.intro (Sd.mk (by (first | exact fun _ => True.intro | exact And.intro (fun _ => True.intro) (fun _ _ => True.intro) | (intro hq; (first | exact True.intro | omega | (simp only [and_true]; omega) | (simp only [bl] at hq; (try simp only [and_true]); omega) | fail)) | exact And.intro (fun hq => by first | exact True.intro | omega | (simp only [and_true]; omega) | (simp only [bl] at hq; (try simp only [and_true]); omega) | fail) (fun hq hr => by first | exact True.intro | omega | (simp only [and_true]; omega) | (simp only [bl] at hq hr; omega) | (simp only [bl] at hr; omega) | fail) | fail))) ?_ | refine And.intro (by (first | omega | (unfold InR; omega) | decide | (simp only [ll]; omega))) ?_ | dsimp only)
    rw [hi]
    repeat' (first | refine go ?_ | intro _ | refine And.intro (Sd.mk (by (first | exact fun _ => True.intro | exact And.intro (fun _ => True.intro) (fun _ _ => True.intro) | (intro hq; (first | exact True.intro | omega | (simp only [and_true]; omega) | (simp only [bl] at hq; (try simp only [and_true]); omega) | fail)) | exact And.intro (fun hq => by first | exact True.intro | omega | (simp only [and_true]; omega) | (simp only [bl] at hq; (try simp only [and_true]); omega) | fail) (fun hq hr => by first | exact True.intro | omega | (simp only [and_true]; omega) | (simp only [bl] at hq hr; omega) | (simp only [bl] at hr; omega) | fail) | fail))) ?_ | refine And.intro (by (first | omega | (unfold InR; omega) | decide | (simp only [ll]; omega))) ?_ | (refine And.intro (fun h1 => ?_) (fun h1 => ?_) <;> first | (exact absurd h1 (by decide)) | ((try rw [h1]); (try simp only [bl] at h1))) | dsimp only)
    exact h _ o
  | some i =>
    have hlt := find_lt hf
    rw [hf] at h hi
    dsimp only at h hi
    repeat (first | refine go ?_ | intro _ | refine And.intro (Sd.mk (by (first | exact fun _ => True.intro | exact And.intro (fun _ => True.intro) (fun _ _ => True.intro) | (intro hq; (first | exact True.intro | omega | (simp only [and_true]; omega) | (simp only [bl] at hq; (try simp only [and_true]); omega) | fail)) | exact And.intro (fun hq => by first | exact True.intro | omega | (simp only [and_true]; omega) | (simp only [bl] at hq; (try simp only [and_true]); omega) | fail) (fun hq hr => by first | exact True.intro | omega | (simp only [and_true]; omega) | (simp only [bl] at hq hr; omega) | (simp only [bl] at hr; omega) | fail) | fail))) ?_ | refine And.intro (by (first | omega | (unfold InR; omega) | decide | (simp only [ll]; omega))) ?_ | dsimp only)
    rw [hi]
    have e1 : [c].length = 1 := rfl
    repeat' (first | refine go ?_ | intro _ | refine And.intro (Sd.mk (by (first | exact fun _ => True.intro | exact And.intro (fun _ => True.intro) (fun _ _ => True.intro) | (intro hq; (first | exact True.intro | omega | (simp only [and_true]; omega) | (simp only [bl] at hq; (try simp only [and_true]); omega) | fail)) | exact And.intro (fun hq => by first | exact True.intro | omega | (simp only [and_true]; omega) | (simp only [bl] at hq; (try simp only [and_true]); omega) | fail) (fun hq hr => by first | exact True.intro | omega | (simp only [and_true]; omega) | (simp only [bl] at hq hr; omega) | (simp only [bl] at hr; omega) | fail) | fail))) ?_ | refine And.intro (by (first | omega | (unfold InR; omega) | decide | (simp only [ll]; omega))) ?_ | (refine And.intro (fun h1 => ?_) (fun h1 => ?_) <;> first | (exact absurd h1 (by decide)) | ((try rw [h1]); (try simp only [bl] at h1))) | dsimp only)
    · have e2 : ((i : Int) + ([c].length : Nat)).toNat = i + 1 := by omega
      rw [e2]
      exact h _ ‹_›
    · exact absurd h1 (Int.not_lt.2 (Int.natCast_nonneg i))⟩
instance cut_ok {K : Value → St → Prop} {w0 w : World} {H : List SL} {ds : List Deferred} {l : List UInt8} {c : UInt8} [o : Hv w0 H w] :
    Step (Cl P 77 #[str l, str [c]] K ⟨w, ds⟩) (l.length ≤ 1000000000 ∧ ∀ w', Hv w0 H w' → K (.tuple #[str (cutB l c).1, str (cutB l c).2.1, .bool (cutB l c).2.2]) ⟨w', ds⟩) := ⟨fun ⟨hb, h⟩ => by
  refine cl_ok (c77 (K := fun v w' => K v ⟨w', ds⟩) ?_ fun v w' h => ⟨v, rfl, h⟩)
  unfold D77
  dsimp only
  repeat' (first | refine go ?_ | intro _ | refine And.intro (Sd.mk (by (first | exact fun _ => True.intro | exact And.intro (fun _ => True.intro) (fun _ _ => True.intro) | (intro hq; (first | exact True.intro | omega | (simp only [and_true]; omega) | (simp only [bl] at hq; (try simp only [and_true]); omega) | fail)) | exact And.intro (fun hq => by first | exact True.intro | omega | (simp only [and_true]; omega) | (simp only [bl] at hq; (try simp only [and_true]); omega) | fail) (fun hq hr => by first | exact True.intro | omega | (simp only [and_true]; omega) | (simp only [bl] at hq hr; omega) | (simp only [bl] at hr; omega) | fail) | fail))) ?_ | refine And.intro (by (first | omega | (unfold InR; omega) | decide | (simp only [ll]; omega))) ?_ | (refine And.intro (fun h1 => ?_) (fun h1 => ?_) <;> first | (exact absurd h1 (by decide)) | ((try rw [h1]); (try simp only [bl] at h1))) | dsimp only)
  exact h _ (Sub.hv subEnd)⟩
def splitS (c : UInt8) : List UInt8 → List (List UInt8)
  | [] => [[]]
  | b :: t => if b == c then [] :: splitS c t else match splitS c t with | [] => [[b]] | h :: r => (b :: h) :: r
theorem splitS_none {c : UInt8} {l : List UInt8} (h : l.findIdx? (· == c) = none) : splitS c l = [l] := by
  induction l with
  | nil => rfl
  | cons b t ih =>
    rw [List.findIdx?_cons] at h
    by_cases hb : b == c
    · simp [hb] at h
    · simp only [hb, Bool.false_eq_true, if_false, Option.map_eq_none_iff] at h
      simp only [splitS, hb, Bool.false_eq_true, if_false, ih h]
theorem splitS_some {c : UInt8} {l : List UInt8} : ∀ {i : Nat}, l.findIdx? (· == c) = some i → splitS c l = l.take i :: splitS c (l.drop (i + 1)) := by
  induction l with
  | nil => intro i h; simp at h
  | cons b t ih =>
    intro i h
    rw [List.findIdx?_cons] at h
    by_cases hb : b == c
    · simp only [hb, if_true, Option.some.injEq] at h
      subst h
      simp [splitS, hb]
    · simp only [hb, Bool.false_eq_true, if_false, Option.map_eq_some_iff] at h
      obtain ⟨j, hj, rfl⟩ := h
      simp only [splitS, hb, Bool.false_eq_true, if_false, ih hj]
      simp
theorem splitS_len (c : UInt8) (l : List UInt8) : (splitS c l).length = l.count c + 1 := by
  induction l with
  | nil => rfl
  | cons b t ih =>
    simp only [splitS]
    by_cases hb : b == c
    · simp only [hb, if_true, List.length_cons, ih, List.count_cons]
    · simp only [hb, Bool.false_eq_true, if_false, List.count_cons]
      cases hs : splitS c t with
      | nil => rw [hs] at ih; simp at ih
      | cons h r => rw [hs] at ih; simpa using ih
def fills (done : List (List UInt8)) (m : Nat) : List (List UInt8) := done ++ List.replicate m []
theorem fills_set {done : List (List UInt8)} {m i : Nat} {x : List UInt8} (hi : i = done.length) : ((fills done (m + 1)).map str).set i (str x) = (fills (done ++ [x]) m).map str := by
  subst hi
  unfold fills
  rw [← List.map_set, List.set_append_right _ _ (Nat.le_refl _), Nat.sub_self, List.replicate_succ]
  simp
theorem count_idx {c : UInt8} {l : List UInt8} : 0 < l.count c ↔ 0 ≤ idxB l c := by
  rw [List.count_pos_iff]
  have := @idxB_neg l c
  constructor
  · intro h
    rcases Int.lt_or_le (idxB l c) 0 with h2 | h2
    · exact absurd rfl (this.1 h2 c h)
    · exact h2
  · intro h
    apply Classical.byContradiction
    intro hn
    have := this.2 fun x hx e => hn (e ▸ hx)
    omega
instance gsplit_ok {K : Value → St → Prop} {w0 w : World} {H : List SL} {ds : List Deferred} {l : List UInt8} {c : UInt8} [o : Hv w0 H w] :
    Step (Cl P 112 #[str l, str [c], .int .i64 0, .int .i64 (-1)] K ⟨w, ds⟩) (l.length ≤ 100000 ∧ ∀ v w', Hv w0 (row 9 1 v (splitS c l).length ((splitS c l).map str) :: H) w' → K v ⟨w', ds⟩) := ⟨fun ⟨hb, h⟩ => by
  refine cl_ok (c112 (K := fun v w' => K v ⟨w', ds⟩) ?_ fun v w' h => ⟨v, rfl, h⟩)
  unfold D112
  dsimp only
  have hcl : l.count c ≤ l.length := List.count_le_length
  have e1 : [c].length = 1 := rfl
  repeat' (first | refine go ?_ | intro _ | refine And.intro (Sd.mk (by (first | exact fun _ => True.intro | exact And.intro (fun _ => True.intro) (fun _ _ => True.intro) | (intro hq; (first | exact True.intro | omega | (simp only [and_true]; omega) | (simp only [bl] at hq; (try simp only [and_true]); omega) | fail)) | exact And.intro (fun hq => by first | exact True.intro | omega | (simp only [and_true]; omega) | (simp only [bl] at hq; (try simp only [and_true]); omega) | fail) (fun hq hr => by first | exact True.intro | omega | (simp only [and_true]; omega) | (simp only [bl] at hq hr; omega) | (simp only [bl] at hr; omega) | fail) | fail))) ?_ | refine And.intro (by (first | omega | (unfold InR; omega) | decide | (simp only [ll]; omega))) ?_ | (refine And.intro (fun h1 => ?_) (fun h1 => ?_) <;> first | (exact absurd h1 (by decide)) | ((try rw [h1]); (try simp only [bl] at h1))) | dsimp only)
  · exact absurd h1 (by simp)
  · have en : min (((l.count c : Nat) : Int) + 1) ((l.length : Int) + 1) = (l.count c : Nat) + 1 := by omega
    have en2 : (((l.count c : Nat) : Int) + 1).toNat = l.count c + 1 := by omega
    rename_i v w1 o1
    rw [en, en2] at o1
    rw [en]
    refine ⟨fun x y s => ∃ (done : List (List UInt8)) (rest : List UInt8) (w' : World), x = str rest ∧ y = .int .i64 (done.length : Nat) ∧ s = ⟨w', []⟩ ∧ splitS c l = done ++ splitS c rest ∧ done.length + rest.count c = l.count c ∧ rest.length ≤ l.length ∧ Hv w0 (row 9 1 v (l.count c + 1) ((fills done (rest.count c + 1)).map str) :: H) w',
      fun x _ s => match x with | .string b => b.size | _ => 0, ⟨[], l, w1, rfl, rfl, rfl, rfl, by simp, Nat.le_refl _, by simpa [fills] using o1⟩, ?_⟩
    rintro x y s ⟨done, rest, w2, rfl, rfl, rfl, hs, hc, hr, o2⟩
    have hcr := @count_idx c rest
    have hi : idxB rest c = match rest.findIdx? (· == c) with | some i => (i : Int) | none => -1 := rfl
    repeat' (first | refine go ?_ | intro _ | refine And.intro (Sd.mk (by (first | exact fun _ => True.intro | exact And.intro (fun _ => True.intro) (fun _ _ => True.intro) | (intro hq; (first | exact True.intro | omega | (simp only [and_true]; omega) | (simp only [bl] at hq; (try simp only [and_true]); omega) | fail)) | exact And.intro (fun hq => by first | exact True.intro | omega | (simp only [and_true]; omega) | (simp only [bl] at hq; (try simp only [and_true]); omega) | fail) (fun hq hr => by first | exact True.intro | omega | (simp only [and_true]; omega) | (simp only [bl] at hq hr; omega) | (simp only [bl] at hr; omega) | fail) | fail))) ?_ | refine And.intro (by (first | omega | (unfold InR; omega) | decide | (simp only [ll]; omega))) ?_ | (refine And.intro (fun h1 => ?_) (fun h1 => ?_) <;> first | (exact absurd h1 (by decide)) | ((try rw [h1]); (try simp only [bl] at h1))) | dsimp only)
    · exfalso; omega
    · obtain ⟨i, hf, hi2⟩ : ∃ i : Nat, rest.findIdx? (· == c) = some i ∧ idxB rest c = i := by
        cases hf : rest.findIdx? (· == c) with
        | none => rw [hf] at hi; dsimp only at hi; omega
        | some i => rw [hf] at hi; exact ⟨i, rfl, hi⟩
      have hlt := find_lt hf
      have hss := splitS_some hf
      have hsl := congrArg List.length hss
      rw [List.length_cons, splitS_len, splitS_len] at hsl
      rw [hi2]
      repeat' (first | refine go ?_ | intro _ | refine And.intro (Sd.mk (by (first | exact fun _ => True.intro | exact And.intro (fun _ => True.intro) (fun _ _ => True.intro) | (intro hq; (first | exact True.intro | omega | (simp only [and_true]; omega) | (simp only [bl] at hq; (try simp only [and_true]); omega) | fail)) | exact And.intro (fun hq => by first | exact True.intro | omega | (simp only [and_true]; omega) | (simp only [bl] at hq; (try simp only [and_true]); omega) | fail) (fun hq hr => by first | exact True.intro | omega | (simp only [and_true]; omega) | (simp only [bl] at hq hr; omega) | (simp only [bl] at hr; omega) | fail) | fail))) ?_ | refine And.intro (by (first | omega | (unfold InR; omega) | decide | (simp only [ll]; omega))) ?_ | (refine And.intro (fun h1 => ?_) (fun h1 => ?_) <;> first | (exact absurd h1 (by decide)) | ((try rw [h1]); (try simp only [bl] at h1))) | dsimp only)
      rename_i w3 o3 _
      have e2 : ((i : Int) + ([c].length : Nat)).toNat = i + 1 := by omega
      have e3 : ((i : Int) + 0).toNat = i := by omega
      rw [e2]
      refine ⟨⟨done ++ [rest.take i], rest.drop (i + 1), _, rfl, by simp, rfl, by rw [hs, hss]; simp, by simp; omega, by simp; omega, ?_⟩, by simp [ByteArray.size]; omega⟩
      refine Sub.hv (subRow rfl ?_ subEnd)
      rw [e3]
      have : rest.count c + 1 = ((rest.drop (i + 1)).count c + 1) + 1 := by omega
      rw [this]
      exact fills_set rfl
    · have hc0 : rest.count c = 0 := by omega
      have hf : rest.findIdx? (· == c) = none := by
        cases hf : rest.findIdx? (· == c) with
        | none => rfl
        | some i => have := idxB_some hf; omega
      rw [splitS_none hf] at hs
      rw [hs] at h
      refine h _ _ (Sub.hv (subRow ?_ ?_ subEnd))
      · simp
      · rw [hc0, fills_set rfl, List.take_of_length_le (by simp [fills])]; simp [fills]⟩
instance split_ok {K : Value → St → Prop} {w0 w : World} {H : List SL} {ds : List Deferred} {l : List UInt8} {c : UInt8} [o : Hv w0 H w] :
    Step (Cl P 79 #[str l, str [c]] K ⟨w, ds⟩) (l.length ≤ 100000 ∧ ∀ v w', Hv w0 (row 9 1 v (splitS c l).length ((splitS c l).map str) :: H) w' → K v ⟨w', ds⟩) := ⟨fun ⟨hb, h⟩ => by
  refine cl_ok (c79 (K := fun v w' => K v ⟨w', ds⟩) ?_ fun v w' h => ⟨v, rfl, h⟩)
  unfold D79
  dsimp only
  repeat' (first | refine go ?_ | intro _ | refine And.intro (Sd.mk (by (first | exact fun _ => True.intro | exact And.intro (fun _ => True.intro) (fun _ _ => True.intro) | (intro hq; (first | exact True.intro | omega | (simp only [and_true]; omega) | (simp only [bl] at hq; (try simp only [and_true]); omega) | fail)) | exact And.intro (fun hq => by first | exact True.intro | omega | (simp only [and_true]; omega) | (simp only [bl] at hq; (try simp only [and_true]); omega) | fail) (fun hq hr => by first | exact True.intro | omega | (simp only [and_true]; omega) | (simp only [bl] at hq hr; omega) | (simp only [bl] at hr; omega) | fail) | fail))) ?_ | refine And.intro (by (first | omega | (unfold InR; omega) | decide | (simp only [ll]; omega))) ?_ | (refine And.intro (fun h1 => ?_) (fun h1 => ?_) <;> first | (exact absurd h1 (by decide)) | ((try rw [h1]); (try simp only [bl] at h1))) | dsimp only)
  exact h _ _ (Sub.hv (subRow rfl rfl subEnd))⟩
end Go.Proofs.YtapammcnagjigaaGreatDoor

namespace Go.Proofs.YtapammcnagjigaaGreatDoor
open Go.Vx Go.Lib
/-! strings: IndexRune, IndexAny -/
instance valid_ok {w : World} {r : Int} : VT (Cl P 148 #[.int .i32 r]) w (.bool (validRune r)) := ⟨fun {K ds} h => by
  refine cl_ok ((Tryz.utf8_ValidRune r w).mono fun e w' ⟨he, hw⟩ => ?_)
  subst hw
  exact ⟨_, he, h⟩⟩
theorem Hv.pos {w0 w : World} {H : List SL} {b pos : Nat} {l : List UInt8} (o : Hv w0 (itr b l pos :: H) w) : w.iterPos b = pos := by
  have := o.at
  simp [World.iterPos, this]
theorem getD_low {l : List UInt8} (ha : ∀ b ∈ l, b.toNat < 128) (i : Nat) : (l.getD i default).toNat < 128 := by
  rcases Nat.lt_or_ge i l.length with h | h
  · rw [List.getD_eq_getElem?_getD, List.getElem?_eq_getElem h]; exact ha _ (List.getElem_mem h)
  · rw [List.getD_eq_getElem?_getD, List.getElem?_eq_none h]; decide
set_option maxRecDepth 200000 in
instance irune_ok {K : Value → St → Prop} {w0 w : World} {H : List SL} {ds : List Deferred} {l : List UInt8} {r : Nat} [o : Hv w0 H w] :
    Step (Cl P 137 #[str l, .int .i32 (r : Int)] K ⟨w, ds⟩) ((r ≤ 1114111 ∧ l.length ≤ 1000 ∧ ∀ b ∈ l, b.toNat < 128) ∧ ∀ w', Hv w0 H w' → K (.int .i64 (if r < 128 then idxB l (UInt8.ofNat r) else -1)) ⟨w', ds⟩) := ⟨fun ⟨⟨hr, hl, ha⟩, h⟩ => by
  refine cl_ok (c137 (K := fun v w' => K v ⟨w', ds⟩) ?_ fun v w' h => ⟨v, rfl, h⟩)
  unfold D137
  dsimp only
  repeat' (first | refine go ?_ | intro _ | refine And.intro (Sd.mk (by (first | exact fun _ => True.intro | exact And.intro (fun _ => True.intro) (fun _ _ => True.intro) | (intro hq; (first | exact True.intro | omega | (simp only [and_true]; omega) | (simp only [bl] at hq; (try simp only [and_true]); omega) | fail)) | exact And.intro (fun hq => by first | exact True.intro | omega | (simp only [and_true]; omega) | (simp only [bl] at hq; (try simp only [and_true]); omega) | fail) (fun hq hr => by first | exact True.intro | omega | (simp only [and_true]; omega) | (simp only [bl] at hq hr; omega) | (simp only [bl] at hr; omega) | fail) | fail))) ?_ | refine And.intro (by (first | omega | (unfold InR; omega) | decide | (simp only [ll]; omega))) ?_ | (refine And.intro (fun h1 => ?_) (fun h1 => ?_) <;> first | (exact absurd h1 (by decide)) | ((try rw [h1]); (try simp only [bl] at h1))) | dsimp only)
  · have e : Value.int .u8 (IntKind.u8.wrap (r : Int)) = byteV (UInt8.ofNat r) := by
      simp [byteV, IntKind.wrap, IntKind.signed, IntKind.bits, UInt8.toNat_ofNat']
    rw [e]
    repeat' (first | refine go ?_ | intro _ | refine And.intro (Sd.mk (by (first | exact fun _ => True.intro | exact And.intro (fun _ => True.intro) (fun _ _ => True.intro) | (intro hq; (first | exact True.intro | omega | (simp only [and_true]; omega) | (simp only [bl] at hq; (try simp only [and_true]); omega) | fail)) | exact And.intro (fun hq => by first | exact True.intro | omega | (simp only [and_true]; omega) | (simp only [bl] at hq; (try simp only [and_true]); omega) | fail) (fun hq hr => by first | exact True.intro | omega | (simp only [and_true]; omega) | (simp only [bl] at hq hr; omega) | (simp only [bl] at hr; omega) | fail) | fail))) ?_ | refine And.intro (by (first | omega | (unfold InR; omega) | decide | (simp only [ll]; omega))) ?_ | (refine And.intro (fun h1 => ?_) (fun h1 => ?_) <;> first | (exact absurd h1 (by decide)) | ((try rw [h1]); (try simp only [bl] at h1))) | dsimp only)
    rw [if_pos (by omega)] at h
    exact h _ o
  · rename_i b w1 o1
    rw [if_neg (by omega)] at h
    refine ⟨fun s => ∃ (pos : Nat) (w' : World), s = ⟨w', []⟩ ∧ Hv w0 (itr b l pos :: H) w', fun s => l.length - s.w.iterPos b, ⟨0, w1, rfl, o1⟩, ?_⟩
    rintro s ⟨pos, w2, rfl, o2⟩
    have hp := Hv.pos o2
    repeat' (first | refine go ?_ | intro _ | refine And.intro (Sd.mk (by (first | exact fun _ => True.intro | exact And.intro (fun _ => True.intro) (fun _ _ => True.intro) | (intro hq; (first | exact True.intro | omega | (simp only [and_true]; omega) | (simp only [bl] at hq; (try simp only [and_true]); omega) | fail)) | exact And.intro (fun hq => by first | exact True.intro | omega | (simp only [and_true]; omega) | (simp only [bl] at hq; (try simp only [and_true]); omega) | fail) (fun hq hr => by first | exact True.intro | omega | (simp only [and_true]; omega) | (simp only [bl] at hq hr; omega) | (simp only [bl] at hr; omega) | fail) | fail))) ?_ | refine And.intro (by (first | omega | (unfold InR; omega) | decide | (simp only [ll]; omega))) ?_ | (refine And.intro (fun h1 => ?_) (fun h1 => ?_) <;> first | (exact absurd h1 (by decide)) | ((try rw [h1]); (try simp only [bl] at h1))) | dsimp only)
    · rename_i hlt c wd w3 hR o3
      exfalso
      have h3 : (l.getD pos 0).toNat < 128 := getD_low ha pos
      have h2 := (hR.low h3).1
      omega
    · rename_i hlt c wd w3 hR o3
      have hp3 := Hv.pos o3
      have := hR.wd1
      refine ⟨⟨_, _, rfl, o3⟩, ?_⟩
      show l.length - w3.iterPos b < l.length - w2.iterPos b
      rw [hp, hp3]; omega
    · exact h _ (Sub.hv subEnd)
  · rw [if_neg (by omega)] at h
    exact h _ o
  · rw [if_neg (by omega)] at h
    obtain ⟨e1, e2, e3⟩ := encR_high (r := (r : Int)) (by omega)
    generalize encR (r : Int) = E at *
    have hE : ∀ i < E.length, 128 ≤ (E.getD i default).toNat := fun i hi => by
      rw [List.getD_eq_getElem?_getD, List.getElem?_eq_getElem hi]; exact e3 _ (List.getElem_mem hi)
    refine And.intro (by unfold InR; omega) ?_
    refine ⟨fun x s => x = .int .i64 ((E.length : Int) - 1) ∧ ∃ w' : World, s = ⟨w', []⟩ ∧ Hv w0 H w', fun _ _ => 0, ⟨rfl, w, rfl, o⟩, ?_⟩
    rintro x s ⟨rfl, w2, rfl, o2⟩
    have h4 := hE ((E.length : Int) - 1).toNat (by omega)
    have h5 := getD_low ha ((E.length : Int) - 1).toNat
    have h6 : ∀ j, idxB (l.drop j) (E.getD ((E.length : Int) - 1).toNat default) < 0 := fun j => idxB_neg.2 fun x hx e => by
      have := ha x (List.mem_of_mem_drop hx)
      rw [e] at this; omega
    have h7 := h6 ((E.length : Int) - 1 + 1).toNat
    repeat' (first | refine go ?_ | intro _ | refine And.intro (Sd.mk (by (first | exact fun _ => True.intro | exact And.intro (fun _ => True.intro) (fun _ _ => True.intro) | (intro hq; (first | exact True.intro | omega | (simp only [and_true]; omega) | (simp only [bl] at hq; (try simp only [and_true]); omega) | fail)) | exact And.intro (fun hq => by first | exact True.intro | omega | (simp only [and_true]; omega) | (simp only [bl] at hq; (try simp only [and_true]); omega) | fail) (fun hq hr => by first | exact True.intro | omega | (simp only [and_true]; omega) | (simp only [bl] at hq hr; omega) | (simp only [bl] at hr; omega) | fail) | fail))) ?_ | refine And.intro (by (first | omega | (unfold InR; omega) | decide | (simp only [ll]; omega))) ?_ | (refine And.intro (fun h1 => ?_) (fun h1 => ?_) <;> first | (exact absurd h1 (by decide)) | ((try rw [h1]); (try simp only [bl] at h1))) | dsimp only)
    all_goals first
      | exact h _ (Sub.hv subEnd)
      | (exfalso; omega)
      | (exfalso; rename_i hq; rw [hq] at h5; omega)
      | (exfalso; rw [h1] at h5; omega)
  · exfalso; omega⟩
theorem zeroSet (w : World) : (zeroValue 114).run Tryz.prog w = .ok (.agg (Array.replicate 256 (.bool false))) w := tyz_of (P := Tryz.prog) (t := 114) (inf_of Tryz.type114) (by kernel_rfl) w
end Go.Proofs.YtapammcnagjigaaGreatDoor

namespace Go.Proofs.YtapammcnagjigaaGreatDoor
end Go.Proofs.YtapammcnagjigaaGreatDoor

namespace Go.Proofs.YtapammcnagjigaaGreatDoor
open Go.Vx Go.Lib
/-! names; escapes -/
def letB (b : UInt8) : Bool := (decide (65 ≤ b) && decide (b ≤ 90)) || (decide (97 ≤ b) && decide (b ≤ 122))
def digB (b : UInt8) : Bool := decide (48 ≤ b) && decide (b ≤ 57)
def nmB (b : UInt8) : Bool := letB b || (digB b || (b == 45 || (b == 47 || (b == 43 || b == 46))))
def nameE (l : List UInt8) : Int := if l = [] then 9 else if l.all nmB then 0 else 10
instance let_ok {w : World} {b : UInt8} : VT (Cl P 61 #[byteV b]) w (.bool (letB b)) := ⟨fun {K ds} h => by
  refine cl_ok (c61 (K := fun v w' => K v ⟨w', ds⟩) ?_ fun v w' h => ⟨v, rfl, h⟩)
  unfold D61
  dsimp only
  repeat' (first | refine go ?_ | intro _ | refine And.intro (Sd.mk (by (first | exact fun _ => True.intro | exact And.intro (fun _ => True.intro) (fun _ _ => True.intro) | (intro hq; (first | exact True.intro | omega | (simp only [and_true]; omega) | (simp only [bl] at hq; (try simp only [and_true]); omega) | fail)) | exact And.intro (fun hq => by first | exact True.intro | omega | (simp only [and_true]; omega) | (simp only [bl] at hq; (try simp only [and_true]); omega) | fail) (fun hq hr => by first | exact True.intro | omega | (simp only [and_true]; omega) | (simp only [bl] at hq hr; omega) | (simp only [bl] at hr; omega) | fail) | fail))) ?_ | refine And.intro (by (first | omega | (unfold InR; omega) | decide | (simp only [ll]; omega))) ?_ | (refine And.intro (fun h1 => ?_) (fun h1 => ?_) <;> first | (exact absurd h1 (by decide)) | ((try rw [h1]); (try simp only [bl] at h1))) | dsimp only)
  all_goals exact cast (congrArg (fun b => K (.bool b) _) (by unfold letB; grind)) h⟩
instance dig_ok {w : World} {b : UInt8} : VT (Cl P 62 #[byteV b]) w (.bool (digB b)) := ⟨fun {K ds} h => by
  refine cl_ok (c62 (K := fun v w' => K v ⟨w', ds⟩) ?_ fun v w' h => ⟨v, rfl, h⟩)
  unfold D62
  dsimp only
  repeat' (first | refine go ?_ | intro _ | refine And.intro (Sd.mk (by (first | exact fun _ => True.intro | exact And.intro (fun _ => True.intro) (fun _ _ => True.intro) | (intro hq; (first | exact True.intro | omega | (simp only [and_true]; omega) | (simp only [bl] at hq; (try simp only [and_true]); omega) | fail)) | exact And.intro (fun hq => by first | exact True.intro | omega | (simp only [and_true]; omega) | (simp only [bl] at hq; (try simp only [and_true]); omega) | fail) (fun hq hr => by first | exact True.intro | omega | (simp only [and_true]; omega) | (simp only [bl] at hq hr; omega) | (simp only [bl] at hr; omega) | fail) | fail))) ?_ | refine And.intro (by (first | omega | (unfold InR; omega) | decide | (simp only [ll]; omega))) ?_ | (refine And.intro (fun h1 => ?_) (fun h1 => ?_) <;> first | (exact absurd h1 (by decide)) | ((try rw [h1]); (try simp only [bl] at h1))) | dsimp only)
  all_goals exact cast (congrArg (fun b => K (.bool b) _) (by unfold digB; grind)) h⟩
theorem idx4 (b : UInt8) : idxB [45, 47, 43, 46] b < 0 ↔ ¬ (b = 45 ∨ b = 47 ∨ b = 43 ∨ b = 46) := by
  rw [idxB_neg]; simp; grind
theorem all_snoc {p : UInt8 → Bool} {l : List UInt8} {i : Nat} (hi : i < l.length) (h : (l.take i).all p = true) (hp : p (l.getD i default) = true) : (l.take (i + 1)).all p = true := by
  rw [take_snoc hi]; simp [h, -List.getD_eq_getElem?_getD, hp]
theorem all_false {p : UInt8 → Bool} {l : List UInt8} {i : Nat} (hi : i < l.length) (hp : p (l.getD i default) = false) : l.all p = false := by
  rw [List.all_eq_false]
  refine ⟨l.getD i default, ?_, by simp [hp, -List.getD_eq_getElem?_getD]⟩
  rw [List.getD_eq_getElem?_getD, List.getElem?_eq_getElem hi]; exact List.getElem_mem hi
instance named_ok {K : Value → St → Prop} {w0 w : World} {H : List SL} {ds : List Deferred} {l : List UInt8} [o : Hv w0 H w] :
    Step (Cl P 68 #[str l] K ⟨w, ds⟩) (l.length ≤ 1000000 ∧ ∀ w', Hv w0 H w' → K (.int .i64 (nameE l)) ⟨w', ds⟩) := ⟨fun ⟨hl, h⟩ => by
  refine cl_ok (c68 (K := fun v w' => K v ⟨w', ds⟩) ?_ fun v w' h => ⟨v, rfl, h⟩)
  unfold D68
  dsimp only
  repeat' (first | refine go ?_ | intro _ | refine And.intro (Sd.mk (by (first | exact fun _ => True.intro | exact And.intro (fun _ => True.intro) (fun _ _ => True.intro) | (intro hq; (first | exact True.intro | omega | (simp only [and_true]; omega) | (simp only [bl] at hq; (try simp only [and_true]); omega) | fail)) | exact And.intro (fun hq => by first | exact True.intro | omega | (simp only [and_true]; omega) | (simp only [bl] at hq; (try simp only [and_true]); omega) | fail) (fun hq hr => by first | exact True.intro | omega | (simp only [and_true]; omega) | (simp only [bl] at hq hr; omega) | (simp only [bl] at hr; omega) | fail) | fail))) ?_ | refine And.intro (by (first | omega | (unfold InR; omega) | decide | (simp only [ll]; omega))) ?_ | (refine And.intro (fun h1 => ?_) (fun h1 => ?_) <;> first | (exact absurd h1 (by decide)) | ((try rw [h1]); (try simp only [bl] at h1))) | dsimp only)
  · unfold nameE at h; rw [if_pos h1] at h; exact h _ o
  · have hne := h1
    unfold nameE at h; rw [if_neg hne] at h
    refine ⟨fun y s => ∃ (i : Nat) (w' : World), y = .int .i64 i ∧ s = ⟨w', []⟩ ∧ i ≤ l.length ∧ (l.take i).all nmB = true ∧ Hv w0 H w',
      fun y s => match y with | .int _ z => l.length - z.toNat | _ => 0, ⟨0, w, rfl, rfl, Nat.zero_le _, by simp, o⟩, ?_⟩
    rintro y s ⟨i, w1, rfl, rfl, hi, hp, o1⟩
    rcases Nat.lt_or_ge i l.length with hlt | hge
    · have bad : ∀ w', nmB (l.getD i default) = false → Hv w0 H w' → K (.int .i64 10) ⟨w', ds⟩ := fun w' hb o' => by
        rw [if_neg (by rw [all_false hlt hb]; decide)] at h; exact h _ o'
      have good : ∀ w', nmB (l.getD i default) = true → Hv w0 H w' → ((∃ (i_1 : Nat) (w'_1 : World), Value.int .i64 ((i : Int) + 1) = .int .i64 i_1 ∧ (⟨w', []⟩ : St) = ⟨w'_1, []⟩ ∧ i_1 ≤ l.length ∧ (l.take i_1).all nmB = true ∧ Hv w0 H w'_1) ∧ l.length - ((i : Int) + 1).toNat < l.length - (i : Int).toNat) :=
        fun w' hb o' => ⟨⟨i + 1, w', rfl, rfl, hlt, all_snoc hlt hp hb, o'⟩, by simp; omega⟩
      clear h
      have h4 := idx4 (l.getD i default)
      repeat' (first | refine go ?_ | intro _ | refine And.intro (Sd.mk (by (first | exact fun _ => True.intro | exact And.intro (fun _ => True.intro) (fun _ _ => True.intro) | (intro hq; (first | exact True.intro | omega | (simp only [and_true]; omega) | (simp only [bl] at hq; (try simp only [and_true]); omega) | fail)) | exact And.intro (fun hq => by first | exact True.intro | omega | (simp only [and_true]; omega) | (simp only [bl] at hq; (try simp only [and_true]); omega) | fail) (fun hq hr => by first | exact True.intro | omega | (simp only [and_true]; omega) | (simp only [bl] at hq hr; omega) | (simp only [bl] at hr; omega) | fail) | fail))) ?_ | refine And.intro (by (first | omega | (unfold InR; omega) | decide | (simp only [ll]; omega))) ?_ | (refine And.intro (fun h1 => ?_) (fun h1 => ?_) <;> first | (exact absurd h1 (by decide)) | ((try rw [h1]); (try simp only [bl] at h1))) | dsimp only)
      all_goals first
        | (exfalso; omega)
        | (refine good _ ?_ (Sub.hv subEnd); clear good bad; generalize l.getD i default = b at *; unfold nmB letB digB; grind)
        | (refine bad _ ?_ (Sub.hv subEnd); clear good bad; generalize l.getD i default = b at *; unfold nmB letB digB; grind)
    · rw [List.take_of_length_le hge] at hp
      rw [if_pos hp] at h
      repeat' (first | refine go ?_ | intro _ | refine And.intro (Sd.mk (by (first | exact fun _ => True.intro | exact And.intro (fun _ => True.intro) (fun _ _ => True.intro) | (intro hq; (first | exact True.intro | omega | (simp only [and_true]; omega) | (simp only [bl] at hq; (try simp only [and_true]); omega) | fail)) | exact And.intro (fun hq => by first | exact True.intro | omega | (simp only [and_true]; omega) | (simp only [bl] at hq; (try simp only [and_true]); omega) | fail) (fun hq hr => by first | exact True.intro | omega | (simp only [and_true]; omega) | (simp only [bl] at hq hr; omega) | (simp only [bl] at hr; omega) | fail) | fail))) ?_ | refine And.intro (by (first | omega | (unfold InR; omega) | decide | (simp only [ll]; omega))) ?_ | (refine And.intro (fun h1 => ?_) (fun h1 => ?_) <;> first | (exact absurd h1 (by decide)) | ((try rw [h1]); (try simp only [bl] at h1))) | dsimp only)
      all_goals first
        | exact h _ (Sub.hv subEnd)
        | (exfalso; omega)⟩
instance name_ok {K : Value → St → Prop} {w0 w : World} {H : List SL} {ds : List Deferred} {l : List UInt8} [o : Hv w0 H w] :
    Step (Cl P 58 #[str l] K ⟨w, ds⟩) (l.length ≤ 1000000 ∧ ∀ w', Hv w0 H w' → K (.int .i64 (nameE l)) ⟨w', ds⟩) := ⟨fun ⟨hl, h⟩ => by
  refine cl_ok (c58 (K := fun v w' => K v ⟨w', ds⟩) ?_ fun v w' h => ⟨v, rfl, h⟩)
  unfold D58
  dsimp only
  repeat' (first | refine go ?_ | intro _ | refine And.intro (Sd.mk (by (first | exact fun _ => True.intro | exact And.intro (fun _ => True.intro) (fun _ _ => True.intro) | (intro hq; (first | exact True.intro | omega | (simp only [and_true]; omega) | (simp only [bl] at hq; (try simp only [and_true]); omega) | fail)) | exact And.intro (fun hq => by first | exact True.intro | omega | (simp only [and_true]; omega) | (simp only [bl] at hq; (try simp only [and_true]); omega) | fail) (fun hq hr => by first | exact True.intro | omega | (simp only [and_true]; omega) | (simp only [bl] at hq hr; omega) | (simp only [bl] at hr; omega) | fail) | fail))) ?_ | refine And.intro (by (first | omega | (unfold InR; omega) | decide | (simp only [ll]; omega))) ?_ | (refine And.intro (fun h1 => ?_) (fun h1 => ?_) <;> first | (exact absurd h1 (by decide)) | ((try rw [h1]); (try simp only [bl] at h1))) | dsimp only)
  · unfold nameE at h; rw [if_pos h1] at h; exact h _ o
  · have hne := h1
    unfold nameE at h; rw [if_neg hne] at h
    refine ⟨fun y s => ∃ (i : Nat) (w' : World), y = .int .i64 i ∧ s = ⟨w', []⟩ ∧ i ≤ l.length ∧ (l.take i).all nmB = true ∧ Hv w0 H w',
      fun y s => match y with | .int _ z => l.length - z.toNat | _ => 0, ⟨0, w, rfl, rfl, Nat.zero_le _, by simp, o⟩, ?_⟩
    rintro y s ⟨i, w1, rfl, rfl, hi, hp, o1⟩
    rcases Nat.lt_or_ge i l.length with hlt | hge
    · have bad : ∀ w', nmB (l.getD i default) = false → Hv w0 H w' → K (.int .i64 10) ⟨w', ds⟩ := fun w' hb o' => by
        rw [if_neg (by rw [all_false hlt hb]; decide)] at h; exact h _ o'
      have good : ∀ w', nmB (l.getD i default) = true → Hv w0 H w' → ((∃ (i_1 : Nat) (w'_1 : World), Value.int .i64 ((i : Int) + 1) = .int .i64 i_1 ∧ (⟨w', []⟩ : St) = ⟨w'_1, []⟩ ∧ i_1 ≤ l.length ∧ (l.take i_1).all nmB = true ∧ Hv w0 H w'_1) ∧ l.length - ((i : Int) + 1).toNat < l.length - (i : Int).toNat) :=
        fun w' hb o' => ⟨⟨i + 1, w', rfl, rfl, hlt, all_snoc hlt hp hb, o'⟩, by simp; omega⟩
      clear h
      repeat' (first | refine go ?_ | intro _ | refine And.intro (Sd.mk (by (first | exact fun _ => True.intro | exact And.intro (fun _ => True.intro) (fun _ _ => True.intro) | (intro hq; (first | exact True.intro | omega | (simp only [and_true]; omega) | (simp only [bl] at hq; (try simp only [and_true]); omega) | fail)) | exact And.intro (fun hq => by first | exact True.intro | omega | (simp only [and_true]; omega) | (simp only [bl] at hq; (try simp only [and_true]); omega) | fail) (fun hq hr => by first | exact True.intro | omega | (simp only [and_true]; omega) | (simp only [bl] at hq hr; omega) | (simp only [bl] at hr; omega) | fail) | fail))) ?_ | refine And.intro (by (first | omega | (unfold InR; omega) | decide | (simp only [ll]; omega))) ?_ | (refine And.intro (fun h1 => ?_) (fun h1 => ?_) <;> first | (exact absurd h1 (by decide)) | ((try rw [h1]); (try simp only [bl] at h1))) | dsimp only)
      all_goals first
        | (exfalso; omega)
        | (refine good _ ?_ (Sub.hv subEnd); clear good bad; generalize l.getD i default = b at *; unfold nmB; grind)
        | (refine bad _ ?_ (Sub.hv subEnd); clear good bad; generalize l.getD i default = b at *; unfold nmB; grind)
    · rw [List.take_of_length_le hge] at hp
      rw [if_pos hp] at h
      repeat' (first | refine go ?_ | intro _ | refine And.intro (Sd.mk (by (first | exact fun _ => True.intro | exact And.intro (fun _ => True.intro) (fun _ _ => True.intro) | (intro hq; (first | exact True.intro | omega | (simp only [and_true]; omega) | (simp only [bl] at hq; (try simp only [and_true]); omega) | fail)) | exact And.intro (fun hq => by first | exact True.intro | omega | (simp only [and_true]; omega) | (simp only [bl] at hq; (try simp only [and_true]); omega) | fail) (fun hq hr => by first | exact True.intro | omega | (simp only [and_true]; omega) | (simp only [bl] at hq hr; omega) | (simp only [bl] at hr; omega) | fail) | fail))) ?_ | refine And.intro (by (first | omega | (unfold InR; omega) | decide | (simp only [ll]; omega))) ?_ | (refine And.intro (fun h1 => ?_) (fun h1 => ?_) <;> first | (exact absurd h1 (by decide)) | ((try rw [h1]); (try simp only [bl] at h1))) | dsimp only)
      all_goals first
        | exact h _ (Sub.hv subEnd)
        | (exfalso; omega)⟩
end Go.Proofs.YtapammcnagjigaaGreatDoor

namespace Go.Proofs.YtapammcnagjigaaGreatDoor
open Go.Vx Go.Lib
/-! escapes -/
def plainB (c : UInt8) : UInt8 := if c = 58 then 59 else if c = 115 then 32 else if c = 114 then 13 else if c = 110 then 10 else c
def signB (b : UInt8) : UInt8 := if b = 59 then 58 else if b = 32 then 115 else if b = 92 then 92 else if b = 13 then 114 else if b = 10 then 110 else 0
instance sign_ok {w : World} {b : UInt8} : VT (Cl P 122 #[byteV b]) w (byteV (signB b)) := ⟨fun {K ds} h => by
  refine cl_ok (c122 (K := fun v w' => K v ⟨w', ds⟩) ?_ fun v w' h => ⟨v, rfl, h⟩)
  unfold D122
  dsimp only
  repeat' (first | refine go ?_ | intro _ | refine And.intro (Sd.mk (by (first | exact fun _ => True.intro | exact And.intro (fun _ => True.intro) (fun _ _ => True.intro) | (intro hq; (first | exact True.intro | omega | (simp only [and_true]; omega) | (simp only [bl] at hq; (try simp only [and_true]); omega) | fail)) | exact And.intro (fun hq => by first | exact True.intro | omega | (simp only [and_true]; omega) | (simp only [bl] at hq; (try simp only [and_true]); omega) | fail) (fun hq hr => by first | exact True.intro | omega | (simp only [and_true]; omega) | (simp only [bl] at hq hr; omega) | (simp only [bl] at hr; omega) | fail) | fail))) ?_ | refine And.intro (by (first | omega | (unfold InR; omega) | decide | (simp only [ll]; omega))) ?_ | (refine And.intro (fun h1 => ?_) (fun h1 => ?_) <;> first | (exact absurd h1 (by decide)) | ((try rw [h1]); (try simp only [bl] at h1))) | dsimp only)
  all_goals exact cast (congrArg (fun b => K (byteV b) _) (by unfold signB; grind)) h⟩
/-- What a text stands for: read so far, and whether a backslash waits. -/
def stepU (p : Bool × List UInt8) (b : UInt8) : Bool × List UInt8 := if p.1 then (false, p.2 ++ [plainB b]) else if b = 92 then (true, p.2) else (false, p.2 ++ [b])
def foldU (l : List UInt8) : Bool × List UInt8 := l.foldl stepU (false, [])
def unescS (l : List UInt8) : List UInt8 := (foldU l).2
def escB (b : UInt8) : List UInt8 := if signB b = 0 then [b] else [92, signB b]
def escS (l : List UInt8) : List UInt8 := l.flatMap escB
theorem escS_snoc {l : List UInt8} {i : Nat} (h : i < l.length) : escS (l.take (i + 1)) = escS (l.take i) ++ escB (l.getD i default) := by
  rw [take_snoc h]; simp [escS, -List.getD_eq_getElem?_getD]
theorem escS_len (l : List UInt8) : (escS l).length ≤ 2 * l.length := by
  induction l with
  | nil => simp [escS]
  | cons b l ih =>
    have : (escB b).length ≤ 2 := by unfold escB; split <;> simp
    simp [escS] at ih ⊢; omega
theorem one_piece {l : List UInt8} {i j : Nat} (h : i < l.length) (hj : j = i + 1) : (l.take j).drop i = [l.getD i default] := by
  subst hj
  rw [take_snoc h, List.drop_append]; simp [show min i l.length = i by omega]
instance esc_ok {K : Value → St → Prop} {w0 w : World} {H : List SL} {ds : List Deferred} {l : List UInt8} [o : Hv w0 H w] :
    Step (Cl P 99 #[str l] K ⟨w, ds⟩) (l.length ≤ 100000 ∧ ∀ w', Hv w0 H w' → K (str (escS l)) ⟨w', ds⟩) := ⟨fun ⟨hl, h⟩ => by
  refine cl_ok (c99 (K := fun v w' => K v ⟨w', ds⟩) ?_ fun v w' h => ⟨v, rfl, h⟩)
  unfold D99
  dsimp only
  repeat (first | refine go ?_ | intro _ | refine And.intro (Sd.mk (by (first | exact fun _ => True.intro | exact And.intro (fun _ => True.intro) (fun _ _ => True.intro) | (intro hq; (first | exact True.intro | omega | (simp only [and_true]; omega) | (simp only [bl] at hq; (try simp only [and_true]); omega) | fail)) | exact And.intro (fun hq => by first | exact True.intro | omega | (simp only [and_true]; omega) | (simp only [bl] at hq; (try simp only [and_true]); omega) | fail) (fun hq hr => by first | exact True.intro | omega | (simp only [and_true]; omega) | (simp only [bl] at hq hr; omega) | (simp only [bl] at hr; omega) | fail) | fail))) ?_ | refine And.intro (by (first | omega | (unfold InR; omega) | decide | (simp only [ll]; omega))) ?_ | dsimp only)
  rename_i b w1 o1
  have o2 := sbd_new (e := 5) o1
  clear o1
  refine ⟨fun y s => ∃ (i : Nat) (w' : World), y = .int .i64 i ∧ s = ⟨w', []⟩ ∧ i ≤ l.length ∧ Hv w0 (sbd 80 5 b (escS (l.take i)) :: H) w',
    fun y s => match y with | .int _ z => l.length - z.toNat | _ => 0, ⟨0, w1, rfl, rfl, Nat.zero_le _, o2⟩, ?_⟩
  clear o2
  rintro y s ⟨i, w2, rfl, rfl, hi, o2⟩
  have hlen := escS_len (l.take i)
  rw [List.length_take] at hlen
  rcases Nat.lt_or_ge i l.length with hlt | hge
  · have ht := escS_snoc hlt
    have fin : ∀ (w' : World), Hv w0 (sbd 80 5 b (escS (l.take i) ++ escB (l.getD i default)) :: H) w' →
        ((∃ (i_1 : Nat) (w'_1 : World), Value.int .i64 ((i : Int) + 1) = .int .i64 i_1 ∧ (⟨w', []⟩ : St) = ⟨w'_1, []⟩ ∧ i_1 ≤ l.length ∧ Hv w0 (sbd 80 5 b (escS (l.take i_1)) :: H) w'_1) ∧ l.length - ((i : Int) + 1).toNat < l.length - (i : Int).toNat) := by
      intro w' ho
      exact ⟨⟨i + 1, w', rfl, rfl, hlt, by rw [ht]; exact ho⟩, by simp; omega⟩
    generalize escS (l.take i) = out at *
    have q1 : ([92, 58] : List UInt8).length = 2 := rfl
    have q2 : ([92, 115] : List UInt8).length = 2 := rfl
    have q3 : ([92, 114] : List UInt8).length = 2 := rfl
    have q4 : ([92, 110] : List UInt8).length = 2 := rfl
    repeat' (first | refine go ?_ | intro _ | refine And.intro (Sd.mk (by (first | exact fun _ => True.intro | exact And.intro (fun _ => True.intro) (fun _ _ => True.intro) | (intro hq; (first | exact True.intro | omega | (simp only [and_true]; omega) | (simp only [bl] at hq; (try simp only [and_true]); omega) | fail)) | exact And.intro (fun hq => by first | exact True.intro | omega | (simp only [and_true]; omega) | (simp only [bl] at hq; (try simp only [and_true]); omega) | fail) (fun hq hr => by first | exact True.intro | omega | (simp only [and_true]; omega) | (simp only [bl] at hq hr; omega) | (simp only [bl] at hr; omega) | fail) | fail))) ?_ | refine And.intro (by (first | omega | (unfold InR; omega) | decide | (simp only [ll]; omega))) ?_ | (refine And.intro (fun h1 => ?_) (fun h1 => ?_) <;> first | (exact absurd h1 (by decide)) | ((try rw [h1]); (try simp only [bl] at h1))) | dsimp only)
    all_goals first
      | (exfalso; omega)
      | (refine fin _ (Sub.hv (subSb ?_ subEnd)); unfold escB signB; simp_all; done)
      | (refine And.intro ⟨by omega, by decide, by decide⟩ ?_
         repeat' (first | refine go ?_ | intro _ | refine And.intro (Sd.mk (by (first | exact fun _ => True.intro | exact And.intro (fun _ => True.intro) (fun _ _ => True.intro) | (intro hq; (first | exact True.intro | omega | (simp only [and_true]; omega) | (simp only [bl] at hq; (try simp only [and_true]); omega) | fail)) | exact And.intro (fun hq => by first | exact True.intro | omega | (simp only [and_true]; omega) | (simp only [bl] at hq; (try simp only [and_true]); omega) | fail) (fun hq hr => by first | exact True.intro | omega | (simp only [and_true]; omega) | (simp only [bl] at hq hr; omega) | (simp only [bl] at hr; omega) | fail) | fail))) ?_ | refine And.intro (by (first | omega | (unfold InR; omega) | decide | (simp only [ll]; omega))) ?_ | (refine And.intro (fun h1 => ?_) (fun h1 => ?_) <;> first | (exact absurd h1 (by decide)) | ((try rw [h1]); (try simp only [bl] at h1))) | dsimp only)
         refine fin _ (Sub.hv (subSb ?_ subEnd)); unfold escB signB; simp_all; done)
  · rw [List.take_of_length_le hge] at o2
    have hlen2 := escS_len l
    repeat' (first | refine go ?_ | intro _ | refine And.intro (Sd.mk (by (first | exact fun _ => True.intro | exact And.intro (fun _ => True.intro) (fun _ _ => True.intro) | (intro hq; (first | exact True.intro | omega | (simp only [and_true]; omega) | (simp only [bl] at hq; (try simp only [and_true]); omega) | fail)) | exact And.intro (fun hq => by first | exact True.intro | omega | (simp only [and_true]; omega) | (simp only [bl] at hq; (try simp only [and_true]); omega) | fail) (fun hq hr => by first | exact True.intro | omega | (simp only [and_true]; omega) | (simp only [bl] at hq hr; omega) | (simp only [bl] at hr; omega) | fail) | fail))) ?_ | refine And.intro (by (first | omega | (unfold InR; omega) | decide | (simp only [ll]; omega))) ?_ | (refine And.intro (fun h1 => ?_) (fun h1 => ?_) <;> first | (exact absurd h1 (by decide)) | ((try rw [h1]); (try simp only [bl] at h1))) | dsimp only)
    all_goals first
      | (exfalso; omega)
      | exact h _ (Sub.hv subEnd)⟩
end Go.Proofs.YtapammcnagjigaaGreatDoor

namespace Go.Proofs.YtapammcnagjigaaGreatDoor
open Go.Vx Go.Lib
instance escR_ok {K : Value → St → Prop} {w0 w : World} {H : List SL} {ds : List Deferred} {l : List UInt8} [o : Hv w0 H w] :
    Step (Cl P 97 #[str l] K ⟨w, ds⟩) (l.length ≤ 100000 ∧ ∀ w', Hv w0 H w' → K (str (escS l)) ⟨w', ds⟩) := ⟨fun ⟨hl, h⟩ => by
  refine cl_ok (c97 (K := fun v w' => K v ⟨w', ds⟩) ?_ fun v w' h => ⟨v, rfl, h⟩)
  unfold D97
  dsimp only
  refine ⟨fun x y s => ∃ (i : Nat) (w' : World), x = str (escS (l.take i)) ∧ y = .int .i64 i ∧ s = ⟨w', []⟩ ∧ i ≤ l.length ∧ Hv w0 H w',
    fun _ y s => match y with | .int _ z => l.length - z.toNat | _ => 0, ⟨0, w, rfl, rfl, rfl, Nat.zero_le _, o⟩, ?_⟩
  rintro x y s ⟨i, w2, rfl, rfl, rfl, hi, o2⟩
  have hlen := escS_len (l.take i)
  rw [List.length_take] at hlen
  rcases Nat.lt_or_ge i l.length with hlt | hge
  · have ht := escS_snoc hlt
    have fin : ∀ (out : List UInt8) (w' : World), out = escS (l.take i) ++ escB (l.getD i default) → Hv w0 H w' →
        ((∃ (i_1 : Nat) (w'_1 : World), str out = str (escS (l.take i_1)) ∧ Value.int .i64 ((i : Int) + 1) = .int .i64 i_1 ∧ (⟨w', []⟩ : St) = ⟨w'_1, []⟩ ∧ i_1 ≤ l.length ∧ Hv w0 H w'_1) ∧ l.length - ((i : Int) + 1).toNat < l.length - (i : Int).toNat) := by
      intro out w' e ho
      exact ⟨⟨i + 1, w', by rw [ht, e], rfl, rfl, hlt, ho⟩, by simp; omega⟩
    generalize escS (l.take i) = out at *
    have e2 : ((i : Int) + 1).toNat = i + 1 := by omega
    repeat' (first | refine go ?_ | intro _ | refine And.intro (Sd.mk (by (first | exact fun _ => True.intro | exact And.intro (fun _ => True.intro) (fun _ _ => True.intro) | (intro hq; (first | exact True.intro | omega | (simp only [and_true]; omega) | (simp only [bl] at hq; (try simp only [and_true]); omega) | fail)) | exact And.intro (fun hq => by first | exact True.intro | omega | (simp only [and_true]; omega) | (simp only [bl] at hq; (try simp only [and_true]); omega) | fail) (fun hq hr => by first | exact True.intro | omega | (simp only [and_true]; omega) | (simp only [bl] at hq hr; omega) | (simp only [bl] at hr; omega) | fail) | fail))) ?_ | refine And.intro (by (first | omega | (unfold InR; omega) | decide | (simp only [ll]; omega))) ?_ | (refine And.intro (fun h1 => ?_) (fun h1 => ?_) <;> first | (exact absurd h1 (by decide)) | ((try rw [h1]); (try simp only [bl] at h1))) | dsimp only)
    all_goals first
      | (exfalso; omega)
      | (refine fin _ _ ?_ (Sub.hv subEnd); (try rw [e2, one_piece hlt rfl]); unfold escB; simp_all; done)
  · rw [List.take_of_length_le hge]
    have hlen2 := escS_len l
    repeat' (first | refine go ?_ | intro _ | refine And.intro (Sd.mk (by (first | exact fun _ => True.intro | exact And.intro (fun _ => True.intro) (fun _ _ => True.intro) | (intro hq; (first | exact True.intro | omega | (simp only [and_true]; omega) | (simp only [bl] at hq; (try simp only [and_true]); omega) | fail)) | exact And.intro (fun hq => by first | exact True.intro | omega | (simp only [and_true]; omega) | (simp only [bl] at hq; (try simp only [and_true]); omega) | fail) (fun hq hr => by first | exact True.intro | omega | (simp only [and_true]; omega) | (simp only [bl] at hq hr; omega) | (simp only [bl] at hr; omega) | fail) | fail))) ?_ | refine And.intro (by (first | omega | (unfold InR; omega) | decide | (simp only [ll]; omega))) ?_ | (refine And.intro (fun h1 => ?_) (fun h1 => ?_) <;> first | (exact absurd h1 (by decide)) | ((try rw [h1]); (try simp only [bl] at h1))) | dsimp only)
    all_goals first
      | (exfalso; omega)
      | exact h _ (Sub.hv subEnd)⟩
/-! tags -/
abbrev Tag := List UInt8 × List UInt8
abbrev encT (t : Tag) : List Value := [str t.1, str t.2]
instance : UEnc encT 2 := ⟨fun _ => rfl⟩
instance : EncTy 49 Tag encT 2 := ⟨fun _ => rfl⟩
instance {a b : List UInt8} {zs : List Value} {ys : List Tag} [h : Encs encT zs ys] : Encs encT (str a :: str b :: zs) ((a, b) :: ys) := ⟨by rw [h.eq]; rfl⟩
def atS (l : List Tag) (n : List UInt8) : Int := match l.findIdx? fun t => decide (t.1 = n) with | some i => i | none => -1
theorem atF {l : List Tag} {n : List UInt8} {i : Nat} (h : i < l.length) (hp : ∀ j < i, (l.getD j default).1 ≠ n) (he : (l.getD i default).1 = n) : l.findIdx? (fun t => decide (t.1 = n)) = some i := by
  rw [List.findIdx?_eq_some_iff_getElem]
  refine ⟨h, by simpa [h] using he, fun j hj => ?_⟩
  have := hp j hj
  have hj2 : j < l.length := by omega
  simpa [hj2] using this
theorem atN {l : List Tag} {n : List UInt8} (hp : ∀ j < l.length, (l.getD j default).1 ≠ n) : l.findIdx? (fun t => decide (t.1 = n)) = none := by
  rw [List.findIdx?_eq_none_iff]
  intro x hx
  obtain ⟨j, hj, rfl⟩ := List.getElem_of_mem hx
  have := hp j hj
  simpa [hj] using this
theorem at_some {l : List Tag} {n : List UInt8} {i : Nat} (h : i < l.length) (hp : ∀ j < i, (l.getD j default).1 ≠ n) (he : (l.getD i default).1 = n) : atS l n = (i : Int) := by
  unfold atS; rw [atF h hp he]
theorem at_none {l : List Tag} {n : List UInt8} (hp : ∀ j < l.length, (l.getD j default).1 ≠ n) : atS l n = -1 := by
  unfold atS; rw [atN hp]
section
variable {K : Value → St → Prop} {w0 w : World} {H : List SL} {ds : List Deferred} {x y : Value} {xs ys : List Tag} {n m : Nat} {zx zy : List Value} {nm : List UInt8}
instance at_ok [o : Hv w0 H w] [rx : RdsF w0 H x 2 n zx] [ex : Encs encT zx xs] :
    Step (Cl P 59 #[x, str nm] K ⟨w, ds⟩) (xs.length ≤ 100000 ∧ ∀ w', Hv w0 H w' → K (.int .i64 (atS xs nm)) ⟨w', ds⟩) := ⟨fun ⟨hl, h⟩ => by
  refine cl_ok (c59 (K := fun v w' => K v ⟨w', ds⟩) ?_ fun v w' h => ⟨v, rfl, h⟩)
  obtain rfl : n = xs.length := ex.len (rx.rd w o).len (by decide)
  obtain rfl := ex.eq
  have rlx := rx.loc
  unfold D59
  dsimp only
  refine ⟨fun y s => ∃ (i : Nat) (w' : World), y = .int .i64 i ∧ s = ⟨w', []⟩ ∧ i ≤ xs.length ∧ (∀ j < i, (xs.getD j default).1 ≠ nm) ∧ Hv w0 H w',
    fun y s => match y with | .int _ z => xs.length - z.toNat | _ => 0, ⟨0, w, rfl, rfl, Nat.zero_le _, fun j h => by omega, o⟩, ?_⟩
  rintro y s ⟨i, w1, rfl, rfl, hi, hp, o1⟩
  repeat' (first | refine go ?_ | intro _ | refine And.intro (Sd.mk (by (first | exact fun _ => True.intro | exact And.intro (fun _ => True.intro) (fun _ _ => True.intro) | (intro hq; (first | exact True.intro | omega | (simp only [and_true]; omega) | (simp only [bl] at hq; (try simp only [and_true]); omega) | fail)) | exact And.intro (fun hq => by first | exact True.intro | omega | (simp only [and_true]; omega) | (simp only [bl] at hq; (try simp only [and_true]); omega) | fail) (fun hq hr => by first | exact True.intro | omega | (simp only [and_true]; omega) | (simp only [bl] at hq hr; omega) | (simp only [bl] at hr; omega) | fail) | fail))) ?_ | refine And.intro (by (first | omega | (unfold InR; omega) | decide | (simp only [ll]; omega))) ?_ | (refine And.intro (fun h1 => ?_) (fun h1 => ?_) <;> first | (exact absurd h1 (by decide)) | ((try rw [h1]); (try simp only [bl] at h1))) | dsimp only)
  · have hlt : i < xs.length := by omega
    rw [at_some hlt hp h1] at h
    exact h _ ‹_›
  · have hlt : i < xs.length := by omega
    refine ⟨⟨i + 1, _, rfl, rfl, hlt, fun j hj => ?_, ‹_›⟩, by simp; omega⟩
    rcases Nat.lt_or_ge j i with q | q
    · exact hp j q
    · obtain rfl : j = i := by omega
      exact h1
  · rw [at_none fun j hj => hp j (by omega)] at h
    exact h _ ‹_›⟩
end
end Go.Proofs.YtapammcnagjigaaGreatDoor

namespace Go.Proofs.YtapammcnagjigaaGreatDoor
open Go.Vx Go.Lib
section
variable {K : Value → St → Prop} {w0 w : World} {H R : List SL} {ds : List Deferred} {x y : Value} {xs ys : List Tag} {n m : Nat} {zx zy : List Value} {nm : List UInt8}
def getV (l : List Tag) (n : List UInt8) : List UInt8 × Bool := match l.findIdx? fun t => decide (t.1 = n) with | some i => ((l.getD i default).2, true) | none => ([], false)
instance get_ok [o : Hv w0 H w] [rx : RdsF w0 H x 2 n zx] [ex : Encs encT zx xs] :
    Step (Cl P 70 #[x, str nm] K ⟨w, ds⟩) (xs.length ≤ 100000 ∧ ∀ w', Hv w0 H w' → K (.tuple #[str (getV xs nm).1, .bool (getV xs nm).2]) ⟨w', ds⟩) := ⟨fun ⟨hl, h⟩ => by
  refine cl_ok (c70 (K := fun v w' => K v ⟨w', ds⟩) ?_ fun v w' h => ⟨v, rfl, h⟩)
  obtain rfl : n = xs.length := ex.len (rx.rd w o).len (by decide)
  obtain rfl := ex.eq
  have rlx := rx.loc
  unfold D70
  dsimp only
  repeat (first | refine go ?_ | intro _ | refine And.intro (Sd.mk (by (first | exact fun _ => True.intro | exact And.intro (fun _ => True.intro) (fun _ _ => True.intro) | (intro hq; (first | exact True.intro | omega | (simp only [and_true]; omega) | (simp only [bl] at hq; (try simp only [and_true]); omega) | fail)) | exact And.intro (fun hq => by first | exact True.intro | omega | (simp only [and_true]; omega) | (simp only [bl] at hq; (try simp only [and_true]); omega) | fail) (fun hq hr => by first | exact True.intro | omega | (simp only [and_true]; omega) | (simp only [bl] at hq hr; omega) | (simp only [bl] at hr; omega) | fail) | fail))) ?_ | refine And.intro (by (first | omega | (unfold InR; omega) | decide | (simp only [ll]; omega))) ?_ | dsimp only)
  refine ⟨fun y s => ∃ (i : Nat) (w' : World), y = .int .i64 i ∧ s = ⟨w', []⟩ ∧ i ≤ xs.length ∧ (∀ j < i, (xs.getD j default).1 ≠ nm) ∧ Hv w0 H w',
    fun y s => match y with | .int _ z => xs.length - z.toNat | _ => 0, ⟨0, w, rfl, rfl, Nat.zero_le _, fun j h => by omega, o⟩, ?_⟩
  rintro y s ⟨i, w1, rfl, rfl, hi, hp, o1⟩
  repeat' (first | refine go ?_ | intro _ | refine And.intro (Sd.mk (by (first | exact fun _ => True.intro | exact And.intro (fun _ => True.intro) (fun _ _ => True.intro) | (intro hq; (first | exact True.intro | omega | (simp only [and_true]; omega) | (simp only [bl] at hq; (try simp only [and_true]); omega) | fail)) | exact And.intro (fun hq => by first | exact True.intro | omega | (simp only [and_true]; omega) | (simp only [bl] at hq; (try simp only [and_true]); omega) | fail) (fun hq hr => by first | exact True.intro | omega | (simp only [and_true]; omega) | (simp only [bl] at hq hr; omega) | (simp only [bl] at hr; omega) | fail) | fail))) ?_ | refine And.intro (by (first | omega | (unfold InR; omega) | decide | (simp only [ll]; omega))) ?_ | (refine And.intro (fun h1 => ?_) (fun h1 => ?_) <;> first | (exact absurd h1 (by decide)) | ((try rw [h1]); (try simp only [bl] at h1))) | dsimp only)
  · have hlt : i < xs.length := by omega
    unfold getV at h
    rw [atF hlt hp h1] at h
    exact h _ (Sub.hv subEnd)
  · have hlt : i < xs.length := by omega
    refine ⟨⟨i + 1, _, rfl, rfl, hlt, fun j hj => ?_, Sub.hv subEnd⟩, by simp; omega⟩
    rcases Nat.lt_or_ge j i with q | q
    · exact hp j q
    · obtain rfl : j = i := by omega
      exact h1
  · unfold getV at h
    rw [atN fun j hj => hp j (by omega)] at h
    exact h _ (Sub.hv subEnd)⟩
end
end Go.Proofs.YtapammcnagjigaaGreatDoor

namespace Go.Proofs.YtapammcnagjigaaGreatDoor
open Go.Vx Go.Lib
/-! the tags of a text -/
def valBad (v : List UInt8) : Bool := v.any (([0, 13, 10, 32] : List UInt8).contains ·)
def partE (p : List UInt8) : Int := if nameE (cutB p 61).1 ≠ 0 then nameE (cutB p 61).1 else if valBad (cutB p 61).2.1 then 10 else 0
def partT (p : List UInt8) : Tag := ((cutB p 61).1, unescS (cutB p 61).2.1)
def insT (out : List Tag) (t : Tag) : List Tag := match out.findIdx? fun u => decide (u.1 = t.1) with | some i => out.set i t | none => out ++ [t]
def goP (out : List Tag) : List (List UInt8) → List Tag × Int
  | [] => if 16 < out.length then ([], 7) else (out, 0)
  | p :: ps => if partE p ≠ 0 then ([], partE p) else goP (insT out (partT p)) ps
def parseT (l : List UInt8) : List Tag × Int := goP [] (splitS 59 l)
section
variable {K : Value → St → Prop} {w0 w : World} {H R : List SL} {ds : List Deferred}
set_option maxRecDepth 20000
set_option synthInstance.maxSize 100000
set_option synthInstance.maxHeartbeats 4000000
end
end Go.Proofs.YtapammcnagjigaaGreatDoor

namespace Go.Proofs.YtapammcnagjigaaGreatDoor
open Go.Vx Go.Lib
/-! the document's Parse -/
section
variable {K : Value → St → Prop} {w0 w : World} {H R : List SL} {ds : List Deferred}
set_option maxRecDepth 20000
set_option synthInstance.maxSize 100000
set_option synthInstance.maxHeartbeats 4000000
end
end Go.Proofs.YtapammcnagjigaaGreatDoor

namespace Go.Proofs.YtapammcnagjigaaGreatDoor
open Go.Vx Go.Lib
theorem awT : parseT [97, 61, 98, 92, 115, 99, 59, 43, 100] = ([([97], [98, 32, 99]), ([43, 100], [])], 0) := by decide +kernel
theorem goP_few (ps : List (List UInt8)) : ∀ out, (goP out ps).1.length ≤ 16 := by
  induction ps with
  | nil => intro out; rw [goP]; split <;> simp; omega
  | cons p ps ih => intro out; rw [goP]; split
                    · simp
                    · exact ih _
theorem parse_few (l : List UInt8) : (parseT l).1.length ≤ 16 := goP_few _ _
section
variable {K : Value → St → Prop} {w0 w : World} {H R : List SL} {ds : List Deferred}
end
end Go.Proofs.YtapammcnagjigaaGreatDoor

namespace Go.Proofs.YtapammcnagjigaaGreatDoor
open Go.Vx Go.Lib
/-! the tags of two texts -/
/-- Each name stands but once. -/
def names (l : List Tag) : List (List UInt8) := l.map (·.1)
theorem findT_none {out : List Tag} {n : List UInt8} : out.findIdx? (fun u => decide (u.1 = n)) = none ↔ n ∉ names out := by
  rw [List.findIdx?_eq_none_iff]; simp [names]; grind
theorem getV_has (l : List Tag) (n : List UInt8) : (getV l n).2 = true ↔ n ∈ names l := by
  unfold getV
  cases h : l.findIdx? fun t => decide (t.1 = n) with
  | none => simp; exact findT_none.1 h
  | some i =>
    simp
    apply Classical.byContradiction
    intro hn
    rw [findT_none.2 hn] at h; cases h
end Go.Proofs.YtapammcnagjigaaGreatDoor

namespace Go.Proofs.YtapammcnagjigaaGreatDoor
open Go.Vx Go.Lib
instance (priority := low) rdsF_of {w0 : World} {H H' : List SL} {v : Value} {size n : Nat} {xs : List Value} [r : RdsL w0 H v size n xs] [d : DropTo H' H] : RdsF w0 H' v size n xs := ⟨fun w h => r.rd w (Hv.drop h)⟩
/-! may tags be written? -/
def chkGo (seen : List (List UInt8)) : List Tag → Int
  | [] => 0
  | t :: ts => if nameE t.1 ≠ 0 then nameE t.1 else if (0 : UInt8) ∈ t.2 then 10 else if t.1 ∈ seen then 6 else chkGo (seen ++ [t.1]) ts
def checkT (l : List Tag) : Int := if l = [] then 9 else if chkGo [] l ≠ 0 then chkGo [] l else if 16 < l.length then 7 else 0
theorem chk_drop {l : List Tag} {i : Nat} (h : i < l.length) : chkGo (names (l.take i)) (l.drop i) =
    if nameE (l.getD i default).1 ≠ 0 then nameE (l.getD i default).1 else if (0 : UInt8) ∈ (l.getD i default).2 then 10 else if (l.getD i default).1 ∈ names (l.take i) then 6 else chkGo (names (l.take (i + 1))) (l.drop (i + 1)) := by
  have : l.drop i = l.getD i default :: l.drop (i + 1) := by
    rw [List.drop_eq_getElem_cons h]; congr 1; simp [h]
  rw [this, chkGo, take_snoc h]
  simp [names]
theorem atS_has {l : List Tag} {n : List UInt8} : 0 ≤ atS l n ↔ n ∈ names l := by
  unfold atS
  cases h : l.findIdx? fun t => decide (t.1 = n) with
  | none => have := findT_none.1 h; simp [this]
  | some i =>
    refine ⟨fun _ => ?_, fun _ => by simp⟩
    apply Classical.byContradiction
    intro hn
    rw [findT_none.2 hn] at h; cases h
theorem getD_mem {α : Type} [Inhabited α] {l : List α} {k : Nat} (h : k < l.length) : l.getD k default ∈ l := by
  rw [List.getD_eq_getElem?_getD, List.getElem?_eq_getElem h]; exact List.getElem_mem h
theorem idx_zero {v : List UInt8} : 0 ≤ idxB v 0 ↔ (0 : UInt8) ∈ v := by
  have := @idxB_neg v 0
  constructor
  · intro h
    apply Classical.byContradiction
    intro hn
    have := this.2 fun x hx e => hn (e ▸ hx)
    omega
  · intro h
    apply Classical.byContradiction
    intro hn
    exact this.1 (by omega) 0 h rfl
section
variable {K : Value → St → Prop} {w0 w : World} {H R : List SL} {ds : List Deferred} {x y : Value} {xs ys : List Tag} {n m : Nat} {zx zy : List Value} {nm : List UInt8}
set_option maxRecDepth 20000
set_option synthInstance.maxSize 100000
set_option synthInstance.maxHeartbeats 4000000
instance check_ok [o : Hv w0 H w] [rx : RdsF w0 H x 2 n zx] [ex : Encs encT zx xs] :
    Step (Cl P 31 #[x] K ⟨w, ds⟩) ((xs.length ≤ 1000 ∧ ∀ t ∈ xs, t.1.length ≤ 1000000 ∧ t.2.length ≤ 1000000) ∧ ∀ w', Hv w0 H w' → K (.int .i64 (checkT xs)) ⟨w', ds⟩) := ⟨fun ⟨⟨hl, hm⟩, h⟩ => by
  refine cl_ok (c31 (K := fun v w' => K v ⟨w', ds⟩) ?_ fun v w' h => ⟨v, rfl, h⟩)
  obtain rfl : n = xs.length := ex.len (rx.rd w o).len (by decide)
  obtain rfl := ex.eq
  have rlx := rx.loc
  unfold D31
  dsimp only
  repeat' (first | refine go ?_ | intro _ | refine And.intro (Sd.mk (by (first | exact fun _ => True.intro | exact And.intro (fun _ => True.intro) (fun _ _ => True.intro) | (intro hq; (first | exact True.intro | omega | (simp only [and_true]; omega) | (simp only [bl] at hq; (try simp only [and_true]); omega) | fail)) | exact And.intro (fun hq => by first | exact True.intro | omega | (simp only [and_true]; omega) | (simp only [bl] at hq; (try simp only [and_true]); omega) | fail) (fun hq hr => by first | exact True.intro | omega | (simp only [and_true]; omega) | (simp only [bl] at hq hr; omega) | (simp only [bl] at hr; omega) | fail) | fail))) ?_ | refine And.intro (by (first | omega | (unfold InR; omega) | decide | (simp only [ll]; omega))) ?_ | (refine And.intro (fun h1 => ?_) (fun h1 => ?_) <;> first | (exact absurd h1 (by decide)) | ((try rw [h1]); (try simp only [bl] at h1))) | dsimp only)
  · have : xs = [] := List.eq_nil_of_length_eq_zero (by omega)
    subst this
    exact h _ o
  have hne : xs ≠ [] := fun e => h1 (by rw [e]; rfl)
  unfold checkT at h
  rw [if_neg hne] at h
  refine ⟨fun y s => ∃ (i : Nat) (w' : World), y = .int .i64 i ∧ s = ⟨w', []⟩ ∧ i ≤ xs.length ∧ chkGo [] xs = chkGo (names (xs.take i)) (xs.drop i) ∧ Hv w0 H w',
    fun y s => match y with | .int _ z => xs.length - z.toNat | _ => 0, ⟨0, w, rfl, rfl, Nat.zero_le _, rfl, o⟩, ?_⟩
  rintro y s ⟨i, w1, rfl, rfl, hi, hp, o1⟩
  rcases Nat.lt_or_ge i xs.length with hlt | hge
  · rw [chk_drop hlt] at hp
    have hmi := hm (xs.getD i default) (by rw [List.getD_eq_getElem?_getD, List.getElem?_eq_getElem hlt]; exact List.getElem_mem hlt)
    obtain ⟨m1, m2⟩ := hmi
    have hz := @idx_zero (xs.getD i default).2
    have hti : (xs.take i).length = i := by simp; omega
    have hgv := getV_has (xs.take i) (xs.getD i default).1
    repeat' (first | refine go ?_ | intro _ | refine And.intro (Sd.mk (by (first | exact fun _ => True.intro | exact And.intro (fun _ => True.intro) (fun _ _ => True.intro) | (intro hq; (first | exact True.intro | omega | (simp only [and_true]; omega) | (simp only [bl] at hq; (try simp only [and_true]); omega) | fail)) | exact And.intro (fun hq => by first | exact True.intro | omega | (simp only [and_true]; omega) | (simp only [bl] at hq; (try simp only [and_true]); omega) | fail) (fun hq hr => by first | exact True.intro | omega | (simp only [and_true]; omega) | (simp only [bl] at hq hr; omega) | (simp only [bl] at hr; omega) | fail) | fail))) ?_ | refine And.intro (by (first | omega | (unfold InR; omega) | decide | (simp only [ll]; omega))) ?_ | (refine And.intro (fun h1 => ?_) (fun h1 => ?_) <;> first | (exact absurd h1 (by decide)) | ((try rw [h1]); (try simp only [bl] at h1))) | dsimp only)
    · rw [if_pos h1] at hp
      rw [hp, if_pos h1] at h
      exact h _ (Sub.hv subEnd)
    · rename_i hn0
      rw [if_neg (fun q => q hn0), if_pos (hz.1 h1)] at hp
      rw [hp] at h
      exact h _ (Sub.hv subEnd)
    · rename_i v2 hsub
      have hn0 : nameE (xs.getD i default).1 = 0 := by assumption
      have hz0 : ¬ (0 : UInt8) ∈ (xs.getD i default).2 := fun q => by have := hz.2 q; omega
      rw [if_neg (fun q => q hn0), if_neg hz0] at hp
      have rf : RdsF w0 H v2 2 (i - 0) ((xs.take i).flatMap encT) := by
        have := RdsF.part (enc := encT) (fun _ => rfl) rx hsub
        simpa using this
      have rlf := rf.loc
      clear hsub
      repeat' (first | refine go ?_ | intro _ | refine And.intro (Sd.mk (by (first | exact fun _ => True.intro | exact And.intro (fun _ => True.intro) (fun _ _ => True.intro) | (intro hq; (first | exact True.intro | omega | (simp only [and_true]; omega) | (simp only [bl] at hq; (try simp only [and_true]); omega) | fail)) | exact And.intro (fun hq => by first | exact True.intro | omega | (simp only [and_true]; omega) | (simp only [bl] at hq; (try simp only [and_true]); omega) | fail) (fun hq hr => by first | exact True.intro | omega | (simp only [and_true]; omega) | (simp only [bl] at hq hr; omega) | (simp only [bl] at hr; omega) | fail) | fail))) ?_ | refine And.intro (by (first | omega | (unfold InR; omega) | decide | (simp only [ll]; omega))) ?_ | (refine And.intro (fun h1 => ?_) (fun h1 => ?_) <;> first | (exact absurd h1 (by decide)) | ((try rw [h1]); (try simp only [bl] at h1))) | dsimp only)
      · rw [if_pos (hgv.1 h1)] at hp
        rw [hp] at h
        exact h _ (Sub.hv subEnd)
      · have hnm : ¬ (xs.getD i default).1 ∈ names (xs.take i) := fun q => by rw [hgv.2 q] at h1; cases h1
        rw [if_neg hnm] at hp
        exact ⟨⟨i + 1, _, rfl, rfl, hlt, hp, Sub.hv subEnd⟩, by simp; omega⟩
    · exfalso; omega
  · rw [List.drop_of_length_le hge, chkGo] at hp
    rw [hp, if_neg (by decide)] at h
    repeat' (first | refine go ?_ | intro _ | refine And.intro (Sd.mk (by (first | exact fun _ => True.intro | exact And.intro (fun _ => True.intro) (fun _ _ => True.intro) | (intro hq; (first | exact True.intro | omega | (simp only [and_true]; omega) | (simp only [bl] at hq; (try simp only [and_true]); omega) | fail)) | exact And.intro (fun hq => by first | exact True.intro | omega | (simp only [and_true]; omega) | (simp only [bl] at hq; (try simp only [and_true]); omega) | fail) (fun hq hr => by first | exact True.intro | omega | (simp only [and_true]; omega) | (simp only [bl] at hq hr; omega) | (simp only [bl] at hr; omega) | fail) | fail))) ?_ | refine And.intro (by (first | omega | (unfold InR; omega) | decide | (simp only [ll]; omega))) ?_ | (refine And.intro (fun h1 => ?_) (fun h1 => ?_) <;> first | (exact absurd h1 (by decide)) | ((try rw [h1]); (try simp only [bl] at h1))) | dsimp only)
    · exfalso; omega
    · rw [if_pos (by omega)] at h
      exact h _ (Sub.hv subEnd)
    · rw [if_neg (by omega)] at h
      exact h _ (Sub.hv subEnd)⟩
instance checkR_ok [o : Hv w0 H w] [rx : RdsF w0 H x 2 n zx] [ex : Encs encT zx xs] :
    Step (Cl P 24 #[x] K ⟨w, ds⟩) ((xs.length ≤ 1000 ∧ ∀ t ∈ xs, t.1.length ≤ 1000000 ∧ t.2.length ≤ 1000000) ∧ ∀ w', Hv w0 H w' → K (.int .i64 (checkT xs)) ⟨w', ds⟩) := ⟨fun ⟨⟨hl, hm⟩, h⟩ => by
  refine cl_ok (c24 (K := fun v w' => K v ⟨w', ds⟩) ?_ fun v w' h => ⟨v, rfl, h⟩)
  obtain rfl : n = xs.length := ex.len (rx.rd w o).len (by decide)
  obtain rfl := ex.eq
  have rlx := rx.loc
  unfold D24
  dsimp only
  repeat' (first | refine go ?_ | intro _ | refine And.intro (Sd.mk (by (first | exact fun _ => True.intro | exact And.intro (fun _ => True.intro) (fun _ _ => True.intro) | (intro hq; (first | exact True.intro | omega | (simp only [and_true]; omega) | (simp only [bl] at hq; (try simp only [and_true]); omega) | fail)) | exact And.intro (fun hq => by first | exact True.intro | omega | (simp only [and_true]; omega) | (simp only [bl] at hq; (try simp only [and_true]); omega) | fail) (fun hq hr => by first | exact True.intro | omega | (simp only [and_true]; omega) | (simp only [bl] at hq hr; omega) | (simp only [bl] at hr; omega) | fail) | fail))) ?_ | refine And.intro (by (first | omega | (unfold InR; omega) | decide | (simp only [ll]; omega))) ?_ | (refine And.intro (fun h1 => ?_) (fun h1 => ?_) <;> first | (exact absurd h1 (by decide)) | ((try rw [h1]); (try simp only [bl] at h1))) | dsimp only)
  · have : xs = [] := List.eq_nil_of_length_eq_zero (by omega)
    subst this
    exact h _ o
  have hne : xs ≠ [] := fun e => h1 (by rw [e]; rfl)
  unfold checkT at h
  rw [if_neg hne] at h
  refine ⟨fun y s => ∃ (i : Nat) (w' : World), y = .int .i64 i ∧ s = ⟨w', []⟩ ∧ i ≤ xs.length ∧ chkGo [] xs = chkGo (names (xs.take i)) (xs.drop i) ∧ Hv w0 H w',
    fun y s => match y with | .int _ z => xs.length - z.toNat | _ => 0, ⟨0, w, rfl, rfl, Nat.zero_le _, rfl, o⟩, ?_⟩
  rintro y s ⟨i, w1, rfl, rfl, hi, hp, o1⟩
  rcases Nat.lt_or_ge i xs.length with hlt | hge
  · rw [chk_drop hlt] at hp
    have hmi := hm (xs.getD i default) (by rw [List.getD_eq_getElem?_getD, List.getElem?_eq_getElem hlt]; exact List.getElem_mem hlt)
    obtain ⟨m1, m2⟩ := hmi
    have hti : (xs.take i).length = i := by simp; omega
    have hat := @atS_has (xs.take i) (xs.getD i default).1
    repeat' (first | refine go ?_ | intro _ | refine And.intro (Sd.mk (by (first | exact fun _ => True.intro | exact And.intro (fun _ => True.intro) (fun _ _ => True.intro) | (intro hq; (first | exact True.intro | omega | (simp only [and_true]; omega) | (simp only [bl] at hq; (try simp only [and_true]); omega) | fail)) | exact And.intro (fun hq => by first | exact True.intro | omega | (simp only [and_true]; omega) | (simp only [bl] at hq; (try simp only [and_true]); omega) | fail) (fun hq hr => by first | exact True.intro | omega | (simp only [and_true]; omega) | (simp only [bl] at hq hr; omega) | (simp only [bl] at hr; omega) | fail) | fail))) ?_ | refine And.intro (by (first | omega | (unfold InR; omega) | decide | (simp only [ll]; omega))) ?_ | (refine And.intro (fun h1 => ?_) (fun h1 => ?_) <;> first | (exact absurd h1 (by decide)) | ((try rw [h1]); (try simp only [bl] at h1))) | dsimp only)
    · rw [if_pos h1] at hp
      rw [hp, if_pos h1] at h
      exact h _ (Sub.hv subEnd)
    · have hn0 := h1
      rw [if_neg (fun q => q hn0)] at hp
      rename_i w2 o2
      refine ⟨fun y s => ∃ (k : Nat), y = .int .i64 k ∧ s = ⟨w2, []⟩ ∧ k ≤ (xs.getD i default).2.length ∧ ∀ j < k, (xs.getD i default).2.getD j default ≠ 0,
        fun y s => match y with | .int _ z => (xs.getD i default).2.length - z.toNat | _ => 0, ⟨0, rfl, rfl, Nat.zero_le _, fun j h => by omega⟩, ?_⟩
      rintro y s ⟨k, rfl, rfl, hk, hno⟩
      have hz0 : (xs.getD i default).2.length ≤ k → ¬ (0 : UInt8) ∈ (xs.getD i default).2 := fun q hm => by
        obtain ⟨j, hj, e⟩ := List.getElem_of_mem hm
        have q2 := q
        refine hno j (Nat.lt_of_lt_of_le hj q2) ?_
        rw [List.getD_eq_getElem?_getD, List.getElem?_eq_getElem hj]; exact e
      repeat' (first | refine go ?_ | intro _ | refine And.intro (Sd.mk (by (first | exact fun _ => True.intro | exact And.intro (fun _ => True.intro) (fun _ _ => True.intro) | (intro hq; (first | exact True.intro | omega | (simp only [and_true]; omega) | (simp only [bl] at hq; (try simp only [and_true]); omega) | fail)) | exact And.intro (fun hq => by first | exact True.intro | omega | (simp only [and_true]; omega) | (simp only [bl] at hq; (try simp only [and_true]); omega) | fail) (fun hq hr => by first | exact True.intro | omega | (simp only [and_true]; omega) | (simp only [bl] at hq hr; omega) | (simp only [bl] at hr; omega) | fail) | fail))) ?_ | refine And.intro (by (first | omega | (unfold InR; omega) | decide | (simp only [ll]; omega))) ?_ | (refine And.intro (fun h1 => ?_) (fun h1 => ?_) <;> first | (exact absurd h1 (by decide)) | ((try rw [h1]); (try simp only [bl] at h1))) | dsimp only)
      · have hz1 : (0 : UInt8) ∈ (xs.getD i default).2 := by
          have := getD_mem (show k < (xs.getD i default).2.length by omega)
          rwa [h1] at this
        rw [if_pos hz1] at hp
        rw [hp] at h
        exact h _ (Sub.hv subEnd)
      · refine ⟨⟨k + 1, rfl, rfl, by omega, fun j hj => ?_⟩, (show (xs.getD i default).2.length - ((k : Int) + 1).toNat < (xs.getD i default).2.length - ((k : Int)).toNat by omega)⟩
        rcases Nat.lt_or_ge j k with q | q
        · exact hno j q
        · obtain rfl : j = k := by omega
          exact h1
      · rename_i v2 hsub _ _
        rw [if_neg (hz0 (by omega))] at hp
        have rf : RdsF w0 H v2 2 (i - 0) ((xs.take i).flatMap encT) := by
          have := RdsF.part (enc := encT) (fun _ => rfl) rx hsub
          simpa using this
        have rlf := rf.loc
        clear hsub
        repeat' (first | refine go ?_ | intro _ | refine And.intro (Sd.mk (by (first | exact fun _ => True.intro | exact And.intro (fun _ => True.intro) (fun _ _ => True.intro) | (intro hq; (first | exact True.intro | omega | (simp only [and_true]; omega) | (simp only [bl] at hq; (try simp only [and_true]); omega) | fail)) | exact And.intro (fun hq => by first | exact True.intro | omega | (simp only [and_true]; omega) | (simp only [bl] at hq; (try simp only [and_true]); omega) | fail) (fun hq hr => by first | exact True.intro | omega | (simp only [and_true]; omega) | (simp only [bl] at hq hr; omega) | (simp only [bl] at hr; omega) | fail) | fail))) ?_ | refine And.intro (by (first | omega | (unfold InR; omega) | decide | (simp only [ll]; omega))) ?_ | (refine And.intro (fun h1 => ?_) (fun h1 => ?_) <;> first | (exact absurd h1 (by decide)) | ((try rw [h1]); (try simp only [bl] at h1))) | dsimp only)
        · rw [if_pos (hat.1 h1)] at hp
          rw [hp] at h
          exact h _ (Sub.hv subEnd)
        · have hnm : ¬ (xs.getD i default).1 ∈ names (xs.take i) := fun q => by have := hat.2 q; omega
          rw [if_neg hnm] at hp
          exact ⟨⟨i + 1, _, rfl, rfl, hlt, hp, Sub.hv subEnd⟩, by simp; omega⟩
    · exfalso; omega
  · rw [List.drop_of_length_le hge, chkGo] at hp
    rw [hp, if_neg (by decide)] at h
    repeat' (first | refine go ?_ | intro _ | refine And.intro (Sd.mk (by (first | exact fun _ => True.intro | exact And.intro (fun _ => True.intro) (fun _ _ => True.intro) | (intro hq; (first | exact True.intro | omega | (simp only [and_true]; omega) | (simp only [bl] at hq; (try simp only [and_true]); omega) | fail)) | exact And.intro (fun hq => by first | exact True.intro | omega | (simp only [and_true]; omega) | (simp only [bl] at hq; (try simp only [and_true]); omega) | fail) (fun hq hr => by first | exact True.intro | omega | (simp only [and_true]; omega) | (simp only [bl] at hq hr; omega) | (simp only [bl] at hr; omega) | fail) | fail))) ?_ | refine And.intro (by (first | omega | (unfold InR; omega) | decide | (simp only [ll]; omega))) ?_ | (refine And.intro (fun h1 => ?_) (fun h1 => ?_) <;> first | (exact absurd h1 (by decide)) | ((try rw [h1]); (try simp only [bl] at h1))) | dsimp only)
    · exfalso; omega
    · rw [if_pos (by omega)] at h
      exact h _ (Sub.hv subEnd)
    · rw [if_neg (by omega)] at h
      exact h _ (Sub.hv subEnd)⟩
/-! the text of tags -/
def pieceT (t : Tag) : List UInt8 := t.1 ++ (if t.2 = [] then [] else [61] ++ escS t.2)
def joinT (ps : List (List UInt8)) : List UInt8 := ([59] : List UInt8).intercalate ps
def textT (l : List Tag) : List UInt8 := if checkT l ≠ 0 then [] else joinT (l.map pieceT)
theorem joinT_snoc (ps : List (List UInt8)) (p : List UInt8) : joinT (ps ++ [p]) = (if ps = [] then [] else joinT ps ++ [59]) ++ p := by
  induction ps with
  | nil => simp [joinT, List.intercalate]
  | cons q ps ih =>
    rw [if_neg (by simp)]
    cases ps with
    | nil => simp [joinT, List.intercalate]
    | cons r ps =>
      rw [if_neg (by simp)] at ih
      simp only [joinT, List.intercalate, List.cons_append] at ih ⊢
      simp only [List.intersperse_cons_cons, List.flatten_cons, List.append_assoc] at ih ⊢
      rw [ih]
end
end Go.Proofs.YtapammcnagjigaaGreatDoor

namespace Go.Proofs.YtapammcnagjigaaGreatDoor
open Go.Vx Go.Lib
theorem join_eq (ss : List (List UInt8)) : Lib.join ss [59] = joinT ss := rfl
section
variable {K : Value → St → Prop} {w0 w : World} {H R : List SL} {ds : List Deferred} {x y : Value} {xs ys : List Tag} {n m : Nat} {zx zy : List Value} {nm : List UInt8} {ss : List (List UInt8)}
instance join_ok [o : Hv w0 H w] [r : RowIn H x 9 1 n zx R] [es : Strs zx ss] :
    Step (Cl P 100 #[x, str [59]] K ⟨w, ds⟩) ((ss.length ≤ 100000 ∧ (joinT ss).length ≤ 1000000) ∧ ∀ w', Hv w0 H w' → K (str (joinT ss)) ⟨w', ds⟩) := ⟨fun ⟨⟨hss, hl⟩, h⟩ => by
  obtain rfl := es.eq
  have o1 := Hv.perm r.perm o
  obtain ⟨S, hS, _, hr, h1⟩ := o1.ok
  have hn : ss.length = n := by have := hr.1; simpa using this
  rcases hr.2 with ⟨rfl, h0⟩ | ⟨g, cap, cur, rfl, hb, hg, hnc, hcm, hcs, ht⟩
  · have e : ss = [] := List.eq_nil_of_length_eq_zero (by omega)
    subst e
    refine cl_ok ((Tryz.strings_Join_none none 0 ⟨#[59]⟩ w).mono fun e w' ⟨he, hw⟩ => ?_)
    subst hw
    exact ⟨_, he, h _ o⟩
  · subst hn
    have hlen : (ss.map fun s => (⟨s.toArray⟩ : ByteArray)).length = ss.length := by simp
    have hmap : (ss.map fun s => (⟨s.toArray⟩ : ByteArray)).map (·.data.toList) = ss := by simp [Function.comp_def]
    have hJ := Tryz.strings_Join g 0 cap (ss.map fun s => ⟨s.toArray⟩) ⟨#[59]⟩ w (fun j x hx => by
      have hj : j < ss.length := by
        have := (List.getElem?_eq_some_iff.1 hx).1; simpa using this
      have hc := hr.cellAt j (by omega)
      rw [Nat.zero_add, hc]
      simp [hj] at hx ⊢
      exact hx) (Array.getElem?_eq_some_iff.1 hg).1 (by rw [hlen]; omega) (by rw [hlen]; omega) (by rw [hmap]; show (joinT ss).length ≤ _; omega)
    rw [hlen, hmap] at hJ
    refine cl_ok (hJ.mono fun e w' ⟨he, hw⟩ => ?_)
    exact ⟨_, he, h _ (o.call (G := []) ⟨hw, emp, fun _ h => h.elim, fun _ h => h⟩)⟩⟩
def fits (l : List Tag) : Prop := l.length ≤ 100 ∧ ∀ t ∈ l, t.1.length ≤ 1000 ∧ t.2.length ≤ 1000
theorem piece_len {t : Tag} (h : t.1.length ≤ 1000 ∧ t.2.length ≤ 1000) : (pieceT t).length ≤ 3001 := by
  have := escS_len t.2
  unfold pieceT; split <;> simp <;> omega
theorem join_len (ps : List (List UInt8)) (h : ∀ p ∈ ps, p.length ≤ 3001) : (joinT ps).length ≤ 3002 * ps.length := by
  induction ps with
  | nil => simp [joinT, List.intercalate]
  | cons p ps ih =>
    have h1 := h p (List.mem_cons_self ..)
    have h2 := ih fun q hq => h q (List.mem_cons_of_mem _ hq)
    cases ps with
    | nil => simp [joinT, List.intercalate]; omega
    | cons q ps =>
      simp only [joinT, List.intercalate, List.intersperse_cons_cons, List.flatten_cons, List.length_append, List.length_cons, List.length_nil] at h2 ⊢
      omega
theorem joinp_len {l : List Tag} (h : fits l) (i : Nat) : (joinT ((l.take i).map pieceT)).length ≤ 310000 := by
  have h1 := join_len ((l.take i).map pieceT) fun p hp => by
    obtain ⟨t, ht, rfl⟩ := List.mem_map.1 hp
    exact piece_len (h.2 t (List.mem_of_mem_take ht))
  have h2 := h.1
  rw [List.length_map, List.length_take] at h1
  omega
theorem fits_at {l : List Tag} (h : fits l) {i : Nat} (hi : i < l.length) : (l.getD i default).1.length ≤ 1000 ∧ (l.getD i default).2.length ≤ 1000 := h.2 _ (getD_mem hi)
set_option maxRecDepth 20000
set_option synthInstance.maxSize 100000
set_option synthInstance.maxHeartbeats 4000000
instance text_ok [o : Hv w0 H w] [rx : RdsF w0 H x 2 n zx] [ex : Encs encT zx xs] :
    Step (Cl P 65 #[x] K ⟨w, ds⟩) (fits xs ∧ ∀ w', Hv w0 H w' → K (str (textT xs)) ⟨w', ds⟩) := ⟨fun ⟨hf, h⟩ => by
  refine cl_ok (c65 (K := fun v w' => K v ⟨w', ds⟩) ?_ fun v w' h => ⟨v, rfl, h⟩)
  obtain rfl : n = xs.length := ex.len (rx.rd w o).len (by decide)
  obtain rfl := ex.eq
  have rlx := rx.loc
  unfold D65
  dsimp only
  refine go (And.intro ⟨by have := hf.1; omega, fun t ht => by have := hf.2 t ht; omega⟩ ?_)
  intro w1 o1
  unfold textT at h
  have hl := hf.1
  repeat' (first | refine go ?_ | intro _ | refine And.intro (Sd.mk (by (first | exact fun _ => True.intro | exact And.intro (fun _ => True.intro) (fun _ _ => True.intro) | (intro hq; (first | exact True.intro | omega | (simp only [and_true]; omega) | (simp only [bl] at hq; (try simp only [and_true]); omega) | fail)) | exact And.intro (fun hq => by first | exact True.intro | omega | (simp only [and_true]; omega) | (simp only [bl] at hq; (try simp only [and_true]); omega) | fail) (fun hq hr => by first | exact True.intro | omega | (simp only [and_true]; omega) | (simp only [bl] at hq hr; omega) | (simp only [bl] at hr; omega) | fail) | fail))) ?_ | refine And.intro (by (first | omega | (unfold InR; omega) | decide | (simp only [ll]; omega))) ?_ | (refine And.intro (fun h1 => ?_) (fun h1 => ?_) <;> first | (exact absurd h1 (by decide)) | ((try rw [h1]); (try simp only [bl] at h1))) | dsimp only)
  · rw [if_pos h1] at h; exact h _ o1
  · rw [if_neg (fun q => q h1)] at h
    refine ⟨fun x y s => ∃ (i : Nat) (w' : World), y = .int .i64 i ∧ s = ⟨w', []⟩ ∧ i ≤ xs.length ∧ Hv w0 (row 9 1 x i (((xs.take i).map pieceT).map str) :: H) w',
      fun _ y s => match y with | .int _ z => xs.length - z.toNat | _ => 0, ⟨0, w1, rfl, rfl, Nat.zero_le _, Hv.nilRow 9 1 o1⟩, ?_⟩
    clear o1
    rintro y z s ⟨i, w2, rfl, rfl, hi, o2⟩
    rcases Nat.lt_or_ge i xs.length with hlt | hge
    · have hfa := fits_at hf hlt
      obtain ⟨m1, m2⟩ := hfa
      have hes := escS_len (xs.getD i default).2
      have ht : (xs.take (i + 1)).map pieceT = (xs.take i).map pieceT ++ [pieceT (xs.getD i default)] := by
        rw [take_snoc hlt, List.map_append]; rfl
      have hpc : pieceT (xs.getD i default) = (xs.getD i default).1 ++ (if (xs.getD i default).2 = [] then [] else [61] ++ escS (xs.getD i default).2) := rfl
      have q1 : ([61] : List UInt8).length = 1 := rfl
      repeat' (first | refine go ?_ | intro _ | refine And.intro (Sd.mk (by (first | exact fun _ => True.intro | exact And.intro (fun _ => True.intro) (fun _ _ => True.intro) | (intro hq; (first | exact True.intro | omega | (simp only [and_true]; omega) | (simp only [bl] at hq; (try simp only [and_true]); omega) | fail)) | exact And.intro (fun hq => by first | exact True.intro | omega | (simp only [and_true]; omega) | (simp only [bl] at hq; (try simp only [and_true]); omega) | fail) (fun hq hr => by first | exact True.intro | omega | (simp only [and_true]; omega) | (simp only [bl] at hq hr; omega) | (simp only [bl] at hr; omega) | fail) | fail))) ?_ | refine And.intro (by (first | omega | (unfold InR; omega) | decide | (simp only [ll]; omega))) ?_ | (refine And.intro (fun h1 => ?_) (fun h1 => ?_) <;> first | (exact absurd h1 (by decide)) | ((try rw [h1]); (try simp only [bl] at h1))) | dsimp only)
      · refine ⟨⟨i + 1, _, rfl, rfl, hlt, Sub.hv (subRow rfl ?_ subEnd)⟩, by simp; omega⟩
        rw [ht, hpc, if_neg h1]; simp
      · refine ⟨⟨i + 1, _, rfl, rfl, hlt, Sub.hv (subRow rfl ?_ subEnd)⟩, by simp; omega⟩
        rw [ht, hpc, if_pos h1]; simp
      · exfalso; omega
    · have hil : ((xs.take i).map pieceT).length ≤ 100000 := by simp; omega
      have hjl := joinp_len hf i
      have hjl2 : (joinT ((xs.take i).map pieceT)).length ≤ 1000000 := by omega
      repeat' (first | refine go ?_ | intro _ | refine And.intro (Sd.mk (by (first | exact fun _ => True.intro | exact And.intro (fun _ => True.intro) (fun _ _ => True.intro) | (intro hq; (first | exact True.intro | omega | (simp only [and_true]; omega) | (simp only [bl] at hq; (try simp only [and_true]); omega) | fail)) | exact And.intro (fun hq => by first | exact True.intro | omega | (simp only [and_true]; omega) | (simp only [bl] at hq; (try simp only [and_true]); omega) | fail) (fun hq hr => by first | exact True.intro | omega | (simp only [and_true]; omega) | (simp only [bl] at hq hr; omega) | (simp only [bl] at hr; omega) | fail) | fail))) ?_ | refine And.intro (by (first | omega | (unfold InR; omega) | decide | (simp only [ll]; omega))) ?_ | (refine And.intro (fun h1 => ?_) (fun h1 => ?_) <;> first | (exact absurd h1 (by decide)) | ((try rw [h1]); (try simp only [bl] at h1))) | dsimp only)
      · exfalso; omega
      · rw [List.take_of_length_le hge]
        exact h _ (Sub.hv subEnd)⟩
instance textR_ok [o : Hv w0 H w] [rx : RdsF w0 H x 2 n zx] [ex : Encs encT zx xs] :
    Step (Cl P 63 #[x] K ⟨w, ds⟩) (fits xs ∧ ∀ w', Hv w0 H w' → K (str (textT xs)) ⟨w', ds⟩) := ⟨fun ⟨hf, h⟩ => by
  refine cl_ok (c63 (K := fun v w' => K v ⟨w', ds⟩) ?_ fun v w' h => ⟨v, rfl, h⟩)
  obtain rfl : n = xs.length := ex.len (rx.rd w o).len (by decide)
  obtain rfl := ex.eq
  have rlx := rx.loc
  unfold D63
  dsimp only
  refine go (And.intro ⟨by have := hf.1; omega, fun t ht => by have := hf.2 t ht; omega⟩ ?_)
  intro w1 o1
  unfold textT at h
  have hl := hf.1
  repeat' (first | refine go ?_ | intro _ | refine And.intro (Sd.mk (by (first | exact fun _ => True.intro | exact And.intro (fun _ => True.intro) (fun _ _ => True.intro) | (intro hq; (first | exact True.intro | omega | (simp only [and_true]; omega) | (simp only [bl] at hq; (try simp only [and_true]); omega) | fail)) | exact And.intro (fun hq => by first | exact True.intro | omega | (simp only [and_true]; omega) | (simp only [bl] at hq; (try simp only [and_true]); omega) | fail) (fun hq hr => by first | exact True.intro | omega | (simp only [and_true]; omega) | (simp only [bl] at hq hr; omega) | (simp only [bl] at hr; omega) | fail) | fail))) ?_ | refine And.intro (by (first | omega | (unfold InR; omega) | decide | (simp only [ll]; omega))) ?_ | (refine And.intro (fun h1 => ?_) (fun h1 => ?_) <;> first | (exact absurd h1 (by decide)) | ((try rw [h1]); (try simp only [bl] at h1))) | dsimp only)
  · rw [if_pos h1] at h; exact h _ o1
  · rw [if_neg (fun q => q h1)] at h
    refine ⟨fun x y s => ∃ (i : Nat) (w' : World), x = str (joinT ((xs.take i).map pieceT)) ∧ y = .int .i64 i ∧ s = ⟨w', []⟩ ∧ i ≤ xs.length ∧ Hv w0 H w',
      fun _ y s => match y with | .int _ z => xs.length - z.toNat | _ => 0, ⟨0, w1, rfl, rfl, rfl, Nat.zero_le _, o1⟩, ?_⟩
    clear o1
    rintro y z s ⟨i, w2, rfl, rfl, rfl, hi, o2⟩
    have hjl := joinp_len hf i
    rcases Nat.lt_or_ge i xs.length with hlt | hge
    · have hfa := fits_at hf hlt
      obtain ⟨m1, m2⟩ := hfa
      have hes := escS_len (xs.getD i default).2
      have ht : joinT ((xs.take (i + 1)).map pieceT) = (if i = 0 then [] else joinT ((xs.take i).map pieceT) ++ [59]) ++ pieceT (xs.getD i default) := by
        rw [take_snoc hlt, List.map_append, List.map_singleton, joinT_snoc]
        congr 1
        cases i with
        | zero => simp
        | succ i => rw [if_neg (by intro e; have := congrArg List.length e; rw [List.length_map, List.length_take, List.length_nil] at this; omega), if_neg (by omega)]
      have hj0 : i = 0 → joinT ((xs.take i).map pieceT) = [] := fun e => by subst e; rfl
      have hpc : pieceT (xs.getD i default) = (xs.getD i default).1 ++ (if (xs.getD i default).2 = [] then [] else [61] ++ escS (xs.getD i default).2) := rfl
      have q1 : ([61] : List UInt8).length = 1 := rfl
      have q2 : ([59] : List UInt8).length = 1 := rfl
      generalize joinT ((xs.take i).map pieceT) = out at *
      repeat' (first | refine go ?_ | intro _ | refine And.intro (Sd.mk (by (first | exact fun _ => True.intro | exact And.intro (fun _ => True.intro) (fun _ _ => True.intro) | (intro hq; (first | exact True.intro | omega | (simp only [and_true]; omega) | (simp only [bl] at hq; (try simp only [and_true]); omega) | fail)) | exact And.intro (fun hq => by first | exact True.intro | omega | (simp only [and_true]; omega) | (simp only [bl] at hq; (try simp only [and_true]); omega) | fail) (fun hq hr => by first | exact True.intro | omega | (simp only [and_true]; omega) | (simp only [bl] at hq hr; omega) | (simp only [bl] at hr; omega) | fail) | fail))) ?_ | refine And.intro (by (first | omega | (unfold InR; omega) | decide | (simp only [ll]; omega))) ?_ | (refine And.intro (fun h1 => ?_) (fun h1 => ?_) <;> first | (exact absurd h1 (by decide)) | ((try rw [h1]); (try simp only [bl] at h1))) | dsimp only)
      all_goals first
        | (exfalso; omega)
        | (refine ⟨⟨i + 1, _, ?_, rfl, rfl, hlt, Sub.hv subEnd⟩, by simp; omega⟩
           rw [ht, hpc]
           first
             | rw [if_neg (show ¬ i = 0 by omega), if_neg h1]; simp
             | rw [if_neg (show ¬ i = 0 by omega), if_pos h1]; simp
             | (have hi0 : i = 0 := by omega
                rw [hj0 hi0, if_pos hi0, if_neg h1]; simp)
             | (have hi0 : i = 0 := by omega
                rw [hj0 hi0, if_pos hi0, if_pos h1]; simp))
    · repeat' (first | refine go ?_ | intro _ | refine And.intro (Sd.mk (by (first | exact fun _ => True.intro | exact And.intro (fun _ => True.intro) (fun _ _ => True.intro) | (intro hq; (first | exact True.intro | omega | (simp only [and_true]; omega) | (simp only [bl] at hq; (try simp only [and_true]); omega) | fail)) | exact And.intro (fun hq => by first | exact True.intro | omega | (simp only [and_true]; omega) | (simp only [bl] at hq; (try simp only [and_true]); omega) | fail) (fun hq hr => by first | exact True.intro | omega | (simp only [and_true]; omega) | (simp only [bl] at hq hr; omega) | (simp only [bl] at hr; omega) | fail) | fail))) ?_ | refine And.intro (by (first | omega | (unfold InR; omega) | decide | (simp only [ll]; omega))) ?_ | (refine And.intro (fun h1 => ?_) (fun h1 => ?_) <;> first | (exact absurd h1 (by decide)) | ((try rw [h1]); (try simp only [bl] at h1))) | dsimp only)
      · exfalso; omega
      · rw [List.take_of_length_le hge]
        exact h _ (Sub.hv subEnd)⟩
end
end Go.Proofs.YtapammcnagjigaaGreatDoor

namespace Go.Proofs.YtapammcnagjigaaGreatDoor
open Go.Vx Go.Lib
/-! what is written is read -/
theorem bytes_all (p : UInt8 → Bool) (h : ∀ n : Fin 256, p (UInt8.ofNat n.val) = true) (b : UInt8) : p b = true := by
  have := h ⟨b.toNat, b.toNat_lt⟩
  simpa using this
/-! what was read may be written -/
end Go.Proofs.YtapammcnagjigaaGreatDoor

namespace Go.Proofs.YtapammcnagjigaaGreatDoor
open Go.Vx Go.Lib
section
set_option maxRecDepth 20000
set_option synthInstance.maxSize 100000
set_option synthInstance.maxHeartbeats 4000000
end
end Go.Proofs.YtapammcnagjigaaGreatDoor

