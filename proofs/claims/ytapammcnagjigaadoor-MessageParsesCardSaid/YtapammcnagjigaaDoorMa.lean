import Derived.Test.YtapammcnagjigaaDoorVa
set_option linter.all false
namespace Go.Proofs.YtapammcnagjigaaDoor
open Go.Vx Go.Lib
/-! strings: HasPrefix, CutPrefix, TrimLeft, Trim -/
def hd (l : List UInt8) (c : UInt8) : Bool := decide (0 < l.length) && decide (l.take 1 = [c])
instance hasP0_ok {w : World} {l : List UInt8} {c : UInt8} : VS (Cl P 79 #[str l, str [c]]) w ((l.length : Int) ≤ 1000000000) (.bool (hd l c)) := ⟨fun hb {K ds} h => by
  refine cl_ok (c79 (K := fun v w' => K v ⟨w', ds⟩) ?_ fun v w' h => ⟨v, rfl, h⟩)
  unfold D79
  dsimp only
  have e1 : [c].length = 1 := rfl
  repeat' (first | refine go ?_ | intro _ | refine And.intro (Sd.mk (by (first | exact fun _ => True.intro | exact And.intro (fun _ => True.intro) (fun _ _ => True.intro) | (intro hq; (first | exact True.intro | omega | (simp only [and_true]; omega) | (simp only [bl] at hq; (try simp only [and_true]); omega) | fail)) | exact And.intro (fun hq => by first | exact True.intro | omega | (simp only [and_true]; omega) | (simp only [bl] at hq; (try simp only [and_true]); omega) | fail) (fun hq hr => by first | exact True.intro | omega | (simp only [and_true]; omega) | (simp only [bl] at hq hr; omega) | (simp only [bl] at hr; omega) | fail) | fail))) ?_ | refine And.intro (by (first | omega | (unfold InR; omega) | decide | (simp only [ll]; omega))) ?_ | (refine And.intro (fun h1 => ?_) (fun h1 => ?_) <;> first | (exact absurd h1 (by decide)) | ((try rw [h1]); (try simp only [bl] at h1))) | dsimp only)
  refine cast (congrArg (fun b => K (.bool b) _) ?_) h
  cases l with
  | nil => simp [hd]
  | cons b t => simp [hd]; try omega⟩
instance hasP_ok {w : World} {l : List UInt8} {c : UInt8} : VS (Cl P 38 #[str l, str [c]]) w ((l.length : Int) ≤ 1000000000) (.bool (hd l c)) := ⟨fun hb {K ds} h => by
  refine cl_ok (c38 (K := fun v w' => K v ⟨w', ds⟩) ?_ fun v w' h => ⟨v, rfl, h⟩)
  unfold D38
  dsimp only
  repeat' (first | refine go ?_ | intro _ | refine And.intro (Sd.mk (by (first | exact fun _ => True.intro | exact And.intro (fun _ => True.intro) (fun _ _ => True.intro) | (intro hq; (first | exact True.intro | omega | (simp only [and_true]; omega) | (simp only [bl] at hq; (try simp only [and_true]); omega) | fail)) | exact And.intro (fun hq => by first | exact True.intro | omega | (simp only [and_true]; omega) | (simp only [bl] at hq; (try simp only [and_true]); omega) | fail) (fun hq hr => by first | exact True.intro | omega | (simp only [and_true]; omega) | (simp only [bl] at hq hr; omega) | (simp only [bl] at hr; omega) | fail) | fail))) ?_ | refine And.intro (by (first | omega | (unfold InR; omega) | decide | (simp only [ll]; omega))) ?_ | (refine And.intro (fun h1 => ?_) (fun h1 => ?_) <;> first | (exact absurd h1 (by decide)) | ((try rw [h1]); (try simp only [bl] at h1))) | dsimp only)
  exact h⟩
theorem hd_true {l : List UInt8} {c : UInt8} (h : hd l c = true) : ∃ t, l = c :: t := by
  cases l with
  | nil => simp [hd] at h
  | cons b t => simp [hd] at h; exact ⟨t, by rw [h]⟩
theorem hd_cons {b c : UInt8} {t : List UInt8} : hd (b :: t) c = decide (b = c) := by simp [hd]
instance cutP0_ok {w : World} {l : List UInt8} {c : UInt8} : VS (Cl P 126 #[str l, str [c]]) w ((l.length : Int) ≤ 1000000000) (.tuple #[str (if hd l c then l.drop 1 else l), .bool (hd l c)]) := ⟨fun hb {K ds} h => by
  refine cl_ok (c126 (K := fun v w' => K v ⟨w', ds⟩) ?_ fun v w' h => ⟨v, rfl, h⟩)
  unfold D126
  dsimp only
  have e1 : [c].length = 1 := rfl
  repeat (first | refine go ?_ | intro _ | refine And.intro (Sd.mk (by (first | exact fun _ => True.intro | exact And.intro (fun _ => True.intro) (fun _ _ => True.intro) | (intro hq; (first | exact True.intro | omega | (simp only [and_true]; omega) | (simp only [bl] at hq; (try simp only [and_true]); omega) | fail)) | exact And.intro (fun hq => by first | exact True.intro | omega | (simp only [and_true]; omega) | (simp only [bl] at hq; (try simp only [and_true]); omega) | fail) (fun hq hr => by first | exact True.intro | omega | (simp only [and_true]; omega) | (simp only [bl] at hq hr; omega) | (simp only [bl] at hr; omega) | fail) | fail))) ?_ | refine And.intro (by (first | omega | (unfold InR; omega) | decide | (simp only [ll]; omega))) ?_ | dsimp only)
  refine And.intro (fun h1 => ?_) (fun h1 => ?_)
  · have h2 : hd l c = false := by simpa using h1
    rw [h2] at h
    repeat' (first | refine go ?_ | intro _ | refine And.intro (Sd.mk (by (first | exact fun _ => True.intro | exact And.intro (fun _ => True.intro) (fun _ _ => True.intro) | (intro hq; (first | exact True.intro | omega | (simp only [and_true]; omega) | (simp only [bl] at hq; (try simp only [and_true]); omega) | fail)) | exact And.intro (fun hq => by first | exact True.intro | omega | (simp only [and_true]; omega) | (simp only [bl] at hq; (try simp only [and_true]); omega) | fail) (fun hq hr => by first | exact True.intro | omega | (simp only [and_true]; omega) | (simp only [bl] at hq hr; omega) | (simp only [bl] at hr; omega) | fail) | fail))) ?_ | refine And.intro (by (first | omega | (unfold InR; omega) | decide | (simp only [ll]; omega))) ?_ | (refine And.intro (fun h1 => ?_) (fun h1 => ?_) <;> first | (exact absurd h1 (by decide)) | ((try rw [h1]); (try simp only [bl] at h1))) | dsimp only)
    exact h
  · have h2 : hd l c = true := by simpa using h1
    obtain ⟨t, rfl⟩ := hd_true h2
    rw [h2] at h
    have h3 : ((c :: t).length : Int) = (t.length : Int) + 1 := by simp
    repeat' (first | refine go ?_ | intro _ | refine And.intro (Sd.mk (by (first | exact fun _ => True.intro | exact And.intro (fun _ => True.intro) (fun _ _ => True.intro) | (intro hq; (first | exact True.intro | omega | (simp only [and_true]; omega) | (simp only [bl] at hq; (try simp only [and_true]); omega) | fail)) | exact And.intro (fun hq => by first | exact True.intro | omega | (simp only [and_true]; omega) | (simp only [bl] at hq; (try simp only [and_true]); omega) | fail) (fun hq hr => by first | exact True.intro | omega | (simp only [and_true]; omega) | (simp only [bl] at hq hr; omega) | (simp only [bl] at hr; omega) | fail) | fail))) ?_ | refine And.intro (by (first | omega | (unfold InR; omega) | decide | (simp only [ll]; omega))) ?_ | (refine And.intro (fun h1 => ?_) (fun h1 => ?_) <;> first | (exact absurd h1 (by decide)) | ((try rw [h1]); (try simp only [bl] at h1))) | dsimp only)
    exact h⟩
instance cutP_ok {w : World} {l : List UInt8} {c : UInt8} : VS (Cl P 89 #[str l, str [c]]) w ((l.length : Int) ≤ 1000000000) (.tuple #[str (if hd l c then l.drop 1 else l), .bool (hd l c)]) := ⟨fun hb {K ds} h => by
  refine cl_ok (c89 (K := fun v w' => K v ⟨w', ds⟩) ?_ fun v w' h => ⟨v, rfl, h⟩)
  unfold D89
  dsimp only
  repeat' (first | refine go ?_ | intro _ | refine And.intro (Sd.mk (by (first | exact fun _ => True.intro | exact And.intro (fun _ => True.intro) (fun _ _ => True.intro) | (intro hq; (first | exact True.intro | omega | (simp only [and_true]; omega) | (simp only [bl] at hq; (try simp only [and_true]); omega) | fail)) | exact And.intro (fun hq => by first | exact True.intro | omega | (simp only [and_true]; omega) | (simp only [bl] at hq; (try simp only [and_true]); omega) | fail) (fun hq hr => by first | exact True.intro | omega | (simp only [and_true]; omega) | (simp only [bl] at hq hr; omega) | (simp only [bl] at hr; omega) | fail) | fail))) ?_ | refine And.intro (by (first | omega | (unfold InR; omega) | decide | (simp only [ll]; omega))) ?_ | (refine And.intro (fun h1 => ?_) (fun h1 => ?_) <;> first | (exact absurd h1 (by decide)) | ((try rw [h1]); (try simp only [bl] at h1))) | dsimp only)
  exact h⟩
def trimL (l : List UInt8) (c : UInt8) : List UInt8 := l.dropWhile (· == c)
instance trimL_ok {w : World} {l : List UInt8} {c : UInt8} : VT (Cl P 116 #[str l, byteV c]) w (str (trimL l c)) := ⟨fun {K ds} h => by
  refine cl_ok (c116 (K := fun v w' => K v ⟨w', ds⟩) ?_ fun v w' h => ⟨v, rfl, h⟩)
  unfold D116
  dsimp only
  refine ⟨fun y s => ∃ (m : List UInt8), y = str m ∧ s = ⟨w, []⟩ ∧ trimL m c = trimL l c ∧ m.length ≤ l.length,
    fun y s => match y with | .string b => b.size | _ => 0, ⟨l, rfl, rfl, rfl, Nat.le_refl _⟩, ?_⟩
  rintro y s ⟨m, rfl, rfl, hm, hl⟩
  cases m with
  | nil =>
    repeat' (first | refine go ?_ | intro _ | refine And.intro (Sd.mk (by (first | exact fun _ => True.intro | exact And.intro (fun _ => True.intro) (fun _ _ => True.intro) | (intro hq; (first | exact True.intro | omega | (simp only [and_true]; omega) | (simp only [bl] at hq; (try simp only [and_true]); omega) | fail)) | exact And.intro (fun hq => by first | exact True.intro | omega | (simp only [and_true]; omega) | (simp only [bl] at hq; (try simp only [and_true]); omega) | fail) (fun hq hr => by first | exact True.intro | omega | (simp only [and_true]; omega) | (simp only [bl] at hq hr; omega) | (simp only [bl] at hr; omega) | fail) | fail))) ?_ | refine And.intro (by (first | omega | (unfold InR; omega) | decide | (simp only [ll]; omega))) ?_ | (refine And.intro (fun h1 => ?_) (fun h1 => ?_) <;> first | (exact absurd h1 (by decide)) | ((try rw [h1]); (try simp only [bl] at h1))) | dsimp only)
    · exfalso; have := h1.1; simp at this
    · rw [← hm] at h
      simpa [trimL] using h
  | cons x m' =>
    repeat' (first | refine go ?_ | intro _ | refine And.intro (Sd.mk (by (first | exact fun _ => True.intro | exact And.intro (fun _ => True.intro) (fun _ _ => True.intro) | (intro hq; (first | exact True.intro | omega | (simp only [and_true]; omega) | (simp only [bl] at hq; (try simp only [and_true]); omega) | fail)) | exact And.intro (fun hq => by first | exact True.intro | omega | (simp only [and_true]; omega) | (simp only [bl] at hq; (try simp only [and_true]); omega) | fail) (fun hq hr => by first | exact True.intro | omega | (simp only [and_true]; omega) | (simp only [bl] at hq hr; omega) | (simp only [bl] at hr; omega) | fail) | fail))) ?_ | refine And.intro (by (first | omega | (unfold InR; omega) | decide | (simp only [ll]; omega))) ?_ | (refine And.intro (fun h1 => ?_) (fun h1 => ?_) <;> first | (exact absurd h1 (by decide)) | ((try rw [h1]); (try simp only [bl] at h1))) | dsimp only)
    · have hx : x = c := by simpa using h1
      refine ⟨⟨m', rfl, rfl, ?_, by simp at hl; omega⟩, by simp [ByteArray.size]⟩
      rw [← hm]; simp [trimL, hx]
    · have hx : ¬ x = c := by simpa using h1
      rw [← hm] at h
      simpa [trimL, hx] using h⟩
instance trimLeft_ok {w : World} {l : List UInt8} : VT (Cl P 81 #[str l, .string ⟨#[32]⟩]) w (str (trimL l 32)) := ⟨fun {K ds} h => by
  refine cl_ok (c81 (K := fun v w' => K v ⟨w', ds⟩) ?_ fun v w' h => ⟨v, rfl, h⟩)
  unfold D81
  dsimp only
  repeat' (first | refine go ?_ | intro _ | refine And.intro (Sd.mk (by (first | exact fun _ => True.intro | exact And.intro (fun _ => True.intro) (fun _ _ => True.intro) | (intro hq; (first | exact True.intro | omega | (simp only [and_true]; omega) | (simp only [bl] at hq; (try simp only [and_true]); omega) | fail)) | exact And.intro (fun hq => by first | exact True.intro | omega | (simp only [and_true]; omega) | (simp only [bl] at hq; (try simp only [and_true]); omega) | fail) (fun hq hr => by first | exact True.intro | omega | (simp only [and_true]; omega) | (simp only [bl] at hq hr; omega) | (simp only [bl] at hr; omega) | fail) | fail))) ?_ | refine And.intro (by (first | omega | (unfold InR; omega) | decide | (simp only [ll]; omega))) ?_ | (refine And.intro (fun h1 => ?_) (fun h1 => ?_) <;> first | (exact absurd h1 (by decide)) | ((try rw [h1]); (try simp only [bl] at h1))) | dsimp only)
  · have e : l = [] := by simpa using h1
    subst e
    exact h
  · exact h⟩
/-- A set of bytes. -/
def setB (cs : List UInt8) : List Value := (List.range 256).map fun i => .bool (cs.contains (UInt8.ofNat i))
theorem setB_eq (cs : List UInt8) : setCells cs = (setB cs).toArray := by
  apply Array.toList_inj.1
  have hs : (setCells cs).size = 256 := by
    have : ∀ (l : List UInt8) (a : Array Value), (l.foldl (fun a c => a.setIfInBounds c.toNat (.bool true)) a).size = a.size := by
      intro l
      induction l with
      | nil => intro a; rfl
      | cons x l ih => intro a; rw [List.foldl_cons, ih]; simp
    unfold setCells; rw [this]; simp
  apply List.ext_getElem?
  intro i
  rcases Nat.lt_or_ge i 256 with h | h
  · have h1 := fold_at cs (Array.replicate 256 (.bool false)) false (UInt8.ofNat i) (by simp [Array.getElem?_replicate]; omega)
    have e : (UInt8.ofNat i).toNat = i := by simp; omega
    rw [e] at h1
    simp only [Bool.false_or] at h1
    show (setCells cs).toList[i]? = (setB cs)[i]?
    rw [Array.getElem?_toList]
    unfold setCells
    rw [h1]
    simp [setB, h]
  · rw [List.getElem?_eq_none (by simp [hs]; omega), List.getElem?_eq_none (by simp [setB]; omega)]
instance {cs : List UInt8} : Len (setB cs) 256 := ⟨by simp [setB]⟩
instance {w : World} {cs : List UInt8} : Ones w (setB cs) := ⟨fun v hv => by obtain ⟨_, _, rfl⟩ := List.mem_map.1 hv; rfl⟩
instance (priority := high) {cs : List UInt8} {i n : Nat} : SubX (setB cs) 1 i n [.bool (cs.contains (UInt8.ofNat i))] := ⟨fun hl hi j u hj => by
  unfold setB at hl ⊢
  simp only [List.length_map, List.length_range] at hl
  cases j with
  | zero =>
    simp only [List.getElem?_cons_zero, Option.some.injEq] at hj
    subst hj
    rw [Nat.mul_one, Nat.add_zero, List.getElem?_map, List.getElem?_range (by omega)]
    rfl
  | succ j => simp at hj⟩
section
variable {K : Value → St → Prop} {w0 w : World} {H R : List SL} {ds : List Deferred} {l cs : List UInt8}
instance mkset_ok [o : Hv w0 H w] : Step (Cl P 117 #[str cs] K ⟨w, ds⟩) ((cs.length ≤ 1000 ∧ ∀ b ∈ cs, b.toNat < 128) ∧ ∀ w', Hv w0 H w' → K (.tuple #[.agg (setB cs).toArray, .bool true]) ⟨w', ds⟩) := ⟨fun ⟨⟨hl, ha⟩, h⟩ => by
  refine cl_ok ((Tryd.strings_makeASCIISet zeroSet ⟨cs.toArray⟩ w (by simp [ByteArray.size]; omega) (fun j b hb => ha b (List.mem_of_getElem? (by simpa using hb)))).mono fun e w' ⟨he, hw⟩ => ?_)
  subst hw
  refine ⟨_, he, ?_⟩
  have e : setCells (ByteArray.mk cs.toArray).data.toList = (setB cs).toArray := setB_eq cs
  rw [e]
  exact h _ (o.newObj _).tail⟩
instance inset_ok {b : Nat} {c : UInt8} [o : Hv w0 H w] [i : BoxIn H b 126 (setB cs) R] : VT (Cl P 144 #[.pointer (some ⟨b, 0, none⟩), byteV c]) w (.bool (cs.contains c)) := ⟨fun {K ds} h => by
  refine cl_ok (c144 (K := fun v w' => K v ⟨w', ds⟩) ?_ fun v w' h => ⟨v, rfl, h⟩)
  unfold D144
  dsimp only
  have hc := c.toNat_lt
  repeat' (first | refine go ?_ | intro _ | refine And.intro (Sd.mk (by (first | exact fun _ => True.intro | exact And.intro (fun _ => True.intro) (fun _ _ => True.intro) | (intro hq; (first | exact True.intro | omega | (simp only [and_true]; omega) | (simp only [bl] at hq; (try simp only [and_true]); omega) | fail)) | exact And.intro (fun hq => by first | exact True.intro | omega | (simp only [and_true]; omega) | (simp only [bl] at hq; (try simp only [and_true]); omega) | fail) (fun hq hr => by first | exact True.intro | omega | (simp only [and_true]; omega) | (simp only [bl] at hq hr; omega) | (simp only [bl] at hr; omega) | fail) | fail))) ?_ | refine And.intro (by (first | omega | (unfold InR; omega) | decide | (simp only [ll]; omega))) ?_ | (refine And.intro (fun h1 => ?_) (fun h1 => ?_) <;> first | (exact absurd h1 (by decide)) | ((try rw [h1]); (try simp only [bl] at h1))) | dsimp only)
  simpa using h⟩
def trimLs (l cs : List UInt8) : List UInt8 := l.dropWhile (cs.contains ·)
def trimRs (l cs : List UInt8) : List UInt8 := (l.reverse.dropWhile (cs.contains ·)).reverse
theorem trimRs_snoc (l cs : List UInt8) (x : UInt8) : trimRs (l ++ [x]) cs = if cs.contains x then trimRs l cs else l ++ [x] := by
  unfold trimRs
  rw [List.reverse_append, List.reverse_singleton, List.singleton_append, List.dropWhile_cons]
  split
  · rfl
  · simp
theorem trimRs_len (l cs : List UInt8) : (trimRs l cs).length ≤ l.length := by
  unfold trimRs
  rw [List.length_reverse]
  refine Nat.le_trans (List.IsSuffix.length_le (List.dropWhile_suffix _)) (by simp)
instance trimLs_ok {b : Nat} [o : Hv w0 H w] [i : BoxIn H b 126 (setB cs) R] : VT (Cl P 118 #[str l, .pointer (some ⟨b, 0, none⟩)]) w (str (trimLs l cs)) := ⟨fun {K ds} h => by
  refine cl_ok (c118 (K := fun v w' => K v ⟨w', ds⟩) ?_ fun v w' h => ⟨v, rfl, h⟩)
  unfold D118
  dsimp only
  repeat (first | refine go ?_ | intro _ | refine And.intro (Sd.mk (by (first | exact fun _ => True.intro | exact And.intro (fun _ => True.intro) (fun _ _ => True.intro) | (intro hq; (first | exact True.intro | omega | (simp only [and_true]; omega) | (simp only [bl] at hq; (try simp only [and_true]); omega) | fail)) | exact And.intro (fun hq => by first | exact True.intro | omega | (simp only [and_true]; omega) | (simp only [bl] at hq; (try simp only [and_true]); omega) | fail) (fun hq hr => by first | exact True.intro | omega | (simp only [and_true]; omega) | (simp only [bl] at hq hr; omega) | (simp only [bl] at hr; omega) | fail) | fail))) ?_ | refine And.intro (by (first | omega | (unfold InR; omega) | decide | (simp only [ll]; omega))) ?_ | dsimp only)
  refine ⟨fun y s => ∃ (m : List UInt8), y = str m ∧ s = ⟨w, []⟩ ∧ trimLs m cs = trimLs l cs ∧ m.length ≤ l.length,
    fun y s => match y with | .string b => b.size | _ => 0, ⟨l, rfl, rfl, rfl, Nat.le_refl _⟩, ?_⟩
  rintro y s ⟨m, rfl, rfl, hm, hl⟩
  cases m with
  | nil =>
    rw [← hm] at h
    repeat' (first | refine go ?_ | intro _ | refine And.intro (Sd.mk (by (first | exact fun _ => True.intro | exact And.intro (fun _ => True.intro) (fun _ _ => True.intro) | (intro hq; (first | exact True.intro | omega | (simp only [and_true]; omega) | (simp only [bl] at hq; (try simp only [and_true]); omega) | fail)) | exact And.intro (fun hq => by first | exact True.intro | omega | (simp only [and_true]; omega) | (simp only [bl] at hq; (try simp only [and_true]); omega) | fail) (fun hq hr => by first | exact True.intro | omega | (simp only [and_true]; omega) | (simp only [bl] at hq hr; omega) | (simp only [bl] at hr; omega) | fail) | fail))) ?_ | refine And.intro (by (first | omega | (unfold InR; omega) | decide | (simp only [ll]; omega))) ?_ | (refine And.intro (fun h1 => ?_) (fun h1 => ?_) <;> first | (exact absurd h1 (by decide)) | ((try rw [h1]); (try simp only [bl] at h1))) | dsimp only)
    all_goals first
      | (exfalso; simp at h1; done)
      | simpa [trimLs] using h
  | cons x m' =>
    repeat' (first | refine go ?_ | intro _ | refine And.intro (Sd.mk (by (first | exact fun _ => True.intro | exact And.intro (fun _ => True.intro) (fun _ _ => True.intro) | (intro hq; (first | exact True.intro | omega | (simp only [and_true]; omega) | (simp only [bl] at hq; (try simp only [and_true]); omega) | fail)) | exact And.intro (fun hq => by first | exact True.intro | omega | (simp only [and_true]; omega) | (simp only [bl] at hq; (try simp only [and_true]); omega) | fail) (fun hq hr => by first | exact True.intro | omega | (simp only [and_true]; omega) | (simp only [bl] at hq hr; omega) | (simp only [bl] at hr; omega) | fail) | fail))) ?_ | refine And.intro (by (first | omega | (unfold InR; omega) | decide | (simp only [ll]; omega))) ?_ | (refine And.intro (fun h1 => ?_) (fun h1 => ?_) <;> first | (exact absurd h1 (by decide)) | ((try rw [h1]); (try simp only [bl] at h1))) | dsimp only)
    · have hx : cs.contains x = false := by simpa using h1
      rw [← hm] at h
      simp only [trimLs, List.dropWhile_cons, hx, Bool.false_eq_true, if_false] at h
      exact h
    · have hx : cs.contains x = true := by simpa using h1
      refine ⟨⟨m', rfl, rfl, ?_, by simp at hl; omega⟩, by simp [ByteArray.size]⟩
      rw [← hm]; simp only [trimLs, List.dropWhile_cons, hx, if_true]
    · exfalso; simp at h1; omega⟩
instance trimRs_ok {b : Nat} [o : Hv w0 H w] [i : BoxIn H b 126 (setB cs) R] : VS (Cl P 124 #[str l, .pointer (some ⟨b, 0, none⟩)]) w ((l.length : Int) ≤ 1000000000) (str (trimRs l cs)) := ⟨fun hb {K ds} h => by
  refine cl_ok (c124 (K := fun v w' => K v ⟨w', ds⟩) ?_ fun v w' h => ⟨v, rfl, h⟩)
  unfold D124
  dsimp only
  repeat (first | refine go ?_ | intro _ | refine And.intro (Sd.mk (by (first | exact fun _ => True.intro | exact And.intro (fun _ => True.intro) (fun _ _ => True.intro) | (intro hq; (first | exact True.intro | omega | (simp only [and_true]; omega) | (simp only [bl] at hq; (try simp only [and_true]); omega) | fail)) | exact And.intro (fun hq => by first | exact True.intro | omega | (simp only [and_true]; omega) | (simp only [bl] at hq; (try simp only [and_true]); omega) | fail) (fun hq hr => by first | exact True.intro | omega | (simp only [and_true]; omega) | (simp only [bl] at hq hr; omega) | (simp only [bl] at hr; omega) | fail) | fail))) ?_ | refine And.intro (by (first | omega | (unfold InR; omega) | decide | (simp only [ll]; omega))) ?_ | dsimp only)
  refine ⟨fun y s => ∃ (m : List UInt8), y = str m ∧ s = ⟨w, []⟩ ∧ trimRs m cs = trimRs l cs ∧ m.length ≤ l.length,
    fun y s => match y with | .string b => b.size | _ => 0, ⟨l, rfl, rfl, rfl, Nat.le_refl _⟩, ?_⟩
  rintro y s ⟨m, rfl, rfl, hm, hl⟩
  rcases Nat.eq_zero_or_pos m.length with hz | hpos
  · have : m = [] := List.eq_nil_of_length_eq_zero hz
    subst this
    rw [← hm] at h
    repeat' (first | refine go ?_ | intro _ | refine And.intro (Sd.mk (by (first | exact fun _ => True.intro | exact And.intro (fun _ => True.intro) (fun _ _ => True.intro) | (intro hq; (first | exact True.intro | omega | (simp only [and_true]; omega) | (simp only [bl] at hq; (try simp only [and_true]); omega) | fail)) | exact And.intro (fun hq => by first | exact True.intro | omega | (simp only [and_true]; omega) | (simp only [bl] at hq; (try simp only [and_true]); omega) | fail) (fun hq hr => by first | exact True.intro | omega | (simp only [and_true]; omega) | (simp only [bl] at hq hr; omega) | (simp only [bl] at hr; omega) | fail) | fail))) ?_ | refine And.intro (by (first | omega | (unfold InR; omega) | decide | (simp only [ll]; omega))) ?_ | (refine And.intro (fun h1 => ?_) (fun h1 => ?_) <;> first | (exact absurd h1 (by decide)) | ((try rw [h1]); (try simp only [bl] at h1))) | dsimp only)
    all_goals first
      | (exfalso; simp at h1; done)
      | simpa [trimRs] using h
  · obtain ⟨m', x, rfl⟩ : ∃ m' x, m = m' ++ [x] := ⟨m.dropLast, m.getLast (by intro e; subst e; simp at hpos), (List.dropLast_concat_getLast _).symm⟩
    have en : ((((m' ++ [x]).length : Nat) : Int) - 1).toNat = m'.length := by simp
    repeat' (first | refine go ?_ | intro _ | refine And.intro (Sd.mk (by (first | exact fun _ => True.intro | exact And.intro (fun _ => True.intro) (fun _ _ => True.intro) | (intro hq; (first | exact True.intro | omega | (simp only [and_true]; omega) | (simp only [bl] at hq; (try simp only [and_true]); omega) | fail)) | exact And.intro (fun hq => by first | exact True.intro | omega | (simp only [and_true]; omega) | (simp only [bl] at hq; (try simp only [and_true]); omega) | fail) (fun hq hr => by first | exact True.intro | omega | (simp only [and_true]; omega) | (simp only [bl] at hq hr; omega) | (simp only [bl] at hr; omega) | fail) | fail))) ?_ | refine And.intro (by (first | omega | (unfold InR; omega) | decide | (simp only [ll]; omega))) ?_ | (refine And.intro (fun h1 => ?_) (fun h1 => ?_) <;> first | (exact absurd h1 (by decide)) | ((try rw [h1]); (try simp only [bl] at h1))) | dsimp only)
    all_goals (try rw [en] at h1)
    · have hx : cs.contains x = false := by simpa using h1
      rw [← hm, trimRs_snoc, hx] at h
      exact h
    · have hx : cs.contains x = true := by simpa using h1
      rw [en]
      refine ⟨⟨m', ?_, rfl, ?_, by simp at hl; omega⟩, by simp [ByteArray.size]⟩
      · simp
      · rw [← hm, trimRs_snoc, hx]; rfl
    · exfalso; simp at h1; omega⟩
instance trimSet_ok [o : Hv w0 H w] : Step (Cl P 88 #[str l, str cs] K ⟨w, ds⟩) ((l.length ≤ 100000 ∧ 2 ≤ cs.length ∧ cs.length ≤ 1000 ∧ ∀ b ∈ cs, b.toNat < 128) ∧ ∀ w', Hv w0 H w' → K (str (trimLs (trimRs l cs) cs)) ⟨w', ds⟩) := ⟨fun ⟨⟨hl, h2, h3, ha⟩, h⟩ => by
  refine cl_ok (c88 (K := fun v w' => K v ⟨w', ds⟩) ?_ fun v w' h => ⟨v, rfl, h⟩)
  unfold D88
  dsimp only
  repeat' (first | refine go ?_ | intro _ | refine And.intro (Sd.mk (by (first | exact fun _ => True.intro | exact And.intro (fun _ => True.intro) (fun _ _ => True.intro) | (intro hq; (first | exact True.intro | omega | (simp only [and_true]; omega) | (simp only [bl] at hq; (try simp only [and_true]); omega) | fail)) | exact And.intro (fun hq => by first | exact True.intro | omega | (simp only [and_true]; omega) | (simp only [bl] at hq; (try simp only [and_true]); omega) | fail) (fun hq hr => by first | exact True.intro | omega | (simp only [and_true]; omega) | (simp only [bl] at hq hr; omega) | (simp only [bl] at hr; omega) | fail) | fail))) ?_ | refine And.intro (by (first | omega | (unfold InR; omega) | decide | (simp only [ll]; omega))) ?_ | (refine And.intro (fun h1 => ?_) (fun h1 => ?_) <;> first | (exact absurd h1 (by decide)) | ((try rw [h1]); (try simp only [bl] at h1))) | dsimp only)
  · rcases h1 with e | e
    · subst e
      exact h _ o
    · exfalso; rw [e] at h2; simp at h2
  · exfalso; have := h1.1; omega
  · refine And.intro ⟨h3, ha⟩ ?_
    intro w1 o1
    repeat' (first | refine go ?_ | intro _ | refine And.intro (Sd.mk (by (first | exact fun _ => True.intro | exact And.intro (fun _ => True.intro) (fun _ _ => True.intro) | (intro hq; (first | exact True.intro | omega | (simp only [and_true]; omega) | (simp only [bl] at hq; (try simp only [and_true]); omega) | fail)) | exact And.intro (fun hq => by first | exact True.intro | omega | (simp only [and_true]; omega) | (simp only [bl] at hq; (try simp only [and_true]); omega) | fail) (fun hq hr => by first | exact True.intro | omega | (simp only [and_true]; omega) | (simp only [bl] at hq hr; omega) | (simp only [bl] at hr; omega) | fail) | fail))) ?_ | refine And.intro (by (first | omega | (unfold InR; omega) | decide | (simp only [ll]; omega))) ?_ | (refine And.intro (fun h1 => ?_) (fun h1 => ?_) <;> first | (exact absurd h1 (by decide)) | ((try rw [h1]); (try simp only [bl] at h1))) | dsimp only)
    exact h _ (Sub.hv subEnd)⟩
theorem drop_all {p : UInt8 → Bool} (l : List UInt8) : (∀ x ∈ l.dropWhile p, p x = true) ↔ ∀ x ∈ l, p x = true := by
  induction l with
  | nil => simp
  | cons y l ih =>
    rw [List.dropWhile_cons]
    split
    · rw [ih]; simp_all
    · exact Iff.rfl
theorem drop_none {p : UInt8 → Bool} : ∀ q : List UInt8, (∀ x ∈ q, p x = true) → q.dropWhile p = [] := by
  intro q
  induction q with
  | nil => intro _; rfl
  | cons y q ih => intro hq; rw [List.dropWhile_cons, if_pos (hq y (List.mem_cons_self ..))]; exact ih fun x hx => hq x (List.mem_cons_of_mem _ hx)
theorem trims_nil (l cs : List UInt8) : decide (trimLs (trimRs l cs) cs = []) = l.all (cs.contains ·) := by
  rw [Bool.eq_iff_iff, decide_eq_true_eq, List.all_eq_true]
  have h1 : trimLs (trimRs l cs) cs = [] ↔ ∀ x ∈ trimLs (trimRs l cs) cs, cs.contains x = true := by
    constructor
    · intro h; rw [h]; simp
    · intro h
      exact drop_none _ ((drop_all _).1 h)
  rw [h1]
  unfold trimLs trimRs
  rw [drop_all]
  simp only [List.mem_reverse]
  rw [drop_all]
  simp only [List.mem_reverse]
end
end Go.Proofs.YtapammcnagjigaaDoor
