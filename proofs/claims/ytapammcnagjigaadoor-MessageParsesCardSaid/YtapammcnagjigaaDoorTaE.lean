import Derived.Test.YtapammcnagjigaaDoorTaD
set_option linter.all false
namespace Go.Proofs.YtapammcnagjigaaDoor
open Go.Vx Go.Lib
/-! escapes -/
def plainB (c : UInt8) : UInt8 := if c = 58 then 59 else if c = 115 then 32 else if c = 114 then 13 else if c = 110 then 10 else c
def signB (b : UInt8) : UInt8 := if b = 59 then 58 else if b = 32 then 115 else if b = 92 then 92 else if b = 13 then 114 else if b = 10 then 110 else 0
instance plain_ok {w : World} {b : UInt8} : VT (Cl P 122 #[byteV b]) w (byteV (plainB b)) := ⟨fun {K ds} h => by
  refine cl_ok (c122 (K := fun v w' => K v ⟨w', ds⟩) ?_ fun v w' h => ⟨v, rfl, h⟩)
  unfold D122
  dsimp only
  repeat' (first | refine go ?_ | intro _ | refine And.intro (Sd.mk (by (first | exact fun _ => True.intro | exact And.intro (fun _ => True.intro) (fun _ _ => True.intro) | (intro hq; (first | exact True.intro | omega | (simp only [and_true]; omega) | (simp only [bl] at hq; (try simp only [and_true]); omega) | fail)) | exact And.intro (fun hq => by first | exact True.intro | omega | (simp only [and_true]; omega) | (simp only [bl] at hq; (try simp only [and_true]); omega) | fail) (fun hq hr => by first | exact True.intro | omega | (simp only [and_true]; omega) | (simp only [bl] at hq hr; omega) | (simp only [bl] at hr; omega) | fail) | fail))) ?_ | refine And.intro (by (first | omega | (unfold InR; omega) | decide | (simp only [ll]; omega))) ?_ | (refine And.intro (fun h1 => ?_) (fun h1 => ?_) <;> first | (exact absurd h1 (by decide)) | ((try rw [h1]); (try simp only [bl] at h1))) | dsimp only)
  all_goals exact cast (congrArg (fun b => K (byteV b) _) (by unfold plainB; grind)) h⟩
instance sign_ok {w : World} {b : UInt8} : VT (Cl P 127 #[byteV b]) w (byteV (signB b)) := ⟨fun {K ds} h => by
  refine cl_ok (c127 (K := fun v w' => K v ⟨w', ds⟩) ?_ fun v w' h => ⟨v, rfl, h⟩)
  unfold D127
  dsimp only
  repeat' (first | refine go ?_ | intro _ | refine And.intro (Sd.mk (by (first | exact fun _ => True.intro | exact And.intro (fun _ => True.intro) (fun _ _ => True.intro) | (intro hq; (first | exact True.intro | omega | (simp only [and_true]; omega) | (simp only [bl] at hq; (try simp only [and_true]); omega) | fail)) | exact And.intro (fun hq => by first | exact True.intro | omega | (simp only [and_true]; omega) | (simp only [bl] at hq; (try simp only [and_true]); omega) | fail) (fun hq hr => by first | exact True.intro | omega | (simp only [and_true]; omega) | (simp only [bl] at hq hr; omega) | (simp only [bl] at hr; omega) | fail) | fail))) ?_ | refine And.intro (by (first | omega | (unfold InR; omega) | decide | (simp only [ll]; omega))) ?_ | (refine And.intro (fun h1 => ?_) (fun h1 => ?_) <;> first | (exact absurd h1 (by decide)) | ((try rw [h1]); (try simp only [bl] at h1))) | dsimp only)
  all_goals exact cast (congrArg (fun b => K (byteV b) _) (by unfold signB; grind)) h⟩
/-- What a text stands for: read so far, and whether a backslash waits. -/
def stepU (p : Bool × List UInt8) (b : UInt8) : Bool × List UInt8 := if p.1 then (false, p.2 ++ [plainB b]) else if b = 92 then (true, p.2) else (false, p.2 ++ [b])
def foldU (l : List UInt8) : Bool × List UInt8 := l.foldl stepU (false, [])
def unescS (l : List UInt8) : List UInt8 := (foldU l).2
theorem foldU_snoc (l : List UInt8) (b : UInt8) : foldU (l ++ [b]) = stepU (foldU l) b := by simp [foldU]
theorem foldU_len (l : List UInt8) : ∀ i, i ≤ l.length → (foldU (l.take i)).2.length ≤ i := by
  intro i
  induction i with
  | zero => intro _; simp [foldU]
  | succ i ih =>
    intro h
    have := ih (by omega)
    rw [take_snoc (by omega), foldU_snoc]
    unfold stepU
    split
    · simp; omega
    · split
      · simp; omega
      · simp; omega
instance unesc_ok {K : Value → St → Prop} {w0 w : World} {H : List SL} {ds : List Deferred} {l : List UInt8} [o : Hv w0 H w] :
    Step (Cl P 85 #[str l] K ⟨w, ds⟩) (l.length ≤ 100000 ∧ ∀ w', Hv w0 H w' → K (str (unescS l)) ⟨w', ds⟩) := ⟨fun ⟨hl, h⟩ => by
  refine cl_ok (c85 (K := fun v w' => K v ⟨w', ds⟩) ?_ fun v w' h => ⟨v, rfl, h⟩)
  unfold D85
  dsimp only
  repeat (first | refine go ?_ | intro _ | refine And.intro (Sd.mk (by (first | exact fun _ => True.intro | exact And.intro (fun _ => True.intro) (fun _ _ => True.intro) | (intro hq; (first | exact True.intro | omega | (simp only [and_true]; omega) | (simp only [bl] at hq; (try simp only [and_true]); omega) | fail)) | exact And.intro (fun hq => by first | exact True.intro | omega | (simp only [and_true]; omega) | (simp only [bl] at hq; (try simp only [and_true]); omega) | fail) (fun hq hr => by first | exact True.intro | omega | (simp only [and_true]; omega) | (simp only [bl] at hq hr; omega) | (simp only [bl] at hr; omega) | fail) | fail))) ?_ | refine And.intro (by (first | omega | (unfold InR; omega) | decide | (simp only [ll]; omega))) ?_ | dsimp only)
  rename_i b w1 o1
  have o2 := sbd_new (e := 5) o1
  clear o1
  refine ⟨fun x y s => ∃ (i : Nat) (w' : World), x = .bool (foldU (l.take i)).1 ∧ y = .int .i64 i ∧ s = ⟨w', []⟩ ∧ i ≤ l.length ∧ Hv w0 (sbd 107 5 b (foldU (l.take i)).2 :: H) w',
    fun _ y s => match y with | .int _ z => l.length - z.toNat | _ => 0, ⟨0, w1, rfl, rfl, rfl, Nat.zero_le _, o2⟩, ?_⟩
  clear o2
  rintro x y s ⟨i, w2, rfl, rfl, rfl, hi, o2⟩
  have hlen := foldU_len l i hi
  rcases Nat.lt_or_ge i l.length with hlt | hge
  · have ht : foldU (l.take (i + 1)) = stepU (foldU (l.take i)) (l.getD i default) := by rw [take_snoc hlt, foldU_snoc]
    generalize foldU (l.take i) = p at *
    obtain ⟨tu, out⟩ := p
    dsimp only at hlen o2 ⊢
    have fin : ∀ (t' : Bool) (out' : List UInt8) (w' : World), stepU (tu, out) (l.getD i default) = (t', out') → Hv w0 (sbd 107 5 b out' :: H) w' →
        ((∃ (i_1 : Nat) (w'_1 : World), Value.bool t' = .bool (foldU (l.take i_1)).1 ∧ Value.int .i64 ((i : Int) + 1) = .int .i64 i_1 ∧ (⟨w', []⟩ : St) = ⟨w'_1, []⟩ ∧ i_1 ≤ l.length ∧ Hv w0 (sbd 107 5 b (foldU (l.take i_1)).2 :: H) w'_1) ∧ l.length - ((i : Int) + 1).toNat < l.length - (i : Int).toNat) := by
      intro t' out' w' e ho
      exact ⟨⟨i + 1, w', by rw [ht, e], rfl, rfl, hlt, by rw [ht, e]; exact ho⟩, by simp; omega⟩
    repeat' (first | refine go ?_ | intro _ | refine And.intro (Sd.mk (by (first | exact fun _ => True.intro | exact And.intro (fun _ => True.intro) (fun _ _ => True.intro) | (intro hq; (first | exact True.intro | omega | (simp only [and_true]; omega) | (simp only [bl] at hq; (try simp only [and_true]); omega) | fail)) | exact And.intro (fun hq => by first | exact True.intro | omega | (simp only [and_true]; omega) | (simp only [bl] at hq; (try simp only [and_true]); omega) | fail) (fun hq hr => by first | exact True.intro | omega | (simp only [and_true]; omega) | (simp only [bl] at hq hr; omega) | (simp only [bl] at hr; omega) | fail) | fail))) ?_ | refine And.intro (by (first | omega | (unfold InR; omega) | decide | (simp only [ll]; omega))) ?_ | (refine And.intro (fun h1 => ?_) (fun h1 => ?_) <;> first | (exact absurd h1 (by decide)) | ((try rw [h1]); (try simp only [bl] at h1))) | dsimp only)
    all_goals first
      | (exfalso; omega)
      | (refine fin _ _ _ ?_ (Sub.hv (subSb rfl subEnd)); unfold stepU; simp_all; done)
      | skip
  · rw [List.take_of_length_le hge] at o2 hlen
    have hlen2 : (foldU l).2.length ≤ 100000 := by omega
    repeat' (first | refine go ?_ | intro _ | refine And.intro (Sd.mk (by (first | exact fun _ => True.intro | exact And.intro (fun _ => True.intro) (fun _ _ => True.intro) | (intro hq; (first | exact True.intro | omega | (simp only [and_true]; omega) | (simp only [bl] at hq; (try simp only [and_true]); omega) | fail)) | exact And.intro (fun hq => by first | exact True.intro | omega | (simp only [and_true]; omega) | (simp only [bl] at hq; (try simp only [and_true]); omega) | fail) (fun hq hr => by first | exact True.intro | omega | (simp only [and_true]; omega) | (simp only [bl] at hq hr; omega) | (simp only [bl] at hr; omega) | fail) | fail))) ?_ | refine And.intro (by (first | omega | (unfold InR; omega) | decide | (simp only [ll]; omega))) ?_ | (refine And.intro (fun h1 => ?_) (fun h1 => ?_) <;> first | (exact absurd h1 (by decide)) | ((try rw [h1]); (try simp only [bl] at h1))) | dsimp only)
    all_goals first
      | (exfalso; omega)
      | exact h _ (Sub.hv subEnd)⟩
def escB (b : UInt8) : List UInt8 := if signB b = 0 then [b] else [92, signB b]
def escS (l : List UInt8) : List UInt8 := l.flatMap escB
theorem escS_snoc {l : List UInt8} {i : Nat} (h : i < l.length) : escS (l.take (i + 1)) = escS (l.take i) ++ escB (l.getD i default) := by
  rw [take_snoc h]; simp [escS, -List.getD_eq_getElem?_getD]
theorem escS_len (l : List UInt8) : (escS l).length ≤ 2 * l.length := by
  induction l with
  | nil => simp [escS]
  | cons b l ih =>
    have : (escB b).length ≤ 2 := by unfold escB; split <;> simp
    simp [escS] at ih ⊢; omega
theorem one_piece {l : List UInt8} {i j : Nat} (h : i < l.length) (hj : j = i + 1) : (l.take j).drop i = [l.getD i default] := by
  subst hj
  rw [take_snoc h, List.drop_append]; simp [show min i l.length = i by omega]
def cAt (s : UInt8) : Nat → UInt8
  | 0 => s
  | k + 1 => if signB (UInt8.ofNat k) = s then UInt8.ofNat k else cAt s k
theorem cAt_fin : ∀ n : Fin 256, n.val = 0 ∨ cAt (UInt8.ofNat n.val) 256 = plainB (UInt8.ofNat n.val) := by decide +kernel
theorem cAt_eq {b : UInt8} (h : b ≠ 0) : cAt b 256 = plainB b := by
  rcases cAt_fin ⟨b.toNat, b.toNat_lt⟩ with h2 | h2
  · exact absurd (UInt8.toNat_inj.1 (by simpa using h2)) h
  · simpa using h2
instance unescR_ok {K : Value → St → Prop} {w0 w : World} {H : List SL} {ds : List Deferred} {l : List UInt8} [o : Hv w0 H w] :
    Step (Cl P 92 #[str l] K ⟨w, ds⟩) ((l.length ≤ 100000 ∧ ∀ i < l.length, l.getD i default ≠ 0) ∧ ∀ w', Hv w0 H w' → K (str (unescS l)) ⟨w', ds⟩) := ⟨fun ⟨⟨hl, hz⟩, h⟩ => by
  refine cl_ok (c92 (K := fun v w' => K v ⟨w', ds⟩) ?_ fun v w' h => ⟨v, rfl, h⟩)
  unfold D92
  dsimp only
  refine ⟨fun x y s => ∃ (i : Nat) (w' : World), x = str (foldU (l.take i)).2 ∧ y = .int .i64 i ∧ s = ⟨w', []⟩ ∧ i ≤ l.length ∧ (foldU (l.take i)).1 = false ∧ Hv w0 H w',
    fun _ y s => match y with | .int _ z => l.length - z.toNat | _ => 0, ⟨0, w, rfl, rfl, rfl, Nat.zero_le _, rfl, o⟩, ?_⟩
  rintro x y s ⟨i, w2, rfl, rfl, rfl, hi, hf, o2⟩
  have hlen := foldU_len l i hi
  rcases Nat.lt_or_ge i l.length with hlt | hge
  · have ht : foldU (l.take (i + 1)) = stepU (foldU (l.take i)) (l.getD i default) := by rw [take_snoc hlt, foldU_snoc]
    generalize hp : foldU (l.take i) = p at *
    obtain ⟨tu, out⟩ := p
    dsimp only at hlen hf ⊢
    subst hf
    have hpl : ((l.take (i + 1)).drop i).length = 1 := by rw [one_piece hlt rfl]; rfl
    repeat' (first | refine go ?_ | intro _ | refine And.intro (Sd.mk (by (first | exact fun _ => True.intro | exact And.intro (fun _ => True.intro) (fun _ _ => True.intro) | (intro hq; (first | exact True.intro | omega | (simp only [and_true]; omega) | (simp only [bl] at hq; (try simp only [and_true]); omega) | fail)) | exact And.intro (fun hq => by first | exact True.intro | omega | (simp only [and_true]; omega) | (simp only [bl] at hq; (try simp only [and_true]); omega) | fail) (fun hq hr => by first | exact True.intro | omega | (simp only [and_true]; omega) | (simp only [bl] at hq hr; omega) | (simp only [bl] at hr; omega) | fail) | fail))) ?_ | refine And.intro (by (first | omega | (unfold InR; omega) | decide | (simp only [ll]; omega))) ?_ | (refine And.intro (fun h1 => ?_) (fun h1 => ?_) <;> first | (exact absurd h1 (by decide)) | ((try rw [h1]); (try simp only [bl] at h1))) | dsimp only)
    · have e2 : ((i : Int) + 1).toNat = i + 1 := by omega
      rw [e2, one_piece hlt rfl]
      refine ⟨⟨i + 1, _, ?_, rfl, rfl, hlt, ?_, o2⟩, by simp; omega⟩
      · rw [ht]; unfold stepU; rw [if_neg (by simp), if_neg h1]
      · rw [ht]; unfold stepU; rw [if_neg (by simp), if_neg h1]
    · have h92 : l.getD i default = 92 := by assumption
      have e : unescS l = out := by
        have : l.take (i + 1) = l := List.take_of_length_le (by omega)
        unfold unescS
        rw [← this, ht]; unfold stepU; rw [if_neg (by simp), if_pos h92]
      rw [e] at h
      exact h _ o2
    · have h92 : l.getD i default = 92 := by assumption
      have hlt2 : i + 1 < l.length := by omega
      have e2 : ((i : Int) + 1).toNat = i + 1 := by omega
      rw [e2]
      have hs := hz _ hlt2
      have ht2 : foldU (l.take (i + 2)) = (false, out ++ [plainB (l.getD (i + 1) default)]) := by
        rw [take_snoc hlt2, foldU_snoc, ht]; unfold stepU; simp [h92, -List.getD_eq_getElem?_getD]
      refine ⟨fun x y s => ∃ (k : Nat) (w' : World), x = byteV (cAt (l.getD (i + 1) default) k) ∧ y = .int .i64 k ∧ s = ⟨w', []⟩ ∧ k ≤ 256 ∧ Hv w0 H w',
        fun _ y s => match y with | .int _ z => 256 - z.toNat | _ => 0, ⟨0, w2, rfl, rfl, rfl, Nat.zero_le _, o2⟩, ?_⟩
      rintro x y s ⟨k, w3, rfl, rfl, rfl, hk, o3⟩
      repeat' (first | refine go ?_ | intro _ | refine And.intro (Sd.mk (by (first | exact fun _ => True.intro | exact And.intro (fun _ => True.intro) (fun _ _ => True.intro) | (intro hq; (first | exact True.intro | omega | (simp only [and_true]; omega) | (simp only [bl] at hq; (try simp only [and_true]); omega) | fail)) | exact And.intro (fun hq => by first | exact True.intro | omega | (simp only [and_true]; omega) | (simp only [bl] at hq; (try simp only [and_true]); omega) | fail) (fun hq hr => by first | exact True.intro | omega | (simp only [and_true]; omega) | (simp only [bl] at hq hr; omega) | (simp only [bl] at hr; omega) | fail) | fail))) ?_ | refine And.intro (by (first | omega | (unfold InR; omega) | decide | (simp only [ll]; omega))) ?_ | (refine And.intro (fun h1 => ?_) (fun h1 => ?_) <;> first | (exact absurd h1 (by decide)) | ((try rw [h1]); (try simp only [bl] at h1))) | dsimp only)
      · refine ⟨⟨k + 1, _, ?_, rfl, rfl, by omega, ‹_›⟩, by simp; omega⟩
        rw [e2] at h1; rw [cAt, if_pos h1]
      · refine ⟨⟨k + 1, _, ?_, rfl, rfl, by omega, ‹_›⟩, by simp; omega⟩
        rw [e2] at h1; rw [cAt, if_neg h1]
      · have hk2 : k = 256 := by omega
        subst hk2
        rw [cAt_eq hs]
        refine ⟨⟨i + 2, _, ?_, rfl, rfl, by omega, ?_, Sub.hv subEnd⟩, by simp; omega⟩
        · rw [ht2]
        · rw [ht2]
    · exfalso; omega
  · rw [List.take_of_length_le hge] at hlen
    repeat' (first | refine go ?_ | intro _ | refine And.intro (Sd.mk (by (first | exact fun _ => True.intro | exact And.intro (fun _ => True.intro) (fun _ _ => True.intro) | (intro hq; (first | exact True.intro | omega | (simp only [and_true]; omega) | (simp only [bl] at hq; (try simp only [and_true]); omega) | fail)) | exact And.intro (fun hq => by first | exact True.intro | omega | (simp only [and_true]; omega) | (simp only [bl] at hq; (try simp only [and_true]); omega) | fail) (fun hq hr => by first | exact True.intro | omega | (simp only [and_true]; omega) | (simp only [bl] at hq hr; omega) | (simp only [bl] at hr; omega) | fail) | fail))) ?_ | refine And.intro (by (first | omega | (unfold InR; omega) | decide | (simp only [ll]; omega))) ?_ | (refine And.intro (fun h1 => ?_) (fun h1 => ?_) <;> first | (exact absurd h1 (by decide)) | ((try rw [h1]); (try simp only [bl] at h1))) | dsimp only)
    all_goals first
      | (exfalso; omega)
      | (rw [List.take_of_length_le hge]; exact h _ (Sub.hv subEnd))⟩
instance esc_ok {K : Value → St → Prop} {w0 w : World} {H : List SL} {ds : List Deferred} {l : List UInt8} [o : Hv w0 H w] :
    Step (Cl P 132 #[str l] K ⟨w, ds⟩) (l.length ≤ 100000 ∧ ∀ w', Hv w0 H w' → K (str (escS l)) ⟨w', ds⟩) := ⟨fun ⟨hl, h⟩ => by
  refine cl_ok (c132 (K := fun v w' => K v ⟨w', ds⟩) ?_ fun v w' h => ⟨v, rfl, h⟩)
  unfold D132
  dsimp only
  repeat (first | refine go ?_ | intro _ | refine And.intro (Sd.mk (by (first | exact fun _ => True.intro | exact And.intro (fun _ => True.intro) (fun _ _ => True.intro) | (intro hq; (first | exact True.intro | omega | (simp only [and_true]; omega) | (simp only [bl] at hq; (try simp only [and_true]); omega) | fail)) | exact And.intro (fun hq => by first | exact True.intro | omega | (simp only [and_true]; omega) | (simp only [bl] at hq; (try simp only [and_true]); omega) | fail) (fun hq hr => by first | exact True.intro | omega | (simp only [and_true]; omega) | (simp only [bl] at hq hr; omega) | (simp only [bl] at hr; omega) | fail) | fail))) ?_ | refine And.intro (by (first | omega | (unfold InR; omega) | decide | (simp only [ll]; omega))) ?_ | dsimp only)
  rename_i b w1 o1
  have o2 := sbd_new (e := 5) o1
  clear o1
  refine ⟨fun y s => ∃ (i : Nat) (w' : World), y = .int .i64 i ∧ s = ⟨w', []⟩ ∧ i ≤ l.length ∧ Hv w0 (sbd 107 5 b (escS (l.take i)) :: H) w',
    fun y s => match y with | .int _ z => l.length - z.toNat | _ => 0, ⟨0, w1, rfl, rfl, Nat.zero_le _, o2⟩, ?_⟩
  clear o2
  rintro y s ⟨i, w2, rfl, rfl, hi, o2⟩
  have hlen := escS_len (l.take i)
  rw [List.length_take] at hlen
  rcases Nat.lt_or_ge i l.length with hlt | hge
  · have ht := escS_snoc hlt
    have fin : ∀ (w' : World), Hv w0 (sbd 107 5 b (escS (l.take i) ++ escB (l.getD i default)) :: H) w' →
        ((∃ (i_1 : Nat) (w'_1 : World), Value.int .i64 ((i : Int) + 1) = .int .i64 i_1 ∧ (⟨w', []⟩ : St) = ⟨w'_1, []⟩ ∧ i_1 ≤ l.length ∧ Hv w0 (sbd 107 5 b (escS (l.take i_1)) :: H) w'_1) ∧ l.length - ((i : Int) + 1).toNat < l.length - (i : Int).toNat) := by
      intro w' ho
      exact ⟨⟨i + 1, w', rfl, rfl, hlt, by rw [ht]; exact ho⟩, by simp; omega⟩
    generalize escS (l.take i) = out at *
    have q1 : ([92, 58] : List UInt8).length = 2 := rfl
    have q2 : ([92, 115] : List UInt8).length = 2 := rfl
    have q3 : ([92, 114] : List UInt8).length = 2 := rfl
    have q4 : ([92, 110] : List UInt8).length = 2 := rfl
    repeat' (first | refine go ?_ | intro _ | refine And.intro (Sd.mk (by (first | exact fun _ => True.intro | exact And.intro (fun _ => True.intro) (fun _ _ => True.intro) | (intro hq; (first | exact True.intro | omega | (simp only [and_true]; omega) | (simp only [bl] at hq; (try simp only [and_true]); omega) | fail)) | exact And.intro (fun hq => by first | exact True.intro | omega | (simp only [and_true]; omega) | (simp only [bl] at hq; (try simp only [and_true]); omega) | fail) (fun hq hr => by first | exact True.intro | omega | (simp only [and_true]; omega) | (simp only [bl] at hq hr; omega) | (simp only [bl] at hr; omega) | fail) | fail))) ?_ | refine And.intro (by (first | omega | (unfold InR; omega) | decide | (simp only [ll]; omega))) ?_ | (refine And.intro (fun h1 => ?_) (fun h1 => ?_) <;> first | (exact absurd h1 (by decide)) | ((try rw [h1]); (try simp only [bl] at h1))) | dsimp only)
    all_goals first
      | (exfalso; omega)
      | (refine fin _ (Sub.hv (subSb ?_ subEnd)); unfold escB signB; simp_all; done)
      | (refine And.intro ⟨by omega, by decide, by decide⟩ ?_
         repeat' (first | refine go ?_ | intro _ | refine And.intro (Sd.mk (by (first | exact fun _ => True.intro | exact And.intro (fun _ => True.intro) (fun _ _ => True.intro) | (intro hq; (first | exact True.intro | omega | (simp only [and_true]; omega) | (simp only [bl] at hq; (try simp only [and_true]); omega) | fail)) | exact And.intro (fun hq => by first | exact True.intro | omega | (simp only [and_true]; omega) | (simp only [bl] at hq; (try simp only [and_true]); omega) | fail) (fun hq hr => by first | exact True.intro | omega | (simp only [and_true]; omega) | (simp only [bl] at hq hr; omega) | (simp only [bl] at hr; omega) | fail) | fail))) ?_ | refine And.intro (by (first | omega | (unfold InR; omega) | decide | (simp only [ll]; omega))) ?_ | (refine And.intro (fun h1 => ?_) (fun h1 => ?_) <;> first | (exact absurd h1 (by decide)) | ((try rw [h1]); (try simp only [bl] at h1))) | dsimp only)
         refine fin _ (Sub.hv (subSb ?_ subEnd)); unfold escB signB; simp_all; done)
  · rw [List.take_of_length_le hge] at o2
    have hlen2 := escS_len l
    repeat' (first | refine go ?_ | intro _ | refine And.intro (Sd.mk (by (first | exact fun _ => True.intro | exact And.intro (fun _ => True.intro) (fun _ _ => True.intro) | (intro hq; (first | exact True.intro | omega | (simp only [and_true]; omega) | (simp only [bl] at hq; (try simp only [and_true]); omega) | fail)) | exact And.intro (fun hq => by first | exact True.intro | omega | (simp only [and_true]; omega) | (simp only [bl] at hq; (try simp only [and_true]); omega) | fail) (fun hq hr => by first | exact True.intro | omega | (simp only [and_true]; omega) | (simp only [bl] at hq hr; omega) | (simp only [bl] at hr; omega) | fail) | fail))) ?_ | refine And.intro (by (first | omega | (unfold InR; omega) | decide | (simp only [ll]; omega))) ?_ | (refine And.intro (fun h1 => ?_) (fun h1 => ?_) <;> first | (exact absurd h1 (by decide)) | ((try rw [h1]); (try simp only [bl] at h1))) | dsimp only)
    all_goals first
      | (exfalso; omega)
      | exact h _ (Sub.hv subEnd)⟩
end Go.Proofs.YtapammcnagjigaaDoor
