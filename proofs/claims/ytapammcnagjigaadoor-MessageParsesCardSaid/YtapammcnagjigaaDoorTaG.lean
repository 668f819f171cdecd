import Derived.Test.YtapammcnagjigaaDoorTaF
set_option linter.all false
namespace Go.Proofs.YtapammcnagjigaaDoor
open Go.Vx Go.Lib
section
variable {K : Value → St → Prop} {w0 w : World} {H R : List SL} {ds : List Deferred} {x y : Value} {xs ys : List Tag} {n m : Nat} {zx zy : List Value} {nm : List UInt8}
instance namedF_ok {b : Nat} {a v : List UInt8} [o : Hv w0 H w] [i : BoxIn H b 9 [str nm] R] :
    Step (Cl P 87 #[.agg #[str a, str v], .pointer (some ⟨b, 0, none⟩)] K ⟨w, ds⟩) (∀ w', Hv w0 H w' → K (.bool (decide (a = nm))) ⟨w', ds⟩) := ⟨fun h => by
  refine cl_ok (c87 (K := fun v w' => K v ⟨w', ds⟩) ?_ fun v w' h => ⟨v, rfl, h⟩)
  unfold D87
  dsimp only
  repeat' (first | refine go ?_ | intro _ | refine And.intro (Sd.mk (by (first | exact fun _ => True.intro | exact And.intro (fun _ => True.intro) (fun _ _ => True.intro) | (intro hq; (first | exact True.intro | omega | (simp only [and_true]; omega) | (simp only [bl] at hq; (try simp only [and_true]); omega) | fail)) | exact And.intro (fun hq => by first | exact True.intro | omega | (simp only [and_true]; omega) | (simp only [bl] at hq; (try simp only [and_true]); omega) | fail) (fun hq hr => by first | exact True.intro | omega | (simp only [and_true]; omega) | (simp only [bl] at hq hr; omega) | (simp only [bl] at hr; omega) | fail) | fail))) ?_ | refine And.intro (by (first | omega | (unfold InR; omega) | decide | (simp only [ll]; omega))) ?_ | (refine And.intro (fun h1 => ?_) (fun h1 => ?_) <;> first | (exact absurd h1 (by decide)) | ((try rw [h1]); (try simp only [bl] at h1))) | dsimp only)
  exact h _ (Sub.hv subEnd)⟩
instance indexF_ok {b : Nat} [o : Hv w0 H w] [i : BoxIn H b 9 [str nm] R] [rx : RdsF w0 H x 2 n zx] [ex : Encs encT zx xs] :
    Step (Cl P 86 #[x, .func (.func 87) #[] #[.pointer (some ⟨b, 0, none⟩)]] K ⟨w, ds⟩) (xs.length ≤ 100000 ∧ ∀ w', Hv w0 H w' → K (.int .i64 (atS xs nm)) ⟨w', ds⟩) := ⟨fun ⟨hl, h⟩ => by
  refine cl_ok (c86 (K := fun v w' => K v ⟨w', ds⟩) ?_ fun v w' h => ⟨v, rfl, h⟩)
  obtain rfl : n = xs.length := ex.len (rx.rd w o).len (by decide)
  obtain rfl := ex.eq
  have rlx := rx.loc
  unfold D86
  dsimp only
  repeat (first | refine go ?_ | intro _ | refine And.intro (Sd.mk (by (first | exact fun _ => True.intro | exact And.intro (fun _ => True.intro) (fun _ _ => True.intro) | (intro hq; (first | exact True.intro | omega | (simp only [and_true]; omega) | (simp only [bl] at hq; (try simp only [and_true]); omega) | fail)) | exact And.intro (fun hq => by first | exact True.intro | omega | (simp only [and_true]; omega) | (simp only [bl] at hq; (try simp only [and_true]); omega) | fail) (fun hq hr => by first | exact True.intro | omega | (simp only [and_true]; omega) | (simp only [bl] at hq hr; omega) | (simp only [bl] at hr; omega) | fail) | fail))) ?_ | refine And.intro (by (first | omega | (unfold InR; omega) | decide | (simp only [ll]; omega))) ?_ | dsimp only)
  refine ⟨fun y s => ∃ (i : Nat) (w' : World), y = .int .i64 i ∧ s = ⟨w', []⟩ ∧ i ≤ xs.length ∧ (∀ j < i, (xs.getD j default).1 ≠ nm) ∧ Hv w0 H w',
    fun y s => match y with | .int _ z => xs.length - z.toNat | _ => 0, ⟨0, w, rfl, rfl, Nat.zero_le _, fun j h => by omega, o⟩, ?_⟩
  rintro y s ⟨i, w1, rfl, rfl, hi, hp, o1⟩
  repeat' (first | refine go ?_ | intro _ | refine And.intro (Sd.mk (by (first | exact fun _ => True.intro | exact And.intro (fun _ => True.intro) (fun _ _ => True.intro) | (intro hq; (first | exact True.intro | omega | (simp only [and_true]; omega) | (simp only [bl] at hq; (try simp only [and_true]); omega) | fail)) | exact And.intro (fun hq => by first | exact True.intro | omega | (simp only [and_true]; omega) | (simp only [bl] at hq; (try simp only [and_true]); omega) | fail) (fun hq hr => by first | exact True.intro | omega | (simp only [and_true]; omega) | (simp only [bl] at hq hr; omega) | (simp only [bl] at hr; omega) | fail) | fail))) ?_ | refine And.intro (by (first | omega | (unfold InR; omega) | decide | (simp only [ll]; omega))) ?_ | (refine And.intro (fun h1 => ?_) (fun h1 => ?_) <;> first | (exact absurd h1 (by decide)) | ((try rw [h1]); (try simp only [bl] at h1))) | dsimp only)
  simp only [List.cons_append, List.nil_append]
  repeat' (first | refine go ?_ | intro _ | refine And.intro (Sd.mk (by (first | exact fun _ => True.intro | exact And.intro (fun _ => True.intro) (fun _ _ => True.intro) | (intro hq; (first | exact True.intro | omega | (simp only [and_true]; omega) | (simp only [bl] at hq; (try simp only [and_true]); omega) | fail)) | exact And.intro (fun hq => by first | exact True.intro | omega | (simp only [and_true]; omega) | (simp only [bl] at hq; (try simp only [and_true]); omega) | fail) (fun hq hr => by first | exact True.intro | omega | (simp only [and_true]; omega) | (simp only [bl] at hq hr; omega) | (simp only [bl] at hr; omega) | fail) | fail))) ?_ | refine And.intro (by (first | omega | (unfold InR; omega) | decide | (simp only [ll]; omega))) ?_ | (refine And.intro (fun h1 => ?_) (fun h1 => ?_) <;> first | (exact absurd h1 (by decide)) | ((try rw [h1]); (try simp only [bl] at h1))) | dsimp only)
  · have hlt : i < xs.length := by omega
    rw [at_some hlt hp h1] at h
    exact h _ ‹_›
  · have hlt : i < xs.length := by omega
    refine ⟨⟨i + 1, _, rfl, rfl, hlt, fun j hj => ?_, ‹_›⟩, by simp; omega⟩
    rcases Nat.lt_or_ge j i with q | q
    · exact hp j q
    · obtain rfl : j = i := by omega
      exact h1
  · rw [at_none fun j hj => hp j (by omega)] at h
    exact h _ ‹_›⟩
instance same_ok [o : Hv w0 H w] [rx : RdsF w0 H x 2 n zx] [ex : Encs encT zx xs] [ry : RdsF w0 H y 2 m zy] [ey : Encs encT zy ys] :
    Step (Cl P 26 #[x, y] K ⟨w, ds⟩) (xs.length ≤ 100000 ∧ ∀ w', Hv w0 H w' → K (.bool (decide (xs = ys))) ⟨w', ds⟩) := ⟨fun ⟨hl, h⟩ => by
  refine cl_ok (c26 (K := fun v w' => K v ⟨w', ds⟩) ?_ fun v w' h => ⟨v, rfl, h⟩)
  obtain rfl : n = xs.length := ex.len (rx.rd w o).len (by decide)
  obtain rfl := ex.eq
  obtain rfl : m = ys.length := ey.len (ry.rd w o).len (by decide)
  obtain rfl := ey.eq
  have rlx := rx.loc
  have rly := ry.loc
  unfold D26
  dsimp only
  repeat' (first | refine go ?_ | intro _ | refine And.intro (Sd.mk (by (first | exact fun _ => True.intro | exact And.intro (fun _ => True.intro) (fun _ _ => True.intro) | (intro hq; (first | exact True.intro | omega | (simp only [and_true]; omega) | (simp only [bl] at hq; (try simp only [and_true]); omega) | fail)) | exact And.intro (fun hq => by first | exact True.intro | omega | (simp only [and_true]; omega) | (simp only [bl] at hq; (try simp only [and_true]); omega) | fail) (fun hq hr => by first | exact True.intro | omega | (simp only [and_true]; omega) | (simp only [bl] at hq hr; omega) | (simp only [bl] at hr; omega) | fail) | fail))) ?_ | refine And.intro (by (first | omega | (unfold InR; omega) | decide | (simp only [ll]; omega))) ?_ | (refine And.intro (fun h1 => ?_) (fun h1 => ?_) <;> first | (exact absurd h1 (by decide)) | ((try rw [h1]); (try simp only [bl] at h1))) | dsimp only)
  · have hne : xs ≠ ys := fun e => h1 (by rw [e])
    simpa [hne] using h _ o
  have hn : xs.length = ys.length := by omega
  refine ⟨fun y s => ∃ (i : Nat) (w' : World), y = .int .i64 i ∧ s = ⟨w', []⟩ ∧ i ≤ xs.length ∧ xs.take i = ys.take i ∧ Hv w0 H w',
    fun y s => match y with | .int _ z => xs.length - z.toNat | _ => 0, ⟨0, w, rfl, rfl, Nat.zero_le _, by simp, o⟩, ?_⟩
  rintro y s ⟨i, w1, rfl, rfl, hi, he, o1⟩
  repeat' (first | refine go ?_ | intro _ | refine And.intro (Sd.mk (by (first | exact fun _ => True.intro | exact And.intro (fun _ => True.intro) (fun _ _ => True.intro) | (intro hq; (first | exact True.intro | omega | (simp only [and_true]; omega) | (simp only [bl] at hq; (try simp only [and_true]); omega) | fail)) | exact And.intro (fun hq => by first | exact True.intro | omega | (simp only [and_true]; omega) | (simp only [bl] at hq; (try simp only [and_true]); omega) | fail) (fun hq hr => by first | exact True.intro | omega | (simp only [and_true]; omega) | (simp only [bl] at hq hr; omega) | (simp only [bl] at hr; omega) | fail) | fail))) ?_ | refine And.intro (by (first | omega | (unfold InR; omega) | decide | (simp only [ll]; omega))) ?_ | (refine And.intro (fun h1 => ?_) (fun h1 => ?_) <;> first | (exact absurd h1 (by decide)) | ((try rw [h1]); (try simp only [bl] at h1))) | dsimp only)
  · have hlt : i < xs.length := by omega
    have hne : xs ≠ ys := fun e => by subst e; simp at h1
    simpa [hne] using h _ (Sub.hv subEnd)
  · have hlt : i < xs.length := by omega
    refine ⟨⟨i + 1, _, rfl, rfl, hlt, ?_, Sub.hv subEnd⟩, by simp; omega⟩
    rw [take_snoc hlt, take_snoc (show i < ys.length by omega), he, Prod.ext h1.1 h1.2.1]
  · have : xs = ys := by rw [← List.take_of_length_le (show xs.length ≤ i by omega), he, List.take_of_length_le (by omega)]
    simpa [this] using h _ (Sub.hv subEnd)⟩
def getV (l : List Tag) (n : List UInt8) : List UInt8 × Bool := match l.findIdx? fun t => decide (t.1 = n) with | some i => ((l.getD i default).2, true) | none => ([], false)
instance get_ok [o : Hv w0 H w] [rx : RdsF w0 H x 2 n zx] [ex : Encs encT zx xs] :
    Step (Cl P 98 #[x, str nm] K ⟨w, ds⟩) (xs.length ≤ 100000 ∧ ∀ w', Hv w0 H w' → K (.tuple #[str (getV xs nm).1, .bool (getV xs nm).2]) ⟨w', ds⟩) := ⟨fun ⟨hl, h⟩ => by
  refine cl_ok (c98 (K := fun v w' => K v ⟨w', ds⟩) ?_ fun v w' h => ⟨v, rfl, h⟩)
  obtain rfl : n = xs.length := ex.len (rx.rd w o).len (by decide)
  obtain rfl := ex.eq
  have rlx := rx.loc
  unfold D98
  dsimp only
  repeat (first | refine go ?_ | intro _ | refine And.intro (Sd.mk (by (first | exact fun _ => True.intro | exact And.intro (fun _ => True.intro) (fun _ _ => True.intro) | (intro hq; (first | exact True.intro | omega | (simp only [and_true]; omega) | (simp only [bl] at hq; (try simp only [and_true]); omega) | fail)) | exact And.intro (fun hq => by first | exact True.intro | omega | (simp only [and_true]; omega) | (simp only [bl] at hq; (try simp only [and_true]); omega) | fail) (fun hq hr => by first | exact True.intro | omega | (simp only [and_true]; omega) | (simp only [bl] at hq hr; omega) | (simp only [bl] at hr; omega) | fail) | fail))) ?_ | refine And.intro (by (first | omega | (unfold InR; omega) | decide | (simp only [ll]; omega))) ?_ | dsimp only)
  refine ⟨fun y s => ∃ (i : Nat) (w' : World), y = .int .i64 i ∧ s = ⟨w', []⟩ ∧ i ≤ xs.length ∧ (∀ j < i, (xs.getD j default).1 ≠ nm) ∧ Hv w0 H w',
    fun y s => match y with | .int _ z => xs.length - z.toNat | _ => 0, ⟨0, w, rfl, rfl, Nat.zero_le _, fun j h => by omega, o⟩, ?_⟩
  rintro y s ⟨i, w1, rfl, rfl, hi, hp, o1⟩
  repeat' (first | refine go ?_ | intro _ | refine And.intro (Sd.mk (by (first | exact fun _ => True.intro | exact And.intro (fun _ => True.intro) (fun _ _ => True.intro) | (intro hq; (first | exact True.intro | omega | (simp only [and_true]; omega) | (simp only [bl] at hq; (try simp only [and_true]); omega) | fail)) | exact And.intro (fun hq => by first | exact True.intro | omega | (simp only [and_true]; omega) | (simp only [bl] at hq; (try simp only [and_true]); omega) | fail) (fun hq hr => by first | exact True.intro | omega | (simp only [and_true]; omega) | (simp only [bl] at hq hr; omega) | (simp only [bl] at hr; omega) | fail) | fail))) ?_ | refine And.intro (by (first | omega | (unfold InR; omega) | decide | (simp only [ll]; omega))) ?_ | (refine And.intro (fun h1 => ?_) (fun h1 => ?_) <;> first | (exact absurd h1 (by decide)) | ((try rw [h1]); (try simp only [bl] at h1))) | dsimp only)
  · have hlt : i < xs.length := by omega
    unfold getV at h
    rw [atF hlt hp h1] at h
    exact h _ (Sub.hv subEnd)
  · have hlt : i < xs.length := by omega
    refine ⟨⟨i + 1, _, rfl, rfl, hlt, fun j hj => ?_, Sub.hv subEnd⟩, by simp; omega⟩
    rcases Nat.lt_or_ge j i with q | q
    · exact hp j q
    · obtain rfl : j = i := by omega
      exact h1
  · unfold getV at h
    rw [atN fun j hj => hp j (by omega)] at h
    exact h _ (Sub.hv subEnd)⟩
end
end Go.Proofs.YtapammcnagjigaaDoor
