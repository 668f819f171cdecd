import Derived.Test.YtapammcnagjigaaDoorTaE
set_option linter.all false
namespace Go.Proofs.YtapammcnagjigaaDoor
open Go.Vx Go.Lib
instance escR_ok {K : Value → St → Prop} {w0 w : World} {H : List SL} {ds : List Deferred} {l : List UInt8} [o : Hv w0 H w] :
    Step (Cl P 128 #[str l] K ⟨w, ds⟩) (l.length ≤ 100000 ∧ ∀ w', Hv w0 H w' → K (str (escS l)) ⟨w', ds⟩) := ⟨fun ⟨hl, h⟩ => by
  refine cl_ok (c128 (K := fun v w' => K v ⟨w', ds⟩) ?_ fun v w' h => ⟨v, rfl, h⟩)
  unfold D128
  dsimp only
  refine ⟨fun x y s => ∃ (i : Nat) (w' : World), x = str (escS (l.take i)) ∧ y = .int .i64 i ∧ s = ⟨w', []⟩ ∧ i ≤ l.length ∧ Hv w0 H w',
    fun _ y s => match y with | .int _ z => l.length - z.toNat | _ => 0, ⟨0, w, rfl, rfl, rfl, Nat.zero_le _, o⟩, ?_⟩
  rintro x y s ⟨i, w2, rfl, rfl, rfl, hi, o2⟩
  have hlen := escS_len (l.take i)
  rw [List.length_take] at hlen
  rcases Nat.lt_or_ge i l.length with hlt | hge
  · have ht := escS_snoc hlt
    have fin : ∀ (out : List UInt8) (w' : World), out = escS (l.take i) ++ escB (l.getD i default) → Hv w0 H w' →
        ((∃ (i_1 : Nat) (w'_1 : World), str out = str (escS (l.take i_1)) ∧ Value.int .i64 ((i : Int) + 1) = .int .i64 i_1 ∧ (⟨w', []⟩ : St) = ⟨w'_1, []⟩ ∧ i_1 ≤ l.length ∧ Hv w0 H w'_1) ∧ l.length - ((i : Int) + 1).toNat < l.length - (i : Int).toNat) := by
      intro out w' e ho
      exact ⟨⟨i + 1, w', by rw [ht, e], rfl, rfl, hlt, ho⟩, by simp; omega⟩
    generalize escS (l.take i) = out at *
    have e2 : ((i : Int) + 1).toNat = i + 1 := by omega
    repeat' (first | refine go ?_ | intro _ | refine And.intro (Sd.mk (by (first | exact fun _ => True.intro | exact And.intro (fun _ => True.intro) (fun _ _ => True.intro) | (intro hq; (first | exact True.intro | omega | (simp only [and_true]; omega) | (simp only [bl] at hq; (try simp only [and_true]); omega) | fail)) | exact And.intro (fun hq => by first | exact True.intro | omega | (simp only [and_true]; omega) | (simp only [bl] at hq; (try simp only [and_true]); omega) | fail) (fun hq hr => by first | exact True.intro | omega | (simp only [and_true]; omega) | (simp only [bl] at hq hr; omega) | (simp only [bl] at hr; omega) | fail) | fail))) ?_ | refine And.intro (by (first | omega | (unfold InR; omega) | decide | (simp only [ll]; omega))) ?_ | (refine And.intro (fun h1 => ?_) (fun h1 => ?_) <;> first | (exact absurd h1 (by decide)) | ((try rw [h1]); (try simp only [bl] at h1))) | dsimp only)
    all_goals first
      | (exfalso; omega)
      | (refine fin _ _ ?_ (Sub.hv subEnd); (try rw [e2, one_piece hlt rfl]); unfold escB; simp_all; done)
  · rw [List.take_of_length_le hge]
    have hlen2 := escS_len l
    repeat' (first | refine go ?_ | intro _ | refine And.intro (Sd.mk (by (first | exact fun _ => True.intro | exact And.intro (fun _ => True.intro) (fun _ _ => True.intro) | (intro hq; (first | exact True.intro | omega | (simp only [and_true]; omega) | (simp only [bl] at hq; (try simp only [and_true]); omega) | fail)) | exact And.intro (fun hq => by first | exact True.intro | omega | (simp only [and_true]; omega) | (simp only [bl] at hq; (try simp only [and_true]); omega) | fail) (fun hq hr => by first | exact True.intro | omega | (simp only [and_true]; omega) | (simp only [bl] at hq hr; omega) | (simp only [bl] at hr; omega) | fail) | fail))) ?_ | refine And.intro (by (first | omega | (unfold InR; omega) | decide | (simp only [ll]; omega))) ?_ | (refine And.intro (fun h1 => ?_) (fun h1 => ?_) <;> first | (exact absurd h1 (by decide)) | ((try rw [h1]); (try simp only [bl] at h1))) | dsimp only)
    all_goals first
      | (exfalso; omega)
      | exact h _ (Sub.hv subEnd)⟩
/-! tags -/
abbrev Tag := List UInt8 × List UInt8
abbrev encT (t : Tag) : List Value := [str t.1, str t.2]
instance : UEnc encT 2 := ⟨fun _ => rfl⟩
instance : EncTy 71 Tag encT 2 := ⟨fun _ => rfl⟩
instance {a b : List UInt8} {zs : List Value} {ys : List Tag} [h : Encs encT zs ys] : Encs encT (str a :: str b :: zs) ((a, b) :: ys) := ⟨by rw [h.eq]; rfl⟩
def getS (l : List Tag) (n : List UInt8) : Option Tag := l.find? fun t => decide (t.1 = n)
def atS (l : List Tag) (n : List UInt8) : Int := match l.findIdx? fun t => decide (t.1 = n) with | some i => i | none => -1
theorem atF {l : List Tag} {n : List UInt8} {i : Nat} (h : i < l.length) (hp : ∀ j < i, (l.getD j default).1 ≠ n) (he : (l.getD i default).1 = n) : l.findIdx? (fun t => decide (t.1 = n)) = some i := by
  rw [List.findIdx?_eq_some_iff_getElem]
  refine ⟨h, by simpa [h] using he, fun j hj => ?_⟩
  have := hp j hj
  have hj2 : j < l.length := by omega
  simpa [hj2] using this
theorem atN {l : List Tag} {n : List UInt8} (hp : ∀ j < l.length, (l.getD j default).1 ≠ n) : l.findIdx? (fun t => decide (t.1 = n)) = none := by
  rw [List.findIdx?_eq_none_iff]
  intro x hx
  obtain ⟨j, hj, rfl⟩ := List.getElem_of_mem hx
  have := hp j hj
  simpa [hj] using this
theorem at_some {l : List Tag} {n : List UInt8} {i : Nat} (h : i < l.length) (hp : ∀ j < i, (l.getD j default).1 ≠ n) (he : (l.getD i default).1 = n) : atS l n = (i : Int) := by
  unfold atS; rw [atF h hp he]
theorem at_none {l : List Tag} {n : List UInt8} (hp : ∀ j < l.length, (l.getD j default).1 ≠ n) : atS l n = -1 := by
  unfold atS; rw [atN hp]
section
variable {K : Value → St → Prop} {w0 w : World} {H : List SL} {ds : List Deferred} {x y : Value} {xs ys : List Tag} {n m : Nat} {zx zy : List Value} {nm : List UInt8}
instance at_ok [o : Hv w0 H w] [rx : RdsF w0 H x 2 n zx] [ex : Encs encT zx xs] :
    Step (Cl P 93 #[x, str nm] K ⟨w, ds⟩) (xs.length ≤ 100000 ∧ ∀ w', Hv w0 H w' → K (.int .i64 (atS xs nm)) ⟨w', ds⟩) := ⟨fun ⟨hl, h⟩ => by
  refine cl_ok (c93 (K := fun v w' => K v ⟨w', ds⟩) ?_ fun v w' h => ⟨v, rfl, h⟩)
  obtain rfl : n = xs.length := ex.len (rx.rd w o).len (by decide)
  obtain rfl := ex.eq
  have rlx := rx.loc
  unfold D93
  dsimp only
  refine ⟨fun y s => ∃ (i : Nat) (w' : World), y = .int .i64 i ∧ s = ⟨w', []⟩ ∧ i ≤ xs.length ∧ (∀ j < i, (xs.getD j default).1 ≠ nm) ∧ Hv w0 H w',
    fun y s => match y with | .int _ z => xs.length - z.toNat | _ => 0, ⟨0, w, rfl, rfl, Nat.zero_le _, fun j h => by omega, o⟩, ?_⟩
  rintro y s ⟨i, w1, rfl, rfl, hi, hp, o1⟩
  repeat' (first | refine go ?_ | intro _ | refine And.intro (Sd.mk (by (first | exact fun _ => True.intro | exact And.intro (fun _ => True.intro) (fun _ _ => True.intro) | (intro hq; (first | exact True.intro | omega | (simp only [and_true]; omega) | (simp only [bl] at hq; (try simp only [and_true]); omega) | fail)) | exact And.intro (fun hq => by first | exact True.intro | omega | (simp only [and_true]; omega) | (simp only [bl] at hq; (try simp only [and_true]); omega) | fail) (fun hq hr => by first | exact True.intro | omega | (simp only [and_true]; omega) | (simp only [bl] at hq hr; omega) | (simp only [bl] at hr; omega) | fail) | fail))) ?_ | refine And.intro (by (first | omega | (unfold InR; omega) | decide | (simp only [ll]; omega))) ?_ | (refine And.intro (fun h1 => ?_) (fun h1 => ?_) <;> first | (exact absurd h1 (by decide)) | ((try rw [h1]); (try simp only [bl] at h1))) | dsimp only)
  · have hlt : i < xs.length := by omega
    rw [at_some hlt hp h1] at h
    exact h _ ‹_›
  · have hlt : i < xs.length := by omega
    refine ⟨⟨i + 1, _, rfl, rfl, hlt, fun j hj => ?_, ‹_›⟩, by simp; omega⟩
    rcases Nat.lt_or_ge j i with q | q
    · exact hp j q
    · obtain rfl : j = i := by omega
      exact h1
  · rw [at_none fun j hj => hp j (by omega)] at h
    exact h _ ‹_›⟩
end
end Go.Proofs.YtapammcnagjigaaDoor
