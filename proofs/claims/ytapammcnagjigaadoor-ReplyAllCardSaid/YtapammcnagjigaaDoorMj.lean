import Derived.Test.YtapammcnagjigaaDoorMi
set_option linter.all false
namespace Go.Proofs.YtapammcnagjigaaDoor
open Go.Vx Go.Lib
instance : BodyOf P 61 := ⟨bodies_ok.2 61 (by kernel_rfl)⟩
/-- A function that tells something of a text. -/
class PredF (f : Value) (p : outParam (List UInt8 → Bool)) : Prop where
  run : ∀ {K : Value → St → Prop} {w0 w : World} {H : List SL} {ds : List Deferred} {l : List UInt8}, Hv w0 H w → l.length ≤ 1000000 → (∀ w', Hv w0 H w' → K (.bool (p l)) ⟨w', ds⟩) → Dy P f #[str l] K ⟨w, ds⟩
instance : PredF (.func (.func 59) #[] #[]) (fun p => !txtB p) := ⟨fun {K w0 w H ds l} o hl h => by
  refine go ?_
  refine cl_ok (c59 (K := fun v w' => K v ⟨w', ds⟩) ?_ fun v w' h => ⟨v, rfl, h⟩)
  unfold D59
  repeat' (first | refine go ?_ | intro _ | refine And.intro (Sd.mk (by (first | exact fun _ => True.intro | exact And.intro (fun _ => True.intro) (fun _ _ => True.intro) | (intro hq; (first | exact True.intro | omega | (simp only [and_true]; omega) | (simp only [bl] at hq; (try simp only [and_true]); omega) | fail)) | exact And.intro (fun hq => by first | exact True.intro | omega | (simp only [and_true]; omega) | (simp only [bl] at hq; (try simp only [and_true]); omega) | fail) (fun hq hr => by first | exact True.intro | omega | (simp only [and_true]; omega) | (simp only [bl] at hq hr; omega) | (simp only [bl] at hr; omega) | fail) | fail))) ?_ | refine And.intro (by (first | omega | (unfold InR; omega) | decide | (simp only [ll]; omega))) ?_ | (refine And.intro (fun h1 => ?_) (fun h1 => ?_) <;> first | (exact absurd h1 (by decide)) | ((try rw [h1]); (try simp only [bl] at h1))) | dsimp only)
  exact h _ (by assumption)⟩
instance : PredF (.func (.func 61) #[] #[]) spare := ⟨fun {K w0 w H ds l} o hl h => by
  refine go ?_
  show Cl P 61 #[str l] K ⟨w, ds⟩
  exact go (And.intro hl h)⟩
section
variable {K : Value → St → Prop} {w0 w : World} {H R : List SL} {ds : List Deferred} {l : List UInt8}
variable {x y xt yt xp yp f : Value} {T U : List Tag} {ps qs : List (List UInt8)} {nt mt np mp : Nat} {zt ut zp up : List Value} {pre cmd pre2 cmd2 t : List UInt8} {p : List UInt8 → Bool}
theorem any_take {i : Nat} (h : i < ps.length) : (ps.take (i + 1)).any p = ((ps.take i).any p || p (ps.getD i default)) := by
  rw [take_snoc h, List.any_append]; simp
instance indexF2_ok [o : Hv w0 H w] [rx : RdsF w0 H x 1 np zp] [ex : Strs zp ps] [pf : PredF f p] [fl : FitL 1000000 ps] :
    Step (Cl P 100 #[x, f] K ⟨w, ds⟩) (∀ z w', Hv w0 H w' → (decide (0 ≤ z)) = ps.any p → K (.int .i64 z) ⟨w', ds⟩) := ⟨fun h => by
  refine cl_ok (c100 (K := fun v w' => K v ⟨w', ds⟩) ?_ fun v w' h => ⟨v, rfl, h⟩)
  have rlx := rx.loc
  have r1 := rx.rd w o
  have em : np = ps.length := by have := r1.len; rw [ex.eq] at this; simpa using this.symm
  have hb := r1.le
  obtain rfl := ex.eq
  clear r1 ex
  subst em
  simp only [maxLen] at hb
  unfold D100
  repeat (first | refine go ?_ | intro _ | refine And.intro (Sd.mk (by (first | exact fun _ => True.intro | exact And.intro (fun _ => True.intro) (fun _ _ => True.intro) | (intro hq; (first | exact True.intro | omega | (simp only [and_true]; omega) | (simp only [bl] at hq; (try simp only [and_true]); omega) | fail)) | exact And.intro (fun hq => by first | exact True.intro | omega | (simp only [and_true]; omega) | (simp only [bl] at hq; (try simp only [and_true]); omega) | fail) (fun hq hr => by first | exact True.intro | omega | (simp only [and_true]; omega) | (simp only [bl] at hq hr; omega) | (simp only [bl] at hr; omega) | fail) | fail))) ?_ | refine And.intro (by (first | omega | (unfold InR; omega) | decide | (simp only [ll]; omega))) ?_ | dsimp only)
  refine ⟨fun x s => ∃ (i : Nat) (w' : World), x = .int .i64 i ∧ s = ⟨w', []⟩ ∧ i ≤ ps.length ∧ (ps.take i).any p = false ∧ Hv w0 H w',
    fun x s => match x with | .int _ z => ps.length - z.toNat | _ => 0, ⟨0, w, rfl, rfl, Nat.zero_le _, rfl, o⟩, ?_⟩
  rintro x s ⟨i, w1, rfl, rfl, hi, hn, o1⟩
  clear o
  rcases Nat.lt_or_ge i ps.length with hlt | hge
  · have ha := any_take (p := p) hlt
    have hf := fl.out _ (getD_mem hlt)
    repeat (first | refine go ?_ | intro _ | refine And.intro (Sd.mk (by (first | exact fun _ => True.intro | exact And.intro (fun _ => True.intro) (fun _ _ => True.intro) | (intro hq; (first | exact True.intro | omega | (simp only [and_true]; omega) | (simp only [bl] at hq; (try simp only [and_true]); omega) | fail)) | exact And.intro (fun hq => by first | exact True.intro | omega | (simp only [and_true]; omega) | (simp only [bl] at hq; (try simp only [and_true]); omega) | fail) (fun hq hr => by first | exact True.intro | omega | (simp only [and_true]; omega) | (simp only [bl] at hq hr; omega) | (simp only [bl] at hr; omega) | fail) | fail))) ?_ | refine And.intro (by (first | omega | (unfold InR; omega) | decide | (simp only [ll]; omega))) ?_ | dsimp only)
    refine And.intro (fun _ => ?_) (fun h1 => ?_)
    · repeat ((fail_if_success (refine pf.run ?_ ?_ ?_)); (first | refine go ?_ | intro _ | refine And.intro (Sd.mk (by (first | exact fun _ => True.intro | exact And.intro (fun _ => True.intro) (fun _ _ => True.intro) | (intro hq; (first | exact True.intro | omega | (simp only [and_true]; omega) | (simp only [bl] at hq; (try simp only [and_true]); omega) | fail)) | exact And.intro (fun hq => by first | exact True.intro | omega | (simp only [and_true]; omega) | (simp only [bl] at hq; (try simp only [and_true]); omega) | fail) (fun hq hr => by first | exact True.intro | omega | (simp only [and_true]; omega) | (simp only [bl] at hq hr; omega) | (simp only [bl] at hr; omega) | fail) | fail))) ?_ | refine And.intro (by (first | omega | (unfold InR; omega) | decide | (simp only [ll]; omega))) ?_ | dsimp only))
      refine pf.run o1 hf ?_
      intro w2 o2
      repeat' (first | refine go ?_ | intro _ | refine And.intro (Sd.mk (by (first | exact fun _ => True.intro | exact And.intro (fun _ => True.intro) (fun _ _ => True.intro) | (intro hq; (first | exact True.intro | omega | (simp only [and_true]; omega) | (simp only [bl] at hq; (try simp only [and_true]); omega) | fail)) | exact And.intro (fun hq => by first | exact True.intro | omega | (simp only [and_true]; omega) | (simp only [bl] at hq; (try simp only [and_true]); omega) | fail) (fun hq hr => by first | exact True.intro | omega | (simp only [and_true]; omega) | (simp only [bl] at hq hr; omega) | (simp only [bl] at hr; omega) | fail) | fail))) ?_ | refine And.intro (by (first | omega | (unfold InR; omega) | decide | (simp only [ll]; omega))) ?_ | (refine And.intro (fun h1 => ?_) (fun h1 => ?_) <;> first | (exact absurd h1 (by decide)) | ((try rw [h1]); (try simp only [bl] at h1))) | dsimp only)
      · refine h _ _ o2 ?_
        rw [decide_eq_true (by omega)]
        exact (List.any_eq_true.2 ⟨_, getD_mem hlt, h1⟩).symm
      · exact ⟨⟨i + 1, _, rfl, rfl, hlt, by rw [ha, hn, h1]; rfl, o2⟩, by simp; omega⟩
    · exfalso; simp at h1; omega
  · rw [List.take_of_length_le hge] at hn
    repeat' (first | refine go ?_ | intro _ | refine And.intro (Sd.mk (by (first | exact fun _ => True.intro | exact And.intro (fun _ => True.intro) (fun _ _ => True.intro) | (intro hq; (first | exact True.intro | omega | (simp only [and_true]; omega) | (simp only [bl] at hq; (try simp only [and_true]); omega) | fail)) | exact And.intro (fun hq => by first | exact True.intro | omega | (simp only [and_true]; omega) | (simp only [bl] at hq; (try simp only [and_true]); omega) | fail) (fun hq hr => by first | exact True.intro | omega | (simp only [and_true]; omega) | (simp only [bl] at hq hr; omega) | (simp only [bl] at hr; omega) | fail) | fail))) ?_ | refine And.intro (by (first | omega | (unfold InR; omega) | decide | (simp only [ll]; omega))) ?_ | (refine And.intro (fun h1 => ?_) (fun h1 => ?_) <;> first | (exact absurd h1 (by decide)) | ((try rw [h1]); (try simp only [bl] at h1))) | dsimp only)
    · exfalso; omega
    · exact h _ _ o1 (by rw [hn]; rfl)⟩
instance containsF_ok [o : Hv w0 H w] [rx : RdsF w0 H x 1 np zp] [ex : Strs zp ps] [pf : PredF f p] [fl : FitL 1000000 ps] :
    Step (Cl P 58 #[x, f] K ⟨w, ds⟩) (∀ w', Hv w0 H w' → K (.bool (ps.any p)) ⟨w', ds⟩) := ⟨fun h => by
  refine cl_ok (c58 (K := fun v w' => K v ⟨w', ds⟩) ?_ fun v w' h => ⟨v, rfl, h⟩)
  unfold D58
  dsimp only
  refine go ?_
  intro z w1 o1 hz
  repeat' (first | refine go ?_ | intro _ | refine And.intro (Sd.mk (by (first | exact fun _ => True.intro | exact And.intro (fun _ => True.intro) (fun _ _ => True.intro) | (intro hq; (first | exact True.intro | omega | (simp only [and_true]; omega) | (simp only [bl] at hq; (try simp only [and_true]); omega) | fail)) | exact And.intro (fun hq => by first | exact True.intro | omega | (simp only [and_true]; omega) | (simp only [bl] at hq; (try simp only [and_true]); omega) | fail) (fun hq hr => by first | exact True.intro | omega | (simp only [and_true]; omega) | (simp only [bl] at hq hr; omega) | (simp only [bl] at hr; omega) | fail) | fail))) ?_ | refine And.intro (by (first | omega | (unfold InR; omega) | decide | (simp only [ll]; omega))) ?_ | (refine And.intro (fun h1 => ?_) (fun h1 => ?_) <;> first | (exact absurd h1 (by decide)) | ((try rw [h1]); (try simp only [bl] at h1))) | dsimp only)
  rw [hz]
  exact h _ o1⟩
instance index_ok [o : Hv w0 H w] [rx : RdsF w0 H x 1 np zp] [ex : Strs zp ps] :
    Step (Cl P 101 #[x, str t] K ⟨w, ds⟩) (∀ z w', Hv w0 H w' → (decide (0 ≤ z)) = ps.any (fun p => decide (p = t)) → K (.int .i64 z) ⟨w', ds⟩) := ⟨fun h => by
  refine cl_ok (c101 (K := fun v w' => K v ⟨w', ds⟩) ?_ fun v w' h => ⟨v, rfl, h⟩)
  have rlx := rx.loc
  have r1 := rx.rd w o
  have em : np = ps.length := by have := r1.len; rw [ex.eq] at this; simpa using this.symm
  have hb := r1.le
  obtain rfl := ex.eq
  clear r1 ex
  subst em
  simp only [maxLen] at hb
  unfold D101
  repeat (first | refine go ?_ | intro _ | refine And.intro (Sd.mk (by (first | exact fun _ => True.intro | exact And.intro (fun _ => True.intro) (fun _ _ => True.intro) | (intro hq; (first | exact True.intro | omega | (simp only [and_true]; omega) | (simp only [bl] at hq; (try simp only [and_true]); omega) | fail)) | exact And.intro (fun hq => by first | exact True.intro | omega | (simp only [and_true]; omega) | (simp only [bl] at hq; (try simp only [and_true]); omega) | fail) (fun hq hr => by first | exact True.intro | omega | (simp only [and_true]; omega) | (simp only [bl] at hq hr; omega) | (simp only [bl] at hr; omega) | fail) | fail))) ?_ | refine And.intro (by (first | omega | (unfold InR; omega) | decide | (simp only [ll]; omega))) ?_ | dsimp only)
  refine ⟨fun x s => ∃ (i : Nat), x = .int .i64 i ∧ s = ⟨w, []⟩ ∧ i ≤ ps.length ∧ (ps.take i).any (fun p => decide (p = t)) = false,
    fun x s => match x with | .int _ z => ps.length - z.toNat | _ => 0, ⟨0, rfl, rfl, Nat.zero_le _, rfl⟩, ?_⟩
  rintro x s ⟨i, rfl, rfl, hi, hn⟩
  rcases Nat.lt_or_ge i ps.length with hlt | hge
  · have ha := any_take (p := fun p => decide (p = t)) hlt
    repeat' (first | refine go ?_ | intro _ | refine And.intro (Sd.mk (by (first | exact fun _ => True.intro | exact And.intro (fun _ => True.intro) (fun _ _ => True.intro) | (intro hq; (first | exact True.intro | omega | (simp only [and_true]; omega) | (simp only [bl] at hq; (try simp only [and_true]); omega) | fail)) | exact And.intro (fun hq => by first | exact True.intro | omega | (simp only [and_true]; omega) | (simp only [bl] at hq; (try simp only [and_true]); omega) | fail) (fun hq hr => by first | exact True.intro | omega | (simp only [and_true]; omega) | (simp only [bl] at hq hr; omega) | (simp only [bl] at hr; omega) | fail) | fail))) ?_ | refine And.intro (by (first | omega | (unfold InR; omega) | decide | (simp only [ll]; omega))) ?_ | (refine And.intro (fun h1 => ?_) (fun h1 => ?_) <;> first | (exact absurd h1 (by decide)) | ((try rw [h1]); (try simp only [bl] at h1))) | dsimp only)
    · refine h _ _ o ?_
      rw [decide_eq_true (by omega)]
      exact (List.any_eq_true.2 ⟨_, getD_mem hlt, by simp only [decide_eq_true_eq]; exact h1.symm⟩).symm
    · refine ⟨⟨i + 1, rfl, rfl, hlt, ?_⟩, by simp; omega⟩
      rw [ha, hn, Bool.false_or, decide_eq_false_iff_not]; exact fun e => h1 e.symm
    · exfalso; omega
  · rw [List.take_of_length_le hge] at hn
    repeat' (first | refine go ?_ | intro _ | refine And.intro (Sd.mk (by (first | exact fun _ => True.intro | exact And.intro (fun _ => True.intro) (fun _ _ => True.intro) | (intro hq; (first | exact True.intro | omega | (simp only [and_true]; omega) | (simp only [bl] at hq; (try simp only [and_true]); omega) | fail)) | exact And.intro (fun hq => by first | exact True.intro | omega | (simp only [and_true]; omega) | (simp only [bl] at hq; (try simp only [and_true]); omega) | fail) (fun hq hr => by first | exact True.intro | omega | (simp only [and_true]; omega) | (simp only [bl] at hq hr; omega) | (simp only [bl] at hr; omega) | fail) | fail))) ?_ | refine And.intro (by (first | omega | (unfold InR; omega) | decide | (simp only [ll]; omega))) ?_ | (refine And.intro (fun h1 => ?_) (fun h1 => ?_) <;> first | (exact absurd h1 (by decide)) | ((try rw [h1]); (try simp only [bl] at h1))) | dsimp only)
    · exfalso; omega
    · exact h _ _ o (by rw [hn]; rfl)⟩
instance contains2_ok [o : Hv w0 H w] [rx : RdsF w0 H x 1 np zp] [ex : Strs zp ps] :
    Step (Cl P 60 #[x, str t] K ⟨w, ds⟩) (∀ w', Hv w0 H w' → K (.bool (ps.any fun p => decide (p = t))) ⟨w', ds⟩) := ⟨fun h => by
  refine cl_ok (c60 (K := fun v w' => K v ⟨w', ds⟩) ?_ fun v w' h => ⟨v, rfl, h⟩)
  unfold D60
  dsimp only
  refine go ?_
  intro z w1 o1 hz
  repeat' (first | refine go ?_ | intro _ | refine And.intro (Sd.mk (by (first | exact fun _ => True.intro | exact And.intro (fun _ => True.intro) (fun _ _ => True.intro) | (intro hq; (first | exact True.intro | omega | (simp only [and_true]; omega) | (simp only [bl] at hq; (try simp only [and_true]); omega) | fail)) | exact And.intro (fun hq => by first | exact True.intro | omega | (simp only [and_true]; omega) | (simp only [bl] at hq; (try simp only [and_true]); omega) | fail) (fun hq hr => by first | exact True.intro | omega | (simp only [and_true]; omega) | (simp only [bl] at hq hr; omega) | (simp only [bl] at hr; omega) | fail) | fail))) ?_ | refine And.intro (by (first | omega | (unfold InR; omega) | decide | (simp only [ll]; omega))) ?_ | (refine And.intro (fun h1 => ?_) (fun h1 => ?_) <;> first | (exact absurd h1 (by decide)) | ((try rw [h1]); (try simp only [bl] at h1))) | dsimp only)
  rw [hz]
  exact h _ o1⟩
instance equalS_ok [o : Hv w0 H w] [rx : RdsF w0 H x 1 np zp] [ex : Strs zp ps] [ry : RdsF w0 H y 1 mp up] [ey : Strs up qs] :
    Step (Cl P 55 #[x, y] K ⟨w, ds⟩) (ps.length ≤ 100000 ∧ ∀ w', Hv w0 H w' → K (.bool (decide (ps = qs))) ⟨w', ds⟩) := ⟨fun ⟨hl, h⟩ => by
  refine cl_ok (c55 (K := fun v w' => K v ⟨w', ds⟩) ?_ fun v w' h => ⟨v, rfl, h⟩)
  have rlx := rx.loc
  have rly := ry.loc
  have r1 := rx.rd w o
  have r2 := ry.rd w o
  have em : np = ps.length := by have := r1.len; rw [ex.eq] at this; simpa using this.symm
  have en : mp = qs.length := by have := r2.len; rw [ey.eq] at this; simpa using this.symm
  obtain rfl := ex.eq
  obtain rfl := ey.eq
  clear r1 r2 ex ey
  subst em en
  unfold D55
  dsimp only
  repeat' (first | refine go ?_ | intro _ | refine And.intro (Sd.mk (by (first | exact fun _ => True.intro | exact And.intro (fun _ => True.intro) (fun _ _ => True.intro) | (intro hq; (first | exact True.intro | omega | (simp only [and_true]; omega) | (simp only [bl] at hq; (try simp only [and_true]); omega) | fail)) | exact And.intro (fun hq => by first | exact True.intro | omega | (simp only [and_true]; omega) | (simp only [bl] at hq; (try simp only [and_true]); omega) | fail) (fun hq hr => by first | exact True.intro | omega | (simp only [and_true]; omega) | (simp only [bl] at hq hr; omega) | (simp only [bl] at hr; omega) | fail) | fail))) ?_ | refine And.intro (by (first | omega | (unfold InR; omega) | decide | (simp only [ll]; omega))) ?_ | (refine And.intro (fun h1 => ?_) (fun h1 => ?_) <;> first | (exact absurd h1 (by decide)) | ((try rw [h1]); (try simp only [bl] at h1))) | dsimp only)
  · have hne : ps ≠ qs := fun e => h1 (by rw [e])
    simpa [hne] using h _ o
  have hn : ps.length = qs.length := by omega
  refine ⟨fun y s => ∃ (i : Nat) (w' : World), y = .int .i64 i ∧ s = ⟨w', []⟩ ∧ i ≤ ps.length ∧ ps.take i = qs.take i ∧ Hv w0 H w',
    fun y s => match y with | .int _ z => ps.length - z.toNat | _ => 0, ⟨0, w, rfl, rfl, Nat.zero_le _, by simp, o⟩, ?_⟩
  rintro y s ⟨i, w1, rfl, rfl, hi, he, o1⟩
  repeat' (first | refine go ?_ | intro _ | refine And.intro (Sd.mk (by (first | exact fun _ => True.intro | exact And.intro (fun _ => True.intro) (fun _ _ => True.intro) | (intro hq; (first | exact True.intro | omega | (simp only [and_true]; omega) | (simp only [bl] at hq; (try simp only [and_true]); omega) | fail)) | exact And.intro (fun hq => by first | exact True.intro | omega | (simp only [and_true]; omega) | (simp only [bl] at hq; (try simp only [and_true]); omega) | fail) (fun hq hr => by first | exact True.intro | omega | (simp only [and_true]; omega) | (simp only [bl] at hq hr; omega) | (simp only [bl] at hr; omega) | fail) | fail))) ?_ | refine And.intro (by (first | omega | (unfold InR; omega) | decide | (simp only [ll]; omega))) ?_ | (refine And.intro (fun h1 => ?_) (fun h1 => ?_) <;> first | (exact absurd h1 (by decide)) | ((try rw [h1]); (try simp only [bl] at h1))) | dsimp only)
  · have hlt : i < ps.length := by omega
    have hne : ps ≠ qs := fun e => by subst e; exact h1 rfl
    simpa [hne] using h _ (Sub.hv subEnd)
  · have hlt : i < ps.length := by omega
    refine ⟨⟨i + 1, _, rfl, rfl, hlt, ?_, Sub.hv subEnd⟩, by simp; omega⟩
    rw [take_snoc hlt, take_snoc (show i < qs.length by omega), he, h1]
  · have : ps = qs := by rw [← List.take_of_length_le (show ps.length ≤ i by omega), he, List.take_of_length_le (by omega)]
    simpa [this] using h _ (Sub.hv subEnd)⟩
instance equalT_ok [o : Hv w0 H w] [rx : RdsF w0 H x 2 nt zt] [ex : Encs encT zt T] [ry : RdsF w0 H y 2 mt ut] [ey : Encs encT ut U] :
    Step (Cl P 54 #[x, y] K ⟨w, ds⟩) (T.length ≤ 100000 ∧ ∀ w', Hv w0 H w' → K (.bool (decide (T = U))) ⟨w', ds⟩) := ⟨fun ⟨hl, h⟩ => by
  refine cl_ok (c54 (K := fun v w' => K v ⟨w', ds⟩) ?_ fun v w' h => ⟨v, rfl, h⟩)
  obtain rfl : nt = T.length := ex.len (rx.rd w o).len (by decide)
  obtain rfl := ex.eq
  obtain rfl : mt = U.length := ey.len (ry.rd w o).len (by decide)
  obtain rfl := ey.eq
  have rlx := rx.loc
  have rly := ry.loc
  unfold D54
  dsimp only
  repeat' (first | refine go ?_ | intro _ | refine And.intro (Sd.mk (by (first | exact fun _ => True.intro | exact And.intro (fun _ => True.intro) (fun _ _ => True.intro) | (intro hq; (first | exact True.intro | omega | (simp only [and_true]; omega) | (simp only [bl] at hq; (try simp only [and_true]); omega) | fail)) | exact And.intro (fun hq => by first | exact True.intro | omega | (simp only [and_true]; omega) | (simp only [bl] at hq; (try simp only [and_true]); omega) | fail) (fun hq hr => by first | exact True.intro | omega | (simp only [and_true]; omega) | (simp only [bl] at hq hr; omega) | (simp only [bl] at hr; omega) | fail) | fail))) ?_ | refine And.intro (by (first | omega | (unfold InR; omega) | decide | (simp only [ll]; omega))) ?_ | (refine And.intro (fun h1 => ?_) (fun h1 => ?_) <;> first | (exact absurd h1 (by decide)) | ((try rw [h1]); (try simp only [bl] at h1))) | dsimp only)
  · have hne : T ≠ U := fun e => h1 (by rw [e])
    simpa [hne] using h _ o
  have hn : T.length = U.length := by omega
  refine ⟨fun y s => ∃ (i : Nat) (w' : World), y = .int .i64 i ∧ s = ⟨w', []⟩ ∧ i ≤ T.length ∧ T.take i = U.take i ∧ Hv w0 H w',
    fun y s => match y with | .int _ z => T.length - z.toNat | _ => 0, ⟨0, w, rfl, rfl, Nat.zero_le _, by simp, o⟩, ?_⟩
  rintro y s ⟨i, w1, rfl, rfl, hi, he, o1⟩
  repeat' (first | refine go ?_ | intro _ | refine And.intro (Sd.mk (by (first | exact fun _ => True.intro | exact And.intro (fun _ => True.intro) (fun _ _ => True.intro) | (intro hq; (first | exact True.intro | omega | (simp only [and_true]; omega) | (simp only [bl] at hq; (try simp only [and_true]); omega) | fail)) | exact And.intro (fun hq => by first | exact True.intro | omega | (simp only [and_true]; omega) | (simp only [bl] at hq; (try simp only [and_true]); omega) | fail) (fun hq hr => by first | exact True.intro | omega | (simp only [and_true]; omega) | (simp only [bl] at hq hr; omega) | (simp only [bl] at hr; omega) | fail) | fail))) ?_ | refine And.intro (by (first | omega | (unfold InR; omega) | decide | (simp only [ll]; omega))) ?_ | (refine And.intro (fun h1 => ?_) (fun h1 => ?_) <;> first | (exact absurd h1 (by decide)) | ((try rw [h1]); (try simp only [bl] at h1))) | dsimp only)
  · have hlt : i < T.length := by omega
    have hne : T ≠ U := fun e => by subst e; simp at h1
    simpa [hne] using h _ (Sub.hv subEnd)
  · have hlt : i < T.length := by omega
    refine ⟨⟨i + 1, _, rfl, rfl, hlt, ?_, Sub.hv subEnd⟩, by simp; omega⟩
    rw [take_snoc hlt, take_snoc (show i < U.length by omega), he, Prod.ext h1.1 h1.2.1]
  · have : T = U := by rw [← List.take_of_length_le (show T.length ≤ i by omega), he, List.take_of_length_le (by omega)]
    simpa [this] using h _ (Sub.hv subEnd)⟩
instance sameP_ok [o : Hv w0 H w] [rt : RdsF w0 H xt 2 nt zt] [et : Encs encT zt T] [rp : RdsF w0 H xp 1 np zp] [ep : Strs zp ps] [ru : RdsF w0 H yt 2 mt ut] [eu : Encs encT ut U] [rq : RdsF w0 H yp 1 mp up] [eq : Strs up qs] :
    Step (Cl P 23 #[.agg #[xt, str pre, str cmd, xp], .agg #[yt, str pre2, str cmd2, yp]] K ⟨w, ds⟩) ((T.length ≤ 100000 ∧ ps.length ≤ 100000) ∧ ∀ w', Hv w0 H w' → K (.bool (decide ((T, pre, cmd, ps) = (U, pre2, cmd2, qs)))) ⟨w', ds⟩) := ⟨fun ⟨⟨hl, hl2⟩, h⟩ => by
  refine cl_ok (c23 (K := fun v w' => K v ⟨w', ds⟩) ?_ fun v w' h => ⟨v, rfl, h⟩)
  have lt := rt.loc
  have lp := rp.loc
  have lu := ru.loc
  have lq := rq.loc
  have r1 := rt.rd w o
  have r2 := rp.rd w o
  have r3 := ru.rd w o
  have r4 := rq.rd w o
  have one1 : One w xt := inferInstance
  have one2 : ∀ w, One w xt := fun w => ⟨one1.eq⟩
  have one3 : One w xp := inferInstance
  have one4 : ∀ w, One w xp := fun w => ⟨one3.eq⟩
  have one5 : One w yt := inferInstance
  have one6 : ∀ w, One w yt := fun w => ⟨one5.eq⟩
  have one7 : One w yp := inferInstance
  have one8 : ∀ w, One w yp := fun w => ⟨one7.eq⟩
  clear r1 r2 r3 r4
  have hd : decide ((T, pre, cmd, ps) = (U, pre2, cmd2, qs)) = (decide (T = U) && (decide (pre = pre2) && (decide (cmd = cmd2) && decide (ps = qs)))) := by
    rw [Bool.eq_iff_iff]; simp
  rw [hd] at h
  unfold D23
  repeat' (first | refine go ?_ | intro _ | refine And.intro (Sd.mk (by (first | exact fun _ => True.intro | exact And.intro (fun _ => True.intro) (fun _ _ => True.intro) | (intro hq; (first | exact True.intro | omega | (simp only [and_true]; omega) | (simp only [bl] at hq; (try simp only [and_true]); omega) | fail)) | exact And.intro (fun hq => by first | exact True.intro | omega | (simp only [and_true]; omega) | (simp only [bl] at hq; (try simp only [and_true]); omega) | fail) (fun hq hr => by first | exact True.intro | omega | (simp only [and_true]; omega) | (simp only [bl] at hq hr; omega) | (simp only [bl] at hr; omega) | fail) | fail))) ?_ | refine And.intro (by (first | omega | (unfold InR; omega) | decide | (simp only [ll]; omega))) ?_ | (refine And.intro (fun h1 => ?_) (fun h1 => ?_) <;> first | (exact absurd h1 (by decide)) | ((try rw [h1]); (try simp only [bl] at h1))) | dsimp only)
  · obtain ⟨⟨e1, e2⟩, e3⟩ := h1
    refine cast (congrArg (fun b => K (.bool b) _) ?_) (h _ (Sub.hv subEnd))
    rw [decide_eq_true e1, decide_eq_true e2, decide_eq_true e3]; rfl
  · refine cast (congrArg (fun b => K (.bool b) _) ?_) (h _ (Sub.hv subEnd))
    simp only [Bool.and_eq_false_iff, decide_eq_false_iff_not]
    by_cases e1 : T = U
    · by_cases e2 : pre = pre2
      · exact .inr (.inr (.inl (h1 ⟨e1, e2⟩)))
      · exact .inr (.inl e2)
    · exact .inl e1⟩
end
end Go.Proofs.YtapammcnagjigaaDoor

