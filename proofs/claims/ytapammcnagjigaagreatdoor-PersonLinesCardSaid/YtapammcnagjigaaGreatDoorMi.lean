import Derived.Test.YtapammcnagjigaaGreatDoorMh
set_option linter.all false
namespace Go.Proofs.YtapammcnagjigaaGreatDoor
open Go.Vx Go.Lib
/-! messages are the same -/
section
variable {K : Value → St → Prop} {w0 w : World} {H R : List SL} {ds : List Deferred} {l : List UInt8}
variable {x y xt yt xp yp : Value} {T U : List Tag} {ps qs : List (List UInt8)} {nt mt np mp : Nat} {zt ut zp up : List Value} {pre cmd pre2 cmd2 : List UInt8}
instance texts_ok [o : Hv w0 H w] [rx : RdsF w0 H x 1 np zp] [ex : Strs zp ps] [ry : RdsF w0 H y 1 mp up] [ey : Strs up qs] :
    Step (Cl P 18 #[x, y] K ⟨w, ds⟩) (ps.length ≤ 100000 ∧ ∀ w', Hv w0 H w' → K (.bool (decide (ps = qs))) ⟨w', ds⟩) := ⟨fun ⟨hl, h⟩ => by
  refine cl_ok (c18 (K := fun v w' => K v ⟨w', ds⟩) ?_ fun v w' h => ⟨v, rfl, h⟩)
  have rlx := rx.loc
  have rly := ry.loc
  have r1 := rx.rd w o
  have r2 := ry.rd w o
  have em : np = ps.length := by have := r1.len; rw [ex.eq] at this; simpa using this.symm
  have en : mp = qs.length := by have := r2.len; rw [ey.eq] at this; simpa using this.symm
  obtain rfl := ex.eq
  obtain rfl := ey.eq
  clear r1 r2 ex ey
  subst em en
  unfold D18
  dsimp only
  repeat' (first | refine go ?_ | intro _ | refine And.intro (Sd.mk (by (first | exact fun _ => True.intro | exact And.intro (fun _ => True.intro) (fun _ _ => True.intro) | (intro hq; (first | exact True.intro | omega | (simp only [and_true]; omega) | (simp only [bl] at hq; (try simp only [and_true]); omega) | fail)) | exact And.intro (fun hq => by first | exact True.intro | omega | (simp only [and_true]; omega) | (simp only [bl] at hq; (try simp only [and_true]); omega) | fail) (fun hq hr => by first | exact True.intro | omega | (simp only [and_true]; omega) | (simp only [bl] at hq hr; omega) | (simp only [bl] at hr; omega) | fail) | fail))) ?_ | refine And.intro (by (first | omega | (unfold InR; omega) | decide | (simp only [ll]; omega))) ?_ | (refine And.intro (fun h1 => ?_) (fun h1 => ?_) <;> first | (exact absurd h1 (by decide)) | ((try rw [h1]); (try simp only [bl] at h1))) | dsimp only)
  · have hne : ps ≠ qs := fun e => h1 (by rw [e])
    simpa [hne] using h _ o
  have hn : ps.length = qs.length := by omega
  refine ⟨fun y s => ∃ (i : Nat) (w' : World), y = .int .i64 i ∧ s = ⟨w', []⟩ ∧ i ≤ ps.length ∧ ps.take i = qs.take i ∧ Hv w0 H w',
    fun y s => match y with | .int _ z => ps.length - z.toNat | _ => 0, ⟨0, w, rfl, rfl, Nat.zero_le _, by simp, o⟩, ?_⟩
  rintro y s ⟨i, w1, rfl, rfl, hi, he, o1⟩
  repeat' (first | refine go ?_ | intro _ | refine And.intro (Sd.mk (by (first | exact fun _ => True.intro | exact And.intro (fun _ => True.intro) (fun _ _ => True.intro) | (intro hq; (first | exact True.intro | omega | (simp only [and_true]; omega) | (simp only [bl] at hq; (try simp only [and_true]); omega) | fail)) | exact And.intro (fun hq => by first | exact True.intro | omega | (simp only [and_true]; omega) | (simp only [bl] at hq; (try simp only [and_true]); omega) | fail) (fun hq hr => by first | exact True.intro | omega | (simp only [and_true]; omega) | (simp only [bl] at hq hr; omega) | (simp only [bl] at hr; omega) | fail) | fail))) ?_ | refine And.intro (by (first | omega | (unfold InR; omega) | decide | (simp only [ll]; omega))) ?_ | (refine And.intro (fun h1 => ?_) (fun h1 => ?_) <;> first | (exact absurd h1 (by decide)) | ((try rw [h1]); (try simp only [bl] at h1))) | dsimp only)
  · have hlt : i < ps.length := by omega
    have hne : ps ≠ qs := fun e => by subst e; exact h1 rfl
    simpa [hne] using h _ (Sub.hv subEnd)
  · have hlt : i < ps.length := by omega
    refine ⟨⟨i + 1, _, rfl, rfl, hlt, ?_, Sub.hv subEnd⟩, by simp; omega⟩
    rw [take_snoc hlt, take_snoc (show i < qs.length by omega), he, h1]
  · have : ps = qs := by rw [← List.take_of_length_le (show ps.length ≤ i by omega), he, List.take_of_length_le (by omega)]
    simpa [this] using h _ (Sub.hv subEnd)⟩
end
end Go.Proofs.YtapammcnagjigaaGreatDoor

