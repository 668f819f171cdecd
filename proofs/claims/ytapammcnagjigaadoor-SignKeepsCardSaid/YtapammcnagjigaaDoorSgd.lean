import Derived.Test.YtapammcnagjigaaDoorSgc
set_option linter.all false
namespace Go.Proofs.YtapammcnagjigaaDoor
open Go.Vx Go.Lib
section
set_option maxRecDepth 20000
set_option synthInstance.maxSize 100000
set_option synthInstance.maxHeartbeats 4000000
variable {K : Value → St → Prop} {w0 w : World} {H : List SL} {ds : List Deferred} {l : List UInt8} {x : Value} {n : Nat}
def nameC (l : List UInt8) : List UInt8 := if hd l 45 then l.drop 1 else l
def applyS : List (List UInt8) → Int → Option Int
  | [], z => some z
  | x :: t, z => if x = [] then applyS t z else if numC (nameC x) = 0 then none else applyS t (if hd x 45 = true then exI z (numC (nameC x)) else orI z (numC (nameC x)))
theorem app_cons (x : List UInt8) (t : List (List UInt8)) (z : Int) : applyS (x :: t) z = if x = [] then applyS t z else if numC (nameC x) = 0 then none else applyS t (if hd x 45 = true then exI z (numC (nameC x)) else orI z (numC (nameC x))) := rfl
theorem split_small (c : UInt8) : ∀ (n : Nat) (l : List UInt8), l.length = n → ∀ s ∈ splitS c l, s.length ≤ l.length := by
  intro n
  induction n using Nat.strongRecOn with
  | ind n ih =>
    intro l hl s hs
    cases hf : l.findIdx? (· == c) with
    | none => rw [splitS_none hf] at hs; rw [List.mem_singleton.1 hs]; exact Nat.le_refl _
    | some i =>
      rw [splitS_some hf] at hs
      have hi := (List.findIdx?_eq_some_iff_getElem.1 hf).1
      rcases List.mem_cons.1 hs with rfl | hs
      · rw [List.length_take]; omega
      · have := ih (l.drop (i + 1)).length (by rw [List.length_drop]; omega) _ rfl s hs
        rw [List.length_drop] at this; omega
theorem split_le {c : UInt8} {l s : List UInt8} (h : s ∈ splitS c l) : s.length ≤ l.length := split_small c _ l rfl s h
instance apply_ok {z : Int} [o : Hv w0 H w] : Step (Cl P 75 #[.int .i64 z, str l] K ⟨w, ds⟩) (l.length ≤ 100000 ∧ ∀ w', Hv w0 H w' → K (.tuple #[.int .i64 ((applyS (splitS 32 l) z).getD z), .bool (applyS (splitS 32 l) z).isSome]) ⟨w', ds⟩) := ⟨fun ⟨hl, h⟩ => by
  refine cl_ok (c75 (K := fun v w' => K v ⟨w', ds⟩) ?_ fun v w' h => ⟨v, rfl, h⟩)
  unfold D75
  have hle : ∀ s ∈ splitS 32 l, s.length ≤ 100000 := fun s hs => Nat.le_trans (split_le hs) hl
  repeat' (first | refine go ?_ | intro _ | refine And.intro (Sd.mk (by (first | exact fun _ => True.intro | exact And.intro (fun _ => True.intro) (fun _ _ => True.intro) | (intro hq; (first | exact True.intro | omega | (simp only [and_true]; omega) | (simp only [bl] at hq; (try simp only [and_true]); omega) | fail)) | exact And.intro (fun hq => by first | exact True.intro | omega | (simp only [and_true]; omega) | (simp only [bl] at hq; (try simp only [and_true]); omega) | fail) (fun hq hr => by first | exact True.intro | omega | (simp only [and_true]; omega) | (simp only [bl] at hq hr; omega) | (simp only [bl] at hr; omega) | fail) | fail))) ?_ | refine And.intro (by (first | omega | (unfold InR; omega) | decide | (simp only [ll]; omega))) ?_ | (refine And.intro (fun h1 => ?_) (fun h1 => ?_) <;> first | (exact absurd h1 (by decide)) | ((try rw [h1]); (try simp only [bl] at h1))) | dsimp only)
  rename_i v w1 o1
  generalize splitS 32 l = L at *
  clear o
  refine ⟨fun x y s => ∃ (i : Nat) (u : Int) (w' : World), x = .int .i64 u ∧ y = .int .i64 i ∧ s = ⟨w', []⟩ ∧ i ≤ L.length ∧ applyS L z = applyS (L.drop i) u ∧ Hv w0 (row 9 1 v L.length (L.map str) :: H) w',
    fun _ y s => match y with | .int _ z => L.length - z.toNat | _ => 0, ⟨0, z, w1, rfl, rfl, rfl, Nat.zero_le _, rfl, o1⟩, ?_⟩
  rintro x y s ⟨i, u, w2, rfl, rfl, rfl, hi, he, o2⟩
  clear o1
  rcases Nat.lt_or_ge i L.length with hlt | hge
  · have hd9 : L.drop i = L.getD i default :: L.drop (i + 1) := by rw [List.drop_eq_getElem_cons hlt]; congr 1; simp [hlt]
    have hsl := hle _ (getD_mem hlt)
    rw [hd9] at he
    rw [app_cons] at he
    have hLb := (show Rds w2 v 1 L.length _ from inferInstance).le
    simp only [maxLen] at hLb
    repeat' (first | refine go ?_ | intro _ | refine And.intro (Sd.mk (by (first | exact fun _ => True.intro | exact And.intro (fun _ => True.intro) (fun _ _ => True.intro) | (intro hq; (first | exact True.intro | omega | (simp only [and_true]; omega) | (simp only [bl] at hq; (try simp only [and_true]); omega) | fail)) | exact And.intro (fun hq => by first | exact True.intro | omega | (simp only [and_true]; omega) | (simp only [bl] at hq; (try simp only [and_true]); omega) | fail) (fun hq hr => by first | exact True.intro | omega | (simp only [and_true]; omega) | (simp only [bl] at hq hr; omega) | (simp only [bl] at hr; omega) | fail) | fail))) ?_ | refine And.intro (by (first | omega | (unfold InR; omega) | decide | (simp only [ll]; omega))) ?_ | (refine And.intro (fun h1 => ?_) (fun h1 => ?_) <;> first | (exact absurd h1 (by decide)) | ((try rw [h1]); (try simp only [bl] at h1))) | dsimp only)
    · rw [if_pos h1] at he
      exact ⟨⟨i + 1, u, _, rfl, rfl, rfl, hlt, he, o2⟩, by omega⟩
    · rw [if_neg (by assumption), if_pos (show numC (nameC (L.getD i default)) = 0 from h1)] at he
      rw [he] at h
      exact h _ (Sub.hv subEnd)
    · have he2 := he
      rw [if_neg (by assumption), if_neg (by assumption), if_pos h1] at he2
      refine ⟨⟨i + 1, _, _, ?_, rfl, rfl, hlt, he2, Sub.hv (subA subEnd)⟩, by omega⟩
      unfold nameC; rw [h1]
    · have he2 := he
      rw [if_neg (by assumption), if_neg (by assumption), if_neg (by rw [h1]; decide)] at he2
      refine ⟨⟨i + 1, _, _, ?_, rfl, rfl, hlt, he2, Sub.hv (subA subEnd)⟩, by omega⟩
      unfold nameC; rw [h1]
    · exfalso; omega
  · obtain rfl : i = L.length := by omega
    rw [List.drop_length] at he
    repeat' (first | refine go ?_ | intro _ | refine And.intro (Sd.mk (by (first | exact fun _ => True.intro | exact And.intro (fun _ => True.intro) (fun _ _ => True.intro) | (intro hq; (first | exact True.intro | omega | (simp only [and_true]; omega) | (simp only [bl] at hq; (try simp only [and_true]); omega) | fail)) | exact And.intro (fun hq => by first | exact True.intro | omega | (simp only [and_true]; omega) | (simp only [bl] at hq; (try simp only [and_true]); omega) | fail) (fun hq hr => by first | exact True.intro | omega | (simp only [and_true]; omega) | (simp only [bl] at hq hr; omega) | (simp only [bl] at hr; omega) | fail) | fail))) ?_ | refine And.intro (by (first | omega | (unfold InR; omega) | decide | (simp only [ll]; omega))) ?_ | (refine And.intro (fun h1 => ?_) (fun h1 => ?_) <;> first | (exact absurd h1 (by decide)) | ((try rw [h1]); (try simp only [bl] at h1))) | dsimp only)
    · exfalso; omega
    · rw [he] at h
      exact h _ (Sub.hv subEnd)⟩
end
end Go.Proofs.YtapammcnagjigaaDoor

