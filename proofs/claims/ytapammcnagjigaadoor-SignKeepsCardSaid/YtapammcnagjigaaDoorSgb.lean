import Derived.Test.YtapammcnagjigaaDoorSga
set_option linter.all false
namespace Go.Proofs.YtapammcnagjigaaDoor
open Go.Vx Go.Lib
/-! capabilities -/
def awayB : List UInt8 := [97, 119, 97, 121, 45, 110, 111, 116, 105, 102, 121]
def echoB : List UInt8 := [101, 99, 104, 111, 45, 109, 101, 115, 115, 97, 103, 101]
def multiB : List UInt8 := [109, 117, 108, 116, 105, 45, 112, 114, 101, 102, 105, 120]
def capsL : List (List UInt8 × Int) := [(awayB, 1), (echoB, 2), (multiB, 4)]
section
set_option maxRecDepth 20000
set_option synthInstance.maxSize 100000
set_option synthInstance.maxHeartbeats 4000000
theorem caps_seq {w0 : World} {Tl : List SL} : SeqOf P w0 (.func (.func 142) #[] #[]) Tl (fun (x : List UInt8 × Int) => [str x.1, .int .i64 x.2]) capsL := by
  intro y J X w ds K o hy hk hx
  have yy : Yld P w0 y J X (fun (x : List UInt8 × Int) => [str x.1, .int .i64 x.2]) capsL := ⟨hy⟩
  refine go ?_
  refine cl_ok (c142 (K := fun v w' => K v ⟨w', ds⟩) ?_ fun v w' h => ⟨v, rfl, h⟩)
  unfold D142
  repeat' (first | refine go ?_ | intro _ | refine And.intro (Sd.mk (by (first | exact fun _ => True.intro | exact And.intro (fun _ => True.intro) (fun _ _ => True.intro) | (intro hq; (first | exact True.intro | omega | (simp only [and_true]; omega) | (simp only [bl] at hq; (try simp only [and_true]); omega) | fail)) | exact And.intro (fun hq => by first | exact True.intro | omega | (simp only [and_true]; omega) | (simp only [bl] at hq; (try simp only [and_true]); omega) | fail) (fun hq hr => by first | exact True.intro | omega | (simp only [and_true]; omega) | (simp only [bl] at hq hr; omega) | (simp only [bl] at hr; omega) | fail) | fail))) ?_ | refine And.intro (by (first | omega | (unfold InR; omega) | decide | (simp only [ll]; omega))) ?_ | (refine And.intro (fun h1 => ?_) (fun h1 => ?_) <;> first | (exact absurd h1 (by decide)) | ((try rw [h1]); (try simp only [bl] at h1))) | dsimp only)
  refine ⟨(awayB, 1), rfl, rfl, fun w' o1 => ?_, fun w' o1 => ?_⟩
  · clear o
    repeat' (first | refine go ?_ | intro _ | refine And.intro (Sd.mk (by (first | exact fun _ => True.intro | exact And.intro (fun _ => True.intro) (fun _ _ => True.intro) | (intro hq; (first | exact True.intro | omega | (simp only [and_true]; omega) | (simp only [bl] at hq; (try simp only [and_true]); omega) | fail)) | exact And.intro (fun hq => by first | exact True.intro | omega | (simp only [and_true]; omega) | (simp only [bl] at hq; (try simp only [and_true]); omega) | fail) (fun hq hr => by first | exact True.intro | omega | (simp only [and_true]; omega) | (simp only [bl] at hq hr; omega) | (simp only [bl] at hr; omega) | fail) | fail))) ?_ | refine And.intro (by (first | omega | (unfold InR; omega) | decide | (simp only [ll]; omega))) ?_ | (refine And.intro (fun h1 => ?_) (fun h1 => ?_) <;> first | (exact absurd h1 (by decide)) | ((try rw [h1]); (try simp only [bl] at h1))) | dsimp only)
    refine ⟨(echoB, 2), rfl, rfl, fun w' o2 => ?_, fun w' o2 => ?_⟩
    · clear o1
      repeat' (first | refine go ?_ | intro _ | refine And.intro (Sd.mk (by (first | exact fun _ => True.intro | exact And.intro (fun _ => True.intro) (fun _ _ => True.intro) | (intro hq; (first | exact True.intro | omega | (simp only [and_true]; omega) | (simp only [bl] at hq; (try simp only [and_true]); omega) | fail)) | exact And.intro (fun hq => by first | exact True.intro | omega | (simp only [and_true]; omega) | (simp only [bl] at hq; (try simp only [and_true]); omega) | fail) (fun hq hr => by first | exact True.intro | omega | (simp only [and_true]; omega) | (simp only [bl] at hq hr; omega) | (simp only [bl] at hr; omega) | fail) | fail))) ?_ | refine And.intro (by (first | omega | (unfold InR; omega) | decide | (simp only [ll]; omega))) ?_ | (refine And.intro (fun h1 => ?_) (fun h1 => ?_) <;> first | (exact absurd h1 (by decide)) | ((try rw [h1]); (try simp only [bl] at h1))) | dsimp only)
      refine ⟨(multiB, 4), rfl, rfl, fun w' o3 => ?_, fun w' o3 => ?_⟩
      · clear o2
        repeat' (first | refine go ?_ | intro _ | refine And.intro (Sd.mk (by (first | exact fun _ => True.intro | exact And.intro (fun _ => True.intro) (fun _ _ => True.intro) | (intro hq; (first | exact True.intro | omega | (simp only [and_true]; omega) | (simp only [bl] at hq; (try simp only [and_true]); omega) | fail)) | exact And.intro (fun hq => by first | exact True.intro | omega | (simp only [and_true]; omega) | (simp only [bl] at hq; (try simp only [and_true]); omega) | fail) (fun hq hr => by first | exact True.intro | omega | (simp only [and_true]; omega) | (simp only [bl] at hq hr; omega) | (simp only [bl] at hr; omega) | fail) | fail))) ?_ | refine And.intro (by (first | omega | (unfold InR; omega) | decide | (simp only [ll]; omega))) ?_ | (refine And.intro (fun h1 => ?_) (fun h1 => ?_) <;> first | (exact absurd h1 (by decide)) | ((try rw [h1]); (try simp only [bl] at h1))) | dsimp only)
        exact hk _ _ o3
      · clear o2
        repeat' (first | refine go ?_ | intro _ | refine And.intro (Sd.mk (by (first | exact fun _ => True.intro | exact And.intro (fun _ => True.intro) (fun _ _ => True.intro) | (intro hq; (first | exact True.intro | omega | (simp only [and_true]; omega) | (simp only [bl] at hq; (try simp only [and_true]); omega) | fail)) | exact And.intro (fun hq => by first | exact True.intro | omega | (simp only [and_true]; omega) | (simp only [bl] at hq; (try simp only [and_true]); omega) | fail) (fun hq hr => by first | exact True.intro | omega | (simp only [and_true]; omega) | (simp only [bl] at hq hr; omega) | (simp only [bl] at hr; omega) | fail) | fail))) ?_ | refine And.intro (by (first | omega | (unfold InR; omega) | decide | (simp only [ll]; omega))) ?_ | (refine And.intro (fun h1 => ?_) (fun h1 => ?_) <;> first | (exact absurd h1 (by decide)) | ((try rw [h1]); (try simp only [bl] at h1))) | dsimp only)
        exact hx _ _ _ _ (rfl : capsL[2]? = some (multiB, 4)) o3
    · clear o1
      repeat' (first | refine go ?_ | intro _ | refine And.intro (Sd.mk (by (first | exact fun _ => True.intro | exact And.intro (fun _ => True.intro) (fun _ _ => True.intro) | (intro hq; (first | exact True.intro | omega | (simp only [and_true]; omega) | (simp only [bl] at hq; (try simp only [and_true]); omega) | fail)) | exact And.intro (fun hq => by first | exact True.intro | omega | (simp only [and_true]; omega) | (simp only [bl] at hq; (try simp only [and_true]); omega) | fail) (fun hq hr => by first | exact True.intro | omega | (simp only [and_true]; omega) | (simp only [bl] at hq hr; omega) | (simp only [bl] at hr; omega) | fail) | fail))) ?_ | refine And.intro (by (first | omega | (unfold InR; omega) | decide | (simp only [ll]; omega))) ?_ | (refine And.intro (fun h1 => ?_) (fun h1 => ?_) <;> first | (exact absurd h1 (by decide)) | ((try rw [h1]); (try simp only [bl] at h1))) | dsimp only)
      exact hx _ _ _ _ (rfl : capsL[1]? = some (echoB, 2)) o2
  · clear o
    repeat' (first | refine go ?_ | intro _ | refine And.intro (Sd.mk (by (first | exact fun _ => True.intro | exact And.intro (fun _ => True.intro) (fun _ _ => True.intro) | (intro hq; (first | exact True.intro | omega | (simp only [and_true]; omega) | (simp only [bl] at hq; (try simp only [and_true]); omega) | fail)) | exact And.intro (fun hq => by first | exact True.intro | omega | (simp only [and_true]; omega) | (simp only [bl] at hq; (try simp only [and_true]); omega) | fail) (fun hq hr => by first | exact True.intro | omega | (simp only [and_true]; omega) | (simp only [bl] at hq hr; omega) | (simp only [bl] at hr; omega) | fail) | fail))) ?_ | refine And.intro (by (first | omega | (unfold InR; omega) | decide | (simp only [ll]; omega))) ?_ | (refine And.intro (fun h1 => ?_) (fun h1 => ?_) <;> first | (exact absurd h1 (by decide)) | ((try rw [h1]); (try simp only [bl] at h1))) | dsimp only)
    exact hx _ _ _ _ (rfl : capsL[0]? = some (awayB, 1)) o1
variable {K : Value → St → Prop} {w0 w : World} {H : List SL} {ds : List Deferred} {l : List UInt8}
def numC (l : List UInt8) : Int := if awayB = l then 1 else if echoB = l then 2 else if multiB = l then 4 else 0
theorem num_at {x : List UInt8 × Int} (h : x ∈ capsL) : numC x.1 = x.2 := by
  have : ∀ x ∈ capsL, numC x.1 = x.2 := by decide
  exact this x h
theorem num_no (h : ∀ j, j < 3 → (capsL.getD j default).1 ≠ l) : numC l = 0 := by
  unfold numC
  rw [if_neg (show awayB ≠ l from h 0 (by decide)), if_neg (show echoB ≠ l from h 1 (by decide)), if_neg (show multiB ≠ l from h 2 (by decide))]
instance all_ok : Step (Cl P 111 #[] K ⟨w, ds⟩) (K (.func (.func 142) #[] #[]) ⟨w, ds⟩) := ⟨fun h => by
  refine cl_ok (c111 (K := fun v w' => K v ⟨w', ds⟩) ?_ fun v w' h => ⟨v, rfl, h⟩)
  unfold D111
  refine go ?_
  exact h⟩
instance number_ok [o : Hv w0 H w] : Step (Cl P 113 #[str l] K ⟨w, ds⟩) (∀ w', Hv w0 H w' → K (.int .i64 (numC l)) ⟨w', ds⟩) := ⟨fun h => by
  refine cl_ok (c113 (K := fun v w' => K v ⟨w', ds⟩) ?_ fun v w' h => ⟨v, rfl, h⟩)
  unfold D113
  repeat' (first | refine go ?_ | intro _ | refine And.intro (Sd.mk (by (first | exact fun _ => True.intro | exact And.intro (fun _ => True.intro) (fun _ _ => True.intro) | (intro hq; (first | exact True.intro | omega | (simp only [and_true]; omega) | (simp only [bl] at hq; (try simp only [and_true]); omega) | fail)) | exact And.intro (fun hq => by first | exact True.intro | omega | (simp only [and_true]; omega) | (simp only [bl] at hq; (try simp only [and_true]); omega) | fail) (fun hq hr => by first | exact True.intro | omega | (simp only [and_true]; omega) | (simp only [bl] at hq hr; omega) | (simp only [bl] at hr; omega) | fail) | fail))) ?_ | refine And.intro (by (first | omega | (unfold InR; omega) | decide | (simp only [ll]; omega))) ?_ | (refine And.intro (fun h1 => ?_) (fun h1 => ?_) <;> first | (exact absurd h1 (by decide)) | ((try rw [h1]); (try simp only [bl] at h1))) | dsimp only)
  rename_i b1 _ _ b2 w1 o1
  refine rf_go (w0 := w0) (T := H) (J := fun i => many [lift (∀ j, j < i → (capsL.getD j default).1 ≠ l), box b1 9 [str l], box b2 3 [.int .i64 0]])
    (XR := fun i => many [lift ((capsL.getD i default).1 = l), box b1 9 [str l], box b2 3 [.int .i64 (capsL.getD i default).2]]) (XE := fun _ _ => lift False) caps_seq (fun _ => rfl) ?_ ?_ ?_ ?_ (fun b j i x w' _ h => h.lifted.elim)
  · refine Hv.closes ?_
    dsimp only [List.cons_append, List.nil_append]
    exact Hv.lift (Sub.hv (subBox rfl (subBox rfl subEnd))) (fun j h => absurd h (by omega))
  · intro bd l1 rc R1 F w8 i x hi o8 hnx hr hx
    have o9 := o8.opens
    have hno := o9.lifted
    have hx : capsL.getD i default = x := by rw [List.getD_eq_getElem?_getD, hi]; rfl
    dsimp only [List.cons_append, List.nil_append, List.headD, List.tail] at o9 ⊢
    clear o8
    repeat' (first | refine go ?_ | intro _ | refine And.intro (Sd.mk (by (first | exact fun _ => True.intro | exact And.intro (fun _ => True.intro) (fun _ _ => True.intro) | (intro hq; (first | exact True.intro | omega | (simp only [and_true]; omega) | (simp only [bl] at hq; (try simp only [and_true]); omega) | fail)) | exact And.intro (fun hq => by first | exact True.intro | omega | (simp only [and_true]; omega) | (simp only [bl] at hq; (try simp only [and_true]); omega) | fail) (fun hq hr => by first | exact True.intro | omega | (simp only [and_true]; omega) | (simp only [bl] at hq hr; omega) | (simp only [bl] at hr; omega) | fail) | fail))) ?_ | refine And.intro (by (first | omega | (unfold InR; omega) | decide | (simp only [ll]; omega))) ?_ | (refine And.intro (fun h1 => ?_) (fun h1 => ?_) <;> first | (exact absurd h1 (by decide)) | ((try rw [h1]); (try simp only [bl] at h1))) | dsimp only)
    · refine hr _ (Hv.closes ?_)
      dsimp only [List.cons_append, List.nil_append]
      exact Hv.lift (Sub.hv (subBox rfl (subBox (by rw [hx]) (subA (subA subEnd))))) (by rw [hx]; exact h1)
    · refine hnx _ (Hv.closes ?_)
      dsimp only [List.cons_append, List.nil_append]
      refine Hv.lift (Sub.hv (subBox rfl (subBox rfl (subA (subA subEnd))))) (fun j hj => ?_)
      rcases Nat.lt_or_ge j i with hlt | hge
      · exact hno j hlt
      · obtain rfl : j = i := by omega
        rw [hx]; exact h1
  · intro bd w8 o8
    have o9 := o8.opens
    have hno := o9.lifted
    dsimp only [List.cons_append, List.nil_append] at o9
    clear o8
    repeat' (first | refine go ?_ | intro _ | refine And.intro (Sd.mk (by (first | exact fun _ => True.intro | exact And.intro (fun _ => True.intro) (fun _ _ => True.intro) | (intro hq; (first | exact True.intro | omega | (simp only [and_true]; omega) | (simp only [bl] at hq; (try simp only [and_true]); omega) | fail)) | exact And.intro (fun hq => by first | exact True.intro | omega | (simp only [and_true]; omega) | (simp only [bl] at hq; (try simp only [and_true]); omega) | fail) (fun hq hr => by first | exact True.intro | omega | (simp only [and_true]; omega) | (simp only [bl] at hq hr; omega) | (simp only [bl] at hr; omega) | fail) | fail))) ?_ | refine And.intro (by (first | omega | (unfold InR; omega) | decide | (simp only [ll]; omega))) ?_ | (refine And.intro (fun h1 => ?_) (fun h1 => ?_) <;> first | (exact absurd h1 (by decide)) | ((try rw [h1]); (try simp only [bl] at h1))) | dsimp only)
    rw [num_no hno] at h
    exact h _ (Sub.hv subEnd)
  · intro bd i x w8 hi o8
    have o9 := o8.opens
    have hno := o9.lifted
    dsimp only [List.cons_append, List.nil_append] at o9
    clear o8
    repeat' (first | refine go ?_ | intro _ | refine And.intro (Sd.mk (by (first | exact fun _ => True.intro | exact And.intro (fun _ => True.intro) (fun _ _ => True.intro) | (intro hq; (first | exact True.intro | omega | (simp only [and_true]; omega) | (simp only [bl] at hq; (try simp only [and_true]); omega) | fail)) | exact And.intro (fun hq => by first | exact True.intro | omega | (simp only [and_true]; omega) | (simp only [bl] at hq; (try simp only [and_true]); omega) | fail) (fun hq hr => by first | exact True.intro | omega | (simp only [and_true]; omega) | (simp only [bl] at hq hr; omega) | (simp only [bl] at hr; omega) | fail) | fail))) ?_ | refine And.intro (by (first | omega | (unfold InR; omega) | decide | (simp only [ll]; omega))) ?_ | (refine And.intro (fun h1 => ?_) (fun h1 => ?_) <;> first | (exact absurd h1 (by decide)) | ((try rw [h1]); (try simp only [bl] at h1))) | dsimp only)
    rw [← num_at (x := capsL.getD i default) (getD_mem (List.getElem?_eq_some_iff.1 hi).1), hno]
    exact h _ (Sub.hv subEnd)⟩
end
end Go.Proofs.YtapammcnagjigaaDoor

