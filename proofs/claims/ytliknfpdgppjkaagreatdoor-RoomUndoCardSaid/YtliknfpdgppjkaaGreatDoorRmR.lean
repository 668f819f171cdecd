import Derived.Test.YtliknfpdgppjkaaGreatDoorRmQ
set_option linter.all false
namespace Go.Proofs.YtliknfpdgppjkaaGreatDoor
open Go.Vx Go.Lib
section
set_option maxRecDepth 20000
set_option synthInstance.maxSize 100000
set_option synthInstance.maxHeartbeats 4000000
variable {K : Value → St → Prop} {w0 w : World} {H R R1 : List SL} {ds : List Deferred}
theorem nilB_seq {T : List SL} {α : Type} {enc : α → List Value} : SeqOf P w0 (.func (.func 63) #[] #[]) T enc [] := by
  intro y J X w ds K o hy hk hx
  refine go ?_
  refine s63 ?_
  unfold D63
  refine go ?_
  exact hk _ _ o
theorem nilM_seq {T : List SL} {α : Type} {enc : α → List Value} : SeqOf P w0 (.func (.func 77) #[] #[]) T enc [] := by
  intro y J X w ds K o hy hk hx
  refine go ?_
  refine s77 ?_
  unfold D77
  refine go ?_
  exact hk _ _ o
instance nlbans_ok [o : Hv w0 H w] : Step (Cl P 13 #[.pointer none] K ⟨w, ds⟩) (∀ w', Hv w0 H w' → K (.tuple #[.slice none 0 0, .bool true]) ⟨w', ds⟩) := ⟨fun h => by
  refine s13 ?_
  unfold D13
  repeat' (first | refine go ?_ | intro _ | refine ⟨sb, ?_⟩ | refine ⟨sd, ?_⟩ | (refine ⟨fun h1 => ?_, fun h1 => ?_⟩ <;> first | exact ab h1 | ((try rw [h1]); (try simp only [bl] at h1))) | dsimp only)
  rename_i b1 w1 o1 b2 w2 o2 b3 w3 o3 w4 o4
  clear o o1 o2 o3
  refine rf_go (w0 := w0) H (fun _ => many [box b1 34 [.slice none 0 0], box b2 4 [.bool false], box b3 34 [.slice none 0 0]]) (fun _ => lift False) (fun _ _ => lift False) (nilB_seq (α := List UInt8) (enc := fun l => [str l])) (fun _ => rfl) ?_ ?_ ?_ (fun b i x w' _ h => h.lifted.elim) (fun b j i x w' _ h => h.lifted.elim)
  · exact Sub.hv <| Sub.many <| subBox rfl <| subBox rfl <| subBox rfl subEnd
  · intro b l rc R F w i x hi
    simp at hi
  · intro b w8 o8
    have o9 := o8.opens
    simp only [List.cons_append, List.nil_append] at o9
    clear o4 o8
    repeat' (first | refine go ?_ | intro _ | refine ⟨sb, ?_⟩ | refine ⟨sd, ?_⟩ | (refine ⟨fun h1 => ?_, fun h1 => ?_⟩ <;> first | exact ab h1 | ((try rw [h1]); (try simp only [bl] at h1))) | dsimp only)
    exact h _ (Sub.hv subEnd)⟩
instance nlmem_ok [o : Hv w0 H w] : Step (Cl P 18 #[.pointer none, .slice none 0 0] K ⟨w, ds⟩) (∀ w', Hv w0 H w' → K (.bool true) ⟨w', ds⟩) := ⟨fun h => by
  refine s18 ?_
  unfold D18
  repeat' (first | refine go ?_ | intro _ | refine ⟨sb, ?_⟩ | refine ⟨sd, ?_⟩ | (refine ⟨fun h1 => ?_, fun h1 => ?_⟩ <;> first | exact ab h1 | ((try rw [h1]); (try simp only [bl] at h1))) | dsimp only)
  rename_i bv wa oa br wb ob bn wc oc wd od bg we oe wf of' w1 o1
  clear o oa ob oc od oe of'
  refine rf_go (w0 := w0) H (fun _ => many [box bg 4 [.bool true], box bn 3 [.int .i64 0], box br 4 [.bool false], box bv 47 [.slice none 0 0]]) (fun _ => lift False) (fun _ _ => lift False) (nilM_seq (α := Mem) (enc := fun m => [memV m])) (fun _ => rfl) ?_ ?_ ?_ (fun b i x w' _ h => h.lifted.elim) (fun b j i x w' _ h => h.lifted.elim)
  · exact Sub.hv <| Sub.many <| subBox rfl <| subBox rfl <| subBox rfl <| subBox rfl subEnd
  · intro b l rc R F w i x hi
    simp at hi
  · intro b w8 o8
    have o9 := o8.opens
    simp only [List.cons_append, List.nil_append] at o9
    clear o1 o8
    repeat' (first | refine go ?_ | intro _ | refine ⟨sb, ?_⟩ | refine ⟨sd, ?_⟩ | (refine ⟨fun h1 => ?_, fun h1 => ?_⟩ <;> first | exact ab h1 | ((try rw [h1]); (try simp only [bl] at h1))) | dsimp only)
    exact h _ (Sub.hv subEnd)⟩
end
end Go.Proofs.YtliknfpdgppjkaaGreatDoor

