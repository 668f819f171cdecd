import Derived.Test.YtapammcnagjigaaDoorSj
import Derived.Test.YtapammcnagjigaaDoorSq
set_option linter.all false
namespace Go.Vx
open Go.RowKit
/-! slices of strings among the arguments, and how long these may be -/
section
variable {H : Type} {enc : TypeId × Value → H} {P : Program} {W : World} {sp : Nat → Bool} {held : Bool}
theorem arg_strsQ {t e fuel : Nat} {c : Value} {x : DataW H × List MemPlace} (ht : P.underlying t = some (.slice e)) (he : P.underlying e = some .string) (hc : P.cellsOf e = 1) (h : DataW.trod enc P W 0 sp held fuel t [c] = some x) :
    ∃ ss : List (List UInt8), Arg W c 1 ss.length (ss.map str) ∧ ∀ y ∈ ss, ∃ es sps d, x.1 = .slice es sps ∧ d ∈ es ∧ y.length ∈ d.weights P e := by
  obtain ⟨ss, h, h2⟩ := arg_listQ (α := List UInt8) (fun l => [str l]) (fun d y => y.length ∈ d.weights P e) (fun _ => rfl) (fun y u hu => by simp at hu; subst hu; rfl) (by decide) ht hc (fun fuel cs x h _ => by
    obtain ⟨s, rfl, h3⟩ := DataW.trod_string he h
    exact ⟨s.data.toList, by rw [str_of], by rw [h3.1]; simp [DataW.weights]⟩) h
  refine ⟨ss, ?_, h2⟩
  have : ss.flatMap (fun l => [str l]) = ss.map str := strs_flat ss
  rwa [this] at h
end
end Go.Vx
