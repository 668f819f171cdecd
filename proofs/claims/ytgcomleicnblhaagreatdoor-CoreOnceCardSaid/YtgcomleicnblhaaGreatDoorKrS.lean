import Derived.Test.YtgcomleicnblhaaGreatDoorKrR
set_option linter.all false
namespace Go.Proofs.YtgcomleicnblhaaGreatDoor
open Go.Vx Go.Lib
/-! what the document tells of the server -/
def ircx : List UInt8 := [105, 114, 99, 46, 120]
def c1 : Cfg := ⟨ircx, [], [], [], 1, 512, 1, 1, 1, 1, 1, 0, 1, 1, 1⟩
theorem check_all {c : Cfg} (h : checkS c = 0) : serverS c.name = true ∧ ∀ e ∈ bnds c, e.2.1 ≤ e.1 ∧ e.1 ≤ e.2.2 := by
  unfold checkS at h
  split at h
  · cases h
  split at h
  · rename_i hb ha
    refine ⟨?_, fun e he => ?_⟩
    · unfold badF at hb
      revert hb
      cases serverS c.name <;> simp
    · have := List.all_eq_true.1 ha e he
      simp [okB] at this
      exact this
  · cases h
theorem new_good {c : Cfg} (h : checkS c = 0) : (Cs.new c).good 0 0 := by
  obtain ⟨h1, h2⟩ := check_all h
  have b1 := h2 (c.ping, 1, 1000000) (by simp [bnds])
  have b2 := h2 (c.grace, 1, 1000000) (by simp [bnds])
  have b3 := h2 (c.reg, 1, 1000000) (by simp [bnds])
  have hn : c.name.length ≤ 63 := by simp [serverS, hostS, lenS] at h1; omega
  have fr : ∀ z, (Rl.new z).fit ∧ ∀ l, ((Rl.new z).byS l).length ≤ 1000 := fun z => ⟨⟨by simp [Rl.new], fun _ => Nat.zero_le _, fun _ => Nat.zero_le _⟩, fun _ => Nat.zero_le _⟩
  refine ⟨(fun id y h => by cases h), Nat.le_trans hn (by decide), ⟨Int.le_refl 0, (by show (0 : Int) ≤ 1000000; decide)⟩, fr _, fr _, ⟨Nat.le_refl _, (by show (1000 : Int) ≤ 100000; decide)⟩, ⟨Nat.le_refl _, Nat.le_refl _, Nat.le_refl _⟩, ?_, Nat.le_refl _⟩
  dsimp only [Cs.new] at b1 b2 b3 ⊢
  omega
section
set_option maxRecDepth 20000
set_option synthInstance.maxSize 100000
set_option synthInstance.maxHeartbeats 4000000
variable {K : Value → St → Prop} {w0 w : World} {H R : List SL} {ds : List Deferred}
instance awake23_ok [o : Hv w0 H w] : Step (Cl P 6 #[] K ⟨w, ds⟩) (∀ w', Hv w0 H w' → K (.bool true) ⟨w', ds⟩) := ⟨fun h => by
  refine s6 ?_
  unfold D6
  repeat' (first | refine go ?_ | intro _ | refine ⟨sb, ?_⟩ | refine ⟨sd, ?_⟩ | (refine ⟨fun h1 => ?_, fun h1 => ?_⟩ <;> first | exact ab h1 | ((try rw [h1]); (try simp only [bl] at h1))) | dsimp only)
  have g0 : (Cs.new ⟨[105, 114, 99, 46, 120], [], [], [], 1, 512, 1, 1, 1, 1, 1, 0, 1, 1, 1⟩).good 0 0 := new_good (by decide +kernel)
  refine And.intro ⟨g0.timed (by decide), ⟨by decide, by decide⟩, by decide, by decide⟩ (And.intro (fun hn => (hn ⟨by decide, rfl, by decide⟩).elim) ?_)
  intro _ b w1 o1
  have g1 : ((Cs.new ⟨[105, 114, 99, 46, 120], [], [], [], 1, 512, 1, 1, 1, 1, 1, 0, 1, 1, 1⟩).connect b 1 [104]).good 0 1 := g0.connect b 1 [104] (by decide)
  repeat' (first | refine go ?_ | intro _ | refine ⟨sb, ?_⟩ | refine ⟨sd, ?_⟩ | (refine ⟨fun h1 => ?_, fun h1 => ?_⟩ <;> first | exact ab h1 | ((try rw [h1]); (try simp only [bl] at h1))) | dsimp only)
  have e1 : ((((Cs.new ⟨[105, 114, 99, 46, 120], [], [], [], 1, 512, 1, 1, 1, 1, 1, 0, 1, 1, 1⟩).connect b 1 [104]).tell 1 [[104, 105]]).drain 1 9).2 = [104, 105, 13, 10] := by kernel_rfl
  have e2 : (((((Cs.new ⟨[105, 114, 99, 46, 120], [], [], [], 1, 512, 1, 1, 1, 1, 1, 0, 1, 1, 1⟩).connect b 1 [104]).tell 1 [[104, 105]]).drain 1 9).1.live 1).isSome = true := by kernel_rfl
  refine And.intro ⟨⟨g1.fine, fun l hl => by rw [List.mem_singleton.1 hl]; decide⟩, (by show 0 + 1 ≤ 1000000; decide)⟩ ?_
  intro w2 o2
  have g2 := g1.fine.tell 1 [[104, 105]]
  generalize ((Cs.new ⟨[105, 114, 99, 46, 120], [], [], [], 1, 512, 1, 1, 1, 1, 1, 0, 1, 1, 1⟩).connect b 1 [104]).tell 1 [[104, 105]] = x2 at *
  repeat' (first | refine go ?_ | intro _ | refine ⟨sb, ?_⟩ | refine ⟨sd, ?_⟩ | (refine ⟨fun h1 => ?_, fun h1 => ?_⟩ <;> first | exact ab h1 | ((try rw [h1]); (try simp only [bl] at h1))) | dsimp only)
  · rw [e2]; exact h _ (Sub.hv subEnd)
  · exact absurd e1 h1⟩
end
end Go.Proofs.YtgcomleicnblhaaGreatDoor

