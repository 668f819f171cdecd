import Derived.Test.YtapammcnagjigaaDoorRows
import Derived.Test.YtapammcnagjigaaDoorMs
import Derived.Test.YtapammcnagjigaaDoorFk
import Derived.Test.YtapammcnagjigaaDoorEng
import Derived.Test.YtapammcnagjigaaDoorCards
import Derived.Test.YtapammcnagjigaaDoorTie
import Derived.Lay
import Derived.LaidOnce
import Derived.LaidMore
import Derived.Stop.Joined
import Derived.Stop.LaidErr
import Derived.SevenTiedAt
import Derived.ProofKit
import Derived.OpenShut
import Derived.ChangeOld
import Derived.SizedLaws
set_option linter.all false
/- rollcalllaw14.ReplyAll returns true for every input, where the package-level variables read as the program lays them. No other condition. -/
namespace Go.Proofs.YtapammcnagjigaaDoor.replyAll
open Go.ChangeShapes Go.WideShapes Go.ChangeAt Go.RowKit Go.Vx
open Go.ChangeMaps (open_string)
theorem own : ownKnob Tryd.prog.godebug = none := by kernel_rfl
def laidL : List (String × DataW Unit) := [("unicode/utf8.acceptRanges", Rows.laid_unicode_utf8_acceptRanges), ("unicode/utf8.first", Rows.laid_unicode_utf8_first)]
theorem facts {W : World} (_ : laidMetH Tryd.prog laidL W) : True := trivial
set_option maxRecDepth 100000 in
theorem lifted (os : Os) (started : os.Started) (H : Type) (enc : TypeId × Value → H) :
    ReturnsInHanded {} Tryd.checked os 8 .any (fun w args => (Rows.replyAllSpec.pre enc Tryd.prog Tryd.f8 [] false w args ∧ laidMetH Tryd.prog laidL w) ∧ sizedMet enc Tryd.prog Tryd.f8 (OpenSpec.ofChange Rows.replyAllSpec) false w args) (Rows.replyAllSpec.post enc Tryd.prog Tryd.f8 false true false false) := by
  refine returnsInHanded_of_change_and (C := Tryd.checked) (X := fun w _ => laidMetH Tryd.prog laidL w) (fun _ _ _ hh h => h.of_heap hh) own started (by kernel_rfl) Tryd.func8
    (ChangeSpec.witness_shaped (enc := enc) (C := Tryd.checked) (os := os) (X := fun w _ => laidMetH Tryd.prog laidL w) false (World.laidAll Tryd.prog os laidL) #[.slice none 0 0] 8 (World.laidAll_os _ _ _) (World.shaped_of_ZipB (by kernel_rfl) (by kernel_rfl)) (by kernel_rfl) (by kernel_rfl) (by kernel_rfl) (by rw [MakeChecks.laidMetH_plain _ _ _ (by kernel_rfl)]; exact laidMet_laidAll _ (by kernel_rfl) (by kernel_rfl))) ?_
  intro W base args ds gs before hval0 hW hcnd hsz0 hL _
  have hval : ∀ (j : Nat) t v, Tryd.f8.params[j]? = some t → args[j]? = some v → Value.okWide Tryd.prog W .any base t v := hval0
  have hW' := hW
  have hlt : ∀ p ∈ before, p.block < W.heap.size := fun p hp => hW.lt p hp
  obtain ⟨p, q, hA0, hV, rfl, hfz, hnd⟩ := hW
  have hA : DataW.TrodAll enc Tryd.prog W 0 (fun _ => true) true Tryd.f8.params.toList args.toList ds p := hA0
  have hA1 := hA
  rw [Tryd.params8] at hA hval
  have hT := facts hL
  obtain ⟨v0, vs0, d0, ds0, p0, q0, hargs, rfl, rfl, h0, r0⟩ := trodAll_cons hA
  obtain ⟨rfl, rfl, rfl⟩ := trodAll_nil r0
  obtain rfl : args = #[v0] := by cases args; simp_all
  obtain ⟨rfl, rfl⟩ := trodVars_none hV
  obtain ⟨a0, len0, cap0, rfl⟩ := okWide_slice Tryd.underlying46 (hval 0 46 v0 rfl rfl)
  obtain ⟨fuel0, hf0⟩ := h0
  obtain ⟨bs0, hp0⟩ := arg_bytes Tryd.underlying46 Tryd.underlying5 (by kernel_rfl) hf0
  clear hval0 hsz0
  have walk := rall_ok (w := W) hp0
  refine walk.mono fun e W' ⟨he, hv⟩ => ?_
  subst he
  have bel := hv.bel
  exact ⟨_, rfl, _, _, _, [], _, [], hW', trodAll_mk1 (shut_bool Tryd.underlying4 _), args_stay kids sizedT bel (by rw [Tryd.params8]; intro t ht; simp at ht; subst ht; decide +kernel) hA1 (fun q hq => hlt q (List.mem_append.2 (.inl hq))), rfl, bel.frame _, fun h => by cases h⟩
theorem over : Rows.replyAllRow.holds Tryd.pinned (OpenSpec.ofChange Rows.replyAllSpec) :=
  OpenClaim.holds_of_wide 8 Tryd.f8 rfl rfl rfl rfl rfl rfl rfl ⟨rfl, rfl, rfl, rfl, rfl⟩ rfl rfl rfl rfl rfl (by kernel_rfl) Tryd.func8 (by kernel_rfl)
    (of_decide_eq_true (by kernel_rfl)) (by unfold Func.isWrapper; first | (rw [if_pos (by decide +kernel)]; kernel_rfl) | (rw [if_neg (by decide +kernel)]; exact ⟨rfl, rfl⟩))
    (fun os started H enc _ => lifted os started H enc)
theorem card_proved : Rows.ReplyAllCardSaid :=
  Claim7.holds_tied_plain_at .later [] [.data, .pinned] true (true, "02e807c39731216a9831676edf1562b0d358956f1e4c03d97a1782c2b35587ed") false
    over (fun _ h => by cases h) (by kernel_rfl) (fun _ h => by cases h) replyAll_row_tie rfl ⟨rfl, rfl⟩ (by kernel_rfl) rfl
    (fun f fn hf hfn => by
      obtain rfl : f = 8 := Option.some.inj ((show Tryd.prog.funcNamed "rollcall/rollcalllaw14.ReplyAll" = some 8 by kernel_rfl).symm.trans hf) |>.symm
      obtain rfl : fn = Tryd.f8 := (Option.some.inj (Tryd.func8.symm.trans hfn)).symm
      exact ⟨by kernel_rfl, fun j t ht => by
        rw [Tryd.params8] at ht
        have hm : t ∈ [46] := by simpa using Array.mem_of_getElem? ht
        have hall : ([46].all fun u => !Tryd.prog.wantsStandIn u) = true := by kernel_rfl
        exact (show Tryd.prog.wantsStandIn t = false by simpa using List.all_eq_true.1 hall t hm)⟩)
    (by kernel_rfl)
#print axioms card_proved
end Go.Proofs.YtapammcnagjigaaDoor.replyAll

