import Derived.Test.YtnkpdifdjgknbaaDoorRows
import Derived.Test.YtnkpdifdjgknbaaDoorTag
import Derived.Test.YtnkpdifdjgknbaaDoorFk
import Derived.Test.YtnkpdifdjgknbaaDoorCards
import Derived.Test.YtnkpdifdjgknbaaDoorTie
import Derived.Lay
import Derived.LaidOnce
import Derived.LaidMore
import Derived.Stop.Joined
import Derived.Stop.LaidErr
import Derived.SevenTiedAt
import Derived.ProofKit
import Derived.OpenShut
import Derived.ChangeOld
import Derived.SizedLaws
set_option linter.all false
/- rollcalllaw06.TagsTexts returns true for every input, where the package-level variables read as the program lays them. No other condition. -/
namespace Go.Proofs.YtnkpdifdjgknbaaDoor.tagsTexts
open Go.ChangeShapes Go.WideShapes Go.ChangeAt Go.RowKit Go.Vx
open Go.ChangeMaps (open_string)
theorem own : ownKnob Tryd.prog.godebug = none := by kernel_rfl
def laidL : List (String × DataW Unit) := [("unicode/utf8.acceptRanges", Rows.laid_unicode_utf8_acceptRanges), ("unicode/utf8.first", Rows.laid_unicode_utf8_first)]
theorem facts {W : World} (_ : laidMetH Tryd.prog laidL W) : True := trivial
set_option maxRecDepth 100000 in
theorem lifted (os : Os) (started : os.Started) (H : Type) (enc : TypeId × Value → H) :
    ReturnsInHanded {} Tryd.checked os 6 .any (fun w args => (Rows.tagsTextsSpec.pre enc Tryd.prog Tryd.f6 [] false w args ∧ laidMetH Tryd.prog laidL w) ∧ sizedMet enc Tryd.prog Tryd.f6 (OpenSpec.ofChange Rows.tagsTextsSpec) false w args) (Rows.tagsTextsSpec.post enc Tryd.prog Tryd.f6 false true false false) := by
  refine returnsInHanded_of_change_and (C := Tryd.checked) (X := fun w _ => laidMetH Tryd.prog laidL w) (fun _ _ _ hh h => h.of_heap hh) own started (by kernel_rfl) Tryd.func6
    (ChangeSpec.witness_shaped (enc := enc) (C := Tryd.checked) (os := os) (X := fun w _ => laidMetH Tryd.prog laidL w) false (World.laidAll Tryd.prog os laidL) #[.slice none 0 0, .string ⟨#[]⟩] 8 (World.laidAll_os _ _ _) (World.shaped_of_ZipB (by kernel_rfl) (by kernel_rfl)) (by kernel_rfl) (by kernel_rfl) (by kernel_rfl) (by rw [MakeChecks.laidMetH_plain _ _ _ (by kernel_rfl)]; exact laidMet_laidAll _ (by kernel_rfl) (by kernel_rfl))) ?_
  intro W base args ds gs before hval0 hW hcnd hsz0 hL _
  have hval : ∀ (j : Nat) t v, Tryd.f6.params[j]? = some t → args[j]? = some v → Value.okWide Tryd.prog W .any base t v := hval0
  have hW' := hW
  have hlt : ∀ p ∈ before, p.block < W.heap.size := fun p hp => hW.lt p hp
  obtain ⟨p, q, hA0, hV, rfl, hfz, hnd⟩ := hW
  have hA : DataW.TrodAll enc Tryd.prog W 0 (fun _ => true) true Tryd.f6.params.toList args.toList ds p := hA0
  have hA1 := hA
  rw [Tryd.params6] at hA hval
  have hT := facts hL
  obtain ⟨v0, vs0, d0, ds0, p0, q0, hargs, rfl, rfl, h0, r0⟩ := trodAll_cons hA
  obtain ⟨v1, vs1, d1, ds1, p1, q1, rfl, rfl, rfl, h1, r1⟩ := trodAll_cons r0
  obtain ⟨rfl, rfl, rfl⟩ := trodAll_nil r1
  obtain rfl : args = #[v0, v1] := by cases args; simp_all
  obtain ⟨rfl, rfl⟩ := trodVars_none hV
  obtain ⟨a0, len0, cap0, rfl⟩ := okWide_slice Tryd.underlying33 (hval 0 33 v0 rfl rfl)
  obtain ⟨fuel0, hf0⟩ := h0
  obtain ⟨xs0, hp0, hw0⟩ := arg_listQ encT (fun d y => y.1.length ∈ d.weights Tryd.prog 44 ∧ y.2.length ∈ d.weights Tryd.prog 44) (fun _ => rfl) tag_one (by decide) Tryd.underlying33 (by kernel_rfl) (fun _ _ _ h hl => tag_each h hl) hf0
  have hz0 : ∀ y ∈ xs0, y.1.length ≤ 140737488351232 ∧ y.2.length ≤ 140737488351232 := fun y hy => by
    obtain ⟨es, sps, d, e1, e2, hq⟩ := hw0 y hy
    exact ⟨sized_mem (j := 0) hsz0 rfl (congrArg some e1) Tryd.underlying33 e2 hq.1, sized_mem (j := 0) hsz0 rfl (congrArg some e1) Tryd.underlying33 e2 hq.2⟩
  obtain ⟨s1, rfl, rfl, rfl, sz1⟩ := open_string Tryd.underlying9 (hval 1 9 v1 rfl rfl) h1
  clear hval0 hsz0
  have walk := ttexts_ok (w := W) s1.data.toList hp0 hz0
  rw [str_of s1] at walk
  refine walk.mono fun e W' ⟨he, hv⟩ => ?_
  subst he
  have bel := hv.bel
  exact ⟨_, rfl, _, _, _, [], _, [], hW', trodAll_mk1 (shut_bool Tryd.underlying4 _), args_stay kids sizedT bel (by rw [Tryd.params6]; intro t ht; simp at ht; rcases ht with rfl | rfl <;> decide +kernel) hA1 (fun q hq => hlt q (List.mem_append.2 (.inl hq))), rfl, bel.frame _, fun h => by cases h⟩
theorem over : Rows.tagsTextsRow.holds Tryd.pinned (OpenSpec.ofChange Rows.tagsTextsSpec) :=
  OpenClaim.holds_of_wide 6 Tryd.f6 rfl rfl rfl rfl rfl rfl rfl ⟨rfl, rfl, rfl, rfl, rfl⟩ rfl rfl rfl rfl rfl (by kernel_rfl) Tryd.func6 (by kernel_rfl)
    (of_decide_eq_true (by kernel_rfl)) (by unfold Func.isWrapper; first | (rw [if_pos (by decide +kernel)]; kernel_rfl) | (rw [if_neg (by decide +kernel)]; exact ⟨rfl, rfl⟩))
    (fun os started H enc _ => lifted os started H enc)
theorem card_proved : Rows.TagsTextsCardSaid :=
  Claim7.holds_tied_plain_at .later [] [.data, .pinned] true (true, "22c7fb0e44d302a037c3ed3e7c7697c7f42e797ac68efcdd02e9580ca2039c67") false
    over (fun _ h => by cases h) (by kernel_rfl) (fun _ h => by cases h) tagsTexts_row_tie rfl ⟨rfl, rfl⟩ (by kernel_rfl) rfl
    (fun f fn hf hfn => by
      obtain rfl : f = 6 := Option.some.inj ((show Tryd.prog.funcNamed "rollcall/rollcalllaw06.TagsTexts" = some 6 by kernel_rfl).symm.trans hf) |>.symm
      obtain rfl : fn = Tryd.f6 := (Option.some.inj (Tryd.func6.symm.trans hfn)).symm
      exact ⟨by kernel_rfl, fun j t ht => by
        rw [Tryd.params6] at ht
        have hm : t ∈ [33, 9] := by simpa using Array.mem_of_getElem? ht
        have hall : ([33, 9].all fun u => !Tryd.prog.wantsStandIn u) = true := by kernel_rfl
        exact (show Tryd.prog.wantsStandIn t = false by simpa using List.all_eq_true.1 hall t hm)⟩)
    (by kernel_rfl)
#print axioms card_proved
end Go.Proofs.YtnkpdifdjgknbaaDoor.tagsTexts

