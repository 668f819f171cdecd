import Derived.Test.YtapammcnagjigaaGreatDoorRows
import Derived.Test.YtapammcnagjigaaGreatDoorMn
import Derived.Test.YtapammcnagjigaaGreatDoorFk
import Derived.Test.YtapammcnagjigaaGreatDoorEng
import Derived.Test.YtapammcnagjigaaGreatDoorCards
import Derived.Test.YtapammcnagjigaaGreatDoorTie
import Derived.Lay
import Derived.LaidOnce
import Derived.LaidMore
import Derived.Stop.Joined
import Derived.Stop.LaidErr
import Derived.SevenTiedAt
import Derived.ProofKit
import Derived.OpenShut
import Derived.ChangeOld
import Derived.SizedLaws
set_option linter.all false
/- rollcalllaw07.MessageTexts returns true for every input, where the package-level variables read as the program lays them. No other condition. -/
namespace Go.Proofs.YtapammcnagjigaaGreatDoor.messageTexts
open Go.ChangeShapes Go.WideShapes Go.ChangeAt Go.RowKit Go.Vx
open Go.ChangeMaps (open_string)
theorem own : ownKnob Tryz.prog.godebug = none := by kernel_rfl
def laidL : List (String × DataW Unit) := [("unicode/utf8.acceptRanges", Rows.laid_unicode_utf8_acceptRanges), ("unicode/utf8.first", Rows.laid_unicode_utf8_first)]
theorem facts {W : World} (_ : laidMetH Tryz.prog laidL W) : True := trivial
set_option maxRecDepth 100000 in
theorem lifted (os : Os) (started : os.Started) (H : Type) (enc : TypeId × Value → H) :
    ReturnsInHanded {} Tryz.checked os 3 .any (fun w args => (Rows.messageTextsSpec.pre enc Tryz.prog Tryz.f3 [] false w args ∧ laidMetH Tryz.prog laidL w) ∧ sizedMet enc Tryz.prog Tryz.f3 (OpenSpec.ofChange Rows.messageTextsSpec) false w args) (Rows.messageTextsSpec.post enc Tryz.prog Tryz.f3 false true false false) := by
  refine returnsInHanded_of_change_and (C := Tryz.checked) (X := fun w _ => laidMetH Tryz.prog laidL w) (fun _ _ _ hh h => h.of_heap hh) own started (by kernel_rfl) Tryz.func3
    (ChangeSpec.witness_shaped (enc := enc) (C := Tryz.checked) (os := os) (X := fun w _ => laidMetH Tryz.prog laidL w) false (World.laidAll Tryz.prog os laidL) #[.agg #[.slice none 0 0, .string ⟨#[]⟩, .string ⟨#[]⟩, .slice none 0 0]] 8 (World.laidAll_os _ _ _) (World.shaped_of_ZipB (by kernel_rfl) (by kernel_rfl)) (by kernel_rfl) (by kernel_rfl) (by kernel_rfl) (by rw [MakeChecks.laidMetH_plain _ _ _ (by kernel_rfl)]; exact laidMet_laidAll _ (by kernel_rfl) (by kernel_rfl))) ?_
  intro W base args ds gs before hval0 hW hcnd hsz0 hL _
  have hval : ∀ (j : Nat) t v, Tryz.f3.params[j]? = some t → args[j]? = some v → Value.okWide Tryz.prog W .any base t v := hval0
  have hW' := hW
  have hlt : ∀ p ∈ before, p.block < W.heap.size := fun p hp => hW.lt p hp
  obtain ⟨p, q, hA0, hV, rfl, hfz, hnd⟩ := hW
  have hA : DataW.TrodAll enc Tryz.prog W 0 (fun _ => true) true Tryz.f3.params.toList args.toList ds p := hA0
  have hA1 := hA
  rw [Tryz.params3] at hA hval
  have hT := facts hL
  obtain ⟨v0, vs0, d0, ds0, p0, q0, hargs, rfl, rfl, h0, r0⟩ := trodAll_cons hA
  obtain ⟨rfl, rfl, rfl⟩ := trodAll_nil r0
  obtain rfl : args = #[v0] := by cases args; simp_all
  obtain ⟨rfl, rfl⟩ := trodVars_none hV
  obtain ⟨cs0, rfl, cz0⟩ : ∃ cs : Array Value, v0 = .agg cs ∧ cs.size = 4 := by
    have h := hval 0 25 v0 rfl rfl
    simp only [Value.okWide, Tryz.underlying25] at h
    obtain ⟨cs, e, hz, _⟩ := h
    exact ⟨cs, e, by rw [hz]; kernel_rfl⟩
  obtain ⟨fuel0, hf0⟩ := h0
  obtain ⟨x0_0, n0_0, y0_0, e0_0, hq0_0, hwt0_0⟩ := struct_slW (i := 0) Tryz.underlying25 hf0 rfl Tryz.underlying22 (by kernel_rfl)
  obtain ⟨xs0_0, hp0_0, hw0_0⟩ := arg_listQ encT (fun d y => y.1.length ∈ d.weights Tryz.prog 49 ∧ y.2.length ∈ d.weights Tryz.prog 49) (fun _ => rfl) tag_one (by decide) Tryz.underlying22 (by kernel_rfl) (fun _ _ _ h hl => tag_each h hl) hq0_0
  have hz0_0 : ∀ y ∈ xs0_0, y.1.length ≤ 140737488351232 ∧ y.2.length ≤ 140737488351232 := fun y hy => by
    obtain ⟨es, sps, d, e1, e2, hq⟩ := hw0_0 y hy
    exact ⟨sized_in (j := 0) hsz0 rfl rfl (hwt0_0 _ (slice_weights e1 Tryz.underlying22 e2 hq.1)), sized_in (j := 0) hsz0 rfl rfl (hwt0_0 _ (slice_weights e1 Tryz.underlying22 e2 hq.2))⟩
  obtain ⟨x0_1, e0_1⟩ := struct_str (i := 1) Tryz.underlying25 hf0 rfl Tryz.underlying9 (by kernel_rfl)
  obtain ⟨x0_2, e0_2⟩ := struct_str (i := 2) Tryz.underlying25 hf0 rfl Tryz.underlying9 (by kernel_rfl)
  obtain ⟨x0_3, n0_3, y0_3, e0_3, hq0_3, hwt0_3⟩ := struct_slW (i := 3) Tryz.underlying25 hf0 rfl Tryz.underlying23 (by kernel_rfl)
  obtain ⟨xs0_3, hp0_3, hw0_3⟩ := arg_strsQ Tryz.underlying23 Tryz.underlying9 (by kernel_rfl) hq0_3
  have hz0_3 : ∀ y ∈ xs0_3, y.length ≤ 140737488351232 := fun y hy => by
    obtain ⟨es, sps, d, e1, e2, hq⟩ := hw0_3 y hy
    exact sized_in (j := 0) hsz0 rfl rfl (hwt0_3 _ (slice_weights e1 Tryz.underlying23 e2 hq))
  obtain rfl : cs0 = #[x0_0, .string x0_1, .string x0_2, x0_3] := by
    apply Array.toList_inj.1
    refine list_of_at (by simpa using cz0) fun i hi => ?_
    match i, hi with
    | 0, _ => exact e0_0
    | 1, _ => exact e0_1
    | 2, _ => exact e0_2
    | 3, _ => exact e0_3
    | n + 4, hi => exact absurd hi (by simp)
  clear hval0 hsz0
  have walk := mtexts_ok (w := W) (pre := x0_1.data.toList) (cmd := x0_2.data.toList) hp0_0 hp0_3 ⟨fun t ht => by have := hz0_0 t ht; omega⟩ ⟨fun p hp => by have := hz0_3 p hp; omega⟩
  rw [str_of x0_1, str_of x0_2] at walk
  refine walk.mono fun e W' ⟨he, hv⟩ => ?_
  subst he
  have bel := hv.bel
  exact ⟨_, rfl, _, _, _, [], _, [], hW', trodAll_mk1 (shut_bool Tryz.underlying4 _), args_stay kids sizedT bel (by rw [Tryz.params3]; intro t ht; simp at ht; subst ht; decide +kernel) hA1 (fun q hq => hlt q (List.mem_append.2 (.inl hq))), rfl, bel.frame _, fun h => by cases h⟩
theorem over : Rows.messageTextsRow.holds Tryz.pinned (OpenSpec.ofChange Rows.messageTextsSpec) :=
  OpenClaim.holds_of_wide 3 Tryz.f3 rfl rfl rfl rfl rfl rfl rfl ⟨rfl, rfl, rfl, rfl, rfl⟩ rfl rfl rfl rfl rfl (by kernel_rfl) Tryz.func3 (by kernel_rfl)
    (of_decide_eq_true (by kernel_rfl)) (by unfold Func.isWrapper; first | (rw [if_pos (by decide +kernel)]; kernel_rfl) | (rw [if_neg (by decide +kernel)]; exact ⟨rfl, rfl⟩))
    (fun os started H enc _ => lifted os started H enc)
theorem card_proved : Rows.MessageTextsCardSaid :=
  Claim7.holds_tied_plain_at .later [] [.data, .pinned] true (true, "d577e333c8c41c87dc62ac894d4c18c302e0319757a708a60736461aaacec88a") false
    over (fun _ h => by cases h) (by kernel_rfl) (fun _ h => by cases h) messageTexts_row_tie rfl ⟨rfl, rfl⟩ (by kernel_rfl) rfl
    (fun f fn hf hfn => by
      obtain rfl : f = 3 := Option.some.inj ((show Tryz.prog.funcNamed "rollcall/rollcalllaw07.MessageTexts" = some 3 by kernel_rfl).symm.trans hf) |>.symm
      obtain rfl : fn = Tryz.f3 := (Option.some.inj (Tryz.func3.symm.trans hfn)).symm
      exact ⟨by kernel_rfl, fun j t ht => by
        rw [Tryz.params3] at ht
        have hm : t ∈ [25] := by simpa using Array.mem_of_getElem? ht
        have hall : ([25].all fun u => !Tryz.prog.wantsStandIn u) = true := by kernel_rfl
        exact (show Tryz.prog.wantsStandIn t = false by simpa using List.all_eq_true.1 hall t hm)⟩)
    (by kernel_rfl)
#print axioms card_proved
end Go.Proofs.YtapammcnagjigaaGreatDoor.messageTexts

