/- rollcalllaw15.ConfigSupports returns true for every input, where the package-level variables read as the program lays them. No other condition. -/
import Derived.Test.YtodnbkggkdadkaaDoorRows
import Derived.Test.YtodnbkggkdadkaaDoorCoG
import Derived.Test.YtodnbkggkdadkaaDoorFk
import Derived.Test.YtodnbkggkdadkaaDoorCards
import Derived.Test.YtodnbkggkdadkaaDoorTie
import Derived.LaidMore
import Derived.Stop.Joined
import Derived.Stop.LaidErr
import Derived.SevenTiedAt
import Derived.ProofKit
import Derived.OpenShut
import Derived.ChangeOld
import Derived.SizedLaws
set_option linter.all false
namespace Go.Proofs.YtodnbkggkdadkaaDoor.configSupports
open Go.ChangeShapes Go.WideShapes Go.ChangeAt Go.RowKit Go.Vx
open Go.ChangeMaps (open_string)
theorem own : ownKnob Tryd.prog.godebug = none := by kernel_rfl
def laidL {H : Type} : List (String × DataW H) := [("math/bits.deBruijn32tab", Rows.laid_math_bits_deBruijn32tab), ("math/bits.deBruijn64tab", Rows.laid_math_bits_deBruijn64tab), ("internal/strconv.uint64pow10", Rows.laid_internal_strconv_uint64pow10)]
set_option maxRecDepth 100000 in
theorem door_met (os : Os) (args : Array Value) : laidMetH Tryd.prog laidL ((World.doorLaid Tryd.prog 400 os).forCall (fun _ _ => 0) ⟨#[], args, []⟩).memory :=
  laidMetH_of_parts3 (fuel := 8) (laidMet_of_run' 8 (by kernel_rfl) (by kernel_rfl)) (by kernel_rfl) (by kernel_rfl)
theorem facts {W : World} (h : laidMetH Tryd.prog laidL W) : Lib.TabIs Tryd.prog W "internal/strconv.uint64pow10" .u64 Lib.pow10Tab := by
  rw [MakeChecks.laidMetH_plain _ _ _ (by kernel_rfl)] at h
  exact Lib.tabIs_of_head (rest := []) (g := 0) (t := 58) (e := 49) (n := 20) (by kernel_rfl) (by kernel_rfl) (by kernel_rfl) (by kernel_rfl) (by kernel_rfl) (by kernel_rfl) (laidMet.tail (laidMet.tail h))
set_option maxRecDepth 100000 in
theorem lifted (os : Os) (started : os.Started) (H : Type) (enc : TypeId × Value → H) :
    ReturnsInHanded {} Tryd.checked os 3 .any (fun w args => (Rows.configSupportsSpec.pre enc Tryd.prog Tryd.f3 [] false w args ∧ laidMetH Tryd.prog laidL w) ∧ sizedMet enc Tryd.prog Tryd.f3 (OpenSpec.ofChange Rows.configSupportsSpec) false w args) (Rows.configSupportsSpec.post enc Tryd.prog Tryd.f3 false true false false) := by
  refine returnsInHanded_of_change_and (C := Tryd.checked) (X := fun w _ => laidMetH Tryd.prog laidL w) (fun _ _ _ hh h => h.of_heap hh) own started (by kernel_rfl) Tryd.func3
    (ChangeSpec.witness_shaped (enc := enc) (C := Tryd.checked) (os := os) (X := fun w _ => laidMetH Tryd.prog laidL w) false (World.doorLaid Tryd.prog 400 os) #[.agg #[.string ⟨#[]⟩, .string ⟨#[]⟩, .string ⟨#[]⟩, .string ⟨#[]⟩, .int .i64 0, .int .i64 0, .int .i64 0, .int .i64 0, .int .i64 0, .int .i64 0, .int .i64 0, .int .i64 0, .int .i64 0, .int .i64 0, .int .i64 0]] 8 rfl (World.shaped_of_RefB (by kernel_rfl) (by kernel_rfl)) (by kernel_rfl) (by kernel_rfl) (by kernel_rfl) (door_met os _)) ?_
  intro W base args ds gs before hval0 hW hcnd hsz0 hL _
  have hval : ∀ (j : Nat) t v, Tryd.f3.params[j]? = some t → args[j]? = some v → Value.okWide Tryd.prog W .any base t v := hval0
  have hW' := hW
  have hlt : ∀ p ∈ before, p.block < W.heap.size := fun p hp => hW.lt p hp
  obtain ⟨p, q, hA0, hV, rfl, hfz, hnd⟩ := hW
  have hA : DataW.TrodAll enc Tryd.prog W 0 (fun _ => true) true Tryd.f3.params.toList args.toList ds p := hA0
  have hA1 := hA
  rw [Tryd.params3] at hA hval
  have hT := facts hL
  obtain ⟨v0, vs0, d0, ds0, p0, q0, hargs, rfl, rfl, h0, r0⟩ := trodAll_cons hA
  obtain ⟨rfl, rfl, rfl⟩ := trodAll_nil r0
  obtain rfl : args = #[v0] := by cases args; simp_all
  obtain ⟨rfl, rfl⟩ := trodVars_none hV
  obtain ⟨cs0, rfl, cz0⟩ : ∃ cs : Array Value, v0 = .agg cs ∧ cs.size = 15 := by
    have h := hval 0 23 v0 rfl rfl
    simp only [Value.okWide, Tryd.underlying23] at h
    obtain ⟨cs, e, hz, _⟩ := h
    exact ⟨cs, e, by rw [hz]; kernel_rfl⟩
  obtain ⟨fuel0, hf0⟩ := h0
  obtain ⟨x0_0, e0_0⟩ := struct_str (i := 0) Tryd.underlying23 hf0 rfl Tryd.underlying9 (by kernel_rfl)
  obtain ⟨x0_1, e0_1⟩ := struct_str (i := 1) Tryd.underlying23 hf0 rfl Tryd.underlying9 (by kernel_rfl)
  obtain ⟨x0_2, e0_2⟩ := struct_str (i := 2) Tryd.underlying23 hf0 rfl Tryd.underlying9 (by kernel_rfl)
  obtain ⟨x0_3, e0_3⟩ := struct_str (i := 3) Tryd.underlying23 hf0 rfl Tryd.underlying9 (by kernel_rfl)
  obtain ⟨x0_4, e0_4, wf0_4⟩ := struct_int (i := 4) Tryd.underlying23 hf0 rfl Tryd.underlying3 (by kernel_rfl)
  obtain ⟨x0_5, e0_5, wf0_5⟩ := struct_int (i := 5) Tryd.underlying23 hf0 rfl Tryd.underlying3 (by kernel_rfl)
  obtain ⟨x0_6, e0_6, wf0_6⟩ := struct_int (i := 6) Tryd.underlying23 hf0 rfl Tryd.underlying3 (by kernel_rfl)
  obtain ⟨x0_7, e0_7, wf0_7⟩ := struct_int (i := 7) Tryd.underlying23 hf0 rfl Tryd.underlying3 (by kernel_rfl)
  obtain ⟨x0_8, e0_8, wf0_8⟩ := struct_int (i := 8) Tryd.underlying23 hf0 rfl Tryd.underlying3 (by kernel_rfl)
  obtain ⟨x0_9, e0_9, wf0_9⟩ := struct_int (i := 9) Tryd.underlying23 hf0 rfl Tryd.underlying3 (by kernel_rfl)
  obtain ⟨x0_10, e0_10, wf0_10⟩ := struct_int (i := 10) Tryd.underlying23 hf0 rfl Tryd.underlying3 (by kernel_rfl)
  obtain ⟨x0_11, e0_11, wf0_11⟩ := struct_int (i := 11) Tryd.underlying23 hf0 rfl Tryd.underlying3 (by kernel_rfl)
  obtain ⟨x0_12, e0_12, wf0_12⟩ := struct_int (i := 12) Tryd.underlying23 hf0 rfl Tryd.underlying3 (by kernel_rfl)
  obtain ⟨x0_13, e0_13, wf0_13⟩ := struct_int (i := 13) Tryd.underlying23 hf0 rfl Tryd.underlying3 (by kernel_rfl)
  obtain ⟨x0_14, e0_14, wf0_14⟩ := struct_int (i := 14) Tryd.underlying23 hf0 rfl Tryd.underlying3 (by kernel_rfl)
  obtain rfl : cs0 = #[.string x0_0, .string x0_1, .string x0_2, .string x0_3, .int .i64 x0_4, .int .i64 x0_5, .int .i64 x0_6, .int .i64 x0_7, .int .i64 x0_8, .int .i64 x0_9, .int .i64 x0_10, .int .i64 x0_11, .int .i64 x0_12, .int .i64 x0_13, .int .i64 x0_14] := by
    apply Array.toList_inj.1
    refine list_of_at (by simpa using cz0) fun i hi => ?_
    match i, hi with
    | 0, _ => exact e0_0
    | 1, _ => exact e0_1
    | 2, _ => exact e0_2
    | 3, _ => exact e0_3
    | 4, _ => exact e0_4
    | 5, _ => exact e0_5
    | 6, _ => exact e0_6
    | 7, _ => exact e0_7
    | 8, _ => exact e0_8
    | 9, _ => exact e0_9
    | 10, _ => exact e0_10
    | 11, _ => exact e0_11
    | 12, _ => exact e0_12
    | 13, _ => exact e0_13
    | 14, _ => exact e0_14
    | n + 15, hi => exact absurd hi (by simp)
  clear hval0 hsz0
  have walk := supports_ok (w := W) hT ⟨x0_0.data.toList, x0_1.data.toList, x0_2.data.toList, x0_3.data.toList, x0_4, x0_5, x0_6, x0_7, x0_8, x0_9, x0_10, x0_11, x0_12, x0_13, x0_14⟩ (inR_of wf0_6) (inR_of wf0_8) (inR_of wf0_9) (inR_of wf0_10)
  dsimp only [cfgV, encCfg] at walk
  rw [str_of x0_0, str_of x0_1, str_of x0_2, str_of x0_3] at walk
  refine walk.mono fun e W' ⟨he, hv⟩ => ?_
  subst he
  have bel := hv.bel
  exact ⟨_, rfl, _, _, _, [], _, [], hW', trodAll_mk1 (shut_bool Tryd.underlying4 _), args_stay kids sizedT bel (by rw [Tryd.params3]; intro t ht; simp at ht; subst ht; decide +kernel) hA1 (fun q hq => hlt q (List.mem_append.2 (.inl hq))), rfl, bel.frame _, fun h => by cases h⟩
theorem over : Rows.configSupportsRow.holds Tryd.pinned (OpenSpec.ofChange Rows.configSupportsSpec) :=
  OpenClaim.holds_of_wide 3 Tryd.f3 rfl rfl rfl rfl rfl rfl rfl ⟨rfl, rfl, rfl, rfl, rfl⟩ rfl rfl rfl rfl rfl (by kernel_rfl) Tryd.func3 (by kernel_rfl)
    (of_decide_eq_true (by kernel_rfl)) (by unfold Func.isWrapper; first | (rw [if_pos (by decide +kernel)]; kernel_rfl) | (rw [if_neg (by decide +kernel)]; exact ⟨rfl, rfl⟩))
    (fun os started H enc _ => lifted os started H enc)
theorem card_proved : Rows.ConfigSupportsCardSaid :=
  Claim7.holds_tied_plain_at .later [] [.data, .data, .data] true (true, "910aa838674d67f4dcff548222db308f10e261fe0c5f816ae09fcaad0649f616") false
    over (fun _ h => by cases h) (by kernel_rfl) (fun _ h => by cases h) configSupports_row_tie rfl ⟨rfl, rfl⟩ (by kernel_rfl) rfl
    (fun f fn hf hfn => by
      obtain rfl : f = 3 := Option.some.inj ((show Tryd.prog.funcNamed "rollcall/rollcalllaw15.ConfigSupports" = some 3 by kernel_rfl).symm.trans hf) |>.symm
      obtain rfl : fn = Tryd.f3 := (Option.some.inj (Tryd.func3.symm.trans hfn)).symm
      exact ⟨by kernel_rfl, fun j t ht => by
        rw [Tryd.params3] at ht
        have hm : t ∈ [23] := by simpa using Array.mem_of_getElem? ht
        have hall : ([23].all fun u => !Tryd.prog.wantsStandIn u) = true := by kernel_rfl
        exact (show Tryd.prog.wantsStandIn t = false by simpa using List.all_eq_true.1 hall t hm)⟩)
    (by kernel_rfl)
#print axioms card_proved
end Go.Proofs.YtodnbkggkdadkaaDoor.configSupports
