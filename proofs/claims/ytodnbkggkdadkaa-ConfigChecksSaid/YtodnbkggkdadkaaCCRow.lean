/- rollcalllaw15.ConfigChecks returns true for every input. No condition. -/
import Derived.Test.YtodnbkggkdadkaaRows
import Derived.Test.YtodnbkggkdadkaaCoD
import Derived.Test.YtodnbkggkdadkaaFk
import Derived.ProofKit
import Derived.OpenShut
import Derived.ChangeOld
import Derived.SizedLaws
set_option linter.all false
namespace Go.Proofs.Ytodnbkggkdadkaa.configChecks
open Go.ChangeShapes Go.WideShapes Go.ChangeAt Go.RowKit Go.Vx
open Go.ChangeMaps (open_string)
theorem own : ownKnob Try.prog.godebug = none := by kernel_rfl
set_option maxRecDepth 100000 in
theorem lifted (os : Os) (started : os.Started) (H : Type) (enc : TypeId × Value → H) :
    ReturnsInHanded {} Try.checked os 10 .any (Rows.configChecksSpec.pre6 enc Try.prog Try.f10 Rows.configChecksRow.domain false) (Rows.configChecksSpec.post enc Try.prog Try.f10 false true false false) := by
  refine returnsInHanded_of_change_sized (C := Try.checked) own started (by kernel_rfl) Try.func10
    (ChangeSpec.witness6 (enc := enc) (C := Try.checked) false ⟨#[], #[.agg #[.string ⟨#[]⟩, .string ⟨#[]⟩, .string ⟨#[]⟩, .string ⟨#[]⟩, .int .i64 0, .int .i64 0, .int .i64 0, .int .i64 0, .int .i64 0, .int .i64 0, .int .i64 0, .int .i64 0, .int .i64 0, .int .i64 0, .int .i64 0]], []⟩ 8 (by kernel_rfl) (by kernel_rfl) (by kernel_rfl) (by kernel_rfl)) ?_
  intro W base args ds gs before hval0 hW hcnd hsz0 _
  have hval : ∀ (j : Nat) t v, Try.f10.params[j]? = some t → args[j]? = some v → Value.okWide Try.prog W .any base t v := hval0
  have hW' := hW
  have hlt : ∀ p ∈ before, p.block < W.heap.size := fun p hp => hW.lt p hp
  obtain ⟨p, q, hA0, hV, rfl, hfz, hnd⟩ := hW
  have hA : DataW.TrodAll enc Try.prog W 0 (fun _ => true) true Try.f10.params.toList args.toList ds p := hA0
  have hA1 := hA
  rw [Try.params10] at hA hval
  obtain ⟨v0, vs0, d0, ds0, p0, q0, hargs, rfl, rfl, h0, r0⟩ := trodAll_cons hA
  obtain ⟨rfl, rfl, rfl⟩ := trodAll_nil r0
  obtain rfl : args = #[v0] := by cases args; simp_all
  obtain ⟨rfl, rfl⟩ := trodVars_none hV
  obtain ⟨cs0, rfl, cz0⟩ : ∃ cs : Array Value, v0 = .agg cs ∧ cs.size = 15 := by
    have h := hval 0 58 v0 rfl rfl
    simp only [Value.okWide, Try.underlying58] at h
    obtain ⟨cs, e, hz, _⟩ := h
    exact ⟨cs, e, by rw [hz]; kernel_rfl⟩
  obtain ⟨fuel0, hf0⟩ := h0
  obtain ⟨x0_0, e0_0⟩ := struct_str (i := 0) Try.underlying58 hf0 rfl Try.underlying9 (by kernel_rfl)
  obtain ⟨x0_1, e0_1⟩ := struct_str (i := 1) Try.underlying58 hf0 rfl Try.underlying9 (by kernel_rfl)
  obtain ⟨x0_2, e0_2⟩ := struct_str (i := 2) Try.underlying58 hf0 rfl Try.underlying9 (by kernel_rfl)
  obtain ⟨x0_3, e0_3⟩ := struct_str (i := 3) Try.underlying58 hf0 rfl Try.underlying9 (by kernel_rfl)
  obtain ⟨x0_4, e0_4, wf0_4⟩ := struct_int (i := 4) Try.underlying58 hf0 rfl Try.underlying3 (by kernel_rfl)
  obtain ⟨x0_5, e0_5, wf0_5⟩ := struct_int (i := 5) Try.underlying58 hf0 rfl Try.underlying3 (by kernel_rfl)
  obtain ⟨x0_6, e0_6, wf0_6⟩ := struct_int (i := 6) Try.underlying58 hf0 rfl Try.underlying3 (by kernel_rfl)
  obtain ⟨x0_7, e0_7, wf0_7⟩ := struct_int (i := 7) Try.underlying58 hf0 rfl Try.underlying3 (by kernel_rfl)
  obtain ⟨x0_8, e0_8, wf0_8⟩ := struct_int (i := 8) Try.underlying58 hf0 rfl Try.underlying3 (by kernel_rfl)
  obtain ⟨x0_9, e0_9, wf0_9⟩ := struct_int (i := 9) Try.underlying58 hf0 rfl Try.underlying3 (by kernel_rfl)
  obtain ⟨x0_10, e0_10, wf0_10⟩ := struct_int (i := 10) Try.underlying58 hf0 rfl Try.underlying3 (by kernel_rfl)
  obtain ⟨x0_11, e0_11, wf0_11⟩ := struct_int (i := 11) Try.underlying58 hf0 rfl Try.underlying3 (by kernel_rfl)
  obtain ⟨x0_12, e0_12, wf0_12⟩ := struct_int (i := 12) Try.underlying58 hf0 rfl Try.underlying3 (by kernel_rfl)
  obtain ⟨x0_13, e0_13, wf0_13⟩ := struct_int (i := 13) Try.underlying58 hf0 rfl Try.underlying3 (by kernel_rfl)
  obtain ⟨x0_14, e0_14, wf0_14⟩ := struct_int (i := 14) Try.underlying58 hf0 rfl Try.underlying3 (by kernel_rfl)
  obtain rfl : cs0 = #[.string x0_0, .string x0_1, .string x0_2, .string x0_3, .int .i64 x0_4, .int .i64 x0_5, .int .i64 x0_6, .int .i64 x0_7, .int .i64 x0_8, .int .i64 x0_9, .int .i64 x0_10, .int .i64 x0_11, .int .i64 x0_12, .int .i64 x0_13, .int .i64 x0_14] := by
    apply Array.toList_inj.1
    refine list_of_at (by simpa using cz0) fun i hi => ?_
    match i, hi with
    | 0, _ => exact e0_0
    | 1, _ => exact e0_1
    | 2, _ => exact e0_2
    | 3, _ => exact e0_3
    | 4, _ => exact e0_4
    | 5, _ => exact e0_5
    | 6, _ => exact e0_6
    | 7, _ => exact e0_7
    | 8, _ => exact e0_8
    | 9, _ => exact e0_9
    | 10, _ => exact e0_10
    | 11, _ => exact e0_11
    | 12, _ => exact e0_12
    | 13, _ => exact e0_13
    | 14, _ => exact e0_14
    | n + 15, hi => exact absurd hi (by simp)
  clear hval0 hsz0
  have walk := cchecks_ok (w := W) x0_0.data.toList x0_1.data.toList x0_2.data.toList x0_3.data.toList x0_4 x0_5 x0_6 x0_7 x0_8 x0_9 x0_10 x0_11 x0_12 x0_13 x0_14
  rw [str_of x0_0, str_of x0_1, str_of x0_2, str_of x0_3] at walk
  refine walk.mono fun e W' ⟨he, hv⟩ => ?_
  subst he
  have bel := hv.bel
  exact ⟨_, rfl, _, _, _, [], _, [], hW', trodAll_mk1 (shut_bool Try.underlying4 _), args_stay kids sizedT bel (by rw [Try.params10]; intro t ht; simp at ht; subst ht; decide +kernel) hA1 (fun q hq => hlt q (List.mem_append.2 (.inl hq))), rfl, bel.frame _, fun h => by cases h⟩
theorem over : Rows.configChecksRow.holds Try.pinned (OpenSpec.ofChange Rows.configChecksSpec) :=
  OpenClaim.holds_of_wide 10 Try.f10 rfl rfl rfl rfl rfl rfl rfl ⟨rfl, rfl, rfl, rfl, rfl⟩ rfl rfl rfl rfl rfl (by kernel_rfl) Try.func10 (by kernel_rfl)
    (of_decide_eq_true (by kernel_rfl)) (by unfold Func.isWrapper; first | (rw [if_pos (by decide +kernel)]; kernel_rfl) | (rw [if_neg (by decide +kernel)]; exact ⟨rfl, rfl⟩))
    (fun os started H enc _ => lifted os started H enc)
theorem proved : Rows.ConfigChecksSaid := over
#print axioms proved
end Go.Proofs.Ytodnbkggkdadkaa.configChecks
