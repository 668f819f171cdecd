import Derived.Test.YtapammcnagjigaaGreatDoorRows
import Derived.Test.YtapammcnagjigaaGreatDoorRp
import Derived.Test.YtapammcnagjigaaGreatDoorFk
import Derived.Test.YtapammcnagjigaaGreatDoorEng
import Derived.Test.YtapammcnagjigaaGreatDoorCards
import Derived.Test.YtapammcnagjigaaGreatDoorTie
import Derived.Lay
import Derived.LaidOnce
import Derived.LaidMore
import Derived.Stop.Joined
import Derived.Stop.LaidErr
import Derived.SevenTiedAt
import Derived.ProofKit
import Derived.OpenShut
import Derived.ChangeOld
import Derived.SizedLaws
set_option linter.all false
/- rollcalllaw22.PersonLines returns true for every input, where the package-level variables read as the program lays them. No other condition. -/
namespace Go.Proofs.YtapammcnagjigaaGreatDoor.personLines
open Go.ChangeShapes Go.WideShapes Go.ChangeAt Go.RowKit Go.Vx
open Go.ChangeMaps (open_string)
theorem own : ownKnob Tryz.prog.godebug = none := by kernel_rfl
def laidL : List (String × DataW Unit) := [("math/bits.deBruijn32tab", Rows.laid_math_bits_deBruijn32tab), ("math/bits.deBruijn64tab", Rows.laid_math_bits_deBruijn64tab), ("internal/strconv.uint64pow10", Rows.laid_internal_strconv_uint64pow10), ("unicode/utf8.acceptRanges", Rows.laid_unicode_utf8_acceptRanges), ("unicode/utf8.first", Rows.laid_unicode_utf8_first)]
theorem facts {W : World} (h : laidMetH Tryz.prog laidL W) : Lib.TabIs Tryz.prog W "internal/strconv.uint64pow10" .u64 Lib.pow10Tab := by
  rw [MakeChecks.laidMetH_plain _ _ _ (by kernel_rfl)] at h
  exact Lib.tabIs_of_head (g := 3) (t := 155) (e := 144) (n := 20) (by kernel_rfl) (by kernel_rfl) (by kernel_rfl) (by kernel_rfl) (by kernel_rfl) (by kernel_rfl) (laidMet.tail (laidMet.tail h))
set_option maxRecDepth 100000 in
theorem lifted (os : Os) (started : os.Started) (H : Type) (enc : TypeId × Value → H) :
    ReturnsInHanded {} Tryz.checked os 4 .any (fun w args => (Rows.personLinesSpec.pre enc Tryz.prog Tryz.f4 [] false w args ∧ laidMetH Tryz.prog laidL w) ∧ sizedMet enc Tryz.prog Tryz.f4 (OpenSpec.ofChange Rows.personLinesSpec) false w args) (Rows.personLinesSpec.post enc Tryz.prog Tryz.f4 false true false false) := by
  refine returnsInHanded_of_change_and (C := Tryz.checked) (X := fun w _ => laidMetH Tryz.prog laidL w) (fun _ _ _ hh h => h.of_heap hh) own started (by kernel_rfl) Tryz.func4
    (ChangeSpec.witness_shaped (enc := enc) (C := Tryz.checked) (os := os) (X := fun w _ => laidMetH Tryz.prog laidL w) false (World.laidAll Tryz.prog os laidL) #[.agg #[.int .i64 0, .string ⟨#[]⟩, .string ⟨#[]⟩, .string ⟨#[]⟩, .string ⟨#[]⟩, .string ⟨#[]⟩, .bool false, .bool false, .int .i64 0, .int .i64 0], .agg #[.int .i64 0, .bool false, .bool false], .slice none 0 0, .int .i64 0] 8 (World.laidAll_os _ _ _) (World.shaped_of_ZipB (by kernel_rfl) (by kernel_rfl)) (by kernel_rfl) (by kernel_rfl) (by kernel_rfl) (by rw [MakeChecks.laidMetH_plain _ _ _ (by kernel_rfl)]; exact laidMet_laidAll _ (by kernel_rfl) (by kernel_rfl))) ?_
  intro W base args ds gs before hval0 hW hcnd hsz0 hL _
  have hval : ∀ (j : Nat) t v, Tryz.f4.params[j]? = some t → args[j]? = some v → Value.okWide Tryz.prog W .any base t v := hval0
  have hW' := hW
  have hlt : ∀ p ∈ before, p.block < W.heap.size := fun p hp => hW.lt p hp
  obtain ⟨p, q, hA0, hV, rfl, hfz, hnd⟩ := hW
  have hA : DataW.TrodAll enc Tryz.prog W 0 (fun _ => true) true Tryz.f4.params.toList args.toList ds p := hA0
  have hA1 := hA
  rw [Tryz.params4] at hA hval
  have hT := facts hL
  obtain ⟨v0, vs0, d0, ds0, p0, q0, hargs, rfl, rfl, h0, r0⟩ := trodAll_cons hA
  obtain ⟨v1, vs1, d1, ds1, p1, q1, rfl, rfl, rfl, h1, r1⟩ := trodAll_cons r0
  obtain ⟨v2, vs2, d2, ds2, p2, q2, rfl, rfl, rfl, h2, r2⟩ := trodAll_cons r1
  obtain ⟨v3, vs3, d3, ds3, p3, q3, rfl, rfl, rfl, h3, r3⟩ := trodAll_cons r2
  obtain ⟨rfl, rfl, rfl⟩ := trodAll_nil r3
  obtain rfl : args = #[v0, v1, v2, v3] := by cases args; simp_all
  obtain ⟨rfl, rfl⟩ := trodVars_none hV
  obtain ⟨cs0, rfl, cz0⟩ : ∃ cs : Array Value, v0 = .agg cs ∧ cs.size = 10 := by
    have h := hval 0 36 v0 rfl rfl
    simp only [Value.okWide, Tryz.underlying36] at h
    obtain ⟨cs, e, hz, _⟩ := h
    exact ⟨cs, e, by rw [hz]; kernel_rfl⟩
  obtain ⟨fuel0, hf0⟩ := h0
  obtain ⟨x0_0, e0_0, wf0_0⟩ := struct_int (i := 0) Tryz.underlying36 hf0 rfl Tryz.underlying3 (by kernel_rfl)
  obtain ⟨x0_1, e0_1⟩ := struct_str (i := 1) Tryz.underlying36 hf0 rfl Tryz.underlying9 (by kernel_rfl)
  obtain ⟨x0_2, e0_2⟩ := struct_str (i := 2) Tryz.underlying36 hf0 rfl Tryz.underlying9 (by kernel_rfl)
  obtain ⟨x0_3, e0_3⟩ := struct_str (i := 3) Tryz.underlying36 hf0 rfl Tryz.underlying9 (by kernel_rfl)
  obtain ⟨x0_4, e0_4⟩ := struct_str (i := 4) Tryz.underlying36 hf0 rfl Tryz.underlying9 (by kernel_rfl)
  obtain ⟨x0_5, e0_5⟩ := struct_str (i := 5) Tryz.underlying36 hf0 rfl Tryz.underlying9 (by kernel_rfl)
  obtain ⟨x0_6, e0_6⟩ := struct_bool (i := 6) Tryz.underlying36 hf0 rfl Tryz.underlying4 (by kernel_rfl)
  obtain ⟨x0_7, e0_7⟩ := struct_bool (i := 7) Tryz.underlying36 hf0 rfl Tryz.underlying4 (by kernel_rfl)
  obtain ⟨x0_8, e0_8, wf0_8⟩ := struct_int (i := 8) Tryz.underlying36 hf0 rfl Tryz.underlying3 (by kernel_rfl)
  obtain ⟨x0_9, e0_9, wf0_9⟩ := struct_int (i := 9) Tryz.underlying36 hf0 rfl Tryz.underlying3 (by kernel_rfl)
  obtain rfl : cs0 = #[.int .i64 x0_0, .string x0_1, .string x0_2, .string x0_3, .string x0_4, .string x0_5, .bool x0_6, .bool x0_7, .int .i64 x0_8, .int .i64 x0_9] := by
    apply Array.toList_inj.1
    refine list_of_at (by simpa using cz0) fun i hi => ?_
    match i, hi with
    | 0, _ => exact e0_0
    | 1, _ => exact e0_1
    | 2, _ => exact e0_2
    | 3, _ => exact e0_3
    | 4, _ => exact e0_4
    | 5, _ => exact e0_5
    | 6, _ => exact e0_6
    | 7, _ => exact e0_7
    | 8, _ => exact e0_8
    | 9, _ => exact e0_9
    | n + 10, hi => exact absurd hi (by simp)
  obtain ⟨cs1, rfl, cz1⟩ : ∃ cs : Array Value, v1 = .agg cs ∧ cs.size = 3 := by
    have h := hval 1 38 v1 rfl rfl
    simp only [Value.okWide, Tryz.underlying38] at h
    obtain ⟨cs, e, hz, _⟩ := h
    exact ⟨cs, e, by rw [hz]; kernel_rfl⟩
  obtain ⟨fuel1, hf1⟩ := h1
  obtain ⟨x1_0, e1_0, wf1_0⟩ := struct_int (i := 0) Tryz.underlying38 hf1 rfl Tryz.underlying3 (by kernel_rfl)
  obtain ⟨x1_1, e1_1⟩ := struct_bool (i := 1) Tryz.underlying38 hf1 rfl Tryz.underlying4 (by kernel_rfl)
  obtain ⟨x1_2, e1_2⟩ := struct_bool (i := 2) Tryz.underlying38 hf1 rfl Tryz.underlying4 (by kernel_rfl)
  obtain rfl : cs1 = #[.int .i64 x1_0, .bool x1_1, .bool x1_2] := by
    apply Array.toList_inj.1
    refine list_of_at (by simpa using cz1) fun i hi => ?_
    match i, hi with
    | 0, _ => exact e1_0
    | 1, _ => exact e1_1
    | 2, _ => exact e1_2
    | n + 3, hi => exact absurd hi (by simp)
  obtain ⟨a2, len2, cap2, rfl⟩ := okWide_slice Tryz.underlying23 (hval 2 23 v2 rfl rfl)
  obtain ⟨fuel2, hf2⟩ := h2
  obtain ⟨xs2, hp2, hw2⟩ := arg_strsQ Tryz.underlying23 Tryz.underlying9 (by kernel_rfl) hf2
  have hz2 : ∀ y ∈ xs2, y.length ≤ 140737488351232 := fun y hy => by
    obtain ⟨es, sps, d, e1, e2, hq⟩ := hw2 y hy
    exact sized_mem (j := 2) hsz0 rfl (congrArg some e1) Tryz.underlying23 e2 hq
  obtain ⟨z3, rfl, rfl, rfl, wf3⟩ := open_int Tryz.underlying3 (hval 3 3 v3 rfl rfl) h3
  clear hval0 hsz0
  have walk := plines_ok (w := W) hT (nick := x0_1.data.toList) (user := x0_2.data.toList) (host := x0_3.data.toList) (real := x0_4.data.toList) (away := x0_5.data.toList) (id := x0_0) (od := x0_6) (hid := x0_7) (sg := x0_8) (sp := x0_9) (mid := x1_0) (op := x1_1) (vo := x1_2) (now := z3) hp2 (inR_of wf0_8)
  rw [str_of x0_1, str_of x0_2, str_of x0_3, str_of x0_4, str_of x0_5] at walk
  refine walk.mono fun e W' ⟨he, hv⟩ => ?_
  subst he
  have bel := hv.bel
  exact ⟨_, rfl, _, _, _, [], _, [], hW', trodAll_mk1 (shut_bool Tryz.underlying4 _), args_stay kids sizedT bel (by rw [Tryz.params4]; intro t ht; simp at ht; rcases ht with rfl | rfl | rfl | rfl <;> decide +kernel) hA1 (fun q hq => hlt q (List.mem_append.2 (.inl hq))), rfl, bel.frame _, fun h => by cases h⟩
theorem over : Rows.personLinesRow.holds Tryz.pinned (OpenSpec.ofChange Rows.personLinesSpec) :=
  OpenClaim.holds_of_wide 4 Tryz.f4 rfl rfl rfl rfl rfl rfl rfl ⟨rfl, rfl, rfl, rfl, rfl⟩ rfl rfl rfl rfl rfl (by kernel_rfl) Tryz.func4 (by kernel_rfl)
    (of_decide_eq_true (by kernel_rfl)) (by unfold Func.isWrapper; first | (rw [if_pos (by decide +kernel)]; kernel_rfl) | (rw [if_neg (by decide +kernel)]; exact ⟨rfl, rfl⟩))
    (fun os started H enc _ => lifted os started H enc)
theorem card_proved : Rows.PersonLinesCardSaid :=
  Claim7.holds_tied_plain_at .later [] [.data, .data, .data, .data, .pinned] true (true, "d577e333c8c41c87dc62ac894d4c18c302e0319757a708a60736461aaacec88a") false
    over (fun _ h => by cases h) (by kernel_rfl) (fun _ h => by cases h) personLines_row_tie rfl ⟨rfl, rfl⟩ (by kernel_rfl) rfl
    (fun f fn hf hfn => by
      obtain rfl : f = 4 := Option.some.inj ((show Tryz.prog.funcNamed "rollcall/rollcalllaw22.PersonLines" = some 4 by kernel_rfl).symm.trans hf) |>.symm
      obtain rfl : fn = Tryz.f4 := (Option.some.inj (Tryz.func4.symm.trans hfn)).symm
      exact ⟨by kernel_rfl, fun j t ht => by
        rw [Tryz.params4] at ht
        have hm : t ∈ [36, 38, 23, 3] := by simpa using Array.mem_of_getElem? ht
        have hall : ([36, 38, 23, 3].all fun u => !Tryz.prog.wantsStandIn u) = true := by kernel_rfl
        exact (show Tryz.prog.wantsStandIn t = false by simpa using List.all_eq_true.1 hall t hm)⟩)
    (by kernel_rfl)
#print axioms card_proved
end Go.Proofs.YtapammcnagjigaaGreatDoor.personLines

