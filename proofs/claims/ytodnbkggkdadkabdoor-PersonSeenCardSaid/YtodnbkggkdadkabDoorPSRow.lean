/- rollcalllaw22.PersonSeen returns true for every input, where the package-level variables read as the program lays them. No other condition. -/
import Derived.Test.YtodnbkggkdadkabDoorRows
import Derived.Test.YtodnbkggkdadkabDoorPeE
import Derived.Test.YtodnbkggkdadkabDoorFk
import Derived.Test.YtodnbkggkdadkabDoorCards
import Derived.Test.YtodnbkggkdadkabDoorTie
import Derived.Lay
import Derived.LaidOnce
import Derived.LaidMore
import Derived.Stop.Joined
import Derived.Stop.LaidErr
import Derived.SevenTiedAt
import Derived.ProofKit
import Derived.OpenShut
import Derived.ChangeOld
import Derived.SizedLaws
set_option linter.all false
namespace Go.Proofs.YtodnbkggkdadkabDoor.personSeen
open Go.ChangeShapes Go.WideShapes Go.ChangeAt Go.RowKit Go.Vx
open Go.ChangeMaps (open_string)
theorem own : ownKnob Tryd.prog.godebug = none := by kernel_rfl
def laidL : List (String × DataW Unit) := [("unicode/utf8.acceptRanges", Rows.laid_unicode_utf8_acceptRanges), ("unicode/utf8.first", Rows.laid_unicode_utf8_first)]
theorem facts {W : World} (_ : laidMetH Tryd.prog laidL W) : True := trivial
set_option maxRecDepth 100000 in
theorem lifted (os : Os) (started : os.Started) (H : Type) (enc : TypeId × Value → H) :
    ReturnsInHanded {} Tryd.checked os 3 .any (fun w args => (Rows.personSeenSpec.pre enc Tryd.prog Tryd.f3 [] false w args ∧ laidMetH Tryd.prog laidL w) ∧ sizedMet enc Tryd.prog Tryd.f3 (OpenSpec.ofChange Rows.personSeenSpec) false w args) (Rows.personSeenSpec.post enc Tryd.prog Tryd.f3 false true false false) := by
  refine returnsInHanded_of_change_and (C := Tryd.checked) (X := fun w _ => laidMetH Tryd.prog laidL w) (fun _ _ _ hh h => h.of_heap hh) own started (by kernel_rfl) Tryd.func3
    (ChangeSpec.witness_shaped (enc := enc) (C := Tryd.checked) (os := os) (X := fun w _ => laidMetH Tryd.prog laidL w) false (World.laidAll Tryd.prog os laidL) #[.agg #[.int .i64 0, .string ⟨#[]⟩, .string ⟨#[]⟩, .string ⟨#[]⟩, .string ⟨#[]⟩, .string ⟨#[]⟩, .bool false, .bool false, .int .i64 0, .int .i64 0], .agg #[.int .i64 0, .string ⟨#[]⟩, .string ⟨#[]⟩, .string ⟨#[]⟩, .string ⟨#[]⟩, .string ⟨#[]⟩, .bool false, .bool false, .int .i64 0, .int .i64 0], .agg #[.int .i64 0, .bool false, .bool false], .string ⟨#[]⟩] 8 (World.laidAll_os _ _ _) (World.shaped_of_ZipB (by kernel_rfl) (by kernel_rfl)) (by kernel_rfl) (by kernel_rfl) (by kernel_rfl) (by rw [MakeChecks.laidMetH_plain _ _ _ (by kernel_rfl)]; exact laidMet_laidAll _ (by kernel_rfl) (by kernel_rfl))) ?_
  intro W base args ds gs before hval0 hW hcnd hsz0 hL _
  have hval : ∀ (j : Nat) t v, Tryd.f3.params[j]? = some t → args[j]? = some v → Value.okWide Tryd.prog W .any base t v := hval0
  have hW' := hW
  have hlt : ∀ p ∈ before, p.block < W.heap.size := fun p hp => hW.lt p hp
  obtain ⟨p, q, hA0, hV, rfl, hfz, hnd⟩ := hW
  have hA : DataW.TrodAll enc Tryd.prog W 0 (fun _ => true) true Tryd.f3.params.toList args.toList ds p := hA0
  have hA1 := hA
  rw [Tryd.params3] at hA hval
  have hT := facts hL
  obtain ⟨v0, vs0, d0, ds0, p0, q0, hargs, rfl, rfl, h0, r0⟩ := trodAll_cons hA
  obtain ⟨v1, vs1, d1, ds1, p1, q1, rfl, rfl, rfl, h1, r1⟩ := trodAll_cons r0
  obtain ⟨v2, vs2, d2, ds2, p2, q2, rfl, rfl, rfl, h2, r2⟩ := trodAll_cons r1
  obtain ⟨v3, vs3, d3, ds3, p3, q3, rfl, rfl, rfl, h3, r3⟩ := trodAll_cons r2
  obtain ⟨rfl, rfl, rfl⟩ := trodAll_nil r3
  obtain rfl : args = #[v0, v1, v2, v3] := by cases args; simp_all
  obtain ⟨rfl, rfl⟩ := trodVars_none hV
  obtain ⟨cs0, rfl, cz0⟩ : ∃ cs : Array Value, v0 = .agg cs ∧ cs.size = 10 := by
    have h := hval 0 23 v0 rfl rfl
    simp only [Value.okWide, Tryd.underlying23] at h
    obtain ⟨cs, e, hz, _⟩ := h
    exact ⟨cs, e, by rw [hz]; kernel_rfl⟩
  obtain ⟨fuel0, hf0⟩ := h0
  obtain ⟨x0_0, e0_0, wf0_0⟩ := struct_int (i := 0) Tryd.underlying23 hf0 rfl Tryd.underlying3 (by kernel_rfl)
  obtain ⟨x0_1, e0_1⟩ := struct_str (i := 1) Tryd.underlying23 hf0 rfl Tryd.underlying9 (by kernel_rfl)
  obtain ⟨x0_2, e0_2⟩ := struct_str (i := 2) Tryd.underlying23 hf0 rfl Tryd.underlying9 (by kernel_rfl)
  obtain ⟨x0_3, e0_3⟩ := struct_str (i := 3) Tryd.underlying23 hf0 rfl Tryd.underlying9 (by kernel_rfl)
  obtain ⟨x0_4, e0_4⟩ := struct_str (i := 4) Tryd.underlying23 hf0 rfl Tryd.underlying9 (by kernel_rfl)
  obtain ⟨x0_5, e0_5⟩ := struct_str (i := 5) Tryd.underlying23 hf0 rfl Tryd.underlying9 (by kernel_rfl)
  obtain ⟨x0_6, e0_6⟩ := struct_bool (i := 6) Tryd.underlying23 hf0 rfl Tryd.underlying4 (by kernel_rfl)
  obtain ⟨x0_7, e0_7⟩ := struct_bool (i := 7) Tryd.underlying23 hf0 rfl Tryd.underlying4 (by kernel_rfl)
  obtain ⟨x0_8, e0_8, wf0_8⟩ := struct_int (i := 8) Tryd.underlying23 hf0 rfl Tryd.underlying3 (by kernel_rfl)
  obtain ⟨x0_9, e0_9, wf0_9⟩ := struct_int (i := 9) Tryd.underlying23 hf0 rfl Tryd.underlying3 (by kernel_rfl)
  obtain rfl : cs0 = #[.int .i64 x0_0, .string x0_1, .string x0_2, .string x0_3, .string x0_4, .string x0_5, .bool x0_6, .bool x0_7, .int .i64 x0_8, .int .i64 x0_9] := by
    apply Array.toList_inj.1
    refine list_of_at (by simpa using cz0) fun i hi => ?_
    match i, hi with
    | 0, _ => exact e0_0
    | 1, _ => exact e0_1
    | 2, _ => exact e0_2
    | 3, _ => exact e0_3
    | 4, _ => exact e0_4
    | 5, _ => exact e0_5
    | 6, _ => exact e0_6
    | 7, _ => exact e0_7
    | 8, _ => exact e0_8
    | 9, _ => exact e0_9
    | n + 10, hi => exact absurd hi (by simp)
  obtain ⟨cs1, rfl, cz1⟩ : ∃ cs : Array Value, v1 = .agg cs ∧ cs.size = 10 := by
    have h := hval 1 23 v1 rfl rfl
    simp only [Value.okWide, Tryd.underlying23] at h
    obtain ⟨cs, e, hz, _⟩ := h
    exact ⟨cs, e, by rw [hz]; kernel_rfl⟩
  obtain ⟨fuel1, hf1⟩ := h1
  obtain ⟨x1_0, e1_0, wf1_0⟩ := struct_int (i := 0) Tryd.underlying23 hf1 rfl Tryd.underlying3 (by kernel_rfl)
  obtain ⟨x1_1, e1_1⟩ := struct_str (i := 1) Tryd.underlying23 hf1 rfl Tryd.underlying9 (by kernel_rfl)
  obtain ⟨x1_2, e1_2⟩ := struct_str (i := 2) Tryd.underlying23 hf1 rfl Tryd.underlying9 (by kernel_rfl)
  obtain ⟨x1_3, e1_3⟩ := struct_str (i := 3) Tryd.underlying23 hf1 rfl Tryd.underlying9 (by kernel_rfl)
  obtain ⟨x1_4, e1_4⟩ := struct_str (i := 4) Tryd.underlying23 hf1 rfl Tryd.underlying9 (by kernel_rfl)
  obtain ⟨x1_5, e1_5⟩ := struct_str (i := 5) Tryd.underlying23 hf1 rfl Tryd.underlying9 (by kernel_rfl)
  obtain ⟨x1_6, e1_6⟩ := struct_bool (i := 6) Tryd.underlying23 hf1 rfl Tryd.underlying4 (by kernel_rfl)
  obtain ⟨x1_7, e1_7⟩ := struct_bool (i := 7) Tryd.underlying23 hf1 rfl Tryd.underlying4 (by kernel_rfl)
  obtain ⟨x1_8, e1_8, wf1_8⟩ := struct_int (i := 8) Tryd.underlying23 hf1 rfl Tryd.underlying3 (by kernel_rfl)
  obtain ⟨x1_9, e1_9, wf1_9⟩ := struct_int (i := 9) Tryd.underlying23 hf1 rfl Tryd.underlying3 (by kernel_rfl)
  obtain rfl : cs1 = #[.int .i64 x1_0, .string x1_1, .string x1_2, .string x1_3, .string x1_4, .string x1_5, .bool x1_6, .bool x1_7, .int .i64 x1_8, .int .i64 x1_9] := by
    apply Array.toList_inj.1
    refine list_of_at (by simpa using cz1) fun i hi => ?_
    match i, hi with
    | 0, _ => exact e1_0
    | 1, _ => exact e1_1
    | 2, _ => exact e1_2
    | 3, _ => exact e1_3
    | 4, _ => exact e1_4
    | 5, _ => exact e1_5
    | 6, _ => exact e1_6
    | 7, _ => exact e1_7
    | 8, _ => exact e1_8
    | 9, _ => exact e1_9
    | n + 10, hi => exact absurd hi (by simp)
  obtain ⟨cs2, rfl, cz2⟩ : ∃ cs : Array Value, v2 = .agg cs ∧ cs.size = 3 := by
    have h := hval 2 25 v2 rfl rfl
    simp only [Value.okWide, Tryd.underlying25] at h
    obtain ⟨cs, e, hz, _⟩ := h
    exact ⟨cs, e, by rw [hz]; kernel_rfl⟩
  obtain ⟨fuel2, hf2⟩ := h2
  obtain ⟨x2_0, e2_0, wf2_0⟩ := struct_int (i := 0) Tryd.underlying25 hf2 rfl Tryd.underlying3 (by kernel_rfl)
  obtain ⟨x2_1, e2_1⟩ := struct_bool (i := 1) Tryd.underlying25 hf2 rfl Tryd.underlying4 (by kernel_rfl)
  obtain ⟨x2_2, e2_2⟩ := struct_bool (i := 2) Tryd.underlying25 hf2 rfl Tryd.underlying4 (by kernel_rfl)
  obtain rfl : cs2 = #[.int .i64 x2_0, .bool x2_1, .bool x2_2] := by
    apply Array.toList_inj.1
    refine list_of_at (by simpa using cz2) fun i hi => ?_
    match i, hi with
    | 0, _ => exact e2_0
    | 1, _ => exact e2_1
    | 2, _ => exact e2_2
    | n + 3, hi => exact absurd hi (by simp)
  obtain ⟨s3, rfl, rfl, rfl, sz3⟩ := open_string Tryd.underlying9 (hval 3 9 v3 rfl rfl) h3
  clear hval0 hsz0
  have walk := pseen_ok (w := W) ⟨x0_0, x0_1.data.toList, x0_2.data.toList, x0_3.data.toList, x0_4.data.toList, x0_5.data.toList, x0_6, x0_7, x0_8, x0_9⟩ ⟨x1_0, x1_1.data.toList, x1_2.data.toList, x1_3.data.toList, x1_4.data.toList, x1_5.data.toList, x1_6, x1_7, x1_8, x1_9⟩ x2_0 x2_1 x2_2 s3.data.toList
  dsimp only [perV] at walk
  rw [str_of x0_1, str_of x0_2, str_of x0_3, str_of x0_4, str_of x0_5, str_of x1_1, str_of x1_2, str_of x1_3, str_of x1_4, str_of x1_5, str_of s3] at walk
  refine walk.mono fun e W' ⟨he, hv⟩ => ?_
  subst he
  have bel := hv.bel
  exact ⟨_, rfl, _, _, _, [], _, [], hW', trodAll_mk1 (shut_bool Tryd.underlying4 _), args_stay kids sizedT bel (by rw [Tryd.params3]; intro t ht; simp at ht; rcases ht with rfl | rfl | rfl <;> decide +kernel) hA1 (fun q hq => hlt q (List.mem_append.2 (.inl hq))), rfl, bel.frame _, fun h => by cases h⟩
theorem over : Rows.personSeenRow.holds Tryd.pinned (OpenSpec.ofChange Rows.personSeenSpec) :=
  OpenClaim.holds_of_wide 3 Tryd.f3 rfl rfl rfl rfl rfl rfl rfl ⟨rfl, rfl, rfl, rfl, rfl⟩ rfl rfl rfl rfl rfl (by kernel_rfl) Tryd.func3 (by kernel_rfl)
    (of_decide_eq_true (by kernel_rfl)) (by unfold Func.isWrapper; first | (rw [if_pos (by decide +kernel)]; kernel_rfl) | (rw [if_neg (by decide +kernel)]; exact ⟨rfl, rfl⟩))
    (fun os started H enc _ => lifted os started H enc)
theorem card_proved : Rows.PersonSeenCardSaid :=
  Claim7.holds_tied_plain_at .later [] [.data, .pinned] true (true, "22c7fb0e44d302a037c3ed3e7c7697c7f42e797ac68efcdd02e9580ca2039c67") false
    over (fun _ h => by cases h) (by kernel_rfl) (fun _ h => by cases h) personSeen_row_tie rfl ⟨rfl, rfl⟩ (by kernel_rfl) rfl
    (fun f fn hf hfn => by
      obtain rfl : f = 3 := Option.some.inj ((show Tryd.prog.funcNamed "rollcall/rollcalllaw22.PersonSeen" = some 3 by kernel_rfl).symm.trans hf) |>.symm
      obtain rfl : fn = Tryd.f3 := (Option.some.inj (Tryd.func3.symm.trans hfn)).symm
      exact ⟨by kernel_rfl, fun j t ht => by
        rw [Tryd.params3] at ht
        have hm : t ∈ [23, 23, 25, 9] := by simpa using Array.mem_of_getElem? ht
        have hall : ([23, 23, 25, 9].all fun u => !Tryd.prog.wantsStandIn u) = true := by kernel_rfl
        exact (show Tryd.prog.wantsStandIn t = false by simpa using List.all_eq_true.1 hall t hm)⟩)
    (by kernel_rfl)
#print axioms card_proved
end Go.Proofs.YtodnbkggkdadkabDoor.personSeen
