import Derived.Test.YtapammcnagjigaaDoorRows
import Derived.Test.YtapammcnagjigaaDoorSgi
import Derived.Test.YtapammcnagjigaaDoorFk
import Derived.Test.YtapammcnagjigaaDoorEng
import Derived.Lib.LaidU8
import Derived.Test.YtapammcnagjigaaDoorCards
import Derived.Test.YtapammcnagjigaaDoorTie
import Derived.Lay
import Derived.LaidOnce
import Derived.LaidMore
import Derived.Stop.Joined
import Derived.Stop.LaidErr
import Derived.SevenTiedAt
import Derived.ProofKit
import Derived.OpenShut
import Derived.ChangeOld
import Derived.SizedLaws
set_option linter.all false
/- rollcalllaw17.SignKeeps returns true for every input, where the package-level variables read as the program lays them. No other condition. -/
namespace Go.Proofs.YtapammcnagjigaaDoor.signKeeps
open Go.ChangeShapes Go.WideShapes Go.ChangeAt Go.RowKit Go.Vx
open Go.ChangeMaps (open_string)
theorem own : ownKnob Tryd.prog.godebug = none := by kernel_rfl
def laidL : List (String × DataW Unit) := [("unicode/utf8.acceptRanges", Rows.laid_unicode_utf8_acceptRanges), ("unicode/utf8.first", Rows.laid_unicode_utf8_first)]
theorem facts {W : World} (h : laidMetH Tryd.prog laidL W) : Lib.Utf8Tabs 1 2 W := by
  rw [MakeChecks.laidMetH_plain _ _ _ (by kernel_rfl)] at h
  have h1 : Lib.VarReads Tryd.prog W "unicode/utf8.first" Rows.laid_unicode_utf8_first := Lib.laidMet.reads h (.tail _ (.head _))
  have h2 : Lib.VarReads Tryd.prog W "unicode/utf8.acceptRanges" Rows.laid_unicode_utf8_acceptRanges := Lib.laidMet.reads h (.head _)
  have e1 : (Rows.laid_unicode_utf8_first : DataW Unit) = Lib.firstData := by kernel_rfl
  have e2 : (Rows.laid_unicode_utf8_acceptRanges : DataW Unit) = Lib.acceptData := by kernel_rfl
  rw [e1] at h1
  rw [e2] at h2
  exact utf8Tabs_of_reads Tryd.lays260 ⟨by kernel_rfl, by kernel_rfl, by kernel_rfl, by kernel_rfl, by kernel_rfl, by kernel_rfl, by kernel_rfl⟩ h1 h2
set_option maxRecDepth 100000 in
theorem lifted (os : Os) (started : os.Started) (H : Type) (enc : TypeId × Value → H) :
    ReturnsInHanded {} Tryd.checked os 9 .any (fun w args => (Rows.signKeepsSpec.pre enc Tryd.prog Tryd.f9 [] false w args ∧ laidMetH Tryd.prog laidL w) ∧ sizedMet enc Tryd.prog Tryd.f9 (OpenSpec.ofChange Rows.signKeepsSpec) false w args) (Rows.signKeepsSpec.post enc Tryd.prog Tryd.f9 false true false false) := by
  refine returnsInHanded_of_change_and (C := Tryd.checked) (X := fun w _ => laidMetH Tryd.prog laidL w) (fun _ _ _ hh h => h.of_heap hh) own started (by kernel_rfl) Tryd.func9
    (ChangeSpec.witness_shaped (enc := enc) (C := Tryd.checked) (os := os) (X := fun w _ => laidMetH Tryd.prog laidL w) false (World.laidAll Tryd.prog os laidL) #[.agg #[.int .i64 0, .bool false, .string ⟨#[]⟩, .string ⟨#[]⟩, .string ⟨#[]⟩, .string ⟨#[]⟩, .bool false], .slice none 0 0] 8 (World.laidAll_os _ _ _) (World.shaped_of_ZipB (by kernel_rfl) (by kernel_rfl)) (by kernel_rfl) (by kernel_rfl) (by kernel_rfl) (by rw [MakeChecks.laidMetH_plain _ _ _ (by kernel_rfl)]; exact laidMet_laidAll _ (by kernel_rfl) (by kernel_rfl))) ?_
  intro W base args ds gs before hval0 hW hcnd hsz0 hL _
  have hval : ∀ (j : Nat) t v, Tryd.f9.params[j]? = some t → args[j]? = some v → Value.okWide Tryd.prog W .any base t v := hval0
  have hW' := hW
  have hlt : ∀ p ∈ before, p.block < W.heap.size := fun p hp => hW.lt p hp
  obtain ⟨p, q, hA0, hV, rfl, hfz, hnd⟩ := hW
  have hA : DataW.TrodAll enc Tryd.prog W 0 (fun _ => true) true Tryd.f9.params.toList args.toList ds p := hA0
  have hA1 := hA
  rw [Tryd.params9] at hA hval
  have hT := facts hL
  obtain ⟨v0, vs0, d0, ds0, p0, q0, hargs, rfl, rfl, h0, r0⟩ := trodAll_cons hA
  obtain ⟨v1, vs1, d1, ds1, p1, q1, rfl, rfl, rfl, h1, r1⟩ := trodAll_cons r0
  obtain ⟨rfl, rfl, rfl⟩ := trodAll_nil r1
  obtain rfl : args = #[v0, v1] := by cases args; simp_all
  obtain ⟨rfl, rfl⟩ := trodVars_none hV
  obtain ⟨cs0, rfl, cz0⟩ : ∃ cs : Array Value, v0 = .agg cs ∧ cs.size = 7 := by
    have h := hval 0 52 v0 rfl rfl
    simp only [Value.okWide, Tryd.underlying52] at h
    obtain ⟨cs, e, hz, _⟩ := h
    exact ⟨cs, e, by rw [hz]; kernel_rfl⟩
  obtain ⟨fuel0, hf0⟩ := h0
  obtain ⟨x0_0, e0_0, wf0_0⟩ := struct_int (i := 0) Tryd.underlying52 hf0 rfl Tryd.underlying3 (by kernel_rfl)
  obtain ⟨x0_1, e0_1⟩ := struct_bool (i := 1) Tryd.underlying52 hf0 rfl Tryd.underlying4 (by kernel_rfl)
  obtain ⟨x0_2, e0_2⟩ := struct_str (i := 2) Tryd.underlying52 hf0 rfl Tryd.underlying9 (by kernel_rfl)
  obtain ⟨x0_3, e0_3⟩ := struct_str (i := 3) Tryd.underlying52 hf0 rfl Tryd.underlying9 (by kernel_rfl)
  obtain ⟨x0_4, e0_4⟩ := struct_str (i := 4) Tryd.underlying52 hf0 rfl Tryd.underlying9 (by kernel_rfl)
  obtain ⟨x0_5, e0_5⟩ := struct_str (i := 5) Tryd.underlying52 hf0 rfl Tryd.underlying9 (by kernel_rfl)
  obtain ⟨x0_6, e0_6⟩ := struct_bool (i := 6) Tryd.underlying52 hf0 rfl Tryd.underlying4 (by kernel_rfl)
  obtain rfl : cs0 = #[.int .i64 x0_0, .bool x0_1, .string x0_2, .string x0_3, .string x0_4, .string x0_5, .bool x0_6] := by
    apply Array.toList_inj.1
    refine list_of_at (by simpa using cz0) fun i hi => ?_
    match i, hi with
    | 0, _ => exact e0_0
    | 1, _ => exact e0_1
    | 2, _ => exact e0_2
    | 3, _ => exact e0_3
    | 4, _ => exact e0_4
    | 5, _ => exact e0_5
    | 6, _ => exact e0_6
    | n + 7, hi => exact absurd hi (by simp)
  obtain ⟨a1, len1, cap1, rfl⟩ := okWide_slice Tryd.underlying22 (hval 1 22 v1 rfl rfl)
  obtain ⟨fuel1, hf1⟩ := h1
  obtain ⟨xs1, hp1, hw1⟩ := arg_strsQ Tryd.underlying22 Tryd.underlying9 (by kernel_rfl) hf1
  have hz1 : ∀ y ∈ xs1, y.length ≤ 140737488351232 := fun y hy => by
    obtain ⟨es, sps, d, e1, e2, hq⟩ := hw1 y hy
    exact sized_mem (j := 1) hsz0 rfl (congrArg some e1) Tryd.underlying22 e2 hq
  clear hval0 hsz0
  have walk := keeps_ok (w := W) (z := x0_0) (tk := x0_1) (pass := x0_2.data.toList) (nick := x0_3.data.toList) (user := x0_4.data.toList) (real := x0_5.data.toList) (dn := x0_6) hp1 hT
  rw [str_of x0_2, str_of x0_3, str_of x0_4, str_of x0_5] at walk
  refine walk.mono fun e W' ⟨he, hv⟩ => ?_
  subst he
  have bel := hv.bel
  exact ⟨_, rfl, _, _, _, [], _, [], hW', trodAll_mk1 (shut_bool Tryd.underlying4 _), args_stay kids sizedT bel (by rw [Tryd.params9]; intro t ht; simp at ht; rcases ht with rfl | rfl <;> decide +kernel) hA1 (fun q hq => hlt q (List.mem_append.2 (.inl hq))), rfl, bel.frame _, fun h => by cases h⟩
theorem over : Rows.signKeepsRow.holds Tryd.pinned (OpenSpec.ofChange Rows.signKeepsSpec) :=
  OpenClaim.holds_of_wide 9 Tryd.f9 rfl rfl rfl rfl rfl rfl rfl ⟨rfl, rfl, rfl, rfl, rfl⟩ rfl rfl rfl rfl rfl (by kernel_rfl) Tryd.func9 (by kernel_rfl)
    (of_decide_eq_true (by kernel_rfl)) (by unfold Func.isWrapper; first | (rw [if_pos (by decide +kernel)]; kernel_rfl) | (rw [if_neg (by decide +kernel)]; exact ⟨rfl, rfl⟩))
    (fun os started H enc _ => lifted os started H enc)
theorem card_proved : Rows.SignKeepsCardSaid :=
  Claim7.holds_tied_plain_at .later [] [.data, .pinned] true (true, "02e807c39731216a9831676edf1562b0d358956f1e4c03d97a1782c2b35587ed") false
    over (fun _ h => by cases h) (by kernel_rfl) (fun _ h => by cases h) signKeeps_row_tie rfl ⟨rfl, rfl⟩ (by kernel_rfl) rfl
    (fun f fn hf hfn => by
      obtain rfl : f = 9 := Option.some.inj ((show Tryd.prog.funcNamed "rollcall/rollcalllaw17.SignKeeps" = some 9 by kernel_rfl).symm.trans hf) |>.symm
      obtain rfl : fn = Tryd.f9 := (Option.some.inj (Tryd.func9.symm.trans hfn)).symm
      exact ⟨by kernel_rfl, fun j t ht => by
        rw [Tryd.params9] at ht
        have hm : t ∈ [52, 22] := by simpa using Array.mem_of_getElem? ht
        have hall : ([52, 22].all fun u => !Tryd.prog.wantsStandIn u) = true := by kernel_rfl
        exact (show Tryd.prog.wantsStandIn t = false by simpa using List.all_eq_true.1 hall t hm)⟩)
    (by kernel_rfl)
#print axioms card_proved
end Go.Proofs.YtapammcnagjigaaDoor.signKeeps

