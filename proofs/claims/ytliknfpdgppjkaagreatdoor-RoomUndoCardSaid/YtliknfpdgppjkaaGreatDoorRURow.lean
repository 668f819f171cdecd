import Derived.Test.YtliknfpdgppjkaaGreatDoorRows
import Derived.Test.YtliknfpdgppjkaaGreatDoorRmX
import Derived.Test.YtliknfpdgppjkaaGreatDoorFk
import Derived.Test.YtliknfpdgppjkaaGreatDoorEng
import Derived.Test.YtliknfpdgppjkaaGreatDoorCards
import Derived.Test.YtliknfpdgppjkaaGreatDoorTie
import Derived.Lay
import Derived.LaidOnce
import Derived.LaidMore
import Derived.Stop.Joined
import Derived.Stop.LaidErr
import Derived.SevenTiedAt
import Derived.ProofKit
import Derived.OpenShut
import Derived.ChangeOld
import Derived.SizedLaws
set_option linter.all false
/- rollcalllaw19.RoomUndo returns true for every input, where the package-level variables read as the program lays them. No other condition. -/
namespace Go.Proofs.YtliknfpdgppjkaaGreatDoor.roomUndo
open Go.ChangeShapes Go.WideShapes Go.ChangeAt Go.RowKit Go.Vx
open Go.ChangeMaps (open_string)
theorem own : ownKnob Tryz.prog.godebug = none := by kernel_rfl
def laidL : List (String × DataW Unit) := [("math/bits.deBruijn32tab", Rows.laid_math_bits_deBruijn32tab), ("math/bits.deBruijn64tab", Rows.laid_math_bits_deBruijn64tab), ("internal/strconv.uint64pow10", Rows.laid_internal_strconv_uint64pow10), ("unicode/utf8.acceptRanges", Rows.laid_unicode_utf8_acceptRanges), ("strconv.ErrRange", Rows.laid_strconv_ErrRange), ("strconv.ErrSyntax", Rows.laid_strconv_ErrSyntax), ("unicode/utf8.first", Rows.laid_unicode_utf8_first)]
theorem facts {W : World} (h : laidMetH Tryz.prog laidL W) : PowT W := by
  rw [MakeChecks.laidMetH_plain _ _ _ (by kernel_rfl)] at h
  exact ⟨Lib.tabIs_of_head (g := 0) (t := 160) (e := 143) (n := 20) (by kernel_rfl) (by kernel_rfl) (by kernel_rfl) (by kernel_rfl) (by kernel_rfl) (by kernel_rfl) (laidMet.tail (laidMet.tail h))⟩
set_option maxRecDepth 100000 in
theorem lifted (os : Os) (started : os.Started) (H : Type) (enc : TypeId × Value → H) :
    ReturnsInHanded {} Tryz.checked os 3 .any (fun w args => (Rows.roomUndoSpec.pre enc Tryz.prog Tryz.f3 [] false w args ∧ laidMetH Tryz.prog laidL w) ∧ sizedMet enc Tryz.prog Tryz.f3 (OpenSpec.ofChange Rows.roomUndoSpec) false w args) (Rows.roomUndoSpec.post enc Tryz.prog Tryz.f3 false true false false) := by
  refine returnsInHanded_of_change_and (C := Tryz.checked) (X := fun w _ => laidMetH Tryz.prog laidL w) (fun _ _ _ hh h => h.of_heap hh) own started (by kernel_rfl) Tryz.func3
    (ChangeSpec.witness_shaped (enc := enc) (C := Tryz.checked) (os := os) (X := fun w _ => laidMetH Tryz.prog laidL w) false (World.laidAll Tryz.prog os laidL) #[.int .i64 0, .slice none 0 0, .agg #[.bool false, .int .u8 0, .string ⟨#[]⟩], .int .i64 0] 8 (World.laidAll_os _ _ _) (World.shaped_of_ZipB (by kernel_rfl) (by kernel_rfl)) (by kernel_rfl) (by kernel_rfl) (by kernel_rfl) (by rw [MakeChecks.laidMetH_plain _ _ _ (by kernel_rfl)]; exact laidMet_laidAll _ (by kernel_rfl) (by kernel_rfl))) ?_
  intro W base args ds gs before hval0 hW hcnd hsz0 hL _
  have hval : ∀ (j : Nat) t v, Tryz.f3.params[j]? = some t → args[j]? = some v → Value.okWide Tryz.prog W .any base t v := hval0
  have hW' := hW
  have hlt : ∀ p ∈ before, p.block < W.heap.size := fun p hp => hW.lt p hp
  obtain ⟨p, q, hA0, hV, rfl, hfz, hnd⟩ := hW
  have hA : DataW.TrodAll enc Tryz.prog W 0 (fun _ => true) true Tryz.f3.params.toList args.toList ds p := hA0
  have hA1 := hA
  rw [Tryz.params3] at hA hval
  have hT := facts hL
  obtain ⟨v0, vs0, d0, ds0, p0, q0, hargs, rfl, rfl, h0, r0⟩ := trodAll_cons hA
  obtain ⟨v1, vs1, d1, ds1, p1, q1, rfl, rfl, rfl, h1, r1⟩ := trodAll_cons r0
  obtain ⟨v2, vs2, d2, ds2, p2, q2, rfl, rfl, rfl, h2, r2⟩ := trodAll_cons r1
  obtain ⟨v3, vs3, d3, ds3, p3, q3, rfl, rfl, rfl, h3, r3⟩ := trodAll_cons r2
  obtain ⟨rfl, rfl, rfl⟩ := trodAll_nil r3
  obtain rfl : args = #[v0, v1, v2, v3] := by cases args; simp_all
  obtain ⟨rfl, rfl⟩ := trodVars_none hV
  obtain ⟨z0, rfl, rfl, rfl, wf0⟩ := open_int Tryz.underlying3 (hval 0 3 v0 rfl rfl) h0
  obtain ⟨a1, len1, cap1, rfl⟩ := okWide_slice Tryz.underlying22 (hval 1 22 v1 rfl rfl)
  obtain ⟨fuel1, hf1⟩ := h1
  obtain ⟨xs1, hp1⟩ := arg_list encA (fun _ => rfl) acts_one (by decide) Tryz.underlying22 (by kernel_rfl) (fun _ _ _ h hl => acts_each h hl) hf1
  obtain ⟨cs2, rfl, cz2⟩ : ∃ cs : Array Value, v2 = .agg cs ∧ cs.size = 3 := by
    have h := hval 2 24 v2 rfl rfl
    simp only [Value.okWide, Tryz.underlying24] at h
    obtain ⟨cs, e, hz, _⟩ := h
    exact ⟨cs, e, by rw [hz]; kernel_rfl⟩
  obtain ⟨fuel2, hf2⟩ := h2
  obtain ⟨x2_0, e2_0⟩ := struct_bool (i := 0) Tryz.underlying24 hf2 rfl Tryz.underlying4 (by kernel_rfl)
  obtain ⟨x2_1, e2_1, wf2_1⟩ := struct_int (i := 1) Tryz.underlying24 hf2 rfl Tryz.underlying5 (by kernel_rfl)
  obtain ⟨x2_2, e2_2⟩ := struct_str (i := 2) Tryz.underlying24 hf2 rfl Tryz.underlying9 (by kernel_rfl)
  obtain rfl : cs2 = #[.bool x2_0, .int .u8 x2_1, .string x2_2] := by
    apply Array.toList_inj.1
    refine list_of_at (by simpa using cz2) fun i hi => ?_
    match i, hi with
    | 0, _ => exact e2_0
    | 1, _ => exact e2_1
    | 2, _ => exact e2_2
    | n + 3, hi => exact absurd hi (by simp)
  obtain ⟨z3, rfl, rfl, rfl, wf3⟩ := open_int Tryz.underlying3 (hval 3 3 v3 rfl rfl) h3
  clear hval0 hsz0
  have walk := rundo_ok (w := W) (tb := hT) z0 z3 x2_0 (UInt8.ofNat x2_1.toNat) x2_2.data.toList hp1
  rw [byte_of wf2_1, str_of x2_2] at walk
  refine walk.mono fun e W' ⟨he, hv⟩ => ?_
  subst he
  have bel := hv.bel
  exact ⟨_, rfl, _, _, _, [], _, [], hW', trodAll_mk1 (shut_bool Tryz.underlying4 _), args_stay kids sizedT bel (by rw [Tryz.params3]; intro t ht; simp at ht; first | (rcases ht with rfl | rfl | rfl <;> decide +kernel) | (rcases ht with rfl | rfl | rfl | rfl <;> decide +kernel)) hA1 (fun q hq => hlt q (List.mem_append.2 (.inl hq))), rfl, bel.frame _, fun h => by cases h⟩
theorem over : Rows.roomUndoRow.holds Tryz.pinned (OpenSpec.ofChange Rows.roomUndoSpec) :=
  OpenClaim.holds_of_wide 3 Tryz.f3 rfl rfl rfl rfl rfl rfl rfl ⟨rfl, rfl, rfl, rfl, rfl⟩ rfl rfl rfl rfl rfl (by kernel_rfl) Tryz.func3 (by kernel_rfl)
    (of_decide_eq_true (by kernel_rfl)) (by unfold Func.isWrapper; first | (rw [if_pos (by decide +kernel)]; kernel_rfl) | (rw [if_neg (by decide +kernel)]; exact ⟨rfl, rfl⟩))
    (fun os started H enc _ => lifted os started H enc)
theorem card_proved : Rows.RoomUndoCardSaid :=
  Claim7.holds_tied_plain_at .later [] [.data, .data, .data, .data, .sentinel, .sentinel, .pinned] true (true, "d4e5303d3f54ee9848f7bb2bbd22730ef495f248fdd4fc1a0104b924558d87ec") true
    over (fun _ h => by cases h) (by kernel_rfl) (fun _ h => by cases h) roomUndo_row_tie rfl ⟨rfl, rfl⟩ (by kernel_rfl) rfl
    (fun f fn hf hfn => by
      obtain rfl : f = 3 := Option.some.inj ((show Tryz.prog.funcNamed "rollcall/rollcalllaw19.RoomUndo" = some 3 by kernel_rfl).symm.trans hf) |>.symm
      obtain rfl : fn = Tryz.f3 := (Option.some.inj (Tryz.func3.symm.trans hfn)).symm
      exact ⟨by kernel_rfl, fun j t ht => by
        rw [Tryz.params3] at ht
        have hm : t ∈ [3, 22, 24, 3] := by simpa using Array.mem_of_getElem? ht
        have hall : ([3, 22, 24, 3].all fun u => !Tryz.prog.wantsStandIn u) = true := by kernel_rfl
        exact (show Tryz.prog.wantsStandIn t = false by simpa using List.all_eq_true.1 hall t hm)⟩)
    (by kernel_rfl)
#print axioms card_proved
end Go.Proofs.YtliknfpdgppjkaaGreatDoor.roomUndo

