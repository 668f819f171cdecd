import Derived.Test.YtliknfpdgppjkaaGreatDoorFw
set_option linter.all false
namespace Go.Proofs.YtliknfpdgppjkaaGreatDoor
open Go.Vx Go.Lib
/-! strings.Builder -/
instance copyCheck_ok {K : Value → St → Prop} {w0 w : World} {H' H : List SL} {ds : List Deferred} {b : Nat} {bs : List UInt8} [o' : Hv w0 H' w] [i : SbIn H' b 121 5 bs H] :
    Step (Cl P 115 #[.pointer (some ⟨b, 0, none⟩)] K ⟨w, ds⟩) (∀ w', Hv w0 (sbd 121 5 b bs :: H) w' → K (.tuple #[]) ⟨w', ds⟩) := ⟨fun h => by
  refine s115 ?_
  obtain ⟨q, v, hv, o⟩ := sbd_open (Hv.perm i.perm o')
  clear o'
  unfold D115
  dsimp only
  cases q with
  | false =>
    rw [if_neg (by decide)] at o
    repeat' (first | refine go ?_ | intro _ | refine ⟨sb, ?_⟩ | refine ⟨sd, ?_⟩ | (refine ⟨fun h1 => ?_, fun h1 => ?_⟩ <;> first | exact ab h1 | ((try rw [h1]); (try simp only [bl] at h1))) | dsimp only)
    all_goals first
      | exact h _ (sbd_close' true hv (Sub.hv (subBox rfl (subRow rfl rfl subEnd))))
      | (exfalso; revert h1; decide)
  | true =>
    rw [if_pos rfl] at o
    repeat' (first | refine go ?_ | intro _ | refine ⟨sb, ?_⟩ | refine ⟨sd, ?_⟩ | (refine ⟨fun h1 => ?_, fun h1 => ?_⟩ <;> first | exact ab h1 | ((try rw [h1]); (try simp only [bl] at h1))) | dsimp only)
    exact h _ (sbd_close' true hv o)⟩
instance writeByte_ok {K : Value → St → Prop} {w0 w : World} {H' H : List SL} {ds : List Deferred} {b : Nat} {bs : List UInt8} {c : UInt8} [o' : Hv w0 H' w] [i : SbIn H' b 121 5 bs H] :
    Step (Cl P 90 #[.pointer (some ⟨b, 0, none⟩), byteV c] K ⟨w, ds⟩) (bs.length ≤ 1000000 ∧ ∀ w', Hv w0 (sbd 121 5 b (bs ++ [c]) :: H) w' → K .nilIface ⟨w', ds⟩) := ⟨fun ⟨hl, h⟩ => by
  refine s90 ?_
  unfold D90
  dsimp only
  refine go ?_
  intro w1 o1
  obtain ⟨q, v, hv, o⟩ := sbd_open o1
  clear o' o1
  repeat' (first | refine go ?_ | intro _ | refine ⟨sb, ?_⟩ | refine ⟨sd, ?_⟩ | (refine ⟨fun h1 => ?_, fun h1 => ?_⟩ <;> first | exact ab h1 | ((try rw [h1]); (try simp only [bl] at h1))) | dsimp only)
  exact h _ (sbd_close q (.inr (by simp)) (Sub.hv (subBox rfl (subRow (by simp) (by simp) subEnd))))⟩
instance sbString_ok {K : Value → St → Prop} {w0 w : World} {H' H : List SL} {ds : List Deferred} {b : Nat} {bs : List UInt8} [o' : Hv w0 H' w] [i : SbIn H' b 121 5 bs H] :
    Step (Cl P 91 #[.pointer (some ⟨b, 0, none⟩)] K ⟨w, ds⟩) (bs.length ≤ 1000000 ∧ ∀ w', Hv w0 H w' → K (str bs) ⟨w', ds⟩) := ⟨fun ⟨hl, h⟩ => by
  refine s91 ?_
  obtain ⟨q, v, hv, o⟩ := sbd_open (Hv.perm i.perm o')
  clear o'
  unfold D91
  dsimp only
  rcases row_string (pt := 138) (it := 3) (ty := 9) Tryz.underlying138 (by kernel_rfl) rfl (by omega) (Hv.perm sep_swap o) with ⟨rfl, rfl⟩ | ⟨g, cap, rfl, _⟩
  · repeat' (first | refine go ?_ | intro _ | refine ⟨sb, ?_⟩ | refine ⟨sd, ?_⟩ | (refine ⟨fun h1 => ?_, fun h1 => ?_⟩ <;> first | exact ab h1 | ((try rw [h1]); (try simp only [bl] at h1))) | dsimp only)
    refine bi_ok (m := Builtin.unsafeString_ #[138, 3] 9 #[.pointer none, .int .i64 0]) rfl (run_unsafeString_none _ 138 3 9 none) ?_
    repeat' (first | refine go ?_ | intro _ | refine ⟨sb, ?_⟩ | refine ⟨sd, ?_⟩ | (refine ⟨fun h1 => ?_, fun h1 => ?_⟩ <;> first | exact ab h1 | ((try rw [h1]); (try simp only [bl] at h1))) | dsimp only)
    exact h _ (Sub.hv subEnd)
  · have hcap : cap ≠ 0 := by
      rcases hv with e | ⟨_, _, _, e, hc⟩
      · cases e
      · cases e; exact hc
    cases bs with
    | nil =>
      repeat' (first | refine go ?_ | intro _ | refine ⟨sb, ?_⟩ | refine ⟨sd, ?_⟩ | (refine ⟨fun h1 => ?_, fun h1 => ?_⟩ <;> first | exact ab h1 | ((try rw [h1]); (try simp only [bl] at h1))) | dsimp only)
      refine bi_ok (m := Builtin.unsafeString_ #[138, 3] 9 #[.pointer (some ⟨g, 0, none⟩), .int .i64 0]) rfl (run_unsafeString_none _ 138 3 9 (some ⟨g, 0, none⟩)) ?_
      repeat' (first | refine go ?_ | intro _ | refine ⟨sb, ?_⟩ | refine ⟨sd, ?_⟩ | (refine ⟨fun h1 => ?_, fun h1 => ?_⟩ <;> first | exact ab h1 | ((try rw [h1]); (try simp only [bl] at h1))) | dsimp only)
      exact h _ (Sub.hv subEnd)
    | cons x bs =>
      have hpos : 0 < (x :: bs).length := by simp
      repeat' (first | refine go ?_ | intro _ | refine ⟨sb, ?_⟩ | refine ⟨sd, ?_⟩ | (refine ⟨fun h1 => ?_, fun h1 => ?_⟩ <;> first | exact ab h1 | ((try rw [h1]); (try simp only [bl] at h1))) | dsimp only)
      rename_i w1 o1
      rcases row_string (pt := 138) (it := 3) (ty := 9) Tryz.underlying138 (by kernel_rfl) rfl (by omega) (Hv.perm sep_swap o1) with ⟨e, _⟩ | ⟨g', cap', e, h2⟩
      · cases e
      · cases e
        obtain ⟨w2, h3, h4⟩ := (h2 hpos).2
        refine bi_ok (m := Builtin.unsafeString_ #[138, 3] 9 #[.pointer (some ⟨g, 0, none⟩), .int .i64 (x :: bs).length]) rfl h3 ?_
        repeat' (first | refine go ?_ | intro _ | refine ⟨sb, ?_⟩ | refine ⟨sd, ?_⟩ | (refine ⟨fun h1 => ?_, fun h1 => ?_⟩ <;> first | exact ab h1 | ((try rw [h1]); (try simp only [bl] at h1))) | dsimp only)
        exact h _ (Sub.hv subEnd)⟩
instance sbLen_ok {w0 w : World} {H' H : List SL} {b : Nat} {bs : List UInt8} [o' : Hv w0 H' w] [i : SbIn H' b 121 5 bs H] : VT (Cl P 89 #[.pointer (some ⟨b, 0, none⟩)]) w (.int .i64 bs.length) := ⟨fun {K ds} h => by
  refine s89 ?_
  obtain ⟨q, v, hv, o⟩ := sbd_open (Hv.perm i.perm o')
  clear o'
  unfold D89
  dsimp only
  repeat' (first | refine go ?_ | intro _ | refine ⟨sb, ?_⟩ | refine ⟨sd, ?_⟩ | (refine ⟨fun h1 => ?_, fun h1 => ?_⟩ <;> first | exact ab h1 | ((try rw [h1]); (try simp only [bl] at h1))) | dsimp only)
  exact h⟩
end Go.Proofs.YtliknfpdgppjkaaGreatDoor

