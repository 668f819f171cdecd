import Derived.Test.YtgcomleicnblhaaGreatDoorFw
set_option linter.all false
namespace Go.Proofs.YtgcomleicnblhaaGreatDoor
open Go.Vx Go.Lib
set_option maxRecDepth 20000
/-! strings.Builder -/
instance copyCheck_ok {K : Value → St → Prop} {w0 w : World} {H' H : List SL} {ds : List Deferred} {b : Nat} {bs : List UInt8} [o' : Hv w0 H' w] [i : SbIn H' b 321 5 bs H] :
    Step (Cl P 312 #[.pointer (some ⟨b, 0, none⟩)] K ⟨w, ds⟩) (∀ w', Hv w0 (sbd 321 5 b bs :: H) w' → K (.tuple #[]) ⟨w', ds⟩) := ⟨fun h => by
  refine s312 ?_
  obtain ⟨q, v, hv, o⟩ := sbd_open (Hv.perm i.perm o')
  clear o'
  unfold D312
  dsimp only
  cases q with
  | false =>
    rw [if_neg (by decide)] at o
    repeat' (first | refine go ?_ | intro _ | refine ⟨sb, ?_⟩ | refine ⟨sd, ?_⟩ | (refine ⟨fun h1 => ?_, fun h1 => ?_⟩ <;> first | exact ab h1 | ((try rw [h1]); (try simp only [bl] at h1))) | dsimp only)
    all_goals first
      | exact h _ (sbd_close' true hv (Sub.hv (subBox rfl (subRow rfl rfl subEnd))))
      | (exfalso; revert h1; decide)
  | true =>
    rw [if_pos rfl] at o
    repeat' (first | refine go ?_ | intro _ | refine ⟨sb, ?_⟩ | refine ⟨sd, ?_⟩ | (refine ⟨fun h1 => ?_, fun h1 => ?_⟩ <;> first | exact ab h1 | ((try rw [h1]); (try simp only [bl] at h1))) | dsimp only)
    exact h _ (sbd_close' true hv o)⟩
instance writeByte_ok {K : Value → St → Prop} {w0 w : World} {H' H : List SL} {ds : List Deferred} {b : Nat} {bs : List UInt8} {c : UInt8} [o' : Hv w0 H' w] [i : SbIn H' b 321 5 bs H] :
    Step (Cl P 258 #[.pointer (some ⟨b, 0, none⟩), byteV c] K ⟨w, ds⟩) (bs.length ≤ 1000000 ∧ ∀ w', Hv w0 (sbd 321 5 b (bs ++ [c]) :: H) w' → K .nilIface ⟨w', ds⟩) := ⟨fun ⟨hl, h⟩ => by
  refine s258 ?_
  unfold D258
  dsimp only
  refine go ?_
  intro w1 o1
  obtain ⟨q, v, hv, o⟩ := sbd_open o1
  clear o' o1
  repeat' (first | refine go ?_ | intro _ | refine ⟨sb, ?_⟩ | refine ⟨sd, ?_⟩ | (refine ⟨fun h1 => ?_, fun h1 => ?_⟩ <;> first | exact ab h1 | ((try rw [h1]); (try simp only [bl] at h1))) | dsimp only)
  exact h _ (sbd_close q (.inr (by simp)) (Sub.hv (subBox rfl (subRow (by simp) (by simp) subEnd))))⟩
instance writeString_ok {K : Value → St → Prop} {w0 w : World} {H' H : List SL} {ds : List Deferred} {b : Nat} {bs cs : List UInt8} [o' : Hv w0 H' w] [i : SbIn H' b 321 5 bs H] :
    Step (Cl P 261 #[.pointer (some ⟨b, 0, none⟩), str cs] K ⟨w, ds⟩) ((bs.length ≤ 1000000 ∧ cs.length ≤ 1000000) ∧ ∀ w', Hv w0 (sbd 321 5 b (bs ++ cs) :: H) w' → K (.tuple #[.int .i64 cs.length, .nilIface]) ⟨w', ds⟩) := ⟨fun ⟨⟨hl, hl2⟩, h⟩ => by
  refine s261 ?_
  unfold D261
  dsimp only
  refine go ?_
  intro w1 o1
  obtain ⟨q, v, hv, o⟩ := sbd_open o1
  clear o' o1
  cases cs with
  | nil =>
    rw [List.append_nil] at h
    repeat ((fail_if_success (refine Step.appNil.prf ?_)); (first | refine go ?_ | intro _ | refine ⟨sb, ?_⟩ | refine ⟨sd, ?_⟩ | dsimp only))
    refine Step.appNil.prf ?_
    repeat' (first | refine go ?_ | intro _ | refine ⟨sb, ?_⟩ | refine ⟨sd, ?_⟩ | (refine ⟨fun h1 => ?_, fun h1 => ?_⟩ <;> first | exact ab h1 | ((try rw [h1]); (try simp only [bl] at h1))) | dsimp only)
    exact h _ (sbd_close' q hv (Sub.hv (subBox rfl (subRow rfl rfl subEnd))))
  | cons x cs =>
    have hp : 0 < (bs ++ x :: cs).length := by simp; omega
    repeat' (first | refine go ?_ | intro _ | refine ⟨sb, ?_⟩ | refine ⟨sd, ?_⟩ | (refine ⟨fun h1 => ?_, fun h1 => ?_⟩ <;> first | exact ab h1 | ((try rw [h1]); (try simp only [bl] at h1))) | dsimp only)
    exact h _ (sbd_close q (.inr hp) (Sub.hv (subBox rfl (subRow (by simp) (by simp) subEnd))))⟩
instance sbString_ok {K : Value → St → Prop} {w0 w : World} {H' H : List SL} {ds : List Deferred} {b : Nat} {bs : List UInt8} [o' : Hv w0 H' w] [i : SbIn H' b 321 5 bs H] :
    Step (Cl P 259 #[.pointer (some ⟨b, 0, none⟩)] K ⟨w, ds⟩) (bs.length ≤ 1000000 ∧ ∀ w', Hv w0 H w' → K (str bs) ⟨w', ds⟩) := ⟨fun ⟨hl, h⟩ => by
  refine s259 ?_
  obtain ⟨q, v, hv, o⟩ := sbd_open (Hv.perm i.perm o')
  clear o'
  unfold D259
  dsimp only
  rcases row_string (pt := 352) (it := 3) (ty := 9) Tryz.underlying352 (by kernel_rfl) rfl (by omega) (Hv.perm sep_swap o) with ⟨rfl, rfl⟩ | ⟨g, cap, rfl, _⟩
  · repeat' (first | refine go ?_ | intro _ | refine ⟨sb, ?_⟩ | refine ⟨sd, ?_⟩ | (refine ⟨fun h1 => ?_, fun h1 => ?_⟩ <;> first | exact ab h1 | ((try rw [h1]); (try simp only [bl] at h1))) | dsimp only)
    refine bi_ok (m := Builtin.unsafeString_ #[352, 3] 9 #[.pointer none, .int .i64 0]) rfl (run_unsafeString_none _ 352 3 9 none) ?_
    repeat' (first | refine go ?_ | intro _ | refine ⟨sb, ?_⟩ | refine ⟨sd, ?_⟩ | (refine ⟨fun h1 => ?_, fun h1 => ?_⟩ <;> first | exact ab h1 | ((try rw [h1]); (try simp only [bl] at h1))) | dsimp only)
    exact h _ (Sub.hv subEnd)
  · have hcap : cap ≠ 0 := by
      rcases hv with e | ⟨_, _, _, e, hc⟩
      · cases e
      · cases e; exact hc
    cases bs with
    | nil =>
      repeat' (first | refine go ?_ | intro _ | refine ⟨sb, ?_⟩ | refine ⟨sd, ?_⟩ | (refine ⟨fun h1 => ?_, fun h1 => ?_⟩ <;> first | exact ab h1 | ((try rw [h1]); (try simp only [bl] at h1))) | dsimp only)
      refine bi_ok (m := Builtin.unsafeString_ #[352, 3] 9 #[.pointer (some ⟨g, 0, none⟩), .int .i64 0]) rfl (run_unsafeString_none _ 352 3 9 (some ⟨g, 0, none⟩)) ?_
      repeat' (first | refine go ?_ | intro _ | refine ⟨sb, ?_⟩ | refine ⟨sd, ?_⟩ | (refine ⟨fun h1 => ?_, fun h1 => ?_⟩ <;> first | exact ab h1 | ((try rw [h1]); (try simp only [bl] at h1))) | dsimp only)
      exact h _ (Sub.hv subEnd)
    | cons x bs =>
      have hpos : 0 < (x :: bs).length := by simp
      repeat' (first | refine go ?_ | intro _ | refine ⟨sb, ?_⟩ | refine ⟨sd, ?_⟩ | (refine ⟨fun h1 => ?_, fun h1 => ?_⟩ <;> first | exact ab h1 | ((try rw [h1]); (try simp only [bl] at h1))) | dsimp only)
      rename_i w1 o1
      rcases row_string (pt := 352) (it := 3) (ty := 9) Tryz.underlying352 (by kernel_rfl) rfl (by omega) (Hv.perm sep_swap o1) with ⟨e, _⟩ | ⟨g', cap', e, h2⟩
      · cases e
      · cases e
        obtain ⟨w2, h3, h4⟩ := (h2 hpos).2
        refine bi_ok (m := Builtin.unsafeString_ #[352, 3] 9 #[.pointer (some ⟨g, 0, none⟩), .int .i64 (x :: bs).length]) rfl h3 ?_
        repeat' (first | refine go ?_ | intro _ | refine ⟨sb, ?_⟩ | refine ⟨sd, ?_⟩ | (refine ⟨fun h1 => ?_, fun h1 => ?_⟩ <;> first | exact ab h1 | ((try rw [h1]); (try simp only [bl] at h1))) | dsimp only)
        exact h _ (Sub.hv subEnd)⟩
instance sbLen_ok {w0 w : World} {H' H : List SL} {b : Nat} {bs : List UInt8} [o' : Hv w0 H' w] [i : SbIn H' b 321 5 bs H] : VT (Cl P 257 #[.pointer (some ⟨b, 0, none⟩)]) w (.int .i64 bs.length) := ⟨fun {K ds} h => by
  refine s257 ?_
  obtain ⟨q, v, hv, o⟩ := sbd_open (Hv.perm i.perm o')
  clear o'
  unfold D257
  dsimp only
  repeat' (first | refine go ?_ | intro _ | refine ⟨sb, ?_⟩ | refine ⟨sd, ?_⟩ | (refine ⟨fun h1 => ?_, fun h1 => ?_⟩ <;> first | exact ab h1 | ((try rw [h1]); (try simp only [bl] at h1))) | dsimp only)
  exact h⟩
theorem sbgrow_ok {K : Value → St → Prop} {w0 w : World} {H : List SL} {ds : List Deferred} {b n : Nat} {q : Bool} (o : Hv w0 (box b 321 [.pointer (if q then some ⟨b, 0, none⟩ else none), .slice none 0 0] :: H) w) (hn : 0 < n ∧ n ≤ 1000000) (h : ∀ w', Hv w0 (sbd 321 5 b [] :: H) w' → K (.tuple #[]) ⟨w', ds⟩) : Cl P 369 #[.pointer (some ⟨b, 0, none⟩), .int .i64 n] K ⟨w, ds⟩ := by
  refine s369 ?_
  unfold D369
  dsimp only
  repeat' (first | refine go ?_ | intro _ | refine ⟨sb, ?_⟩ | refine ⟨sd, ?_⟩ | (refine ⟨fun h1 => ?_, fun h1 => ?_⟩ <;> first | exact ab h1 | ((try rw [h1]); (try simp only [bl] at h1))) | dsimp only)
  rename_i v' sb w2 o2
  refine h _ (sbd_close' q (sub_cap rfl sb (by omega)) (Sub.hv (subBox rfl (subRow rfl (by simp) subEnd))))
instance sbGrow_ok {K : Value → St → Prop} {w0 w : World} {H' H : List SL} {ds : List Deferred} {b : Nat} {z : Int} [o' : Hv w0 H' w] [i : BoxIn H' b 321 [.pointer none, .slice none 0 0] H] :
    Step (Cl P 309 #[.pointer (some ⟨b, 0, none⟩), .int .i64 z] K ⟨w, ds⟩) ((0 ≤ z ∧ z ≤ 1000000) ∧ ∀ w', Hv w0 (sbd 321 5 b [] :: H) w' → K (.tuple #[]) ⟨w', ds⟩) := ⟨fun ⟨hz, h⟩ => by
  refine s309 ?_
  obtain ⟨n, rfl⟩ := Int.eq_ofNat_of_zero_le (by omega : 0 ≤ z)
  have o := Hv.perm i.perm.1 o'
  clear o'
  unfold D309
  dsimp only
  have hcc : ∀ {ds : List Deferred} {K : Value → St → Prop}, (∀ w', Hv w0 (box b 321 [.pointer (some ⟨b, 0, none⟩), .slice none 0 0] :: H) w' → K (.tuple #[]) ⟨w', ds⟩) → Cl P 312 #[.pointer (some ⟨b, 0, none⟩)] K ⟨w, ds⟩ := fun {ds K} h => by
    refine s312 ?_
    unfold D312
    dsimp only
    repeat' (first | refine go ?_ | intro _ | refine ⟨sb, ?_⟩ | refine ⟨sd, ?_⟩ | (refine ⟨fun h1 => ?_, fun h1 => ?_⟩ <;> first | exact ab h1 | ((try rw [h1]); (try simp only [bl] at h1))) | dsimp only)
    all_goals first
      | exact h _ (Sub.hv (subBox rfl subEnd))
      | (exfalso; revert h1; decide)
  refine hcc ?_
  intro w1 o1
  clear o
  repeat ((fail_if_success (refine sbgrow_ok (q := true) ?_ ?_ ?_)); (first | refine go ?_ | intro _ | refine ⟨sb, ?_⟩ | refine ⟨sd, ?_⟩ | dsimp only))
  all_goals (try (repeat' (first | refine go ?_ | intro _ | refine ⟨sb, ?_⟩ | refine ⟨sd, ?_⟩ | (refine ⟨fun h1 => ?_, fun h1 => ?_⟩ <;> first | exact ab h1 | ((try rw [h1]); (try simp only [bl] at h1))) | dsimp only)))
  all_goals first
    | exact h _ (sbd_close' true (.inl rfl) (Hv.perm sep_swap (Hv.nilRow 5 1 (Sub.hv (G := _ :: H) (subBox rfl subEnd)))))
    | (exfalso; omega)
    | (refine sbgrow_ok (q := true) (H := H) (n := n) (Sub.hv (subBox rfl subEnd)) (by omega) ?_
       intro w2 o2
       repeat' (first | refine go ?_ | intro _ | refine ⟨sb, ?_⟩ | refine ⟨sd, ?_⟩ | (refine ⟨fun h1 => ?_, fun h1 => ?_⟩ <;> first | exact ab h1 | ((try rw [h1]); (try simp only [bl] at h1))) | dsimp only)
       exact h _ o2)⟩
end Go.Proofs.YtgcomleicnblhaaGreatDoor

