import Derived.Test.YtapammcnagjigaaGreatDoorFw
set_option linter.all false
namespace Go.Proofs.YtapammcnagjigaaGreatDoor
open Go.Vx Go.Lib
/-! strings.Builder -/
instance copyCheck_ok {K : Value → St → Prop} {w0 w : World} {H' H : List SL} {ds : List Deferred} {b : Nat} {bs : List UInt8} [o' : Hv w0 H' w] [i : SbIn H' b 80 5 bs H] :
    Step (Cl P 98 #[.pointer (some ⟨b, 0, none⟩)] K ⟨w, ds⟩) (∀ w', Hv w0 (sbd 80 5 b bs :: H) w' → K (.tuple #[]) ⟨w', ds⟩) := ⟨fun h => by
  refine cl_ok (c98 (K := fun v w' => K v ⟨w', ds⟩) ?_ fun v w' h => ⟨v, rfl, h⟩)
  obtain ⟨q, v, hv, o⟩ := sbd_open (Hv.perm i.perm o')
  clear o'
  unfold D98
  dsimp only
  cases q with
  | false =>
    rw [if_neg (by decide)] at o
    repeat' (first | refine go ?_ | intro _ | refine And.intro (Sd.mk (by (first | exact fun _ => True.intro | exact And.intro (fun _ => True.intro) (fun _ _ => True.intro) | (intro hq; (first | exact True.intro | omega | (simp only [and_true]; omega) | (simp only [bl] at hq; (try simp only [and_true]); omega) | fail)) | exact And.intro (fun hq => by first | exact True.intro | omega | (simp only [and_true]; omega) | (simp only [bl] at hq; (try simp only [and_true]); omega) | fail) (fun hq hr => by first | exact True.intro | omega | (simp only [and_true]; omega) | (simp only [bl] at hq hr; omega) | (simp only [bl] at hr; omega) | fail) | fail))) ?_ | refine And.intro (by (first | omega | (unfold InR; omega) | decide | (simp only [ll]; omega))) ?_ | (refine And.intro (fun h1 => ?_) (fun h1 => ?_) <;> first | (exact absurd h1 (by decide)) | ((try rw [h1]); (try simp only [bl] at h1))) | dsimp only)
    all_goals first
      | exact h _ (sbd_close' true hv (Sub.hv (subBox rfl (subRow rfl rfl subEnd))))
      | (exfalso; revert h1; decide)
  | true =>
    rw [if_pos rfl] at o
    repeat' (first | refine go ?_ | intro _ | refine And.intro (Sd.mk (by (first | exact fun _ => True.intro | exact And.intro (fun _ => True.intro) (fun _ _ => True.intro) | (intro hq; (first | exact True.intro | omega | (simp only [and_true]; omega) | (simp only [bl] at hq; (try simp only [and_true]); omega) | fail)) | exact And.intro (fun hq => by first | exact True.intro | omega | (simp only [and_true]; omega) | (simp only [bl] at hq; (try simp only [and_true]); omega) | fail) (fun hq hr => by first | exact True.intro | omega | (simp only [and_true]; omega) | (simp only [bl] at hq hr; omega) | (simp only [bl] at hr; omega) | fail) | fail))) ?_ | refine And.intro (by (first | omega | (unfold InR; omega) | decide | (simp only [ll]; omega))) ?_ | (refine And.intro (fun h1 => ?_) (fun h1 => ?_) <;> first | (exact absurd h1 (by decide)) | ((try rw [h1]); (try simp only [bl] at h1))) | dsimp only)
    exact h _ (sbd_close' true hv o)⟩
instance writeByte_ok {K : Value → St → Prop} {w0 w : World} {H' H : List SL} {ds : List Deferred} {b : Nat} {bs : List UInt8} {c : UInt8} [o' : Hv w0 H' w] [i : SbIn H' b 80 5 bs H] :
    Step (Cl P 66 #[.pointer (some ⟨b, 0, none⟩), byteV c] K ⟨w, ds⟩) (bs.length ≤ 1000000 ∧ ∀ w', Hv w0 (sbd 80 5 b (bs ++ [c]) :: H) w' → K .nilIface ⟨w', ds⟩) := ⟨fun ⟨hl, h⟩ => by
  refine cl_ok (c66 (K := fun v w' => K v ⟨w', ds⟩) ?_ fun v w' h => ⟨v, rfl, h⟩)
  unfold D66
  dsimp only
  refine go ?_
  intro w1 o1
  obtain ⟨q, v, hv, o⟩ := sbd_open o1
  clear o' o1
  repeat' (first | refine go ?_ | intro _ | refine And.intro (Sd.mk (by (first | exact fun _ => True.intro | exact And.intro (fun _ => True.intro) (fun _ _ => True.intro) | (intro hq; (first | exact True.intro | omega | (simp only [and_true]; omega) | (simp only [bl] at hq; (try simp only [and_true]); omega) | fail)) | exact And.intro (fun hq => by first | exact True.intro | omega | (simp only [and_true]; omega) | (simp only [bl] at hq; (try simp only [and_true]); omega) | fail) (fun hq hr => by first | exact True.intro | omega | (simp only [and_true]; omega) | (simp only [bl] at hq hr; omega) | (simp only [bl] at hr; omega) | fail) | fail))) ?_ | refine And.intro (by (first | omega | (unfold InR; omega) | decide | (simp only [ll]; omega))) ?_ | (refine And.intro (fun h1 => ?_) (fun h1 => ?_) <;> first | (exact absurd h1 (by decide)) | ((try rw [h1]); (try simp only [bl] at h1))) | dsimp only)
  exact h _ (sbd_close q (.inr (by simp)) (Sub.hv (subBox rfl (subRow (by simp) (by simp) subEnd))))⟩
instance writeString_ok {K : Value → St → Prop} {w0 w : World} {H' H : List SL} {ds : List Deferred} {b : Nat} {bs cs : List UInt8} [o' : Hv w0 H' w] [i : SbIn H' b 80 5 bs H] :
    Step (Cl P 64 #[.pointer (some ⟨b, 0, none⟩), str cs] K ⟨w, ds⟩) ((bs.length ≤ 1000000 ∧ cs.length ≤ 1000000) ∧ ∀ w', Hv w0 (sbd 80 5 b (bs ++ cs) :: H) w' → K (.tuple #[.int .i64 cs.length, .nilIface]) ⟨w', ds⟩) := ⟨fun ⟨⟨hl, hl2⟩, h⟩ => by
  refine cl_ok (c64 (K := fun v w' => K v ⟨w', ds⟩) ?_ fun v w' h => ⟨v, rfl, h⟩)
  unfold D64
  dsimp only
  refine go ?_
  intro w1 o1
  obtain ⟨q, v, hv, o⟩ := sbd_open o1
  clear o' o1
  cases cs with
  | nil =>
    rw [List.append_nil] at h
    repeat ((fail_if_success (refine Step.appNil.prf ?_)); (first | refine go ?_ | intro _ | refine And.intro (Sd.mk (by (first | exact fun _ => True.intro | exact And.intro (fun _ => True.intro) (fun _ _ => True.intro) | (intro hq; (first | exact True.intro | omega | (simp only [and_true]; omega) | (simp only [bl] at hq; (try simp only [and_true]); omega) | fail)) | exact And.intro (fun hq => by first | exact True.intro | omega | (simp only [and_true]; omega) | (simp only [bl] at hq; (try simp only [and_true]); omega) | fail) (fun hq hr => by first | exact True.intro | omega | (simp only [and_true]; omega) | (simp only [bl] at hq hr; omega) | (simp only [bl] at hr; omega) | fail) | fail))) ?_ | refine And.intro (by (first | omega | (unfold InR; omega) | decide | (simp only [ll]; omega))) ?_ | dsimp only))
    refine Step.appNil.prf ?_
    repeat' (first | refine go ?_ | intro _ | refine And.intro (Sd.mk (by (first | exact fun _ => True.intro | exact And.intro (fun _ => True.intro) (fun _ _ => True.intro) | (intro hq; (first | exact True.intro | omega | (simp only [and_true]; omega) | (simp only [bl] at hq; (try simp only [and_true]); omega) | fail)) | exact And.intro (fun hq => by first | exact True.intro | omega | (simp only [and_true]; omega) | (simp only [bl] at hq; (try simp only [and_true]); omega) | fail) (fun hq hr => by first | exact True.intro | omega | (simp only [and_true]; omega) | (simp only [bl] at hq hr; omega) | (simp only [bl] at hr; omega) | fail) | fail))) ?_ | refine And.intro (by (first | omega | (unfold InR; omega) | decide | (simp only [ll]; omega))) ?_ | (refine And.intro (fun h1 => ?_) (fun h1 => ?_) <;> first | (exact absurd h1 (by decide)) | ((try rw [h1]); (try simp only [bl] at h1))) | dsimp only)
    exact h _ (sbd_close' q hv (Sub.hv (subBox rfl (subRow rfl rfl subEnd))))
  | cons x cs =>
    have hp : 0 < (bs ++ x :: cs).length := by simp; omega
    repeat' (first | refine go ?_ | intro _ | refine And.intro (Sd.mk (by (first | exact fun _ => True.intro | exact And.intro (fun _ => True.intro) (fun _ _ => True.intro) | (intro hq; (first | exact True.intro | omega | (simp only [and_true]; omega) | (simp only [bl] at hq; (try simp only [and_true]); omega) | fail)) | exact And.intro (fun hq => by first | exact True.intro | omega | (simp only [and_true]; omega) | (simp only [bl] at hq; (try simp only [and_true]); omega) | fail) (fun hq hr => by first | exact True.intro | omega | (simp only [and_true]; omega) | (simp only [bl] at hq hr; omega) | (simp only [bl] at hr; omega) | fail) | fail))) ?_ | refine And.intro (by (first | omega | (unfold InR; omega) | decide | (simp only [ll]; omega))) ?_ | (refine And.intro (fun h1 => ?_) (fun h1 => ?_) <;> first | (exact absurd h1 (by decide)) | ((try rw [h1]); (try simp only [bl] at h1))) | dsimp only)
    exact h _ (sbd_close q (.inr hp) (Sub.hv (subBox rfl (subRow (by simp) (by simp) subEnd))))⟩
instance sbString_ok {K : Value → St → Prop} {w0 w : World} {H' H : List SL} {ds : List Deferred} {b : Nat} {bs : List UInt8} [o' : Hv w0 H' w] [i : SbIn H' b 80 5 bs H] :
    Step (Cl P 67 #[.pointer (some ⟨b, 0, none⟩)] K ⟨w, ds⟩) (bs.length ≤ 1000000 ∧ ∀ w', Hv w0 H w' → K (str bs) ⟨w', ds⟩) := ⟨fun ⟨hl, h⟩ => by
  refine cl_ok (c67 (K := fun v w' => K v ⟨w', ds⟩) ?_ fun v w' h => ⟨v, rfl, h⟩)
  obtain ⟨q, v, hv, o⟩ := sbd_open (Hv.perm i.perm o')
  clear o'
  unfold D67
  dsimp only
  rcases row_string (pt := 109) (it := 3) (ty := 9) Tryz.underlying109 (by kernel_rfl) rfl (by omega) (Hv.perm sep_swap o) with ⟨rfl, rfl⟩ | ⟨g, cap, rfl, _⟩
  · repeat' (first | refine go ?_ | intro _ | refine And.intro (Sd.mk (by (first | exact fun _ => True.intro | exact And.intro (fun _ => True.intro) (fun _ _ => True.intro) | (intro hq; (first | exact True.intro | omega | (simp only [and_true]; omega) | (simp only [bl] at hq; (try simp only [and_true]); omega) | fail)) | exact And.intro (fun hq => by first | exact True.intro | omega | (simp only [and_true]; omega) | (simp only [bl] at hq; (try simp only [and_true]); omega) | fail) (fun hq hr => by first | exact True.intro | omega | (simp only [and_true]; omega) | (simp only [bl] at hq hr; omega) | (simp only [bl] at hr; omega) | fail) | fail))) ?_ | refine And.intro (by (first | omega | (unfold InR; omega) | decide | (simp only [ll]; omega))) ?_ | (refine And.intro (fun h1 => ?_) (fun h1 => ?_) <;> first | (exact absurd h1 (by decide)) | ((try rw [h1]); (try simp only [bl] at h1))) | dsimp only)
    refine bi_ok (m := Builtin.unsafeString_ #[109, 3] 9 #[.pointer none, .int .i64 0]) rfl (run_unsafeString_none _ 109 3 9 none) ?_
    repeat' (first | refine go ?_ | intro _ | refine And.intro (Sd.mk (by (first | exact fun _ => True.intro | exact And.intro (fun _ => True.intro) (fun _ _ => True.intro) | (intro hq; (first | exact True.intro | omega | (simp only [and_true]; omega) | (simp only [bl] at hq; (try simp only [and_true]); omega) | fail)) | exact And.intro (fun hq => by first | exact True.intro | omega | (simp only [and_true]; omega) | (simp only [bl] at hq; (try simp only [and_true]); omega) | fail) (fun hq hr => by first | exact True.intro | omega | (simp only [and_true]; omega) | (simp only [bl] at hq hr; omega) | (simp only [bl] at hr; omega) | fail) | fail))) ?_ | refine And.intro (by (first | omega | (unfold InR; omega) | decide | (simp only [ll]; omega))) ?_ | (refine And.intro (fun h1 => ?_) (fun h1 => ?_) <;> first | (exact absurd h1 (by decide)) | ((try rw [h1]); (try simp only [bl] at h1))) | dsimp only)
    exact h _ (Sub.hv subEnd)
  · have hcap : cap ≠ 0 := by
      rcases hv with e | ⟨_, _, _, e, hc⟩
      · cases e
      · cases e; exact hc
    cases bs with
    | nil =>
      repeat' (first | refine go ?_ | intro _ | refine And.intro (Sd.mk (by (first | exact fun _ => True.intro | exact And.intro (fun _ => True.intro) (fun _ _ => True.intro) | (intro hq; (first | exact True.intro | omega | (simp only [and_true]; omega) | (simp only [bl] at hq; (try simp only [and_true]); omega) | fail)) | exact And.intro (fun hq => by first | exact True.intro | omega | (simp only [and_true]; omega) | (simp only [bl] at hq; (try simp only [and_true]); omega) | fail) (fun hq hr => by first | exact True.intro | omega | (simp only [and_true]; omega) | (simp only [bl] at hq hr; omega) | (simp only [bl] at hr; omega) | fail) | fail))) ?_ | refine And.intro (by (first | omega | (unfold InR; omega) | decide | (simp only [ll]; omega))) ?_ | (refine And.intro (fun h1 => ?_) (fun h1 => ?_) <;> first | (exact absurd h1 (by decide)) | ((try rw [h1]); (try simp only [bl] at h1))) | dsimp only)
      refine bi_ok (m := Builtin.unsafeString_ #[109, 3] 9 #[.pointer (some ⟨g, 0, none⟩), .int .i64 0]) rfl (run_unsafeString_none _ 109 3 9 (some ⟨g, 0, none⟩)) ?_
      repeat' (first | refine go ?_ | intro _ | refine And.intro (Sd.mk (by (first | exact fun _ => True.intro | exact And.intro (fun _ => True.intro) (fun _ _ => True.intro) | (intro hq; (first | exact True.intro | omega | (simp only [and_true]; omega) | (simp only [bl] at hq; (try simp only [and_true]); omega) | fail)) | exact And.intro (fun hq => by first | exact True.intro | omega | (simp only [and_true]; omega) | (simp only [bl] at hq; (try simp only [and_true]); omega) | fail) (fun hq hr => by first | exact True.intro | omega | (simp only [and_true]; omega) | (simp only [bl] at hq hr; omega) | (simp only [bl] at hr; omega) | fail) | fail))) ?_ | refine And.intro (by (first | omega | (unfold InR; omega) | decide | (simp only [ll]; omega))) ?_ | (refine And.intro (fun h1 => ?_) (fun h1 => ?_) <;> first | (exact absurd h1 (by decide)) | ((try rw [h1]); (try simp only [bl] at h1))) | dsimp only)
      exact h _ (Sub.hv subEnd)
    | cons x bs =>
      have hpos : 0 < (x :: bs).length := by simp
      repeat' (first | refine go ?_ | intro _ | refine And.intro (Sd.mk (by (first | exact fun _ => True.intro | exact And.intro (fun _ => True.intro) (fun _ _ => True.intro) | (intro hq; (first | exact True.intro | omega | (simp only [and_true]; omega) | (simp only [bl] at hq; (try simp only [and_true]); omega) | fail)) | exact And.intro (fun hq => by first | exact True.intro | omega | (simp only [and_true]; omega) | (simp only [bl] at hq; (try simp only [and_true]); omega) | fail) (fun hq hr => by first | exact True.intro | omega | (simp only [and_true]; omega) | (simp only [bl] at hq hr; omega) | (simp only [bl] at hr; omega) | fail) | fail))) ?_ | refine And.intro (by (first | omega | (unfold InR; omega) | decide | (simp only [ll]; omega))) ?_ | (refine And.intro (fun h1 => ?_) (fun h1 => ?_) <;> first | (exact absurd h1 (by decide)) | ((try rw [h1]); (try simp only [bl] at h1))) | dsimp only)
      rename_i w1 o1
      rcases row_string (pt := 109) (it := 3) (ty := 9) Tryz.underlying109 (by kernel_rfl) rfl (by omega) (Hv.perm sep_swap o1) with ⟨e, _⟩ | ⟨g', cap', e, h2⟩
      · cases e
      · cases e
        obtain ⟨w2, h3, h4⟩ := (h2 hpos).2
        refine bi_ok (m := Builtin.unsafeString_ #[109, 3] 9 #[.pointer (some ⟨g, 0, none⟩), .int .i64 (x :: bs).length]) rfl h3 ?_
        repeat' (first | refine go ?_ | intro _ | refine And.intro (Sd.mk (by (first | exact fun _ => True.intro | exact And.intro (fun _ => True.intro) (fun _ _ => True.intro) | (intro hq; (first | exact True.intro | omega | (simp only [and_true]; omega) | (simp only [bl] at hq; (try simp only [and_true]); omega) | fail)) | exact And.intro (fun hq => by first | exact True.intro | omega | (simp only [and_true]; omega) | (simp only [bl] at hq; (try simp only [and_true]); omega) | fail) (fun hq hr => by first | exact True.intro | omega | (simp only [and_true]; omega) | (simp only [bl] at hq hr; omega) | (simp only [bl] at hr; omega) | fail) | fail))) ?_ | refine And.intro (by (first | omega | (unfold InR; omega) | decide | (simp only [ll]; omega))) ?_ | (refine And.intro (fun h1 => ?_) (fun h1 => ?_) <;> first | (exact absurd h1 (by decide)) | ((try rw [h1]); (try simp only [bl] at h1))) | dsimp only)
        exact h _ (Sub.hv subEnd)⟩
instance sbLen_ok {w0 w : World} {H' H : List SL} {b : Nat} {bs : List UInt8} [o' : Hv w0 H' w] [i : SbIn H' b 80 5 bs H] : VT (Cl P 140 #[.pointer (some ⟨b, 0, none⟩)]) w (.int .i64 bs.length) := ⟨fun {K ds} h => by
  refine cl_ok (c140 (K := fun v w' => K v ⟨w', ds⟩) ?_ fun v w' h => ⟨v, rfl, h⟩)
  obtain ⟨q, v, hv, o⟩ := sbd_open (Hv.perm i.perm o')
  clear o'
  unfold D140
  dsimp only
  repeat' (first | refine go ?_ | intro _ | refine And.intro (Sd.mk (by (first | exact fun _ => True.intro | exact And.intro (fun _ => True.intro) (fun _ _ => True.intro) | (intro hq; (first | exact True.intro | omega | (simp only [and_true]; omega) | (simp only [bl] at hq; (try simp only [and_true]); omega) | fail)) | exact And.intro (fun hq => by first | exact True.intro | omega | (simp only [and_true]; omega) | (simp only [bl] at hq; (try simp only [and_true]); omega) | fail) (fun hq hr => by first | exact True.intro | omega | (simp only [and_true]; omega) | (simp only [bl] at hq hr; omega) | (simp only [bl] at hr; omega) | fail) | fail))) ?_ | refine And.intro (by (first | omega | (unfold InR; omega) | decide | (simp only [ll]; omega))) ?_ | (refine And.intro (fun h1 => ?_) (fun h1 => ?_) <;> first | (exact absurd h1 (by decide)) | ((try rw [h1]); (try simp only [bl] at h1))) | dsimp only)
  exact h⟩
theorem sbgrow_ok {K : Value → St → Prop} {w0 w : World} {H : List SL} {ds : List Deferred} {b n : Nat} {q : Bool} (o : Hv w0 (box b 80 [.pointer (if q then some ⟨b, 0, none⟩ else none), .slice none 0 0] :: H) w) (hn : 0 < n ∧ n ≤ 1000000) (h : ∀ w', Hv w0 (sbd 80 5 b [] :: H) w' → K (.tuple #[]) ⟨w', ds⟩) : Cl P 142 #[.pointer (some ⟨b, 0, none⟩), .int .i64 n] K ⟨w, ds⟩ := by
  refine cl_ok (c142 (K := fun v w' => K v ⟨w', ds⟩) ?_ fun v w' h => ⟨v, rfl, h⟩)
  unfold D142
  dsimp only
  repeat' (first | refine go ?_ | intro _ | refine And.intro (Sd.mk (by (first | exact fun _ => True.intro | exact And.intro (fun _ => True.intro) (fun _ _ => True.intro) | (intro hq; (first | exact True.intro | omega | (simp only [and_true]; omega) | (simp only [bl] at hq; (try simp only [and_true]); omega) | fail)) | exact And.intro (fun hq => by first | exact True.intro | omega | (simp only [and_true]; omega) | (simp only [bl] at hq; (try simp only [and_true]); omega) | fail) (fun hq hr => by first | exact True.intro | omega | (simp only [and_true]; omega) | (simp only [bl] at hq hr; omega) | (simp only [bl] at hr; omega) | fail) | fail))) ?_ | refine And.intro (by (first | omega | (unfold InR; omega) | decide | (simp only [ll]; omega))) ?_ | (refine And.intro (fun h1 => ?_) (fun h1 => ?_) <;> first | (exact absurd h1 (by decide)) | ((try rw [h1]); (try simp only [bl] at h1))) | dsimp only)
  rename_i v' sb w2 o2
  refine h _ (sbd_close' q (sub_cap rfl sb (by omega)) (Sub.hv (subBox rfl (subRow rfl (by simp) subEnd))))
instance sbGrow_ok {K : Value → St → Prop} {w0 w : World} {H' H : List SL} {ds : List Deferred} {b : Nat} {z : Int} [o' : Hv w0 H' w] [i : BoxIn H' b 80 [.pointer none, .slice none 0 0] H] :
    Step (Cl P 124 #[.pointer (some ⟨b, 0, none⟩), .int .i64 z] K ⟨w, ds⟩) ((0 ≤ z ∧ z ≤ 1000000) ∧ ∀ w', Hv w0 (sbd 80 5 b [] :: H) w' → K (.tuple #[]) ⟨w', ds⟩) := ⟨fun ⟨hz, h⟩ => by
  refine cl_ok (c124 (K := fun v w' => K v ⟨w', ds⟩) ?_ fun v w' h => ⟨v, rfl, h⟩)
  obtain ⟨n, rfl⟩ := Int.eq_ofNat_of_zero_le (by omega : 0 ≤ z)
  have o := Hv.perm i.perm.1 o'
  clear o'
  unfold D124
  dsimp only
  have hcc : ∀ {ds : List Deferred} {K : Value → St → Prop}, (∀ w', Hv w0 (box b 80 [.pointer (some ⟨b, 0, none⟩), .slice none 0 0] :: H) w' → K (.tuple #[]) ⟨w', ds⟩) → Cl P 98 #[.pointer (some ⟨b, 0, none⟩)] K ⟨w, ds⟩ := fun {ds K} h => by
    refine cl_ok (c98 (K := fun v w' => K v ⟨w', ds⟩) ?_ fun v w' h => ⟨v, rfl, h⟩)
    unfold D98
    dsimp only
    repeat' (first | refine go ?_ | intro _ | refine And.intro (Sd.mk (by (first | exact fun _ => True.intro | exact And.intro (fun _ => True.intro) (fun _ _ => True.intro) | (intro hq; (first | exact True.intro | omega | (simp only [and_true]; omega) | (simp only [bl] at hq; (try simp only [and_true]); omega) | fail)) | exact And.intro (fun hq => by first | exact True.intro | omega | (simp only [and_true]; omega) | (simp only [bl] at hq; (try simp only [and_true]); omega) | fail) (fun hq hr => by first | exact True.intro | omega | (simp only [and_true]; omega) | (simp only [bl] at hq hr; omega) | (simp only [bl] at hr; omega) | fail) | fail))) ?_ | refine And.intro (by (first | omega | (unfold InR; omega) | decide | (simp only [ll]; omega))) ?_ | (refine And.intro (fun h1 => ?_) (fun h1 => ?_) <;> first | (exact absurd h1 (by decide)) | ((try rw [h1]); (try simp only [bl] at h1))) | dsimp only)
    all_goals first
      | exact h _ (Sub.hv (subBox rfl subEnd))
      | (exfalso; revert h1; decide)
  refine hcc ?_
  intro w1 o1
  clear o
  repeat ((fail_if_success (refine sbgrow_ok (q := true) ?_ ?_ ?_)); (first | refine go ?_ | intro _ | refine And.intro (Sd.mk (by (first | exact fun _ => True.intro | exact And.intro (fun _ => True.intro) (fun _ _ => True.intro) | (intro hq; (first | exact True.intro | omega | (simp only [and_true]; omega) | (simp only [bl] at hq; (try simp only [and_true]); omega) | fail)) | exact And.intro (fun hq => by first | exact True.intro | omega | (simp only [and_true]; omega) | (simp only [bl] at hq; (try simp only [and_true]); omega) | fail) (fun hq hr => by first | exact True.intro | omega | (simp only [and_true]; omega) | (simp only [bl] at hq hr; omega) | (simp only [bl] at hr; omega) | fail) | fail))) ?_ | refine And.intro (by (first | omega | (unfold InR; omega) | decide | (simp only [ll]; omega))) ?_ | dsimp only))
  all_goals (try (repeat' (first | refine go ?_ | intro _ | refine And.intro (Sd.mk (by (first | exact fun _ => True.intro | exact And.intro (fun _ => True.intro) (fun _ _ => True.intro) | (intro hq; (first | exact True.intro | omega | (simp only [and_true]; omega) | (simp only [bl] at hq; (try simp only [and_true]); omega) | fail)) | exact And.intro (fun hq => by first | exact True.intro | omega | (simp only [and_true]; omega) | (simp only [bl] at hq; (try simp only [and_true]); omega) | fail) (fun hq hr => by first | exact True.intro | omega | (simp only [and_true]; omega) | (simp only [bl] at hq hr; omega) | (simp only [bl] at hr; omega) | fail) | fail))) ?_ | refine And.intro (by (first | omega | (unfold InR; omega) | decide | (simp only [ll]; omega))) ?_ | (refine And.intro (fun h1 => ?_) (fun h1 => ?_) <;> first | (exact absurd h1 (by decide)) | ((try rw [h1]); (try simp only [bl] at h1))) | dsimp only)))
  all_goals first
    | exact h _ (sbd_close' true (.inl rfl) (Hv.perm sep_swap (Hv.nilRow 5 1 (Sub.hv (G := _ :: H) (subBox rfl subEnd)))))
    | (exfalso; omega)
    | (refine sbgrow_ok (q := true) (H := H) (n := n) (Sub.hv (subBox rfl subEnd)) (by omega) ?_
       intro w2 o2
       repeat' (first | refine go ?_ | intro _ | refine And.intro (Sd.mk (by (first | exact fun _ => True.intro | exact And.intro (fun _ => True.intro) (fun _ _ => True.intro) | (intro hq; (first | exact True.intro | omega | (simp only [and_true]; omega) | (simp only [bl] at hq; (try simp only [and_true]); omega) | fail)) | exact And.intro (fun hq => by first | exact True.intro | omega | (simp only [and_true]; omega) | (simp only [bl] at hq; (try simp only [and_true]); omega) | fail) (fun hq hr => by first | exact True.intro | omega | (simp only [and_true]; omega) | (simp only [bl] at hq hr; omega) | (simp only [bl] at hr; omega) | fail) | fail))) ?_ | refine And.intro (by (first | omega | (unfold InR; omega) | decide | (simp only [ll]; omega))) ?_ | (refine And.intro (fun h1 => ?_) (fun h1 => ?_) <;> first | (exact absurd h1 (by decide)) | ((try rw [h1]); (try simp only [bl] at h1))) | dsimp only)
       exact h _ o2)⟩
end Go.Proofs.YtapammcnagjigaaGreatDoor

