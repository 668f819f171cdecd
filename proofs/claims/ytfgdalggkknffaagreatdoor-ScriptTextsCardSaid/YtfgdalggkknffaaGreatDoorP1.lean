import Derived.Test.YtfgdalggkknffaaGreatDoorFw
import Derived.Shelf.Small.Utf8
import Derived.Shelf.Small.Strs
import Derived.Shelf.Strconv.Atoi
import Derived.Shelf.Strconv.Itoa0
import Derived.Shelf.Strconv.Itoa1
import Derived.Shelf.LaysM
import Derived.Shelf.Strconv.Itoa2
import Derived.Shelf.Strconv.Itoa3
import Derived.Shelf.Strings.Search1
import Derived.Shelf.Strings.Search2
import Derived.Shelf.Strings.Search3
import Derived.Shelf.Strings.Cut
import Derived.Shelf.Strings.Count
import Derived.Shelf.Strings.Shaped
import Derived.Shelf.Sort.Plain
import Derived.Shelf.Strings.Split
import Derived.Shelf.Strings.Runes
import Derived.Shelf.Strings.IndexAny
import Derived.Shelf.Strings.AsciiSet
import Derived.Shelf.Strings.IndexAnyAll
import Derived.Shelf.Unicode.DecodeSlow
import Derived.Shelf.Slices.In.SortNone
import Derived.Test.YtfgdalggkknffaaGreatDoorProg
import Derived.Test.YtfgdalggkknffaaGreatDoorEn2
import Derived.Test.YtfgdalggkknffaaGreatDoorEng
import Derived.Lib.ConvBytes
import Derived.Lib.Atoi
set_option linter.all false
namespace Go.Proofs.YtfgdalggkknffaaGreatDoor
open Go.Vx Go.Lib
set_option maxRecDepth 20000
instance copyCheck_ok {K : Value → St → Prop} {w0 w : World} {H' H : List SL} {ds : List Deferred} {b : Nat} {bs : List UInt8} [o' : Hv w0 H' w] [i : SbIn H' b 50 5 bs H] :
    Step (Cl P 34 #[.pointer (some ⟨b, 0, none⟩)] K ⟨w, ds⟩) (∀ w', Hv w0 (sbd 50 5 b bs :: H) w' → K (.tuple #[]) ⟨w', ds⟩) := ⟨fun h => by
  refine s34 ?_
  obtain ⟨q, v, hv, o⟩ := sbd_open (Hv.perm i.perm o')
  clear o'
  unfold D34
  dsimp only
  cases q with
  | false =>
    rw [if_neg (by decide)] at o
    repeat' (first | refine go ?_ | intro _ | refine ⟨sb, ?_⟩ | refine ⟨sd, ?_⟩ | (refine ⟨fun h1 => ?_, fun h1 => ?_⟩ <;> first | exact ab h1 | ((try rw [h1]); (try simp only [bl] at h1))) | dsimp only)
    all_goals first
      | exact h _ (sbd_close' true hv (Sub.hv (subBox rfl (subRow rfl rfl subEnd))))
      | (exfalso; revert h1; decide)
  | true =>
    rw [if_pos rfl] at o
    repeat' (first | refine go ?_ | intro _ | refine ⟨sb, ?_⟩ | refine ⟨sd, ?_⟩ | (refine ⟨fun h1 => ?_, fun h1 => ?_⟩ <;> first | exact ab h1 | ((try rw [h1]); (try simp only [bl] at h1))) | dsimp only)
    exact h _ (sbd_close' true hv o)⟩
instance writeByte_ok {K : Value → St → Prop} {w0 w : World} {H' H : List SL} {ds : List Deferred} {b : Nat} {bs : List UInt8} {c : UInt8} [o' : Hv w0 H' w] [i : SbIn H' b 50 5 bs H] :
    Step (Cl P 20 #[.pointer (some ⟨b, 0, none⟩), byteV c] K ⟨w, ds⟩) (bs.length ≤ 1000000 ∧ ∀ w', Hv w0 (sbd 50 5 b (bs ++ [c]) :: H) w' → K .nilIface ⟨w', ds⟩) := ⟨fun ⟨hl, h⟩ => by
  refine s20 ?_
  unfold D20
  dsimp only
  refine go ?_
  intro w1 o1
  obtain ⟨q, v, hv, o⟩ := sbd_open o1
  clear o' o1
  repeat' (first | refine go ?_ | intro _ | refine ⟨sb, ?_⟩ | refine ⟨sd, ?_⟩ | (refine ⟨fun h1 => ?_, fun h1 => ?_⟩ <;> first | exact ab h1 | ((try rw [h1]); (try simp only [bl] at h1))) | dsimp only)
  exact h _ (sbd_close q (.inr (by simp)) (Sub.hv (subBox rfl (subRow (by simp) (by simp) subEnd))))⟩
instance writeString_ok {K : Value → St → Prop} {w0 w : World} {H' H : List SL} {ds : List Deferred} {b : Nat} {bs cs : List UInt8} [o' : Hv w0 H' w] [i : SbIn H' b 50 5 bs H] :
    Step (Cl P 21 #[.pointer (some ⟨b, 0, none⟩), str cs] K ⟨w, ds⟩) ((bs.length ≤ 1000000 ∧ cs.length ≤ 1000000) ∧ ∀ w', Hv w0 (sbd 50 5 b (bs ++ cs) :: H) w' → K (.tuple #[.int .i64 cs.length, .nilIface]) ⟨w', ds⟩) := ⟨fun ⟨⟨hl, hl2⟩, h⟩ => by
  refine s21 ?_
  unfold D21
  dsimp only
  refine go ?_
  intro w1 o1
  obtain ⟨q, v, hv, o⟩ := sbd_open o1
  clear o' o1
  cases cs with
  | nil =>
    rw [List.append_nil] at h
    repeat ((fail_if_success (refine Step.appNil.prf ?_)); (first | refine go ?_ | intro _ | refine ⟨sb, ?_⟩ | refine ⟨sd, ?_⟩ | dsimp only))
    refine Step.appNil.prf ?_
    repeat' (first | refine go ?_ | intro _ | refine ⟨sb, ?_⟩ | refine ⟨sd, ?_⟩ | (refine ⟨fun h1 => ?_, fun h1 => ?_⟩ <;> first | exact ab h1 | ((try rw [h1]); (try simp only [bl] at h1))) | dsimp only)
    exact h _ (sbd_close' q hv (Sub.hv (subBox rfl (subRow rfl rfl subEnd))))
  | cons x cs =>
    have hp : 0 < (bs ++ x :: cs).length := by simp; omega
    repeat' (first | refine go ?_ | intro _ | refine ⟨sb, ?_⟩ | refine ⟨sd, ?_⟩ | (refine ⟨fun h1 => ?_, fun h1 => ?_⟩ <;> first | exact ab h1 | ((try rw [h1]); (try simp only [bl] at h1))) | dsimp only)
    exact h _ (sbd_close q (.inr hp) (Sub.hv (subBox rfl (subRow (by simp) (by simp) subEnd))))⟩
instance sbString_ok {K : Value → St → Prop} {w0 w : World} {H' H : List SL} {ds : List Deferred} {b : Nat} {bs : List UInt8} [o' : Hv w0 H' w] [i : SbIn H' b 50 5 bs H] :
    Step (Cl P 22 #[.pointer (some ⟨b, 0, none⟩)] K ⟨w, ds⟩) (bs.length ≤ 1000000 ∧ ∀ w', Hv w0 H w' → K (str bs) ⟨w', ds⟩) := ⟨fun ⟨hl, h⟩ => by
  refine s22 ?_
  obtain ⟨q, v, hv, o⟩ := sbd_open (Hv.perm i.perm o')
  clear o'
  unfold D22
  dsimp only
  rcases row_string (pt := 77) (it := 3) (ty := 9) Tryz.underlying77 (by kernel_rfl) rfl (by omega) (Hv.perm sep_swap o) with ⟨rfl, rfl⟩ | ⟨g, cap, rfl, _⟩
  · repeat' (first | refine go ?_ | intro _ | refine ⟨sb, ?_⟩ | refine ⟨sd, ?_⟩ | (refine ⟨fun h1 => ?_, fun h1 => ?_⟩ <;> first | exact ab h1 | ((try rw [h1]); (try simp only [bl] at h1))) | dsimp only)
    refine bi_ok (m := Builtin.unsafeString_ #[77, 3] 9 #[.pointer none, .int .i64 0]) rfl (run_unsafeString_none _ 77 3 9 none) ?_
    repeat' (first | refine go ?_ | intro _ | refine ⟨sb, ?_⟩ | refine ⟨sd, ?_⟩ | (refine ⟨fun h1 => ?_, fun h1 => ?_⟩ <;> first | exact ab h1 | ((try rw [h1]); (try simp only [bl] at h1))) | dsimp only)
    exact h _ (Sub.hv subEnd)
  · have hcap : cap ≠ 0 := by
      rcases hv with e | ⟨_, _, _, e, hc⟩
      · cases e
      · cases e; exact hc
    cases bs with
    | nil =>
      repeat' (first | refine go ?_ | intro _ | refine ⟨sb, ?_⟩ | refine ⟨sd, ?_⟩ | (refine ⟨fun h1 => ?_, fun h1 => ?_⟩ <;> first | exact ab h1 | ((try rw [h1]); (try simp only [bl] at h1))) | dsimp only)
      refine bi_ok (m := Builtin.unsafeString_ #[77, 3] 9 #[.pointer (some ⟨g, 0, none⟩), .int .i64 0]) rfl (run_unsafeString_none _ 77 3 9 (some ⟨g, 0, none⟩)) ?_
      repeat' (first | refine go ?_ | intro _ | refine ⟨sb, ?_⟩ | refine ⟨sd, ?_⟩ | (refine ⟨fun h1 => ?_, fun h1 => ?_⟩ <;> first | exact ab h1 | ((try rw [h1]); (try simp only [bl] at h1))) | dsimp only)
      exact h _ (Sub.hv subEnd)
    | cons x bs =>
      have hpos : 0 < (x :: bs).length := by simp
      repeat' (first | refine go ?_ | intro _ | refine ⟨sb, ?_⟩ | refine ⟨sd, ?_⟩ | (refine ⟨fun h1 => ?_, fun h1 => ?_⟩ <;> first | exact ab h1 | ((try rw [h1]); (try simp only [bl] at h1))) | dsimp only)
      rename_i w1 o1
      rcases row_string (pt := 77) (it := 3) (ty := 9) Tryz.underlying77 (by kernel_rfl) rfl (by omega) (Hv.perm sep_swap o1) with ⟨e, _⟩ | ⟨g', cap', e, h2⟩
      · cases e
      · cases e
        obtain ⟨w2, h3, h4⟩ := (h2 hpos).2
        refine bi_ok (m := Builtin.unsafeString_ #[77, 3] 9 #[.pointer (some ⟨g, 0, none⟩), .int .i64 (x :: bs).length]) rfl h3 ?_
        repeat' (first | refine go ?_ | intro _ | refine ⟨sb, ?_⟩ | refine ⟨sd, ?_⟩ | (refine ⟨fun h1 => ?_, fun h1 => ?_⟩ <;> first | exact ab h1 | ((try rw [h1]); (try simp only [bl] at h1))) | dsimp only)
        exact h _ (Sub.hv subEnd)⟩
instance sbLen_ok {w0 w : World} {H' H : List SL} {b : Nat} {bs : List UInt8} [o' : Hv w0 H' w] [i : SbIn H' b 50 5 bs H] : VT (Cl P 229 #[.pointer (some ⟨b, 0, none⟩)]) w (.int .i64 bs.length) := ⟨fun {K ds} h => by
  refine s229 ?_
  obtain ⟨q, v, hv, o⟩ := sbd_open (Hv.perm i.perm o')
  clear o'
  unfold D229
  dsimp only
  repeat' (first | refine go ?_ | intro _ | refine ⟨sb, ?_⟩ | refine ⟨sd, ?_⟩ | (refine ⟨fun h1 => ?_, fun h1 => ?_⟩ <;> first | exact ab h1 | ((try rw [h1]); (try simp only [bl] at h1))) | dsimp only)
  exact h⟩
theorem sbgrow_ok {K : Value → St → Prop} {w0 w : World} {H : List SL} {ds : List Deferred} {b n : Nat} {q : Bool} (o : Hv w0 (box b 50 [.pointer (if q then some ⟨b, 0, none⟩ else none), .slice none 0 0] :: H) w) (hn : 0 < n ∧ n ≤ 1000000) (h : ∀ w', Hv w0 (sbd 50 5 b [] :: H) w' → K (.tuple #[]) ⟨w', ds⟩) : Cl P 411 #[.pointer (some ⟨b, 0, none⟩), .int .i64 n] K ⟨w, ds⟩ := by
  refine s411 ?_
  unfold D411
  dsimp only
  repeat' (first | refine go ?_ | intro _ | refine ⟨sb, ?_⟩ | refine ⟨sd, ?_⟩ | (refine ⟨fun h1 => ?_, fun h1 => ?_⟩ <;> first | exact ab h1 | ((try rw [h1]); (try simp only [bl] at h1))) | dsimp only)
  rename_i v' sb w2 o2
  refine h _ (sbd_close' q (sub_cap rfl sb (by omega)) (Sub.hv (subBox rfl (subRow rfl (by simp) subEnd))))
instance sbGrow_ok {K : Value → St → Prop} {w0 w : World} {H' H : List SL} {ds : List Deferred} {b : Nat} {z : Int} [o' : Hv w0 H' w] [i : BoxIn H' b 50 [.pointer none, .slice none 0 0] H] :
    Step (Cl P 304 #[.pointer (some ⟨b, 0, none⟩), .int .i64 z] K ⟨w, ds⟩) ((0 ≤ z ∧ z ≤ 1000000) ∧ ∀ w', Hv w0 (sbd 50 5 b [] :: H) w' → K (.tuple #[]) ⟨w', ds⟩) := ⟨fun ⟨hz, h⟩ => by
  refine s304 ?_
  obtain ⟨n, rfl⟩ := Int.eq_ofNat_of_zero_le (by omega : 0 ≤ z)
  have o := Hv.perm i.perm.1 o'
  clear o'
  unfold D304
  dsimp only
  have hcc : ∀ {ds : List Deferred} {K : Value → St → Prop}, (∀ w', Hv w0 (box b 50 [.pointer (some ⟨b, 0, none⟩), .slice none 0 0] :: H) w' → K (.tuple #[]) ⟨w', ds⟩) → Cl P 34 #[.pointer (some ⟨b, 0, none⟩)] K ⟨w, ds⟩ := fun {ds K} h => by
    refine s34 ?_
    unfold D34
    dsimp only
    repeat' (first | refine go ?_ | intro _ | refine ⟨sb, ?_⟩ | refine ⟨sd, ?_⟩ | (refine ⟨fun h1 => ?_, fun h1 => ?_⟩ <;> first | exact ab h1 | ((try rw [h1]); (try simp only [bl] at h1))) | dsimp only)
    all_goals first
      | exact h _ (Sub.hv (subBox rfl subEnd))
      | (exfalso; revert h1; decide)
  refine hcc ?_
  intro w1 o1
  clear o
  repeat ((fail_if_success (refine sbgrow_ok (q := true) ?_ ?_ ?_)); (first | refine go ?_ | intro _ | refine ⟨sb, ?_⟩ | refine ⟨sd, ?_⟩ | dsimp only))
  all_goals (try (repeat' (first | refine go ?_ | intro _ | refine ⟨sb, ?_⟩ | refine ⟨sd, ?_⟩ | (refine ⟨fun h1 => ?_, fun h1 => ?_⟩ <;> first | exact ab h1 | ((try rw [h1]); (try simp only [bl] at h1))) | dsimp only)))
  all_goals first
    | exact h _ (sbd_close' true (.inl rfl) (Hv.perm sep_swap (Hv.nilRow 5 1 (Sub.hv (G := _ :: H) (subBox rfl subEnd)))))
    | (exfalso; omega)
    | (refine sbgrow_ok (q := true) (H := H) (n := n) (Sub.hv (subBox rfl subEnd)) (by omega) ?_
       intro w2 o2
       repeat' (first | refine go ?_ | intro _ | refine ⟨sb, ?_⟩ | refine ⟨sd, ?_⟩ | (refine ⟨fun h1 => ?_, fun h1 => ?_⟩ <;> first | exact ab h1 | ((try rw [h1]); (try simp only [bl] at h1))) | dsimp only)
       exact h _ o2)⟩
end Go.Proofs.YtfgdalggkknffaaGreatDoor

/-
  DERIVED: THE SHELF's CONTRACTS AT THIS DUMP, IN PLAIN WORDS (tools/lay-plain.mjs out of 'YtfgdalggkknffaaGreatDoorShelfX.lean', which tools/lay-shelf.mjs wrote): THE SAME DECLARATIONS UNDER THE SAME NAMES: 'import', 'namespace', 'open', 'def', 'theorem' AND NOTHING ELSE: no command of the shelf's: FOR A HAND-IN. Each laying: the table of numbers ('.._ren') and one theorem, a field a fact of the dump's own or the kernel's comparison; each contract: ONE APPLICATION.
-/
namespace Go.Proofs
open Go.Shelf
def Tryz.lays172_ren : Go.Shelf.Ren := ⟨fun | 172 => 69 | 244 => 97 | 245 => 98 | 247 => 132 | 279 => 133 | 280 => 134 | 281 => 135 | 282 => 136 | 287 => 183 | 316 => 184 | 171 => 31 | 205 => 185 | 321 => 233 | 322 => 234 | 243 => 46 | 246 => 60 | 283 => 73 | 284 => 74 | 285 => 75 | 286 => 76 | 129 => 101 | 317 => 100 | 318 => 102 | 319 => 103 | 320 => 104 | 337 => 137 | 338 => 138 | n => n, fun | 9 => 9 | 3 => 3 | 75 => 52 | 76 => 54 | 4 => 4 | 5 => 5 | 167 => 212 | 37 => 22 | 0 => 0 | 85 => 213 | 2 => 2 | 168 => 215 | 53 => 112 | 175 => 268 | 46 => 56 | 210 => 271 | 127 => 77 | 145 => 339 | 143 => 337 | 21 => 21 | 171 => 111 | 173 => 115 | 212 => 153 | 51 => 149 | 20 => 20 | 213 => 154 | 232 => 273 | 233 => 274 | 80 => 57 | n => n, fun | 15 => 4 | 16 => 5 | 17 => 1 | 18 => 6 | 19 => 7 | n => n⟩
theorem Tryz.lays172 : Go.Proofs.Lays.n172 Tryz.prog Tryz.lays172_ren := {
  mixed := by kernel_rfl
  f129 := Tryz.func101.trans (congrArg some (by kernel_rfl))
  f171 := Tryz.func31.trans (congrArg some (by kernel_rfl))
  f172 := Tryz.func69.trans (congrArg some (by kernel_rfl))
  f205 := Tryz.func185.trans (congrArg some (by kernel_rfl))
  f243 := Tryz.func46.trans (congrArg some (by kernel_rfl))
  f244 := Tryz.func97.trans (congrArg some (by kernel_rfl))
  f245 := Tryz.func98.trans (congrArg some (by kernel_rfl))
  f246 := Tryz.func60.trans (congrArg some (by kernel_rfl))
  f247 := Tryz.func132.trans (congrArg some (by kernel_rfl))
  f279 := Tryz.func133.trans (congrArg some (by kernel_rfl))
  f280 := Tryz.func134.trans (congrArg some (by kernel_rfl))
  f281 := Tryz.func135.trans (congrArg some (by kernel_rfl))
  f282 := Tryz.func136.trans (congrArg some (by kernel_rfl))
  f283 := Tryz.func73.trans (congrArg some (by kernel_rfl))
  f284 := Tryz.func74.trans (congrArg some (by kernel_rfl))
  f285 := Tryz.func75.trans (congrArg some (by kernel_rfl))
  f286 := Tryz.func76.trans (congrArg some (by kernel_rfl))
  f287 := Tryz.func183.trans (congrArg some (by kernel_rfl))
  f316 := Tryz.func184.trans (congrArg some (by kernel_rfl))
  f317 := Tryz.func100.trans (congrArg some (by kernel_rfl))
  f318 := Tryz.func102.trans (congrArg some (by kernel_rfl))
  f319 := Tryz.func103.trans (congrArg some (by kernel_rfl))
  f320 := Tryz.func104.trans (congrArg some (by kernel_rfl))
  f321 := Tryz.func233.trans (congrArg some (by kernel_rfl))
  f322 := Tryz.func234.trans (congrArg some (by kernel_rfl))
  f337 := Tryz.func137.trans (congrArg some (by kernel_rfl))
  f338 := Tryz.func138.trans (congrArg some (by kernel_rfl))
  t0 := Tryz.underlying0
  a0 := Tryz.isAgg0
  z0 := Tryz.sizeOf0
  v0 := Tryz.zeroValue0
  t2 := Tryz.underlying2
  a2 := Tryz.isAgg2
  z2 := Tryz.sizeOf2
  v2 := Tryz.zeroValue2
  t3 := Tryz.underlying3
  a3 := Tryz.isAgg3
  z3 := Tryz.sizeOf3
  v3 := Tryz.zeroValue3
  t4 := Tryz.underlying4
  a4 := Tryz.isAgg4
  z4 := Tryz.sizeOf4
  v4 := Tryz.zeroValue4
  t5 := Tryz.underlying5
  a5 := Tryz.isAgg5
  z5 := Tryz.sizeOf5
  v5 := Tryz.zeroValue5
  t9 := Tryz.underlying9
  a9 := Tryz.isAgg9
  z9 := Tryz.sizeOf9
  v9 := Tryz.zeroValue9
  t20 := Tryz.underlying20
  a20 := Tryz.isAgg20
  z20 := Tryz.sizeOf20
  v20 := Tryz.zeroValue20
  t21 := Tryz.underlying21
  a21 := Tryz.isAgg21
  z21 := Tryz.sizeOf21
  v21 := Tryz.zeroValue21
  t37 := Tryz.underlying22
  a37 := Tryz.isAgg22
  z37 := Tryz.sizeOf22
  v37 := Tryz.zeroValue22
  t46 := Tryz.underlying56
  a46 := Tryz.isAgg56
  z46 := Tryz.sizeOf56
  v46 := Tryz.zeroValue56
  t51 := Tryz.underlying149
  a51 := Tryz.isAgg149
  z51 := Tryz.sizeOf149
  v51 := Tryz.zeroValue149
  t53 := Tryz.underlying112
  a53 := Tryz.isAgg112
  z53 := Tryz.sizeOf112
  v53 := Tryz.zeroValue112
  t75 := Tryz.underlying52
  a75 := Tryz.isAgg52
  z75 := Tryz.sizeOf52
  v75 := Tryz.zeroValue52
  t76 := Tryz.underlying54
  a76 := Tryz.isAgg54
  z76 := Tryz.sizeOf54
  v76 := Tryz.zeroValue54
  t85 := Tryz.underlying213
  a85 := Tryz.isAgg213
  z85 := Tryz.sizeOf213
  v85 := Tryz.zeroValue213
  t127 := Tryz.underlying77
  a127 := Tryz.isAgg77
  z127 := Tryz.sizeOf77
  v127 := Tryz.zeroValue77
  t143 := Tryz.underlying337
  a143 := Tryz.isAgg337
  z143 := Tryz.sizeOf337
  v143 := Tryz.zeroValue337
  t145 := Tryz.underlying339
  a145 := Tryz.isAgg339
  z145 := Tryz.sizeOf339
  v145 := Tryz.zeroValue339
  t167 := Tryz.underlying212
  a167 := Tryz.isAgg212
  z167 := Tryz.sizeOf212
  v167 := Tryz.zeroValue212
  t168 := Tryz.underlying215
  a168 := Tryz.isAgg215
  z168 := Tryz.sizeOf215
  v168 := Tryz.zeroValue215
  t171 := Tryz.underlying111
  a171 := Tryz.isAgg111
  z171 := Tryz.sizeOf111
  v171 := Tryz.zeroValue111
  t173 := Tryz.underlying115
  a173 := Tryz.isAgg115
  z173 := Tryz.sizeOf115
  v173 := Tryz.zeroValue115
  t175 := Tryz.underlying268
  a175 := Tryz.isAgg268
  z175 := Tryz.sizeOf268
  v175 := Tryz.zeroValue268
  t210 := Tryz.underlying271
  a210 := Tryz.isAgg271
  z210 := Tryz.sizeOf271
  v210 := Tryz.zeroValue271
  t212 := Tryz.underlying153
  a212 := Tryz.isAgg153
  z212 := Tryz.sizeOf153
  v212 := Tryz.zeroValue153
  t213 := Tryz.underlying154
  a213 := Tryz.isAgg154
  z213 := Tryz.sizeOf154
  t232 := Tryz.underlying273
  a232 := Tryz.isAgg273
  z232 := Tryz.sizeOf273
  v232 := Tryz.zeroValue273
  t233 := Tryz.underlying274
  a233 := Tryz.isAgg274
  z233 := Tryz.sizeOf274
  v233 := Tryz.zeroValue274
  g15 := by kernel_rfl
  g16 := by kernel_rfl
  g17 := by kernel_rfl
  g18 := by kernel_rfl
  g19 := by kernel_rfl }
open Go.RowKit in
theorem Tryz.strconv_Atoi (s : ByteArray) (n : Int) (hl : s.size ≤ 18) (h : Lib.atoi s.data.toList = some n) (w : World) :
    Calls Tryz.prog 69 #[.string s] w fun e w' => e = .returned (.tuple #[.int .i64 n, .nilIface]) ∧ ∃ t, w' = Lib.bytesWorld w 5 t := Any.strconv_Atoi Tryz.lays172 s n hl h w
def Tryz.laysM246_ren : Go.Shelf.Ren := ⟨fun | 246 => 60 | 283 => 73 | 284 => 74 | 285 => 75 | 286 => 76 | 129 => 101 | 317 => 100 | 318 => 102 | 319 => 103 | 320 => 104 | 337 => 137 | 338 => 138 | n => n, fun | 2 => 2 | 3 => 3 | 9 => 9 | 4 => 4 | 171 => 111 | 0 => 0 | 53 => 112 | 37 => 22 | 5 => 5 | 173 => 115 | 212 => 153 | 51 => 149 | 20 => 20 | 213 => 154 | 46 => 56 | 232 => 273 | 233 => 274 | n => n, fun | 17 => 1 | 18 => 6 | 19 => 7 | n => n⟩
def Tryz.laysM243_ren : Go.Shelf.Ren := ⟨fun | 243 => 46 | 246 => 60 | 283 => 73 | 284 => 74 | 285 => 75 | 286 => 76 | 129 => 101 | 317 => 100 | 318 => 102 | 319 => 103 | 320 => 104 | 337 => 137 | 338 => 138 | n => n, fun | 3 => 3 | 9 => 9 | 2 => 2 | 4 => 4 | 171 => 111 | 0 => 0 | 53 => 112 | 37 => 22 | 5 => 5 | 173 => 115 | 212 => 153 | 51 => 149 | 20 => 20 | 213 => 154 | 46 => 56 | 232 => 273 | 233 => 274 | n => n, fun | 17 => 1 | 18 => 6 | 19 => 7 | n => n⟩
theorem Tryz.laysM243 : Go.Proofs.LaysM.n243 Tryz.prog Tryz.laysM243_ren := {
  mixed := by kernel_rfl
  f129 := Tryz.func101.trans (congrArg some (by kernel_rfl))
  f243 := Tryz.func46.trans (congrArg some (by kernel_rfl))
  f246 := Tryz.func60.trans (congrArg some (by kernel_rfl))
  f283 := Tryz.func73.trans (congrArg some (by kernel_rfl))
  f284 := Tryz.func74.trans (congrArg some (by kernel_rfl))
  f285 := Tryz.func75.trans (congrArg some (by kernel_rfl))
  f286 := Tryz.func76.trans (congrArg some (by kernel_rfl))
  f317 := Tryz.func100.trans (congrArg some (by kernel_rfl))
  f318 := Tryz.func102.trans (congrArg some (by kernel_rfl))
  f319 := Tryz.func103.trans (congrArg some (by kernel_rfl))
  f320 := Tryz.func104.trans (congrArg some (by kernel_rfl))
  f337 := Tryz.func137.trans (congrArg some (by kernel_rfl))
  f338 := Tryz.func138.trans (congrArg some (by kernel_rfl))
  t0 := Tryz.underlying0
  a0 := Tryz.isAgg0
  z0 := Tryz.sizeOf0
  v0 := Tryz.zeroValue0
  t2 := Tryz.underlying2
  a2 := Tryz.isAgg2
  z2 := Tryz.sizeOf2
  v2 := Tryz.zeroValue2
  t3 := Tryz.underlying3
  a3 := Tryz.isAgg3
  z3 := Tryz.sizeOf3
  v3 := Tryz.zeroValue3
  t4 := Tryz.underlying4
  a4 := Tryz.isAgg4
  z4 := Tryz.sizeOf4
  v4 := Tryz.zeroValue4
  t5 := Tryz.underlying5
  a5 := Tryz.isAgg5
  z5 := Tryz.sizeOf5
  v5 := Tryz.zeroValue5
  t9 := Tryz.underlying9
  a9 := Tryz.isAgg9
  z9 := Tryz.sizeOf9
  v9 := Tryz.zeroValue9
  t20 := Tryz.underlying20
  a20 := Tryz.isAgg20
  z20 := Tryz.sizeOf20
  v20 := Tryz.zeroValue20
  t37 := Tryz.underlying22
  a37 := Tryz.isAgg22
  z37 := Tryz.sizeOf22
  v37 := Tryz.zeroValue22
  t46 := Tryz.underlying56
  a46 := Tryz.isAgg56
  z46 := Tryz.sizeOf56
  v46 := Tryz.zeroValue56
  t51 := Tryz.underlying149
  a51 := Tryz.isAgg149
  z51 := Tryz.sizeOf149
  v51 := Tryz.zeroValue149
  t53 := Tryz.underlying112
  a53 := Tryz.isAgg112
  z53 := Tryz.sizeOf112
  v53 := Tryz.zeroValue112
  t171 := Tryz.underlying111
  a171 := Tryz.isAgg111
  z171 := Tryz.sizeOf111
  v171 := Tryz.zeroValue111
  t173 := Tryz.underlying115
  a173 := Tryz.isAgg115
  z173 := Tryz.sizeOf115
  v173 := Tryz.zeroValue115
  t212 := Tryz.underlying153
  a212 := Tryz.isAgg153
  z212 := Tryz.sizeOf153
  v212 := Tryz.zeroValue153
  t213 := Tryz.underlying154
  a213 := Tryz.isAgg154
  z213 := Tryz.sizeOf154
  t232 := Tryz.underlying273
  a232 := Tryz.isAgg273
  z232 := Tryz.sizeOf273
  v232 := Tryz.zeroValue273
  t233 := Tryz.underlying274
  a233 := Tryz.isAgg274
  z233 := Tryz.sizeOf274
  v233 := Tryz.zeroValue274
  g17 := by kernel_rfl
  g18 := by kernel_rfl
  g19 := by kernel_rfl
  i0 := by kernel_rfl
  i2 := by kernel_rfl
  i3 := by kernel_rfl
  i4 := by kernel_rfl
  i5 := by kernel_rfl
  i9 := by kernel_rfl
  i20 := by kernel_rfl
  i37 := by kernel_rfl
  i46 := by kernel_rfl
  i51 := by kernel_rfl
  i53 := by kernel_rfl
  i171 := by kernel_rfl
  i173 := by kernel_rfl
  i212 := by kernel_rfl
  i232 := by kernel_rfl
  i233 := by kernel_rfl
  m17 := by kernel_rfl
  m18 := by kernel_rfl
  m19 := by kernel_rfl }
open Go.RowKit Go.Sort Go.Lib in
theorem Tryz.internal_strconv_Itoa (n : Int) (h0 : -9223372036854775808 ≤ n) (h1 : n ≤ 9223372036854775807) (w : World) (htab : Lib.TabIs Tryz.prog w "internal/strconv.uint64pow10" .u64 Lib.pow10Tab) :
    Calls Tryz.prog 46 #[.int .i64 n] w fun e w' => e = .returned (.string ⟨(Lib.itoa n).toArray⟩) ∧ ∃ k os, w' = grow (w.drewN k) os := Any.internal_strconv_Itoa Tryz.laysM243 n h0 h1 w htab
def Tryz.lays219_ren : Go.Shelf.Ren := ⟨fun | 219 => 58 | 217 => 52 | 225 => 70 | 224 => 71 | 267 => 72 | 266 => 64 | 314 => 99 | n => n, fun | 9 => 9 | 3 => 3 | 4 => 4 | 5 => 5 | 46 => 56 | 146 => 150 | 51 => 149 | n => n, fun | 1 => 0 | n => n⟩
theorem Tryz.lays219 : Go.Proofs.Lays.n219 Tryz.prog Tryz.lays219_ren := {
  mixed := by kernel_rfl
  f217 := Tryz.func52.trans (congrArg some (by kernel_rfl))
  f219 := Tryz.func58.trans (congrArg some (by kernel_rfl))
  f224 := Tryz.func71.trans (congrArg some (by kernel_rfl))
  f225 := Tryz.func70.trans (congrArg some (by kernel_rfl))
  f266 := Tryz.func64.trans (congrArg some (by kernel_rfl))
  f267 := Tryz.func72.trans (congrArg some (by kernel_rfl))
  f314 := Tryz.func99.trans (congrArg some (by kernel_rfl))
  t3 := Tryz.underlying3
  a3 := Tryz.isAgg3
  z3 := Tryz.sizeOf3
  v3 := Tryz.zeroValue3
  t4 := Tryz.underlying4
  a4 := Tryz.isAgg4
  z4 := Tryz.sizeOf4
  v4 := Tryz.zeroValue4
  t5 := Tryz.underlying5
  a5 := Tryz.isAgg5
  z5 := Tryz.sizeOf5
  v5 := Tryz.zeroValue5
  t9 := Tryz.underlying9
  a9 := Tryz.isAgg9
  z9 := Tryz.sizeOf9
  v9 := Tryz.zeroValue9
  t46 := Tryz.underlying56
  a46 := Tryz.isAgg56
  z46 := Tryz.sizeOf56
  v46 := Tryz.zeroValue56
  t51 := Tryz.underlying149
  a51 := Tryz.isAgg149
  z51 := Tryz.sizeOf149
  v51 := Tryz.zeroValue149
  t146 := Tryz.underlying150
  a146 := Tryz.isAgg150
  z146 := Tryz.sizeOf150
  v146 := Tryz.zeroValue150
  g1 := by kernel_rfl }
open Go.RowKit Go.Lib in
theorem Tryz.stringslite_Index_one (s : ByteArray) (c : UInt8) (w : World) :
    Calls Tryz.prog 58 #[.string s, .string ⟨#[c]⟩] w fun e w' => e = .returned (.int .i64 (Lib.indexByte s.data.toList c)) ∧ w' = w := Any.stringslite_Index_one Tryz.lays219 s c w
def Tryz.lays143_ren : Go.Shelf.Ren := ⟨fun | 143 => 55 | 219 => 58 | 217 => 52 | 225 => 70 | 224 => 71 | 267 => 72 | 266 => 64 | 314 => 99 | n => n, fun | 9 => 9 | 3 => 3 | 4 => 4 | 5 => 5 | 46 => 56 | 146 => 150 | 51 => 149 | n => n, fun | 1 => 0 | n => n⟩
theorem Tryz.lays143 : Go.Proofs.Lays.n143 Tryz.prog Tryz.lays143_ren := {
  mixed := by kernel_rfl
  f143 := Tryz.func55.trans (congrArg some (by kernel_rfl))
  f217 := Tryz.func52.trans (congrArg some (by kernel_rfl))
  f219 := Tryz.func58.trans (congrArg some (by kernel_rfl))
  f224 := Tryz.func71.trans (congrArg some (by kernel_rfl))
  f225 := Tryz.func70.trans (congrArg some (by kernel_rfl))
  f266 := Tryz.func64.trans (congrArg some (by kernel_rfl))
  f267 := Tryz.func72.trans (congrArg some (by kernel_rfl))
  f314 := Tryz.func99.trans (congrArg some (by kernel_rfl))
  t3 := Tryz.underlying3
  a3 := Tryz.isAgg3
  z3 := Tryz.sizeOf3
  v3 := Tryz.zeroValue3
  t4 := Tryz.underlying4
  a4 := Tryz.isAgg4
  z4 := Tryz.sizeOf4
  v4 := Tryz.zeroValue4
  t5 := Tryz.underlying5
  a5 := Tryz.isAgg5
  z5 := Tryz.sizeOf5
  v5 := Tryz.zeroValue5
  t9 := Tryz.underlying9
  a9 := Tryz.isAgg9
  z9 := Tryz.sizeOf9
  v9 := Tryz.zeroValue9
  t46 := Tryz.underlying56
  a46 := Tryz.isAgg56
  z46 := Tryz.sizeOf56
  v46 := Tryz.zeroValue56
  t51 := Tryz.underlying149
  a51 := Tryz.isAgg149
  z51 := Tryz.sizeOf149
  v51 := Tryz.zeroValue149
  t146 := Tryz.underlying150
  a146 := Tryz.isAgg150
  z146 := Tryz.sizeOf150
  v146 := Tryz.zeroValue150
  g1 := by kernel_rfl }
open Go.RowKit Go.Lib in
theorem Tryz.strings_Index_one (s : ByteArray) (c : UInt8) (w : World) :
    Calls Tryz.prog 55 #[.string s, .string ⟨#[c]⟩] w fun e w' => e = .returned (.int .i64 (Lib.indexByte s.data.toList c)) ∧ w' = w := Any.strings_Index_one Tryz.lays143 s c w
def Tryz.lays138_ren : Go.Shelf.Ren := ⟨fun | 138 => 54 | 195 => 65 | 218 => 67 | 143 => 55 | 219 => 58 | 217 => 52 | 225 => 70 | 224 => 71 | 267 => 72 | 266 => 64 | 314 => 99 | n => n, fun | 9 => 9 | 3 => 3 | 4 => 4 | 5 => 5 | 0 => 0 | 46 => 56 | 146 => 150 | 51 => 149 | n => n, fun | 1 => 0 | n => n⟩
theorem Tryz.lays138 : Go.Proofs.Lays.n138 Tryz.prog Tryz.lays138_ren := {
  mixed := by kernel_rfl
  f138 := Tryz.func54.trans (congrArg some (by kernel_rfl))
  f143 := Tryz.func55.trans (congrArg some (by kernel_rfl))
  f195 := Tryz.func65.trans (congrArg some (by kernel_rfl))
  f217 := Tryz.func52.trans (congrArg some (by kernel_rfl))
  f218 := Tryz.func67.trans (congrArg some (by kernel_rfl))
  f219 := Tryz.func58.trans (congrArg some (by kernel_rfl))
  f224 := Tryz.func71.trans (congrArg some (by kernel_rfl))
  f225 := Tryz.func70.trans (congrArg some (by kernel_rfl))
  f266 := Tryz.func64.trans (congrArg some (by kernel_rfl))
  f267 := Tryz.func72.trans (congrArg some (by kernel_rfl))
  f314 := Tryz.func99.trans (congrArg some (by kernel_rfl))
  t0 := Tryz.underlying0
  a0 := Tryz.isAgg0
  z0 := Tryz.sizeOf0
  v0 := Tryz.zeroValue0
  t3 := Tryz.underlying3
  a3 := Tryz.isAgg3
  z3 := Tryz.sizeOf3
  v3 := Tryz.zeroValue3
  t4 := Tryz.underlying4
  a4 := Tryz.isAgg4
  z4 := Tryz.sizeOf4
  v4 := Tryz.zeroValue4
  t5 := Tryz.underlying5
  a5 := Tryz.isAgg5
  z5 := Tryz.sizeOf5
  v5 := Tryz.zeroValue5
  t9 := Tryz.underlying9
  a9 := Tryz.isAgg9
  z9 := Tryz.sizeOf9
  v9 := Tryz.zeroValue9
  t46 := Tryz.underlying56
  a46 := Tryz.isAgg56
  z46 := Tryz.sizeOf56
  v46 := Tryz.zeroValue56
  t51 := Tryz.underlying149
  a51 := Tryz.isAgg149
  z51 := Tryz.sizeOf149
  v51 := Tryz.zeroValue149
  t146 := Tryz.underlying150
  a146 := Tryz.isAgg150
  z146 := Tryz.sizeOf150
  v146 := Tryz.zeroValue150
  g1 := by kernel_rfl }
open Go.RowKit Go.Lib in
theorem Tryz.strings_Count_one (s : ByteArray) (c : UInt8) (w : World) :
    Calls Tryz.prog 54 #[.string s, .string ⟨#[c]⟩] w fun e w' => e = .returned (.int .i64 (Lib.countByte s.data.toList c)) ∧ w' = w := Any.strings_Count_one Tryz.lays138 s c w
def Tryz.lays227_ren : Go.Shelf.Ren := ⟨fun | 227 => 92 | n => n, fun | 9 => 9 | 116 => 143 | 4 => 4 | 0 => 0 | 3 => 3 | 5 => 5 | n => n, fun | n => n⟩
theorem Tryz.lays227 : Go.Proofs.Lays.n227 Tryz.prog Tryz.lays227_ren := {
  mixed := by kernel_rfl
  f227 := Tryz.func92.trans (congrArg some (by kernel_rfl))
  t0 := Tryz.underlying0
  a0 := Tryz.isAgg0
  z0 := Tryz.sizeOf0
  v0 := Tryz.zeroValue0
  t3 := Tryz.underlying3
  a3 := Tryz.isAgg3
  z3 := Tryz.sizeOf3
  v3 := Tryz.zeroValue3
  t4 := Tryz.underlying4
  a4 := Tryz.isAgg4
  z4 := Tryz.sizeOf4
  v4 := Tryz.zeroValue4
  t5 := Tryz.underlying5
  a5 := Tryz.isAgg5
  z5 := Tryz.sizeOf5
  v5 := Tryz.zeroValue5
  t9 := Tryz.underlying9
  a9 := Tryz.isAgg9
  z9 := Tryz.sizeOf9
  v9 := Tryz.zeroValue9
  t116 := Tryz.underlying143
  a116 := Tryz.isAgg143
  z116 := Tryz.sizeOf143 }
open Go.RowKit Go.Lib in
theorem Tryz.strings_makeASCIISet (hv116 : ∀ w, (zeroValue 143).run Tryz.prog w = .ok (.agg (Array.replicate 256 (.bool false))) w) (chars : ByteArray) (w : World) (hs : chars.size < 4294967281) (hascii : ∀ (j : Nat) b, chars.data.toList[j]? = some b → b.toNat < 128) :
    Calls Tryz.prog 92 #[.string chars] w fun e w' => e = .returned (.tuple #[.agg (Lib.setCells chars.data.toList), .bool true]) ∧ w' = w.alloc (.cells (Lib.setCells chars.data.toList) 143) := Any.strings_makeASCIISet Tryz.lays227 hv116 (by kernel_rfl) chars w hs hascii
end Go.Proofs

namespace Go.Proofs.YtfgdalggkknffaaGreatDoor
open Go.Vx Go.Lib
section
open Go.Vx Go.Lib
instance sidx_ok {w : World} {l : List UInt8} {c : UInt8} : VT (Cl P 52 #[str l, byteV c]) w (.int .i64 (idxB l c)) := ⟨fun {K ds} h => by
  refine s52 ?_
  unfold D52
  repeat' (first | refine go ?_ | intro _ | refine ⟨sb, ?_⟩ | refine ⟨sd, ?_⟩ | (refine ⟨fun h1 => ?_, fun h1 => ?_⟩ <;> first | exact ab h1 | ((try rw [h1]); (try simp only [bl] at h1))) | dsimp only)
  exact h⟩
instance idx_ok {w : World} {l : List UInt8} {c : UInt8} : VT (Cl P 35 #[str l, byteV c]) w (.int .i64 (idxB l c)) := ⟨fun {K ds} h => by
  refine s35 ?_
  unfold D35
  repeat' (first | refine go ?_ | intro _ | refine ⟨sb, ?_⟩ | refine ⟨sd, ?_⟩ | (refine ⟨fun h1 => ?_, fun h1 => ?_⟩ <;> first | exact ab h1 | ((try rw [h1]); (try simp only [bl] at h1))) | dsimp only)
  exact h⟩
instance idx70_ok {w : World} {l : List UInt8} {c : UInt8} : VT (Cl P 55 #[str l, str [c]]) w (.int .i64 (idxB l c)) := ⟨fun {K ds} h => by
  refine cl_ok ((Tryz.strings_Index_one ⟨l.toArray⟩ c w).mono fun e w' ⟨he, hw⟩ => ?_)
  subst hw
  refine ⟨_, he, ?_⟩
  simpa [idx_eq] using h⟩
instance idx71_ok {w : World} {l : List UInt8} {c : UInt8} : VT (Cl P 58 #[str l, str [c]]) w (.int .i64 (idxB l c)) := ⟨fun {K ds} h => by
  refine cl_ok ((Tryz.stringslite_Index_one ⟨l.toArray⟩ c w).mono fun e w' ⟨he, hw⟩ => ?_)
  subst hw
  refine ⟨_, he, ?_⟩
  simpa [idx_eq] using h⟩
def cutB (l : List UInt8) (c : UInt8) : List UInt8 × List UInt8 × Bool := match l.findIdx? (· == c) with | some i => (l.take i, l.drop (i + 1), true) | none => (l, [], false)
theorem find_lt {l : List UInt8} {c : UInt8} {i : Nat} (h : l.findIdx? (· == c) = some i) : i < l.length := (List.findIdx?_eq_some_iff_getElem.1 h).1
instance cut49_ok {K : Value → St → Prop} {w0 w : World} {H : List SL} {ds : List Deferred} {l : List UInt8} {c : UInt8} [o : Hv w0 H w] :
    Step (Cl P 42 #[str l, str [c]] K ⟨w, ds⟩) (l.length ≤ 1000000000 ∧ ∀ w', Hv w0 H w' → K (.tuple #[str (cutB l c).1, str (cutB l c).2.1, .bool (cutB l c).2.2]) ⟨w', ds⟩) := ⟨fun ⟨hb, h⟩ => by
  refine s42 ?_
  unfold D42
  dsimp only
  unfold cutB at h
  have hi : idxB l c = match l.findIdx? (· == c) with | some i => (i : Int) | none => -1 := rfl
  cases hf : l.findIdx? (· == c) with
  | none =>
    rw [hf] at h hi
    dsimp only at h hi
    repeat (first | refine go ?_ | intro _ | refine ⟨sb, ?_⟩ | refine ⟨sd, ?_⟩ | dsimp only)
    rw [hi]
    repeat' (first | refine go ?_ | intro _ | refine ⟨sb, ?_⟩ | refine ⟨sd, ?_⟩ | (refine ⟨fun h1 => ?_, fun h1 => ?_⟩ <;> first | exact ab h1 | ((try rw [h1]); (try simp only [bl] at h1))) | dsimp only)
    exact h _ o
  | some i =>
    have hlt := find_lt hf
    rw [hf] at h hi
    dsimp only at h hi
    repeat (first | refine go ?_ | intro _ | refine ⟨sb, ?_⟩ | refine ⟨sd, ?_⟩ | dsimp only)
    rw [hi]
    have e1 : [c].length = 1 := rfl
    repeat' (first | refine go ?_ | intro _ | refine ⟨sb, ?_⟩ | refine ⟨sd, ?_⟩ | (refine ⟨fun h1 => ?_, fun h1 => ?_⟩ <;> first | exact ab h1 | ((try rw [h1]); (try simp only [bl] at h1))) | dsimp only)
    · have e2 : ((i : Int) + ([c].length : Nat)).toNat = i + 1 := by omega
      rw [e2]
      exact h _ ‹_›
    · exact absurd h1 (Int.not_lt.2 (Int.natCast_nonneg i))⟩
instance cut_ok {K : Value → St → Prop} {w0 w : World} {H : List SL} {ds : List Deferred} {l : List UInt8} {c : UInt8} [o : Hv w0 H w] :
    Step (Cl P 27 #[str l, str [c]] K ⟨w, ds⟩) (l.length ≤ 1000000000 ∧ ∀ w', Hv w0 H w' → K (.tuple #[str (cutB l c).1, str (cutB l c).2.1, .bool (cutB l c).2.2]) ⟨w', ds⟩) := ⟨fun ⟨hb, h⟩ => by
  refine s27 ?_
  unfold D27
  dsimp only
  repeat' (first | refine go ?_ | intro _ | refine ⟨sb, ?_⟩ | refine ⟨sd, ?_⟩ | (refine ⟨fun h1 => ?_, fun h1 => ?_⟩ <;> first | exact ab h1 | ((try rw [h1]); (try simp only [bl] at h1))) | dsimp only)
  exact h _ (Sub.hv subEnd)⟩
end
section
open Go.Vx Go.Lib
theorem zeroSet (w : World) : (zeroValue 143).run Tryz.prog w = .ok (.agg (Array.replicate 256 (.bool false))) w := tyz_of (P := Tryz.prog) (t := 143) (inf_of Tryz.type143) (by kernel_rfl) w
end
section
open Go.Vx Go.Lib
def digB (b : UInt8) : Bool := decide (48 ≤ b) && decide (b ≤ 57)
instance dig_ok {w : World} {b : UInt8} : VT (Cl P 59 #[byteV b]) w (.bool (digB b)) := ⟨fun {K ds} h => by
  refine s59 ?_
  unfold D59
  dsimp only
  repeat' (first | refine go ?_ | intro _ | refine ⟨sb, ?_⟩ | refine ⟨sd, ?_⟩ | (refine ⟨fun h1 => ?_, fun h1 => ?_⟩ <;> first | exact ab h1 | ((try rw [h1]); (try simp only [bl] at h1))) | dsimp only)
  all_goals exact cast (congrArg (fun b => K (.bool b) _) (by unfold digB; grind)) h⟩
end
section
open Go.Vx Go.Lib
theorem bytes_all (p : UInt8 → Bool) (h : ∀ n : Fin 256, p (UInt8.ofNat n.val) = true) (b : UInt8) : p b = true := by
  have := h ⟨b.toNat, b.toNat_lt⟩
  simpa using this
end
section
open Go.Vx
def letterI (z : Int) : Bool := (decide (97 ≤ z) && decide (z ≤ 122)) || (decide (65 ≤ z) && decide (z ≤ 90))
instance letter_ok {w : World} {z : Int} : VT (Cl P 139 #[.int .i64 z]) w (.bool (letterI z)) := ⟨fun {K ds} h => by
  refine s139 ?_
  unfold D139
  dsimp only
  repeat' (first | refine go ?_ | intro _ | refine ⟨sb, ?_⟩ | refine ⟨sd, ?_⟩ | (refine ⟨fun h1 => ?_, fun h1 => ?_⟩ <;> first | exact ab h1 | ((try rw [h1]); (try simp only [bl] at h1))) | dsimp only)
  all_goals
    refine cast (congrArg (fun b => K (.bool b) _) ?_) h
    unfold letterI
    grind⟩
instance has_ok {w : World} {l : List UInt8} {z : Int} {i : Nat} [zn : ToN z i] : VS (Cl P 140 #[str l, .int .i64 z]) w (0 ≤ z ∧ z < 256) (.bool (l.contains (UInt8.ofNat i))) := ⟨fun hz {K ds} h => by
  refine s140 ?_
  unfold D140
  repeat' (first | refine go ?_ | intro _ | refine ⟨sb, ?_⟩ | refine ⟨sd, ?_⟩ | (refine ⟨fun h1 => ?_, fun h1 => ?_⟩ <;> first | exact ab h1 | ((try rw [h1]); (try simp only [bl] at h1))) | dsimp only)
  rw [idxB_has]
  exact h⟩
def bitIf (c : Bool) (m : Nat) (x : Nat) : Nat := if c then x ||| m else x
def kd1 (c : Nat) : Nat := bitIf (letterI c || [91, 93, 92, 95, 94, 123, 124, 125, 96].contains (UInt8.ofNat c)) 3 0
def kd2 (c : Nat) : Nat := bitIf ((decide ((48 : Int) ≤ c) && decide ((c : Int) ≤ 57)) || decide ((c : Int) = 45)) 2 (kd1 c)
def kd3 (c : Nat) : Nat := bitIf (![0, 7, 10, 13, 32, 44, 58].contains (UInt8.ofNat c)) 4 (kd2 c)
def kd4 (c : Nat) : Nat := bitIf ((decide ((33 : Int) ≤ c) && decide ((c : Int) ≤ 126)) && ![33, 64, 42, 63, 58].contains (UInt8.ofNat c)) 8 (kd3 c)
def kd5 (c : Nat) : Nat := bitIf ((letterI c || (decide ((48 : Int) ≤ c) && decide ((c : Int) ≤ 57))) || [46, 45, 58].contains (UInt8.ofNat c)) 16 (kd4 c)
def kd6 (c : Nat) : Nat := bitIf ((decide ((33 : Int) ≤ c) && decide ((c : Int) ≤ 126)) && !decide ((c : Int) = 44)) 32 (kd5 c)
def kd7 (c : Nat) : Nat := bitIf (![0, 10, 13].contains (UInt8.ofNat c)) 64 (kd6 c)
def kd : Nat → Nat → Nat
  | 0, _ => 0 | 1, c => kd1 c | 2, c => kd2 c | 3, c => kd3 c | 4, c => kd4 c | 5, c => kd5 c | 6, c => kd6 c | _, c => kd7 c
theorem kd_lt (k c : Nat) : kd k c < 65536 := by
  have h : ∀ (b : Bool) (m x : Nat), m < 2 ^ 16 → x < 2 ^ 16 → bitIf b m x < 2 ^ 16 := fun b m x hm hx => by
    unfold bitIf; split
    · exact Nat.or_lt_two_pow hx hm
    · exact hx
  have k1 : kd1 c < 2 ^ 16 := h _ 3 _ (by decide) (by decide)
  have k2 : kd2 c < 2 ^ 16 := h _ 2 _ (by decide) k1
  have k3 : kd3 c < 2 ^ 16 := h _ 4 _ (by decide) k2
  have k4 : kd4 c < 2 ^ 16 := h _ 8 _ (by decide) k3
  have k5 : kd5 c < 2 ^ 16 := h _ 16 _ (by decide) k4
  have k6 : kd6 c < 2 ^ 16 := h _ 32 _ (by decide) k5
  unfold kd
  split
  · decide
  · exact k1
  · exact k2
  · exact k3
  · exact k4
  · exact k5
  · exact k6
  · exact h _ 64 _ (by decide) k6
abbrev kindN (c : Nat) : Nat := kd7 c
def tab (i k : Nat) : List Value := (List.range 256).map fun c => .int .u16 ((if c < i then kindN c else if c = i then kd k c else 0 : Nat) : Int)
theorem tab_zero : tab 0 0 = List.replicate 256 (.int .u16 0) := by kernel_rfl
theorem tab_next (i : Nat) : tab i 7 = tab (i + 1) 0 := by
  unfold tab
  refine List.map_congr_left fun c _ => ?_
  congr 2
  by_cases h1 : c < i
  · rw [if_pos h1, if_pos (show c < i + 1 by omega)]
  · rw [if_neg h1]
    by_cases h2 : c = i
    · subst h2; rw [if_pos rfl, if_pos (show c < c + 1 by omega)]; rfl
    · rw [if_neg h2, if_neg (show ¬ c < i + 1 by omega)]
      by_cases h3 : c = i + 1
      · rw [if_pos h3]; rfl
      · rw [if_neg h3]
theorem tab_set (i k k' : Nat) : (tab i k).set i (.int .u16 (kd k' i : Nat)) = tab i k' := by
  refine List.ext_getElem (by simp [tab]) fun j h1 h2 => ?_
  rw [List.getElem_set]
  simp only [tab, List.getElem_map, List.getElem_range]
  by_cases h : i = j
  · subst h; simp
  · rw [if_neg h]; simp [Ne.symm h]
def tabV : List Value := (List.range 256).map fun c => .int .u16 ((kindN c : Nat) : Int)
theorem tab_end : tab 256 0 = tabV := by
  unfold tab tabV
  refine List.map_congr_left fun c hc => ?_
  rw [if_pos (List.mem_range.1 hc)]
instance : Len tabV 256 := ⟨by simp [tabV]⟩
instance {i k : Nat} : Len (tab i k) 256 := ⟨by simp [tab]⟩
instance {w : World} : Ones w tabV := ⟨fun v hv => by obtain ⟨_, _, rfl⟩ := List.mem_map.1 hv; rfl⟩
instance (priority := high) {i k n : Nat} : SubX (tab i k) 1 i n [.int .u16 (kd k i : Nat)] := ⟨fun hl hi j u hj => by
  have h1 : SubX (tab i k) 1 i n [.int .u16 ((if i < i then kindN i else if i = i then kd k i else 0 : Nat) : Int)] := inferInstanceAs (SubX ((List.range 256).map fun c => Value.int .u16 ((if c < i then kindN c else if c = i then kd k c else 0 : Nat) : Int)) 1 i n _)
  have := h1.eq hl hi j u
  simp only [Nat.lt_irrefl, if_true, if_false] at this
  exact this hj⟩
instance (priority := high) {i n : Nat} : SubX tabV 1 i n [.int .u16 (kindN i : Nat)] := ⟨fun hl hi j u hj => by
  have h1 : SubX tabV 1 i n [.int .u16 (kindN i : Nat)] := inferInstanceAs (SubX ((List.range 256).map fun c => Value.int .u16 ((kindN c : Nat) : Int)) 1 i n _)
  exact h1.eq hl hi j u hj⟩
set_option maxRecDepth 20000 in
instance kinds_ok {K : Value → St → Prop} {w0 w : World} {H : List SL} {ds : List Deferred} [o : Hv w0 H w] : Step (Cl P 186 #[] K ⟨w, ds⟩) (∀ w', Hv w0 H w' → K (.agg tabV.toArray) ⟨w', ds⟩) := ⟨fun h => by
  refine s186 ?_
  unfold D186
  dsimp only
  repeat (first | refine go ?_ | intro _ | refine ⟨sb, ?_⟩ | refine ⟨sd, ?_⟩ | dsimp only)
  rename_i b1 _ _ b2 w1 o1
  refine ⟨fun x s => ∃ (i : Nat) (w' : World), x = .int .i64 i ∧ s = ⟨w', []⟩ ∧ i ≤ 256 ∧ Hv w0 (box b2 275 (tab i 0) :: box b1 275 (List.replicate 256 (.int .u16 0)) :: H) w',
    fun x s => match x with | .int _ z => 256 - z.toNat | _ => 0, ⟨0, w1, rfl, rfl, Nat.zero_le _, by rw [tab_zero]; exact o1⟩, ?_⟩
  rintro x s ⟨i, w2, rfl, rfl, hi, o2⟩
  rcases Nat.lt_or_ge i 256 with hlt | hge
  · refine go ?_
    refine go ?_
    refine And.intro (fun h1 => ?_) (fun h1 => ?_)
    · have sec : ∀ (k k' : Nat) (m : Int) (b : Bool) (w : World) (A : St → Prop), kd k' i = bitIf b m.toNat (kd k i) → 0 ≤ m ∧ m < 65536 → Hv w0 (box b2 275 (tab i k) :: box b1 275 (List.replicate 256 (.int .u16 0)) :: H) w →
          (∀ w', Hv w0 (box b2 275 (tab i k') :: box b1 275 (List.replicate 256 (.int .u16 0)) :: H) w' → A ⟨w', []⟩) →
          CondP (.bool b) (Ia P 275 (.pointer (some ⟨b2, 0, none⟩)) (.int .i64 i) (fun v23 s => Ld P 232 v23 (fun v24 s => Bo P .or 232 false true v24 (.int .u16 m) (fun v25 s => Ia P 275 (.pointer (some ⟨b2, 0, none⟩)) (.int .i64 i) (fun v26 s => Sv P 232 v26 v25 (fun _ s => A s) s) s) s) s) ⟨w, []⟩) (A ⟨w, []⟩) := by
        intro k k' m b w A he hm o hA
        have hk := kd_lt k i
        cases b with
        | true =>
          repeat' (first | refine go ?_ | intro _ | refine ⟨sb, ?_⟩ | refine ⟨sd, ?_⟩ | (refine ⟨fun h1 => ?_, fun h1 => ?_⟩ <;> first | exact ab h1 | ((try rw [h1]); (try simp only [bl] at h1))) | dsimp only)
          refine hA _ ?_
          rename_i o'
          rw [← tab_set i k k', he]
          simp only [Int.toNat_natCast] at o'
          exact o'
        | false =>
          refine .inr ⟨rfl, hA _ ?_⟩
          have he' : kd k' i = kd k i := he
          have : tab i k = tab i k' := by rw [← tab_set i k k', he', tab_set]
          rw [← this]; exact o
      repeat ((fail_if_success (refine sec ?_ ?_ ?_ ?_ ?_ ?_ ?_ ?_ ?_ ?_)); (first | refine go ?_ | intro _ | refine ⟨sb, ?_⟩ | refine ⟨sd, ?_⟩ | dsimp only))
      refine sec 0 1 _ _ _ _ (by rfl) (by decide) ‹_› (fun w' o' => ?_)
      repeat ((fail_if_success (refine sec ?_ ?_ ?_ ?_ ?_ ?_ ?_ ?_ ?_ ?_)); (first | refine go ?_ | intro _ | refine ⟨sb, ?_⟩ | refine ⟨sd, ?_⟩ | dsimp only))
      refine sec 1 2 _ _ _ _ (by rfl) (by decide) ‹_› (fun w' o' => ?_)
      repeat ((fail_if_success (refine sec ?_ ?_ ?_ ?_ ?_ ?_ ?_ ?_ ?_ ?_)); (first | refine go ?_ | intro _ | refine ⟨sb, ?_⟩ | refine ⟨sd, ?_⟩ | dsimp only))
      refine sec 2 3 _ _ _ _ (by rfl) (by decide) ‹_› (fun w' o' => ?_)
      repeat ((fail_if_success (refine sec ?_ ?_ ?_ ?_ ?_ ?_ ?_ ?_ ?_ ?_)); (first | refine go ?_ | intro _ | refine ⟨sb, ?_⟩ | refine ⟨sd, ?_⟩ | dsimp only))
      refine sec 3 4 _ _ _ _ (by rfl) (by decide) ‹_› (fun w' o' => ?_)
      repeat ((fail_if_success (refine sec ?_ ?_ ?_ ?_ ?_ ?_ ?_ ?_ ?_ ?_)); (first | refine go ?_ | intro _ | refine ⟨sb, ?_⟩ | refine ⟨sd, ?_⟩ | dsimp only))
      refine sec 4 5 _ _ _ _ (by rfl) (by decide) ‹_› (fun w' o' => ?_)
      repeat ((fail_if_success (refine sec ?_ ?_ ?_ ?_ ?_ ?_ ?_ ?_ ?_ ?_)); (first | refine go ?_ | intro _ | refine ⟨sb, ?_⟩ | refine ⟨sd, ?_⟩ | dsimp only))
      refine sec 5 6 _ _ _ _ (by rfl) (by decide) ‹_› (fun w' o' => ?_)
      repeat ((fail_if_success (refine sec ?_ ?_ ?_ ?_ ?_ ?_ ?_ ?_ ?_ ?_)); (first | refine go ?_ | intro _ | refine ⟨sb, ?_⟩ | refine ⟨sd, ?_⟩ | dsimp only))
      refine sec 6 7 _ _ _ _ (by rfl) (by decide) ‹_› (fun w' o' => ?_)
      repeat' (first | refine go ?_ | intro _ | refine ⟨sb, ?_⟩ | refine ⟨sd, ?_⟩ | (refine ⟨fun h1 => ?_, fun h1 => ?_⟩ <;> first | exact ab h1 | ((try rw [h1]); (try simp only [bl] at h1))) | dsimp only)
      refine ⟨⟨i + 1, _, rfl, rfl, hlt, ?_⟩, by simp; omega⟩
      rw [← tab_next]
      assumption
    · exfalso; simp at h1; omega
  · obtain rfl : i = 256 := by omega
    rw [tab_end] at o2
    repeat' (first | refine go ?_ | intro _ | refine ⟨sb, ?_⟩ | refine ⟨sd, ?_⟩ | (refine ⟨fun h1 => ?_, fun h1 => ?_⟩ <;> first | exact ab h1 | ((try rw [h1]); (try simp only [bl] at h1))) | dsimp only)
    exact h _ (Sub.hv subEnd)⟩
def allK (m : Nat) (l : List UInt8) : Bool := l.all fun c => (kindN c.toNat &&& m) != 0
instance vall_ok {K : Value → St → Prop} {w0 w : World} {H : List SL} {ds : List Deferred} {l : List UInt8} {a b m : Int} {n : Nat} [zn : ToN m n] [o : Hv w0 H w] :
    Step (Cl P 141 #[str l, .int .i64 a, .int .i64 b, .int .u16 m] K ⟨w, ds⟩) ((l.length ≤ 1000000000 ∧ 0 ≤ m ∧ m < 65536) ∧ ∀ w', Hv w0 H w' → K (.bool (!(decide ((l.length : Int) < a) || decide (b < (l.length : Int))) && allK n l)) ⟨w', ds⟩) := ⟨fun ⟨hm, h⟩ => by
  refine s141 ?_
  obtain ⟨hl, hm⟩ := hm
  have hmn := zn.eq hm.1
  unfold D141
  dsimp only
  repeat' (first | refine go ?_ | intro _ | refine ⟨sb, ?_⟩ | refine ⟨sd, ?_⟩ | (refine ⟨fun h1 => ?_, fun h1 => ?_⟩ <;> first | exact ab h1 | ((try rw [h1]); (try simp only [bl] at h1))) | dsimp only)
  · refine cast (congrArg (fun b => K (.bool b) _) ?_) (h _ o)
    have : (decide ((l.length : Int) < a) || decide (b < (l.length : Int))) = true := by simpa using h1
    rw [this]; rfl
  rename_i b1 _ _ w1 o1
  have hh : (!(decide ((l.length : Int) < a) || decide (b < (l.length : Int)))) = true := by simpa using h1
  rw [hh, Bool.true_and] at h
  refine ⟨fun y s => ∃ (i : Nat) (w' : World), y = .int .i64 i ∧ s = ⟨w', []⟩ ∧ i ≤ l.length ∧ allK n (l.take i) = true ∧ Hv w0 (box b1 275 tabV :: H) w',
    fun y s => match y with | .int _ z => l.length - z.toNat | _ => 0, ⟨0, w1, rfl, rfl, Nat.zero_le _, rfl, o1⟩, ?_⟩
  rintro y s ⟨i, w2, rfl, rfl, hi, he, o2⟩
  rcases Nat.lt_or_ge i l.length with hlt | hge
  · have hc := (l.getD i default).toNat_lt
    have hk : kindN (l.getD i default).toNat < 65536 := kd_lt 7 _
    have ht : allK n (l.take (i + 1)) = (allK n (l.take i) && (kindN (l.getD i default).toNat &&& n) != 0) := by
      rw [take_snoc hlt]; simp [allK, -List.getD_eq_getElem?_getD]
    have hall : allK n l = true → (kindN (l.getD i default).toNat &&& n) ≠ 0 := by
      intro h2
      have := List.all_eq_true.1 h2 (l.getD i default) (by simp [hlt])
      simpa [-List.getD_eq_getElem?_getD] using this
    repeat' (first | refine go ?_ | intro _ | refine ⟨sb, ?_⟩ | refine ⟨sd, ?_⟩ | (refine ⟨fun h1 => ?_, fun h1 => ?_⟩ <;> first | exact ab h1 | ((try rw [h1]); (try simp only [bl] at h1))) | dsimp only)
    all_goals first
      | (exfalso; omega)
      | skip
    · rw [Int.toNat_natCast, hmn] at h1
      have : allK n l = false := by
        cases h2 : allK n l with
        | false => rfl
        | true => exact absurd (by omega) (hall h2)
      rw [this] at h
      exact h _ (Sub.hv subEnd)
    · rw [Int.toNat_natCast, hmn] at h1
      refine ⟨⟨i + 1, _, rfl, rfl, hlt, ?_, Sub.hv (subBox rfl subEnd)⟩, by simp [-List.getD_eq_getElem?_getD]; omega⟩
      rw [ht, he, Bool.true_and, bne_iff_ne]
      omega
  · rw [List.take_of_length_le hge] at he
    rw [he] at h
    repeat' (first | refine go ?_ | intro _ | refine ⟨sb, ?_⟩ | refine ⟨sd, ?_⟩ | (refine ⟨fun h1 => ?_, fun h1 => ?_⟩ <;> first | exact ab h1 | ((try rw [h1]); (try simp only [bl] at h1))) | dsimp only)
    all_goals first
      | (exfalso; omega)
      | exact h _ (Sub.hv subEnd)⟩
end
section
open Go.Vx Go.Lib
def trimL (l : List UInt8) (c : UInt8) : List UInt8 := l.dropWhile (· == c)
instance trimL_ok {w : World} {l : List UInt8} {c : UInt8} : VT (Cl P 90 #[str l, byteV c]) w (str (trimL l c)) := ⟨fun {K ds} h => by
  refine s90 ?_
  unfold D90
  dsimp only
  refine ⟨fun y s => ∃ (m : List UInt8), y = str m ∧ s = ⟨w, []⟩ ∧ trimL m c = trimL l c ∧ m.length ≤ l.length,
    fun y s => match y with | .string b => b.size | _ => 0, ⟨l, rfl, rfl, rfl, Nat.le_refl _⟩, ?_⟩
  rintro y s ⟨m, rfl, rfl, hm, hl⟩
  cases m with
  | nil =>
    repeat' (first | refine go ?_ | intro _ | refine ⟨sb, ?_⟩ | refine ⟨sd, ?_⟩ | (refine ⟨fun h1 => ?_, fun h1 => ?_⟩ <;> first | exact ab h1 | ((try rw [h1]); (try simp only [bl] at h1))) | dsimp only)
    · exfalso; have := h1.1; simp at this
    · rw [← hm] at h
      simpa [trimL] using h
  | cons x m' =>
    repeat' (first | refine go ?_ | intro _ | refine ⟨sb, ?_⟩ | refine ⟨sd, ?_⟩ | (refine ⟨fun h1 => ?_, fun h1 => ?_⟩ <;> first | exact ab h1 | ((try rw [h1]); (try simp only [bl] at h1))) | dsimp only)
    · have hx : x = c := by simpa using h1
      refine ⟨⟨m', rfl, rfl, ?_, by simp at hl; omega⟩, by simp [ByteArray.size]⟩
      rw [← hm]; simp [trimL, hx]
    · have hx : ¬ x = c := by simpa using h1
      rw [← hm] at h
      simpa [trimL, hx] using h⟩
def setB (cs : List UInt8) : List Value := (List.range 256).map fun i => .bool (cs.contains (UInt8.ofNat i))
theorem setB_eq (cs : List UInt8) : setCells cs = (setB cs).toArray := by
  apply Array.toList_inj.1
  have hs : (setCells cs).size = 256 := by
    have : ∀ (l : List UInt8) (a : Array Value), (l.foldl (fun a c => a.setIfInBounds c.toNat (.bool true)) a).size = a.size := by
      intro l
      induction l with
      | nil => intro a; rfl
      | cons x l ih => intro a; rw [List.foldl_cons, ih]; simp
    unfold setCells; rw [this]; simp
  apply List.ext_getElem?
  intro i
  rcases Nat.lt_or_ge i 256 with h | h
  · have h1 := fold_at cs (Array.replicate 256 (.bool false)) false (UInt8.ofNat i) (by simp [Array.getElem?_replicate]; omega)
    have e : (UInt8.ofNat i).toNat = i := by simp; omega
    rw [e] at h1
    simp only [Bool.false_or] at h1
    show (setCells cs).toList[i]? = (setB cs)[i]?
    rw [Array.getElem?_toList]
    unfold setCells
    rw [h1]
    simp [setB, h]
  · rw [List.getElem?_eq_none (by simp [hs]; omega), List.getElem?_eq_none (by simp [setB]; omega)]
instance {cs : List UInt8} : Len (setB cs) 256 := ⟨by simp [setB]⟩
instance {w : World} {cs : List UInt8} : Ones w (setB cs) := ⟨fun v hv => by obtain ⟨_, _, rfl⟩ := List.mem_map.1 hv; rfl⟩
instance (priority := high) {cs : List UInt8} {i n : Nat} : SubX (setB cs) 1 i n [.bool (cs.contains (UInt8.ofNat i))] := ⟨fun hl hi j u hj => by
  unfold setB at hl ⊢
  simp only [List.length_map, List.length_range] at hl
  cases j with
  | zero =>
    simp only [List.getElem?_cons_zero, Option.some.injEq] at hj
    subst hj
    rw [Nat.mul_one, Nat.add_zero, List.getElem?_map, List.getElem?_range (by omega)]
    rfl
  | succ j => simp at hj⟩
section
variable {K : Value → St → Prop} {w0 w : World} {H R : List SL} {ds : List Deferred} {l cs : List UInt8}
instance mkset_ok [o : Hv w0 H w] : Step (Cl P 92 #[str cs] K ⟨w, ds⟩) ((cs.length ≤ 1000 ∧ ∀ b ∈ cs, b.toNat < 128) ∧ ∀ w', Hv w0 H w' → K (.tuple #[.agg (setB cs).toArray, .bool true]) ⟨w', ds⟩) := ⟨fun ⟨⟨hl, ha⟩, h⟩ => by
  refine cl_ok ((Tryz.strings_makeASCIISet zeroSet ⟨cs.toArray⟩ w (by simp [ByteArray.size]; omega) (fun j b hb => ha b (List.mem_of_getElem? (by simpa using hb)))).mono fun e w' ⟨he, hw⟩ => ?_)
  subst hw
  refine ⟨_, he, ?_⟩
  have e : setCells (ByteArray.mk cs.toArray).data.toList = (setB cs).toArray := setB_eq cs
  rw [e]
  exact h _ (o.newObj _).tail⟩
instance inset_ok {b : Nat} {c : UInt8} [o : Hv w0 H w] [i : BoxIn H b 143 (setB cs) R] : VT (Cl P 129 #[.pointer (some ⟨b, 0, none⟩), byteV c]) w (.bool (cs.contains c)) := ⟨fun {K ds} h => by
  refine s129 ?_
  unfold D129
  dsimp only
  have hc := c.toNat_lt
  repeat' (first | refine go ?_ | intro _ | refine ⟨sb, ?_⟩ | refine ⟨sd, ?_⟩ | (refine ⟨fun h1 => ?_, fun h1 => ?_⟩ <;> first | exact ab h1 | ((try rw [h1]); (try simp only [bl] at h1))) | dsimp only)
  simpa using h⟩
def trimLs (l cs : List UInt8) : List UInt8 := l.dropWhile (cs.contains ·)
def trimRs (l cs : List UInt8) : List UInt8 := (l.reverse.dropWhile (cs.contains ·)).reverse
theorem trimRs_snoc (l cs : List UInt8) (x : UInt8) : trimRs (l ++ [x]) cs = if cs.contains x then trimRs l cs else l ++ [x] := by
  unfold trimRs
  rw [List.reverse_append, List.reverse_singleton, List.singleton_append, List.dropWhile_cons]
  split
  · rfl
  · simp
instance trimLs_ok {b : Nat} [o : Hv w0 H w] [i : BoxIn H b 143 (setB cs) R] : VT (Cl P 93 #[str l, .pointer (some ⟨b, 0, none⟩)]) w (str (trimLs l cs)) := ⟨fun {K ds} h => by
  refine s93 ?_
  unfold D93
  dsimp only
  repeat (first | refine go ?_ | intro _ | refine ⟨sb, ?_⟩ | refine ⟨sd, ?_⟩ | dsimp only)
  refine ⟨fun y s => ∃ (m : List UInt8), y = str m ∧ s = ⟨w, []⟩ ∧ trimLs m cs = trimLs l cs ∧ m.length ≤ l.length,
    fun y s => match y with | .string b => b.size | _ => 0, ⟨l, rfl, rfl, rfl, Nat.le_refl _⟩, ?_⟩
  rintro y s ⟨m, rfl, rfl, hm, hl⟩
  cases m with
  | nil =>
    rw [← hm] at h
    repeat' (first | refine go ?_ | intro _ | refine ⟨sb, ?_⟩ | refine ⟨sd, ?_⟩ | (refine ⟨fun h1 => ?_, fun h1 => ?_⟩ <;> first | exact ab h1 | ((try rw [h1]); (try simp only [bl] at h1))) | dsimp only)
    all_goals first
      | (exfalso; simp at h1; done)
      | simpa [trimLs] using h
  | cons x m' =>
    repeat' (first | refine go ?_ | intro _ | refine ⟨sb, ?_⟩ | refine ⟨sd, ?_⟩ | (refine ⟨fun h1 => ?_, fun h1 => ?_⟩ <;> first | exact ab h1 | ((try rw [h1]); (try simp only [bl] at h1))) | dsimp only)
    · have hx : cs.contains x = false := by simpa using h1
      rw [← hm] at h
      simp only [trimLs, List.dropWhile_cons, hx, Bool.false_eq_true, if_false] at h
      exact h
    · have hx : cs.contains x = true := by simpa using h1
      refine ⟨⟨m', rfl, rfl, ?_, by simp at hl; omega⟩, by simp [ByteArray.size]⟩
      rw [← hm]; simp only [trimLs, List.dropWhile_cons, hx, if_true]
    · exfalso; simp at h1; omega⟩
instance trimRs_ok {b : Nat} [o : Hv w0 H w] [i : BoxIn H b 143 (setB cs) R] : VS (Cl P 94 #[str l, .pointer (some ⟨b, 0, none⟩)]) w ((l.length : Int) ≤ 1000000000) (str (trimRs l cs)) := ⟨fun hb {K ds} h => by
  refine s94 ?_
  unfold D94
  dsimp only
  repeat (first | refine go ?_ | intro _ | refine ⟨sb, ?_⟩ | refine ⟨sd, ?_⟩ | dsimp only)
  refine ⟨fun y s => ∃ (m : List UInt8), y = str m ∧ s = ⟨w, []⟩ ∧ trimRs m cs = trimRs l cs ∧ m.length ≤ l.length,
    fun y s => match y with | .string b => b.size | _ => 0, ⟨l, rfl, rfl, rfl, Nat.le_refl _⟩, ?_⟩
  rintro y s ⟨m, rfl, rfl, hm, hl⟩
  rcases Nat.eq_zero_or_pos m.length with hz | hpos
  · have : m = [] := List.eq_nil_of_length_eq_zero hz
    subst this
    rw [← hm] at h
    repeat' (first | refine go ?_ | intro _ | refine ⟨sb, ?_⟩ | refine ⟨sd, ?_⟩ | (refine ⟨fun h1 => ?_, fun h1 => ?_⟩ <;> first | exact ab h1 | ((try rw [h1]); (try simp only [bl] at h1))) | dsimp only)
    all_goals first
      | (exfalso; simp at h1; done)
      | simpa [trimRs] using h
  · obtain ⟨m', x, rfl⟩ : ∃ m' x, m = m' ++ [x] := ⟨m.dropLast, m.getLast (by intro e; subst e; simp at hpos), (List.dropLast_concat_getLast _).symm⟩
    have en : ((((m' ++ [x]).length : Nat) : Int) - 1).toNat = m'.length := by simp
    repeat' (first | refine go ?_ | intro _ | refine ⟨sb, ?_⟩ | refine ⟨sd, ?_⟩ | (refine ⟨fun h1 => ?_, fun h1 => ?_⟩ <;> first | exact ab h1 | ((try rw [h1]); (try simp only [bl] at h1))) | dsimp only)
    all_goals (try rw [en] at h1)
    · have hx : cs.contains x = false := by simpa using h1
      rw [← hm, trimRs_snoc, hx] at h
      exact h
    · have hx : cs.contains x = true := by simpa using h1
      rw [en]
      refine ⟨⟨m', ?_, rfl, ?_, by simp at hl; omega⟩, by simp [ByteArray.size]⟩
      · simp
      · rw [← hm, trimRs_snoc, hx]; rfl
    · exfalso; simp at h1; omega⟩
instance trimSet_ok [o : Hv w0 H w] : Step (Cl P 68 #[str l, str cs] K ⟨w, ds⟩) ((l.length ≤ 200000 ∧ 2 ≤ cs.length ∧ cs.length ≤ 1000 ∧ ∀ b ∈ cs, b.toNat < 128) ∧ ∀ w', Hv w0 H w' → K (str (trimLs (trimRs l cs) cs)) ⟨w', ds⟩) := ⟨fun ⟨⟨hl, h2, h3, ha⟩, h⟩ => by
  refine s68 ?_
  unfold D68
  dsimp only
  repeat' (first | refine go ?_ | intro _ | refine ⟨sb, ?_⟩ | refine ⟨sd, ?_⟩ | (refine ⟨fun h1 => ?_, fun h1 => ?_⟩ <;> first | exact ab h1 | ((try rw [h1]); (try simp only [bl] at h1))) | dsimp only)
  · rcases h1 with e | e
    · subst e
      exact h _ o
    · exfalso; rw [e] at h2; simp at h2
  · exfalso; have := h1.1; omega
  · exact h _ (Sub.hv subEnd)⟩
theorem drop_all {p : UInt8 → Bool} (l : List UInt8) : (∀ x ∈ l.dropWhile p, p x = true) ↔ ∀ x ∈ l, p x = true := by
  induction l with
  | nil => simp
  | cons y l ih =>
    rw [List.dropWhile_cons]
    split
    · rw [ih]; simp_all
    · exact Iff.rfl
theorem drop_none {p : UInt8 → Bool} : ∀ q : List UInt8, (∀ x ∈ q, p x = true) → q.dropWhile p = [] := by
  intro q
  induction q with
  | nil => intro _; rfl
  | cons y q ih => intro hq; rw [List.dropWhile_cons, if_pos (hq y (List.mem_cons_self ..))]; exact ih fun x hx => hq x (List.mem_cons_of_mem _ hx)
theorem trims_nil (l cs : List UInt8) : decide (trimLs (trimRs l cs) cs = []) = l.all (cs.contains ·) := by
  rw [Bool.eq_iff_iff, decide_eq_true_eq, List.all_eq_true]
  have h1 : trimLs (trimRs l cs) cs = [] ↔ ∀ x ∈ trimLs (trimRs l cs) cs, cs.contains x = true := by
    constructor
    · intro h; rw [h]; simp
    · intro h
      exact drop_none _ ((drop_all _).1 h)
  rw [h1]
  unfold trimLs trimRs
  rw [drop_all]
  simp only [List.mem_reverse]
  rw [drop_all]
  simp only [List.mem_reverse]
end
end
section
open Go.Vx Go.Lib
def okT (b : UInt8) : Bool := b != 0 && b != 10 && b != 13
theorem ok_byte (b : UInt8) : (((kindN b.toNat &&& 64) != 0) == okT b) = true := bytes_all (fun b => ((kindN b.toNat &&& 64) != 0) == okT b) (by decide +kernel) b
theorem ok_kind (b : UInt8) : ((kindN b.toNat &&& 64) != 0) = okT b := by simpa using ok_byte b
def cleanS (l : List UInt8) : List UInt8 := l.filter okT
theorem clean_snoc {l : List UInt8} {i : Nat} (h : i < l.length) : cleanS (l.take (i + 1)) = cleanS (l.take i) ++ (if okT (l.getD i default) then [l.getD i default] else []) := by
  unfold cleanS
  rw [take_snoc h, List.filter_append]
  congr 1
  rw [List.filter_cons]
  rfl
theorem clean_len (l : List UInt8) : (cleanS l).length ≤ l.length := List.length_filter_le ..
theorem clean_pre (l : List UInt8) (i : Nat) : cleanS (l.take i) <+: cleanS l := by
  unfold cleanS
  conv => rhs; rw [← List.take_append_drop i l, List.filter_append]
  exact List.prefix_append ..
section
variable {K : Value → St → Prop} {w0 w : World} {H R : List SL} {ds : List Deferred} {l : List UInt8}
theorem clean_ok {m : Nat} [o : Hv w0 H w] (hl : l.length ≤ 1000000) (h : ∀ w', Hv w0 H w' → K (str ((cleanS l).take m)) ⟨w', ds⟩) : Cl P 176 #[str l, .int .i64 m] K ⟨w, ds⟩ := by
  refine s176 ?_
  unfold D176
  dsimp only
  repeat (first | refine go ?_ | intro _ | refine ⟨sb, ?_⟩ | refine ⟨sd, ?_⟩ | dsimp only)
  rename_i b1 _ _ w1 o1 b2 w2 o2
  have o3 := sbd_new (e := 5) o2
  clear o2 o1 o
  refine ⟨fun x s => ∃ (i : Nat) (w' : World), x = .int .i64 i ∧ s = ⟨w', []⟩ ∧ i ≤ l.length ∧ (cleanS (l.take i)).length ≤ m ∧ Hv w0 (sbd 50 5 b2 (cleanS (l.take i)) :: box b1 275 tabV :: H) w',
    fun x s => match x with | .int _ z => l.length - z.toNat | _ => 0, ⟨0, w2, rfl, rfl, Nat.zero_le _, by simp [cleanS], o3⟩, ?_⟩
  rintro x s ⟨i, w3, rfl, rfl, hi, hm, o4⟩
  clear o3
  have hcl := clean_len (l.take i)
  have hcl2 : (l.take i).length ≤ l.length := by rw [List.length_take]; omega
  rcases Nat.lt_or_ge i l.length with hlt | hge
  · have hc := (l.getD i default).toNat_lt
    have hk : kindN (l.getD i default).toNat < 65536 := kd_lt 7 _
    have hs := clean_snoc hlt
    have hok := ok_kind (l.getD i default)
    repeat' (first | refine go ?_ | intro _ | refine ⟨sb, ?_⟩ | refine ⟨sd, ?_⟩ | (refine ⟨fun h1 => ?_, fun h1 => ?_⟩ <;> first | exact ab h1 | ((try rw [h1]); (try simp only [bl] at h1))) | dsimp only)
    all_goals first
      | (exfalso; omega)
      | skip
    · have hb : okT (l.getD i default) = true := by
        rw [← hok, bne_iff_ne]
        intro e; apply h1; simp only [Int.toNat_natCast]; rw [show (64 : Int).toNat = 64 from rfl, e]; rfl
      rw [hb, if_pos rfl] at hs
      refine ⟨⟨i + 1, _, rfl, rfl, hlt, by rw [hs]; simp; omega, Sub.hv (subSb hs.symm (subBox rfl subEnd))⟩, by simp [-List.getD_eq_getElem?_getD]; omega⟩
    · have hb : okT (l.getD i default) = false := by
        rw [← hok]
        simp only [Int.toNat_natCast] at h1
        rw [show (64 : Int).toNat = 64 from rfl] at h1
        have : kindN (l.getD i default).toNat &&& 64 = 0 := by omega
        rw [this]; rfl
      rw [hb] at hs
      simp only [Bool.false_eq_true, if_false, List.append_nil] at hs
      refine ⟨⟨i + 1, _, rfl, rfl, hlt, by rw [hs]; omega, Sub.hv (subSb hs.symm (subBox rfl subEnd))⟩, by simp [-List.getD_eq_getElem?_getD]; omega⟩
    · have e : (cleanS l).take m = cleanS (l.take i) := by
        obtain ⟨t, ht⟩ := clean_pre l i
        rw [← ht, List.take_append_of_le_length (by omega), List.take_of_length_le (by omega)]
      rw [e] at h
      exact h _ (Sub.hv subEnd)
  · rw [List.take_of_length_le hge] at hm o4 hcl hcl2
    rw [List.take_of_length_le hm] at h
    repeat' (first | refine go ?_ | intro _ | refine ⟨sb, ?_⟩ | refine ⟨sd, ?_⟩ | (refine ⟨fun h1 => ?_, fun h1 => ?_⟩ <;> first | exact ab h1 | ((try rw [h1]); (try simp only [bl] at h1))) | dsimp only)
    all_goals first
      | (exfalso; omega)
      | exact h _ (Sub.hv subEnd)
instance cleanA_ok [o : Hv w0 H w] : Step (Cl P 176 #[str l, .int .i64 l.length] K ⟨w, ds⟩) (l.length ≤ 1000000 ∧ ∀ w', Hv w0 H w' → K (str (cleanS l)) ⟨w', ds⟩) := ⟨fun ⟨hl, h⟩ => clean_ok hl (by rw [List.take_of_length_le (clean_len l)]; exact h)⟩
instance contains_ok {w : World} {l : List UInt8} {c : UInt8} : VT (Cl P 308 #[str l, str [c]]) w (.bool (l.contains c)) := ⟨fun {K ds} h => by
  refine s308 ?_
  unfold D308
  dsimp only
  repeat' (first | refine go ?_ | intro _ | refine ⟨sb, ?_⟩ | refine ⟨sd, ?_⟩ | (refine ⟨fun h1 => ?_, fun h1 => ?_⟩ <;> first | exact ab h1 | ((try rw [h1]); (try simp only [bl] at h1))) | dsimp only)
  rw [idxB_has]
  exact h⟩
end
end
end Go.Proofs.YtfgdalggkknffaaGreatDoor

namespace Go.Proofs.YtfgdalggkknffaaGreatDoor
open Go.Vx Go.Lib
section
open Go.Vx
def fb (b : UInt8) : UInt8 := if decide (65 ≤ b) && decide (b ≤ 90) then b + 32 else if b == 91 || (b == 93 || b == 92) then b + 32 else if b == 126 then 94 else b
instance fold_ok {w : World} {b : UInt8} : VT (Cl P 396 #[byteV b]) w (byteV (fb b)) := ⟨fun {K ds} h => by
  refine s396 ?_
  unfold D396
  dsimp only
  repeat' (first | refine go ?_ | intro _ | refine ⟨sb, ?_⟩ | refine ⟨sd, ?_⟩ | (refine ⟨fun h1 => ?_, fun h1 => ?_⟩ <;> first | exact ab h1 | ((try rw [h1]); (try simp only [bl] at h1))) | dsimp only)
  all_goals
    refine cast (congrArg (fun b => K (byteV b) _) ?_) h
    unfold fb
    grind⟩
end
end Go.Proofs.YtfgdalggkknffaaGreatDoor

namespace Go.Proofs.YtfgdalggkknffaaGreatDoor
open Go.Vx Go.Lib
abbrev foldS (l : List UInt8) : List UInt8 := l.map fb
theorem getD_mem {α : Type} [Inhabited α] {l : List α} {i : Nat} (h : i < l.length) : l.getD i default ∈ l := by simp [h]
section
variable {K : Value → St → Prop} {w0 w : World} {H R : List SL} {ds : List Deferred} {a b l : List UInt8}
theorem idxB_le (l : List UInt8) (c : UInt8) : idxB l c < l.length ∧ -1 ≤ idxB l c := by
  cases h : l.findIdx? (· == c) with
  | none => unfold idxB; rw [h]; dsimp only; omega
  | some i => unfold idxB; rw [h]; have := find_lt h; dsimp only; omega
end
end Go.Proofs.YtfgdalggkknffaaGreatDoor

namespace Go.Proofs.YtfgdalggkknffaaGreatDoor
open Go.Vx Go.Lib
section
open Go.Vx Go.Lib
abbrev PowT (w0 : World) : Prop := Tab P w0 "internal/strconv.uint64pow10" .u64 pow10Tab
section
set_option maxRecDepth 20000
set_option synthInstance.maxSize 100000
set_option synthInstance.maxHeartbeats 4000000
instance itoaL_ok {K : Value → St → Prop} {w0 w : World} {H : List SL} {ds : List Deferred} {n : Int} [o : Hv w0 H w] [tb : PowT w0] :
    Step (Cl P 31 #[.int .i64 n] K ⟨w, ds⟩) (InR n ∧ ∀ w', Hv w0 H w' → K (str (itoa n)) ⟨w', ds⟩) := ⟨fun ⟨hn, h⟩ => by
  refine s31 ?_
  unfold D31
  refine cl_ok ((Tryz.internal_strconv_Itoa n hn.1 hn.2 w (o.tab tb.eq)).mono fun e w' ⟨he, k, os, hw⟩ => ?_)
  subst hw
  refine ⟨_, he, ?_⟩
  refine go ?_
  exact h _ o.grown⟩
variable {K : Value → St → Prop} {w0 w : World} {H : List SL} {ds : List Deferred} {n : Int}
end
end
theorem hv_bytesW {w0 w : World} {H : List SL} {e : TypeId} {s : ByteArray} (o : Hv w0 H w) : Hv w0 H (Lib.bytesWorld w e s) :=
  o.same ⟨rfl, rfl, rfl, by simp [Lib.bytesWorld, World.freeze], fun j hj _ => by
    simp [Lib.bytesWorld, World.freeze, Array.getElem?_modify, Nat.ne_of_gt hj, Array.getElem?_push, Nat.ne_of_lt hj]
    show (w.heap.push _)[j]? = _
    rw [Array.getElem?_push, if_neg (by omega)]⟩
section
set_option maxRecDepth 20000
set_option synthInstance.maxSize 100000
set_option synthInstance.maxHeartbeats 4000000
variable {K : Value → St → Prop} {w0 w : World} {H R : List SL} {ds : List Deferred} {a b l : List UInt8} {x y : Value} {n m : Nat} {xs ys : List Value} {ps qs : List (List UInt8)}
instance texts_ok [o : Hv w0 H w] [rx : RdsF w0 H x 1 n xs] [ex : Maps str xs ps] [ry : RdsF w0 H y 1 m ys] [ey : Maps str ys qs] :
    Step (Cl P 17 #[x, y] K ⟨w, ds⟩) (ps.length ≤ 100000 ∧ ∀ w', Hv w0 H w' → K (.bool (decide (ps = qs))) ⟨w', ds⟩) := ⟨fun ⟨hl, h⟩ => by
  have rlx := rx.loc
  have rly := ry.loc
  have r1 := rx.rd w o
  have r2 := ry.rd w o
  obtain rfl := ex.eq
  obtain rfl := ey.eq
  obtain rfl : n = ps.length := by have := r1.len; simpa using this.symm
  obtain rfl : m = qs.length := by have := r2.len; simpa using this.symm
  clear r1 r2 ex ey
  refine s17 ?_
  unfold D17
  repeat' (first | refine go ?_ | intro _ | refine ⟨sb, ?_⟩ | refine ⟨sd, ?_⟩ | (refine ⟨fun h1 => ?_, fun h1 => ?_⟩ <;> first | exact ab h1 | ((try rw [h1]); (try simp only [bl] at h1))) | dsimp only)
  · have hne : ps ≠ qs := fun e => h1 (by rw [e])
    simpa [hne] using h _ o
  have hn : ps.length = qs.length := by omega
  refine ⟨fun y s => ∃ (i : Nat) (w' : World), y = .int .i64 i ∧ s = ⟨w', []⟩ ∧ i ≤ ps.length ∧ ps.take i = qs.take i ∧ Hv w0 H w',
    fun y s => match y with | .int _ z => ps.length - z.toNat | _ => 0, ⟨0, w, rfl, rfl, Nat.zero_le _, by simp, o⟩, ?_⟩
  rintro y s ⟨i, w1, rfl, rfl, hi, he, o1⟩
  clear o
  repeat' (first | refine go ?_ | intro _ | refine ⟨sb, ?_⟩ | refine ⟨sd, ?_⟩ | (refine ⟨fun h1 => ?_, fun h1 => ?_⟩ <;> first | exact ab h1 | ((try rw [h1]); (try simp only [bl] at h1))) | dsimp only)
  · have hlt : i < ps.length := by omega
    have hne : ps ≠ qs := fun e => by subst e; exact h1 rfl
    simpa [hne] using h _ (Sub.hv subEnd)
  · have hlt : i < ps.length := by omega
    refine ⟨⟨i + 1, _, rfl, rfl, hlt, ?_, Sub.hv subEnd⟩, by simp; omega⟩
    rw [take_snoc hlt, take_snoc (show i < qs.length by omega), he, h1]
  · have : ps = qs := by rw [← List.take_of_length_le (show ps.length ≤ i by omega), he, List.take_of_length_le (by omega)]
    simpa [this] using h _ (Sub.hv subEnd)⟩
theorem all_take {l : List UInt8} {p : UInt8 → Bool} {i : Nat} (h : i < l.length) : (l.take (i + 1)).all p = ((l.take i).all p && p (l.getD i default)) := by
  rw [take_snoc h]; simp [-List.getD_eq_getElem?_getD]
theorem all_at {l : List UInt8} {p : UInt8 → Bool} {i : Nat} (h : i < l.length) (hp : p (l.getD i default) = false) : l.all p = false := by
  cases h2 : l.all p with
  | false => rfl
  | true =>
    have := List.all_eq_true.1 h2 (l.getD i default) (by simp [h])
    rw [hp] at this; cases this
def valS (l : List UInt8) : Nat := l.foldl (fun n b => 10 * n + (b.toNat - 48)) 0
def digC (b : UInt8) : Bool := decide (48 ≤ b) && decide (b ≤ 57)
def numB (l : List UInt8) : Bool := decide (1 ≤ l.length) && decide (l.length ≤ 4) && !decide (l.getD 0 default = 48) && l.all digC
def numS (l : List UInt8) : Nat := if numB l then valS l else 0
theorem valS_lt (l : List UInt8) (h : l.all digC = true) : valS l < 10 ^ l.length := by
  have q : ∀ (l : List UInt8) (acc : Nat), l.all digC = true → l.foldl (fun n b => 10 * n + (b.toNat - 48)) acc < (acc + 1) * 10 ^ l.length := by
    intro l
    induction l with
    | nil => intro acc _; simp
    | cons b l ih =>
      intro acc h
      rw [List.all_cons, Bool.and_eq_true] at h
      have hb : b.toNat - 48 < 10 := by have := h.1; simp [digC, UInt8.le_iff_toNat_le] at this; omega
      refine Nat.lt_of_lt_of_le (ih _ h.2) ?_
      rw [List.length_cons, Nat.pow_succ, Nat.mul_comm (10 ^ _) 10, ← Nat.mul_assoc]
      exact Nat.mul_le_mul_right _ (by show 10 * acc + (b.toNat - 48) + 1 ≤ _; omega)
  simpa [valS] using q l 0 h
theorem atoi_val (l : List UInt8) (h : l.all digC = true) (h0 : l ≠ []) : Lib.atoi l = some (valS l : Int) := by
  have q : ∀ (l : List UInt8) (acc : Nat), l.all digC = true → Lib.decFrom acc l = some (l.foldl (fun n b => 10 * n + (b.toNat - 48)) acc) := by
    intro l
    induction l with
    | nil => intro acc _; rfl
    | cons b l ih =>
      intro acc h
      rw [List.all_cons, Bool.and_eq_true] at h
      have hb : 48 ≤ b.toNat ∧ b.toNat ≤ 57 := by have := h.1; simp [digC, UInt8.le_iff_toNat_le] at this; exact this
      simp only [Lib.decFrom, Lib.digitVal, if_pos hb, List.foldl_cons]
      rw [ih _ h.2, Nat.mul_comm]
  cases l with
  | nil => exact absurd rfl h0
  | cons b l =>
    have hb : 48 ≤ b.toNat ∧ b.toNat ≤ 57 := by rw [List.all_cons, Bool.and_eq_true] at h; have := h.1; simp [digC, UInt8.le_iff_toNat_le] at this; exact this
    have n1 : (b == 45) = false := by rw [beq_eq_false_iff_ne]; intro e; subst e; simp at hb
    have n2 : (b == 43) = false := by rw [beq_eq_false_iff_ne]; intro e; subst e; simp at hb
    simp only [Lib.atoi, n1, n2, Lib.decNat, List.isEmpty_cons, Bool.false_eq_true, if_false, q _ 0 h, Option.map_some, valS]
instance atoi_ok [o : Hv w0 H w] : Step (Cl P 69 #[str l] K ⟨w, ds⟩) (((1 ≤ l.length ∧ l.length ≤ 18) ∧ l.all digC = true) ∧ ∀ w', Hv w0 H w' → K (.tuple #[.int .i64 (valS l), .nilIface]) ⟨w', ds⟩) := ⟨fun ⟨⟨hl, hd⟩, h⟩ => by
  refine cl_ok ((Tryz.strconv_Atoi ⟨l.toArray⟩ (valS l) (by simpa [ByteArray.size] using hl.2) (by simpa using atoi_val l hd (by intro e; subst e; simp at hl)) w).mono fun e w' ⟨he, t, hw⟩ => ?_)
  subst hw
  exact ⟨_, he, h _ (hv_bytesW o)⟩⟩
def digs : List UInt8 := [48, 49, 50, 51, 52, 53, 54, 55, 56, 57]
theorem digs_eq (b : UInt8) : digs.contains b = digC b := by
  have := bytes_all (fun b => digs.contains b == digC b) (by decide +kernel) b
  simpa using this
theorem dig_eq (b : UInt8) : digB b = digC b := by unfold digB digC; first | rfl | grind
end
end Go.Proofs.YtfgdalggkknffaaGreatDoor

namespace Go.Proofs.YtfgdalggkknffaaGreatDoor
open Go.Vx Go.Lib
section
set_option linter.unusedSectionVars false
variable {α : Type} [Inhabited α] {f : α → Int} {l : List α} {y : Int}
abbrev Ris (f : α → Int) (l : List α) : Prop := l.Pairwise fun a b => f a < f b
theorem drop_gen {i : Nat} (h : i < l.length) : l.drop i = l.getD i default :: l.drop (i + 1) := by
  rw [List.drop_eq_getElem_cons h]; congr 1; simp [h]
end
section
set_option maxRecDepth 20000
set_option synthInstance.maxSize 100000
set_option synthInstance.maxHeartbeats 4000000
variable {K : Value → St → Prop} {w0 w : World} {H R : List SL} {ds : List Deferred} {p : Nat} {l : List Int} {a b y : Int}
abbrev nid : Int → Int := fun x => x
instance isNaN_ok [o : Hv w0 H w] : Step (Cl P 309 #[.int .i64 a] K ⟨w, ds⟩) (∀ w', Hv w0 H w' → K (.bool false) ⟨w', ds⟩) := ⟨fun h => by
  refine s309 ?_
  unfold D309
  repeat' (first | refine go ?_ | intro _ | refine ⟨sb, ?_⟩ | refine ⟨sd, ?_⟩ | (refine ⟨fun h1 => ?_, fun h1 => ?_⟩ <;> first | exact ab h1 | ((try rw [h1]); (try simp only [bl] at h1))) | dsimp only)
  simpa using h _ o⟩
def cmpI (a b : Int) : Int := if a < b then -1 else if b < a then 1 else 0
instance cmpI_ok [o : Hv w0 H w] : Step (Cl P 237 #[.int .i64 a, .int .i64 b] K ⟨w, ds⟩) (∀ w', Hv w0 H w' → K (.int .i64 (cmpI a b)) ⟨w', ds⟩) := ⟨fun h => by
  refine s237 ?_
  unfold D237
  repeat' (first | refine go ?_ | intro _ | refine ⟨sb, ?_⟩ | refine ⟨sd, ?_⟩ | (refine ⟨fun h1 => ?_, fun h1 => ?_⟩ <;> first | exact ab h1 | ((try rw [h1]); (try simp only [bl] at h1))) | dsimp only)
  all_goals exact cast (congrArg (fun z => K (.int .i64 z) _) (by unfold cmpI; grind)) (h _ (Sub.hv subEnd))⟩
def setA (p : Nat) (l : List Int) (v : Value) : SL := many [lift (Ris nid l), box p 358 [v], row 3 1 v l.length (l.map intV)]
def setR (p : Nat) (l : List Int) : SL := any (setA p l)
theorem set_open (h : Hv w0 (setR p l :: R) w) : ∃ v, Ris nid l ∧ Hv w0 (box p 358 [v] :: row 3 1 v l.length (l.map intV) :: R) w := by
  obtain ⟨v, h1⟩ := h.pick
  have h2 := h1.opens
  exact ⟨v, h2.lifted, h2.tail⟩
theorem subSet {H' R1 R2 G : List SL} {v : Value} {n : Nat} {xs : List Value} [b : BoxIn H' p 358 [v] R1] [r : RowIn R1 v 3 1 n xs R2]
    (h1 : Ris nid l) (e1 : n = l.length) (e2 : xs = l.map intV) (k : Sub R2 G) : Sub H' (setR p l :: G) :=
  Sub.any (A := setA p l) v (Sub.many (Sub.lift h1 (subBox rfl (subRow e1 e2 k))))
variable {v : Value} {n : Nat} {xs : List Value}
end
end Go.Proofs.YtfgdalggkknffaaGreatDoor

namespace Go.Proofs.YtfgdalggkknffaaGreatDoor
open Go.Vx Go.Lib
abbrev ltS : List UInt8 → List UInt8 → Bool := Op.bytesLess
section
set_option linter.unusedSectionVars false
variable {α : Type} [Inhabited α] {f : α → List UInt8} {l : List α} {y : List UInt8}
def rankT (f : α → List UInt8) (l : List α) (y : List UInt8) : Nat := (l.filter fun a => ltS (f a) y).length
def hasT (f : α → List UInt8) (l : List α) (y : List UInt8) : Bool := l.any fun a => decide (f a = y)
def insT (f : α → List UInt8) (l : List α) (x : α) : List α := (l.filter fun a => ltS (f a) (f x)) ++ x :: l.filter fun a => !ltS (f a) (f x)
def delT (f : α → List UInt8) (l : List α) (y : List UInt8) : List α := l.filter fun a => !decide (f a = y)
abbrev RisT (f : α → List UInt8) (l : List α) : Prop := l.Pairwise fun a b => ltS (f a) (f b) = true
theorem delT_len (f : α → List UInt8) (l : List α) (y : List UInt8) : (delT f l y).length ≤ l.length := List.length_filter_le ..
theorem insT_len (f : α → List UInt8) (l : List α) (x : α) : (insT f l x).length = l.length + 1 := by
  have : (l.filter fun a => ltS (f a) (f x)).length + (l.filter fun a => !ltS (f a) (f x)).length = l.length := by
    induction l with
    | nil => rfl
    | cons a l ih => simp only [List.filter_cons]; cases ltS (f a) (f x) <;> simp <;> omega
  simp only [insT, List.length_append, List.length_cons]; omega
end
section
set_option maxRecDepth 20000
set_option synthInstance.maxSize 100000
set_option synthInstance.maxHeartbeats 4000000
variable {K : Value → St → Prop} {w0 w : World} {H R : List SL} {ds : List Deferred} {p : Nat} {l : List (List UInt8)} {a b y : List UInt8} {t : TypeId} {cx cy : Bool}
abbrev sid : List UInt8 → List UInt8 := fun x => x
def setTA (p : Nat) (l : List (List UInt8)) (v : Value) : SL := many [lift (RisT sid l), box p 510 [v], row 9 1 v l.length (l.map str)]
def setT (p : Nat) (l : List (List UInt8)) : SL := any (setTA p l)
end
end Go.Proofs.YtfgdalggkknffaaGreatDoor

namespace Go.Proofs.YtfgdalggkknffaaGreatDoor
open Go.Vx Go.Lib
def ofM (m : Nat) (x : (Int → Option (List (List UInt8))) × Nat) : SL := mapO m intV setT x.1 x.2
def byM (m : Nat) (x : (List UInt8 → Option (List Int)) × Nat) : SL := mapO m (fun l => str l) setR x.1 x.2
structure Rl where
  (most n : Int)
  of : Int → Option (List (List UInt8))
  by_ : List UInt8 → Option (List Int)
def Rl.ofS (x : Rl) (a : Int) : List (List UInt8) := (x.of a).getD []
def Rl.byS (x : Rl) (b : List UInt8) : List Int := (x.by_ b).getD []
structure Rl.fit (x : Rl) : Prop where
  n : -1000000000 ≤ x.n ∧ x.n ≤ 1000000000
  of : ∀ a, (x.ofS a).length ≤ 100000000
  by_ : ∀ b, (x.byS b).length ≤ 100000000
section
set_option maxRecDepth 20000
set_option synthInstance.maxSize 100000
set_option synthInstance.maxHeartbeats 4000000
def relA (p : Nat) (x : Rl) (q : (Nat × Nat) × Nat × Nat) : SL := many [box p 226 [.int .i64 x.most, .int .i64 x.n, .map (some q.1.1), .map (some q.1.2)], ofM q.1.1 (x.of, q.2.1), byM q.1.2 (x.by_, q.2.2)]
def relR (p : Nat) (x : Rl) : SL := any (relA p x)
variable {K : Value → St → Prop} {w0 w : World} {H R : List SL} {ds : List Deferred} {p m : Nat} {a : Int} {b y : List UInt8}
theorem rel_open {x : Rl} (h : Hv w0 (relR p x :: R) w) : ∃ m1 m2 n1 n2, Hv w0 (box p 226 [.int .i64 x.most, .int .i64 x.n, .map (some m1), .map (some m2)] :: ofM m1 (x.of, n1) :: byM m2 (x.by_, n2) :: R) w := by
  obtain ⟨⟨⟨m1, m2⟩, n1, n2⟩, h1⟩ := h.pick
  exact ⟨m1, m2, n1, n2, h1.opens⟩
theorem subRel {H' R1 R2 R3 G : List SL} {x : Rl} {u v : Int} {m1 m2 n1 n2 : Nat} {f1 : Int → Option (List (List UInt8))} {f2 : List UInt8 → Option (List Int)} [i : BoxIn H' p 226 [.int .i64 u, .int .i64 v, .map (some m1), .map (some m2)] R1]
    [j : InK ofM m1 R1 (f1, n1) R2] [k : InK byM m2 R2 (f2, n2) R3] (e1 : u = x.most) (e2 : v = x.n) (e3 : f1 = x.of) (e4 : f2 = x.by_) (g : Sub R3 G) : Sub H' (relR p x :: G) := by
  subst e1 e2 e3 e4
  exact Sub.any (A := relA p x) ((m1, m2), n1, n2) (Sub.many (subBox rfl (subK rfl (subK rfl g))))
end
end Go.Proofs.YtfgdalggkknffaaGreatDoor

namespace Go.Proofs.YtfgdalggkknffaaGreatDoor
open Go.Vx Go.Lib
section
set_option maxRecDepth 20000
set_option synthInstance.maxSize 100000
set_option synthInstance.maxHeartbeats 4000000
variable {K : Value → St → Prop} {w0 w : World} {H R : List SL} {ds : List Deferred} {p m n : Nat} {a : Int} {b y : List UInt8} {v : Value} {xs : List Value}
instance valI_ok [o : Hv w0 H w] [one : One w v] : Step (Cl P 426 #[v] K ⟨w, ds⟩) (∀ b w', Hv w0 (box b 133 [v] :: H) w' → K (.func (.func 492) #[] #[.pointer (some ⟨b, 0, none⟩)]) ⟨w', ds⟩) := ⟨fun h => by
  refine s426 ?_
  unfold D426
  repeat' (first | refine go ?_ | intro _ | refine ⟨sb, ?_⟩ | refine ⟨sd, ?_⟩ | (refine ⟨fun h1 => ?_, fun h1 => ?_⟩ <;> first | exact ab h1 | ((try rw [h1]); (try simp only [bl] at h1))) | dsimp only)
  exact h _ _ (Sub.hv (subBox rfl subEnd))⟩
theorem valI_seq {Tl : List SL} {ss : List Int} [r : RdsL w0 Tl v 1 ss.length (ss.map intV)] [one : ∀ w, One w v] (b : Nat) :
    SeqOf P w0 (.func (.func 492) #[] #[.pointer (some ⟨b, 0, none⟩)]) (box b 133 [v] :: Tl) (fun l => [intV l]) ss := by
  intro y J X w ds K o hy hk hx
  have yy : Yld P w0 y J X (fun l => [intV l]) ss := ⟨hy⟩
  refine go ?_
  refine s492 ?_
  unfold D492
  have hb := (show Rds w v 1 ss.length (ss.map intV) from inferInstance).le
  simp only [maxLen] at hb
  repeat ((fail_if_success (refine l1_ind (fun _ _ => True) ?_ ?_)); (first | refine go ?_ | intro _ | refine ⟨sb, ?_⟩ | refine ⟨sd, ?_⟩ | dsimp only))
  refine ⟨fun z s => ∃ (i : Nat) (w' : World), z = .int .i64 i ∧ s = ⟨w', []⟩ ∧ i ≤ ss.length ∧ Hv w0 (J i :: box b 133 [v] :: Tl) w',
    fun z s => match z with | .int _ z => ss.length - z.toNat | _ => 0, ⟨0, _, rfl, rfl, Nat.zero_le _, o⟩, ?_⟩
  rintro z s ⟨i, w2, rfl, rfl, hi, o2⟩
  clear o
  rcases Nat.lt_or_ge i ss.length with hlt | hge
  · have e3 : ss[i]? = some (ss.getD i default) := getD_at hlt
    repeat' (first | refine go ?_ | intro _ | refine ⟨sb, ?_⟩ | refine ⟨sd, ?_⟩ | (refine ⟨fun h1 => ?_, fun h1 => ?_⟩ <;> first | exact ab h1 | ((try rw [h1]); (try simp only [bl] at h1))) | dsimp only)
    · refine ⟨_, e3, rfl, fun w' o5 => ?_, fun w' o5 => ?_⟩
      · repeat' (first | refine go ?_ | intro _ | refine ⟨sb, ?_⟩ | refine ⟨sd, ?_⟩ | (refine ⟨fun h1 => ?_, fun h1 => ?_⟩ <;> first | exact ab h1 | ((try rw [h1]); (try simp only [bl] at h1))) | dsimp only)
        exact ⟨⟨i + 1, _, rfl, rfl, hlt, o5⟩, by simp; omega⟩
      · repeat' (first | refine go ?_ | intro _ | refine ⟨sb, ?_⟩ | refine ⟨sd, ?_⟩ | (refine ⟨fun h1 => ?_, fun h1 => ?_⟩ <;> first | exact ab h1 | ((try rw [h1]); (try simp only [bl] at h1))) | dsimp only)
        exact hx _ _ _ _ e3 o5
    · exfalso; omega
  · obtain rfl : i = ss.length := by omega
    repeat' (first | refine go ?_ | intro _ | refine ⟨sb, ?_⟩ | refine ⟨sd, ?_⟩ | (refine ⟨fun h1 => ?_, fun h1 => ?_⟩ <;> first | exact ab h1 | ((try rw [h1]); (try simp only [bl] at h1))) | dsimp only)
    · exfalso; omega
    · exact hk _ _ o2
instance sall_ok {l : List Int} [o : Hv w0 H w] [i : InK setR p H l R] : Step (Cl P 329 #[.pointer (some ⟨p, 0, none⟩)] K ⟨w, ds⟩) (l.length ≤ 100000000 ∧ ∀ b v w', Hv w0 (box b 133 [v] :: row 3 1 v l.length (l.map intV) :: setR p l :: R) w' → K (.func (.func 492) #[] #[.pointer (some ⟨b, 0, none⟩)]) ⟨w', ds⟩) := ⟨fun ⟨hl, h⟩ => by
  obtain ⟨v, hs, o1⟩ := set_open (i.hv o)
  clear o
  refine s329 ?_
  unfold D329
  refine s287 ?_
  unfold D287
  repeat' (first | refine go ?_ | intro _ | refine ⟨sb, ?_⟩ | refine ⟨sd, ?_⟩ | (refine ⟨fun h1 => ?_, fun h1 => ?_⟩ <;> first | exact ab h1 | ((try rw [h1]); (try simp only [bl] at h1))) | dsimp only)
  exact h _ _ _ (Sub.hv (subBox rfl (subRow rfl rfl (subSet hs rfl rfl subEnd))))⟩
instance sallN_ok [o : Hv w0 H w] : Step (Cl P 329 #[.pointer none] K ⟨w, ds⟩) (∀ b w', Hv w0 (box b 133 [.slice none 0 0] :: H) w' → K (.func (.func 492) #[] #[.pointer (some ⟨b, 0, none⟩)]) ⟨w', ds⟩) := ⟨fun h => by
  refine s329 ?_
  unfold D329
  refine s287 ?_
  unfold D287
  repeat' (first | refine go ?_ | intro _ | refine ⟨sb, ?_⟩ | refine ⟨sd, ?_⟩ | (refine ⟨fun h1 => ?_, fun h1 => ?_⟩ <;> first | exact ab h1 | ((try rw [h1]); (try simp only [bl] at h1))) | dsimp only)
  all_goals first
    | exact h _ _ (Sub.hv (subBox rfl subEnd))
    | (exfalso; simp at *; done)⟩
def Rl.new (most : Int) : Rl := ⟨most, 0, fun _ => none, fun _ => none⟩
instance relNew_ok {k : Int} [o : Hv w0 H w] : Step (Cl P 108 #[.int .i64 k] K ⟨w, ds⟩) ((0 ≤ k ∧ k ≤ 100000) ∧ ∀ p w', Hv w0 (relR p (.new k) :: H) w' → K (.tuple #[.pointer (some ⟨p, 0, none⟩), .int .i64 0]) ⟨w', ds⟩) := ⟨fun ⟨hk, h⟩ => by
  refine s108 ?_
  unfold D108
  repeat' (first | refine go ?_ | intro _ | refine ⟨sb, ?_⟩ | refine ⟨sd, ?_⟩ | (refine ⟨fun h1 => ?_, fun h1 => ?_⟩ <;> first | exact ab h1 | ((try rw [h1]); (try simp only [bl] at h1))) | dsimp only)
  · exfalso; omega
  rename_i m1 w1 o1 m2 w2 o2 q w3 o3
  have o4 : Hv w0 (mpn m1 intV (fun _ => none) 0 :: mpn m2 (fun l => str l) (fun _ => none) 0 :: box q 226 [.int .i64 k, .int .i64 0, .map (some m1), .map (some m2)] :: H) w3 := Sub.hv (o := o3) (subMpn rfl rfl (subMpn rfl rfl (subBox rfl subEnd)))
  have o5 : Hv w0 (ofM m1 (fun _ => none, 0) :: mpn m2 (fun l => str l) (fun _ => none) 0 :: box q 226 [.int .i64 k, .int .i64 0, .map (some m1), .map (some m2)] :: H) w3 := Hv.mapNew o4
  have o6 : Hv w0 (byM m2 (fun _ => none, 0) :: ofM m1 (fun _ => none, 0) :: box q 226 [.int .i64 k, .int .i64 0, .map (some m1), .map (some m2)] :: H) w3 := Hv.mapNew (Hv.pm (List.Perm.swap ..) o5)
  exact h _ _ (Sub.hv (o := o6) (subRel rfl rfl rfl rfl subEnd))⟩
theorem rel_fin2 {x : Rl} {m1 m2 n1 n2 : Nat} {w' : World} (o : Hv w0 (mapO m2 (fun l => str l) setR x.by_ n2 :: ofM m1 (x.of, n1) :: box p 226 [.int .i64 x.most, .int .i64 x.n, .map (some m1), .map (some m2)] :: R) w') : Hv w0 (relR p x :: R) w' := by
  have o' : Hv w0 (byM m2 (x.by_, n2) :: ofM m1 (x.of, n1) :: box p 226 [.int .i64 x.most, .int .i64 x.n, .map (some m1), .map (some m2)] :: R) w' := o
  exact Sub.hv (o := o') (subRel rfl rfl rfl rfl subEnd)
instance relBy_ok {x : Rl} [o : Hv w0 H w] [i : InK relR p H x R] : Step (Cl P 401 #[.pointer (some ⟨p, 0, none⟩), str b] K ⟨w, ds⟩) (x.fit ∧ ∀ q v w', Hv w0 (box q 133 [v] :: row 3 1 v (x.byS b).length ((x.byS b).map intV) :: relR p x :: R) w' → K (.func (.func 492) #[] #[.pointer (some ⟨q, 0, none⟩)]) ⟨w', ds⟩) := ⟨fun ⟨hf, h⟩ => by
  obtain ⟨m1, m2, n1, n2, o1⟩ := rel_open (i.hv o)
  clear o
  have f1 := hf.by_ b
  unfold Rl.byS at *
  have o2 : Hv w0 (mapO m2 (fun l => str l) setR x.by_ n2 :: ofM m1 (x.of, n1) :: box p 226 [.int .i64 x.most, .int .i64 x.n, .map (some m1), .map (some m2)] :: R) w := Hv.pm (List.Perm.swap ..) (Hv.pm rot3 o1)
  clear o1
  cases hx : x.by_ b with
  | none =>
    rw [hx] at h f1
    obtain ⟨g, M, an, o3, c1, c2⟩ := o2.mapNo hx
    clear o2 c2
    refine s401 ?_
    unfold D401
    repeat' (first | refine go ?_ | intro _ | refine ⟨sb, ?_⟩ | refine ⟨sd, ?_⟩ | (refine ⟨fun h1 => ?_, fun h1 => ?_⟩ <;> first | exact ab h1 | ((try rw [h1]); (try simp only [bl] at h1))) | dsimp only)
    rename_i q wq oq
    have o4 : Hv w0 (relR p x :: box q 133 [.slice none 0 0] :: R) wq := rel_fin2 (m1 := m1) (n1 := n1) (c1.shut (A := [_, _]) (subMpn rfl rfl (subT (subK rfl (subBox rfl (subBox rfl subEnd))))))
    exact h _ _ _ (Sub.hv (o := Hv.nilRow 3 1 o4) (subBox rfl (subRow rfl rfl (subK rfl subEnd))))
  | some s =>
    rw [hx] at h f1
    have f1' : s.length ≤ 100000000 := f1
    obtain ⟨q, g, M, as', o3, c1, c2, c3⟩ := o2.mapAt hx
    clear o2 c2 c3
    refine s401 ?_
    unfold D401
    repeat' (first | refine go ?_ | intro _ | refine ⟨sb, ?_⟩ | refine ⟨sd, ?_⟩ | (refine ⟨fun h1 => ?_, fun h1 => ?_⟩ <;> first | exact ab h1 | ((try rw [h1]); (try simp only [bl] at h1))) | dsimp only)
    rename_i z v wq oq
    have o4 : Hv w0 (relR p x :: box z 133 [v] :: row 3 1 v s.length (s.map intV) :: R) wq := rel_fin2 (m1 := m1) (n1 := n1) (c1.shut (A := [_, _, _]) (subMpn rfl rfl (subK rfl (subT (subK rfl (subBox rfl (subBox rfl (subRow rfl rfl subEnd))))))))
    exact h _ _ _ (Sub.hv (o := o4) (subBox rfl (subRow rfl rfl (subK rfl subEnd))))⟩
end
end Go.Proofs.YtfgdalggkknffaaGreatDoor

namespace Go.Proofs.YtfgdalggkknffaaGreatDoor
open Go.Vx Go.Lib
section
set_option maxRecDepth 20000
set_option synthInstance.maxSize 100000
set_option synthInstance.maxHeartbeats 4000000
variable {K : Value → St → Prop} {w0 w : World} {H R : List SL} {ds : List Deferred} {p m n : Nat} {a : Int} {b l : List UInt8} {v : Value} {xs : List Value}
instance ftext_ok [o : Hv w0 H w] : Step (Cl P 292 #[str l] K ⟨w, ds⟩) (l.length ≤ 1000000 ∧ ∀ w', Hv w0 H w' → K (str (foldS l)) ⟨w', ds⟩) := ⟨fun ⟨hl, h⟩ => by
  refine s292 ?_
  unfold D292
  repeat (first | refine go ?_ | intro _ | refine ⟨sb, ?_⟩ | refine ⟨sd, ?_⟩ | dsimp only)
  rename_i v w1 o1
  refine ⟨fun x y s => ∃ (i : Nat) (v : Value) (w' : World), x = v ∧ y = .int .i64 i ∧ s = ⟨w', []⟩ ∧ i ≤ l.length ∧ Hv w0 (row 5 1 v i ((foldS (l.take i)).map byteV) :: H) w',
    fun _ y s => match y with | .int _ z => l.length - z.toNat | _ => 0, ⟨0, _, _, rfl, rfl, rfl, Nat.zero_le _, o1⟩, ?_⟩
  rintro x y s ⟨i, v, w2, rfl, rfl, rfl, hi, o2⟩
  clear o1 o
  rcases Nat.lt_or_ge i l.length with hlt | hge
  · have hs : foldS (l.take (i + 1)) = foldS (l.take i) ++ [fb (l.getD i default)] := by rw [take_snoc hlt, foldS, List.map_append]; rfl
    repeat' (first | refine go ?_ | intro _ | refine ⟨sb, ?_⟩ | refine ⟨sd, ?_⟩ | (refine ⟨fun h1 => ?_, fun h1 => ?_⟩ <;> first | exact ab h1 | ((try rw [h1]); (try simp only [bl] at h1))) | dsimp only)
    · exact ⟨⟨i + 1, _, _, rfl, rfl, rfl, hlt, Sub.hv (subRow rfl (by rw [hs, List.map_append]; rfl) subEnd)⟩, by simp; omega⟩
    · exfalso; omega
  · repeat' (first | refine go ?_ | intro _ | refine ⟨sb, ?_⟩ | refine ⟨sd, ?_⟩ | (refine ⟨fun h1 => ?_, fun h1 => ?_⟩ <;> first | exact ab h1 | ((try rw [h1]); (try simp only [bl] at h1))) | dsimp only)
    · exfalso; omega
    · rw [List.take_of_length_le hge]; exact h _ (Sub.hv subEnd)⟩
structure Ws where
  rel : Rl
  sp : Int × List UInt8 → Option (List UInt8)
def wishA (p : Nat) (x : Ws) (q : Nat × Nat × Nat) : SL := many [box p 177 [ptrV q.1, .map (some q.2.1)], relR q.1 x.rel, mpn q.2.1 isV (fun k => (x.sp k).map str) q.2.2]
def wishR (p : Nat) (x : Ws) : SL := any (wishA p x)
theorem wish_open {x : Ws} (h : Hv w0 (wishR p x :: R) w) : ∃ r m n, Hv w0 (box p 177 [ptrV r, .map (some m)] :: relR r x.rel :: mpn m isV (fun k => (x.sp k).map str) n :: R) w := by
  obtain ⟨⟨r, m, n⟩, h1⟩ := h.pick
  exact ⟨r, m, n, h1.opens⟩
theorem subWish {H' R1 R2 R3 G : List SL} {x : Ws} {r m n : Nat} {y : Rl} {g : Int × List UInt8 → Option Value} [i : BoxIn H' p 177 [ptrV r, .map (some m)] R1] [j : InK relR r R1 y R2] [k : MpnIn R2 m isV g n R3]
    (e1 : y = x.rel) (e2 : g = fun k => (x.sp k).map str) (s : Sub R3 G) : Sub H' (wishR p x :: G) := by
  subst e1 e2
  exact Sub.any (A := wishA p x) (r, m, n) (Sub.many (subBox rfl (subK rfl (subMpn rfl rfl s))))
def Ws.new (most : Int) : Ws := ⟨.new (max 0 (min most 100000)), fun _ => none⟩
instance wishNew_ok {k : Int} [o : Hv w0 H w] : Step (Cl P 81 #[.int .i64 k] K ⟨w, ds⟩) (∀ p w', Hv w0 (wishR p (.new k) :: H) w' → K (.pointer (some ⟨p, 0, none⟩)) ⟨w', ds⟩) := ⟨fun h => by
  have e1 : 0 ≤ max 0 (min k 100000) ∧ max 0 (min k 100000) ≤ 100000 := by omega
  refine s81 ?_
  unfold D81
  repeat' (first | refine go ?_ | intro _ | refine ⟨sb, ?_⟩ | refine ⟨sd, ?_⟩ | (refine ⟨fun h1 => ?_, fun h1 => ?_⟩ <;> first | exact ab h1 | ((try rw [h1]); (try simp only [bl] at h1))) | dsimp only)
  exact h _ _ (Sub.hv (subWish rfl rfl subEnd))⟩
instance wishBy_ok {x : Ws} {name : List UInt8} [o : Hv w0 H w] [i : InK wishR p H x R] : Step (Cl P 300 #[.pointer (some ⟨p, 0, none⟩), str name] K ⟨w, ds⟩)
    ((x.rel.fit ∧ name.length ≤ 1000000) ∧ ∀ q v w', Hv w0 (box q 133 [v] :: row 3 1 v (x.rel.byS (foldS name)).length ((x.rel.byS (foldS name)).map intV) :: wishR p x :: R) w' → K (.func (.func 492) #[] #[.pointer (some ⟨q, 0, none⟩)]) ⟨w', ds⟩) := ⟨fun ⟨⟨hf, hn⟩, h⟩ => by
  obtain ⟨r, m, n, o1⟩ := wish_open (i.hv o)
  clear o
  refine s300 ?_
  unfold D300
  repeat' (first | refine go ?_ | intro _ | refine ⟨sb, ?_⟩ | refine ⟨sd, ?_⟩ | (refine ⟨fun h1 => ?_, fun h1 => ?_⟩ <;> first | exact ab h1 | ((try rw [h1]); (try simp only [bl] at h1))) | dsimp only)
  exact h _ _ _ (Sub.hv (subBox rfl (subRow rfl rfl (subWish rfl rfl subEnd))))⟩
end
end Go.Proofs.YtfgdalggkknffaaGreatDoor

namespace Go.Proofs.YtfgdalggkknffaaGreatDoor
open Go.Vx Go.Lib
abbrev Ent := List UInt8 × Int
abbrev encE (x : Ent) : List Value := [str x.1, .int .i64 x.2]
abbrev bkey (x : Ent) : List UInt8 := foldS x.1
structure Bk where
  most : Int
  l : List Ent
structure Bk.ok (x : Bk) : Prop where
  ris : RisT bkey x.l
  nm : ∀ e ∈ x.l, e.1.length ≤ 1000000
def Bk.has (x : Bk) (n : List UInt8) : Bool := hasT bkey x.l (foldS n)
def Bk.rank (x : Bk) (n : List UInt8) : Nat := rankT bkey x.l (foldS n)
def Bk.get (x : Bk) (n : List UInt8) : Int := if x.has n then (x.l.getD (x.rank n) default).2 else 0
def Bk.put (x : Bk) (n : List UInt8) (v : Int) : Bk × Int := if x.has n then ({ x with l := x.l.set (x.rank n) (n, v) }, 0) else if x.most ≤ x.l.length then (x, 7) else ({ x with l := insT bkey x.l (n, v) }, 0)
def Bk.del (x : Bk) (n : List UInt8) : Bk := { x with l := delT bkey x.l (foldS n) }
section
set_option maxRecDepth 20000
set_option synthInstance.maxSize 100000
set_option synthInstance.maxHeartbeats 4000000
def bookA (p : Nat) (x : Bk) (v : Value) : SL := many [lift x.ok, box p 162 [.int .i64 x.most, v], row 329 2 v x.l.length (x.l.flatMap encE)]
def bookR (p : Nat) (x : Bk) : SL := any (bookA p x)
variable {K : Value → St → Prop} {w0 w : World} {H R : List SL} {ds : List Deferred} {p n : Nat} {v : Value} {x : Bk} {y nm : List UInt8} {z : Int}
theorem subBook {H' R1 R2 G : List SL} {u : Int} {v : Value} {n : Nat} {xs : List Value} [b : BoxIn H' p 162 [.int .i64 u, v] R1] [r : RowIn R1 v 329 2 n xs R2]
    (h1 : x.ok) (e0 : u = x.most) (e1 : n = x.l.length) (e2 : xs = x.l.flatMap encE) (k : Sub R2 G) : Sub H' (bookR p x :: G) := by
  subst e0
  exact Sub.any (A := bookA p x) v (Sub.many (Sub.lift h1 (subBox rfl (subRow e1 e2 k))))
instance bookNew_ok [o : Hv w0 H w] : Step (Cl P 78 #[.int .i64 z] K ⟨w, ds⟩) ((0 ≤ z ∧ z ≤ 100000) ∧ ∀ p w', Hv w0 (bookR p ⟨z, []⟩ :: H) w' → K (.tuple #[.pointer (some ⟨p, 0, none⟩), .int .i64 0]) ⟨w', ds⟩) := ⟨fun ⟨hz, h⟩ => by
  refine s78 ?_
  unfold D78
  repeat' (first | refine go ?_ | intro _ | refine ⟨sb, ?_⟩ | refine ⟨sd, ?_⟩ | (refine ⟨fun h1 => ?_, fun h1 => ?_⟩ <;> first | exact ab h1 | ((try rw [h1]); (try simp only [bl] at h1))) | dsimp only)
  · exfalso; omega
  rename_i q w3 o3
  exact h _ _ (Sub.hv (o := Hv.nilRow 329 2 o3) (subBook (x := ⟨z, []⟩) ⟨List.Pairwise.nil, by simp⟩ rfl rfl rfl subEnd))⟩
end
end Go.Proofs.YtfgdalggkknffaaGreatDoor

namespace Go.Proofs.YtfgdalggkknffaaGreatDoor
open Go.Vx Go.Lib
def txtB (l : List UInt8) : Bool := allK 64 l
structure Qu where
  (most torn sent : Int)
  b : List UInt8
  over : Bool
def Qu.new (most : Int) : Qu := ⟨most, 0, 0, [], false⟩
def Qu.push (x : Qu) (l : List UInt8) : Qu × Bool :=
  if x.over = true ∨ 510 < l.length ∨ txtB l = false then (x, false) else if x.most < x.b.length + l.length + 2 then ({ x with over := true }, false) else ({ x with b := x.b ++ l ++ [13, 10] }, true)
def tornW : List UInt8 → Nat → Int
  | [], _ => 0
  | c :: t, n => if n = 0 then 0 else if c = 10 then tornW t (n - 1) else if n = 1 then idxB t 10 + 1 else tornW t (n - 1)
def tornS (b : List UInt8) (was n : Int) : Int := if n ≤ was then was - n else tornW (b.drop was.toNat) (n - was).toNat
def Qu.many (x : Qu) (n : Int) : Nat := (max 0 (min n x.b.length)).toNat
def Qu.drain (x : Qu) (n : Int) : Qu := { x with torn := tornS x.b x.torn (x.many n), sent := x.sent + x.many n, b := x.b.drop (x.many n) }
structure Qu.ok (x : Qu) : Prop where
  b : x.b.length ≤ 1000000
  t : 0 ≤ x.torn ∧ x.torn ≤ 1000000
  s : 0 ≤ x.sent ∧ x.sent ≤ 1000000000000
section
set_option maxRecDepth 20000
set_option synthInstance.maxSize 100000
set_option synthInstance.maxHeartbeats 4000000
def queueA (p : Nat) (x : Qu) (v : Value) : SL := many [box p 234 [.int .i64 x.most, v, .int .i64 x.torn, .int .i64 x.sent, .bool x.over], row 5 1 v x.b.length (x.b.map byteV)]
def queueR (p : Nat) (x : Qu) : SL := any (queueA p x)
variable {K : Value → St → Prop} {w0 w : World} {H R : List SL} {ds : List Deferred} {p n : Nat} {v : Value} {x : Qu} {l : List UInt8} {z : Int}
theorem queue_open (h : Hv w0 (queueR p x :: R) w) : ∃ v, Hv w0 (box p 234 [.int .i64 x.most, v, .int .i64 x.torn, .int .i64 x.sent, .bool x.over] :: row 5 1 v x.b.length (x.b.map byteV) :: R) w := by
  obtain ⟨v, h1⟩ := h.pick
  exact ⟨v, h1.opens⟩
theorem subQueue {H' R1 R2 G : List SL} {a b c : Int} {v : Value} {d : Bool} {n : Nat} {xs : List Value} [i : BoxIn H' p 234 [.int .i64 a, v, .int .i64 b, .int .i64 c, .bool d] R1] [r : RowIn R1 v 5 1 n xs R2]
    (e0 : a = x.most ∧ b = x.torn ∧ c = x.sent ∧ d = x.over) (e1 : n = x.b.length) (e2 : xs = x.b.map byteV) (k : Sub R2 G) : Sub H' (queueR p x :: G) := by
  obtain ⟨rfl, rfl, rfl, rfl⟩ := e0
  exact Sub.any (A := queueA p x) v (Sub.many (subBox rfl (subRow e1 e2 k)))
instance vtext_ok [o : Hv w0 H w] : Step (Cl P 196 #[str l] K ⟨w, ds⟩) (l.length ≤ 1000000000 ∧ ∀ w', Hv w0 H w' → K (.bool (txtB l)) ⟨w', ds⟩) := ⟨fun ⟨hl, h⟩ => by
  refine s196 ?_
  unfold D196
  repeat' (first | refine go ?_ | intro _ | refine ⟨sb, ?_⟩ | refine ⟨sd, ?_⟩ | (refine ⟨fun h1 => ?_, fun h1 => ?_⟩ <;> first | exact ab h1 | ((try rw [h1]); (try simp only [bl] at h1))) | dsimp only)
  refine cast (congrArg (fun b => K (.bool b) _) ?_) (h _ (Sub.hv subEnd))
  unfold txtB; simp⟩
instance qnew_ok [o : Hv w0 H w] : Step (Cl P 112 #[.int .i64 z] K ⟨w, ds⟩) ((512 ≤ z ∧ z ≤ 65536) ∧ ∀ p w', Hv w0 (queueR p (.new z) :: H) w' → K (.tuple #[.pointer (some ⟨p, 0, none⟩), .int .i64 0]) ⟨w', ds⟩) := ⟨fun ⟨hz, h⟩ => by
  refine s112 ?_
  unfold D112
  repeat' (first | refine go ?_ | intro _ | refine ⟨sb, ?_⟩ | refine ⟨sd, ?_⟩ | (refine ⟨fun h1 => ?_, fun h1 => ?_⟩ <;> first | exact ab h1 | ((try rw [h1]); (try simp only [bl] at h1))) | dsimp only)
  · exfalso; omega
  rename_i q w3 o3
  exact h _ _ (Sub.hv (o := Hv.nilRow 5 1 o3) (subQueue ⟨rfl, rfl, rfl, rfl⟩ rfl rfl subEnd))⟩
instance qover_ok [o : Hv w0 H w] [i : InK queueR p H x R] : Step (Cl P 124 #[.pointer (some ⟨p, 0, none⟩)] K ⟨w, ds⟩) (∀ w', Hv w0 (queueR p x :: R) w' → K (.bool x.over) ⟨w', ds⟩) := ⟨fun h => by
  obtain ⟨v, o1⟩ := queue_open (i.hv o)
  clear o
  refine s124 ?_
  unfold D124
  repeat' (first | refine go ?_ | intro _ | refine ⟨sb, ?_⟩ | refine ⟨sd, ?_⟩ | (refine ⟨fun h1 => ?_, fun h1 => ?_⟩ <;> first | exact ab h1 | ((try rw [h1]); (try simp only [bl] at h1))) | dsimp only)
  exact h _ (Sub.hv (subQueue ⟨rfl, rfl, rfl, rfl⟩ rfl rfl subEnd))⟩
instance qlen_ok [o : Hv w0 H w] [i : InK queueR p H x R] : Step (Cl P 154 #[.pointer (some ⟨p, 0, none⟩)] K ⟨w, ds⟩) (∀ w', Hv w0 (queueR p x :: R) w' → K (.int .i64 (x.b.length : Nat)) ⟨w', ds⟩) := ⟨fun h => by
  obtain ⟨v, o1⟩ := queue_open (i.hv o)
  clear o
  refine s154 ?_
  unfold D154
  repeat' (first | refine go ?_ | intro _ | refine ⟨sb, ?_⟩ | refine ⟨sd, ?_⟩ | (refine ⟨fun h1 => ?_, fun h1 => ?_⟩ <;> first | exact ab h1 | ((try rw [h1]); (try simp only [bl] at h1))) | dsimp only)
  exact h _ (Sub.hv (subQueue ⟨rfl, rfl, rfl, rfl⟩ rfl rfl subEnd))⟩
instance qpush_ok [o : Hv w0 H w] [i : InK queueR p H x R] : Step (Cl P 174 #[.pointer (some ⟨p, 0, none⟩), str l] K ⟨w, ds⟩) ((x.ok ∧ l.length ≤ 1000000) ∧ ∀ w', Hv w0 (queueR p (x.push l).1 :: R) w' → K (.bool (x.push l).2) ⟨w', ds⟩) := ⟨fun ⟨⟨ok, hl⟩, h⟩ => by
  obtain ⟨v, o1⟩ := queue_open (i.hv o)
  clear o
  have hb := ok.b
  unfold Qu.push at h
  refine s174 ?_
  unfold D174
  repeat' (first | refine go ?_ | intro _ | refine ⟨sb, ?_⟩ | refine ⟨sd, ?_⟩ | (refine ⟨fun h1 => ?_, fun h1 => ?_⟩ <;> first | exact ab h1 | ((try rw [h1]); (try simp only [bl] at h1))) | dsimp only)
  all_goals first
    | (rw [if_pos (by clear h; grind)] at h; exact h _ (Sub.hv (subQueue ⟨rfl, rfl, rfl, rfl⟩ rfl rfl subEnd)))
    | (rw [if_neg (by clear h; grind), if_pos (by omega)] at h; exact h _ (Sub.hv (subQueue ⟨rfl, rfl, rfl, rfl⟩ rfl rfl subEnd)))
    | (rw [if_neg (by clear h; grind), if_neg (by omega)] at h; exact h _ (Sub.hv (subQueue ⟨rfl, rfl, rfl, rfl⟩ (by simp; omega) (by simp) subEnd)))⟩
theorem tornW_drop {b : List UInt8} {i n : Nat} (h : i < b.length) : tornW (b.drop i) n = if n = 0 then 0 else if b.getD i default = 10 then tornW (b.drop (i + 1)) (n - 1) else if n = 1 then idxB (b.drop (i + 1)) 10 + 1 else tornW (b.drop (i + 1)) (n - 1) := by
  rw [drop_gen h]; rfl
instance torn_ok {xs : List Value} {b : List UInt8} {a c : Int} [o : Hv w0 H w] [r : RdsF w0 H v 1 n xs] [e : Bys xs b] : Step (Cl P 155 #[v, .int .i64 a, .int .i64 c] K ⟨w, ds⟩)
    (((b.length ≤ 1000000 ∧ 0 ≤ a ∧ a ≤ 1000000) ∧ 0 ≤ c ∧ c ≤ 1000000) ∧ ∀ w', Hv w0 H w' → K (.int .i64 (tornS b a c)) ⟨w', ds⟩) := ⟨fun ⟨⟨⟨hb, ha1, ha2⟩, hc1, hc2⟩, h⟩ => by
  have hx := e.eq
  subst hx
  obtain rfl : n = b.length := by have := (r.rd w o).len; simpa using this.symm
  have rl := r.loc
  unfold tornS at h
  refine s155 ?_
  unfold D155
  repeat' (first | refine go ?_ | intro _ | refine ⟨sb, ?_⟩ | refine ⟨sd, ?_⟩ | (refine ⟨fun h1 => ?_, fun h1 => ?_⟩ <;> first | exact ab h1 | ((try rw [h1]); (try simp only [bl] at h1))) | dsimp only)
  · rw [if_pos h1] at h
    exact h _ (Sub.hv subEnd)
  rw [if_neg (by omega)] at h
  obtain ⟨a', rfl⟩ := Int.eq_ofNat_of_zero_le ha1
  obtain ⟨t, ht⟩ : ∃ t, t = tornW (b.drop (a' : Int).toNat) (c - a').toNat := ⟨_, rfl⟩
  rw [← ht] at h
  refine ⟨fun x y s => ∃ (i q : Nat) (w' : World), x = .int .i64 q ∧ y = .int .i64 i ∧ s = ⟨w', []⟩ ∧ tornW (b.drop i) q = t ∧ i ≤ 1000000 ∧ q ≤ 1000000 ∧ Hv w0 H w',
    fun _ y s => match y with | .int _ z => 1000001 - z.toNat | _ => 0, ⟨a', (c - a').toNat, w, by congr; omega, rfl, rfl, by rw [ht]; rfl, by omega, by omega, o⟩, ?_⟩
  rintro x y s ⟨i, q, w1, rfl, rfl, rfl, hq, hi, hqn, o1⟩
  clear o
  rcases Nat.lt_or_ge i b.length with hlt | hge
  · rw [tornW_drop hlt] at hq
    repeat' (first | refine go ?_ | intro _ | refine ⟨sb, ?_⟩ | refine ⟨sd, ?_⟩ | (refine ⟨fun h1 => ?_, fun h1 => ?_⟩ <;> first | exact ab h1 | ((try rw [h1]); (try simp only [bl] at h1))) | dsimp only)
    · rw [if_pos (by omega)] at hq
      rw [← hq] at h
      exact h _ (Sub.hv subEnd)
    · rw [if_neg (by omega), if_pos h1] at hq
      exact ⟨⟨i + 1, q - 1, _, congrArg (Value.int .i64) (by omega), rfl, rfl, hq, by omega, by omega, Sub.hv subEnd⟩, by simp; omega⟩
    · rw [if_neg (by omega), if_neg (by assumption), if_pos (by omega)] at hq
      have hk := idxB_le (b.drop (i + 1)) 10
      have hdl : (b.drop (i + 1)).length ≤ 1000000 := by rw [List.length_drop]; omega
      rw [List.take_of_length_le (by simp)]
      refine And.intro (by unfold InR; omega) ?_
      repeat' (first | refine go ?_ | intro _ | refine ⟨sb, ?_⟩ | refine ⟨sd, ?_⟩ | (refine ⟨fun h1 => ?_, fun h1 => ?_⟩ <;> first | exact ab h1 | ((try rw [h1]); (try simp only [bl] at h1))) | dsimp only)
      rw [hq]
      exact h _ (Sub.hv subEnd)
    · rw [if_neg (by omega), if_neg (by assumption), if_neg (by omega)] at hq
      exact ⟨⟨i + 1, q - 1, _, congrArg (Value.int .i64) (by omega), rfl, rfl, hq, by omega, by omega, Sub.hv subEnd⟩, by simp; omega⟩
    · exfalso; omega
  · rw [List.drop_of_length_le hge] at hq
    repeat' (first | refine go ?_ | intro _ | refine ⟨sb, ?_⟩ | refine ⟨sd, ?_⟩ | (refine ⟨fun h1 => ?_, fun h1 => ?_⟩ <;> first | exact ab h1 | ((try rw [h1]); (try simp only [bl] at h1))) | dsimp only)
    · exfalso; omega
    · rw [← hq] at h
      exact h _ (Sub.hv subEnd)⟩
instance qdrain_ok [o : Hv w0 H w] [i : InK queueR p H x R] : Step (Cl P 121 #[.pointer (some ⟨p, 0, none⟩), .int .i64 z] K ⟨w, ds⟩) (x.ok ∧ ∀ v w', Hv w0 (row 5 1 v (x.many z) ((x.b.take (x.many z)).map byteV) :: queueR p (x.drain z) :: R) w' → K v ⟨w', ds⟩) := ⟨fun ⟨ok, h⟩ => by
  obtain ⟨v, o1⟩ := queue_open (i.hv o)
  clear o
  obtain ⟨b1, b2, b3⟩ := ok
  unfold Qu.drain at h
  obtain ⟨k, hk⟩ : ∃ k, k = x.many z := ⟨_, rfl⟩
  have hk1 : k ≤ x.b.length := by rw [hk]; unfold Qu.many; omega
  have hk2 : max 0 (min z (x.b.length : Int)) = k := by rw [hk]; unfold Qu.many; omega
  rw [← hk] at h
  refine s121 ?_
  unfold D121
  repeat' (first | refine go ?_ | intro _ | refine ⟨sb, ?_⟩ | refine ⟨sd, ?_⟩ | (refine ⟨fun h1 => ?_, fun h1 => ?_⟩ <;> first | exact ab h1 | ((try rw [h1]); (try simp only [bl] at h1))) | dsimp only)
  rename_i wl ol v' ss
  have o8 := Hv.nilRow 5 1 ol
  clear ol
  repeat' (first | refine go ?_ | intro _ | refine ⟨sb, ?_⟩ | refine ⟨sd, ?_⟩ | (refine ⟨fun h1 => ?_, fun h1 => ?_⟩ <;> first | exact ab h1 | ((try rw [h1]); (try simp only [bl] at h1))) | dsimp only)
  refine h _ _ (Sub.hv (subRow ?_ ?_ (subQueue ⟨rfl, ?_, ?_, rfl⟩ ?_ ?_ subEnd)))
  all_goals (try simp only [hk2, Int.toNat_natCast])
  · rw [List.map_take]
  · rw [List.length_drop]; omega
  · rw [List.nil_append, Nat.mul_one, Nat.mul_one, List.map_drop]
    exact List.take_of_length_le (by simp)⟩
end
end Go.Proofs.YtfgdalggkknffaaGreatDoor

