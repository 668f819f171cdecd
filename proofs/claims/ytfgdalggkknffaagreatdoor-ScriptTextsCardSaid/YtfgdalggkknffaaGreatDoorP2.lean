import Derived.Test.YtfgdalggkknffaaGreatDoorP1
import Derived.Test.YtfgdalggkknffaaGreatDoorFw
import Derived.Test.YtfgdalggkknffaaGreatDoorEn2
import Derived.Sort.Row
import Derived.Sort.Grow
set_option linter.all false
namespace Go.Proofs.YtfgdalggkknffaaGreatDoor
open Go.Vx Go.Lib
abbrev Lin := List UInt8 × Bool
abbrev encLn (l : Lin) : List Value := [str l.1, .bool l.2]
abbrev lnV (l : Lin) : Value := .agg #[str l.1, .bool l.2]
abbrev Fst := List UInt8 × Bool
def pushS (p : Fst) (c : UInt8) : Fst × Lin × Bool :=
  if c = 13 ∨ c = 10 then (([], false), (if p.2 then [] else p.1, p.2), p.2 || !decide (p.1 = []))
  else if p.2 = true ∨ p.1.length = 510 then ((p.1, true), ([], false), false) else ((p.1 ++ [c], false), ([], false), false)
def feedS : Fst → List UInt8 → Fst × List Lin
  | p, [] => (p, [])
  | p, c :: cs => ((feedS (pushS p c).1 cs).1, if (pushS p c).2.2 then (pushS p c).2.1 :: (feedS (pushS p c).1 cs).2 else (feedS (pushS p c).1 cs).2)
theorem feedS_snoc (cs : List UInt8) : ∀ (p : Fst) (c : UInt8), feedS p (cs ++ [c]) =
    ((pushS (feedS p cs).1 c).1, if (pushS (feedS p cs).1 c).2.2 then (feedS p cs).2 ++ [(pushS (feedS p cs).1 c).2.1] else (feedS p cs).2) := by
  induction cs with
  | nil => intro p c; simp only [List.nil_append, feedS]; split <;> rename_i hh <;> simp [hh]
  | cons d cs ih =>
    intro p c
    simp only [List.cons_append, feedS, ih]
    split <;> split <;> simp
theorem pushS_len {p : Fst} {c : UInt8} (h : p.1.length ≤ 510) : (pushS p c).1.1.length ≤ 510 := by
  unfold pushS; split
  · simp
  · split
    · exact h
    · simp; omega
theorem feedS_len (cs : List UInt8) : ∀ {p : Fst}, p.1.length ≤ 510 → (feedS p cs).1.1.length ≤ 510 := by
  induction cs with
  | nil => exact fun h => h
  | cons c cs ih => exact fun h => ih (pushS_len h)
theorem feedS_out (cs : List UInt8) : ∀ (p : Fst), (feedS p cs).2.length ≤ cs.length := by
  induction cs with
  | nil => intro _; simp [feedS]
  | cons c cs ih =>
    intro p
    have := ih (pushS p c).1
    simp only [feedS]; split <;> simp <;> omega
section
set_option maxRecDepth 20000
set_option synthInstance.maxSize 100000
set_option synthInstance.maxHeartbeats 4000000
def framer (f : Nat) (p : Fst) : SL := any fun wv => many [box f 236 [wv, .bool p.2], row 5 1 wv p.1.length (p.1.map byteV)]
theorem framer_open {w0 w : World} {H : List SL} {f : Nat} {p : Fst} (h : Hv w0 (framer f p :: H) w) : ∃ wv, Hv w0 (box f 236 [wv, .bool p.2] :: row 5 1 wv p.1.length (p.1.map byteV) :: H) w :=
  let ⟨wv, h⟩ := h.pick; ⟨wv, h.opens⟩
theorem framer_close {w0 w : World} {H H' R R' : List SL} {f n : Nat} {wv : Value} {p : Fst} {l : Bool} {xs : List Value} [o : Hv w0 H' w] [b : BoxIn H' f 236 [wv, .bool l] R] [r : RowIn R wv 5 1 n xs R'] [d : DropTo R' H]
    (h1 : xs = p.1.map byteV) (h2 : n = p.1.length) (h3 : l = p.2) : Hv w0 (framer f p :: H) w := by
  subst h1 h2 h3
  have h1 := Hv.perm b.perm.1 o
  have h2 := Hv.perm (sep_cons r.perm) h1
  have h3 : Hv w0 (framer f p :: R') w := Hv.give wv (Hv.closes (H := [_, _]) h2)
  exact h3.drop1
instance new_ok {K : Value → St → Prop} {w0 w : World} {H : List SL} {ds : List Deferred} [o : Hv w0 H w] : Step (Cl P 113 #[] K ⟨w, ds⟩) (∀ f w', Hv w0 (framer f ([], false) :: H) w' → K (.pointer (some ⟨f, 0, none⟩)) ⟨w', ds⟩) := ⟨fun h => by
  refine s113 ?_
  unfold D113
  refine go ?_
  refine go ?_
  intro b w' hw
  refine go ?_
  refine h b w' ?_
  exact Hv.give (.slice none 0 0) (Hv.closes (H := [_, _]) (Hv.perm sep_swap (Hv.nilRow 5 1 hw)))⟩
instance push_ok {K : Value → St → Prop} {w0 w : World} {H' H : List SL} {ds : List Deferred} {f : Nat} {p : Fst} {c : UInt8} [o' : Hv w0 H' w] [i : InK framer f H' p H] :
    Step (Cl P 191 #[.pointer (some ⟨f, 0, none⟩), byteV c] K ⟨w, ds⟩) (p.1.length ≤ 510 ∧ ∀ w', Hv w0 (framer f (pushS p c).1 :: H) w' → K (.tuple #[lnV (pushS p c).2.1, .bool (pushS p c).2.2]) ⟨w', ds⟩) := ⟨fun ⟨hlen, h⟩ => by
  refine s191 ?_
  obtain ⟨wait, lost⟩ := p
  obtain ⟨wv, o2⟩ := framer_open (i.hv o')
  clear o'
  dsimp only at hlen o2
  unfold D191
  repeat' (first | refine go ?_ | intro _ | refine ⟨sb, ?_⟩ | refine ⟨sd, ?_⟩ | (refine ⟨fun h1 => ?_, fun h1 => ?_⟩ <;> first | exact ab h1 | ((try rw [h1]); (try simp only [bl] at h1))) | dsimp only)
  all_goals (try subst lost)
  all_goals (refine cast (congrArg (fun v => K v _) ?_) (h _ (framer_close (f := f) ?_ ?_ ?_)))
  all_goals (unfold pushS; first | done | grind)⟩
instance feed_ok {K : Value → St → Prop} {w0 w : World} {H' H : List SL} {ds : List Deferred} {f : Nat} {p : Fst} {bv : Value} {bs : List UInt8} {n : Nat} {zs : List Value} [o' : Hv w0 H' w] [i : InK framer f H' p H] [rf : RdsF w0 H bv 1 n zs] [bz : Bys zs bs] :
    Step (Cl P 144 #[.pointer (some ⟨f, 0, none⟩), bv] K ⟨w, ds⟩) ((p.1.length ≤ 510 ∧ bs.length ≤ 1000000) ∧ ∀ v w', Hv w0 (row 197 2 v (feedS p bs).2.length ((feedS p bs).2.flatMap encLn) :: framer f (feedS p bs).1 :: H) w' → K v ⟨w', ds⟩) := ⟨fun ⟨⟨hw, hb⟩, h⟩ => by
  refine s144 ?_
  have o := i.hv o'
  obtain rfl := bz.eq
  obtain rfl : n = bs.length := by have := (rf.rd w o.tail).len; simpa using this.symm
  have rl := rf.loc
  clear o'
  unfold D144
  dsimp only
  repeat (first | refine go ?_ | intro _ | refine ⟨sb, ?_⟩ | refine ⟨sd, ?_⟩ | dsimp only)
  refine ⟨fun x y s => ∃ (i : Nat) (w' : World), y = .int .i64 i ∧ s = ⟨w', []⟩ ∧ i ≤ bs.length ∧
    Hv w0 (row 197 2 x (feedS p (bs.take i)).2.length ((feedS p (bs.take i)).2.flatMap encLn) :: framer f (feedS p (bs.take i)).1 :: H) w',
    fun x y s => match y with | .int _ z => bs.length - z.toNat | _ => 0, ⟨0, w, rfl, rfl, Nat.zero_le _, by simpa [feedS] using Hv.nilRow 197 2 o⟩, ?_⟩
  rintro x y s ⟨i, w1, rfl, rfl, hi, o1⟩
  have hl1 := feedS_len (bs.take i) (p := p) hw
  have hl2 := feedS_out (bs.take i) p
  rw [List.length_take] at hl2
  repeat' (first | refine go ?_ | intro _ | refine ⟨sb, ?_⟩ | refine ⟨sd, ?_⟩ | (refine ⟨fun h1 => ?_, fun h1 => ?_⟩ <;> first | exact ab h1 | ((try rw [h1]); (try simp only [bl] at h1))) | dsimp only)
  · have hlt : i < bs.length := by omega
    refine ⟨⟨i + 1, _, rfl, rfl, hlt, Sub.hv (subRow ?_ ?_ (subK ?_ subEnd))⟩, by simp; omega⟩ <;> simp [-List.getD_eq_getElem?_getD, take_snoc hlt, feedS_snoc, h1]
  · have hlt : i < bs.length := by omega
    refine ⟨⟨i + 1, _, rfl, rfl, hlt, Sub.hv (subRow ?_ ?_ (subK ?_ subEnd))⟩, by simp; omega⟩ <;> simp [-List.getD_eq_getElem?_getD, take_snoc hlt, feedS_snoc, h1]
  · rw [List.take_of_length_le (by omega)] at o1
    exact h _ _ o1⟩
end
end Go.Proofs.YtfgdalggkknffaaGreatDoor

namespace Go.Proofs.YtfgdalggkknffaaGreatDoor.Pl
open Go.Vx
abbrev It := Int × Int
abbrev encIt (x : It) : List Value := [.int .i64 x.1, .int .i64 x.2]
abbrev itV (x : It) : Value := .agg #[.int .i64 x.1, .int .i64 x.2]
instance : UEnc encIt 2 := ⟨fun _ => rfl⟩
instance : EncTy 279 It encIt 2 := ⟨fun _ => rfl⟩
instance {a b : Int} : Encs encIt [.int .i64 a, .int .i64 b] [(a, b)] := ⟨rfl⟩
def ItLt (x y : It) : Prop := x.2 < y.2 ∨ x.2 = y.2 ∧ x.1 < y.1
def cmpI (a b : Int) : Int := if a < b then -1 else if b < a then 1 else 0
def itC (x y : It) : Int := if cmpI x.2 y.2 ≠ 0 then cmpI x.2 y.2 else cmpI x.1 y.1
theorem itC_lt {x y : It} : itC x y < 0 ↔ ItLt x y := by unfold itC cmpI ItLt; grind
theorem itC_eq {x y : It} : itC x y = 0 ↔ x = y := by
  obtain ⟨a, b⟩ := x; obtain ⟨c, d⟩ := y
  simp only [Prod.mk.injEq]; unfold itC cmpI; grind
theorem ItLt.trans {x y z : It} (h : ItLt x y) (g : ItLt y z) : ItLt x z := by unfold ItLt at *; omega
theorem ItLt.irrefl {x : It} : ¬ ItLt x x := by unfold ItLt; omega
theorem ItLt.tri {x y : It} (h : ¬ ItLt x y) (e : x ≠ y) : ItLt y x := by
  obtain ⟨a, b⟩ := x; obtain ⟨c, d⟩ := y
  simp only [ne_eq, Prod.mk.injEq] at e; unfold ItLt at *; grind
section
set_option maxRecDepth 20000
set_option synthInstance.maxSize 100000
set_option synthInstance.maxHeartbeats 4000000
variable {K : Value → St → Prop} {w0 w : World} {H R : List SL} {ds : List Deferred}
instance isNaN_ok {a : Int} [o : Hv w0 H w] : Step (Cl P 309 #[.int .i64 a] K ⟨w, ds⟩) (∀ w', Hv w0 H w' → K (.bool false) ⟨w', ds⟩) := ⟨fun h => by
  refine s309 ?_
  unfold D309
  repeat' (first | refine go ?_ | intro _ | refine ⟨sb, ?_⟩ | refine ⟨sd, ?_⟩ | (refine ⟨fun h1 => ?_, fun h1 => ?_⟩ <;> first | exact ab h1 | ((try rw [h1]); (try simp only [bl] at h1))) | dsimp only)
  simpa using h _ o⟩
instance cmpI_ok {a b : Int} [o : Hv w0 H w] : Step (Cl P 237 #[.int .i64 a, .int .i64 b] K ⟨w, ds⟩) (∀ w', Hv w0 H w' → K (.int .i64 (cmpI a b)) ⟨w', ds⟩) := ⟨fun h => by
  refine s237 ?_
  unfold D237
  repeat' (first | refine go ?_ | intro _ | refine ⟨sb, ?_⟩ | refine ⟨sd, ?_⟩ | (refine ⟨fun h1 => ?_, fun h1 => ?_⟩ <;> first | exact ab h1 | ((try rw [h1]); (try simp only [bl] at h1))) | dsimp only)
  all_goals exact cast (congrArg (fun z => K (.int .i64 z) _) (by unfold cmpI; grind)) (h _ (Sub.hv subEnd))⟩
def orL (l : List Int) : Int := (l.find? fun z => decide (z ≠ 0)).getD 0
instance or_ok {v : Value} {n : Nat} {xs : List Value} {l : List Int} [o : Hv w0 H w] [r : RdsF w0 H v 1 n xs] [m : Maps intV xs l] : Step (Cl P 236 #[v] K ⟨w, ds⟩) (∀ w', Hv w0 H w' → K (.int .i64 (orL l)) ⟨w', ds⟩) := ⟨fun h => by
  refine s236 ?_
  unfold D236
  obtain rfl := m.eq
  have rl := r.loc
  have rr := r.rd w o
  obtain rfl : n = l.length := by have := rr.len; simpa using this.symm
  have hb := rr.le
  simp only [maxLen] at hb
  repeat (first | refine go ?_ | intro _ | refine ⟨sb, ?_⟩ | refine ⟨sd, ?_⟩ | dsimp only)
  refine ⟨fun x s => ∃ (i : Nat) (w' : World), x = .int .i64 i ∧ s = ⟨w', []⟩ ∧ i ≤ l.length ∧ (∀ z ∈ l.take i, z = 0) ∧ Hv w0 H w',
    fun x s => match x with | .int _ z => l.length - z.toNat | _ => 0, ⟨0, w, rfl, rfl, Nat.zero_le _, by simp, o⟩, ?_⟩
  rintro x s ⟨i, w1, rfl, rfl, hi, hz, o1⟩
  clear o
  rcases Nat.lt_or_ge i l.length with hlt | hge
  · have hsplit : l = l.take i ++ l.getD i default :: l.drop (i + 1) := by simp [hlt]
    repeat' (first | refine go ?_ | intro _ | refine ⟨sb, ?_⟩ | refine ⟨sd, ?_⟩ | (refine ⟨fun h1 => ?_, fun h1 => ?_⟩ <;> first | exact ab h1 | ((try rw [h1]); (try simp only [bl] at h1))) | dsimp only)
    · refine cast (congrArg (fun z => K (.int .i64 z) _) ?_) (h _ (Sub.hv subEnd))
      have e2 : l.find? (fun z => decide (z ≠ 0)) = some (l.getD i default) := by
        conv => lhs; rw [hsplit]
        rw [List.find?_append, List.find?_eq_none.2 (fun z hz' => by simpa using hz z hz'), List.find?_cons, decide_eq_true (by omega)]; rfl
      unfold orL
      rw [e2]; rfl
    · refine ⟨⟨i + 1, _, rfl, rfl, hlt, ?_, o1⟩, by simp; omega⟩
      rw [take_snoc hlt]
      intro z hz'
      rcases List.mem_append.1 hz' with h2 | h2
      · exact hz z h2
      · rw [List.mem_singleton.1 h2]; omega
    · omega
  · obtain rfl : i = l.length := by omega
    rw [List.take_length] at hz
    repeat' (first | refine go ?_ | intro _ | refine ⟨sb, ?_⟩ | refine ⟨sd, ?_⟩ | (refine ⟨fun h1 => ?_, fun h1 => ?_⟩ <;> first | exact ab h1 | ((try rw [h1]); (try simp only [bl] at h1))) | dsimp only)
    · omega
    · refine cast (congrArg (fun z => K (.int .i64 z) _) ?_) (h _ (Sub.hv subEnd))
      unfold orL
      rw [List.find?_eq_none.2 (fun z hz' => by simpa using hz z hz')]; rfl⟩
instance comp_ok {a b c d : Int} [o : Hv w0 H w] : Step (Cl P 189 #[.agg #[.int .i64 a, .int .i64 b], .agg #[.int .i64 c, .int .i64 d]] K ⟨w, ds⟩) (∀ w', Hv w0 H w' → K (.int .i64 (itC (a, b) (c, d))) ⟨w', ds⟩) := ⟨fun h => by
  refine s189 ?_
  unfold D189
  repeat' (first | refine go ?_ | intro _ | refine ⟨sb, ?_⟩ | refine ⟨sd, ?_⟩ | (refine ⟨fun h1 => ?_, fun h1 => ?_⟩ <;> first | exact ab h1 | ((try rw [h1]); (try simp only [bl] at h1))) | dsimp only)
  refine cast (congrArg (fun z => K (.int .i64 z) _) ?_) (h _ (Sub.hv subEnd))
  unfold itC orL; grind⟩
structure Tim (l : List It) (g : Int → Option Int) : Prop where
  srt : l.Pairwise ItLt
  mem : ∀ k a, (k, a) ∈ l ↔ g k = some a
theorem orZ_int (o : Option Int) (z : Int) : orZ (o.map intV) (.int .i64 z) = .int .i64 (o.getD z) := by cases o <;> rfl
abbrev tmap (g : Int → Option Int) : Int → Option Value := fun k => (g k).map intV
theorem tmap_upd (g : Int → Option Int) (k : Int) (v : Option Int) : updF (tmap g) k (v.map intV) = tmap (updF g k v) := by
  funext x; by_cases h : x = k <;> simp [updF, tmap, h]
theorem updF_two {β : Type} (g : Int → Option β) (k : Int) (u v : Option β) : updF (updF g k u) k v = updF g k v := by
  funext x; by_cases h : x = k <;> simp [updF, h]
abbrev Tst := Nat × (Int → Option Int)
def tabA (t : Nat) (x : Tst) (q : List It × Value × Nat) : SL := many [lift (Tim q.1 x.2 ∧ q.1.length ≤ x.1), box t 229 [q.2.1, .map (some q.2.2)], row 279 2 q.2.1 q.1.length (q.1.flatMap encIt), mpf q.2.2 intV (tmap x.2)]
def tabR (t : Nat) (x : Tst) : SL := any (tabA t x)
theorem tab_open {t : Nat} {x : Tst} (h : Hv w0 (tabR t x :: R) w) : ∃ l v m, Tim l x.2 ∧ l.length ≤ x.1 ∧ Hv w0 (box t 229 [v, .map (some m)] :: row 279 2 v l.length (l.flatMap encIt) :: mpf m intV (tmap x.2) :: R) w := by
  obtain ⟨⟨l, v, m⟩, h1⟩ := h.pick
  have h2 := h1.opens
  exact ⟨l, v, m, h2.lifted.1, h2.lifted.2, h2.tail⟩
theorem tab_shut {t m : Nat} {x : Tst} {l : List It} {v : Value} (h1 : Tim l x.2) (h2 : l.length ≤ x.1) (h : Hv w0 (box t 229 [v, .map (some m)] :: row 279 2 v l.length (l.flatMap encIt) :: mpf m intV (tmap x.2) :: R) w) : Hv w0 (tabR t x :: R) w :=
  Hv.give (A := tabA t x) (l, v, m) (Hv.closes (H := [_, _, _, _]) (h.lift ⟨h1, h2⟩))
instance tnew_ok [o : Hv w0 H w] : Step (Cl P 109 #[] K ⟨w, ds⟩) (∀ t w', Hv w0 (tabR t (0, fun _ => none) :: H) w' → K (.pointer (some ⟨t, 0, none⟩)) ⟨w', ds⟩) := ⟨fun h => by
  refine s109 ?_
  unfold D109
  repeat' (first | refine go ?_ | intro _ | refine ⟨sb, ?_⟩ | refine ⟨sd, ?_⟩ | (refine ⟨fun h1 => ?_, fun h1 => ?_⟩ <;> first | exact ab h1 | ((try rw [h1]); (try simp only [bl] at h1))) | dsimp only)
  rename_i b1 w1 o1 b2 w2 o2
  have o3 := Hv.nilRow 279 2 o2
  refine h _ _ (tab_shut (l := []) (v := .slice none 0 0) (m := b1) ⟨List.Pairwise.nil, fun k a => by simp⟩ (Nat.le_refl _) ?_)
  exact Sub.hv (o := o3) (subBox rfl (subRow rfl rfl (subMpf rfl subEnd)))⟩
variable {t : Nat} {x : Tst} {k a : Int}
instance tat_ok [o : Hv w0 H w] [i : InK tabR t H x R] : Step (Cl P 192 #[.pointer (some ⟨t, 0, none⟩), .int .i64 k] K ⟨w, ds⟩) (∀ w', Hv w0 (tabR t x :: R) w' → K (.tuple #[.int .i64 ((x.2 k).getD 0), .bool (x.2 k).isSome]) ⟨w', ds⟩) := ⟨fun h => by
  obtain ⟨l, v, m, h1, h2, o1⟩ := tab_open (i.hv o)
  clear o
  refine s192 ?_
  unfold D192
  repeat' (first | refine go ?_ | intro _ | refine ⟨sb, ?_⟩ | refine ⟨sd, ?_⟩ | (refine ⟨fun h1 => ?_, fun h1 => ?_⟩ <;> first | exact ab h1 | ((try rw [h1]); (try simp only [bl] at h1))) | dsimp only)
  have e : (Option.map intV (x.2 k)).isSome = (x.2 k).isSome := by cases x.2 k <;> rfl
  rw [orZ_int, e]
  exact h _ (tab_shut h1 h2 (Sub.hv (subBox rfl (subRow rfl rfl (subMpf rfl subEnd)))))⟩
theorem pw_at {l : List It} (h : l.Pairwise ItLt) {i j : Nat} (hi : i < j) (hj : j < l.length) : ItLt (l.getD i default) (l.getD j default) := by
  have := List.pairwise_iff_getElem.1 h i j (by omega) hj hi
  simpa [List.getD_eq_getElem?_getD, show i < l.length by omega, hj] using this
instance bsf_ok {v : Value} {n : Nat} {xs : List Value} {l : List It} {yk ya : Int} [o : Hv w0 H w] [r : RdsF w0 H v 2 n xs] [e : Encs encIt xs l] :
    Step (Cl P 188 #[v, .agg #[.int .i64 yk, .int .i64 ya], .func (.func 189) #[] #[]] K ⟨w, ds⟩)
      ((n ≤ 1000000000 ∧ l.Pairwise ItLt) ∧ ∀ (i : Nat) w', i ≤ n → (∀ z ∈ l.take i, ItLt z (yk, ya)) → (∀ z ∈ l.drop i, ¬ ItLt z (yk, ya)) → Hv w0 H w' → K (.tuple #[.int .i64 i, .bool (decide (l[i]? = some (yk, ya)))]) ⟨w', ds⟩) := ⟨fun ⟨⟨hn, hs⟩, h⟩ => by
  have hx := e.eq
  subst hx
  have hl : n = l.length := by
    have := (r.rd w o).len
    rw [flatMap_len (size := 2) fun _ => rfl] at this
    omega
  subst hl
  obtain ⟨tI, tU, u1, u2, hf⟩ := BsfF.run (P := P) (g := 188)
  refine hf _ _ _ _ _ _ (bsfW_ok (tS := 227) (e := 279) (el := fun i => itV (l.getD i default)) (c := fun i => itC (l.getD i default) (yk, ya)) inferInstance u1 u2 o r inferInstance ?_ ?_ ?_ ?_ hn ?_)
  · intro b w' o'; infer_instance
  · intro i a w' hi r' ix; infer_instance
  · intro i F w' K' hi o' h'
    repeat' (first | refine go ?_ | intro _ | refine ⟨sb, ?_⟩ | refine ⟨sd, ?_⟩ | (refine ⟨fun h1 => ?_, fun h1 => ?_⟩ <;> first | exact ab h1 | ((try rw [h1]); (try simp only [bl] at h1))) | dsimp only)
    exact h' _ (Sub.hv subEnd)
  · intro i j hij hj hc
    rcases Nat.lt_or_ge i j with h1 | h1
    · exact itC_lt.2 ((pw_at hs h1 hj).trans (itC_lt.1 hc))
    · obtain rfl : i = j := by omega
      exact hc
  · intro i w' hi h1 h2 o'
    have e1 : (decide (i < l.length) && decide (itC (l.getD i default) (yk, ya) = 0)) = decide (l[i]? = some (yk, ya)) := by
      rw [Bool.eq_iff_iff, Bool.and_eq_true, decide_eq_true_eq, decide_eq_true_eq, decide_eq_true_eq, itC_eq, List.getElem?_eq_some_iff]
      constructor
      · rintro ⟨h3, h4⟩; exact ⟨h3, by rw [← h4]; simp [h3]⟩
      · rintro ⟨h3, h4⟩; exact ⟨h3, by rw [← h4]; simp [h3]⟩
    rw [e1]
    refine h i w' hi (fun z hz => ?_) (fun z hz => ?_) o'
    · obtain ⟨j, hj, rfl⟩ := List.mem_take_iff_getElem.1 hz
      have := itC_lt.1 (h1 j (by omega))
      simpa [List.getD_eq_getElem?_getD, show j < l.length by omega] using this
    · obtain ⟨j, hj, rfl⟩ := List.mem_drop_iff_getElem.1 hz
      intro hc
      have h5 := h2 (i + j) (by omega) (by omega)
      have : itC (l.getD (i + j) default) (yk, ya) < 0 := itC_lt.2 (by simpa [List.getD_eq_getElem?_getD, show i + j < l.length by omega] using hc)
      omega⟩
theorem drop_two {α : Type} {l : List α} {i : Nat} {y : α} (h : l[i]? = some y) : l = l.take i ++ y :: l.drop (i + 1) := by
  obtain ⟨h1, rfl⟩ := List.getElem?_eq_some_iff.1 h
  simp
theorem Tim.stop {l : List It} {g : Int → Option Int} (h : Tim l g) {i : Nat} {k a : Int} (hi : l[i]? = some (k, a)) : Tim (l.take i ++ l.drop (i + 1)) (updF g k none) := by
  have e := drop_two hi
  have hs := h.srt
  rw [e, List.pairwise_append, List.pairwise_cons] at hs
  obtain ⟨h1, ⟨h2, h3⟩, h4⟩ := hs
  refine ⟨List.pairwise_append.2 ⟨h1, h3, fun x hx y hy => h4 x hx y (List.mem_cons_of_mem _ hy)⟩, fun k' a' => ?_⟩
  have hm : (k', a') ∈ l ↔ (k', a') ∈ l.take i ++ l.drop (i + 1) ∨ (k', a') = (k, a) := by
    conv => lhs; rw [e]
    simp only [List.mem_append, List.mem_cons]
    constructor
    · rintro (h | h | h)
      · exact .inl (.inl h)
      · exact .inr h
      · exact .inl (.inr h)
    · rintro ((h | h) | h)
      · exact .inl h
      · exact .inr (.inr h)
      · exact .inr (.inl h)
  have hg : g k = some a := (h.mem k a).1 (by rw [e]; simp)
  by_cases hk : k' = k
  · subst hk
    rw [updF_at]
    refine ⟨fun hx => ?_, fun hx => by cases hx⟩
    exfalso
    have h5 := (h.mem k' a').1 (hm.2 (.inl hx))
    rw [hg] at h5
    obtain rfl : a = a' := by simpa using h5
    rcases List.mem_append.1 hx with h6 | h6
    · exact ItLt.irrefl (h4 _ h6 _ (List.mem_cons_self ..))
    · exact ItLt.irrefl (h2 _ h6)
  · rw [updF_ne g hk, ← h.mem, hm]
    refine ⟨.inl, fun h => h.resolve_right fun e => hk ?_⟩
    exact (Prod.mk.inj e).1
theorem Tim.put {l : List It} {g : Int → Option Int} (h : Tim l g) {i : Nat} {k a : Int} (hk : g k = none) (h1 : ∀ z ∈ l.take i, ItLt z (k, a)) (h2 : ∀ z ∈ l.drop i, ¬ ItLt z (k, a)) : Tim (l.take i ++ [(k, a)] ++ l.drop i) (updF g k (some a)) := by
  have hs := h.srt
  rw [← List.take_append_drop i l, List.pairwise_append] at hs
  obtain ⟨h3, h4, h5⟩ := hs
  have hn : ∀ z ∈ l, z.1 ≠ k := fun z hz e => by
    have := (h.mem z.1 z.2).1 hz
    rw [e, hk] at this; cases this
  have h6 : ∀ z ∈ l.drop i, ItLt (k, a) z := fun z hz => ItLt.tri (h2 z hz) fun e => hn z (List.mem_of_mem_drop hz) (by rw [e])
  refine ⟨?_, fun k' a' => ?_⟩
  · rw [List.append_assoc, List.pairwise_append]
    refine ⟨h3, List.pairwise_cons.2 ⟨h6, h4⟩, fun x hx y hy => ?_⟩
    rcases List.mem_cons.1 hy with rfl | hy
    · exact h1 x hx
    · exact h5 x hx y hy
  · have hm : (k', a') ∈ l.take i ++ [(k, a)] ++ l.drop i ↔ (k', a') = (k, a) ∨ (k', a') ∈ l := by
      conv => rhs; rw [← List.take_append_drop i l]
      simp only [List.mem_append, List.mem_singleton]
      constructor
      · rintro ((h | h) | h)
        · exact .inr (.inl h)
        · exact .inl h
        · exact .inr (.inr h)
      · rintro (h | h | h)
        · exact .inl (.inr h)
        · exact .inl (.inl h)
        · exact .inr h
    rw [hm]
    by_cases e : k' = k
    · subst e
      rw [updF_at]
      constructor
      · rintro (h7 | h7)
        · rw [(Prod.mk.inj h7).2]
        · exact absurd rfl (hn _ h7)
      · intro h7
        rw [Option.some.inj h7]; exact .inl rfl
    · rw [updF_ne g e, ← h.mem]
      exact ⟨fun h => h.resolve_left fun x => e (Prod.mk.inj x).1, .inr⟩
theorem Tim.found {l : List It} {g : Int → Option Int} (h : Tim l g) {i : Nat} {k a : Int} (hk : g k = some a) (h1 : ∀ z ∈ l.take i, ItLt z (k, a)) (h2 : ∀ z ∈ l.drop i, ¬ ItLt z (k, a)) : l[i]? = some (k, a) := by
  have hm := (h.mem k a).2 hk
  rw [← List.take_append_drop i l, List.mem_append] at hm
  rcases hm with hm | hm
  · exact absurd (h1 _ hm) ItLt.irrefl
  · have hs := h.srt
    rw [← List.take_append_drop i l, List.pairwise_append] at hs
    cases hd : l.drop i with
    | nil => rw [hd] at hm; cases hm
    | cons y r =>
      have hy : l[i]? = some y := by
        have := congrArg (·[0]?) hd
        simpa using this
      rw [hy]
      rw [hd] at hm
      rcases List.mem_cons.1 hm with rfl | hr
      · rfl
      · rw [hd] at hs
        exact absurd ((List.pairwise_cons.1 hs.2.1).1 _ hr) (h2 y (by rw [hd]; exact List.mem_cons_self ..))
instance tstop_ok [o : Hv w0 H w] [i : InK tabR t H x R] : Step (Cl P 187 #[.pointer (some ⟨t, 0, none⟩), .int .i64 k] K ⟨w, ds⟩) (x.1 ≤ 1000000000 ∧ ∀ w', Hv w0 (tabR t (x.1, updF x.2 k none) :: R) w' → K (.bool (x.2 k).isSome) ⟨w', ds⟩) := ⟨fun ⟨hN, h⟩ => by
  have o0 := i.hv o
  clear o
  refine s187 ?_
  unfold D187
  repeat' (first | refine go ?_ | intro _ | refine ⟨sb, ?_⟩ | refine ⟨sd, ?_⟩ | (refine ⟨fun h1 => ?_, fun h1 => ?_⟩ <;> first | exact ab h1 | ((try rw [h1]); (try simp only [bl] at h1))) | dsimp only)
  · rename_i w1 o1
    have e : x.2 k = none := by simpa using h1
    rw [e] at h
    refine h _ (cast ?_ o1)
    congr 3
    refine Prod.ext rfl (funext fun z => ?_)
    by_cases hz : z = k
    · rw [hz, e]; exact (updF_at ..).symm
    · exact (updF_ne _ hz _).symm
  · rename_i w1 o1
    obtain ⟨a, ea⟩ := Option.isSome_iff_exists.1 h1
    rw [ea] at h ⊢
    obtain ⟨l, v, m, h2, h3, o2⟩ := tab_open o1
    clear o0 o1
    simp only [Option.getD_some]
    repeat (first | refine go ?_ | intro _ | refine ⟨sb, ?_⟩ | refine ⟨sd, ?_⟩ | dsimp only)
    refine ⟨⟨by omega, h2.srt⟩, fun j w3 hj h4 h5 o3 => ?_⟩
    clear o2
    have h6 := h2.found ea h4 h5
    have hlt : j < l.length := (List.getElem?_eq_some_iff.1 h6).1
    repeat' (first | refine go ?_ | intro _ | refine ⟨sb, ?_⟩ | refine ⟨sd, ?_⟩ | (refine ⟨fun h1 => ?_, fun h1 => ?_⟩ <;> first | exact ab h1 | ((try rw [h1]); (try simp only [bl] at h1))) | dsimp only)
    · have el : (l.take j ++ l.drop (j + 1)).length = l.length - 1 := by simp; omega
      refine h _ (tab_shut (v := _) (l := l.take j ++ l.drop (j + 1)) (h2.stop h6) (by rw [el]; show l.length - 1 ≤ x.1; omega) (Sub.hv (subBox rfl (subRow ?_ rfl (subMpf (tmap_upd _ _ none) subEnd)))))
      rw [el]; omega
    · exact absurd h6 h1⟩
instance tset_ok [o : Hv w0 H w] [i : InK tabR t H x R] : Step (Cl P 143 #[.pointer (some ⟨t, 0, none⟩), .int .i64 k, .int .i64 a] K ⟨w, ds⟩) (x.1 < 1000000000 ∧ ∀ v w', Hv w0 (tabR t (x.1 + 1, updF x.2 k (some a)) :: R) w' → K v ⟨w', ds⟩) := ⟨fun ⟨hN, h⟩ => by
  have o0 := i.hv o
  clear o
  refine s143 ?_
  unfold D143
  repeat (first | refine go ?_ | intro _ | refine ⟨sb, ?_⟩ | refine ⟨sd, ?_⟩ | dsimp only)
  rename_i w1 o1
  obtain ⟨l, v, m, h2, h3, o2⟩ := tab_open o1
  dsimp only at h2 h3 o2
  clear o0 o1
  repeat (first | refine go ?_ | intro _ | refine ⟨sb, ?_⟩ | refine ⟨sd, ?_⟩ | dsimp only)
  refine ⟨⟨by omega, h2.srt⟩, fun j w3 hj h4 h5 o3 => ?_⟩
  clear o2
  repeat' (first | refine go ?_ | intro _ | refine ⟨sb, ?_⟩ | refine ⟨sd, ?_⟩ | (refine ⟨fun h1 => ?_, fun h1 => ?_⟩ <;> first | exact ab h1 | ((try rw [h1]); (try simp only [bl] at h1))) | dsimp only)
  have h6 := h2.put (k := k) (a := a) (updF_at _ _ _) h4 h5
  rw [updF_two] at h6
  have el : (l.take j ++ [(k, a)] ++ l.drop j).length = l.length + 1 := by simp; omega
  refine h _ _ (tab_shut (v := _) (l := l.take j ++ [(k, a)] ++ l.drop j) h6 (by rw [el]; show l.length + 1 ≤ x.1 + 1; omega) (Sub.hv (subBox rfl (subRow ?_ rfl (subMpf ?_ subEnd)))))
  · rw [el]
  · rw [← updF_two x.2 k none (some a), ← tmap_upd _ _ (some a)]; rfl⟩
end
end Go.Proofs.YtfgdalggkknffaaGreatDoor.Pl

namespace Go.Proofs.YtfgdalggkknffaaGreatDoor.Pl
open Go.Vx
structure Pst where
  (ping grace reg : Int)
  last : Int → Option Int
  (late ask dead : Tst)
abbrev Tst.stop (x : Tst) (k : Int) : Tst := (x.1, updF x.2 k none)
abbrev Tst.set (x : Tst) (k a : Int) : Tst := (x.1 + 1, updF x.2 k (some a))
def Pst.leave (x : Pst) (id : Int) : Pst := { x with last := updF x.last id none, late := x.late.stop id, ask := x.ask.stop id, dead := x.dead.stop id }
def Pst.join (x : Pst) (id now : Int) : Pst := { x.leave id with last := updF (x.leave id).last id (some now), late := (x.leave id).late.set id (now + x.reg) }
def Pst.reg1 (x : Pst) (id now : Int) : Pst := if (x.last id).isSome then { x with late := x.late.stop id, last := updF x.last id (some now), ask := x.ask.set id (now + x.ping), dead := x.dead.set id (now + x.ping + x.grace) } else x
def Pst.line (x : Pst) (id now : Int) : Pst := if (x.dead.2 id).isSome then x.reg1 id now else x
structure Pst.fit (x : Pst) : Prop where
  a : x.late.1 ≤ 300000000 ∧ x.ask.1 ≤ 300000000 ∧ x.dead.1 ≤ 300000000
  b : 0 ≤ x.ping ∧ x.ping ≤ 1000000000000 ∧ 0 ≤ x.grace ∧ x.grace ≤ 1000000000000 ∧ 0 ≤ x.reg ∧ x.reg ≤ 1000000000000
section
set_option maxRecDepth 20000
set_option synthInstance.maxSize 100000
set_option synthInstance.maxHeartbeats 4000000
def pulA (p : Nat) (x : Pst) (q : Nat × Nat × Nat × Nat) : SL := many [box p 182 [.int .i64 x.ping, .int .i64 x.grace, .int .i64 x.reg, .map (some q.1), .pointer (some ⟨q.2.1, 0, none⟩), .pointer (some ⟨q.2.2.1, 0, none⟩), .pointer (some ⟨q.2.2.2, 0, none⟩)],
  mpf q.1 intV (tmap x.last), tabR q.2.1 x.late, tabR q.2.2.1 x.ask, tabR q.2.2.2 x.dead]
def pulR (p : Nat) (x : Pst) : SL := any (pulA p x)
variable {K : Value → St → Prop} {w0 w : World} {H R : List SL} {ds : List Deferred} {p : Nat} {x : Pst} {id now : Int}
theorem pul_open (h : Hv w0 (pulR p x :: R) w) : ∃ m t1 t2 t3, Hv w0 (box p 182 [.int .i64 x.ping, .int .i64 x.grace, .int .i64 x.reg, .map (some m), .pointer (some ⟨t1, 0, none⟩), .pointer (some ⟨t2, 0, none⟩), .pointer (some ⟨t3, 0, none⟩)] ::
    mpf m intV (tmap x.last) :: tabR t1 x.late :: tabR t2 x.ask :: tabR t3 x.dead :: R) w := by
  obtain ⟨⟨m, t1, t2, t3⟩, h1⟩ := h.pick
  exact ⟨m, t1, t2, t3, h1.opens⟩
theorem subPul {H' R1 R2 R3 R4 R5 G : List SL} {m t1 t2 t3 : Nat} {a b c : Int} {g : Int → Option Value} {l2 a2 d2 : Tst} {x : Pst} [hb : BoxIn H' p 182 [.int .i64 a, .int .i64 b, .int .i64 c, .map (some m), .pointer (some ⟨t1, 0, none⟩), .pointer (some ⟨t2, 0, none⟩), .pointer (some ⟨t3, 0, none⟩)] R1] [hm : MpfIn R1 m intV g R2]
    [h1 : InK tabR t1 R2 l2 R3] [h2 : InK tabR t2 R3 a2 R4] [h3 : InK tabR t3 R4 d2 R5] (e1 : a = x.ping ∧ b = x.grace ∧ c = x.reg) (e2 : g = tmap x.last) (e3 : l2 = x.late) (e4 : a2 = x.ask) (e5 : d2 = x.dead) (k : Sub R5 G) : Sub H' (pulR p x :: G) := by
  obtain ⟨rfl, rfl, rfl⟩ := e1
  exact Sub.any (A := pulA p x) (m, t1, t2, t3) (Sub.many (subBox rfl (subMpf e2 (subK e3 (subK e4 (subK e5 k))))))
instance pnew_ok {s0 s1 s2 s3 : List UInt8} {n0 n1 n2 n3 n4 n5 n6 n7 a b c : Int} [o : Hv w0 H w] : Step (Cl P 82 #[.agg #[str s0, str s1, str s2, str s3, .int .i64 n0, .int .i64 n1, .int .i64 n2, .int .i64 n3, .int .i64 n4, .int .i64 n5, .int .i64 n6, .int .i64 n7, .int .i64 a, .int .i64 b, .int .i64 c]] K ⟨w, ds⟩)
    (∀ p w', Hv w0 (pulR p ⟨max a 1, max b 1, max c 1, fun _ => none, (0, fun _ => none), (0, fun _ => none), (0, fun _ => none)⟩ :: H) w' → K (.pointer (some ⟨p, 0, none⟩)) ⟨w', ds⟩) := ⟨fun h => by
  refine s82 ?_
  unfold D82
  repeat' (first | refine go ?_ | intro _ | refine ⟨sb, ?_⟩ | refine ⟨sd, ?_⟩ | (refine ⟨fun h1 => ?_, fun h1 => ?_⟩ <;> first | exact ab h1 | ((try rw [h1]); (try simp only [bl] at h1))) | refine And.intro (?_ : Cl _ _ _ _ _) ?_ | refine And.intro (?_ : Mm _ _ _ _ _) ?_ | dsimp only)
  all_goals exact h _ _ (Sub.hv (subPul ⟨rfl, rfl, rfl⟩ rfl rfl rfl rfl subEnd))⟩
instance pleave_ok [o : Hv w0 H w] [i : InK pulR p H x R] : Step (Cl P 142 #[.pointer (some ⟨p, 0, none⟩), .int .i64 id] K ⟨w, ds⟩) (x.fit ∧ ∀ v w', Hv w0 (pulR p (x.leave id) :: R) w' → K v ⟨w', ds⟩) := ⟨fun ⟨hf, h⟩ => by
  obtain ⟨⟨f1, f2, f3⟩, _⟩ := hf
  obtain ⟨m, t1, t2, t3, o1⟩ := pul_open (i.hv o)
  clear o
  refine s142 ?_
  unfold D142
  repeat' (first | refine go ?_ | intro _ | refine ⟨sb, ?_⟩ | refine ⟨sd, ?_⟩ | (refine ⟨fun h1 => ?_, fun h1 => ?_⟩ <;> first | exact ab h1 | ((try rw [h1]); (try simp only [bl] at h1))) | dsimp only)
  exact h _ _ (Sub.hv (subPul ⟨rfl, rfl, rfl⟩ (tmap_upd _ _ none) rfl rfl rfl subEnd))⟩
instance pjoin_ok [o : Hv w0 H w] [i : InK pulR p H x R] : Step (Cl P 114 #[.pointer (some ⟨p, 0, none⟩), .int .i64 id, .int .i64 now] K ⟨w, ds⟩) ((x.fit ∧ 0 ≤ now ∧ now ≤ 1000000000000) ∧ ∀ v w', Hv w0 (pulR p (x.join id now) :: R) w' → K v ⟨w', ds⟩) := ⟨fun ⟨⟨hf, n1, n2⟩, h⟩ => by
  have o0 := i.hv o
  clear o
  refine s114 ?_
  unfold D114
  repeat (first | refine go ?_ | intro _ | refine ⟨sb, ?_⟩ | refine ⟨sd, ?_⟩ | dsimp only)
  rename_i u w1 o1
  obtain ⟨⟨f1, f2, f3⟩, g1, g2, g3, g4, g5, g6⟩ := hf
  obtain ⟨m, t1, t2, t3, o2⟩ := pul_open o1
  clear o0 o1
  have e1 : (x.leave id).reg = x.reg := rfl
  have e2 : (x.leave id).late.1 = x.late.1 := rfl
  repeat' (first | refine go ?_ | intro _ | refine ⟨sb, ?_⟩ | refine ⟨sd, ?_⟩ | (refine ⟨fun h1 => ?_, fun h1 => ?_⟩ <;> first | exact ab h1 | ((try rw [h1]); (try simp only [bl] at h1))) | dsimp only)
  exact h _ _ (Sub.hv (subPul ⟨rfl, rfl, rfl⟩ (tmap_upd _ _ (some now)) rfl rfl rfl subEnd))⟩
theorem isSome_map (o : Option Int) : (o.map intV).isSome = o.isSome := by cases o <;> rfl
theorem x_same (h : Hv w0 (pulR p x :: R) w) {y : Pst} (e : y = x) : Hv w0 (pulR p y :: R) w := by rw [e]; exact h
instance preg_ok [o : Hv w0 H w] [i : InK pulR p H x R] : Step (Cl P 193 #[.pointer (some ⟨p, 0, none⟩), .int .i64 id, .int .i64 now] K ⟨w, ds⟩) ((x.fit ∧ 0 ≤ now ∧ now ≤ 1000000000000) ∧ ∀ v w', Hv w0 (pulR p (x.reg1 id now) :: R) w' → K v ⟨w', ds⟩) := ⟨fun ⟨⟨hf, n1, n2⟩, h⟩ => by
  obtain ⟨⟨f1, f2, f3⟩, g1, g2, g3, g4, g5, g6⟩ := hf
  obtain ⟨m, t1, t2, t3, o1⟩ := pul_open (i.hv o)
  clear o
  refine s193 ?_
  unfold D193
  repeat' (first | refine go ?_ | intro _ | refine ⟨sb, ?_⟩ | refine ⟨sd, ?_⟩ | (refine ⟨fun h1 => ?_, fun h1 => ?_⟩ <;> first | exact ab h1 | ((try rw [h1]); (try simp only [bl] at h1))) | dsimp only)
  · rw [isSome_map] at h1
    refine h _ _ (x_same (x := x) (Sub.hv (subPul ⟨rfl, rfl, rfl⟩ rfl rfl rfl rfl subEnd)) ?_)
    unfold Pst.reg1; rw [if_neg (by simp [h1])]
  · rw [isSome_map] at h1
    have e : x.reg1 id now = { x with late := x.late.stop id, last := updF x.last id (some now), ask := x.ask.set id (now + x.ping), dead := x.dead.set id (now + x.ping + x.grace) } := by unfold Pst.reg1; rw [if_pos h1]
    rw [e] at h
    exact h _ _ (Sub.hv (subPul ⟨rfl, rfl, rfl⟩ (tmap_upd _ _ (some now)) rfl rfl rfl subEnd))⟩
instance pline_ok [o : Hv w0 H w] [i : InK pulR p H x R] : Step (Cl P 145 #[.pointer (some ⟨p, 0, none⟩), .int .i64 id, .int .i64 now] K ⟨w, ds⟩) ((x.fit ∧ 0 ≤ now ∧ now ≤ 1000000000000) ∧ ∀ v w', Hv w0 (pulR p (x.line id now) :: R) w' → K v ⟨w', ds⟩) := ⟨fun ⟨⟨hf, n1, n2⟩, h⟩ => by
  obtain ⟨m, t1, t2, t3, o1⟩ := pul_open (i.hv o)
  clear o
  refine s145 ?_
  unfold D145
  repeat' (first | refine go ?_ | intro _ | refine ⟨sb, ?_⟩ | refine ⟨sd, ?_⟩ | (refine ⟨fun h1 => ?_, fun h1 => ?_⟩ <;> first | exact ab h1 | ((try rw [h1]); (try simp only [bl] at h1))) | dsimp only)
  · rename_i w1 o2
    have o3 : Hv w0 (pulR p x :: R) w1 := Sub.hv (subPul ⟨rfl, rfl, rfl⟩ rfl rfl rfl rfl subEnd)
    clear o1 o2
    have e : x.line id now = x.reg1 id now := by unfold Pst.line; rw [if_pos h1]
    rw [e] at h
    repeat' (first | refine go ?_ | intro _ | refine ⟨sb, ?_⟩ | refine ⟨sd, ?_⟩ | (refine ⟨fun h1 => ?_, fun h1 => ?_⟩ <;> first | exact ab h1 | ((try rw [h1]); (try simp only [bl] at h1))) | dsimp only)
    exact h _ _ (Sub.hv (subK rfl subEnd))
  · refine h _ _ (x_same (x := x) (Sub.hv (subPul ⟨rfl, rfl, rfl⟩ rfl rfl rfl rfl subEnd)) ?_)
    unfold Pst.line; rw [if_neg (by simp [h1])]⟩
end
end Go.Proofs.YtfgdalggkknffaaGreatDoor.Pl

namespace Go.Proofs.YtfgdalggkknffaaGreatDoor
open Go.Vx Go.Lib
abbrev Mem := Int × Bool × Bool
abbrev encM (x : Mem) : List Value := [.int .i64 x.1, .bool x.2.1, .bool x.2.2]
abbrev mid (x : Mem) : Int := x.1
structure Rm where
  (name topic key : List UInt8)
  (mb flags limit : Int)
  mem : List Mem
  bans : List (List UInt8)
  inv : List Int
structure Rm.ok (x : Rm) : Prop where
  ris : Ris mid x.mem
  flg : 0 ≤ x.flags ∧ x.flags < 32
  lim : 0 ≤ x.limit ∧ x.limit ≤ 9999
  key : x.key.length ≤ 23
  ban : ∀ b ∈ x.bans, b.length ≤ 100
  sz : x.topic.length ≤ 200
section
set_option maxRecDepth 20000
set_option synthInstance.maxSize 100000
set_option synthInstance.maxHeartbeats 4000000
def roomA (p : Nat) (x : Rm) (q : Value × Value × Nat) : SL := many [lift x.ok, box p 364 [str x.name, .int .i64 x.mb, q.1, str x.topic, .int .i64 x.flags, str x.key, .int .i64 x.limit, q.2.1, .pointer (some ⟨q.2.2, 0, none⟩)],
  row 320 3 q.1 x.mem.length (x.mem.flatMap encM), row 9 1 q.2.1 x.bans.length (x.bans.map str), setR q.2.2 x.inv]
def roomR (p : Nat) (x : Rm) : SL := any (roomA p x)
variable {K : Value → St → Prop} {w0 w : World} {H R : List SL} {ds : List Deferred} {p : Nat} {x : Rm} {id now : Int}
end
end Go.Proofs.YtfgdalggkknffaaGreatDoor

namespace Go.Proofs.YtfgdalggkknffaaGreatDoor
open Go.Vx Go.Lib
structure Per where
  id : Int
  (nick user host real away : List UInt8)
  (oper hid : Bool)
  (sig spo : Int)
deriving Inhabited
abbrev encP (x : Per) : List Value := [.int .i64 x.id, str x.nick, str x.user, str x.host, str x.real, str x.away, .bool x.oper, .bool x.hid, .int .i64 x.sig, .int .i64 x.spo]
structure Sgn where
  caps : Int
  talk : Bool
  (pass nick user real : List UInt8)
  done : Bool
structure Cfg where
  (name pass opn opp : List UInt8)
  (conns send joined rooms bans watch mon was ping grace reg : Int)
abbrev encCf (x : Cfg) : List Value := [str x.name, str x.pass, str x.opn, str x.opp, .int .i64 x.conns, .int .i64 x.send, .int .i64 x.joined, .int .i64 x.rooms, .int .i64 x.bans, .int .i64 x.watch, .int .i64 x.mon, .int .i64 x.was, .int .i64 x.ping, .int .i64 x.grace, .int .i64 x.reg]
structure Cn where
  p : Per
  s : Sgn
  q : Qu
  f : Fst
  gone : Bool
abbrev Thg := List UInt8 × Per
abbrev encT (x : Thg) : List Value := str x.1 :: encP x.2
structure Wst where
  (most next : Int)
  l : List Thg
abbrev EntR := List UInt8 × Nat × Rm
abbrev encER (x : EntR) : List Value := [str x.1, ptrV x.2.1]
structure Rs where
  cf : Cfg
  most : Int
  l : List EntR
  on : Rl
section
set_option maxRecDepth 20000
set_option synthInstance.maxSize 100000
set_option synthInstance.maxHeartbeats 4000000
def wasA (p : Nat) (x : Wst) (v : Value) : SL := many [box p 165 [.int .i64 x.most, v, .int .i64 x.next], row 325 11 v x.l.length (x.l.flatMap encT)]
def wasR (p : Nat) (x : Wst) : SL := any (wasA p x)
def roomsA (p : Nat) (x : Rs) (q : Nat × Nat × Value) : SL := many [box p 174 [str x.cf.name, str x.cf.pass, str x.cf.opn, str x.cf.opp, .int .i64 x.cf.conns, .int .i64 x.cf.send, .int .i64 x.cf.joined, .int .i64 x.cf.rooms, .int .i64 x.cf.bans, .int .i64 x.cf.watch, .int .i64 x.cf.mon, .int .i64 x.cf.was, .int .i64 x.cf.ping, .int .i64 x.cf.grace, .int .i64 x.cf.reg, ptrV q.1, ptrV q.2.1],
  box q.1 222 [.int .i64 x.most, q.2.2], row 420 2 q.2.2 x.l.length (x.l.flatMap encER), relR q.2.1 x.on, many (x.l.map fun e => roomR e.2.1 e.2.2)]
def roomsR (p : Nat) (x : Rs) : SL := any (roomsA p x)
def connA (b : Nat) (x : Cn) (q : Nat × Nat) : SL := many [box b 192 [.int .i64 x.p.id, str x.p.nick, str x.p.user, str x.p.host, str x.p.real, str x.p.away, .bool x.p.oper, .bool x.p.hid, .int .i64 x.p.sig, .int .i64 x.p.spo,
  .int .i64 x.s.caps, .bool x.s.talk, str x.s.pass, str x.s.nick, str x.s.user, str x.s.real, .bool x.s.done, ptrV q.1, ptrV q.2, .bool x.gone], queueR q.1 x.q, framer q.2 x.f]
def connR (b : Nat) (y : Nat × Cn) : SL := many [lift (b = y.1), any (connA b y.2)]
structure Cs where
  cf : Cfg
  now : Int
  conns : Int → Option (Nat × Cn)
  n : Nat
  hold : Bk
  rooms : Rs
  mon : Ws
  watch : Ws
  past : Wst
  pulse : Pl.Pst
  dying : List Int
structure Ptrs where
  (m h r mo wa pa pu : Nat)
  vd : Value
def coreA (p : Nat) (x : Cs) (q : Ptrs) : SL := many [box p 135 [str x.cf.name, str x.cf.pass, str x.cf.opn, str x.cf.opp, .int .i64 x.cf.conns, .int .i64 x.cf.send, .int .i64 x.cf.joined, .int .i64 x.cf.rooms, .int .i64 x.cf.bans, .int .i64 x.cf.watch, .int .i64 x.cf.mon, .int .i64 x.cf.was, .int .i64 x.cf.ping, .int .i64 x.cf.grace, .int .i64 x.cf.reg,
    .int .i64 x.now, .map (some q.m), ptrV q.h, ptrV q.r, ptrV q.mo, ptrV q.wa, ptrV q.pa, ptrV q.pu, q.vd],
  mapO q.m intV connR x.conns x.n, bookR q.h x.hold, roomsR q.r x.rooms, wishR q.mo x.mon, wishR q.wa x.watch, wasR q.pa x.past, Pl.pulR q.pu x.pulse, row 3 1 q.vd x.dying.length (x.dying.map intV)]
def coreR (p : Nat) (x : Cs) : SL := any (coreA p x)
variable {K : Value → St → Prop} {w0 w : World} {H R : List SL} {ds : List Deferred} {p n : Nat} {v : Value} {l : List UInt8} {z id : Int}
theorem subRest (R : List SL) : Sub R R := ⟨fun h => ⟨_, fun _ hb => hb, h⟩⟩
abbrev coreB (p : Nat) (cf : Cfg) (now : Int) (q : Ptrs) : SL := box p 135 [str cf.name, str cf.pass, str cf.opn, str cf.opp, .int .i64 cf.conns, .int .i64 cf.send, .int .i64 cf.joined, .int .i64 cf.rooms, .int .i64 cf.bans, .int .i64 cf.watch, .int .i64 cf.mon, .int .i64 cf.was, .int .i64 cf.ping, .int .i64 cf.grace, .int .i64 cf.reg,
    .int .i64 now, .map (some q.m), ptrV q.h, ptrV q.r, ptrV q.mo, ptrV q.wa, ptrV q.pa, ptrV q.pu, q.vd]
theorem core_open {x : Cs} (h : Hv w0 (coreR p x :: R) w) : ∃ q : Ptrs, Hv w0 (coreB p x.cf x.now q ::
    mapO q.m intV connR x.conns x.n :: bookR q.h x.hold :: roomsR q.r x.rooms :: wishR q.mo x.mon :: wishR q.wa x.watch :: wasR q.pa x.past :: Pl.pulR q.pu x.pulse :: row 3 1 q.vd x.dying.length (x.dying.map intV) :: R) w := by
  obtain ⟨q, h1⟩ := h.pick
  exact ⟨q, h1.opens⟩
theorem core_shut {x : Cs} {q : Ptrs} (h : Hv w0 (coreB p x.cf x.now q ::
    mapO q.m intV connR x.conns x.n :: bookR q.h x.hold :: roomsR q.r x.rooms :: wishR q.mo x.mon :: wishR q.wa x.watch :: wasR q.pa x.past :: Pl.pulR q.pu x.pulse :: row 3 1 q.vd x.dying.length (x.dying.map intV) :: R) w) : Hv w0 (coreR p x :: R) w :=
  Hv.give (A := coreA p x) q (Hv.closes (H := [_, _, _, _, _, _, _, _, _]) h)
theorem conn_open {b : Nat} {y : Nat × Cn} (h : Hv w0 (connR b y :: R) w) : b = y.1 ∧ ∃ q f, Hv w0 (box b 192 [.int .i64 y.2.p.id, str y.2.p.nick, str y.2.p.user, str y.2.p.host, str y.2.p.real, str y.2.p.away, .bool y.2.p.oper, .bool y.2.p.hid, .int .i64 y.2.p.sig, .int .i64 y.2.p.spo,
  .int .i64 y.2.s.caps, .bool y.2.s.talk, str y.2.s.pass, str y.2.s.nick, str y.2.s.user, str y.2.s.real, .bool y.2.s.done, ptrV q, ptrV f, .bool y.2.gone] :: queueR q y.2.q :: framer f y.2.f :: R) w := by
  have h1 : Hv w0 (lift (b = y.1) :: any (connA b y.2) :: R) w := h.opens
  obtain ⟨⟨q, f⟩, h2⟩ := h1.tail.pick
  exact ⟨h1.lifted, q, f, h2.opens⟩
theorem subConn {H' R1 R2 R3 G : List SL} {b q f : Nat} {y : Nat × Cn} {xs : List Value} {qu : Qu} {fs : Fst} [i : BoxIn H' b 192 xs R1] [j : InK queueR q R1 qu R2] [k : InK framer f R2 fs R3] (e0 : b = y.1)
    (e1 : xs = [.int .i64 y.2.p.id, str y.2.p.nick, str y.2.p.user, str y.2.p.host, str y.2.p.real, str y.2.p.away, .bool y.2.p.oper, .bool y.2.p.hid, .int .i64 y.2.p.sig, .int .i64 y.2.p.spo,
  .int .i64 y.2.s.caps, .bool y.2.s.talk, str y.2.s.pass, str y.2.s.nick, str y.2.s.user, str y.2.s.real, .bool y.2.s.done, ptrV q, ptrV f, .bool y.2.gone]) (e2 : qu = y.2.q) (e3 : fs = y.2.f) (g : Sub R3 G) : Sub H' (connR b y :: G) := by
  subst e1
  exact Sub.many (Sub.lift e0 (Sub.any (A := connA b y.2) (q, f) (Sub.many (subBox rfl (subK e2 (subK e3 g))))))
def Cs.live (x : Cs) (id : Int) : Option (Nat × Cn) := match x.conns id with | some y => if y.2.gone then none else some y | none => none
theorem core_at {x : Cs} {y : Nat × Cn} (h : Hv w0 (coreR p x :: R) w) (hy : x.conns id = some y) : ∃ (q : Ptrs) (g : Int → Option Value) (M : SL) (qq ff : Nat), AtS g id (ptrV y.1) ∧ Hv w0 (coreB p x.cf x.now q :: mpn q.m intV g x.n ::
      box y.1 192 [.int .i64 y.2.p.id, str y.2.p.nick, str y.2.p.user, str y.2.p.host, str y.2.p.real, str y.2.p.away, .bool y.2.p.oper, .bool y.2.p.hid, .int .i64 y.2.p.sig, .int .i64 y.2.p.spo,
  .int .i64 y.2.s.caps, .bool y.2.s.talk, str y.2.s.pass, str y.2.s.nick, str y.2.s.user, str y.2.s.real, .bool y.2.s.done, ptrV qq, ptrV ff, .bool y.2.gone] :: queueR qq y.2.q :: framer ff y.2.f :: M :: bookR q.h x.hold :: roomsR q.r x.rooms :: wishR q.mo x.mon :: wishR q.wa x.watch :: wasR q.pa x.past :: Pl.pulR q.pu x.pulse :: row 3 1 q.vd x.dying.length (x.dying.map intV) :: R) w ∧
    (∀ {y' : Cn}, Wnd w0 [mpn q.m intV g x.n, connR y.1 (y.1, y'), M] [mapO q.m intV connR (updF x.conns id (some (y.1, y'))) x.n]) ∧
    (∀ {n' : Nat}, Wnd w0 [mpn q.m intV (updF g id none) n', M] [mapO q.m intV connR (updF x.conns id none) n']) := by
  obtain ⟨q, h1⟩ := core_open h
  obtain ⟨b, g, M, ha, h2, c1, c2, c3⟩ := (Hv.pm (List.Perm.swap ..) h1).mapAt hy
  have h3 : Hv w0 (connR b y :: mpn q.m intV g x.n :: M :: _) w := Hv.pm (List.Perm.swap ..) h2
  obtain ⟨rfl, qq, ff, h4⟩ := conn_open h3
  refine ⟨q, g, M, qq, ff, ha, ?_, c2, c3⟩
  exact Sub.hv (o := h4) (subBox rfl (subMpn rfl rfl (subBox rfl (subK rfl (subK rfl (subT (subK rfl (subK rfl (subK rfl (subK rfl (subK rfl (subK rfl (subRow rfl rfl (subRest _))))))))))))))
end
end Go.Proofs.YtfgdalggkknffaaGreatDoor

namespace Go.Proofs.YtfgdalggkknffaaGreatDoor
open Go.Vx Go.Lib
section
set_option maxRecDepth 20000
set_option synthInstance.maxSize 100000
set_option synthInstance.maxHeartbeats 4000000
def lenS (l : List UInt8) (a b : Int) : Bool := !(decide ((l.length : Int) < a) || decide (b < (l.length : Int)))
def hostS (l : List UInt8) : Bool := (lenS l 1 63 && allK 16 l) && !decide (l.getD 0 default = 58)
theorem hostS_pos {l : List UInt8} (h : hostS l = true) : 0 < l.length := by
  simp [hostS, lenS] at h; omega
def serverS (l : List UInt8) : Bool := ((hostS l && letterI (l.getD 0 default).toNat) && l.contains 46) && !l.contains 58
instance host_ok {K : Value → St → Prop} {w0 w : World} {H : List SL} {ds : List Deferred} {l : List UInt8} [o : Hv w0 H w] :
    Step (Cl P 111 #[str l] K ⟨w, ds⟩) (l.length ≤ 1000000000 ∧ ∀ w', Hv w0 H w' → K (.bool (hostS l)) ⟨w', ds⟩) := ⟨fun ⟨hl, h⟩ => by
  refine s111 ?_
  unfold D111
  repeat' (first | refine go ?_ | intro _ | refine ⟨sb, ?_⟩ | refine ⟨sd, ?_⟩ | (refine ⟨fun h1 => ?_, fun h1 => ?_⟩ <;> first | exact ab h1 | ((try rw [h1]); (try simp only [bl] at h1))) | dsimp only)
  exact h _ ‹_›⟩
instance server_ok {K : Value → St → Prop} {w0 w : World} {H : List SL} {ds : List Deferred} {l : List UInt8} [o : Hv w0 H w] :
    Step (Cl P 105 #[str l] K ⟨w, ds⟩) (l.length ≤ 1000000000 ∧ ∀ w', Hv w0 H w' → K (.bool (serverS l)) ⟨w', ds⟩) := ⟨fun ⟨hl, h⟩ => by
  have hp := @hostS_pos l
  refine s105 ?_
  unfold D105
  repeat' (first | refine go ?_ | intro _ | refine ⟨sb, ?_⟩ | refine ⟨sd, ?_⟩ | (refine ⟨fun h1 => ?_, fun h1 => ?_⟩ <;> first | exact ab h1 | ((try rw [h1]); (try simp only [bl] at h1))) | dsimp only)
  refine And.intro (Sd.mk fun hq => ⟨by have := hp hq; omega, trivial⟩) ?_
  repeat' (first | refine go ?_ | intro _ | refine ⟨sb, ?_⟩ | refine ⟨sd, ?_⟩ | (refine ⟨fun h1 => ?_, fun h1 => ?_⟩ <;> first | exact ab h1 | ((try rw [h1]); (try simp only [bl] at h1))) | dsimp only)
  exact h _ ‹_›⟩
def okc (c : UInt8) : Bool := !(decide (c < 33) || decide (126 < c))
def secretS (l : List UInt8) : Bool := !(decide (50 < (l.length : Int)) || (!decide (l = []) && decide (l.getD 0 default = 58))) && l.all okc
instance secret_ok {w : World} {l : List UInt8} : VS (Cl P 106 #[str l]) w (l.length ≤ 1000000000) (.bool (secretS l)) := ⟨fun hl {K ds} h => by
  refine s106 ?_
  unfold D106
  repeat' (first | refine go ?_ | intro _ | refine ⟨sb, ?_⟩ | refine ⟨sd, ?_⟩ | (refine ⟨fun h1 => ?_, fun h1 => ?_⟩ <;> first | exact ab h1 | ((try rw [h1]); (try simp only [bl] at h1))) | dsimp only)
  refine And.intro (Sd.mk ⟨fun _ => trivial, fun _ h => ⟨by simp at h; have := List.length_pos_iff.2 h; omega, trivial⟩⟩) ?_
  cases hh : (decide (50 < (l.length : Int)) || (!decide (l = []) && decide (l.getD 0 default = 58))) with
  | true =>
    repeat' (first | refine go ?_ | intro _ | refine ⟨sb, ?_⟩ | refine ⟨sd, ?_⟩ | (refine ⟨fun h1 => ?_, fun h1 => ?_⟩ <;> first | exact ab h1 | ((try rw [h1]); (try simp only [bl] at h1))) | dsimp only)
    refine cast (congrArg (fun b => K (.bool b) _) ?_) h
    unfold secretS; rw [hh]; rfl
  | false =>
    repeat' (first | refine go ?_ | intro _ | refine ⟨sb, ?_⟩ | refine ⟨sd, ?_⟩ | (refine ⟨fun h1 => ?_, fun h1 => ?_⟩ <;> first | exact ab h1 | ((try rw [h1]); (try simp only [bl] at h1))) | dsimp only)
    have hs : secretS l = l.all okc := by unfold secretS; rw [hh]; rfl
    rw [hs] at h
    refine ⟨fun y s => ∃ (i : Nat), y = .int .i64 i ∧ s = ⟨w, []⟩ ∧ i ≤ l.length ∧ (l.take i).all okc = true,
      fun y s => match y with | .int _ z => l.length - z.toNat | _ => 0, ⟨0, rfl, rfl, Nat.zero_le _, rfl⟩, ?_⟩
    rintro y s ⟨i, rfl, rfl, hi, he⟩
    rcases Nat.lt_or_ge i l.length with hlt | hge
    · repeat' (first | refine go ?_ | intro _ | refine ⟨sb, ?_⟩ | refine ⟨sd, ?_⟩ | (refine ⟨fun h1 => ?_, fun h1 => ?_⟩ <;> first | exact ab h1 | ((try rw [h1]); (try simp only [bl] at h1))) | dsimp only)
      · have hb : okc (l.getD i default) = false := by unfold okc; grind
        rw [all_at hlt hb] at h
        exact h
      · have hb : okc (l.getD i default) = true := by unfold okc; grind
        exact ⟨⟨i + 1, rfl, rfl, hlt, by rw [all_take hlt, he, hb]; rfl⟩, by simp; omega⟩
      · exfalso; revert h1; simp; omega
    · rw [List.take_of_length_le hge] at he
      rw [he] at h
      repeat' (first | refine go ?_ | intro _ | refine ⟨sb, ?_⟩ | refine ⟨sd, ?_⟩ | (refine ⟨fun h1 => ?_, fun h1 => ?_⟩ <;> first | exact ab h1 | ((try rw [h1]); (try simp only [bl] at h1))) | dsimp only)
      all_goals first
        | (exfalso; omega)
        | exact h⟩
abbrev Bnd := Int × Int × Int
abbrev encB (b : Bnd) : List Value := [.int .i64 b.1, .int .i64 b.2.1, .int .i64 b.2.2]
instance : UEnc encB 3 := ⟨fun _ => rfl⟩
def okB (b : Bnd) : Bool := !(decide (b.1 < b.2.1) || decide (b.2.2 < b.1))
def bnds (c : Cfg) : List Bnd := [(c.conns, 1, 1000), (c.send, 512, 65536), (c.joined, 1, 1000), (c.rooms, 1, 1000), (c.bans, 1, 1000), (c.watch, 1, 1000), (c.mon, 1, 1000), (c.was, 0, 1000), (c.ping, 1, 1000000), (c.grace, 1, 1000000), (c.reg, 1, 1000000)]
def badF (c : Cfg) : Bool := ((((!serverS c.name || !secretS c.pass) || !secretS c.opn) || !secretS c.opp) || (decide (c.opn = []) != decide (c.opp = [])))
def checkS (c : Cfg) : Int := if badF c then 4 else if (bnds c).all okB then 0 else 2
theorem ball_take {l : List Bnd} {i : Nat} (h : i < l.length) : (l.take (i + 1)).all okB = ((l.take i).all okB && okB (l.getD i default)) := by
  rw [take_snoc h]; simp [-List.getD_eq_getElem?_getD]
theorem ball_at {l : List Bnd} {i : Nat} (h : i < l.length) (hp : okB (l.getD i default) = false) : l.all okB = false := by
  cases h2 : l.all okB with
  | false => rfl
  | true =>
    have := List.all_eq_true.1 h2 (l.getD i default) (by simp [h])
    rw [hp] at this; cases this
instance check_ok {K : Value → St → Prop} {w0 w : World} {H : List SL} {ds : List Deferred} {a b c d : List UInt8} {n4 n5 n6 n7 n8 n9 n10 n11 n12 n13 n14 : Int} [o : Hv w0 H w] :
    Step (Cl P 77 #[.agg #[str a, str b, str c, str d, .int .i64 n4, .int .i64 n5, .int .i64 n6, .int .i64 n7, .int .i64 n8, .int .i64 n9, .int .i64 n10, .int .i64 n11, .int .i64 n12, .int .i64 n13, .int .i64 n14]] K ⟨w, ds⟩)
      ((a.length ≤ 1000000000 ∧ b.length ≤ 1000000000 ∧ c.length ≤ 1000000000 ∧ d.length ≤ 1000000000) ∧ ∀ w', Hv w0 H w' → K (.int .i64 (checkS ⟨a, b, c, d, n4, n5, n6, n7, n8, n9, n10, n11, n12, n13, n14⟩)) ⟨w', ds⟩) := ⟨fun ⟨⟨ha, hb, hc, hd⟩, h⟩ => by
  refine s77 ?_
  unfold D77
  repeat' (first | refine go ?_ | intro _ | refine ⟨sb, ?_⟩ | refine ⟨sd, ?_⟩ | (refine ⟨fun h1 => ?_, fun h1 => ?_⟩ <;> first | exact ab h1 | ((try rw [h1]); (try simp only [bl] at h1))) | dsimp only)
  · have hb : badF ⟨a, b, c, d, n4, n5, n6, n7, n8, n9, n10, n11, n12, n13, n14⟩ = true := by unfold badF; dsimp only; grind
    have e : checkS ⟨a, b, c, d, n4, n5, n6, n7, n8, n9, n10, n11, n12, n13, n14⟩ = 4 := by unfold checkS; rw [if_pos hb]
    rw [e] at h
    exact h _ (Sub.hv subEnd)
  have hb : badF ⟨a, b, c, d, n4, n5, n6, n7, n8, n9, n10, n11, n12, n13, n14⟩ = false := by unfold badF; dsimp only; grind
  have e : checkS ⟨a, b, c, d, n4, n5, n6, n7, n8, n9, n10, n11, n12, n13, n14⟩ = if (bnds ⟨a, b, c, d, n4, n5, n6, n7, n8, n9, n10, n11, n12, n13, n14⟩).all okB then 0 else 2 := by unfold checkS; rw [if_neg (by rw [hb]; decide)]
  rw [e] at h
  clear e
  rename_i v w1 o1
  have o2 : Hv w0 (row 158 3 v 11 ((bnds ⟨a, b, c, d, n4, n5, n6, n7, n8, n9, n10, n11, n12, n13, n14⟩).flatMap encB) :: H) w1 := Sub.hv (subRow rfl rfl subEnd)
  have hlen : (bnds ⟨a, b, c, d, n4, n5, n6, n7, n8, n9, n10, n11, n12, n13, n14⟩).length = 11 := rfl
  clear o1
  generalize bnds ⟨a, b, c, d, n4, n5, n6, n7, n8, n9, n10, n11, n12, n13, n14⟩ = bl at *
  refine ⟨fun y s => ∃ (i : Nat) (w' : World), y = .int .i64 i ∧ s = ⟨w', []⟩ ∧ i ≤ 11 ∧ (bl.take i).all okB = true ∧ Hv w0 (row 158 3 v 11 (bl.flatMap encB) :: H) w',
    fun y s => match y with | .int _ z => 11 - z.toNat | _ => 0, ⟨0, w1, rfl, rfl, Nat.zero_le _, rfl, o2⟩, ?_⟩
  rintro y s ⟨i, w2, rfl, rfl, hi, he, o3⟩
  rcases Nat.lt_or_ge i 11 with hl1 | hge
  · have hlt : i < bl.length := by omega
    repeat' (first | refine go ?_ | intro _ | refine ⟨sb, ?_⟩ | refine ⟨sd, ?_⟩ | (refine ⟨fun h1 => ?_, fun h1 => ?_⟩ <;> first | exact ab h1 | ((try rw [h1]); (try simp only [bl] at h1))) | dsimp only)
    · have hb : okB (bl.getD i default) = false := by unfold okB; clear h; grind
      rw [ball_at hlt hb] at h
      exact h _ (Sub.hv subEnd)
    · have hb : okB (bl.getD i default) = true := by unfold okB; clear h; grind
      exact ⟨⟨i + 1, _, rfl, rfl, by omega, by rw [ball_take hlt, he, hb]; rfl, Sub.hv (subRow rfl rfl subEnd)⟩, by simp; omega⟩
    · exfalso; revert h1; simp; omega
  · repeat' (first | refine go ?_ | intro _ | refine ⟨sb, ?_⟩ | refine ⟨sd, ?_⟩ | (refine ⟨fun h1 => ?_, fun h1 => ?_⟩ <;> first | exact ab h1 | ((try rw [h1]); (try simp only [bl] at h1))) | dsimp only)
    · exfalso; revert h1; simp; omega
    · rw [List.take_of_length_le (by omega)] at he
      rw [he] at h
      exact h _ (Sub.hv subEnd)⟩
end
end Go.Proofs.YtfgdalggkknffaaGreatDoor

namespace Go.Proofs.YtfgdalggkknffaaGreatDoor
open Go.Vx Go.Lib
def Cs.new (c : Cfg) : Cs := ⟨c, 0, fun _ => none, 0, ⟨1000, []⟩, ⟨c, max 0 (min c.rooms 1000), [], .new (max 0 (min c.joined 1000))⟩, .new c.mon, .new c.watch, ⟨c.was, 0, []⟩, ⟨max c.ping 1, max c.grace 1, max c.reg 1, fun _ => none, (0, fun _ => none), (0, fun _ => none), (0, fun _ => none)⟩, []⟩
theorem check_was {c : Cfg} (h : checkS c = 0) : 0 ≤ c.was ∧ c.was ≤ 1000 := by
  unfold checkS at h
  split at h
  · cases h
  split at h
  · rename_i hb
    have := List.all_eq_true.1 hb (c.was, 0, 1000) (by simp [bnds])
    simp [okB] at this; omega
  · cases h
section
set_option maxRecDepth 20000
set_option synthInstance.maxSize 100000
set_option synthInstance.maxHeartbeats 4000000
variable {K : Value → St → Prop} {w0 w : World} {H R : List SL} {ds : List Deferred} {p n : Nat} {v : Value} {l : List UInt8} {z id : Int} {a b c d : List UInt8} {n4 n5 n6 n7 n8 n9 n10 n11 n12 n13 n14 : Int}
instance wasNew_ok [o : Hv w0 H w] : Step (Cl P 79 #[.int .i64 z] K ⟨w, ds⟩) ((0 ≤ z ∧ z ≤ 100000) ∧ ∀ p w', Hv w0 (wasR p ⟨z, 0, []⟩ :: H) w' → K (.tuple #[.pointer (some ⟨p, 0, none⟩), .int .i64 0]) ⟨w', ds⟩) := ⟨fun ⟨hz, h⟩ => by
  refine s79 ?_
  unfold D79
  repeat' (first | refine go ?_ | intro _ | refine ⟨sb, ?_⟩ | refine ⟨sd, ?_⟩ | (refine ⟨fun h1 => ?_, fun h1 => ?_⟩ <;> first | exact ab h1 | ((try rw [h1]); (try simp only [bl] at h1))) | dsimp only)
  · exfalso; omega
  rename_i q w3 o3
  have o4 := Hv.nilRow 325 11 o3
  exact h _ _ (Sub.hv (o := o4) (Sub.any (A := wasA q ⟨z, 0, []⟩) (.slice none 0 0) (Sub.many (subBox rfl (subRow rfl rfl subEnd)))))⟩
instance bkrNew_ok [o : Hv w0 H w] : Step (Cl P 107 #[.int .i64 z] K ⟨w, ds⟩) ((0 ≤ z ∧ z ≤ 100000) ∧ ∀ p w', Hv w0 (box p 222 [.int .i64 z, .slice none 0 0] :: row 420 2 (.slice none 0 0) 0 [] :: H) w' → K (.tuple #[.pointer (some ⟨p, 0, none⟩), .int .i64 0]) ⟨w', ds⟩) := ⟨fun ⟨hz, h⟩ => by
  refine s107 ?_
  unfold D107
  repeat' (first | refine go ?_ | intro _ | refine ⟨sb, ?_⟩ | refine ⟨sd, ?_⟩ | (refine ⟨fun h1 => ?_, fun h1 => ?_⟩ <;> first | exact ab h1 | ((try rw [h1]); (try simp only [bl] at h1))) | dsimp only)
  · exfalso; omega
  rename_i q w3 o3
  have o4 := Hv.nilRow 420 2 o3
  exact h _ _ (Sub.hv (o := o4) (subBox rfl (subRow rfl rfl subEnd)))⟩
instance roomsNew_ok [o : Hv w0 H w] : Step (Cl P 80 #[.agg #[str a, str b, str c, str d, .int .i64 n4, .int .i64 n5, .int .i64 n6, .int .i64 n7, .int .i64 n8, .int .i64 n9, .int .i64 n10, .int .i64 n11, .int .i64 n12, .int .i64 n13, .int .i64 n14]] K ⟨w, ds⟩)
    (∀ p w', Hv w0 (roomsR p ⟨⟨a, b, c, d, n4, n5, n6, n7, n8, n9, n10, n11, n12, n13, n14⟩, max 0 (min n7 1000), [], .new (max 0 (min n6 1000))⟩ :: H) w' → K (.pointer (some ⟨p, 0, none⟩)) ⟨w', ds⟩) := ⟨fun h => by
  have e1 : 0 ≤ max 0 (min n7 1000) ∧ max 0 (min n7 1000) ≤ 100000 := by omega
  have e2 : 0 ≤ max 0 (min n6 1000) ∧ max 0 (min n6 1000) ≤ 100000 := by omega
  refine s80 ?_
  unfold D80
  repeat' (first | refine go ?_ | intro _ | refine ⟨sb, ?_⟩ | refine ⟨sd, ?_⟩ | (refine ⟨fun h1 => ?_, fun h1 => ?_⟩ <;> first | exact ab h1 | ((try rw [h1]); (try simp only [bl] at h1))) | dsimp only)
  refine h _ _ (Sub.hv (Sub.any (A := roomsA _ _) (_, _, .slice none 0 0) (Sub.many (subBox rfl (subBox rfl (subRow rfl rfl (subK rfl (Sub.many (L := []) subEnd))))))))⟩
theorem subMap0 {α β : Type} [DecidableEq α] {H' R G : List SL} {m : Nat} {f : α → Value} {F : Nat → β → SL} [r : MpnIn H' m f (fun _ => none) 0 R] (k : Sub R G) : Sub H' (mapO m f F (fun _ : α => none) 0 :: G) := ⟨fun {S w} h => by
  obtain ⟨S', h1, h2⟩ := (Sub.cons k).sub (r.perm h)
  refine ⟨S', h1, ?_⟩
  obtain ⟨S1, S2, a1, a2, a3, a4⟩ := h2
  refine ⟨S1, S2, a1, a2, ?_, a4⟩
  refine ⟨[], emp, S1, fun b => ⟨.inr, fun h => h.elim (fun h => h.elim) id⟩, fun b h => h.elim, ⟨fun k h => h, List.nodup_nil, fun k => rfl⟩, S1, emp, fun b => ⟨.inl, fun h => h.elim id fun h => h.elim⟩, fun b _ h => h, a3, emp, emp, fun b => ⟨.inl, fun h => h.elim id id⟩, fun b h => h.elim, fun b h => h, fun b h => h⟩⟩
instance coreNew_ok [o : Hv w0 H w] : Step (Cl P 61 #[.agg #[str a, str b, str c, str d, .int .i64 n4, .int .i64 n5, .int .i64 n6, .int .i64 n7, .int .i64 n8, .int .i64 n9, .int .i64 n10, .int .i64 n11, .int .i64 n12, .int .i64 n13, .int .i64 n14]] K ⟨w, ds⟩)
    (((a.length ≤ 1000000000 ∧ b.length ≤ 1000000000 ∧ c.length ≤ 1000000000 ∧ d.length ≤ 1000000000) ∧ checkS ⟨a, b, c, d, n4, n5, n6, n7, n8, n9, n10, n11, n12, n13, n14⟩ = 0) ∧
    ∀ p w', Hv w0 (coreR p (.new ⟨a, b, c, d, n4, n5, n6, n7, n8, n9, n10, n11, n12, n13, n14⟩) :: H) w' → K (.tuple #[.pointer (some ⟨p, 0, none⟩), .int .i64 0]) ⟨w', ds⟩) := ⟨fun ⟨⟨⟨ha, hb, hc, hd⟩, hq⟩, h⟩ => by
  have hw := check_was hq
  dsimp only at hw
  refine s61 ?_
  unfold D61
  have fin : ∀ (w' : World) (p m r mo wa pa pu hh : Nat), Hv w0 (coreB p ⟨a, b, c, d, n4, n5, n6, n7, n8, n9, n10, n11, n12, n13, n14⟩ 0 ⟨m, hh, r, mo, wa, pa, pu, .slice none 0 0⟩ ::
    mapO m intV connR (fun _ => none) 0 :: bookR hh ⟨1000, []⟩ :: roomsR r ⟨⟨a, b, c, d, n4, n5, n6, n7, n8, n9, n10, n11, n12, n13, n14⟩, max 0 (min n7 1000), [], .new (max 0 (min n6 1000))⟩ :: wishR mo (.new n10) :: wishR wa (.new n9) :: wasR pa ⟨n11, 0, []⟩ :: Pl.pulR pu ⟨max n12 1, max n13 1, max n14 1, fun _ => none, (0, fun _ => none), (0, fun _ => none), (0, fun _ => none)⟩ :: row 3 1 (.slice none 0 0) 0 [] :: H) w' → K (.tuple #[.pointer (some ⟨p, 0, none⟩), .int .i64 0]) ⟨w', ds⟩ := fun w' p m r mo wa pa pu hh o => h _ _ (core_shut (x := .new ⟨a, b, c, d, n4, n5, n6, n7, n8, n9, n10, n11, n12, n13, n14⟩) (q := ⟨m, hh, r, mo, wa, pa, pu, .slice none 0 0⟩) o)
  repeat' (first | refine go ?_ | intro _ | refine ⟨sb, ?_⟩ | refine ⟨sd, ?_⟩ | (refine ⟨fun h1 => ?_, fun h1 => ?_⟩ <;> first | exact ab h1 | ((try rw [h1]); (try simp only [bl] at h1))) | dsimp only)
  · exact absurd hq h1
  refine And.intro ?_ ?_
  · repeat' (first | refine go ?_ | intro _ | refine ⟨sb, ?_⟩ | refine ⟨sd, ?_⟩ | (refine ⟨fun h1 => ?_, fun h1 => ?_⟩ <;> first | exact ab h1 | ((try rw [h1]); (try simp only [bl] at h1))) | dsimp only)
    rename_i wl ol
    have o9 := Hv.nilRow 3 1 ol
    exact fin _ _ _ _ _ _ _ _ _ (Sub.hv (o := o9) (subBox rfl (subMap0 (subK rfl (subK rfl (subK rfl (subK rfl (subK rfl (subK rfl (subRow rfl rfl subEnd))))))))))
  repeat' (first | refine go ?_ | intro _ | refine ⟨sb, ?_⟩ | refine ⟨sd, ?_⟩ | (refine ⟨fun h1 => ?_, fun h1 => ?_⟩ <;> first | exact ab h1 | ((try rw [h1]); (try simp only [bl] at h1))) | dsimp only)
  refine And.intro ?_ ?_
  · repeat' (first | refine go ?_ | intro _ | refine ⟨sb, ?_⟩ | refine ⟨sd, ?_⟩ | (refine ⟨fun h1 => ?_, fun h1 => ?_⟩ <;> first | exact ab h1 | ((try rw [h1]); (try simp only [bl] at h1))) | dsimp only)
    rename_i wl ol
    have o9 := Hv.nilRow 3 1 ol
    exact fin _ _ _ _ _ _ _ _ _ (Sub.hv (o := o9) (subBox rfl (subMap0 (subK rfl (subK rfl (subK rfl (subK rfl (subK rfl (subK rfl (subRow rfl rfl subEnd))))))))))
  repeat' (first | refine go ?_ | intro _ | refine ⟨sb, ?_⟩ | refine ⟨sd, ?_⟩ | (refine ⟨fun h1 => ?_, fun h1 => ?_⟩ <;> first | exact ab h1 | ((try rw [h1]); (try simp only [bl] at h1))) | dsimp only)
  refine And.intro ?_ ?_
  · repeat' (first | refine go ?_ | intro _ | refine ⟨sb, ?_⟩ | refine ⟨sd, ?_⟩ | (refine ⟨fun h1 => ?_, fun h1 => ?_⟩ <;> first | exact ab h1 | ((try rw [h1]); (try simp only [bl] at h1))) | dsimp only)
    rename_i wl ol
    have o9 := Hv.nilRow 3 1 ol
    exact fin _ _ _ _ _ _ _ _ _ (Sub.hv (o := o9) (subBox rfl (subMap0 (subK rfl (subK rfl (subK rfl (subK rfl (subK rfl (subK rfl (subRow rfl rfl subEnd))))))))))
  repeat' (first | refine go ?_ | intro _ | refine ⟨sb, ?_⟩ | refine ⟨sd, ?_⟩ | (refine ⟨fun h1 => ?_, fun h1 => ?_⟩ <;> first | exact ab h1 | ((try rw [h1]); (try simp only [bl] at h1))) | dsimp only)
  refine And.intro ?_ ?_
  · repeat' (first | refine go ?_ | intro _ | refine ⟨sb, ?_⟩ | refine ⟨sd, ?_⟩ | (refine ⟨fun h1 => ?_, fun h1 => ?_⟩ <;> first | exact ab h1 | ((try rw [h1]); (try simp only [bl] at h1))) | dsimp only)
    rename_i wl ol
    have o9 := Hv.nilRow 3 1 ol
    exact fin _ _ _ _ _ _ _ _ _ (Sub.hv (o := o9) (subBox rfl (subMap0 (subK rfl (subK rfl (subK rfl (subK rfl (subK rfl (subK rfl (subRow rfl rfl subEnd))))))))))
  repeat' (first | refine go ?_ | intro _ | refine ⟨sb, ?_⟩ | refine ⟨sd, ?_⟩ | (refine ⟨fun h1 => ?_, fun h1 => ?_⟩ <;> first | exact ab h1 | ((try rw [h1]); (try simp only [bl] at h1))) | dsimp only)
  rename_i wl ol
  have o9 := Hv.nilRow 3 1 ol
  exact fin _ _ _ _ _ _ _ _ _ (Sub.hv (o := o9) (subBox rfl (subMap0 (subK rfl (subK rfl (subK rfl (subK rfl (subK rfl (subK rfl (subRow rfl rfl subEnd))))))))))⟩
end
end Go.Proofs.YtfgdalggkknffaaGreatDoor

namespace Go.Proofs.YtfgdalggkknffaaGreatDoor
open Go.Vx Go.Lib
section
set_option maxRecDepth 20000
set_option synthInstance.maxSize 100000
set_option synthInstance.maxHeartbeats 4000000
variable {K : Value → St → Prop} {w0 w : World} {H R : List SL} {ds : List Deferred} {p n : Nat} {v : Value} {l : List UInt8} {z id : Int} {x : Cs} {y : Nat × Cn}
theorem subTail {H0 H1 H2 H3 H4 H5 H6 H7 G : List SL} {q : Ptrs} {x : Cs} {a : Bk} {b : Rs} {c d : Ws} {e : Wst} {f : Pl.Pst} {n : Nat} {xs : List Value} [i1 : InK bookR q.h H0 a H1] [i2 : InK roomsR q.r H1 b H2] [i3 : InK wishR q.mo H2 c H3] [i4 : InK wishR q.wa H3 d H4] [i5 : InK wasR q.pa H4 e H5] [i6 : InK Pl.pulR q.pu H5 f H6] [i7 : RowIn H6 q.vd 3 1 n xs H7]
    (h1 : a = x.hold) (h2 : b = x.rooms) (h3 : c = x.mon) (h4 : d = x.watch) (h5 : e = x.past) (h6 : f = x.pulse) (h7 : n = x.dying.length) (h8 : xs = x.dying.map intV) (k : Sub H7 G) :
    Sub H0 (bookR q.h x.hold :: roomsR q.r x.rooms :: wishR q.mo x.mon :: wishR q.wa x.watch :: wasR q.pa x.past :: Pl.pulR q.pu x.pulse :: row 3 1 q.vd x.dying.length (x.dying.map intV) :: G) :=
  subK h1 (subK h2 (subK h3 (subK h4 (subK h5 (subK h6 (subRow h7 h8 k))))))
theorem core_put {q : Ptrs} {g : Int → Option Value} {M : SL} {b n' : Nat} {y' : Cn} (c : Wnd w0 [mpn q.m intV g n', connR b (b, y'), M] [mapO q.m intV connR x.conns x.n]) (h : Hv w0 (coreB p x.cf x.now q :: mpn q.m intV g n' :: connR b (b, y') :: M :: bookR q.h x.hold :: roomsR q.r x.rooms :: wishR q.mo x.mon :: wishR q.wa x.watch :: wasR q.pa x.past :: Pl.pulR q.pu x.pulse :: row 3 1 q.vd x.dying.length (x.dying.map intV) :: R) w) : Hv w0 (coreR p x :: R) w := by
  have h1 : Hv w0 ([mpn q.m intV g n', connR b (b, y'), M] ++ (coreB p x.cf x.now q :: bookR q.h x.hold :: roomsR q.r x.rooms :: wishR q.mo x.mon :: wishR q.wa x.watch :: wasR q.pa x.past :: Pl.pulR q.pu x.pulse :: row 3 1 q.vd x.dying.length (x.dying.map intV) :: R)) w :=
    Hv.pm ((rot3).trans (((List.Perm.swap _ _ _)).cons _ |>.cons _)) h
  exact core_shut (Hv.pm (List.Perm.swap ..) (c.go h1))
theorem same_conns (hy : x.conns id = some y) : updF x.conns id (some (y.1, y.2)) = x.conns := funext fun k => by
  by_cases q : k = id
  · subst q; rw [updF_at, hy]
  · rw [updF_ne _ q]
theorem core_back {q : Ptrs} {g : Int → Option Value} {M : SL} (hy : x.conns id = some y) (c : Wnd w0 [mpn q.m intV g x.n, connR y.1 (y.1, y.2), M] [mapO q.m intV connR (updF x.conns id (some (y.1, y.2))) x.n]) (h : Hv w0 (coreB p x.cf x.now q :: mpn q.m intV g x.n :: connR y.1 (y.1, y.2) :: M :: bookR q.h x.hold :: roomsR q.r x.rooms :: wishR q.mo x.mon :: wishR q.wa x.watch :: wasR q.pa x.past :: Pl.pulR q.pu x.pulse :: row 3 1 q.vd x.dying.length (x.dying.map intV) :: R) w) : Hv w0 (coreR p x :: R) w := by
  rw [same_conns hy] at c
  exact core_put c h
instance at_some [o : Hv w0 H w] [i : InK coreR p H x R] [a : AtS x.conns id y] : Step (Cl P 119 #[.pointer (some ⟨p, 0, none⟩), .int .i64 id] K ⟨w, ds⟩) (∀ w', Hv w0 (coreR p x :: R) w' → K (ptrV y.1) ⟨w', ds⟩) := ⟨fun h => by
  obtain ⟨q, g, M, qq, ff, ag, o1, c1, c2⟩ := core_at (i.hv o) a.eq
  clear o
  refine s119 ?_
  unfold D119
  repeat' (first | refine go ?_ | intro _ | refine ⟨sb, ?_⟩ | refine ⟨sd, ?_⟩ | (refine ⟨fun h1 => ?_, fun h1 => ?_⟩ <;> first | exact ab h1 | ((try rw [h1]); (try simp only [bl] at h1))) | dsimp only)
  exact h _ (core_back a.eq c1 (Sub.hv (subBox rfl (subMpn rfl rfl (subConn rfl rfl rfl rfl (subT (subTail rfl rfl rfl rfl rfl rfl rfl rfl subEnd)))))))⟩
instance at_none [o : Hv w0 H w] [i : InK coreR p H x R] [a : AtN x.conns id] : Step (Cl P 119 #[.pointer (some ⟨p, 0, none⟩), .int .i64 id] K ⟨w, ds⟩) (∀ w', Hv w0 (coreR p x :: R) w' → K (.pointer none) ⟨w', ds⟩) := ⟨fun h => by
  obtain ⟨q, o1⟩ := core_open (i.hv o)
  obtain ⟨g, M, ag, o2, c1, c2⟩ := (Hv.pm (List.Perm.swap ..) o1).mapNo a.eq
  clear o o1 c2
  refine s119 ?_
  unfold D119
  repeat' (first | refine go ?_ | intro _ | refine ⟨sb, ?_⟩ | refine ⟨sd, ?_⟩ | (refine ⟨fun h1 => ?_, fun h1 => ?_⟩ <;> first | exact ab h1 | ((try rw [h1]); (try simp only [bl] at h1))) | dsimp only)
  refine h _ (core_shut (q := q) (Hv.pm (List.Perm.swap ..) (c1.shut (A := [_, _]) (subMpn rfl rfl (subT (subBox rfl (subTail rfl rfl rfl rfl rfl rfl rfl rfl subEnd)))))))⟩
theorem live_at (h : x.live id = some y) : x.conns id = some y ∧ y.2.gone = false := by
  unfold Cs.live at h
  cases hc : x.conns id with
  | none => rw [hc] at h; cases h
  | some u =>
    rw [hc] at h
    dsimp only at h
    split at h
    · cases h
    · rename_i hg
      obtain rfl := Option.some.inj h
      exact ⟨rfl, by simpa using hg⟩
theorem live_no (h : x.live id = none) : x.conns id = none ∨ ∃ u, x.conns id = some u ∧ u.2.gone = true := by
  unfold Cs.live at h
  cases hc : x.conns id with
  | none => exact .inl rfl
  | some u =>
    rw [hc] at h
    dsimp only at h
    split at h
    · rename_i hg; exact .inr ⟨u, rfl, hg⟩
    · cases h
instance live_some [o : Hv w0 H w] [i : InK coreR p H x R] [a : AtS x.live id y] : Step (Cl P 123 #[.pointer (some ⟨p, 0, none⟩), .int .i64 id] K ⟨w, ds⟩) (∀ w', Hv w0 (coreR p x :: R) w' → K (ptrV y.1) ⟨w', ds⟩) := ⟨fun h => by
  obtain ⟨hy, hg⟩ := live_at a.eq
  have a1 : AtS x.conns id y := ⟨hy⟩
  have o0 := i.hv o
  clear o
  refine s123 ?_
  unfold D123
  repeat (first | refine go ?_ | intro _ | refine ⟨sb, ?_⟩ | refine ⟨sd, ?_⟩ | dsimp only)
  rename_i w1 o1
  obtain ⟨q, g, M, qq, ff, ag, o2, c1, c2⟩ := core_at o1 hy
  clear o0 o1
  repeat' (first | refine go ?_ | intro _ | refine ⟨sb, ?_⟩ | refine ⟨sd, ?_⟩ | (refine ⟨fun h1 => ?_, fun h1 => ?_⟩ <;> first | exact ab h1 | ((try rw [h1]); (try simp only [bl] at h1))) | dsimp only)
  all_goals first
    | exact h _ (core_back hy c1 (Sub.hv (subBox rfl (subMpn rfl rfl (subConn rfl rfl rfl rfl (subT (subTail rfl rfl rfl rfl rfl rfl rfl rfl subEnd)))))))
    | (exfalso; rw [hg] at h1; simp at h1; done)⟩
instance live_none [o : Hv w0 H w] [i : InK coreR p H x R] [a : AtN x.live id] : Step (Cl P 123 #[.pointer (some ⟨p, 0, none⟩), .int .i64 id] K ⟨w, ds⟩) (∀ w', Hv w0 (coreR p x :: R) w' → K (.pointer none) ⟨w', ds⟩) := ⟨fun h => by
  have o0 := i.hv o
  clear o
  rcases live_no a.eq with hn | ⟨u, hy, hg⟩
  · have a1 : AtN x.conns id := ⟨hn⟩
    refine s123 ?_
    unfold D123
    repeat' (first | refine go ?_ | intro _ | refine ⟨sb, ?_⟩ | refine ⟨sd, ?_⟩ | (refine ⟨fun h1 => ?_, fun h1 => ?_⟩ <;> first | exact ab h1 | ((try rw [h1]); (try simp only [bl] at h1))) | dsimp only)
    exact h _ (Sub.hv (subK rfl subEnd))
  · have a1 : AtS x.conns id u := ⟨hy⟩
    refine s123 ?_
    unfold D123
    repeat (first | refine go ?_ | intro _ | refine ⟨sb, ?_⟩ | refine ⟨sd, ?_⟩ | dsimp only)
    rename_i w1 o1
    obtain ⟨q, g, M, qq, ff, ag, o2, c1, c2⟩ := core_at o1 hy
    clear o0 o1
    repeat' (first | refine go ?_ | intro _ | refine ⟨sb, ?_⟩ | refine ⟨sd, ?_⟩ | (refine ⟨fun h1 => ?_, fun h1 => ?_⟩ <;> first | exact ab h1 | ((try rw [h1]); (try simp only [bl] at h1))) | dsimp only)
    all_goals first
      | exact h _ (core_back hy c1 (Sub.hv (subBox rfl (subMpn rfl rfl (subConn rfl rfl rfl rfl (subT (subTail rfl rfl rfl rfl rfl rfl rfl rfl subEnd)))))))
      | (exfalso; rw [hg] at h1; simp at h1; done)⟩
instance Live_ok [o : Hv w0 H w] [i : InK coreR p H x R] : Step (Cl P 116 #[.pointer (some ⟨p, 0, none⟩), .int .i64 id] K ⟨w, ds⟩) (∀ w', Hv w0 (coreR p x :: R) w' → K (.bool (x.live id).isSome) ⟨w', ds⟩) := ⟨fun h => by
  have o0 := i.hv o
  clear o
  cases hl : x.live id with
  | none =>
    have a : AtN x.live id := ⟨hl⟩
    rw [hl] at h
    refine s116 ?_
    unfold D116
    repeat' (first | refine go ?_ | intro _ | refine ⟨sb, ?_⟩ | refine ⟨sd, ?_⟩ | (refine ⟨fun h1 => ?_, fun h1 => ?_⟩ <;> first | exact ab h1 | ((try rw [h1]); (try simp only [bl] at h1))) | dsimp only)
    exact h _ (Sub.hv (subK rfl subEnd))
  | some y =>
    have a : AtS x.live id y := ⟨hl⟩
    rw [hl] at h
    refine s116 ?_
    unfold D116
    repeat' (first | refine go ?_ | intro _ | refine ⟨sb, ?_⟩ | refine ⟨sd, ?_⟩ | (refine ⟨fun h1 => ?_, fun h1 => ?_⟩ <;> first | exact ab h1 | ((try rw [h1]); (try simp only [bl] at h1))) | dsimp only)
    exact h _ (Sub.hv (subK rfl subEnd))⟩
instance There_ok [o : Hv w0 H w] [i : InK coreR p H x R] : Step (Cl P 110 #[.pointer (some ⟨p, 0, none⟩), .int .i64 id] K ⟨w, ds⟩) (∀ w', Hv w0 (coreR p x :: R) w' → K (.bool (x.conns id).isSome) ⟨w', ds⟩) := ⟨fun h => by
  have o0 := i.hv o
  clear o
  cases hl : x.conns id with
  | none =>
    have a : AtN x.conns id := ⟨hl⟩
    rw [hl] at h
    refine s110 ?_
    unfold D110
    repeat' (first | refine go ?_ | intro _ | refine ⟨sb, ?_⟩ | refine ⟨sd, ?_⟩ | (refine ⟨fun h1 => ?_, fun h1 => ?_⟩ <;> first | exact ab h1 | ((try rw [h1]); (try simp only [bl] at h1))) | dsimp only)
    exact h _ (Sub.hv (subK rfl subEnd))
  | some y =>
    have a : AtS x.conns id y := ⟨hl⟩
    rw [hl] at h
    refine s110 ?_
    unfold D110
    repeat' (first | refine go ?_ | intro _ | refine ⟨sb, ?_⟩ | refine ⟨sd, ?_⟩ | (refine ⟨fun h1 => ?_, fun h1 => ?_⟩ <;> first | exact ab h1 | ((try rw [h1]); (try simp only [bl] at h1))) | dsimp only)
    exact h _ (Sub.hv (subK rfl subEnd))⟩
def Cn.whole (x : Cn) : Per := { x.p with nick := x.s.nick, user := x.s.user, real := x.s.real }
instance whole_ok {b qq ff : Nat} {y : Cn} [o : Hv w0 H w] [i : BoxIn H b 192 [.int .i64 y.p.id, str y.p.nick, str y.p.user, str y.p.host, str y.p.real, str y.p.away, .bool y.p.oper, .bool y.p.hid, .int .i64 y.p.sig, .int .i64 y.p.spo,
  .int .i64 y.s.caps, .bool y.s.talk, str y.s.pass, str y.s.nick, str y.s.user, str y.s.real, .bool y.s.done, ptrV qq, ptrV ff, .bool y.gone] R] : Step (Cl P 207 #[.pointer (some ⟨b, 0, none⟩)] K ⟨w, ds⟩) (∀ w', Hv w0 H w' → K (.agg #[.int .i64 y.p.id, str y.s.nick, str y.s.user, str y.p.host, str y.s.real, str y.p.away, .bool y.p.oper, .bool y.p.hid, .int .i64 y.p.sig, .int .i64 y.p.spo]) ⟨w', ds⟩) := ⟨fun h => by
  have o1 := Hv.perm i.perm.1 o
  have back : ∀ w', Hv w0 (box b 192 [.int .i64 y.p.id, str y.p.nick, str y.p.user, str y.p.host, str y.p.real, str y.p.away, .bool y.p.oper, .bool y.p.hid, .int .i64 y.p.sig, .int .i64 y.p.spo,
  .int .i64 y.s.caps, .bool y.s.talk, str y.s.pass, str y.s.nick, str y.s.user, str y.s.real, .bool y.s.done, ptrV qq, ptrV ff, .bool y.gone] :: R) w' → Hv w0 H w' := fun w' o => Hv.perm i.perm.2 o
  clear o
  refine s207 ?_
  unfold D207
  repeat' (first | refine go ?_ | intro _ | refine ⟨sb, ?_⟩ | refine ⟨sd, ?_⟩ | (refine ⟨fun h1 => ?_, fun h1 => ?_⟩ <;> first | exact ab h1 | ((try rw [h1]); (try simp only [bl] at h1))) | dsimp only)
  exact h _ (back _ (Sub.hv (subBox rfl subEnd)))⟩
def Cs.person (x : Cs) (id : Int) : Option Per := match x.live id with | some y => if y.2.s.done then some y.2.whole else none | none => none
def Sgn.none : Sgn := ⟨0, false, [], [], [], [], false⟩
def Cs.sign (x : Cs) (id : Int) : Sgn := match x.live id with | some y => y.2.s | none => .none
def Cs.set (x : Cs) (id : Int) (b : Nat) (y : Cn) : Cs := { x with conns := updF x.conns id (some (b, y)) }
abbrev perV (x : Per) : Value := .agg #[.int .i64 x.id, str x.nick, str x.user, str x.host, str x.real, str x.away, .bool x.oper, .bool x.hid, .int .i64 x.sig, .int .i64 x.spo]
abbrev sgnV (x : Sgn) : Value := .agg #[.int .i64 x.caps, .bool x.talk, str x.pass, str x.nick, str x.user, str x.real, .bool x.done]
theorem zp : (Value.string ⟨#[]⟩ : Value) = str [] := rfl
instance Sign_ok [o : Hv w0 H w] [i : InK coreR p H x R] : Step (Cl P 149 #[.pointer (some ⟨p, 0, none⟩), .int .i64 id] K ⟨w, ds⟩) (∀ w', Hv w0 (coreR p x :: R) w' → K (sgnV (x.sign id)) ⟨w', ds⟩) := ⟨fun h => by
  have o0 := i.hv o
  clear o
  unfold Cs.sign at h
  cases hl : x.live id with
  | none =>
    have a1 : AtN x.live id := ⟨hl⟩
    rw [hl] at h
    refine s149 ?_
    unfold D149
    repeat' (first | refine go ?_ | intro _ | refine ⟨sb, ?_⟩ | refine ⟨sd, ?_⟩ | (refine ⟨fun h1 => ?_, fun h1 => ?_⟩ <;> first | exact ab h1 | ((try rw [h1]); (try simp only [bl] at h1))) | dsimp only)
    exact h _ (Sub.hv (subK rfl subEnd))
  | some y =>
    rw [hl] at h
    have hy := (live_at hl).1
    have a1 : AtS x.live id y := ⟨hl⟩
    refine s149 ?_
    unfold D149
    repeat (first | refine go ?_ | intro _ | refine ⟨sb, ?_⟩ | refine ⟨sd, ?_⟩ | dsimp only)
    rename_i w1 o1
    obtain ⟨q, g, M, qq, ff, ag, o2, c1, c2⟩ := core_at ((inferInstance : InK coreR p _ x _).hv o1) hy
    clear o0 o1
    repeat' (first | refine go ?_ | intro _ | refine ⟨sb, ?_⟩ | refine ⟨sd, ?_⟩ | (refine ⟨fun h1 => ?_, fun h1 => ?_⟩ <;> first | exact ab h1 | ((try rw [h1]); (try simp only [bl] at h1))) | dsimp only)
    exact h _ (core_back hy c1 (Sub.hv (subBox rfl (subMpn rfl rfl (subConn rfl rfl rfl rfl (subT (subTail rfl rfl rfl rfl rfl rfl rfl rfl subEnd)))))))⟩
end
end Go.Proofs.YtfgdalggkknffaaGreatDoor

namespace Go.Proofs.YtfgdalggkknffaaGreatDoor
open Go.Vx Go.Lib
structure Qu.fine (x : Qu) : Prop where
  b : x.b.length ≤ 65536
  m : x.most ≤ 65536
  t : 0 ≤ x.torn ∧ x.torn ≤ 1000000
  s : 0 ≤ x.sent ∧ x.sent ≤ 1000000000
theorem Qu.fine.ok {x : Qu} (h : x.fine) : x.ok := ⟨by have := h.b; omega, h.t, by have := h.s; omega⟩
theorem Qu.fine.push {x : Qu} (h : x.fine) (l : List UInt8) : (x.push l).1.fine := by
  unfold Qu.push
  split
  · exact h
  split
  · exact ⟨h.b, h.m, h.t, h.s⟩
  · have := h.m
    exact ⟨by simp; omega, h.m, h.t, h.s⟩
def Cs.tell1 (x : Cs) (id : Int) (l : List UInt8) : Cs := match x.live id with
  | none => x
  | some y => if y.2.q.over then x else { x.set id y.1 { y.2 with q := (y.2.q.push l).1 } with dying := if (y.2.q.push l).1.over then x.dying ++ [id] else x.dying }
def Cs.tell (x : Cs) (id : Int) (ls : List (List UInt8)) : Cs := ls.foldl (fun x l => x.tell1 id l) x
structure Cs.fine (x : Cs) : Prop where
  q : ∀ id y, x.conns id = some y → y.2.q.fine
theorem Cs.fine.tell1 {x : Cs} (h : x.fine) (id : Int) (l : List UInt8) : (x.tell1 id l).fine := by
  unfold Cs.tell1
  cases hl : x.live id with
  | none => exact h
  | some y =>
    dsimp only
    split
    · exact h
    · refine ⟨fun k u hu => ?_⟩
      dsimp only [Cs.set] at hu
      by_cases q : k = id
      · subst q
        rw [updF_at] at hu
        obtain rfl := Option.some.inj hu
        exact (h.q _ _ (live_at hl).1).push l
      · rw [updF_ne _ q] at hu
        exact h.q _ _ hu
theorem Cs.fine.tell {x : Cs} (h : x.fine) (id : Int) (ls : List (List UInt8)) : (x.tell id ls).fine := by
  unfold Cs.tell
  induction ls generalizing x with
  | nil => exact h
  | cons l ls ih => exact ih (h.tell1 id l)
theorem tell1_dying (x : Cs) (id : Int) (l : List UInt8) : (x.tell1 id l).dying.length ≤ x.dying.length + 1 := by
  unfold Cs.tell1
  split
  · omega
  split
  · omega
  · dsimp only; split
    · simp
    · omega
theorem tell_dying (x : Cs) (id : Int) (ls : List (List UInt8)) : (x.tell id ls).dying.length ≤ x.dying.length + ls.length := by
  unfold Cs.tell
  induction ls generalizing x with
  | nil => exact Nat.le_refl _
  | cons l ls ih => have := ih (x.tell1 id l); have := tell1_dying x id l; simp only [List.foldl_cons, List.length_cons]; omega
theorem tell_stop {x : Cs} {id : Int} (h : x.live id = none ∨ ∃ y, x.live id = some y ∧ y.2.q.over = true) (ls : List (List UInt8)) : x.tell id ls = x := by
  have h1 : ∀ l, x.tell1 id l = x := fun l => by
    unfold Cs.tell1
    rcases h with h | ⟨y, h, ho⟩
    · rw [h]
    · rw [h]; dsimp only; rw [if_pos ho]
  unfold Cs.tell
  induction ls with
  | nil => rfl
  | cons l ls ih => rw [List.foldl_cons, h1]; exact ih
theorem tell_split (x : Cs) (id : Int) (ls : List (List UInt8)) (i : Nat) : x.tell id ls = (x.tell id (ls.take i)).tell id (ls.drop i) := by
  unfold Cs.tell
  rw [← List.foldl_append, List.take_append_drop]
section
set_option maxRecDepth 20000
set_option synthInstance.maxSize 100000
set_option synthInstance.maxHeartbeats 4000000
variable {K : Value → St → Prop} {w0 w : World} {H R : List SL} {ds : List Deferred} {p n : Nat} {v : Value} {l : List UInt8} {z id : Int} {x : Cs} {y : Nat × Cn}
instance Tell_ok {xs : List Value} {ls : List (List UInt8)} [o : Hv w0 H w] [i : InK coreR p H x R] [r : RdsF w0 R v 1 n xs] [e : Maps str xs ls] : Step (Cl P 127 #[.pointer (some ⟨p, 0, none⟩), .int .i64 id, v] K ⟨w, ds⟩)
    (((x.fine ∧ ∀ l ∈ ls, l.length ≤ 1000000) ∧ x.dying.length + n ≤ 1000000) ∧ ∀ w', Hv w0 (coreR p (x.tell id ls) :: R) w' → K (.tuple #[]) ⟨w', ds⟩) := ⟨fun ⟨⟨⟨hf, hl⟩, hd⟩, h⟩ => by
  have o0 := i.hv o
  clear o
  obtain rfl := e.eq
  have rl := r.loc
  obtain rfl : n = ls.length := by have := (r.rd w o0.tail).len; simpa using this.symm
  refine s127 ?_
  unfold D127
  repeat (first | refine go ?_ | intro _ | refine ⟨sb, ?_⟩ | refine ⟨sd, ?_⟩ | dsimp only)
  refine ⟨fun q s => ∃ (i : Nat) (w' : World), q = .int .i64 i ∧ s = ⟨w', []⟩ ∧ i ≤ ls.length ∧ Hv w0 (coreR p (x.tell id (ls.take i)) :: R) w',
    fun q s => match q with | .int _ z => ls.length - z.toNat | _ => 0, ⟨0, w, rfl, rfl, Nat.zero_le _, o0⟩, ?_⟩
  rintro q s ⟨i, w1, rfl, rfl, hi, o1⟩
  clear o0
  rcases Nat.lt_or_ge i ls.length with hlt | hge
  · have hs : x.tell id (ls.take (i + 1)) = (x.tell id (ls.take i)).tell1 id (ls.getD i default) := by unfold Cs.tell; rw [take_snoc hlt, List.foldl_append]; rfl
    have hsp := tell_split x id ls i
    have hfx := hf.tell id (ls.take i)
    have hdx := tell_dying x id (ls.take i)
    rw [List.length_take] at hdx
    have hll := hl _ (getD_mem hlt)
    generalize hx : x.tell id (ls.take i) = x1 at *
    cases hv : x1.live id with
    | none =>
      have a1 : AtN x1.live id := ⟨hv⟩
      have e1 := tell_stop (.inl hv) (ls.drop i)
      rw [e1] at hsp
      rw [hsp] at h
      repeat' (first | refine go ?_ | intro _ | refine ⟨sb, ?_⟩ | refine ⟨sd, ?_⟩ | (refine ⟨fun h1 => ?_, fun h1 => ?_⟩ <;> first | exact ab h1 | ((try rw [h1]); (try simp only [bl] at h1))) | dsimp only)
      · exact h _ (Sub.hv (subK rfl subEnd))
      · exfalso; omega
    | some y =>
      have a1 : AtS x1.live id y := ⟨hv⟩
      have hy := (live_at hv).1
      have hqf := (hfx.q _ _ hy).ok
      have e1 : y.2.q.over = true → x1.tell id (ls.drop i) = x1 := fun hq => tell_stop (.inr ⟨y, hv, hq⟩) _
      unfold Cs.tell1 at hs
      rw [hv] at hs
      dsimp only at hs
      repeat' (first | refine go ?_ | intro _ | refine ⟨sb, ?_⟩ | refine ⟨sd, ?_⟩ | (refine ⟨fun h1 => ?_, fun h1 => ?_⟩ <;> first | exact ab h1 | ((try rw [h1]); (try simp only [bl] at h1))) | dsimp only)
      · rename_i w2 o2
        obtain ⟨q, g, M, qq, ff, ag, o3, c1, c2⟩ := core_at ((inferInstance : InK coreR p _ x1 _).hv o2) hy
        clear o1 o2
        repeat' (first | refine go ?_ | intro _ | refine ⟨sb, ?_⟩ | refine ⟨sd, ?_⟩ | (refine ⟨fun h1 => ?_, fun h1 => ?_⟩ <;> first | exact ab h1 | ((try rw [h1]); (try simp only [bl] at h1))) | dsimp only)
        · rw [e1 h1] at hsp
          rw [hsp] at h
          exact h _ (core_back hy c1 (Sub.hv (subBox rfl (subMpn rfl rfl (subConn rfl rfl rfl rfl (subT (subTail rfl rfl rfl rfl rfl rfl rfl rfl subEnd)))))))
        all_goals
          have ho : ¬ y.2.q.over = true := by simp [*]
          refine ⟨⟨i + 1, _, rfl, rfl, hlt, ?_⟩, by simp; omega⟩
          rw [hs, if_neg ho]
        · rename_i vn w5 o5 w6 o6
          exact core_put (q := { q with vd := vn }) c1 (Sub.hv (subBox rfl (subMpn rfl rfl (subConn rfl rfl rfl rfl (subT (subTail rfl rfl rfl rfl rfl rfl (by dsimp only; rw [if_pos h1]; simp) (by dsimp only; rw [if_pos h1]; simp) subEnd))))))
        · exact core_put c1 (Sub.hv (subBox rfl (subMpn rfl rfl (subConn rfl rfl rfl rfl (subT (subTail rfl rfl rfl rfl rfl rfl (by dsimp only; rw [h1]; simp) (by dsimp only; rw [h1]; simp) subEnd))))))
      · exfalso; omega
  · rw [List.take_of_length_le hge] at o1
    repeat' (first | refine go ?_ | intro _ | refine ⟨sb, ?_⟩ | refine ⟨sd, ?_⟩ | (refine ⟨fun h1 => ?_, fun h1 => ?_⟩ <;> first | exact ab h1 | ((try rw [h1]); (try simp only [bl] at h1))) | dsimp only)
    · exfalso; omega
    · exact h _ (Sub.hv (subK rfl subEnd))⟩
end
end Go.Proofs.YtfgdalggkknffaaGreatDoor

namespace Go.Proofs.YtfgdalggkknffaaGreatDoor.Mk
open Go.Vx Go.Lib
def hd (l : List UInt8) (c : UInt8) : Bool := decide (0 < l.length) && decide (l.take 1 = [c])
instance hasP0_ok {w : World} {l : List UInt8} {c : UInt8} : VS (Cl P 243 #[str l, str [c]]) w ((l.length : Int) ≤ 1000000000) (.bool (hd l c)) := ⟨fun hb {K ds} h => by
  refine s243 ?_
  unfold D243
  dsimp only
  have e1 : [c].length = 1 := rfl
  repeat' (first | refine go ?_ | intro _ | refine ⟨sb, ?_⟩ | refine ⟨sd, ?_⟩ | (refine ⟨fun h1 => ?_, fun h1 => ?_⟩ <;> first | exact ab h1 | ((try rw [h1]); (try simp only [bl] at h1))) | dsimp only)
  refine cast (congrArg (fun b => K (.bool b) _) ?_) h
  cases l with
  | nil => simp [hd]
  | cons b t => simp [hd]; try omega⟩
instance hasP_ok {w : World} {l : List UInt8} {c : UInt8} : VS (Cl P 197 #[str l, str [c]]) w ((l.length : Int) ≤ 1000000000) (.bool (hd l c)) := ⟨fun hb {K ds} h => by
  refine s197 ?_
  unfold D197
  dsimp only
  repeat' (first | refine go ?_ | intro _ | refine ⟨sb, ?_⟩ | refine ⟨sd, ?_⟩ | (refine ⟨fun h1 => ?_, fun h1 => ?_⟩ <;> first | exact ab h1 | ((try rw [h1]); (try simp only [bl] at h1))) | dsimp only)
  exact h⟩
theorem hd_true {l : List UInt8} {c : UInt8} (h : hd l c = true) : ∃ t, l = c :: t := by
  cases l with
  | nil => simp [hd] at h
  | cons b t => simp [hd] at h; exact ⟨t, by rw [h]⟩
theorem hd_cons {b c : UInt8} {t : List UInt8} : hd (b :: t) c = decide (b = c) := by simp [hd]
instance count_ok {w : World} {l : List UInt8} {c : UInt8} : VT (Cl P 54 #[str l, str [c]]) w (.int .i64 (l.count c : Nat)) := ⟨fun {K ds} h => by
  refine cl_ok ((Tryz.strings_Count_one ⟨l.toArray⟩ c w).mono fun e w' ⟨he, hw⟩ => ?_)
  subst hw
  refine ⟨_, he, ?_⟩
  simpa [countByte] using h⟩
theorem idxB_some {l : List UInt8} {c : UInt8} {i : Nat} (h : l.findIdx? (· == c) = some i) : idxB l c = (i : Int) := by unfold idxB; rw [h]
theorem idxB_none {l : List UInt8} {c : UInt8} (h : l.findIdx? (· == c) = none) : idxB l c = -1 := by unfold idxB; rw [h]
def letB (b : UInt8) : Bool := (decide (65 ≤ b) && decide (b ≤ 90)) || (decide (97 ≤ b) && decide (b ≤ 122))
def cmdB (s : List UInt8) : Bool := (s != [] && s.all letB) || (decide (s.length = 3) && s.all digB)
def upB (b : UInt8) : UInt8 := if decide (97 ≤ b) && decide (b ≤ 122) then b - 32 else b
def capsS (s : List UInt8) : List UInt8 := s.map upB
def txtB (s : List UInt8) : Bool := !s.contains 0 && !s.contains 10 && !s.contains 13
def spare (p : List UInt8) : Bool := decide (p = []) || (hd p 58 || p.contains 32)
def parS (w : List UInt8) : List (List UInt8) → List UInt8
  | [] => []
  | [p] => 32 :: (w ++ p)
  | p :: q :: r => 32 :: (p ++ parS w (q :: r))
def lastW (ps : List (List UInt8)) : List UInt8 := match ps.getLast? with | some p => if spare p then [58] else [] | none => []
def plainM (m : List Nat × List UInt8 × List UInt8 × List (List UInt8)) : List UInt8 := ((if m.2.1 = [] then [] else 58 :: (m.2.1 ++ [32])) ++ m.2.2.1) ++ parS (lastW m.2.2.2) m.2.2.2
def parI (ps : List (List UInt8)) : List UInt8 := ps.flatMap fun p => 32 :: p
theorem par_snoc (w p : List UInt8) (ps : List (List UInt8)) : parS w (ps ++ [p]) = parI ps ++ 32 :: (w ++ p) := by
  induction ps with
  | nil => rfl
  | cons q ps ih =>
    have e : parS w ((q :: ps) ++ [p]) = 32 :: (q ++ parS w (ps ++ [p])) := by cases ps <;> rfl
    rw [e, ih]; simp [parI]
def replS (l : List UInt8) (c : UInt8) (t : List UInt8) : List UInt8 := l.flatMap fun b => if b = c then t else [b]
theorem repl_app (a b : List UInt8) (c : UInt8) (t : List UInt8) : replS (a ++ b) c t = replS a c t ++ replS b c t := List.flatMap_append ..
theorem repl_no {l : List UInt8} {c : UInt8} {t : List UInt8} (h : c ∉ l) : replS l c t = l := by
  induction l with
  | nil => rfl
  | cons b l ih =>
    have hb : b ≠ c := fun e => h (by rw [e]; exact List.mem_cons_self ..)
    have := ih fun hm => h (List.mem_cons_of_mem _ hm)
    unfold replS at this ⊢
    rw [List.flatMap_cons, if_neg hb, this]; rfl
theorem repl_len (l : List UInt8) (c : UInt8) (t : List UInt8) (ht : t.length ≤ 1) : (replS l c t).length ≤ l.length := by
  induction l with
  | nil => simp [replS]
  | cons b l ih =>
    unfold replS at ih ⊢
    rw [List.flatMap_cons, List.length_append, List.length_cons]
    split
    · omega
    · simp only [List.length_cons, List.length_nil]; omega
theorem idx_count {l : List UInt8} {c : UInt8} (h : 0 < l.count c) : ∃ k : Nat, idxB l c = (k : Int) ∧ k < l.length ∧ l.getD k default = c ∧ c ∉ l.take k := by
  cases hf : l.findIdx? (· == c) with
  | none =>
    rw [List.findIdx?_eq_none_iff] at hf
    rw [List.count_pos_iff] at h
    simpa using hf c h
  | some k =>
    obtain ⟨hk, h1, h2⟩ := List.findIdx?_eq_some_iff_getElem.1 hf
    refine ⟨k, idxB_some hf, hk, by simp [hk]; simpa using h1, fun hm => ?_⟩
    obtain ⟨j, hj, he⟩ := List.getElem_of_mem hm
    simp only [List.length_take] at hj
    have := h2 j (by omega)
    simp only [List.getElem_take] at he
    simp [he] at this
theorem split_get {α : Type} [Inhabited α] {l : List α} {k : Nat} (h : k < l.length) : l = l.take k ++ l.getD k default :: l.drop (k + 1) := by
  have : l.drop k = l.getD k default :: l.drop (k + 1) := by
    rw [List.drop_eq_getElem_cons h]; congr 1; simp [h]
  rw [← this, List.take_append_drop]
instance replace_ok {K : Value → St → Prop} {w0 w : World} {H : List SL} {ds : List Deferred} {l : List UInt8} {c : UInt8} {t : List UInt8} [o : Hv w0 H w] :
    Step (Cl P 228 #[str l, str [c], str t, .int .i64 (-1)] K ⟨w, ds⟩) ((l.length ≤ 500000 ∧ t.length ≤ 1 ∧ t ≠ [c]) ∧ ∀ w', Hv w0 H w' → K (str (replS l c t)) ⟨w', ds⟩) := ⟨fun ⟨⟨hl, ht, hne⟩, h⟩ => by
  refine s228 ?_
  have hcl : l.count c ≤ l.length := List.count_le_length
  have e1 : [c].length = 1 := rfl
  unfold D228
  dsimp only
  have hd : decide ([c] = t) = false := by simpa using Ne.symm hne
  repeat ((fail_if_success (refine j1_any (fun _ _ => True) ?_ ?_)); (first | refine go ?_ | intro _ | refine ⟨sb, ?_⟩ | refine ⟨sd, ?_⟩ | dsimp only))
  rw [hd]
  refine j1_hv w0 H [] (.bool false) ?_ ?_
  · repeat' (first | refine go ?_ | intro _ | refine ⟨sb, ?_⟩ | refine ⟨sd, ?_⟩ | (refine ⟨fun h1 => ?_, fun h1 => ?_⟩ <;> first | exact ab h1 | ((try rw [h1]); (try simp only [bl] at h1))) | dsimp only)
    exact ⟨rfl, _, rfl, o⟩
  intro w1 o1
  clear o
  repeat ((fail_if_success (refine j1_any (fun _ _ => True) ?_ ?_)); (first | refine go ?_ | intro _ | refine ⟨sb, ?_⟩ | refine ⟨sd, ?_⟩ | dsimp only))
  refine j1_any (fun x s => x = .int .i64 (l.count c : Nat) ∧ 0 < l.count c ∧ ∃ w', s = ⟨w', []⟩ ∧ Hv w0 H w') ?_ ?_
  · repeat' (first | refine go ?_ | intro _ | refine ⟨sb, ?_⟩ | refine ⟨sd, ?_⟩ | (refine ⟨fun h1 => ?_, fun h1 => ?_⟩ <;> first | exact ab h1 | ((try rw [h1]); (try simp only [bl] at h1))) | dsimp only)
    · have h0 : c ∉ l := by rw [← List.count_eq_zero]; omega
      rw [repl_no h0] at h
      exact h _ (Sub.hv subEnd)
    all_goals first
      | exact ⟨rfl, by omega, _, rfl, Sub.hv subEnd⟩
      | (exfalso; simp at h1; done)
  rintro _ _ ⟨rfl, hpos, w2, rfl, o2⟩
  clear o1
  have hm : InR ((l.count c : Int) * ((t.length : Int) - ([c].length : Nat))) := by
    unfold InR
    rcases (show t.length = 0 ∨ t.length = 1 by omega) with e | e <;> rw [e] <;> simp <;> omega
  have hg : 0 ≤ (l.length : Int) + (l.count c : Int) * ((t.length : Int) - ([c].length : Nat)) ∧ (l.length : Int) + (l.count c : Int) * ((t.length : Int) - ([c].length : Nat)) ≤ 1000000 := by
    rcases (show t.length = 0 ∨ t.length = 1 by omega) with e | e <;> rw [e] <;> simp <;> omega
  generalize hX : (l.count c : Int) * ((t.length : Int) - ([c].length : Nat)) = X at hm hg
  repeat ((fail_if_success (refine j1_any (fun _ _ => True) ?_ ?_)); (first | refine go ?_ | intro _ | refine ⟨sb, ?_⟩ | refine ⟨sd, ?_⟩ | dsimp only))
  all_goals (try rw [hX])
  repeat ((fail_if_success (refine j1_any (fun _ _ => True) ?_ ?_)); (first | refine go ?_ | intro _ | refine ⟨sb, ?_⟩ | refine ⟨sd, ?_⟩ | dsimp only))
  rename_i b1 _ _ w3 o3
  refine j1_any (fun x s => ∃ (st : Nat) (w' : World), x = .int .i64 st ∧ s = ⟨w', []⟩ ∧ st ≤ l.length ∧ c ∉ l.drop st ∧ Hv w0 (sbd 50 5 b1 (replS (l.take st) c t) :: H) w') ?_ ?_
  · repeat (first | refine go ?_ | intro _ | refine ⟨sb, ?_⟩ | refine ⟨sd, ?_⟩ | dsimp only)
    refine And.intro (fun _ => ?_) (fun h1 => ?_)
    · refine ⟨fun x y s => ∃ (st i : Nat) (w' : World), x = .int .i64 st ∧ y = .int .i64 i ∧ s = ⟨w', []⟩ ∧ st ≤ l.length ∧ (l.drop st).count c + i = l.count c ∧ Hv w0 (sbd 50 5 b1 (replS (l.take st) c t) :: H) w',
        fun _ y s => match y with | .int _ z => l.count c - z.toNat | _ => 0, ⟨0, 0, w3, rfl, rfl, rfl, Nat.zero_le _, by simp, o3⟩, ?_⟩
      rintro x y s ⟨st, i, w4, rfl, rfl, rfl, hst, hi, o4⟩
      clear o3 o2
      have hr := repl_len (l.take st) c t ht
      have hl2 : (l.take st).length ≤ l.length := by rw [List.length_take]; omega
      rcases Nat.lt_or_ge i (l.count c) with hlt | hge
      · obtain ⟨k, hk, hkl, hkc, hno⟩ := idx_count (l := l.drop st) (c := c) (by omega)
        have hdl : (l.drop st).length = l.length - st := List.length_drop
        have hz : ((st : Int) + idxB (l.drop st) c).toNat = st + k := by omega
        have hpl : ((l.take ((st : Int) + idxB (l.drop st) c).toNat).drop st).length ≤ 1000000 := by simp; omega
        have hpl2 : ((l.take ((st : Int) + idxB (l.drop st) c).toNat).drop st).length = k := by rw [hz]; simp; omega
        repeat' (first | refine go ?_ | intro _ | refine ⟨sb, ?_⟩ | refine ⟨sd, ?_⟩ | (refine ⟨fun h1 => ?_, fun h1 => ?_⟩ <;> first | exact ab h1 | ((try rw [h1]); (try simp only [bl] at h1))) | dsimp only)
        · have e2 : (l.take ((st : Int) + idxB (l.drop st) c).toNat).drop st = (l.drop st).take k := by rw [hz, List.take_drop]
          have e3 : l.take (st + k + 1) = l.take st ++ ((l.drop st).take k ++ [c]) := by
            have : (l.drop st).take (k + 1) = (l.drop st).take k ++ [c] := by rw [take_snoc hkl, hkc]
            rw [← this, Nat.add_assoc, List.take_add]
          have e4 : replS (l.take st) c t ++ (l.take ((st : Int) + idxB (l.drop st) c).toNat).drop st ++ t = replS (l.take (st + k + 1)) c t := by
            rw [e3, e2, repl_app, repl_app, repl_no hno]
            simp [replS]
          refine ⟨⟨st + k + 1, i + 1, _, by rw [hk]; simp, rfl, rfl, by omega, ?_, Sub.hv (subSb e4 subEnd)⟩, by simp; omega⟩
          have : (l.drop st).count c = (l.drop (st + k + 1)).count c + 1 := by
            have e5 : l.drop st = (l.drop st).take k ++ c :: l.drop (st + k + 1) := by
              have := split_get hkl
              rw [hkc, List.drop_drop] at this
              rw [show st + k + 1 = st + (k + 1) by omega]; exact this
            conv => lhs; rw [e5]
            rw [List.count_append, List.count_cons_self, List.count_eq_zero.2 hno]; omega
          omega
        · exfalso; simp at h1; omega
      · repeat' (first | refine go ?_ | intro _ | refine ⟨sb, ?_⟩ | refine ⟨sd, ?_⟩ | (refine ⟨fun h1 => ?_, fun h1 => ?_⟩ <;> first | exact ab h1 | ((try rw [h1]); (try simp only [bl] at h1))) | dsimp only)
        · exfalso; simp at h1; omega
        · exact ⟨st, _, rfl, rfl, hst, by rw [← List.count_eq_zero]; omega, Sub.hv (subSb rfl subEnd)⟩
    · exfalso; simp at h1
  · rintro _ _ ⟨st, w4, rfl, rfl, hst, hno, o4⟩
    clear o3 o2
    have e : replS l c t = replS (l.take st) c t ++ l.drop st := by
      conv => lhs; rw [← List.take_append_drop st l, repl_app, repl_no hno]
    have hr := repl_len (l.take st) c t ht
    have hl2 : (l.take st).length ≤ l.length := by rw [List.length_take]; omega
    repeat' (first | refine go ?_ | intro _ | refine ⟨sb, ?_⟩ | refine ⟨sd, ?_⟩ | (refine ⟨fun h1 => ?_, fun h1 => ?_⟩ <;> first | exact ab h1 | ((try rw [h1]); (try simp only [bl] at h1))) | dsimp only)
    rw [e] at h
    exact h _ (Sub.hv subEnd)⟩
instance replaceAll_ok {K : Value → St → Prop} {w0 w : World} {H : List SL} {ds : List Deferred} {l : List UInt8} {c : UInt8} {t : List UInt8} [o : Hv w0 H w] :
    Step (Cl P 175 #[str l, str [c], str t] K ⟨w, ds⟩) ((l.length ≤ 500000 ∧ t.length ≤ 1 ∧ t ≠ [c]) ∧ ∀ w', Hv w0 H w' → K (str (replS l c t)) ⟨w', ds⟩) := ⟨fun ⟨hs, h⟩ => by
  refine s175 ?_
  unfold D175
  dsimp only
  refine go (And.intro hs ?_)
  intro w1 o1
  repeat' (first | refine go ?_ | intro _ | refine ⟨sb, ?_⟩ | refine ⟨sd, ?_⟩ | (refine ⟨fun h1 => ?_, fun h1 => ?_⟩ <;> first | exact ab h1 | ((try rw [h1]); (try simp only [bl] at h1))) | dsimp only)
  exact h _ o1⟩
end Go.Proofs.YtfgdalggkknffaaGreatDoor.Mk

namespace Go.Proofs.YtfgdalggkknffaaGreatDoor.Mk
open Go.Vx Go.Lib
section
variable {K : Value → St → Prop} {w0 w : World} {H R : List SL} {ds : List Deferred} {l : List UInt8}
def lets : List UInt8 := [65, 66, 67, 68, 69, 70, 71, 72, 73, 74, 75, 76, 77, 78, 79, 80, 81, 82, 83, 84, 85, 86, 87, 88, 89, 90, 97, 98, 99, 100, 101, 102, 103, 104, 105, 106, 107, 108, 109, 110, 111, 112, 113, 114, 115, 116, 117, 118, 119, 120, 121, 122]
def digs : List UInt8 := [48, 49, 50, 51, 52, 53, 54, 55, 56, 57]
theorem lets_eq (b : UInt8) : lets.contains b = letB b := by
  have := bytes_all (fun b => lets.contains b == letB b) (by decide +kernel) b
  simpa using this
theorem digs_eq (b : UInt8) : digs.contains b = digB b := by
  have := bytes_all (fun b => digs.contains b == digB b) (by decide +kernel) b
  simpa using this
instance command_ok [o : Hv w0 H w] : Step (Cl P 178 #[str l] K ⟨w, ds⟩) (l.length ≤ 100000 ∧ ∀ w', Hv w0 H w' → K (.bool (cmdB l)) ⟨w', ds⟩) := ⟨fun ⟨hl, h⟩ => by
  refine s178 ?_
  have h1 : ∀ cs : List UInt8, l.all (cs.contains ·) = decide (trimLs (trimRs l cs) cs = []) := fun cs => (trims_nil l cs).symm
  have e1 : (fun x => lets.contains x) = letB := funext lets_eq
  have e2 : (fun x => digs.contains x) = digB := funext digs_eq
  have hc : cmdB l = ((!decide (l = []) && decide (trimLs (trimRs l lets) lets = [])) || (decide ((l.length : Int) = 3) && decide (trimLs (trimRs l digs) digs = []))) := by
    unfold cmdB
    rw [← h1, ← h1, e1, e2]
    congr 1
    · congr 1; cases l <;> rfl
    · congr 1; rw [decide_eq_decide]; omega
  unfold D178
  show Cl P 68 #[str l, str lets] _ _
  refine go (And.intro ⟨by omega, by decide, by decide, by decide⟩ ?_)
  intro w1 o1
  clear o
  repeat (first | refine go ?_ | intro _ | refine ⟨sb, ?_⟩ | refine ⟨sd, ?_⟩ | dsimp only)
  refine And.intro (fun hA => ?_) (fun hA => ?_)
  · repeat' (first | refine go ?_ | intro _ | refine ⟨sb, ?_⟩ | refine ⟨sd, ?_⟩ | (refine ⟨fun h1 => ?_, fun h1 => ?_⟩ <;> first | exact ab h1 | ((try rw [h1]); (try simp only [bl] at h1))) | dsimp only)
    · refine And.intro ⟨by omega, by decide, by decide, by decide⟩ ?_
      intro w2 o2
      repeat' (first | refine go ?_ | intro _ | refine ⟨sb, ?_⟩ | refine ⟨sd, ?_⟩ | (refine ⟨fun h1 => ?_, fun h1 => ?_⟩ <;> first | exact ab h1 | ((try rw [h1]); (try simp only [bl] at h1))) | dsimp only)
      refine cast (congrArg (fun b => K (.bool b) _) ?_) (h _ o2)
      rw [hc, hA, decide_eq_true h1]; rfl
    · refine cast (congrArg (fun b => K (.bool b) _) ?_) (h _ o1)
      rw [hc, hA, decide_eq_false h1]; rfl
  · rw [hA]
    repeat' (first | refine go ?_ | intro _ | refine ⟨sb, ?_⟩ | refine ⟨sd, ?_⟩ | (refine ⟨fun h1 => ?_, fun h1 => ?_⟩ <;> first | exact ab h1 | ((try rw [h1]); (try simp only [bl] at h1))) | dsimp only)
    refine cast (congrArg (fun b => K (.bool b) _) ?_) (h _ o1)
    rw [hc, hA]; simp⟩
def capsTo (l : List UInt8) (i : Nat) : List UInt8 := (l.take i).map upB ++ l.drop i
theorem capsTo_set {l : List UInt8} {i : Nat} (h : i < l.length) (u : UInt8) (hu : u = upB (l.getD i default)) : (capsTo l i).set i u = capsTo l (i + 1) := by
  unfold capsTo
  have h1 : ((l.take i).map upB).length = i := by simp; omega
  rw [List.set_append_right _ _ (by omega), h1, Nat.sub_self, List.drop_eq_getElem_cons h, List.set_cons_zero, take_snoc h, List.map_append, hu]
  simp
theorem capsTo_get {l : List UInt8} {i : Nat} (h : i < l.length) : (capsTo l i).getD i default = l.getD i default := by
  unfold capsTo
  have h1 : ((l.take i).map upB).length = i := by simp; omega
  rw [List.getD_eq_getElem?_getD, List.getElem?_append_right (by omega), h1, Nat.sub_self]
  simp
theorem set_same {α : Type} [Inhabited α] {l : List α} {i : Nat} {a : α} (h : l.getD i default = a) (hi : i < l.length) : l.set i a = l := by
  subst h
  refine List.ext_getElem (by simp) fun j h1 h2 => ?_
  rw [List.getElem_set]
  split
  · rename_i e; subst e; simp [hi]
  · rfl
instance capitals_ok [o : Hv w0 H w] : Step (Cl P 179 #[str l] K ⟨w, ds⟩) (l.length ≤ 100000 ∧ ∀ w', Hv w0 H w' → K (str (capsS l)) ⟨w', ds⟩) := ⟨fun ⟨hl, h⟩ => by
  refine s179 ?_
  unfold D179
  repeat ((fail_if_success (refine l0_ind (fun _ _ => True) ?_ ?_)); (first | refine go ?_ | intro _ | refine ⟨sb, ?_⟩ | refine ⟨sd, ?_⟩ | dsimp only))
  rename_i v w1 o1
  refine ⟨fun x s => ∃ (i : Nat) (w' : World), x = .int .i64 i ∧ s = ⟨w', []⟩ ∧ i ≤ l.length ∧ Hv w0 (srow v l.length (capsTo l i) :: H) w',
    fun x s => match x with | .int _ z => l.length - z.toNat | _ => 0, ⟨0, w1, rfl, rfl, Nat.zero_le _, by simpa [capsTo] using o1⟩, ?_⟩
  rintro x s ⟨i, w2, rfl, rfl, hi, o2⟩
  clear o1 o
  rcases Nat.lt_or_ge i l.length with hlt | hge
  · have hg := capsTo_get hlt
    repeat' (first | refine go ?_ | intro _ | refine ⟨sb, ?_⟩ | refine ⟨sd, ?_⟩ | (refine ⟨fun h1 => ?_, fun h1 => ?_⟩ <;> first | exact ab h1 | ((try rw [h1]); (try simp only [bl] at h1))) | dsimp only)
    · rw [hg] at h1
      refine ⟨⟨i + 1, _, rfl, rfl, hlt, Sub.hv (subSrow rfl ?_ subEnd)⟩, by simp; omega⟩
      refine capsTo_set hlt _ ?_
      rw [hg]; unfold upB; rw [decide_eq_true h1.1, decide_eq_true h1.2]; rfl
    · rw [hg] at h1
      refine ⟨⟨i + 1, _, rfl, rfl, hlt, Sub.hv (subSrow rfl ?_ subEnd)⟩, by simp; omega⟩
      have := capsTo_set hlt (l.getD i default) (by
        unfold upB
        split
        · rename_i hx; simp only [Bool.and_eq_true, decide_eq_true_eq] at hx; exact absurd hx.2 (by have := h1 hx.1; exact this)
        · rfl)
      rw [← this]
      exact (set_same hg (by simp [capsTo]; omega)).symm
    · exfalso; simp at h1; omega
  · obtain rfl : i = l.length := by omega
    repeat' (first | refine go ?_ | intro _ | refine ⟨sb, ?_⟩ | refine ⟨sd, ?_⟩ | (refine ⟨fun h1 => ?_, fun h1 => ?_⟩ <;> first | exact ab h1 | ((try rw [h1]); (try simp only [bl] at h1))) | dsimp only)
    · exfalso; simp at h1
    · have e : capsTo l l.length = capsS l := by simp [capsTo, capsS]
      rw [e]
      exact h _ (Sub.hv subEnd)⟩
instance spare_ok [o : Hv w0 H w] : Step (Cl P 231 #[str l] K ⟨w, ds⟩) (l.length ≤ 1000000 ∧ ∀ w', Hv w0 H w' → K (.bool (spare l)) ⟨w', ds⟩) := ⟨fun ⟨hl, h⟩ => by
  refine s231 ?_
  unfold D231
  dsimp only
  repeat' (first | refine go ?_ | intro _ | refine ⟨sb, ?_⟩ | refine ⟨sd, ?_⟩ | (refine ⟨fun h1 => ?_, fun h1 => ?_⟩ <;> first | exact ab h1 | ((try rw [h1]); (try simp only [bl] at h1))) | dsimp only)
  refine And.intro (Sd.mk fun hq => ⟨⟨by omega, ?_⟩, True.intro⟩) ?_
  · have : l ≠ [] := by simpa using hq
    have := List.length_pos_iff.2 this
    omega
  repeat' (first | refine go ?_ | intro _ | refine ⟨sb, ?_⟩ | refine ⟨sd, ?_⟩ | (refine ⟨fun h1 => ?_, fun h1 => ?_⟩ <;> first | exact ab h1 | ((try rw [h1]); (try simp only [bl] at h1))) | dsimp only)
  refine cast (congrArg (fun b => K (.bool b) _) ?_) (h _ o)
  unfold spare
  cases l with
  | nil => rfl
  | cons b l => simp [hd_cons]⟩
end
end Go.Proofs.YtfgdalggkknffaaGreatDoor.Mk

