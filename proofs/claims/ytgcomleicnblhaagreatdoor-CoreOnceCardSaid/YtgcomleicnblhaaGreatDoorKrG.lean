import Derived.Test.YtgcomleicnblhaaGreatDoorKrF
set_option linter.all false
namespace Go.Proofs.YtgcomleicnblhaaGreatDoor
open Go.Vx Go.Lib
/-! frame: what it does, in plain words -/
abbrev Lin := List UInt8 × Bool
abbrev encLn (l : Lin) : List Value := [str l.1, .bool l.2]
abbrev lnV (l : Lin) : Value := .agg #[str l.1, .bool l.2]
instance : UEnc encLn 2 := ⟨fun _ => rfl⟩
abbrev Fst := List UInt8 × Bool
def pushS (p : Fst) (c : UInt8) : Fst × Lin × Bool :=
  if c = 13 ∨ c = 10 then (([], false), (if p.2 then [] else p.1, p.2), p.2 || !decide (p.1 = []))
  else if p.2 = true ∨ p.1.length = 510 then ((p.1, true), ([], false), false) else ((p.1 ++ [c], false), ([], false), false)
def feedS : Fst → List UInt8 → Fst × List Lin
  | p, [] => (p, [])
  | p, c :: cs => ((feedS (pushS p c).1 cs).1, if (pushS p c).2.2 then (pushS p c).2.1 :: (feedS (pushS p c).1 cs).2 else (feedS (pushS p c).1 cs).2)
theorem feedS_snoc (cs : List UInt8) : ∀ (p : Fst) (c : UInt8), feedS p (cs ++ [c]) =
    ((pushS (feedS p cs).1 c).1, if (pushS (feedS p cs).1 c).2.2 then (feedS p cs).2 ++ [(pushS (feedS p cs).1 c).2.1] else (feedS p cs).2) := by
  induction cs with
  | nil => intro p c; simp only [List.nil_append, feedS]; split <;> rename_i hh <;> simp [hh]
  | cons d cs ih =>
    intro p c
    simp only [List.cons_append, feedS, ih]
    split <;> split <;> simp
theorem pushS_len {p : Fst} {c : UInt8} (h : p.1.length ≤ 510) : (pushS p c).1.1.length ≤ 510 := by
  unfold pushS; split
  · simp
  · split
    · exact h
    · simp; omega
theorem feedS_len (cs : List UInt8) : ∀ {p : Fst}, p.1.length ≤ 510 → (feedS p cs).1.1.length ≤ 510 := by
  induction cs with
  | nil => exact fun h => h
  | cons c cs ih => exact fun h => ih (pushS_len h)
theorem feedS_out (cs : List UInt8) : ∀ (p : Fst), (feedS p cs).2.length ≤ cs.length := by
  induction cs with
  | nil => intro _; simp [feedS]
  | cons c cs ih =>
    intro p
    have := ih (pushS p c).1
    simp only [feedS]; split <;> simp <;> omega

section
set_option maxRecDepth 20000
set_option synthInstance.maxSize 100000
set_option synthInstance.maxHeartbeats 4000000
/-! a framer in memory -/
def framer (f : Nat) (p : Fst) : SL := any fun wv => many [box f 182 [wv, .bool p.2], row 5 1 wv p.1.length (p.1.map byteV)]
theorem framer_open {w0 w : World} {H : List SL} {f : Nat} {p : Fst} (h : Hv w0 (framer f p :: H) w) : ∃ wv, Hv w0 (box f 182 [wv, .bool p.2] :: row 5 1 wv p.1.length (p.1.map byteV) :: H) w :=
  let ⟨wv, h⟩ := h.pick; ⟨wv, h.opens⟩
theorem framer_close {w0 w : World} {H H' R R' : List SL} {f n : Nat} {wv : Value} {p : Fst} {l : Bool} {xs : List Value} [o : Hv w0 H' w] [b : BoxIn H' f 182 [wv, .bool l] R] [r : RowIn R wv 5 1 n xs R'] [d : DropTo R' H]
    (h1 : xs = p.1.map byteV) (h2 : n = p.1.length) (h3 : l = p.2) : Hv w0 (framer f p :: H) w := by
  subst h1 h2 h3
  have h1 := Hv.perm b.perm.1 o
  have h2 := Hv.perm (sep_cons r.perm) h1
  have h3 : Hv w0 (framer f p :: R') w := Hv.give wv (Hv.closes (H := [_, _]) h2)
  exact h3.drop1

instance new_ok {K : Value → St → Prop} {w0 w : World} {H : List SL} {ds : List Deferred} [o : Hv w0 H w] : Step (Cl P 50 #[] K ⟨w, ds⟩) (∀ f w', Hv w0 (framer f ([], false) :: H) w' → K (.pointer (some ⟨f, 0, none⟩)) ⟨w', ds⟩) := ⟨fun h => by
  refine s50 ?_
  unfold D50
  refine go ?_
  refine go ?_
  intro b w' hw
  refine go ?_
  refine h b w' ?_
  exact Hv.give (.slice none 0 0) (Hv.closes (H := [_, _]) (Hv.perm sep_swap (Hv.nilRow 5 1 hw)))⟩

instance push_ok {K : Value → St → Prop} {w0 w : World} {H' H : List SL} {ds : List Deferred} {f : Nat} {p : Fst} {c : UInt8} [o' : Hv w0 H' w] [i : InK framer f H' p H] :
    Step (Cl P 225 #[.pointer (some ⟨f, 0, none⟩), byteV c] K ⟨w, ds⟩) (p.1.length ≤ 510 ∧ ∀ w', Hv w0 (framer f (pushS p c).1 :: H) w' → K (.tuple #[lnV (pushS p c).2.1, .bool (pushS p c).2.2]) ⟨w', ds⟩) := ⟨fun ⟨hlen, h⟩ => by
  refine s225 ?_
  obtain ⟨wait, lost⟩ := p
  obtain ⟨wv, o2⟩ := framer_open (i.hv o')
  clear o'
  dsimp only at hlen o2
  unfold D225
  repeat' (first | refine go ?_ | intro _ | refine ⟨sb, ?_⟩ | refine ⟨sd, ?_⟩ | (refine ⟨fun h1 => ?_, fun h1 => ?_⟩ <;> first | exact ab h1 | ((try rw [h1]); (try simp only [bl] at h1))) | dsimp only)
  all_goals (try subst lost)
  all_goals (refine cast (congrArg (fun v => K v _) ?_) (h _ (framer_close (f := f) ?_ ?_ ?_)))
  all_goals (unfold pushS; first | done | grind)⟩

instance feed_ok {K : Value → St → Prop} {w0 w : World} {H' H : List SL} {ds : List Deferred} {f : Nat} {p : Fst} {bv : Value} {bs : List UInt8} {n : Nat} {zs : List Value} [o' : Hv w0 H' w] [i : InK framer f H' p H] [rf : RdsF w0 H bv 1 n zs] [bz : Bys zs bs] :
    Step (Cl P 150 #[.pointer (some ⟨f, 0, none⟩), bv] K ⟨w, ds⟩) ((p.1.length ≤ 510 ∧ bs.length ≤ 1000000) ∧ ∀ v w', Hv w0 (row 205 2 v (feedS p bs).2.length ((feedS p bs).2.flatMap encLn) :: framer f (feedS p bs).1 :: H) w' → K v ⟨w', ds⟩) := ⟨fun ⟨⟨hw, hb⟩, h⟩ => by
  refine s150 ?_
  have o := i.hv o'
  obtain rfl := bz.eq
  obtain rfl : n = bs.length := by have := (rf.rd w o.tail).len; simpa using this.symm
  have rl := rf.loc
  clear o'
  unfold D150
  dsimp only
  repeat (first | refine go ?_ | intro _ | refine ⟨sb, ?_⟩ | refine ⟨sd, ?_⟩ | dsimp only)
  refine ⟨fun x y s => ∃ (i : Nat) (w' : World), y = .int .i64 i ∧ s = ⟨w', []⟩ ∧ i ≤ bs.length ∧
    Hv w0 (row 205 2 x (feedS p (bs.take i)).2.length ((feedS p (bs.take i)).2.flatMap encLn) :: framer f (feedS p (bs.take i)).1 :: H) w',
    fun x y s => match y with | .int _ z => bs.length - z.toNat | _ => 0, ⟨0, w, rfl, rfl, Nat.zero_le _, by simpa [feedS] using Hv.nilRow 205 2 o⟩, ?_⟩
  rintro x y s ⟨i, w1, rfl, rfl, hi, o1⟩
  have hl1 := feedS_len (bs.take i) (p := p) hw
  have hl2 := feedS_out (bs.take i) p
  rw [List.length_take] at hl2
  repeat' (first | refine go ?_ | intro _ | refine ⟨sb, ?_⟩ | refine ⟨sd, ?_⟩ | (refine ⟨fun h1 => ?_, fun h1 => ?_⟩ <;> first | exact ab h1 | ((try rw [h1]); (try simp only [bl] at h1))) | dsimp only)
  · have hlt : i < bs.length := by omega
    refine ⟨⟨i + 1, _, rfl, rfl, hlt, Sub.hv (subRow ?_ ?_ (subK ?_ subEnd))⟩, by simp; omega⟩ <;> simp [-List.getD_eq_getElem?_getD, take_snoc hlt, feedS_snoc, h1]
  · have hlt : i < bs.length := by omega
    refine ⟨⟨i + 1, _, rfl, rfl, hlt, Sub.hv (subRow ?_ ?_ (subK ?_ subEnd))⟩, by simp; omega⟩ <;> simp [-List.getD_eq_getElem?_getD, take_snoc hlt, feedS_snoc, h1]
  · rw [List.take_of_length_le (by omega)] at o1
    exact h _ _ o1⟩
end
end Go.Proofs.YtgcomleicnblhaaGreatDoor

