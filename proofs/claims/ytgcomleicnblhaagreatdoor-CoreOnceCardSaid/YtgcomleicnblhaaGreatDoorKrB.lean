import Derived.Test.YtgcomleicnblhaaGreatDoorKrA
set_option linter.all false
namespace Go.Proofs.YtgcomleicnblhaaGreatDoor
open Go.Vx Go.Lib
/-! pairs -/
abbrev strV (l : List UInt8) : Value := str l
def ofM (m : Nat) (x : (Int → Option (List (List UInt8))) × Nat) : SL := mapO m intV setT x.1 x.2
def byM (m : Nat) (x : (List UInt8 → Option (List Int)) × Nat) : SL := mapO m (fun l => str l) setR x.1 x.2
structure Rl where
  (most n : Int)
  of : Int → Option (List (List UInt8))
  by_ : List UInt8 → Option (List Int)
def Rl.ofS (x : Rl) (a : Int) : List (List UInt8) := (x.of a).getD []
def Rl.byS (x : Rl) (b : List UInt8) : List Int := (x.by_ b).getD []
def Rl.has (x : Rl) (a : Int) (b : List UInt8) : Bool := hasT sid (x.ofS a) b
def Rl.put (x : Rl) (a : Int) (b : List UInt8) : Rl := { x with n := x.n + 1, of := updF x.of a (some (addT (x.ofS a) b)), by_ := updF x.by_ b (some (addI (x.byS b) a)) }
def Rl.add (x : Rl) (a : Int) (b : List UInt8) : Rl × Int := if x.has a b then (x, 6) else if x.most ≤ (x.ofS a).length then (x, 7) else (x.put a b, 0)
structure Rl.fit (x : Rl) : Prop where
  n : -1000000000 ≤ x.n ∧ x.n ≤ 1000000000
  of : ∀ a, (x.ofS a).length ≤ 100000000
  by_ : ∀ b, (x.byS b).length ≤ 100000000
section
set_option maxRecDepth 20000
set_option synthInstance.maxSize 100000
set_option synthInstance.maxHeartbeats 4000000
def relA (p : Nat) (x : Rl) (q : (Nat × Nat) × Nat × Nat) : SL := many [box p 193 [.int .i64 x.most, .int .i64 x.n, .map (some q.1.1), .map (some q.1.2)], ofM q.1.1 (x.of, q.2.1), byM q.1.2 (x.by_, q.2.2)]
def relR (p : Nat) (x : Rl) : SL := any (relA p x)
variable {K : Value → St → Prop} {w0 w : World} {H R : List SL} {ds : List Deferred} {p m : Nat} {a : Int} {b y : List UInt8}
theorem rel_open {x : Rl} (h : Hv w0 (relR p x :: R) w) : ∃ m1 m2 n1 n2, Hv w0 (box p 193 [.int .i64 x.most, .int .i64 x.n, .map (some m1), .map (some m2)] :: ofM m1 (x.of, n1) :: byM m2 (x.by_, n2) :: R) w := by
  obtain ⟨⟨⟨m1, m2⟩, n1, n2⟩, h1⟩ := h.pick
  exact ⟨m1, m2, n1, n2, h1.opens⟩
theorem subRel {H' R1 R2 R3 G : List SL} {x : Rl} {u v : Int} {m1 m2 n1 n2 : Nat} {f1 : Int → Option (List (List UInt8))} {f2 : List UInt8 → Option (List Int)} [i : BoxIn H' p 193 [.int .i64 u, .int .i64 v, .map (some m1), .map (some m2)] R1]
    [j : InK ofM m1 R1 (f1, n1) R2] [k : InK byM m2 R2 (f2, n2) R3] (e1 : u = x.most) (e2 : v = x.n) (e3 : f1 = x.of) (e4 : f2 = x.by_) (g : Sub R3 G) : Sub H' (relR p x :: G) := by
  subst e1 e2 e3 e4
  exact Sub.any (A := relA p x) ((m1, m2), n1, n2) (Sub.many (subBox rfl (subK rfl (subK rfl g))))
instance slen_ok {l : List Int} [o : Hv w0 H w] [i : InK setR p H l R] : Step (Cl P 379 #[.pointer (some ⟨p, 0, none⟩)] K ⟨w, ds⟩) (∀ w', Hv w0 (setR p l :: R) w' → K (.int .i64 (l.length : Nat)) ⟨w', ds⟩) := ⟨fun h => by
  obtain ⟨v, hs, o1⟩ := set_open (i.hv o)
  clear o
  refine s379 ?_
  unfold D379
  repeat' (first | refine go ?_ | intro _ | refine ⟨sb, ?_⟩ | refine ⟨sd, ?_⟩ | (refine ⟨fun h1 => ?_, fun h1 => ?_⟩ <;> first | exact ab h1 | ((try rw [h1]); (try simp only [bl] at h1))) | dsimp only)
  exact h _ (Sub.hv (subSet hs rfl rfl subEnd))⟩
instance sofN_ok [o : Hv w0 H w] : Step (Cl P 171 #[.slice none 0 0] K ⟨w, ds⟩) (∀ p w', Hv w0 (setR p [] :: H) w' → K (.pointer (some ⟨p, 0, none⟩)) ⟨w', ds⟩) := ⟨fun h => by
  have o1 := Hv.nilRow 3 1 o
  clear o
  refine go (And.intro (Nat.zero_le _) ?_)
  intro p w' o2
  exact h _ _ (Sub.hv (subK rfl subEnd))⟩
/-- a thing put into a set of a map -/
instance putO_ok {x : (Int → Option (List (List UInt8))) × Nat} [o : Hv w0 H w] [i : InK ofM m H x R] : Step (Cl P 130 #[.map (some m), .int .i64 a, str b] K ⟨w, ds⟩)
    (((x.1 a).getD []).length ≤ 100000000 ∧ ∀ n' w', Hv w0 (ofM m (updF x.1 a (some (addT ((x.1 a).getD []) b)), n') :: R) w' → K (.tuple #[]) ⟨w', ds⟩) := ⟨fun ⟨hl, h⟩ => by
  have o1 : Hv w0 (mapO m intV setT x.1 x.2 :: R) w := i.hv o
  clear o
  cases hx : x.1 a with
  | none =>
    rw [hx] at hl h
    obtain ⟨g, M, an, o2, c1, c2⟩ := o1.mapNo hx
    clear o1
    refine s130 ?_
    unfold D130
    repeat' (first | refine go ?_ | intro _ | refine ⟨sb, ?_⟩ | refine ⟨sd, ?_⟩ | (refine ⟨fun h1 => ?_, fun h1 => ?_⟩ <;> first | exact ab h1 | ((try rw [h1]); (try simp only [bl] at h1))) | dsimp only)
    all_goals first
      | exact h _ _ (c2.shut (A := [_, _, _]) (subMpn rfl rfl (subK rfl (subT subEnd))))
      | (exfalso; simp at h1; done)
  | some s =>
    rw [hx] at hl h
    have hl' : s.length ≤ 100000000 := hl
    obtain ⟨q, g, M, as', o2, c1, c2, c3⟩ := o1.mapAt hx
    clear o1
    refine s130 ?_
    unfold D130
    repeat' (first | refine go ?_ | intro _ | refine ⟨sb, ?_⟩ | refine ⟨sd, ?_⟩ | (refine ⟨fun h1 => ?_, fun h1 => ?_⟩ <;> first | exact ab h1 | ((try rw [h1]); (try simp only [bl] at h1))) | dsimp only)
    all_goals first
      | exact h _ _ (c2.shut (A := [_, _, _]) (subMpn rfl rfl (subK rfl (subT subEnd))))
      | (exfalso; simp at h1; done)⟩
instance putB_ok {x : (List UInt8 → Option (List Int)) × Nat} [o : Hv w0 H w] [i : InK byM m H x R] : Step (Cl P 131 #[.map (some m), str b, .int .i64 a] K ⟨w, ds⟩)
    (((x.1 b).getD []).length ≤ 10000000 ∧ ∀ n' w', Hv w0 (byM m (updF x.1 b (some (addI ((x.1 b).getD []) a)), n') :: R) w' → K (.tuple #[]) ⟨w', ds⟩) := ⟨fun ⟨hl, h⟩ => by
  have o1 : Hv w0 (mapO m (fun l => str l) setR x.1 x.2 :: R) w := i.hv o
  clear o
  have e1 : ∀ l, [a].foldl addI l = addI l a := fun _ => rfl
  cases hx : x.1 b with
  | none =>
    rw [hx] at hl h
    obtain ⟨g, M, an, o2, c1, c2⟩ := o1.mapNo hx
    clear o1
    refine s131 ?_
    unfold D131
    repeat' (first | refine go ?_ | intro _ | refine ⟨sb, ?_⟩ | refine ⟨sd, ?_⟩ | (refine ⟨fun h1 => ?_, fun h1 => ?_⟩ <;> first | exact ab h1 | ((try rw [h1]); (try simp only [bl] at h1))) | dsimp only)
    all_goals first
      | exact h _ _ (c2.shut (A := [_, _, _]) (subMpn rfl rfl (subK rfl (subT subEnd))))
      | (exfalso; simp at h1; done)
  | some s =>
    rw [hx] at hl h
    have hl' : s.length ≤ 10000000 := hl
    obtain ⟨q, g, M, as', o2, c1, c2, c3⟩ := o1.mapAt hx
    clear o1
    refine s131 ?_
    unfold D131
    repeat' (first | refine go ?_ | intro _ | refine ⟨sb, ?_⟩ | refine ⟨sd, ?_⟩ | (refine ⟨fun h1 => ?_, fun h1 => ?_⟩ <;> first | exact ab h1 | ((try rw [h1]); (try simp only [bl] at h1))) | dsimp only)
    all_goals first
      | exact h _ _ (c2.shut (A := [_, _, _]) (subMpn rfl rfl (subK rfl (subT subEnd))))
      | (exfalso; simp at h1; done)⟩
end
end Go.Proofs.YtgcomleicnblhaaGreatDoor

