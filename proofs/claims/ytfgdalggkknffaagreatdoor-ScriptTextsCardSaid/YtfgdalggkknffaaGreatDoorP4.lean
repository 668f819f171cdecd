import Derived.Test.YtfgdalggkknffaaGreatDoorP3
import Derived.Test.YtfgdalggkknffaaGreatDoorP1
import Derived.Test.YtfgdalggkknffaaGreatDoorP2
set_option linter.all false
namespace Go.Proofs.YtfgdalggkknffaaGreatDoor
open Go.Vx Go.Lib Mk
section
set_option maxRecDepth 20000
set_option synthInstance.maxSize 100000
set_option synthInstance.maxHeartbeats 4000000
variable {K : Value → St → Prop} {w0 w : World} {H R R' : List SL} {ds : List Deferred} {p s n : Nat} {v : Value} {l : List UInt8} {z id : Int} {x : Cs} {y : Nat × Cn} {a b c d : List UInt8} {n4 n5 n6 n7 n8 n9 n10 n11 n12 n13 n14 : Int}
instance conf27_ok [o : Hv w0 H w] : Step (Cl P 19 #[.int .i64 z] K ⟨w, ds⟩) (∀ w', Hv w0 H w' → K (.agg #[str [105, 114, 99, 46, 120], str [], str [103, 111, 100], str [112, 119], .int .i64 9, .int .i64 z, .int .i64 5, .int .i64 5, .int .i64 5, .int .i64 5, .int .i64 5, .int .i64 5, .int .i64 9, .int .i64 9, .int .i64 9]) ⟨w', ds⟩) := ⟨fun h => by
  refine s19 ?_
  unfold D19
  repeat' (first | refine go ?_ | intro _ | refine ⟨sb, ?_⟩ | refine ⟨sd, ?_⟩ | (refine ⟨fun h1 => ?_, fun h1 => ?_⟩ <;> first | exact ab h1 | ((try rw [h1]); (try simp only [bl] at h1))) | dsimp only)
  exact h _ (Sub.hv subEnd)⟩
instance serveNew_ok [o : Hv w0 H w] : Step (Cl P 49 #[.agg #[str a, str b, str c, str d, .int .i64 n4, .int .i64 n5, .int .i64 n6, .int .i64 n7, .int .i64 n8, .int .i64 n9, .int .i64 n10, .int .i64 n11, .int .i64 n12, .int .i64 n13, .int .i64 n14]] K ⟨w, ds⟩)
    (((a.length ≤ 1000000000 ∧ b.length ≤ 1000000000 ∧ c.length ≤ 1000000000 ∧ d.length ≤ 1000000000) ∧ checkS ⟨a, b, c, d, n4, n5, n6, n7, n8, n9, n10, n11, n12, n13, n14⟩ = 0) ∧
    ∀ s p w', Hv w0 (box s 103 [ptrV p] :: coreR p (.new ⟨a, b, c, d, n4, n5, n6, n7, n8, n9, n10, n11, n12, n13, n14⟩) :: H) w' → K (.tuple #[.pointer (some ⟨s, 0, none⟩), .int .i64 0]) ⟨w', ds⟩) := ⟨fun ⟨hc, h⟩ => by
  refine s49 ?_
  unfold D49
  repeat' (first | refine go ?_ | intro _ | refine ⟨sb, ?_⟩ | refine ⟨sd, ?_⟩ | (refine ⟨fun h1 => ?_, fun h1 => ?_⟩ <;> first | exact ab h1 | ((try rw [h1]); (try simp only [bl] at h1))) | dsimp only)
  exact h _ _ _ (Sub.hv (subBox rfl (subK rfl subEnd)))⟩
theorem serv_in {H R R' : List SL} {x : Cs} (o : Hv w0 H w) (bi : BoxIn H s 103 [ptrV p] R) (i : InK coreR p R x R') : Hv w0 (box s 103 [ptrV p] :: coreR p x :: R') w :=
  Hv.perm (fun h => sep_cons i.perm h) (Hv.perm bi.perm.1 o)
instance linePing_ok [o : Hv w0 H w] [bi : BoxIn H s 103 [ptrV p] R] [i : InK coreR p R x R'] :
    Step (Cl P 118 #[.pointer (some ⟨s, 0, none⟩), .int .i64 id, .agg #[str l, .bool false]] K ⟨w, ds⟩)
      ((((x.live id).isSome = true ∧ hd l 64 = false ∧ (parseP l).2 = 0 ∧ (parseP l).1.cmd = [80, 73, 78, 71]) ∧ (x.fine ∧ x.dying.length ≤ 900000 ∧ x.cf.name.length ≤ 999) ∧ (parseP l).1.ps ≠ [] ∧ ∀ u ∈ (parseP l).1.ps, u.length ≤ 999) ∧ ∀ w', Hv w0 (box s 103 [ptrV p] :: coreR p (x.ping id (parseP l).1.ps) :: R') w' → K (.tuple #[]) ⟨w', ds⟩) := ⟨fun ⟨⟨⟨hl, ht, e1, e2⟩, hc⟩, h⟩ => by
  have o0 := serv_in o bi i
  clear o
  obtain ⟨y, hy⟩ := Option.isSome_iff_exists.1 hl
  have ay : AtS x.live id y := ⟨hy⟩
  refine s118 ?_
  unfold D118
  repeat (first | refine go ?_ | intro _ | refine ⟨sb, ?_⟩ | refine ⟨sd, ?_⟩ | dsimp only)
  refine And.intro (fun h1 => by rw [hl] at h1; cases h1) (fun _ => ?_)
  repeat ((fail_if_success (refine (mparseP_ok).prf ?_)); (first | refine go ?_ | intro _ | refine ⟨sb, ?_⟩ | refine ⟨sd, ?_⟩ | dsimp only))
  refine go (And.intro ht ?_)
  rw [e1, e2]
  generalize (parseP l).1.ps = ps at *
  generalize (parseP l).1.pre = pre at *
  repeat (first | refine go ?_ | intro _ | refine ⟨sb, ?_⟩ | refine ⟨sd, ?_⟩ | dsimp only)
  refine And.intro (fun h1 => by exfalso; simp at h1) (fun _ => ?_)
  repeat (first | refine go ?_ | intro _ | refine ⟨sb, ?_⟩ | refine ⟨sd, ?_⟩ | dsimp only)
  refine ⟨fun z t => z = .int .i64 0 ∧ t = ⟨_, []⟩, fun _ _ => 0, ⟨rfl, rfl⟩, ?_⟩
  rintro _ _ ⟨rfl, rfl⟩
  repeat' (first | refine go ?_ | intro _ | refine ⟨sb, ?_⟩ | refine ⟨sd, ?_⟩ | (refine ⟨fun h1 => ?_, fun h1 => ?_⟩ <;> first | exact ab h1 | ((try rw [h1]); (try simp only [bl] at h1))) | dsimp only)
  exact h _ (Sub.hv (subBox rfl (subK rfl subEnd)))⟩
def Cs.pinged (x : Cs) (id : Int) (bs : List UInt8) (ps : List (List UInt8)) : Cs := ((x.feed id bs).1.heard id).ping id ps
structure Cs.pings (x : Cs) (id : Int) (bs l : List UInt8) : Prop where
  f : x.framed
  b : bs.length ≤ 1000000
  ln : (x.feed id bs).2 = [(l, false)]
  v : ((x.feed id bs).1.live id).isSome = true
  t : (x.feed id bs).1.timed
  v2 : (((x.feed id bs).1.heard id).live id).isSome = true
  h : hd l 64 = false
  e1 : (parseP l).2 = 0
  e2 : (parseP l).1.cmd = [80, 73, 78, 71]
  c : ((x.feed id bs).1.heard id).fine ∧ ((x.feed id bs).1.heard id).dying.length ≤ 900000 ∧ ((x.feed id bs).1.heard id).cf.name.length ≤ 999
  p : (parseP l).1.ps ≠ [] ∧ ∀ u ∈ (parseP l).1.ps, u.length ≤ 999
  d : (x.pinged id bs (parseP l).1.ps).dying = []
theorem bytesPing {bv : Value} {bs : List UInt8} {zs : List Value} [o : Hv w0 H w] [bi : BoxIn H s 103 [ptrV p] R] [i : InK coreR p R x R'] [rf : RdsF w0 R' bv 1 n zs] [bz : Bys zs bs] (hp : x.pings id bs l)
    (h : ∀ w', Hv w0 (box s 103 [ptrV p] :: coreR p (x.pinged id bs (parseP l).1.ps) :: R') w' → K (.tuple #[]) ⟨w', ds⟩) :
    Cl P 84 #[.pointer (some ⟨s, 0, none⟩), .int .i64 id, bv] K ⟨w, ds⟩ := by
  have o0 := serv_in o bi i
  have rl := rf.loc
  clear o
  refine s84 ?_
  unfold D84
  repeat ((fail_if_success (refine (Feed_ok).prf ?_)); (first | refine go ?_ | intro _ | refine ⟨sb, ?_⟩ | refine ⟨sd, ?_⟩ | dsimp only))
  refine (Feed_ok).prf (And.intro ⟨hp.f, hp.b⟩ ?_)
  rw [hp.ln]
  intro v w1 o1
  have o2 : Hv w0 (row 197 2 v 1 [str l, .bool false] :: coreR p (x.feed id bs).1 :: box s 103 [ptrV p] :: R') w1 := Sub.hv (o := o1) (subRow rfl rfl (subK rfl (subBox rfl subEnd)))
  clear o0 o1
  have hv := hp.v
  have ht := hp.t
  have hq := hp.v2
  have hd := hp.d
  have hc := hp.c
  have hh := hp.h
  have he1 := hp.e1
  have he2 := hp.e2
  have hps := hp.p
  unfold Cs.pinged at h hd
  clear hp
  have sx : ∀ n, SubX [str l, .bool false] 2 0 n [str l, .bool false] := fun n => ⟨fun _ _ j u hu => by simpa using hu⟩
  generalize (x.feed id bs).1 = x1 at *
  repeat (first | refine go ?_ | intro _ | refine ⟨sb, ?_⟩ | refine ⟨sd, ?_⟩ | dsimp only)
  refine ⟨fun z t => (z = .int .i64 0 ∧ t = ⟨w1, []⟩) ∨ (z = .int .i64 1 ∧ ∃ w', t = ⟨w', []⟩ ∧ Hv w0 (box s 103 [ptrV p] :: coreR p ((x1.heard id).ping id (parseP l).1.ps) :: R') w'), fun z _ => match z with | .int _ z => 2 - z.toNat | _ => 0, .inl ⟨rfl, rfl⟩, ?_⟩
  rintro z t (⟨rfl, rfl⟩ | ⟨rfl, w2, rfl, o3⟩)
  · repeat (first | refine go ?_ | intro _ | refine ⟨sb, ?_⟩ | refine ⟨sd, ?_⟩ | dsimp only)
    refine And.intro (fun _ => ?_) (fun h1 => by exfalso; revert h1; decide)
    repeat (first | refine go ?_ | intro _ | refine ⟨sb, ?_⟩ | refine ⟨sd, ?_⟩ | dsimp only)
    refine And.intro (fun h1 => by rw [hv] at h1; cases h1) (fun _ => ?_)
    repeat' (first | refine go ?_ | intro _ | refine ⟨sb, ?_⟩ | refine ⟨sd, ?_⟩ | (refine ⟨fun h1 => ?_, fun h1 => ?_⟩ <;> first | exact ab h1 | ((try rw [h1]); (try simp only [bl] at h1))) | dsimp only)
    refine And.intro ⟨⟨hq, hh, he1, he2⟩, hc, hps⟩ ?_
    intro w4 o4
    repeat' (first | refine go ?_ | intro _ | refine ⟨sb, ?_⟩ | refine ⟨sd, ?_⟩ | (refine ⟨fun h1 => ?_, fun h1 => ?_⟩ <;> first | exact ab h1 | ((try rw [h1]); (try simp only [bl] at h1))) | dsimp only)
    exact ⟨.inr ⟨rfl, _, rfl, Sub.hv (subBox rfl (subK rfl subEnd))⟩, by decide⟩
  · clear o2
    repeat' (first | refine go ?_ | intro _ | refine ⟨sb, ?_⟩ | refine ⟨sd, ?_⟩ | (refine ⟨fun h1 => ?_, fun h1 => ?_⟩ <;> first | exact ab h1 | ((try rw [h1]); (try simp only [bl] at h1))) | dsimp only)
    exact h _ (Sub.hv (subBox rfl (subK rfl subEnd)))
instance stepConn_ok {host : List UInt8} {k : Int} {bv : Value} {zs : List Value} [o : Hv w0 H w] [bi : BoxIn H s 103 [ptrV p] R] [i : InK coreR p R x R'] [rf : RdsF w0 R' bv 1 n zs] :
    Step (Cl P 63 #[.pointer (some ⟨s, 0, none⟩), .agg #[.int .i64 1, .int .i64 id, str host, bv, .int .i64 k]] K ⟨w, ds⟩)
      (((x.timed ∧ (host.length ≤ 1000000 ∧ x.n ≤ 1000000) ∧ 512 ≤ x.cf.send ∧ x.cf.send ≤ 65536) ∧ x.mayConnect id) ∧ ∀ b w', Hv w0 (box s 103 [ptrV p] :: coreR p (x.connect b id host) :: R') w' → K (.slice none 0 0) ⟨w', ds⟩) := ⟨fun ⟨⟨hc, hm⟩, h⟩ => by
  have o0 := serv_in o bi i
  have rl := rf.loc
  have ob : One w bv := inferInstance
  have ob1 : ∀ w, One w bv := fun w => ⟨ob.eq⟩
  clear o
  refine s63 ?_
  unfold D63
  repeat' (first | refine go ?_ | intro _ | refine ⟨sb, ?_⟩ | refine ⟨sd, ?_⟩ | (refine ⟨fun h1 => ?_, fun h1 => ?_⟩ <;> first | exact ab h1 | ((try rw [h1]); (try simp only [bl] at h1))) | dsimp only)
  · exact absurd hm h1
  · exact h _ _ (Sub.hv (subBox rfl (subK rfl subEnd)))⟩
instance stepDrain_ok {host : List UInt8} {k : Int} {bv : Value} {zs : List Value} [o : Hv w0 H w] [bi : BoxIn H s 103 [ptrV p] R] [i : InK coreR p R x R'] [rf : RdsF w0 R' bv 1 n zs] :
    Step (Cl P 63 #[.pointer (some ⟨s, 0, none⟩), .agg #[.int .i64 3, .int .i64 id, str host, bv, .int .i64 k]] K ⟨w, ds⟩)
      (x.fine ∧ ∀ v n w', Hv w0 (row 5 1 v n ((x.drain id k).2.map byteV) :: box s 103 [ptrV p] :: coreR p (x.drain id k).1 :: R') w' → K v ⟨w', ds⟩) := ⟨fun ⟨hf, h⟩ => by
  have o0 := serv_in o bi i
  have rl := rf.loc
  have ob : One w bv := inferInstance
  have ob1 : ∀ w, One w bv := fun w => ⟨ob.eq⟩
  clear o
  refine s63 ?_
  unfold D63
  repeat' (first | refine go ?_ | intro _ | refine ⟨sb, ?_⟩ | refine ⟨sd, ?_⟩ | (refine ⟨fun h1 => ?_, fun h1 => ?_⟩ <;> first | exact ab h1 | ((try rw [h1]); (try simp only [bl] at h1))) | dsimp only)
  exact h _ _ _ (Sub.hv (subRow rfl rfl (subBox rfl (subK rfl subEnd))))⟩
theorem stepPing {host : List UInt8} {k : Int} {bv : Value} {bs : List UInt8} {zs : List Value} [o : Hv w0 H w] [bi : BoxIn H s 103 [ptrV p] R] [i : InK coreR p R x R'] [rf : RdsF w0 R' bv 1 n zs] [bz : Bys zs bs] (hp : x.pings id bs l)
    (h : ∀ w', Hv w0 (box s 103 [ptrV p] :: coreR p (x.pinged id bs (parseP l).1.ps) :: R') w' → K (.slice none 0 0) ⟨w', ds⟩) :
    Cl P 63 #[.pointer (some ⟨s, 0, none⟩), .agg #[.int .i64 2, .int .i64 id, str host, bv, .int .i64 k]] K ⟨w, ds⟩ := by
  have o0 := serv_in o bi i
  have rl := rf.loc
  have ob : One w bv := inferInstance
  have ob1 : ∀ w, One w bv := fun w => ⟨ob.eq⟩
  clear o
  refine s63 ?_
  unfold D63
  repeat (first | refine go ?_ | intro _ | refine ⟨sb, ?_⟩ | refine ⟨sd, ?_⟩ | dsimp only)
  refine And.intro (fun h1 => by exfalso; revert h1; decide) (fun _ => ?_)
  repeat (first | refine go ?_ | intro _ | refine ⟨sb, ?_⟩ | refine ⟨sd, ?_⟩ | dsimp only)
  refine And.intro (fun _ => ?_) (fun h1 => by exfalso; revert h1; decide)
  repeat ((fail_if_success (refine bytesPing hp ?_)); (first | refine go ?_ | intro _ | refine ⟨sb, ?_⟩ | refine ⟨sd, ?_⟩ | dsimp only))
  refine bytesPing hp ?_
  intro w4 o4
  repeat' (first | refine go ?_ | intro _ | refine ⟨sb, ?_⟩ | refine ⟨sd, ?_⟩ | (refine ⟨fun h1 => ?_, fun h1 => ?_⟩ <;> first | exact ab h1 | ((try rw [h1]); (try simp only [bl] at h1))) | dsimp only)
  exact h _ (Sub.hv (subBox rfl (subK rfl subEnd)))
end
end Go.Proofs.YtfgdalggkknffaaGreatDoor

namespace Go.Proofs.YtfgdalggkknffaaGreatDoor
open Go.Vx Go.Lib
def hexL : List UInt8 := [48, 49, 50, 51, 52, 53, 54, 55, 56, 57, 97, 98, 99, 100, 101, 102]
def markS (c : UInt8) : List UInt8 := if c = 34 ∨ c = 92 then [92, c] else if c = 13 then [92, 114] else if c = 10 then [92, 110] else if 32 ≤ c ∧ c ≤ 126 then [c] else [92, 120, hexL.getD (c.toNat / 16) 0, hexL.getD (c.toNat % 16) 0]
def quoteS (b : List UInt8) : List UInt8 := 34 :: b.flatMap markS ++ [34]
def escS (s : List UInt8) : UInt8 × Nat :=
  if s = [] then (0, 0) else if s.getD 0 0 = 34 ∨ s.getD 0 0 = 92 then (s.getD 0 0, 1) else if s.getD 0 0 = 114 then (13, 1) else if s.getD 0 0 = 110 then (10, 1)
  else if s.getD 0 0 ≠ 120 ∨ s.length < 3 then (0, 0) else if idxB hexL (s.getD 1 0) < 0 ∨ idxB hexL (s.getD 2 0) < 0 then (0, 0)
  else (UInt8.ofNat ((idxB hexL (s.getD 1 0)).toNat * 16 ||| (idxB hexL (s.getD 2 0)).toNat), 3)
theorem escS_le (s : List UInt8) : (escS s).2 ≤ s.length := by
  unfold escS
  split
  · simp
  have : 1 ≤ s.length := List.length_pos_iff.2 (by assumption)
  repeat' split
  all_goals first | (dsimp only; omega) | skip
def unq : Nat → List UInt8 → Option (List UInt8)
  | 0, _ => none
  | _ + 1, [] => some []
  | n + 1, b :: t => if b = 92 then (if (escS t).2 = 0 then none else (unq n (t.drop (escS t).2)).map ((escS t).1 :: ·)) else (unq n t).map (b :: ·)
def unquoteS (s : List UInt8) : Option (List UInt8) :=
  if s.length < 2 ∨ s.getD 0 0 ≠ 34 ∨ s.getD (s.length - 1) 0 ≠ 34 then none else
  match unq s.length ((s.take (s.length - 1)).drop 1) with | none => none | some out => if quoteS out = s then some out else none
theorem mark_head (c : UInt8) : (markS c).length = 1 ∧ (markS c).getD 0 0 = c ∧ c ≠ 92 ∧ c ≠ 34 ∨ (markS c).getD 0 0 = 92 ∧ 2 ≤ (markS c).length ∧ (markS c).length ≤ 4 ∧ (markS c).length ≠ 3 ∧ escS ((markS c).drop 1) = (c, (markS c).length - 1) := by
  have := bytes_all (fun c => ((markS c).length == 1 && (markS c).getD 0 0 == c && c != 92 && c != 34) || ((markS c).getD 0 0 == 92 && decide (2 ≤ (markS c).length) && decide ((markS c).length ≤ 4) && (markS c).length != 3 && decide (escS ((markS c).drop 1) = (c, (markS c).length - 1)))) (by decide +kernel) c
  simpa [and_assoc] using this
theorem list1 {l : List UInt8} (h : l.length = 1) : l = [l.getD 0 0] := by
  match l, h with | [a], _ => rfl
theorem esc_app {a : List UInt8} {c : UInt8} (t : List UInt8) (h : escS a = (c, a.length)) (h0 : a ≠ []) : escS (a ++ t) = (c, a.length) := by
  match a, h0 with
  | [x], _ =>
    unfold escS at h ⊢
    simp only [List.cons_append, List.nil_append, List.getD_cons_zero, List.length_cons, List.length_nil] at h ⊢
    rw [if_neg (by simp)] at h ⊢
    split
    · rename_i h1; rw [if_pos h1] at h; exact h
    rename_i h1; rw [if_neg h1] at h
    split
    · rename_i h2; rw [if_pos h2] at h; exact h
    rename_i h2; rw [if_neg h2] at h
    split
    · rename_i h3; rw [if_pos h3] at h; exact h
    rename_i h3; rw [if_neg h3] at h
    rw [if_pos (Or.inr (by omega))] at h
    cases h
  | [x, y], _ =>
    unfold escS at h
    simp only [List.getD_cons_zero, List.length_cons, List.length_nil] at h
    rw [if_neg (by simp)] at h
    repeat' split at h
    all_goals first | (cases h; done) | (rename_i h5 h6; exact absurd (Or.inr (by omega)) h5) | skip
  | [x, y, z], _ =>
    unfold escS at h ⊢
    simp only [List.cons_append, List.nil_append, List.getD_cons_zero, List.getD_cons_succ, List.length_cons, List.length_nil] at h ⊢
    rw [if_neg (by simp)] at h ⊢
    split
    · rename_i h1; rw [if_pos h1] at h; cases h
    rename_i h1; rw [if_neg h1] at h
    split
    · rename_i h2; rw [if_pos h2] at h; cases h
    rename_i h2; rw [if_neg h2] at h
    split
    · rename_i h3; rw [if_pos h3] at h; cases h
    rename_i h3; rw [if_neg h3] at h
    by_cases h4 : x ≠ 120
    · rw [if_pos (Or.inl h4)] at h; cases h
    rw [if_neg (fun q => q.elim h4 (fun q => by omega))] at h
    rw [if_neg (fun q => q.elim h4 (fun q => by omega))]
    exact h
  | x :: y :: z :: u :: l, _ =>
    exfalso
    have : (escS (x :: y :: z :: u :: l)).2 = l.length + 4 := by rw [h]; rfl
    revert this
    unfold escS
    repeat' split
    all_goals simp
theorem unq_mark (c : UInt8) (t : List UInt8) (n : Nat) : unq (n + 1) (markS c ++ t) = (unq n t).map (c :: ·) := by
  rcases mark_head c with ⟨h1, h2, h3, h4⟩ | ⟨h1, h2, h3, h4, h5⟩
  · rw [list1 h1, h2]
    show unq (n + 1) (c :: t) = _
    conv => lhs; unfold unq
    rw [if_neg h3]
  · obtain ⟨a, r, e⟩ : ∃ a r, markS c = a :: r := by
      cases h : markS c with
      | nil => rw [h] at h2; simp at h2
      | cons a r => exact ⟨a, r, rfl⟩
    rw [e] at h1 h2 h5 ⊢
    simp only [List.getD_cons_zero, List.drop_succ_cons, List.drop_zero, List.length_cons, Nat.add_sub_cancel] at h1 h2 h5
    subst h1
    have h6 := esc_app t h5 (by intro q; subst q; simp at h2)
    show unq (n + 1) (92 :: (r ++ t)) = _
    conv => lhs; unfold unq
    rw [if_pos rfl, h6, if_neg (by dsimp only; omega)]
    simp
theorem unq_marks (b : List UInt8) : ∀ n, b.length < n → unq n (b.flatMap markS) = some b := by
  induction b with
  | nil => intro n h; cases n with
    | zero => omega
    | succ n => rfl
  | cons c b ih =>
    intro n h
    cases n with
    | zero => omega
    | succ n =>
      rw [List.flatMap_cons, unq_mark, ih n (by simp at h; omega)]; rfl
theorem mark_pos (c : UInt8) : 1 ≤ (markS c).length := by rcases mark_head c with h | h <;> omega
theorem marks_len (b : List UInt8) : b.length ≤ (b.flatMap markS).length := by
  induction b with
  | nil => simp
  | cons c b ih => have := mark_pos c; simp only [List.flatMap_cons, List.length_append, List.length_cons]; omega
theorem quote_len (b : List UInt8) : (quoteS b).length = (b.flatMap markS).length + 2 := by simp [quoteS]
theorem quote_mid (b : List UInt8) : ((quoteS b).take ((quoteS b).length - 1)).drop 1 = b.flatMap markS := by
  rw [quote_len]
  unfold quoteS
  simp
theorem unquote_quote (b : List UInt8) : unquoteS (quoteS b) = some b := by
  unfold unquoteS
  have h0 := marks_len b
  have hl := quote_len b
  rw [if_neg, quote_mid, unq_marks b _ (by omega)]
  · simp
  · refine fun h => ?_
    rcases h with h | h | h
    · omega
    · exact h rfl
    · refine h ?_
      rw [hl]; unfold quoteS
      simp
theorem unquote_some {s b : List UInt8} (h : unquoteS s = some b) : s = quoteS b := by
  unfold unquoteS at h
  split at h
  · cases h
  split at h
  · cases h
  split at h
  · rename_i e; cases h; exact e.symm
  · cases h
theorem unquote_iff (s b : List UInt8) : unquoteS s = some b ↔ s = quoteS b := ⟨unquote_some, fun h => h ▸ unquote_quote b⟩
theorem app_head {a t : List UInt8} (h : 1 ≤ a.length) : (a ++ t).getD 0 0 = a.getD 0 0 := by
  cases a with
  | nil => simp at h
  | cons x a => rfl
theorem mark_pre (c d : UInt8) (t u : List UInt8) (h : markS c ++ t = markS d ++ u) : c = d := by
  have h1 := unq_mark c t (t.length + u.length + 1)
  rcases mark_head c with ⟨h1, h2, h3, h4⟩ | ⟨h1, h2, h3, h4, h5⟩ <;> rcases mark_head d with ⟨g1, g2, g3, g4⟩ | ⟨g1, g2, g3, g4, g5⟩
  · rw [list1 h1, list1 g1, h2, g2] at h; exact (List.cons.inj h).1
  · rw [list1 h1, h2] at h
    have : (c :: t).getD 0 0 = (markS d ++ u).getD 0 0 := by rw [← h]; rfl
    rw [app_head (by omega), g1] at this
    exact absurd this h3
  · rw [list1 g1, g2] at h
    have : (markS c ++ t).getD 0 0 = (d :: u).getD 0 0 := by rw [h]; rfl
    rw [app_head (by omega), h1] at this
    exact absurd this.symm g3
  · have e1 : (markS c ++ t).drop 1 = (markS c).drop 1 ++ t := List.drop_append_of_le_length (by omega)
    have e2 : (markS d ++ u).drop 1 = (markS d).drop 1 ++ u := List.drop_append_of_le_length (by omega)
    have k1 := esc_app (c := c) (a := (markS c).drop 1) t (by rw [h5]; simp) (by intro q; have := congrArg List.length q; simp at this; omega)
    have k2 := esc_app (c := d) (a := (markS d).drop 1) u (by rw [g5]; simp) (by intro q; have := congrArg List.length q; simp at this; omega)
    rw [← e1, h, e2, k2] at k1
    exact (Prod.mk.inj k1).1.symm
def refm (s : List UInt8) : Option UInt8 := ((List.range 256).find? fun c => (markS (UInt8.ofNat c)).isPrefixOf s).map UInt8.ofNat
theorem refm_mark (c : UInt8) (t : List UInt8) : refm (markS c ++ t) = some c := by
  unfold refm
  cases h : (List.range 256).find? fun k => (markS (UInt8.ofNat k)).isPrefixOf (markS c ++ t) with
  | none =>
    have := List.find?_eq_none.1 h c.toNat (List.mem_range.2 c.toNat_lt)
    simp at this
  | some k =>
    have := List.find?_some h
    obtain ⟨u, hu⟩ := List.isPrefixOf_iff_prefix.1 this
    exact congrArg some (mark_pre _ _ _ _ hu)
def refu : Nat → List UInt8 → List UInt8 → Option (List UInt8)
  | 0, _, _ => none
  | n + 1, s, out => if s = [] then none else if s.getD 0 0 = 34 then (if s.length = 1 then some out else none) else match refm s with | none => none | some c => refu n (s.drop (markS c).length) (out ++ [c])
def refUn (s : List UInt8) : Option (List UInt8) := if s.length < 2 ∨ s.getD 0 0 ≠ 34 then none else refu s.length (s.drop 1) []
theorem refm_some {s : List UInt8} {c : UInt8} (h : refm s = some c) : ∃ t, s = markS c ++ t := by
  unfold refm at h
  cases h1 : (List.range 256).find? fun k => (markS (UInt8.ofNat k)).isPrefixOf s with
  | none => rw [h1] at h; cases h
  | some k =>
    rw [h1] at h
    cases h
    have h2 := List.find?_some h1
    obtain ⟨u, hu⟩ := List.isPrefixOf_iff_prefix.1 h2
    exact ⟨u, hu.symm⟩
theorem refu_some : ∀ (n : Nat) (s out b : List UInt8), refu n s out = some b → ∃ d, b = out ++ d ∧ s = d.flatMap markS ++ [34] := by
  intro n
  induction n with
  | zero => intro s out b h; cases h
  | succ n ih =>
    intro s out b h
    unfold refu at h
    split at h
    · cases h
    split at h
    · rename_i h1
      split at h
      · rename_i h2; cases h; exact ⟨[], by simp, by rw [list1 h2, h1]; rfl⟩
      · cases h
    split at h
    · cases h
    · rename_i c hc
      obtain ⟨t, rfl⟩ := refm_some hc
      simp only [List.drop_left] at h
      obtain ⟨d, h1, h2⟩ := ih _ _ _ h
      exact ⟨c :: d, by rw [h1]; simp, by rw [h2]; simp⟩
theorem refu_marks (b : List UInt8) : ∀ (n : Nat) (out : List UInt8), b.length < n → refu n (b.flatMap markS ++ [34]) out = some (out ++ b) := by
  induction b with
  | nil => intro n out h; cases n with
    | zero => omega
    | succ n => simp [refu]
  | cons c b ih =>
    intro n out h
    cases n with
    | zero => omega
    | succ n =>
      have hp := mark_pos c
      have e : (c :: b).flatMap markS ++ [34] = markS c ++ (b.flatMap markS ++ [34]) := by simp
      have hh : ((c :: b).flatMap markS ++ [34]).getD 0 0 ≠ 34 := by
        rw [e, app_head (by omega)]
        rcases mark_head c with ⟨_, h2, _, h4⟩ | ⟨h1, _⟩
        · rw [h2]; exact h4
        · rw [h1]; decide
      unfold refu
      rw [if_neg (by simp), if_neg hh, e, refm_mark]
      simp only [List.drop_left]
      rw [ih n _ (by simp at h; omega)]; simp
theorem ref_iff (s b : List UInt8) : refUn s = some b ↔ s = quoteS b := by
  constructor
  · intro h
    unfold refUn at h
    split at h
    · cases h
    · rename_i h1
      obtain ⟨d, h2, h3⟩ := refu_some _ _ _ _ h
      cases s with
      | nil => simp at h1
      | cons a s =>
        simp only [List.getD_cons_zero, List.drop_succ_cons, List.drop_zero] at h1 h3
        have : a = 34 := by
          by_cases q : a = 34
          · exact q
          · exact absurd (Or.inr q) h1
        rw [this, h3, h2]; rfl
  · rintro rfl
    have h0 := marks_len b
    have hl := quote_len b
    unfold refUn
    rw [if_neg (by rintro (h | h)
                   · omega
                   · exact h rfl)]
    show refu _ (b.flatMap markS ++ [34]) [] = some b
    rw [refu_marks b _ _ (by omega)]; rfl
theorem ref_eq (s : List UInt8) : refUn s = unquoteS s := by
  cases h : unquoteS s with
  | some b => exact (ref_iff s b).2 (unquote_some h)
  | none =>
    cases g : refUn s with
    | none => rfl
    | some b => have := (unquote_iff s b).2 ((ref_iff s b).1 g); rw [h] at this; cases this
end Go.Proofs.YtfgdalggkknffaaGreatDoor

namespace Go.Proofs.YtfgdalggkknffaaGreatDoor
open Go.Vx Go.Lib
structure Ev where
  (kind id : Int)
  (host b : List UInt8)
  n : Int
deriving Inhabited, DecidableEq
def numK (s : List UInt8) : Option Int := if s.length < 1 ∨ 9 < s.length ∨ (s.getD 0 0 = 48 ∧ s ≠ [48]) ∨ s.all digC = false then none else some (valS s : Int)
def partsS (s : List UInt8) : Int × List UInt8 × Bool := ((numK (cutB s 32).1).getD 0, (cutB s 32).2.1, (numK (cutB s 32).1).isSome && (cutB s 32).2.2)
def connT : List UInt8 := [99, 111, 110, 110, 101, 99, 116]
def sendT : List UInt8 := [115, 101, 110, 100]
def drainT : List UInt8 := [100, 114, 97, 105, 110]
def closeT : List UInt8 := [99, 108, 111, 115, 101]
def tickT : List UInt8 := [116, 105, 99, 107]
def connE (s : List UInt8) (more : Bool) : Ev × Bool := (⟨1, (partsS s).1, (partsS s).2.1, [], 0⟩, more && (partsS s).2.2 && !decide ((partsS s).2.1 = []))
def sendE (s : List UInt8) (more : Bool) : Ev × Bool := (⟨2, (partsS s).1, [], (unquoteS (partsS s).2.1).getD [], 0⟩, more && (partsS s).2.2 && (unquoteS (partsS s).2.1).isSome)
def drainE (s : List UInt8) (more : Bool) : Ev × Bool := (⟨3, (partsS s).1, [], [], (numK (partsS s).2.1).getD 0⟩, more && (partsS s).2.2 && (numK (partsS s).2.1).isSome)
def closeE (s : List UInt8) (more : Bool) : Ev × Bool := (⟨4, (numK s).getD 0, [], [], 0⟩, more && (numK s).isSome)
def tickE (_ : List UInt8) (more : Bool) : Ev × Bool := (⟨5, 0, [], [], 0⟩, !more)
def readS (word s : List UInt8) (more : Bool) : Option (Ev × Bool) :=
  if word = connT then some (connE s more) else if word = sendT then some (sendE s more) else if word = drainT then some (drainE s more) else if word = closeT then some (closeE s more) else if word = tickT then some (tickE s more) else none
def evtS (s : List UInt8) : Ev × Int := match readS (cutB s 32).1 (cutB s 32).2.1 (cutB s 32).2.2 with
  | none => (default, 8)
  | some (e, ok) => if ok then (e, 0) else (default, 4)
def splitB (c : UInt8) : List UInt8 → List (List UInt8)
  | [] => [[]]
  | b :: t => if b = c then [] :: splitB c t else match splitB c t with | [] => [[b]] | x :: r => (b :: x) :: r
def pgoS : List (List UInt8) → Nat → List Ev → List Ev × Int × Int
  | [], _, out => (out, 0, 0)
  | s :: t, i, out => if s = [] ∨ s.getD 0 0 = 35 then pgoS t (i + 1) out else if (evtS s).2 ≠ 0 then ([], (i + 1 : Nat), (evtS s).2) else pgoS t (i + 1) (out ++ [(evtS s).1])
def parseS (text : List UInt8) : List Ev × Int × Int := pgoS (splitB 10 text) 0 []
def kindR (w : List UInt8) : Int := if w = tickT then 5 else if w = closeT then 4 else if w = drainT then 3 else if w = sendT then 2 else if w = connT then 1 else 0
def oneR (s : List UInt8) : Ev × Int :=
  let k := kindR (cutB s 32).1
  let more := (cutB s 32).2.2
  let p := cutB (cutB s 32).2.1 32
  if k = 0 then (default, 8) else
  if k = 5 then (if more then (default, 4) else (⟨5, 0, [], [], 0⟩, 0)) else
  if more = false ∨ (numK p.1).isSome = false ∨ p.2.2 = decide (k = 4) then (default, 4) else
  let id := (numK p.1).getD 0
  if k = 1 then (if p.2.1 = [] then (default, 4) else (⟨1, id, p.2.1, [], 0⟩, 0)) else
  if k = 2 then (match unquoteS p.2.1 with | none => (default, 4) | some b => (⟨2, id, [], b, 0⟩, 0)) else
  if k = 3 then (match numK p.2.1 with | none => (default, 4) | some n => (⟨3, id, [], [], n⟩, 0)) else
  (⟨4, id, [], [], 0⟩, 0)
theorem numK_all {s : List UInt8} {n : Int} (h : numK s = some n) : s.all digC = true := by
  unfold numK at h
  split at h
  · cases h
  · rename_i q; simp only [not_or] at q; simpa using q.2.2.2
theorem cutB_no {s : List UInt8} (h : s.all digC = true) : cutB s 32 = (s, [], false) := by
  have : s.findIdx? (· == 32) = none := by
    rw [List.findIdx?_eq_none_iff]
    intro x hx
    have h1 := List.all_eq_true.1 h x hx
    by_cases q : x = 32
    · subst q; exact absurd h1 (by decide)
    · simpa using q
  unfold cutB; rw [this]
theorem cutB_two {s : List UInt8} (h : (cutB s 32).2.2 = true) : numK s = none := by
  cases g : numK s with
  | none => rfl
  | some n => rw [cutB_no (numK_all g)] at h; cases h
theorem cutB_one {s : List UInt8} (h : (cutB s 32).2.2 = false) : (cutB s 32).1 = s := by
  unfold cutB at *
  split at h
  · cases h
  · rfl
theorem one_eq (s : List UInt8) : oneR s = evtS s := by
  have d1 : ∀ w, kindR w = 0 ↔ w ≠ connT ∧ w ≠ sendT ∧ w ≠ drainT ∧ w ≠ closeT ∧ w ≠ tickT := fun w => by
    unfold kindR; constructor
    · intro h; repeat' split at h
      all_goals first | (exact absurd h (by decide)) | exact ⟨by assumption, by assumption, by assumption, by assumption, by assumption⟩
    · rintro ⟨a, b, c, d, e⟩; rw [if_neg e, if_neg d, if_neg c, if_neg b, if_neg a]
  unfold oneR evtS readS
  dsimp only
  generalize hw : (cutB s 32).1 = w
  generalize (cutB s 32).2.2 = more
  generalize (cutB s 32).2.1 = r
  clear hw
  by_cases h1 : w = connT
  · subst h1
    rw [show kindR connT = 1 by decide, if_pos rfl, if_neg (by decide), if_neg (by decide), if_pos rfl]
    unfold connE partsS
    dsimp only
    cases more <;> cases h2 : numK (cutB r 32).1 <;> cases h3 : (cutB r 32).2.2 <;> simp
  by_cases h2 : w = sendT
  · subst h2
    rw [show kindR sendT = 2 by decide, if_neg h1, if_pos rfl, if_neg (by decide), if_neg (by decide), if_neg (show ¬ ((2 : Int) = 1) by decide), if_pos rfl]
    unfold sendE partsS
    dsimp only
    cases more <;> cases h2 : numK (cutB r 32).1 <;> cases h3 : (cutB r 32).2.2 <;> cases h4 : unquoteS (cutB r 32).2.1 <;> simp
  by_cases h3 : w = drainT
  · subst h3
    rw [show kindR drainT = 3 by decide, if_neg h1, if_neg h2, if_pos rfl, if_neg (by decide), if_neg (by decide), if_neg (show ¬ ((3 : Int) = 1) by decide), if_neg (show ¬ ((3 : Int) = 2) by decide), if_pos rfl]
    unfold drainE partsS
    dsimp only
    cases more <;> cases h2 : numK (cutB r 32).1 <;> cases h3 : (cutB r 32).2.2 <;> cases h4 : numK (cutB r 32).2.1 <;> simp
  by_cases h4 : w = closeT
  · subst h4
    rw [show kindR closeT = 4 by decide, if_neg h1, if_neg h2, if_neg h3, if_pos rfl, if_neg (by decide), if_neg (by decide), if_neg (show ¬ ((4 : Int) = 1) by decide), if_neg (show ¬ ((4 : Int) = 2) by decide), if_neg (show ¬ ((4 : Int) = 3) by decide)]
    unfold closeE
    dsimp only
    cases h5 : (cutB r 32).2.2 with
    | true => rw [cutB_two h5]; cases more <;> cases numK (cutB r 32).1 <;> simp
    | false => rw [cutB_one h5]; cases more <;> cases numK r <;> simp
  by_cases h5 : w = tickT
  · subst h5
    rw [show kindR tickT = 5 by decide, if_neg h1, if_neg h2, if_neg h3, if_neg h4, if_pos rfl, if_neg (by decide), if_pos rfl]
    unfold tickE
    cases more <;> simp
  · rw [(d1 w).2 ⟨h1, h2, h3, h4, h5⟩, if_neg h1, if_neg h2, if_neg h3, if_neg h4, if_neg h5, if_pos rfl]
end Go.Proofs.YtfgdalggkknffaaGreatDoor

namespace Go.Proofs.YtfgdalggkknffaaGreatDoor
open Go.Vx Go.Lib
theorem dec_big {n : Nat} (h : ¬ n < 10) : decDigits n = decDigits (n / 10) ++ [UInt8.ofNat (48 + n % 10)] := by rw [decDigits, dif_neg h]
theorem digC_of {d : Nat} (h : d < 10) : digC (UInt8.ofNat (48 + d)) = true ∧ (UInt8.ofNat (48 + d)).toNat = 48 + d := by
  have : (UInt8.ofNat (48 + d)).toNat = 48 + d := by simp; omega
  refine ⟨?_, this⟩
  simp [digC, UInt8.le_iff_toNat_le]; omega
theorem valS_snoc (l : List UInt8) (b : UInt8) : valS (l ++ [b]) = 10 * valS l + (b.toNat - 48) := by simp [valS]
theorem dec_all (m : Nat) : ∀ n, n < m → (decDigits n).all digC = true ∧ valS (decDigits n) = n ∧ decDigits n ≠ [] ∧ ((decDigits n).getD 0 0 = 48 → n = 0) := by
  induction m with
  | zero => intro n h; omega
  | succ m ih =>
    intro n h
    by_cases h1 : n < 10
    · rw [decDigits_one h1]
      have := digC_of h1
      refine ⟨by rw [List.all_cons, this.1]; rfl, by simp only [valS, List.foldl_cons, List.foldl_nil, this.2]; omega, by simp, fun q => ?_⟩
      have := congrArg UInt8.toNat (show UInt8.ofNat (48 + n) = 48 from q)
      rw [(digC_of h1).2] at this
      have : 48 + n = 48 := this
      omega
    · rw [dec_big h1]
      obtain ⟨a, b, c, d⟩ := ih (n / 10) (by omega)
      have := digC_of (show n % 10 < 10 by omega)
      refine ⟨by rw [List.all_append, a, List.all_cons, this.1]; rfl, by rw [valS_snoc, b, this.2]; omega, by simp, fun q => ?_⟩
      cases e : decDigits (n / 10) with
      | nil => exact absurd e c
      | cons x t => rw [e] at q d; have := d q; omega
theorem nDigits_le : ∀ (k u : Nat), u < 10 ^ (k + 1) → nDigits u ≤ k + 1
  | 0, u, h => by rw [nDigits_small (by omega)]; omega
  | k + 1, u, h => by
    by_cases h1 : u < 10
    · rw [nDigits_small h1]; omega
    · have := nDigits_le k (u / 10) (by rw [Nat.pow_succ] at h; omega)
      rw [nDigits_big h1]; omega
theorem numK_itoa (n : Int) : numK (itoa n) = if 0 ≤ n ∧ n ≤ 999999999 then some n else none := by
  unfold itoa
  by_cases h : n < 0
  · rw [if_pos h, if_neg (by omega)]
    unfold numK
    rw [if_pos (Or.inr (Or.inr (Or.inr (by rw [List.all_cons]; rfl))))]
  · rw [if_neg h]
    obtain ⟨a, b, c, d⟩ := dec_all (n.toNat + 1) n.toNat (by omega)
    have l1 := lt_pow_nDigits n.toNat
    have l2 : (decDigits n.toNat).length = nDigits n.toNat := decDigits_length _
    have l3 : 9 < nDigits n.toNat ↔ ¬ n ≤ 999999999 := by
      constructor
      · intro h1 h2
        have : n.toNat < 10 ^ 9 := by omega
        have := nDigits_le 8 n.toNat this
        omega
      · intro h1
        by_cases h2 : 9 < nDigits n.toNat
        · exact h2
        · have : 10 ^ nDigits n.toNat ≤ 10 ^ 9 := Nat.pow_le_pow_right (by omega) (by omega)
          omega
    unfold numK
    have c1 := List.length_pos_iff.2 c
    by_cases h1 : n ≤ 999999999
    · rw [if_neg, if_pos ⟨by omega, h1⟩, b]
      · congr 1; omega
      · rintro (q | q | ⟨q, r⟩ | q)
        · omega
        · omega
        · exact r (by have := d q; rw [this, decDigits_one (by omega)]; rfl)
        · rw [a] at q; cases q
    · rw [if_pos (Or.inr (Or.inl (by omega))), if_neg (by omega)]
theorem itoa_free (n : Int) (c : UInt8) (h : digC c = false) (h1 : c ≠ 45) : c ∉ itoa n := by
  have q : ∀ u, c ∉ decDigits u := fun u hc => by
    have := List.all_eq_true.1 (dec_all (u + 1) u (by omega)).1 c hc
    rw [h] at this; cases this
  unfold itoa
  split
  · simp only [List.mem_cons, not_or]; exact ⟨h1, q _⟩
  · exact q _
theorem mark_free (b c : UInt8) (h : c = 10) : c ∉ markS b := by
  subst h
  have := bytes_all (fun b => !(markS b).contains 10) (by decide +kernel) b
  simpa using this
theorem quote_free (b : List UInt8) : (10 : UInt8) ∉ quoteS b := by
  unfold quoteS
  simp only [List.mem_append, List.mem_cons, List.mem_flatMap, List.not_mem_nil, or_false, not_or]
  refine ⟨⟨by decide, fun ⟨x, _, hx⟩ => mark_free x 10 rfl hx⟩, by decide⟩
def lineS (e : Ev) : List UInt8 :=
  if e.kind = 1 then connT ++ [32] ++ itoa e.id ++ [32] ++ e.host else if e.kind = 2 then sendT ++ [32] ++ itoa e.id ++ [32] ++ quoteS e.b else if e.kind = 3 then drainT ++ [32] ++ itoa e.id ++ [32] ++ itoa e.n
  else if e.kind = 4 then closeT ++ [32] ++ itoa e.id else if e.kind = 5 then tickT else []
def okE (e : Ev) : Bool := decide ((parseS (lineS e)).2.2 = 0) && decide ((parseS (lineS e)).1 = [e])
def saysE (e : Ev) : Bool := !(decide (e.kind < 1) || decide (e.kind > 5) || decide (e.id < 0) || decide (e.id > 999999999) || decide (e.n < 0) || decide (e.n > 999999999)) &&
  !((decide (e.kind = 5) && !decide (e.id = 0)) || (!decide (e.kind = 1) && !decide (e.host = [])) || (!decide (e.kind = 2) && !decide (e.b = [])) || (!decide (e.kind = 3) && !decide (e.n = 0)) || (decide (e.kind = 1) && decide (e.host = []))) && !e.host.contains 10
theorem split_one {c : UInt8} : ∀ {a : List UInt8}, c ∉ a → splitB c a = [a]
  | [], _ => rfl
  | b :: t, h => by
    simp only [List.mem_cons, not_or] at h
    unfold splitB
    rw [if_neg (Ne.symm h.1), split_one h.2]
theorem split_two {c : UInt8} {t : List UInt8} : ∀ {a : List UInt8}, c ∉ a → splitB c (a ++ c :: t) = a :: splitB c t
  | [], _ => by show splitB c (c :: t) = _; conv => lhs; unfold splitB
                rw [if_pos rfl]
  | b :: a, h => by
    simp only [List.mem_cons, not_or] at h
    show splitB c (b :: (a ++ c :: t)) = _
    conv => lhs; unfold splitB
    rw [if_neg (Ne.symm h.1), split_two h.2]
theorem cut_at {c : UInt8} {a t : List UInt8} (h : c ∉ a) : cutB (a ++ c :: t) c = (a, t, true) := by
  have : (a ++ c :: t).findIdx? (· == c) = some a.length := by
    rw [List.findIdx?_append, List.findIdx?_eq_none_iff.2 (fun x hx => by
      have : x ≠ c := fun e => h (by rw [← e]; exact hx)
      simpa using this)]
    simp [List.findIdx?_cons]
  unfold cutB; rw [this]
  simp
theorem cut_no {c : UInt8} {a : List UInt8} (h : c ∉ a) : cutB a c = (a, [], false) := by
  have : a.findIdx? (· == c) = none := List.findIdx?_eq_none_iff.2 (fun x hx => by
      have : x ≠ c := fun e => h (by rw [← e]; exact hx)
      simpa using this)
  unfold cutB; rw [this]
theorem pgo_out : ∀ (t : List (List UInt8)) (i : Nat) (out : List Ev), (pgoS t i out).2.2 = 0 → ∃ r, (pgoS t i out).1 = out ++ r
  | [], _, out, _ => ⟨[], by simp [pgoS]⟩
  | s :: t, i, out, h => by
    unfold pgoS at h ⊢
    split
    · rename_i h1; rw [if_pos h1] at h; exact pgo_out t _ _ h
    · rename_i h1; rw [if_neg h1] at h
      split
      · rename_i h2; rw [if_pos h2] at h; exact absurd h h2
      · rename_i h2; rw [if_neg h2] at h
        obtain ⟨r, e⟩ := pgo_out t _ _ h
        exact ⟨(evtS s).1 :: r, by rw [e]; simp⟩
theorem parse_one {s : List UInt8} (h : (10 : UInt8) ∉ s) (h1 : s ≠ []) (h2 : s.getD 0 0 ≠ 35) : parseS s = if (evtS s).2 ≠ 0 then ([], 1, (evtS s).2) else ([(evtS s).1], 0, 0) := by
  unfold parseS
  rw [split_one h]
  unfold pgoS
  rw [if_neg (by rintro (q | q)
                 · exact h1 q
                 · exact h2 q)]
  split
  · rfl
  · rfl
theorem one_conn (id : Int) (host : List UInt8) : evtS (connT ++ [32] ++ itoa id ++ [32] ++ host) = if (0 ≤ id ∧ id ≤ 999999999) ∧ host ≠ [] then (⟨1, id, host, [], 0⟩, 0) else (default, 4) := by
  have e : connT ++ [32] ++ itoa id ++ [32] ++ host = connT ++ 32 :: (itoa id ++ 32 :: host) := by simp
  unfold evtS
  rw [e, cut_at (by decide)]
  unfold readS
  dsimp only
  rw [if_pos rfl]
  unfold connE partsS
  rw [cut_at (itoa_free id 32 (by decide) (by decide)), numK_itoa]
  by_cases h : 0 ≤ id ∧ id ≤ 999999999 <;> by_cases h1 : host = [] <;> simp [h, h1]
theorem one_send (id : Int) (b : List UInt8) : evtS (sendT ++ [32] ++ itoa id ++ [32] ++ quoteS b) = if 0 ≤ id ∧ id ≤ 999999999 then (⟨2, id, [], b, 0⟩, 0) else (default, 4) := by
  have e : sendT ++ [32] ++ itoa id ++ [32] ++ quoteS b = sendT ++ 32 :: (itoa id ++ 32 :: quoteS b) := by simp
  unfold evtS
  rw [e, cut_at (by decide)]
  unfold readS
  dsimp only
  rw [if_neg (by decide), if_pos rfl]
  unfold sendE partsS
  rw [cut_at (itoa_free id 32 (by decide) (by decide)), numK_itoa]
  dsimp only
  rw [unquote_quote]
  by_cases h : 0 ≤ id ∧ id ≤ 999999999 <;> simp [h]
theorem one_drain (id n : Int) : evtS (drainT ++ [32] ++ itoa id ++ [32] ++ itoa n) = if (0 ≤ id ∧ id ≤ 999999999) ∧ 0 ≤ n ∧ n ≤ 999999999 then (⟨3, id, [], [], n⟩, 0) else (default, 4) := by
  have e : drainT ++ [32] ++ itoa id ++ [32] ++ itoa n = drainT ++ 32 :: (itoa id ++ 32 :: itoa n) := by simp
  unfold evtS
  rw [e, cut_at (by decide)]
  unfold readS
  dsimp only
  rw [if_neg (by decide), if_neg (by decide), if_pos rfl]
  unfold drainE partsS
  rw [cut_at (itoa_free id 32 (by decide) (by decide)), numK_itoa]
  dsimp only
  rw [numK_itoa]
  by_cases h : 0 ≤ id ∧ id ≤ 999999999 <;> by_cases h1 : 0 ≤ n ∧ n ≤ 999999999 <;> simp [h, h1]
theorem one_close (id : Int) : evtS (closeT ++ [32] ++ itoa id) = if 0 ≤ id ∧ id ≤ 999999999 then (⟨4, id, [], [], 0⟩, 0) else (default, 4) := by
  have e : closeT ++ [32] ++ itoa id = closeT ++ 32 :: itoa id := by simp
  unfold evtS
  rw [e, cut_at (by decide)]
  unfold readS
  dsimp only
  rw [if_neg (by decide), if_neg (by decide), if_neg (by decide), if_pos rfl]
  unfold closeE
  rw [numK_itoa]
  by_cases h : 0 ≤ id ∧ id ≤ 999999999 <;> simp [h]
theorem one_tick : evtS tickT = (⟨5, 0, [], [], 0⟩, 0) := by decide +kernel
theorem line_free (e : Ev) (h : (10 : UInt8) ∉ e.host) : (10 : UInt8) ∉ lineS e := by
  have a := itoa_free e.id 10 (by decide) (by decide)
  have b := itoa_free e.n 10 (by decide) (by decide)
  have c := quote_free e.b
  unfold lineS
  repeat' split
  all_goals try simp only [List.mem_append, not_or]
  · exact ⟨⟨⟨⟨by decide, by decide⟩, a⟩, by decide⟩, h⟩
  · exact ⟨⟨⟨⟨by decide, by decide⟩, a⟩, by decide⟩, c⟩
  · exact ⟨⟨⟨⟨by decide, by decide⟩, a⟩, by decide⟩, b⟩
  · exact ⟨⟨by decide, by decide⟩, a⟩
  · decide
  · simp
theorem line_head (e : Ev) (h : lineS e ≠ []) : (lineS e).getD 0 0 ≠ 35 := by
  unfold lineS at h ⊢
  repeat' split
  all_goals first | (simp [connT, sendT, drainT, closeT, tickT]; done) | skip
theorem line_ne (e : Ev) (h : 1 ≤ e.kind ∧ e.kind ≤ 5) : lineS e ≠ [] := by
  unfold lineS
  repeat' split
  all_goals first | (simp [connT, sendT, drainT, closeT, tickT]; done) | omega
theorem first_nl {l : List UInt8} (h : (10 : UInt8) ∈ l) : ∃ a t, l = a ++ 10 :: t ∧ (10 : UInt8) ∉ a := by
  induction l with
  | nil => cases h
  | cons b l ih =>
    by_cases q : b = 10
    · exact ⟨[], l, by rw [q]; rfl, by simp⟩
    · obtain ⟨a, t, e, g⟩ := ih (by rcases List.mem_cons.1 h with h | h
                                    · exact absurd h.symm q
                                    · exact h)
      exact ⟨b :: a, t, by rw [e]; rfl, by simp only [List.mem_cons, not_or]; exact ⟨Ne.symm q, g⟩⟩
theorem ok_says (e : Ev) : okE e = saysE e := by
  obtain ⟨kind, id, host, b, n⟩ := e
  rw [Bool.eq_iff_iff]
  by_cases hk : ¬ (1 ≤ kind ∧ kind ≤ 5)
  · have e0 : lineS ⟨kind, id, host, b, n⟩ = [] := by
      unfold lineS; dsimp only
      rw [if_neg (by omega), if_neg (by omega), if_neg (by omega), if_neg (by omega), if_neg (by omega)]
    have e1 : parseS ([] : List UInt8) = ([], 0, 0) := by decide +kernel
    unfold okE saysE
    rw [e0, e1]
    simp; omega
  have hk : 1 ≤ kind ∧ kind ≤ 5 := Classical.not_not.1 hk
  have hne := line_ne ⟨kind, id, host, b, n⟩ hk
  by_cases hh : (10 : UInt8) ∈ host
  · -- a line's end in the host
    have hs : saysE ⟨kind, id, host, b, n⟩ = false := by unfold saysE; simp [hh]
    rw [hs]
    refine ⟨fun h => ?_, fun h => by cases h⟩
    unfold okE at h
    rw [Bool.and_eq_true, decide_eq_true_eq, decide_eq_true_eq] at h
    obtain ⟨h1, h2⟩ := h
    by_cases k1 : kind = 1
    · subst k1
      obtain ⟨a, t, e, ha⟩ := first_nl hh
      have el : lineS ⟨1, id, host, b, n⟩ = (connT ++ [32] ++ itoa id ++ [32] ++ a) ++ 10 :: t := by unfold lineS; simp [e]
      have hf : (10 : UInt8) ∉ connT ++ [32] ++ itoa id ++ [32] ++ a := by
        have := line_free ⟨1, id, a, b, n⟩ ha; unfold lineS at this; simpa using this
      rw [el] at h1 h2
      unfold parseS at h1 h2
      rw [split_two hf] at h1 h2
      unfold pgoS at h1 h2
      rw [if_neg (by simp [connT])] at h1 h2
      split at h1
      · rename_i h3; exact absurd h1 h3
      · rename_i h3
        rw [if_neg h3] at h2
        obtain ⟨r, hr⟩ := pgo_out _ _ _ h1
        rw [hr, one_conn] at h2
        rw [one_conn] at h3
        split at h2
        · have := congrArg Ev.host (List.cons.inj h2).1
          have hl := congrArg List.length (show a = host from this)
          rw [e] at hl; simp at hl
        · rename_i h4; rw [if_neg h4] at h3; exact absurd (by decide) h3
    · have hl : (10 : UInt8) ∉ lineS ⟨kind, id, host, b, n⟩ := by
        have e : lineS ⟨kind, id, host, b, n⟩ = lineS ⟨kind, id, [], b, n⟩ := by unfold lineS; dsimp only; rw [if_neg k1, if_neg k1]
        rw [e]; exact line_free _ (by simp)
      rw [parse_one hl hne (line_head _ hne)] at h1 h2
      split at h1
      · rename_i h3; exact absurd h1 h3
      · rename_i h3
        rw [if_neg h3] at h2
        have hd := congrArg Ev.host (List.cons.inj h2).1
        have hz : ((evtS (lineS ⟨kind, id, host, b, n⟩)).1).host = [] := by
          unfold lineS
          dsimp only
          rw [if_neg k1]
          split
          · rw [one_send]; split <;> rfl
          split
          · rw [one_drain]; split <;> rfl
          split
          · rw [one_close]; split <;> rfl
          split
          · rw [one_tick]
          · omega
        rw [hz] at hd
        have hd : ([] : List UInt8) = host := hd
        rw [← hd] at hh; cases hh
  · have hl := line_free ⟨kind, id, host, b, n⟩ hh
    unfold okE
    rw [parse_one hl hne (line_head _ hne)]
    unfold saysE
    have hc : host.contains 10 = false := by simpa using hh
    dsimp only
    rw [hc]
    unfold lineS
    dsimp only
    by_cases k1 : kind = 1
    · subst k1
      rw [if_pos rfl, one_conn]
      by_cases q : (0 ≤ id ∧ id ≤ 999999999) ∧ host ≠ []
      · rw [if_pos q]; simp [q.2]; grind
      · rw [if_neg q]; simp; intros; by_cases q2 : host = []
        · exact q2
        · exfalso; exact q ⟨by omega, q2⟩
    rw [if_neg k1]
    by_cases k2 : kind = 2
    · subst k2
      rw [if_pos rfl, one_send]
      by_cases q : 0 ≤ id ∧ id ≤ 999999999
      · rw [if_pos q]; simp; first | omega | grind
      · rw [if_neg q]; simp; intros; omega
    rw [if_neg k2]
    by_cases k3 : kind = 3
    · subst k3
      rw [if_pos rfl, one_drain]
      by_cases q : (0 ≤ id ∧ id ≤ 999999999) ∧ 0 ≤ n ∧ n ≤ 999999999
      · rw [if_pos q]; simp; first | omega | grind
      · rw [if_neg q]; simp; intros; omega
    rw [if_neg k3]
    by_cases k4 : kind = 4
    · subst k4
      rw [if_pos rfl, one_close]
      by_cases q : 0 ≤ id ∧ id ≤ 999999999
      · rw [if_pos q]; simp; first | omega | grind
      · rw [if_neg q]; simp; intros; omega
    rw [if_neg k4]
    have k5 : kind = 5 := by omega
    subst k5
    rw [if_pos rfl, one_tick]
    simp; grind
def textS (l : List Ev) : List UInt8 := l.flatMap fun e => lineS e ++ [10]
theorem ok_one {e : Ev} (h : okE e = true) : (10 : UInt8) ∉ lineS e ∧ lineS e ≠ [] ∧ (lineS e).getD 0 0 ≠ 35 ∧ evtS (lineS e) = (e, 0) := by
  have hs := h
  rw [ok_says] at hs
  have hk : 1 ≤ e.kind ∧ e.kind ≤ 5 := by
    unfold saysE at hs
    simp only [Bool.and_eq_true, Bool.not_eq_true', Bool.or_eq_false_iff, decide_eq_false_iff_not] at hs
    omega
  have hh : (10 : UInt8) ∉ e.host := by
    unfold saysE at hs
    simp only [Bool.and_eq_true, Bool.not_eq_true'] at hs
    simpa using hs.2
  have h1 := line_free e hh
  have h2 := line_ne e hk
  have h3 := line_head e h2
  refine ⟨h1, h2, h3, ?_⟩
  unfold okE at h
  rw [parse_one h1 h2 h3, Bool.and_eq_true, decide_eq_true_eq, decide_eq_true_eq] at h
  obtain ⟨h4, h5⟩ := h
  split at h4
  · rename_i q; exact absurd h4 q
  · rename_i q
    rw [if_neg q] at h5
    have := (List.cons.inj h5).1
    have q : (evtS (lineS e)).2 = 0 := by omega
    exact Prod.ext this q
theorem pgo_text : ∀ (l : List Ev) (i : Nat) (out : List Ev), l.all okE = true → pgoS (splitB 10 (textS l)) i out = (out ++ l, 0, 0)
  | [], i, out, _ => by
    show pgoS [[]] i out = _
    unfold pgoS
    rw [if_pos (Or.inl rfl)]
    unfold pgoS
    simp
  | e :: l, i, out, h => by
    rw [List.all_cons, Bool.and_eq_true] at h
    obtain ⟨h1, h2, h3, h4⟩ := ok_one h.1
    have : textS (e :: l) = lineS e ++ 10 :: textS l := by simp [textS]
    rw [this, split_two h1]
    conv => lhs; unfold pgoS
    rw [if_neg (by rintro (q | q)
                   · exact h2 q
                   · exact h3 q), h4, if_neg (by simp), pgo_text l _ _ h.2]
    simp
theorem parse_text (l : List Ev) (h : l.all okE = true) : parseS (textS l) = (l, 0, 0) := by
  unfold parseS; rw [pgo_text l 0 [] h]; rfl
end Go.Proofs.YtfgdalggkknffaaGreatDoor

namespace Go.Proofs.YtfgdalggkknffaaGreatDoor
open Go.Vx Go.Lib
section
variable {t : TypeId} {cx cy : Bool} {w : World}
instance txs0 {n : Nat} : ToN ((n : Int) / 16) (n / 16) := ⟨fun _ => by omega⟩
instance txs1 {c : UInt8} : VT (Bo P .shr t cx cy (byteV c) (.int .u64 4)) w (.int .u8 ((c.toNat : Int) / 16)) := VT.of (by
  rw [bo_int, binOp_shr, shift_shr .u8 .u64 _ 4 (by omega) (by decide)]; rfl)
theorem bits_and15 : ∀ a : Fin 256, IntKind.u8.wrap ((BitVec.ofInt 8 a.val &&& BitVec.ofInt 8 15).toNat : Int) = ((a.val % 16 : Nat) : Int) := by decide +kernel
instance txs2 {c : UInt8} : VT (Bo P .and t cx cy (byteV c) (byteV 15)) w (.int .u8 ((c.toNat % 16 : Nat) : Int)) := VT.of (by
  rw [bo_int, binOp_and]
  simp only [Op.intBits]
  show (pure (Value.int IntKind.u8 (IntKind.u8.wrap ((BitVec.ofInt 8 (c.toNat : Int) &&& BitVec.ofInt 8 15).toNat : Int))) : Sem Value).run P w = _
  have := bits_and15 ⟨c.toNat, c.toNat_lt⟩
  simp only at this
  rw [this]; rfl)
theorem bits_or16 : ∀ a b : Fin 16, IntKind.i64.wrap ((BitVec.ofInt 64 (a.val * 16 : Nat) ||| BitVec.ofInt 64 b.val).toNat : Int) = ((a.val * 16 ||| b.val : Nat) : Int) := by decide +kernel
instance txs3 {z : Int} : VS (Bo P .shl t cx cy (.int .i64 z) (.int .u64 4)) w (0 ≤ z ∧ z < 16) (.int .i64 (z * 16)) := VS.of fun h => by
  rw [bo_int, binOp_shl, shift_shl .i64 .u64 z 4 (by omega) (by decide)]
  have e : ∀ n : Fin 16, IntKind.i64.wrap ((n.val : Int) * 2 ^ 4) = (n.val : Int) * 16 := by decide +kernel
  have := e ⟨z.toNat, by omega⟩
  simp only at this
  rw [show ((z.toNat : Nat) : Int) = z by omega] at this
  rw [show (4 : Int).toNat = 4 from rfl, this]; rfl
instance txs4 {a b : Int} : VS (Bo P .or t cx cy (.int .i64 (a * 16)) (.int .i64 b)) w ((0 ≤ a ∧ a < 16) ∧ 0 ≤ b ∧ b < 16) (.int .i64 ((a.toNat * 16 ||| b.toNat : Nat) : Int)) := VS.of fun h => by
  have := bits_or16 ⟨a.toNat, by omega⟩ ⟨b.toNat, by omega⟩
  simp only at this
  rw [bo_int, binOp_or]
  simp only [Op.intBits]
  show (pure (Value.int IntKind.i64 (IntKind.i64.wrap ((BitVec.ofInt 64 (a * 16) ||| BitVec.ofInt 64 b).toNat : Int))) : Sem Value).run P w = _
  rw [show a * 16 = ((a.toNat * 16 : Nat) : Int) by omega, show b = ((b.toNat : Nat) : Int) by omega]
  rw [this]; simp only [Int.toNat_natCast]; rfl
end
theorem marks_le (l : List UInt8) : (l.flatMap markS).length ≤ 4 * l.length := by
  induction l with
  | nil => simp
  | cons c l ih => have : (markS c).length ≤ 4 := by rcases mark_head c with h | h <;> omega
                   simp only [List.flatMap_cons, List.length_append, List.length_cons]; omega
theorem mark_q {c : UInt8} (h : c = 34 ∨ c = 92) : markS c = [92, c] := if_pos h
theorem mark_r {c : UInt8} (h : c = 13) : markS c = [92, 114] := by rw [h]; rfl
theorem mark_n {c : UInt8} (h : c = 10) : markS c = [92, 110] := by rw [h]; rfl
theorem mark_v {c : UInt8} (h : ¬ c = 34 ∧ ¬ c = 92) (h1 : ¬ c = 13) (h2 : ¬ c = 10) (h3 : 32 ≤ c ∧ c ≤ 126) : markS c = [c] := by
  unfold markS; rw [if_neg (fun q => q.elim h.1 h.2), if_neg h1, if_neg h2, if_pos h3]
theorem mark_x {c : UInt8} (h : ¬ c = 34 ∧ ¬ c = 92) (h1 : ¬ c = 13) (h2 : ¬ c = 10) (h3 : 32 ≤ c → ¬ c ≤ 126) : markS c = [92, 120, hexL.getD (c.toNat / 16) 0, hexL.getD (c.toNat % 16) 0] := by
  unfold markS; rw [if_neg (fun q => q.elim h.1 h.2), if_neg h1, if_neg h2, if_neg (fun q => h3 q.1 q.2)]
def quoTo (b : List UInt8) (i : Nat) : List UInt8 := 34 :: (b.take i).flatMap markS
theorem quoTo_next {b : List UInt8} {i : Nat} (h : i < b.length) : quoTo b (i + 1) = quoTo b i ++ markS (b.getD i default) := by
  unfold quoTo; rw [take_snoc h, List.flatMap_append]; simp
theorem quoTo_len (b : List UInt8) (i : Nat) : (quoTo b i).length ≤ 4 * b.length + 1 := by
  have := marks_le (b.take i)
  have h2 : (b.take i).length ≤ b.length := by rw [List.length_take]; omega
  simp only [quoTo, List.length_cons]; omega
section
set_option maxRecDepth 20000
set_option synthInstance.maxSize 200000
set_option synthInstance.maxHeartbeats 4000000
variable {K : Value → St → Prop} {w0 w : World} {H R : List SL} {ds : List Deferred} {p n : Nat} {v bv : Value} {l bs : List UInt8} {zs : List Value}
instance quote_ok [o : Hv w0 H w] [rf : RdsF w0 H bv 1 n zs] [bz : Bys zs bs] : Step (Cl P 7 #[bv] K ⟨w, ds⟩) (bs.length ≤ 200000 ∧ ∀ w', Hv w0 H w' → K (str (quoteS bs)) ⟨w', ds⟩) := ⟨fun ⟨hl, h⟩ => by
  have rl := rf.loc
  obtain rfl := bz.eq
  obtain rfl : n = bs.length := by have := (rf.rd w o).len; simpa using this.symm
  have ql := quoTo_len bs
  refine s7 ?_
  unfold D7
  repeat ((fail_if_success (refine (writeByte_ok).prf ?_)); (first | refine go ?_ | intro _ | refine ⟨sb, ?_⟩ | refine ⟨sd, ?_⟩ | dsimp only))
  rename_i b2 w2 o2
  have o3 := sbd_new (e := 5) o2
  clear o2 o
  repeat ((fail_if_success (refine l1_ind (fun _ _ => True) ?_ ?_)); (first | refine go ?_ | intro _ | refine ⟨sb, ?_⟩ | refine ⟨sd, ?_⟩ | dsimp only))
  rename_i w3 o4
  clear o3
  refine ⟨fun x s => ∃ (i : Nat) (w' : World), x = .int .i64 i ∧ s = ⟨w', []⟩ ∧ i ≤ bs.length ∧ Hv w0 (sbd 50 5 b2 (quoTo bs i) :: H) w',
    fun x s => match x with | .int _ z => bs.length - z.toNat | _ => 0, ⟨0, w3, rfl, rfl, Nat.zero_le _, Sub.hv (subSb rfl subEnd)⟩, ?_⟩
  rintro x s ⟨i, w4, rfl, rfl, hi, o5⟩
  clear o4
  rcases Nat.lt_or_ge i bs.length with hlt | hge
  · have hq := ql i
    have hs := quoTo_next hlt
    have hc := (bs.getD i default).toNat_lt
    repeat (first | refine go ?_ | intro _ | refine ⟨sb, ?_⟩ | refine ⟨sd, ?_⟩ | dsimp only)
    refine And.intro (fun h1 => ?_) (fun h1 => by exfalso; simp at h1; omega)
    refine j0_hv w0 (sbd 50 5 b2 (quoTo bs (i + 1)) :: H) [] ?_ ?_
    · repeat' (first | refine go ?_ | intro _ | refine ⟨sb, ?_⟩ | refine ⟨sd, ?_⟩ | (refine ⟨fun h1 => ?_, fun h1 => ?_⟩ <;> first | exact ab h1 | ((try rw [h1]); (try simp only [bl] at h1))) | dsimp only)
      · exact ⟨_, rfl, Sub.hv (subSb (by rw [hs, mark_q h1]; simp) subEnd)⟩
      · exact ⟨_, rfl, Sub.hv (subSb (by rw [hs, mark_r h1]) subEnd)⟩
      · exact ⟨_, rfl, Sub.hv (subSb (by rw [hs, mark_n h1]) subEnd)⟩
      · rename_i g3 g2 g1
        exact ⟨_, rfl, Sub.hv (subSb (by rw [hs, mark_v ‹_› ‹_› ‹_› h1]) subEnd)⟩
      · exact ⟨_, rfl, Sub.hv (subSb (by rw [hs, mark_x ‹_› ‹_› ‹_› h1]; rfl) subEnd)⟩
    · intro w6 o6
      clear o5
      repeat' (first | refine go ?_ | intro _ | refine ⟨sb, ?_⟩ | refine ⟨sd, ?_⟩ | (refine ⟨fun h1 => ?_, fun h1 => ?_⟩ <;> first | exact ab h1 | ((try rw [h1]); (try simp only [bl] at h1))) | dsimp only)
      exact ⟨⟨i + 1, _, rfl, rfl, hlt, o6⟩, by simp; omega⟩
  · obtain rfl : i = bs.length := by omega
    have hq := ql bs.length
    repeat' (first | refine go ?_ | intro _ | refine ⟨sb, ?_⟩ | refine ⟨sd, ?_⟩ | (refine ⟨fun h1 => ?_, fun h1 => ?_⟩ <;> first | exact ab h1 | ((try rw [h1]); (try simp only [bl] at h1))) | dsimp only)
    · exfalso; simp at h1
    · rename_i w7 o7 _ _
      have e : quoTo bs bs.length ++ [34] = quoteS bs := by unfold quoTo quoteS; rw [List.take_length]
      rw [e] at *
      exact h _ (Sub.hv subEnd)⟩
end
end Go.Proofs.YtfgdalggkknffaaGreatDoor

namespace Go.Proofs.YtfgdalggkknffaaGreatDoor
open Go.Vx Go.Lib
instance (priority := high) txs5 {t : TypeId} {cx cy : Bool} {w : World} {a b : UInt8} : VS (Bo P .quo t cx cy (byteV a) (byteV b)) w (b ≠ 0) (byteV (a / b)) := VS.of fun h => by
  rw [bo_int, binOp_quo']
  have hb : ¬ b.toNat = 0 := fun e => h (UInt8.toNat_inj.1 (by simpa using e))
  have e : (a.toNat : Int).tdiv (b.toNat : Int) = ((a / b).toNat : Int) := by rw [UInt8.toNat_div]; rfl
  have h2 := (a / b).toNat_lt
  have hb2 : ¬ (b.toNat : Int) = 0 := by omega
  simp only [Op.intDiv, if_neg hb2, Sem.run_pure, e]
  show _ = Result.ok (Value.int .u8 ((a / b).toNat : Int)) w
  generalize (a / b).toNat = n at *
  have e2 : IntKind.u8.wrap (n : Int) = n := by unfold IntKind.wrap; simp [IntKind.bits, IntKind.signed]; omega
  rw [e2]
section
set_option maxRecDepth 20000
set_option synthInstance.maxSize 200000
set_option synthInstance.maxHeartbeats 4000000
variable {K : Value → St → Prop} {w0 w : World} {H R : List SL} {ds : List Deferred} {p n : Nat} {v bv : Value} {l bs : List UInt8} {zs : List Value} {c : UInt8}
instance mark28_ok [o : Hv w0 H w] : Step (Cl P 24 #[byteV c] K ⟨w, ds⟩) (∀ w', Hv w0 H w' → K (str (markS c)) ⟨w', ds⟩) := ⟨fun h => by
  have hc := c.toNat_lt
  have e1 : (c / 16).toNat = c.toNat / 16 := by rw [UInt8.toNat_div]; rfl
  have e2 : (c % 16).toNat = c.toNat % 16 := by rw [UInt8.toNat_mod]; rfl
  refine s24 ?_
  unfold D24
  repeat' (first | refine go ?_ | intro _ | refine ⟨sb, ?_⟩ | refine ⟨sd, ?_⟩ | (refine ⟨fun h1 => ?_, fun h1 => ?_⟩ <;> first | exact ab h1 | ((try rw [h1]); (try simp only [bl] at h1))) | dsimp only)
  · rw [mark_q h1] at h; exact h _ (Sub.hv subEnd)
  · rw [mark_r h1] at h; exact h _ (Sub.hv subEnd)
  · rw [mark_n h1] at h; exact h _ (Sub.hv subEnd)
  · rw [mark_v ‹_› ‹_› ‹_› h1] at h; exact h _ (Sub.hv subEnd)
  · rw [mark_x ‹_› ‹_› ‹_› h1, ← e1, ← e2] at h; exact h _ (Sub.hv subEnd)⟩
instance quote28_ok [o : Hv w0 H w] [rf : RdsF w0 H bv 1 n zs] [bz : Bys zs bs] : Step (Cl P 10 #[bv] K ⟨w, ds⟩) (bs.length ≤ 200000 ∧ ∀ w', Hv w0 H w' → K (str (quoteS bs)) ⟨w', ds⟩) := ⟨fun ⟨hl, h⟩ => by
  have rl := rf.loc
  obtain rfl := bz.eq
  obtain rfl : n = bs.length := by have := (rf.rd w o).len; simpa using this.symm
  have ql := quoTo_len bs
  refine s10 ?_
  unfold D10
  refine ⟨fun y x s => ∃ (i : Nat) (w' : World), y = str (quoTo bs i) ∧ x = .int .i64 i ∧ s = ⟨w', []⟩ ∧ i ≤ bs.length ∧ Hv w0 H w',
    fun _ x s => match x with | .int _ z => bs.length - z.toNat | _ => 0, ⟨0, w, rfl, rfl, rfl, Nat.zero_le _, o⟩, ?_⟩
  rintro y x s ⟨i, w4, rfl, rfl, rfl, hi, o5⟩
  clear o
  have hq := ql i
  rcases Nat.lt_or_ge i bs.length with hlt | hge
  · have hs := quoTo_next hlt
    have hm : (markS (bs.getD i default)).length ≤ 4 := by rcases mark_head (bs.getD i default) with h | h <;> omega
    repeat' (first | refine go ?_ | intro _ | refine ⟨sb, ?_⟩ | refine ⟨sd, ?_⟩ | (refine ⟨fun h1 => ?_, fun h1 => ?_⟩ <;> first | exact ab h1 | ((try rw [h1]); (try simp only [bl] at h1))) | dsimp only)
    · exact ⟨⟨i + 1, _, by rw [hs], rfl, rfl, hlt, Sub.hv subEnd⟩, by simp; omega⟩
    · exfalso; omega
  · obtain rfl : i = bs.length := by omega
    repeat' (first | refine go ?_ | intro _ | refine ⟨sb, ?_⟩ | refine ⟨sd, ?_⟩ | (refine ⟨fun h1 => ?_, fun h1 => ?_⟩ <;> first | exact ab h1 | ((try rw [h1]); (try simp only [bl] at h1))) | dsimp only)
    · exfalso; omega
    · have e : quoTo bs bs.length ++ [34] = quoteS bs := by unfold quoTo quoteS; rw [List.take_length]
      rw [e]
      exact h _ (Sub.hv subEnd)⟩
theorem hexB_lt (c : UInt8) : idxB hexL c < 16 := by
  have := bytes_all (fun c => decide (idxB hexL c < 16)) (by decide +kernel) c
  simpa using this
instance escaped_ok [o : Hv w0 H w] : Step (Cl P 23 #[str l] K ⟨w, ds⟩) (l.length ≤ 1000000 ∧ ∀ w', Hv w0 H w' → K (.tuple #[byteV (escS l).1, .int .i64 ((escS l).2 : Nat)]) ⟨w', ds⟩) := ⟨fun ⟨hl, h⟩ => by
  have b1 := hexB_lt (l.getD 1 0)
  have b2 := hexB_lt (l.getD 2 0)
  refine s23 ?_
  unfold D23
  unfold escS at h
  have hd : ∀ i, l.getD i 0 = l.getD i default := fun _ => rfl
  rw [hd 0, hd 1, hd 2] at h
  rw [hd 1] at b1
  rw [hd 2] at b2
  repeat (first | refine go ?_ | intro _ | refine ⟨sb, ?_⟩ | refine ⟨sd, ?_⟩ | dsimp only)
  refine And.intro (fun h1 => ?_) (fun h1 => ?_)
  · rw [if_pos (by simpa using h1)] at h
    repeat' (first | refine go ?_ | intro _ | refine ⟨sb, ?_⟩ | refine ⟨sd, ?_⟩ | (refine ⟨fun h1 => ?_, fun h1 => ?_⟩ <;> first | exact ab h1 | ((try rw [h1]); (try simp only [bl] at h1))) | dsimp only)
    exact h _ o
  have h1 : ¬ l = [] := by simpa using h1
  have hp := List.length_pos_iff.2 h1
  rw [if_neg h1] at h
  repeat' (first | refine go ?_ | intro _ | refine ⟨sb, ?_⟩ | refine ⟨sd, ?_⟩ | (refine ⟨fun h1 => ?_, fun h1 => ?_⟩ <;> first | exact ab h1 | ((try rw [h1]); (try simp only [bl] at h1))) | dsimp only)
  · rw [if_pos h1] at h; exact h _ o
  · rw [if_neg (fun q => q.elim (And.left ‹_›) (And.right ‹_›)), if_pos h1] at h; exact h _ o
  · rw [if_neg (fun q => q.elim (And.left ‹_›) (And.right ‹_›)), if_neg ‹_›, if_pos h1] at h; exact h _ o
  · rw [if_neg (fun q => q.elim (And.left ‹_›) (And.right ‹_›)), if_neg ‹_›, if_neg ‹_›, if_pos (h1.imp id (fun q => by omega))] at h; exact h _ o
  all_goals rw [if_neg (fun q => q.elim (And.left ‹_›) (And.right ‹_›)), if_neg ‹_›, if_neg ‹_›, if_neg (fun q => q.elim (fun q => q (And.left ‹l.getD 0 default = 120 ∧ _›)) (fun q => by omega))] at h
  · rw [if_pos (show idxB hexL (l.getD 1 default) < 0 ∨ idxB hexL (l.getD 2 default) < 0 from h1)] at h; exact h _ (Sub.hv subEnd)
  · have h5 : 0 ≤ idxB hexL (l.getD 1 default) ∧ 0 ≤ idxB hexL (l.getD 2 default) := h1
    rw [if_neg (fun q => by omega)] at h
    refine And.intro ⟨h5.1, b1⟩ ?_
    refine go ?_
    refine And.intro ⟨⟨h5.1, b1⟩, h5.2, b2⟩ ?_
    have h6 : (idxB hexL (l.getD 1 default)).toNat * 16 ||| (idxB hexL (l.getD 2 default)).toNat < 2 ^ 8 := Nat.or_lt_two_pow (by omega) (by omega)
    repeat (first | refine go ?_ | intro _ | refine ⟨sb, ?_⟩ | refine ⟨sd, ?_⟩ | dsimp only)
    refine And.intro ⟨Int.natCast_nonneg _, by exact_mod_cast h6⟩ ?_
    repeat' (first | refine go ?_ | intro _ | refine ⟨sb, ?_⟩ | refine ⟨sd, ?_⟩ | (refine ⟨fun h1 => ?_, fun h1 => ?_⟩ <;> first | exact ab h1 | ((try rw [h1]); (try simp only [bl] at h1))) | dsimp only)
    exact h _ (Sub.hv subEnd)⟩
theorem j2_any {br : (Value → Value → St → Prop) → Prop} {k : Value → Value → St → Prop} (A : Value → Value → St → Prop) (h1 : br A) (h2 : ∀ x y s, A x y s → k x y s) : J2 br k := ⟨A, h2, h1⟩
instance unquote_ok [o : Hv w0 H w] : Step (Cl P 8 #[str l] K ⟨w, ds⟩) (l.length ≤ 200000 ∧ ∀ v n w', n = ((unquoteS l).getD []).length → Hv w0 (row 5 1 v n (((unquoteS l).getD []).map byteV) :: H) w' → K (.tuple #[v, .bool (unquoteS l).isSome]) ⟨w', ds⟩) := ⟨fun ⟨hl, h⟩ => by
  have hx : ∀ w', unquoteS l = none → Hv w0 H w' → K (.tuple #[.slice none 0 0, .bool false]) ⟨w', ds⟩ := fun w' e o => by
    rw [e] at h; exact h _ 0 _ rfl (Hv.nilRow 5 1 o)
  refine s8 ?_
  unfold D8
  repeat (first | refine go ?_ | intro _ | refine ⟨sb, ?_⟩ | refine ⟨sd, ?_⟩ | dsimp only)
  refine And.intro (Sd.mk fun hq => ?_) ?_
  · have : ¬ l.length < 2 := by intro q; simp [show (l.length : Int) < 2 by omega] at hq
    exact ⟨⟨by omega, by omega⟩, ⟨by omega, by omega⟩, True.intro⟩
  repeat (first | refine go ?_ | intro _ | refine ⟨sb, ?_⟩ | refine ⟨sd, ?_⟩ | dsimp only)
  have hd : ∀ i, l.getD i 0 = l.getD i default := fun _ => rfl
  refine And.intro (fun h1 => ?_) (fun h1 => ?_)
  · repeat' (first | refine go ?_ | intro _ | refine ⟨sb, ?_⟩ | refine ⟨sd, ?_⟩ | (refine ⟨fun h1 => ?_, fun h1 => ?_⟩ <;> first | exact ab h1 | ((try rw [h1]); (try simp only [bl] at h1))) | dsimp only)
    refine hx _ ?_ (Sub.hv subEnd)
    unfold unquoteS
    rw [if_pos]
    rw [hd, hd]
    simp only [List.getD_eq_getElem?_getD] at h1 ⊢
    simp at h1
    rcases h1 with (h1 | h1) | h1
    · exact .inl (by omega)
    · exact .inr (.inl h1)
    · exact .inr (.inr h1)
  have hb : ¬ (l.length < 2 ∨ l.getD 0 0 ≠ 34 ∨ l.getD (l.length - 1) 0 ≠ 34) := by
    rw [hd, hd]
    simp only [List.getD_eq_getElem?_getD] at h1 ⊢
    simp at h1
    rintro (q | q | q)
    · omega
    · exact q h1.1.2
    · exact q h1.2
  have hu : unquoteS l = match unq l.length ((l.take (l.length - 1)).drop 1) with | none => none | some out => if quoteS out = l then some out else none := by unfold unquoteS; rw [if_neg hb]; try rfl
  have hl2 : 2 ≤ l.length := by omega
  clear h1 hb
  repeat (first | refine go ?_ | intro _ | refine ⟨sb, ?_⟩ | refine ⟨sd, ?_⟩ | dsimp only)
  rw [show ((l.length : Int) - 1).toNat = l.length - 1 by omega]
  generalize hm : (l.take (l.length - 1)).drop 1 = m at *
  have hml : m.length + 2 = l.length := by rw [← hm]; simp; omega
  clear hm
  refine ⟨fun y x s => ∃ (i f : Nat) (out : List UInt8) (vv : Value) (w' : World), y = vv ∧ x = .int .i64 i ∧ s = ⟨w', []⟩ ∧ i ≤ m.length ∧ out.length ≤ i ∧ (m.drop i).length < f ∧ unq l.length m = (unq f (m.drop i)).map (out ++ ·) ∧ Hv w0 (row 5 1 vv out.length (out.map byteV) :: H) w',
    fun _ x s => match x with | .int _ z => m.length - z.toNat | _ => 0, ⟨0, l.length, [], _, _, rfl, rfl, rfl, Nat.zero_le _, Nat.le_refl _, by simp; omega, by simp, Hv.nilRow 5 1 (Sub.hv subEnd)⟩, ?_⟩
  rintro y x s ⟨i, f, out, vv, w1, rfl, rfl, rfl, hi, hol, hf, he, o1⟩
  clear o
  rcases Nat.lt_or_ge i m.length with hlt | hge
  · have hcons : m.drop i = m.getD i default :: m.drop (i + 1) := by
      rw [List.drop_eq_getElem_cons hlt]; simp [List.getD_eq_getElem?_getD, hlt]
    have hle := escS_le (m.drop (i + 1))
    rw [List.length_drop] at hle hf
    cases f with
    | zero => omega
    | succ f =>
      rw [hcons] at he
      repeat (first | refine go ?_ | intro _ | refine ⟨sb, ?_⟩ | refine ⟨sd, ?_⟩ | dsimp only)
      refine And.intro (fun h1 => ?_) (fun h1 => by exfalso; simp at h1; omega)
      refine j2_any (fun y x s => ∃ (i' f' : Nat) (out' : List UInt8) (vv : Value) (w' : World), y = vv ∧ x = .int .i64 i' ∧ s = ⟨w', []⟩ ∧ i ≤ i' ∧ i' < m.length ∧ out'.length ≤ i' + 1 ∧ (m.drop (i' + 1)).length < f' ∧ unq l.length m = (unq f' (m.drop (i' + 1))).map (out' ++ ·) ∧ Hv w0 (row 5 1 vv out'.length (out'.map byteV) :: H) w') ?_ ?_
      · repeat' (first | refine go ?_ | intro _ | refine ⟨sb, ?_⟩ | refine ⟨sd, ?_⟩ | (refine ⟨fun h1 => ?_, fun h1 => ?_⟩ <;> first | exact ab h1 | ((try rw [h1]); (try simp only [bl] at h1))) | dsimp only)
        · refine ⟨i, f, out ++ [m.getD i default], _, _, rfl, rfl, rfl, Nat.le_refl _, hlt, by simp; omega, by rw [List.length_drop]; omega, ?_, Sub.hv (subRow (by simp) (by simp) subEnd)⟩
          rw [he]
          conv => lhs; unfold unq
          rw [if_neg ‹_›, Option.map_map]
          congr 1; funext t; simp
        · have e0 : (escS (m.drop (i + 1))).2 = 0 := by omega
          refine hx _ ?_ (Sub.hv subEnd)
          rw [hu, he]
          unfold unq
          rw [if_pos ‹_›, if_pos e0]; rfl
        · have e0 : (escS (m.drop (i + 1))).2 ≠ 0 := by omega
          refine ⟨i + (escS (m.drop (i + 1))).2, f, out ++ [(escS (m.drop (i + 1))).1], _, _, rfl, by simp, rfl, by omega, by omega, by simp; omega, by rw [List.length_drop]; omega, ?_, Sub.hv (subRow (by simp) (by simp) subEnd)⟩
          rw [he]
          conv => lhs; unfold unq
          rw [if_pos ‹_›, if_neg e0, Option.map_map, List.drop_drop]
          have e1 : i + 1 + (escS (m.drop (i + 1))).2 = i + (escS (m.drop (i + 1))).2 + 1 := by omega
          rw [e1]
          congr 1; funext t; simp
      · rintro y x s ⟨i', f', out', vv, w2, rfl, rfl, rfl, hi1, hi2, ho, hf', he', o2⟩
        repeat' (first | refine go ?_ | intro _ | refine ⟨sb, ?_⟩ | refine ⟨sd, ?_⟩ | (refine ⟨fun h1 => ?_, fun h1 => ?_⟩ <;> first | exact ab h1 | ((try rw [h1]); (try simp only [bl] at h1))) | dsimp only)
        exact ⟨⟨i' + 1, f', out', _, _, rfl, by simp, rfl, by omega, ho, hf', he', o2⟩, by simp; omega⟩
  · obtain rfl : i = m.length := by omega
    have e2 : unq l.length m = some out := by
      rw [he, List.drop_length]
      cases f with
      | zero => omega
      | succ f => simp [unq]
    rw [e2] at hu
    repeat' (first | refine go ?_ | intro _ | refine ⟨sb, ?_⟩ | refine ⟨sd, ?_⟩ | (refine ⟨fun h1 => ?_, fun h1 => ?_⟩ <;> first | exact ab h1 | ((try rw [h1]); (try simp only [bl] at h1))) | dsimp only)
    · exfalso; omega
    · refine hx _ ?_ (Sub.hv subEnd)
      rw [hu]
      dsimp only
      rw [if_neg ‹_›]
    · dsimp only at hu
      rw [if_pos ‹_›] at hu
      rw [hu] at h
      exact h _ _ _ rfl (Sub.hv (subRow rfl rfl subEnd))⟩
end
end Go.Proofs.YtfgdalggkknffaaGreatDoor

namespace Go.Proofs.YtfgdalggkknffaaGreatDoor
open Go.Vx Go.Lib
theorem refm_at {s : List UInt8} {k : Nat} (hk : k < 256) (h : (markS (UInt8.ofNat k)).isPrefixOf s = true) (hn : ∀ j, j < k → (markS (UInt8.ofNat j)).isPrefixOf s = false) : refm s = some (UInt8.ofNat k) := by
  unfold refm
  rw [List.find?_range_eq_some.2 ⟨h, List.mem_range.2 hk, fun j hj => by rw [hn j hj]; rfl⟩]; rfl
theorem refm_no {s : List UInt8} (hn : ∀ j, j < 256 → (markS (UInt8.ofNat j)).isPrefixOf s = false) : refm s = none := by
  unfold refm
  rw [List.find?_eq_none.2 (fun j hj => by rw [hn j (List.mem_range.1 hj)]; decide)]; rfl
theorem pre_take {m s : List UInt8} : m.isPrefixOf s = (decide (m.length ≤ s.length) && decide (s.take m.length = m)) := by
  rw [Bool.eq_iff_iff, List.isPrefixOf_iff_prefix, Bool.and_eq_true, decide_eq_true_eq, decide_eq_true_eq]
  constructor
  · intro h; exact ⟨h.length_le, (List.prefix_iff_eq_take.1 h).symm⟩
  · rintro ⟨_, h⟩; exact List.prefix_iff_eq_take.2 h.symm
section
set_option maxRecDepth 20000
set_option synthInstance.maxSize 200000
set_option synthInstance.maxHeartbeats 4000000
variable {K : Value → St → Prop} {w0 w : World} {H R : List SL} {ds : List Deferred} {p n : Nat} {v bv : Value} {l bs : List UInt8} {zs : List Value} {c : UInt8}
instance unquote28_ok [o : Hv w0 H w] : Step (Cl P 9 #[str l] K ⟨w, ds⟩) (l.length ≤ 200000 ∧ ∀ v n w', n = ((unquoteS l).getD []).length → Hv w0 (row 5 1 v n (((unquoteS l).getD []).map byteV) :: H) w' → K (.tuple #[v, .bool (unquoteS l).isSome]) ⟨w', ds⟩) := ⟨fun ⟨hl, h⟩ => by
  rw [← ref_eq] at h
  have hx : ∀ w', refUn l = none → Hv w0 H w' → K (.tuple #[.slice none 0 0, .bool false]) ⟨w', ds⟩ := fun w' e o => by
    rw [e] at h; exact h _ 0 _ rfl (Hv.nilRow 5 1 o)
  refine s9 ?_
  unfold D9
  repeat (first | refine go ?_ | intro _ | refine ⟨sb, ?_⟩ | refine ⟨sd, ?_⟩ | dsimp only)
  have hd : ∀ i, l.getD i 0 = l.getD i default := fun _ => rfl
  refine And.intro (fun h1 => ?_) (fun h1 => ?_)
  · repeat' (first | refine go ?_ | intro _ | refine ⟨sb, ?_⟩ | refine ⟨sd, ?_⟩ | (refine ⟨fun h1 => ?_, fun h1 => ?_⟩ <;> first | exact ab h1 | ((try rw [h1]); (try simp only [bl] at h1))) | dsimp only)
    refine hx _ ?_ (Sub.hv subEnd)
    unfold refUn
    rw [if_pos]
    rw [hd]
    simp only [List.getD_eq_getElem?_getD] at h1 ⊢
    simp at h1
    rcases h1 with h1 | h1
    · exact .inl (by omega)
    · exact .inr h1
  have hb : ¬ (l.length < 2 ∨ l.getD 0 0 ≠ 34) := by
    rw [hd]
    simp only [List.getD_eq_getElem?_getD] at h1 ⊢
    simp at h1
    rintro (q | q)
    · omega
    · exact q h1.2
  have hu : refUn l = refu l.length (l.drop 1) [] := by unfold refUn; rw [if_neg hb]
  have hl2 : 2 ≤ l.length := by omega
  clear h1 hb
  repeat (first | refine go ?_ | intro _ | refine ⟨sb, ?_⟩ | refine ⟨sd, ?_⟩ | dsimp only)
  refine ⟨fun y x s => ∃ (i f : Nat) (out : List UInt8) (vv : Value) (w' : World), y = vv ∧ x = .int .i64 i ∧ s = ⟨w', []⟩ ∧ 1 ≤ i ∧ i ≤ l.length ∧ out.length ≤ i ∧ (l.drop i).length < f ∧ refUn l = refu f (l.drop i) out ∧ Hv w0 (row 5 1 vv out.length (out.map byteV) :: H) w',
    fun _ x s => match x with | .int _ z => l.length - z.toNat | _ => 0, ⟨1, l.length, [], _, _, rfl, rfl, rfl, Nat.le_refl _, by omega, Nat.zero_le _, by simp; omega, hu, Hv.nilRow 5 1 (Sub.hv subEnd)⟩, ?_⟩
  rintro y x s ⟨i, f, out, vv, w1, rfl, rfl, rfl, hi1, hi, hol, hf, he, o1⟩
  clear o
  have hfl := hf
  rw [List.length_drop] at hfl
  cases f with
  | zero => omega
  | succ f =>
  have hdl : (l.drop i).getD 0 0 = l.getD i default := by simp [List.getD_eq_getElem?_getD]; rfl
  repeat (first | refine go ?_ | intro _ | refine ⟨sb, ?_⟩ | refine ⟨sd, ?_⟩ | dsimp only)
  refine And.intro (fun h1 => ?_) (fun h1 => ?_)
  · have h1' : i < l.length ∧ ¬ l.getD i default = 34 := by
      simp only [Bool.and_eq_true, decide_eq_true_eq, Bool.not_eq_true', decide_eq_false_iff_not] at h1
      exact ⟨by omega, h1.2⟩
    obtain ⟨hlt, hne⟩ := h1'
    have hnl : l.drop i ≠ [] := fun q => by have := congrArg List.length q; simp at this; omega
    refine ⟨fun a b c d s => ∃ (k i' : Nat) (g : Bool) (out' : List UInt8) (vv : Value) (w' : World), a = vv ∧ b = .int .i64 i' ∧ c = .bool g ∧ d = .int .i64 k ∧ s = ⟨w', []⟩ ∧ k ≤ 256 ∧
        ((g = false ∧ i' = i ∧ out' = out ∧ ∀ j, j < k → (markS (UInt8.ofNat j)).isPrefixOf (l.drop i) = false) ∨ (g = true ∧ ∃ e, refm (l.drop i) = some e ∧ (markS e).length ≤ (l.drop i).length ∧ i' = i + (markS e).length ∧ out' = out ++ [e])) ∧
        Hv w0 (row 5 1 vv out'.length (out'.map byteV) :: H) w',
      fun _ _ _ d s => match d with | .int _ z => 256 - z.toNat | _ => 0, ⟨0, i, false, out, _, _, rfl, rfl, rfl, rfl, rfl, Nat.zero_le _, .inl ⟨rfl, rfl, rfl, fun j hj => by omega⟩, o1⟩, ?_⟩
    rintro a b c d s ⟨k, i', g, out', vv, w2, rfl, rfl, rfl, rfl, rfl, hk, hg, o2⟩
    clear o1
    have fin : ∀ w', refm (l.drop i) = none → Hv w0 H w' → K (.tuple #[.slice none 0 0, .bool false]) ⟨w', ds⟩ := fun w' e o => hx w' (by
      rw [he]; unfold refu; rw [if_neg hnl, if_neg (by rw [hdl]; exact hne), e]) o
    have nxt : ∀ e, refm (l.drop i) = some e → refUn l = refu f (l.drop (i + (markS e).length)) (out ++ [e]) := fun e q => by
      rw [he]; conv => lhs; unfold refu
      rw [if_neg hnl, if_neg (by rw [hdl]; exact hne), q]
      dsimp only
      rw [List.drop_drop]
    rw [List.length_drop] at hg
    cases g with
    | true =>
      obtain ⟨e, q1, q2, rfl, rfl⟩ : ∃ e, refm (l.drop i) = some e ∧ (markS e).length ≤ l.length - i ∧ i' = i + (markS e).length ∧ out' = out ++ [e] := by
        rcases hg with hg | hg
        · cases hg.1
        · exact hg.2
      have hp := mark_pos e
      repeat (first | refine go ?_ | intro _ | refine ⟨sb, ?_⟩ | refine ⟨sd, ?_⟩ | dsimp only)
      refine And.intro (fun h1 => by exfalso; simp at h1) (fun h1 => ?_)
      repeat' (first | refine go ?_ | intro _ | refine ⟨sb, ?_⟩ | refine ⟨sd, ?_⟩ | (refine ⟨fun h1 => ?_, fun h1 => ?_⟩ <;> first | exact ab h1 | ((try rw [h1]); (try simp only [bl] at h1))) | dsimp only)
      refine ⟨⟨_, f, _, _, _, rfl, rfl, rfl, by omega, by omega, by simp; omega, by rw [List.length_drop]; omega, nxt e q1, o2⟩, by simp; omega⟩
    | false =>
      obtain ⟨rfl, rfl, hn⟩ : i' = i ∧ out' = out ∧ ∀ j, j < k → (markS (UInt8.ofNat j)).isPrefixOf (l.drop i) = false := by
        rcases hg with hg | hg
        · exact hg.2
        · cases hg.1
      clear hg
      rcases Nat.lt_or_ge k 256 with hk1 | hk1
      · have hp := mark_pos (UInt8.ofNat k)
        have hm : (markS (UInt8.ofNat k)).length ≤ 4 := by rcases mark_head (UInt8.ofNat k) with h | h <;> omega
        have hpt := pre_take (m := markS (UInt8.ofNat k)) (s := l.drop i')
        have hat := @refm_at (l.drop i') k hk1
        rw [List.length_drop] at hpt
        repeat (first | refine go ?_ | intro _ | refine ⟨sb, ?_⟩ | refine ⟨sd, ?_⟩ | dsimp only)
        refine And.intro (fun h1 => ?_) (fun h1 => by exfalso; simp at h1; omega)
        repeat (first | refine go ?_ | intro _ | refine ⟨sb, ?_⟩ | refine ⟨sd, ?_⟩ | dsimp only)
        refine And.intro (Sd.mk fun hq => ?_) ?_
        · have hq : ((markS (UInt8.ofNat k)).length : Int) ≤ (l.length : Int) - i' := by simpa using hq
          exact ⟨⟨by omega, by omega⟩, ⟨by omega, by omega, by omega⟩, True.intro⟩
        have hcond : (decide (((markS (UInt8.ofNat k)).length : Int) ≤ (l.length : Int) - i') && decide (List.drop i' (List.take ((i' : Int) + (markS (UInt8.ofNat k)).length).toNat l) = markS (UInt8.ofNat k))) = (markS (UInt8.ofNat k)).isPrefixOf (l.drop i') := by
          rw [hpt]
          congr 1
          · rw [decide_eq_decide]; omega
          · rw [show ((i' : Int) + (markS (UInt8.ofNat k)).length).toNat = i' + (markS (UInt8.ofNat k)).length by omega, ← List.take_drop]
        rw [hcond]
        repeat (first | refine go ?_ | intro _ | refine ⟨sb, ?_⟩ | refine ⟨sd, ?_⟩ | dsimp only)
        refine And.intro (fun h2 => ?_) (fun h2 => ?_)
        · have hmk : (markS (UInt8.ofNat k)).length ≤ l.length - i' := by
            rw [hpt, Bool.and_eq_true, decide_eq_true_eq] at h2; exact h2.1
          have hr := hat h2 hn
          repeat' (first | refine go ?_ | intro _ | refine ⟨sb, ?_⟩ | refine ⟨sd, ?_⟩ | (refine ⟨fun h1 => ?_, fun h1 => ?_⟩ <;> first | exact ab h1 | ((try rw [h1]); (try simp only [bl] at h1))) | dsimp only)
          refine ⟨⟨k + 1, i' + (markS (UInt8.ofNat k)).length, true, out' ++ [UInt8.ofNat k], _, _, rfl, rfl, rfl, rfl, rfl, hk1, .inr ⟨rfl, _, hr, by rw [List.length_drop]; exact hmk, rfl, rfl⟩, Sub.hv (subRow (by simp) (by simp) subEnd)⟩, by simp; omega⟩
        · repeat' (first | refine go ?_ | intro _ | refine ⟨sb, ?_⟩ | refine ⟨sd, ?_⟩ | (refine ⟨fun h1 => ?_, fun h1 => ?_⟩ <;> first | exact ab h1 | ((try rw [h1]); (try simp only [bl] at h1))) | dsimp only)
          refine ⟨⟨k + 1, i', false, out', _, _, rfl, rfl, rfl, rfl, rfl, hk1, .inl ⟨rfl, rfl, rfl, fun j hj => ?_⟩, Sub.hv (subRow rfl rfl subEnd)⟩, by simp; omega⟩
          by_cases hjk : j = k
          · subst hjk; exact h2
          · exact hn j (by omega)
      · obtain rfl : k = 256 := by omega
        repeat (first | refine go ?_ | intro _ | refine ⟨sb, ?_⟩ | refine ⟨sd, ?_⟩ | dsimp only)
        refine And.intro (fun h1 => by exfalso; simp at h1) (fun h1 => ?_)
        repeat' (first | refine go ?_ | intro _ | refine ⟨sb, ?_⟩ | refine ⟨sd, ?_⟩ | (refine ⟨fun h1 => ?_, fun h1 => ?_⟩ <;> first | exact ab h1 | ((try rw [h1]); (try simp only [bl] at h1))) | dsimp only)
        exact fin _ (refm_no hn) (Sub.hv subEnd)
  · by_cases hi : i = l.length
    · subst hi
      repeat' (first | refine go ?_ | intro _ | refine ⟨sb, ?_⟩ | refine ⟨sd, ?_⟩ | (refine ⟨fun h1 => ?_, fun h1 => ?_⟩ <;> first | exact ab h1 | ((try rw [h1]); (try simp only [bl] at h1))) | dsimp only)
      · refine hx _ ?_ (Sub.hv subEnd)
        rw [he, List.drop_length]; rfl
      · exfalso; omega
    · have h34 : l.getD i default = 34 := by
        simp only [Bool.and_eq_false_iff, decide_eq_false_iff_not, Bool.not_eq_false', decide_eq_true_eq] at h1
        rcases h1 with h1 | h1
        · omega
        · exact h1
      have hnl : l.drop i ≠ [] := fun q => by have := congrArg List.length q; simp at this; omega
      unfold refu at he
      rw [if_neg hnl, if_pos (by rw [hdl]; exact h34), List.length_drop] at he
      repeat' (first | refine go ?_ | intro _ | refine ⟨sb, ?_⟩ | refine ⟨sd, ?_⟩ | (refine ⟨fun h1 => ?_, fun h1 => ?_⟩ <;> first | exact ab h1 | ((try rw [h1]); (try simp only [bl] at h1))) | dsimp only)
      · refine hx _ ?_ (Sub.hv subEnd)
        rw [he, if_neg (by omega)]
      · rw [if_pos (by omega)] at he
        rw [he] at h
        exact h _ _ _ rfl (Sub.hv (subRow rfl rfl subEnd))⟩
end
end Go.Proofs.YtfgdalggkknffaaGreatDoor

namespace Go.Proofs.YtfgdalggkknffaaGreatDoor
open Go.Vx Go.Lib
instance eq_nili {d : Nat} : EqV P (d + 1) 52 .nilIface .nilIface true := ⟨fun w => by simp [Op.equalIn, run_underlying Tryz.underlying52]⟩
instance nili_ok {w : World} : VT (Bo P .eql 52 false true .nilIface .nilIface) w (.bool true) := eql_of (b := true) inferInstance rfl
abbrev evV (e : Ev) (b : Value) : Value := .agg #[.int .i64 e.kind, .int .i64 e.id, str e.host, b, .int .i64 e.n]
theorem numK_bad {s : List UInt8} (h : s.length < 1 ∨ 9 < s.length ∨ (s.getD 0 0 = 48 ∧ s ≠ [48]) ∨ s.all digC = false) : numK s = none := by unfold numK; rw [if_pos h]
theorem numK_good {s : List UInt8} (h : ¬ (s.length < 1 ∨ 9 < s.length ∨ (s.getD 0 0 = 48 ∧ s ≠ [48]) ∨ s.all digC = false)) : numK s = some (valS s : Int) := by unfold numK; rw [if_neg h]
section
set_option maxRecDepth 20000
set_option synthInstance.maxSize 200000
set_option synthInstance.maxHeartbeats 4000000
variable {K : Value → St → Prop} {w0 w : World} {H R : List SL} {ds : List Deferred} {p n : Nat} {v bv : Value} {l bs : List UInt8} {zs : List Value} {c : UInt8} {m : Bool}
instance numk_ok [o : Hv w0 H w] : Step (Cl P 57 #[str l] K ⟨w, ds⟩) (l.length ≤ 200000 ∧ ∀ w', Hv w0 H w' → K (.tuple #[.int .i64 ((numK l).getD 0), .bool (numK l).isSome]) ⟨w', ds⟩) := ⟨fun ⟨hl, h⟩ => by
  have ht := trims_nil l digs
  rw [show (fun x => digs.contains x) = digC from funext digs_eq] at ht
  have hdef : l.getD 0 0 = l.getD 0 default := rfl
  have bad : ∀ w', Hv w0 H w' → numK l = none → K (.tuple #[.int .i64 0, .bool false]) ⟨w', ds⟩ := fun w' o e => by rw [e] at h; exact h _ o
  refine s57 ?_
  unfold D57
  repeat' (first | refine go ?_ | intro _ | refine ⟨sb, ?_⟩ | refine ⟨sd, ?_⟩ | (refine ⟨fun h1 => ?_, fun h1 => ?_⟩ <;> first | exact ab h1 | ((try rw [h1]); (try simp only [bl] at h1))) | dsimp only)
  · refine And.intro ⟨hl, by decide, by decide, by decide⟩ ?_
    intro w1 o1
    clear o
    show Bo P .neq _ _ _ (str (trimLs (trimRs l digs) digs)) _ _ _
    have hd : decide (trimLs (trimRs l digs) digs = []) = l.all digC := ht
    cases hq : l.all digC with
    | true =>
      rw [hq, decide_eq_true_eq] at hd
      rw [hd]
      have hg : numK l = some (valS l : Int) := numK_good (by
        rintro (q | q | q | q)
        · omega
        · omega
        · exact q.2 (h1.2 q.1)
        · rw [hq] at q; cases q)
      rw [hg] at h
      repeat' (first | refine go ?_ | intro _ | refine ⟨sb, ?_⟩ | refine ⟨sd, ?_⟩ | (refine ⟨fun h1 => ?_, fun h1 => ?_⟩ <;> first | exact ab h1 | ((try rw [h1]); (try simp only [bl] at h1))) | dsimp only)
      refine h _ ?_
      exact Sub.hv subEnd
    | false =>
      rw [hq, decide_eq_false_iff_not] at hd
      have hg : numK l = none := numK_bad (.inr (.inr (.inr hq)))
      repeat' (first | refine go ?_ | intro _ | refine ⟨sb, ?_⟩ | refine ⟨sd, ?_⟩ | (refine ⟨fun h1 => ?_, fun h1 => ?_⟩ <;> first | exact ab h1 | ((try rw [h1]); (try simp only [bl] at h1))) | dsimp only)
      · refine bad _ ?_ hg
        exact Sub.hv subEnd
      · exact absurd h1 hd
  · refine bad _ o (numK_bad ?_)
    rcases h1 with (h1 | h1) | h1
    · exact .inl (by omega)
    · exact .inr (.inl (by omega))
    · exact .inr (.inr (.inl h1))⟩
theorem parts_len (l : List UInt8) : (cutB l 32).1.length ≤ l.length ∧ (cutB l 32).2.1.length ≤ l.length := by
  unfold cutB
  split
  · simp; omega
  · simp
instance parts_ok [o : Hv w0 H w] : Step (Cl P 56 #[str l] K ⟨w, ds⟩) (l.length ≤ 200000 ∧ ∀ w', Hv w0 H w' → K (.tuple #[.int .i64 (partsS l).1, str (partsS l).2.1, .bool (partsS l).2.2]) ⟨w', ds⟩) := ⟨fun ⟨hl, h⟩ => by
  have h1 := (parts_len l).1
  unfold partsS at h
  refine s56 ?_
  unfold D56
  repeat' (first | refine go ?_ | intro _ | refine ⟨sb, ?_⟩ | refine ⟨sd, ?_⟩ | (refine ⟨fun h1 => ?_, fun h1 => ?_⟩ <;> first | exact ab h1 | ((try rw [h1]); (try simp only [bl] at h1))) | dsimp only)
  all_goals exact h _ (Sub.hv subEnd)⟩
def EvK (K : Value → St → Prop) (w0 : World) (H : List SL) (ds : List Deferred) (r : Ev × Bool) : Prop :=
  ∀ b n w', n = r.1.b.length → Hv w0 (row 5 1 b n (r.1.b.map byteV) :: H) w' → K (.tuple #[evV r.1 b, .bool r.2]) ⟨w', ds⟩
theorem EvK.nil {r : Ev × Bool} (h : EvK K w0 H ds r) (e : r.1.b = []) (o : Hv w0 H w) : K (.tuple #[evV r.1 (.slice none 0 0), .bool r.2]) ⟨w, ds⟩ :=
  h _ 0 _ (by rw [e]; rfl) (by rw [e]; exact Hv.nilRow 5 1 o)
instance connected_ok [o : Hv w0 H w] : Step (Cl P 37 #[str l, .bool m] K ⟨w, ds⟩) (l.length ≤ 200000 ∧ EvK K w0 H ds (connE l m)) := ⟨fun ⟨hl, h⟩ => by
  replace h : ∀ w', Hv w0 H w' → K (.tuple #[evV (connE l m).1 (.slice none 0 0), .bool (connE l m).2]) ⟨w', ds⟩ := fun w' o => h.nil rfl o
  unfold connE at h
  refine s37 ?_
  unfold D37
  repeat' (first | refine go ?_ | intro _ | refine ⟨sb, ?_⟩ | refine ⟨sd, ?_⟩ | (refine ⟨fun h1 => ?_, fun h1 => ?_⟩ <;> first | exact ab h1 | ((try rw [h1]); (try simp only [bl] at h1))) | dsimp only)
  exact h _ (Sub.hv subEnd)⟩
instance sent_ok [o : Hv w0 H w] : Step (Cl P 38 #[str l, .bool m] K ⟨w, ds⟩) (l.length ≤ 200000 ∧ EvK K w0 H ds (sendE l m)) := ⟨fun ⟨hl, h⟩ => by
  have hp : (partsS l).2.1.length ≤ 200000 := Nat.le_trans (parts_len l).2 hl
  unfold EvK sendE at h
  refine s38 ?_
  unfold D38
  repeat' (first | refine go ?_ | intro _ | refine ⟨sb, ?_⟩ | refine ⟨sd, ?_⟩ | (refine ⟨fun h1 => ?_, fun h1 => ?_⟩ <;> first | exact ab h1 | ((try rw [h1]); (try simp only [bl] at h1))) | dsimp only)
  refine h _ _ _ ?_ (Sub.hv (subRow rfl rfl subEnd))
  assumption⟩
instance drained_ok [o : Hv w0 H w] : Step (Cl P 39 #[str l, .bool m] K ⟨w, ds⟩) (l.length ≤ 200000 ∧ EvK K w0 H ds (drainE l m)) := ⟨fun ⟨hl, h⟩ => by
  have hp : (partsS l).2.1.length ≤ 200000 := Nat.le_trans (parts_len l).2 hl
  replace h : ∀ w', Hv w0 H w' → K (.tuple #[evV (drainE l m).1 (.slice none 0 0), .bool (drainE l m).2]) ⟨w', ds⟩ := fun w' o => h.nil rfl o
  unfold drainE at h
  refine s39 ?_
  unfold D39
  repeat' (first | refine go ?_ | intro _ | refine ⟨sb, ?_⟩ | refine ⟨sd, ?_⟩ | (refine ⟨fun h1 => ?_, fun h1 => ?_⟩ <;> first | exact ab h1 | ((try rw [h1]); (try simp only [bl] at h1))) | dsimp only)
  exact h _ (Sub.hv subEnd)⟩
instance closed_ok [o : Hv w0 H w] : Step (Cl P 40 #[str l, .bool m] K ⟨w, ds⟩) (l.length ≤ 200000 ∧ EvK K w0 H ds (closeE l m)) := ⟨fun ⟨hl, h⟩ => by
  replace h : ∀ w', Hv w0 H w' → K (.tuple #[evV (closeE l m).1 (.slice none 0 0), .bool (closeE l m).2]) ⟨w', ds⟩ := fun w' o => h.nil rfl o
  unfold closeE at h
  refine s40 ?_
  unfold D40
  repeat' (first | refine go ?_ | intro _ | refine ⟨sb, ?_⟩ | refine ⟨sd, ?_⟩ | (refine ⟨fun h1 => ?_, fun h1 => ?_⟩ <;> first | exact ab h1 | ((try rw [h1]); (try simp only [bl] at h1))) | dsimp only)
  exact h _ (Sub.hv subEnd)⟩
instance ticked_ok [o : Hv w0 H w] : Step (Cl P 41 #[str l, .bool m] K ⟨w, ds⟩) (EvK K w0 H ds (tickE l m)) := ⟨fun h => by
  replace h : ∀ w', Hv w0 H w' → K (.tuple #[evV (tickE l m).1 (.slice none 0 0), .bool (tickE l m).2]) ⟨w', ds⟩ := fun w' o => h.nil rfl o
  unfold tickE at h
  refine s41 ?_
  unfold D41
  repeat' (first | refine go ?_ | intro _ | refine ⟨sb, ?_⟩ | refine ⟨sd, ?_⟩ | (refine ⟨fun h1 => ?_, fun h1 => ?_⟩ <;> first | exact ab h1 | ((try rw [h1]); (try simp only [bl] at h1))) | dsimp only)
  exact h _ (Sub.hv subEnd)⟩
def readF (w : List UInt8) : Option Value :=
  if w = connT then some (.func (.func 37) #[] #[]) else if w = sendT then some (.func (.func 38) #[] #[]) else if w = drainT then some (.func (.func 39) #[] #[])
  else if w = closeT then some (.func (.func 40) #[] #[]) else if w = tickT then some (.func (.func 41) #[] #[]) else none
instance readers_ok [o : Hv w0 H w] : Step (Cl P 26 #[] K ⟨w, ds⟩) (∀ b w', Hv w0 (mpn b (fun l => str l) readF 5 :: H) w' → K (.map (some b)) ⟨w', ds⟩) := ⟨fun h => by
  refine s26 ?_
  unfold D26
  repeat' (first | refine go ?_ | intro _ | refine ⟨sb, ?_⟩ | refine ⟨sd, ?_⟩ | (refine ⟨fun h1 => ?_, fun h1 => ?_⟩ <;> first | exact ab h1 | ((try rw [h1]); (try simp only [bl] at h1))) | dsimp only)
  refine h _ _ (Hv.mpnShut ?_ ?_ ?_ ‹_›)
  · decide +kernel
  · intro k
    simp only [getA_put, show ∀ k : List UInt8, getA ([] : List (List UInt8 × Value)) k = none from fun _ => rfl]
    unfold readF connT sendT drainT closeT tickT
    by_cases h1 : k = [99, 111, 110, 110, 101, 99, 116] <;> by_cases h2 : k = [115, 101, 110, 100] <;> by_cases h3 : k = [100, 114, 97, 105, 110] <;> by_cases h4 : k = [99, 108, 111, 115, 101] <;> by_cases h5 : k = [116, 105, 99, 107] <;> first | (exfalso; simp_all; done) | simp_all
  · rfl⟩
end
end Go.Proofs.YtfgdalggkknffaaGreatDoor

namespace Go.Proofs.YtfgdalggkknffaaGreatDoor
open Go.Vx Go.Lib
theorem split_step {c : UInt8} : ∀ {l : List UInt8} {m : Nat}, l.findIdx? (· == c) = some m → splitB c l = l.take m :: splitB c (l.drop (m + 1)) ∧ l.count c = (l.drop (m + 1)).count c + 1
  | [], m, h => by cases h
  | b :: t, m, h => by
    rw [List.findIdx?_cons] at h
    by_cases hb : b = c
    · subst hb
      rw [if_pos (by simp)] at h
      obtain rfl := Option.some.inj h
      refine ⟨?_, by simp⟩
      conv => lhs; unfold splitB
      rw [if_pos rfl]; simp
    · rw [if_neg (by simpa using hb)] at h
      cases hf : t.findIdx? (· == c) with
      | none => rw [hf] at h; cases h
      | some k =>
        rw [hf] at h
        obtain rfl := Option.some.inj h
        obtain ⟨e1, e2⟩ := split_step hf
        refine ⟨?_, by rw [List.count_cons_of_ne hb, e2]; rfl⟩
        conv => lhs; unfold splitB
        rw [if_neg hb, e1]; simp
theorem split_none {c : UInt8} {l : List UInt8} (h : l.count c = 0) : splitB c l = [l] := split_one (List.count_eq_zero.1 h)
theorem set_rep {α : Type} (a : List α) (x z : α) {n i : Nat} (h : a.length = i) (hn : i < n) : (a ++ List.replicate (n - i) z).set i x = a ++ [x] ++ List.replicate (n - (i + 1)) z := by
  subst h
  obtain ⟨k, rfl⟩ : ∃ k, n = a.length + (k + 1) := ⟨n - a.length - 1, by omega⟩
  rw [List.set_append_right _ _ (by omega), Nat.sub_self, show a.length + (k + 1) - a.length = k + 1 by omega, show a.length + (k + 1) - (a.length + 1) = k by omega]
  simp [List.replicate_succ]
section
set_option maxRecDepth 20000
set_option synthInstance.maxSize 200000
set_option synthInstance.maxHeartbeats 4000000
variable {K : Value → St → Prop} {w0 w : World} {H R : List SL} {ds : List Deferred} {p n : Nat} {v bv : Value} {l bs : List UInt8} {zs : List Value} {c : UInt8} {m : Bool}
instance gsplit_ok [o : Hv w0 H w] : Step (Cl P 36 #[str l, str [c], .int .i64 0, .int .i64 (-1)] K ⟨w, ds⟩) (l.length ≤ 200000 ∧ ∀ v w', Hv w0 (row 9 1 v (splitB c l).length ((splitB c l).map str) :: H) w' → K v ⟨w', ds⟩) := ⟨fun ⟨hl, h⟩ => by
  have hc : l.count c ≤ l.length := List.count_le_length
  refine s36 ?_
  unfold D36
  repeat (first | refine go ?_ | intro _ | refine ⟨sb, ?_⟩ | refine ⟨sd, ?_⟩ | dsimp only)
  refine And.intro (fun h1 => by exfalso; revert h1; decide) (fun _ => ?_)
  repeat (first | refine go ?_ | intro _ | refine ⟨sb, ?_⟩ | refine ⟨sd, ?_⟩ | dsimp only)
  refine And.intro (fun h1 => by exfalso; simp at h1) (fun _ => ?_)
  refine j1_any (fun x s => x = .int .i64 ((l.count c : Nat) + 1) ∧ s = ⟨w, []⟩) ?_ ?_
  · repeat' (first | refine go ?_ | intro _ | refine ⟨sb, ?_⟩ | refine ⟨sd, ?_⟩ | (refine ⟨fun h1 => ?_, fun h1 => ?_⟩ <;> first | exact ab h1 | ((try rw [h1]); (try simp only [bl] at h1))) | dsimp only)
    · exact ⟨rfl, rfl⟩
  rintro _ _ ⟨rfl, rfl⟩
  repeat (first | refine go ?_ | intro _ | refine ⟨sb, ?_⟩ | refine ⟨sd, ?_⟩ | dsimp only)
  rename_i vr w1 o1
  rw [show min ((l.count c : Nat) + 1 : Int) ((l.length : Int) + 1) = ((l.count c + 1 : Nat) : Int) by omega] at *
  have o2 : Hv w0 (row 9 1 vr (l.count c + 1) (([] : List (List UInt8)).map str ++ List.replicate (l.count c + 1 - 0) (str [])) :: H) w1 := Sub.hv (subRow rfl rfl subEnd)
  clear o o1
  refine ⟨fun y x s => ∃ (i : Nat) (pre : List (List UInt8)) (r : List UInt8) (w' : World), y = str r ∧ x = .int .i64 i ∧ s = ⟨w', []⟩ ∧ pre.length = i ∧ r.length ≤ l.length ∧ splitB c l = pre ++ splitB c r ∧ l.count c = i + r.count c ∧ Hv w0 (row 9 1 vr (l.count c + 1) (pre.map str ++ List.replicate (l.count c + 1 - i) (str [])) :: H) w',
    fun _ x s => match x with | .int _ z => l.count c - z.toNat | _ => 0, ⟨0, [], l, _, rfl, rfl, rfl, rfl, Nat.le_refl _, rfl, by simp, o2⟩, ?_⟩
  rintro y x s ⟨i, pre, r, w2, rfl, rfl, rfl, hp, hr, hs, hk, o3⟩
  clear o2
  have hlen : (pre.map str ++ List.replicate (l.count c + 1 - i) (str [])).length = l.count c + 1 := by simp; omega
  have hrc := List.count_le_length (a := c) (l := r)
  rcases Nat.eq_zero_or_pos (r.count c) with h0 | h0
  · have hs1 := split_none h0
    rw [hs1] at hs
    repeat (first | refine go ?_ | intro _ | refine ⟨sb, ?_⟩ | refine ⟨sd, ?_⟩ | dsimp only)
    refine And.intro (fun h1 => by exfalso; simp at h1; omega) (fun h1 => ?_)
    repeat' (first | refine go ?_ | intro _ | refine ⟨sb, ?_⟩ | refine ⟨sd, ?_⟩ | (refine ⟨fun h1 => ?_, fun h1 => ?_⟩ <;> first | exact ab h1 | ((try rw [h1]); (try simp only [bl] at h1))) | dsimp only)
    rename_i w3 o4 v5 _ w5 o5
    refine h _ _ (Sub.hv (subRow ?_ ?_ subEnd))
    · rw [hs]; simp; omega
    · rw [hs, set_rep _ _ _ (by simpa using hp) (by omega)]
      simp only [Nat.mul_one, Int.toNat_natCast, List.drop_zero, List.map_append, List.map_cons, List.map_nil]
      rw [show l.count c + 1 - (i + 1) = 0 by omega, List.replicate_zero, List.append_nil]
      first
        | exact List.take_of_length_le (by simp; omega)
        | (simp; exact List.take_of_length_le (by simp; omega))
  · obtain ⟨m, hm⟩ : ∃ m, r.findIdx? (· == c) = some m := by
      cases hf : r.findIdx? (· == c) with
      | some m => exact ⟨m, rfl⟩
      | none =>
        have := (Mk.idxB_none hf)
        rw [List.findIdx?_eq_none_iff] at hf
        have := hf c (List.count_pos_iff.1 h0)
        simp at this
    obtain ⟨e1, e2⟩ := split_step hm
    have hml := find_lt hm
    have hib := Mk.idxB_some hm
    repeat (first | refine go ?_ | intro _ | refine ⟨sb, ?_⟩ | refine ⟨sd, ?_⟩ | dsimp only)
    refine And.intro (fun h1 => ?_) (fun h1 => by exfalso; simp at h1; omega)
    refine go ?_
    rw [hib]
    have ec : ([c].length : Int) = 1 := rfl
    repeat' (first | refine go ?_ | intro _ | refine ⟨sb, ?_⟩ | refine ⟨sd, ?_⟩ | (refine ⟨fun h1 => ?_, fun h1 => ?_⟩ <;> first | exact ab h1 | ((try rw [h1]); (try simp only [bl] at h1))) | dsimp only)
    · exfalso; omega
    · refine ⟨⟨i + 1, pre ++ [r.take m], r.drop (m + 1), _, ?_, rfl, rfl, by simp [hp], by simp; omega, by rw [hs, e1]; simp, by omega, Sub.hv (subRow rfl ?_ subEnd)⟩, by simp; omega⟩
      · congr 1
      · rw [set_rep _ _ _ (by simpa using hp) (by omega)]; simp⟩
instance split_ok [o : Hv w0 H w] : Step (Cl P 25 #[str l, str [c]] K ⟨w, ds⟩) (l.length ≤ 200000 ∧ ∀ v w', Hv w0 (row 9 1 v (splitB c l).length ((splitB c l).map str) :: H) w' → K v ⟨w', ds⟩) := ⟨fun ⟨hl, h⟩ => by
  refine s25 ?_
  unfold D25
  repeat' (first | refine go ?_ | intro _ | refine ⟨sb, ?_⟩ | refine ⟨sd, ?_⟩ | (refine ⟨fun h1 => ?_, fun h1 => ?_⟩ <;> first | exact ab h1 | ((try rw [h1]); (try simp only [bl] at h1))) | dsimp only)
  exact h _ _ (Sub.hv (subRow rfl rfl subEnd))⟩
end
end Go.Proofs.YtfgdalggkknffaaGreatDoor

namespace Go.Proofs.YtfgdalggkknffaaGreatDoor
open Go.Vx Go.Lib
instance nilf_ok {w : World} {t : Nat} {cx cy : Bool} [h : EqV P 10000 t .nilFunc .nilFunc true] : VT (Bo P .eql t cx cy .nilFunc .nilFunc) w (.bool true) := eql_of h rfl
abbrev encEv (p : Ev × Value) : List Value := [.int .i64 p.1.kind, .int .i64 p.1.id, str p.1.host, p.2, .int .i64 p.1.n]
abbrev ownE (p : Ev × Value) : SL := row 5 1 p.2 p.1.b.length (p.1.b.map byteV)
theorem own_snoc {w0 w : World} {R : List SL} {xs : List (Ev × Value)} {y : Ev × Value} (o : Hv w0 (ownE y :: many (xs.map ownE) :: R) w) : Hv w0 (many ((xs ++ [y]).map ownE) :: R) w := by
  rw [List.map_append]
  exact Hv.manyPerm (List.perm_append_singleton ..).symm (Hv.manyCons o)
theorem pgo_cons (s : List UInt8) (t : List (List UInt8)) (i : Nat) (out : List Ev) : pgoS (s :: t) i out = if s = [] ∨ s.getD 0 0 = 35 then pgoS t (i + 1) out else if (evtS s).2 ≠ 0 then ([], (i + 1 : Nat), (evtS s).2) else pgoS t (i + 1) (out ++ [(evtS s).1]) := rfl
section
set_option maxRecDepth 20000
set_option synthInstance.maxSize 200000
set_option synthInstance.maxHeartbeats 4000000
theorem reader {wd r : List UInt8} {m : Bool} {e : Ev × Bool} (h : readS wd r m = some e) : ∃ g, readF wd = some (.func (.func g) #[] #[]) ∧ ∀ {K : Value → St → Prop} {w0 w : World} {H : List SL} {ds : List Deferred}, Hv w0 H w → r.length ≤ 200000 → EvK K w0 H ds e → Dy P (.func (.func g) #[] #[]) #[str r, .bool m] K ⟨w, ds⟩ := by
  unfold readS at h
  unfold readF
  split at h
  · obtain rfl := Option.some.inj h
    rename_i q; rw [if_pos q]
    exact ⟨_, rfl, fun {K w0 w H ds} o hr hk => by refine go ?_; exact go ⟨hr, hk⟩⟩
  rename_i q1; rw [if_neg q1]
  split at h
  · obtain rfl := Option.some.inj h
    rename_i q; rw [if_pos q]
    exact ⟨_, rfl, fun {K w0 w H ds} o hr hk => by refine go ?_; exact go ⟨hr, hk⟩⟩
  rename_i q2; rw [if_neg q2]
  split at h
  · obtain rfl := Option.some.inj h
    rename_i q; rw [if_pos q]
    exact ⟨_, rfl, fun {K w0 w H ds} o hr hk => by refine go ?_; exact go ⟨hr, hk⟩⟩
  rename_i q3; rw [if_neg q3]
  split at h
  · obtain rfl := Option.some.inj h
    rename_i q; rw [if_pos q]
    exact ⟨_, rfl, fun {K w0 w H ds} o hr hk => by refine go ?_; exact go ⟨hr, hk⟩⟩
  rename_i q4; rw [if_neg q4]
  split at h
  · obtain rfl := Option.some.inj h
    rename_i q; rw [if_pos q]
    exact ⟨_, rfl, fun {K w0 w H ds} o hr hk => by refine go ?_; exact go hk⟩
  · cases h
theorem reader_no {wd r : List UInt8} {m : Bool} (h : readS wd r m = none) : readF wd = none := by
  unfold readS at h
  unfold readF
  repeat (split at h; · cases h)
  rw [if_neg ‹_›, if_neg ‹_›, if_neg ‹_›, if_neg ‹_›, if_neg ‹_›]
variable {K : Value → St → Prop} {w0 w : World} {H R : List SL} {ds : List Deferred} {p n : Nat} {v bv : Value} {l bs : List UInt8} {zs : List Value} {c : UInt8} {m : Bool}
theorem splitB_len (c : UInt8) : ∀ (l : List UInt8), (splitB c l).length ≤ l.length + 1 ∧ ∀ s ∈ splitB c l, s.length ≤ l.length
  | [] => by simp [splitB]
  | b :: t => by
    obtain ⟨h1, h2⟩ := splitB_len c t
    unfold splitB
    split
    · refine ⟨by simp; omega, fun s hs => ?_⟩
      rcases List.mem_cons.1 hs with rfl | hs
      · simp
      · have := h2 s hs; simp; omega
    · split
      · simp
      · rename_i x r e
        rw [e] at h1 h2
        refine ⟨by simp at h1 ⊢; omega, fun s hs => ?_⟩
        rcases List.mem_cons.1 hs with rfl | hs
        · have := h2 x (List.mem_cons_self ..); simp; omega
        · have := h2 s (List.mem_cons_of_mem _ hs); simp; omega
instance parse_ok [o : Hv w0 H w] : Step (Cl P 11 #[str l] K ⟨w, ds⟩) (l.length ≤ 200000 ∧ ∀ (xs : List (Ev × Value)) v w', xs.map (·.1) = (parseS l).1 → Hv w0 (row 39 5 v xs.length (xs.flatMap encEv) :: many (xs.map ownE) :: H) w' → K (.tuple #[v, .int .i64 (parseS l).2.1, .int .i64 (parseS l).2.2]) ⟨w', ds⟩) := ⟨fun ⟨hl, h⟩ => by
  have hL := splitB_len 10 l
  unfold parseS at h
  refine s11 ?_
  unfold D11
  repeat (first | refine go ?_ | intro _ | refine ⟨sb, ?_⟩ | refine ⟨sd, ?_⟩ | dsimp only)
  rename_i v1 w1 o1 bm w2 o2
  clear o o1
  generalize splitB 10 l = L at *
  refine ⟨fun y x s => ∃ (i : Nat) (xs : List (Ev × Value)) (vv : Value) (w' : World), y = vv ∧ x = .int .i64 i ∧ s = ⟨w', []⟩ ∧ i ≤ L.length ∧ xs.length ≤ i ∧ pgoS L 0 [] = pgoS (L.drop i) i (xs.map (·.1)) ∧ Hv w0 (row 39 5 vv xs.length (xs.flatMap encEv) :: many (xs.map ownE) :: row 9 1 v1 L.length (L.map str) :: mpn bm (fun l => str l) readF 5 :: H) w',
    fun _ x s => match x with | .int _ z => L.length - z.toNat | _ => 0, ⟨0, [], _, w2, rfl, rfl, rfl, Nat.zero_le _, Nat.zero_le _, rfl, ?_⟩, ?_⟩
  · refine Hv.nilRow 39 5 (Hv.closes (H := []) ?_)
    exact Sub.hv (subRow rfl rfl (subMpn rfl rfl subEnd))
  rintro y x s ⟨i, xs, vv, w3, rfl, rfl, rfl, hi, hx, he, o3⟩
  clear o2
  rcases Nat.lt_or_ge i L.length with hlt | hge
  · have hcons : L.drop i = L.getD i default :: L.drop (i + 1) := by
      rw [List.drop_eq_getElem_cons hlt]; simp [List.getD_eq_getElem?_getD, hlt]
    have hsl := hL.2 _ (getD_mem hlt)
    rw [hcons] at he
    repeat (first | refine go ?_ | intro _ | refine ⟨sb, ?_⟩ | refine ⟨sd, ?_⟩ | dsimp only)
    refine And.intro (fun h1 => ?_) (fun h1 => by exfalso; simp at h1; omega)
    refine j1_any (fun y s => ∃ (xs' : List (Ev × Value)) (w' : World), s = ⟨w', []⟩ ∧ xs'.length ≤ i + 1 ∧ pgoS L 0 [] = pgoS (L.drop (i + 1)) (i + 1) (xs'.map (·.1)) ∧ Hv w0 (row 39 5 y xs'.length (xs'.flatMap encEv) :: many (xs'.map ownE) :: row 9 1 v1 L.length (L.map str) :: mpn bm (fun l => str l) readF 5 :: H) w') ?_ ?_
    · have hd0 : (L.getD i default).getD 0 0 = (L.getD i default).getD 0 default := rfl
      have hcl := parts_len (L.getD i default)
      repeat (first | refine go ?_ | intro _ | refine ⟨sb, ?_⟩ | refine ⟨sd, ?_⟩ | dsimp only)
      generalize L.getD i default = s at *
      refine And.intro (Sd.mk fun hq => ⟨⟨by omega, ?_⟩, True.intro⟩) ?_
      · have : s ≠ [] := by simpa using hq
        have := List.length_pos_iff.2 this
        omega
      repeat (first | refine go ?_ | intro _ | refine ⟨sb, ?_⟩ | refine ⟨sd, ?_⟩ | dsimp only)
      refine And.intro (fun h2 => ?_) (fun h2 => ?_)
      · refine ⟨xs, w3, rfl, by omega, ?_, o3⟩
        rw [he, pgo_cons, if_pos]
        rw [hd0]
        simpa using h2
      rw [pgo_cons, if_neg (by rw [hd0]; simpa using h2)] at he
      unfold evtS at he
      cases hr : readS (cutB s 32).1 (cutB s 32).2.1 (cutB s 32).2.2 with
      | none =>
        have a1 : AtN readF (cutB s 32).1 := ⟨reader_no hr⟩
        rw [hr] at he
        dsimp only at he
        rw [if_pos (by decide)] at he
        rw [he] at h
        dsimp only at h
        rw [show ((i + 1 : Nat) : Int) = (i : Int) + 1 from rfl] at h
        repeat' (first | refine go ?_ | intro _ | refine ⟨sb, ?_⟩ | refine ⟨sd, ?_⟩ | (refine ⟨fun h1 => ?_, fun h1 => ?_⟩ <;> first | exact ab h1 | ((try rw [h1]); (try simp only [bl] at h1))) | dsimp only)
        refine h [] _ _ rfl (Hv.nilRow 39 5 (Hv.closes (H := []) ?_))
        exact Sub.hv subEnd
      | some r =>
        obtain ⟨e, ok⟩ := r
        obtain ⟨g, hg, hd⟩ := reader hr
        have a1 : AtS readF (cutB s 32).1 _ := ⟨hg⟩
        rw [hr] at he
        dsimp only at he
        repeat ((fail_if_success (refine hd ‹_› ?_ ?_)); (first | refine go ?_ | intro _ | refine ⟨sb, ?_⟩ | refine ⟨sd, ?_⟩ | dsimp only))
        refine hd ‹_› (by omega) ?_
        intro b n w5 hn o5
        dsimp only at hn o5
        subst hn
        clear o3
        cases ok with
        | false =>
          have he1 : pgoS L 0 [] = ([], (i : Int) + 1, 4) := by rw [he]; rfl
          rw [he1] at h
          dsimp only at h ⊢
          repeat' (first | refine go ?_ | intro _ | refine ⟨sb, ?_⟩ | refine ⟨sd, ?_⟩ | (refine ⟨fun h1 => ?_, fun h1 => ?_⟩ <;> first | exact ab h1 | ((try rw [h1]); (try simp only [bl] at h1))) | dsimp only)
          refine h [] _ _ rfl (Hv.nilRow 39 5 (Hv.closes (H := []) ?_))
          exact Sub.hv subEnd
        | true =>
          have he1 : pgoS L 0 [] = pgoS (L.drop (i + 1)) (i + 1) ((xs ++ [(e, b)]).map (·.1)) := by rw [he, List.map_append]; rfl
          dsimp only
          repeat' (first | refine go ?_ | intro _ | refine ⟨sb, ?_⟩ | refine ⟨sd, ?_⟩ | (refine ⟨fun h1 => ?_, fun h1 => ?_⟩ <;> first | exact ab h1 | ((try rw [h1]); (try simp only [bl] at h1))) | dsimp only)
          refine ⟨xs ++ [(e, b)], _, rfl, by simp; omega, he1, Hv.pm (List.Perm.swap ..) (own_snoc ?_)⟩
          exact Sub.hv (subRow rfl rfl (subT (subRow (by simp) (by simp) (subRow rfl rfl (subMpn rfl rfl subEnd)))))
    · rintro y s ⟨xs', w4, rfl, hx', he', o4⟩
      repeat' (first | refine go ?_ | intro _ | refine ⟨sb, ?_⟩ | refine ⟨sd, ?_⟩ | (refine ⟨fun h1 => ?_, fun h1 => ?_⟩ <;> first | exact ab h1 | ((try rw [h1]); (try simp only [bl] at h1))) | dsimp only)
      exact ⟨⟨i + 1, xs', _, _, rfl, by simp, rfl, hlt, hx', he', o4⟩, by simp; omega⟩
  · obtain rfl : i = L.length := by omega
    rw [List.drop_length] at he
    rw [he] at h
    unfold pgoS at h
    repeat' (first | refine go ?_ | intro _ | refine ⟨sb, ?_⟩ | refine ⟨sd, ?_⟩ | (refine ⟨fun h1 => ?_, fun h1 => ?_⟩ <;> first | exact ab h1 | ((try rw [h1]); (try simp only [bl] at h1))) | dsimp only)
    · exfalso; omega
    · exact h xs _ _ rfl (Sub.hv (subRow rfl rfl (subT subEnd)))⟩
end
end Go.Proofs.YtfgdalggkknffaaGreatDoor

