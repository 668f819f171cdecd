import Derived.Test.YtapammcnagjigaaDoorVx
import Derived.Below
import Derived.Laws.AppendOwn
import Derived.Laws.OwnMore
import Derived.Laws.MakeOwn
import Derived.ArgAppend
import Derived.OwnWalk
set_option linter.all false
namespace Go.Vx
open Go.RowKit

/-! what is owned: assertions on a set of blocks -/
structure SL where
  ok : (Nat → Prop) → World → Prop
  loc : ∀ {S : Nat → Prop} {w w' : World}, (∀ b, S b → w'.heap[b]? = w.heap[b]?) → ok S w → ok S w'
  lt : ∀ {S : Nat → Prop} {w : World}, ok S w → ∀ b, S b → b < w.heap.size
def emp : Nat → Prop := fun _ => False
def sep : List SL → (Nat → Prop) → World → Prop
  | [], S, _ => ∀ b, ¬ S b
  | A :: H, S, w => ∃ S1 S2, (∀ b, S b ↔ S1 b ∨ S2 b) ∧ (∀ b, S1 b → S2 b → False) ∧ A.ok S1 w ∧ sep H S2 w
theorem sep_loc {H : List SL} : ∀ {S : Nat → Prop} {w w' : World}, (∀ b, S b → w'.heap[b]? = w.heap[b]?) → sep H S w → sep H S w' := by
  induction H with
  | nil => exact fun _ h => h
  | cons A H ih =>
    rintro S w w' he ⟨S1, S2, h1, h2, h3, h4⟩
    exact ⟨S1, S2, h1, h2, A.loc (fun b hb => he b ((h1 b).2 (.inl hb))) h3, ih (fun b hb => he b ((h1 b).2 (.inr hb))) h4⟩
theorem sep_lt {H : List SL} : ∀ {S : Nat → Prop} {w : World}, sep H S w → ∀ b, S b → b < w.heap.size := by
  induction H with
  | nil => exact fun h b hb => (h b hb).elim
  | cons A H ih =>
    rintro S w ⟨S1, S2, h1, h2, h3, h4⟩ b hb
    rcases (h1 b).1 hb with h | h
    · exact A.lt h3 b h
    · exact ih h4 b h
theorem sep_app {H G : List SL} : ∀ {S : Nat → Prop} {w : World}, sep (H ++ G) S w ↔ ∃ S1 S2, (∀ b, S b ↔ S1 b ∨ S2 b) ∧ (∀ b, S1 b → S2 b → False) ∧ sep H S1 w ∧ sep G S2 w := by
  induction H with
  | nil =>
    intro S w
    constructor
    · exact fun h => ⟨emp, S, fun b => ⟨.inr, fun h => h.elim (fun h => h.elim) id⟩, fun b h => h.elim, fun b h => h, h⟩
    · rintro ⟨S1, S2, h1, h2, h3, h4⟩
      have : S = S2 := funext fun b => propext ⟨fun h => ((h1 b).1 h).elim (fun h => (h3 b h).elim) id, fun h => (h1 b).2 (.inr h)⟩
      rw [this]; exact h4
  | cons A H ih =>
    intro S w
    constructor
    · rintro ⟨S1, S2, h1, h2, h3, h4⟩
      obtain ⟨T1, T2, g1, g2, g3, g4⟩ := ih.1 h4
      refine ⟨fun b => S1 b ∨ T1 b, T2, fun b => ?_, fun b => ?_, ⟨S1, T1, fun b => Iff.rfl, fun b x y => h2 b x ((g1 b).2 (.inl y)), h3, g3⟩, g4⟩
      · rw [h1 b, g1 b]; exact or_assoc.symm
      · rintro (x | x) y
        · exact h2 b x ((g1 b).2 (.inr y))
        · exact g2 b x y
    · rintro ⟨S1, S2, h1, h2, ⟨T1, T2, g1, g2, g3, g4⟩, h4⟩
      refine ⟨T1, fun b => T2 b ∨ S2 b, fun b => ?_, fun b x => ?_, g3, ih.2 ⟨T2, S2, fun b => Iff.rfl, fun b x y => h2 b ((g1 b).2 (.inr x)) y, g4, h4⟩⟩
      · rw [h1 b, g1 b]; exact or_assoc
      · rintro (y | y)
        · exact g2 b x y
        · exact h2 b ((g1 b).2 (.inl x)) y

/-- Of a world w that came of w0: what was there in w0 is as it was; H is owned, in blocks that were not there. -/
class Hv (w0 : outParam World) (H : outParam (List SL)) (w : World) : Prop where
  bel : Below w0.heap.size w0 w
  sp : ∃ S, (∀ b, S b → w0.heap.size ≤ b) ∧ sep H S w
/-- H is A and R. -/
class Take (H : List SL) (A : SL) (R : outParam (List SL)) : Prop where
  perm : ∀ {S w}, sep H S w ↔ sep (A :: R) S w
instance (priority := high) Take.here {A : SL} {H : List SL} : Take (A :: H) A H := ⟨Iff.rfl⟩
theorem sep_swap {A B : SL} {H : List SL} {S : Nat → Prop} {w : World} (h : sep (A :: B :: H) S w) : sep (B :: A :: H) S w := by
  obtain ⟨S1, S2, h1, h2, h3, T1, T2, g1, g2, g3, g4⟩ := h
  refine ⟨T1, fun b => S1 b ∨ T2 b, fun b => ?_, fun b x => ?_, g3, S1, T2, fun b => Iff.rfl, fun b x y => h2 b x ((g1 b).2 (.inr y)), h3, g4⟩
  · rw [h1 b, g1 b]; exact or_left_comm
  · rintro (y | y)
    · exact h2 b y ((g1 b).2 (.inl x))
    · exact g2 b x y
theorem sep_cons {A : SL} {H G : List SL} (h : ∀ {S w}, sep H S w → sep G S w) {S : Nat → Prop} {w : World} : sep (A :: H) S w → sep (A :: G) S w :=
  fun ⟨S1, S2, h1, h2, h3, h4⟩ => ⟨S1, S2, h1, h2, h3, h h4⟩
instance Take.there {A B : SL} {H R : List SL} [t : Take H A R] : Take (B :: H) A (B :: R) :=
  ⟨⟨fun h => sep_swap (sep_cons t.perm.1 h), fun h => sep_cons t.perm.2 (sep_swap h)⟩⟩

/-- What is not needed any more is dropped. -/
class DropTo (R H : List SL) : Prop where sub : ∀ {S w}, sep R S w → ∃ S', (∀ b, S' b → S b) ∧ sep H S' w
instance (priority := high) {H : List SL} : DropTo H H := ⟨fun h => ⟨_, fun _ h => h, h⟩⟩
instance {A : SL} {R H : List SL} [d : DropTo R H] : DropTo (A :: R) H := ⟨fun ⟨_, _, h1, _, _, h4⟩ => let ⟨S', g1, g2⟩ := d.sub h4; ⟨S', fun b hb => (h1 b).2 (.inr (g1 b hb)), g2⟩⟩
theorem Hv.drop {w0 w : World} {R H : List SL} [d : DropTo R H] (h : Hv w0 R w) : Hv w0 H w := ⟨h.bel, let ⟨S, a, b⟩ := h.sp; let ⟨S', g1, g2⟩ := d.sub b; ⟨S', fun b hb => a b (g1 b hb), g2⟩⟩
theorem Hv.drop1 {w0 w : World} {A : SL} {R H : List SL} [d : DropTo R H] (h : Hv w0 (A :: R) w) : Hv w0 (A :: H) w := by
  obtain ⟨S, a, S1, S2, h1, h2, h3, h4⟩ := h.sp
  obtain ⟨S', g1, g2⟩ := d.sub h4
  exact ⟨h.bel, fun b => S1 b ∨ S' b, fun b hb => a b ((h1 b).2 (hb.imp id (g1 b))), S1, S', fun b => Iff.rfl, fun b x y => h2 b x (g1 b y), h3, g2⟩
theorem Hv.take {w0 w : World} {H R : List SL} {A : SL} [t : Take H A R] (h : Hv w0 H w) : Hv w0 (A :: R) w := ⟨h.bel, let ⟨S, a, b⟩ := h.sp; ⟨S, a, t.perm.1 b⟩⟩
theorem Hv.begin (w : World) : Hv w [] w := ⟨Below.refl _ _, emp, fun _ h => h.elim, fun _ h => h⟩
theorem Hv.ok {w0 w : World} {H : List SL} {A : SL} (h : Hv w0 (A :: H) w) : ∃ S, (∀ b, S b → w0.heap.size ≤ b ∧ b < w.heap.size) ∧ A.ok S w := by
  obtain ⟨S, a, S1, S2, h1, h2, h3, h4⟩ := h.sp
  exact ⟨S1, fun b hb => ⟨a b ((h1 b).2 (.inl hb)), A.lt h3 b hb⟩, h3⟩
theorem Hv.tail {w0 w : World} {H : List SL} {A : SL} (h : Hv w0 (A :: H) w) : Hv w0 H w := by
  obtain ⟨S, a, S1, S2, h1, h2, h3, h4⟩ := h.sp
  exact ⟨h.bel, S2, fun b hb => a b ((h1 b).2 (.inr hb)), h4⟩
theorem Hv.le {w0 w : World} {H : List SL} (h : Hv w0 H w) : w0.heap.size ≤ w.heap.size := h.bel.size

/-- A step that turns nothing but what it owns, and new blocks. -/
structure Kept (S : Nat → Prop) (w w' : World) : Prop where
  os : w'.os = w.os
  tape : w'.tape = w.tape
  output : w'.output = w.output
  size : w.heap.size ≤ w'.heap.size
  block : ∀ k, k < w.heap.size → ¬ S k → w'.heap[k]? = w.heap[k]?
theorem Kept.of {w w' : World} {row : Option Nat} {S : Nat → Prop} (h : w.grownBy w' row) (hr : ∀ k, row = some k → S k) : Kept S w w' :=
  ⟨h.os, h.tape, h.output, h.size, fun k hk hs => h.block k hk fun e => hs (hr k e.symm)⟩
theorem Kept.refl (S : Nat → Prop) (w : World) : Kept S w w := ⟨rfl, rfl, rfl, Nat.le_refl _, fun _ _ _ => rfl⟩
theorem Kept.drew (S : Nat → Prop) (w : World) : Kept S w w.drew := ⟨rfl, rfl, rfl, Nat.le_refl _, fun _ _ _ => rfl⟩
theorem Kept.alloc (S : Nat → Prop) (w : World) (o : Obj) : Kept S w (w.alloc o) := .of (World.grownBy_alloc w o none) fun _ h => by cases h

/-- One thing that is owned becomes others. -/
theorem Hv.step {w0 w w' : World} {A : SL} {B R : List SL} (h : Hv w0 (A :: R) w)
    (hs : ∀ S, (∀ b, S b → w0.heap.size ≤ b ∧ b < w.heap.size) → A.ok S w → ∃ S', sep B S' w' ∧ (∀ b, S' b → S b ∨ w.heap.size ≤ b) ∧ Kept S w w') : Hv w0 (B ++ R) w' := by
  obtain ⟨S, a, S1, S2, h1, h2, h3, h4⟩ := h.sp
  obtain ⟨S', g1, g2, g3⟩ := hs S1 (fun b hb => ⟨a b ((h1 b).2 (.inl hb)), A.lt h3 b hb⟩) h3
  have hsz := h.bel.size
  have h2lt := sep_lt h4
  refine ⟨h.bel.trans ⟨g3.os, g3.tape, g3.output, g3.size, fun k hk => g3.block k (by omega) fun hS => ?_⟩, fun b => S' b ∨ S2 b, fun b => ?_, sep_app.2 ⟨S', S2, fun b => Iff.rfl, fun b x y => ?_, g1, sep_loc (fun b hb => ?_) h4⟩⟩
  · have := a k ((h1 k).2 (.inl hS)); omega
  · rintro (x | x)
    · rcases g2 b x with y | y
      · exact a b ((h1 b).2 (.inl y))
      · omega
    · exact a b ((h1 b).2 (.inr x))
  · rcases g2 b x with z | z
    · exact h2 b z y
    · have := h2lt b y; omega
  · exact g3.block b (h2lt b hb) fun hS => h2 b hS hb
/-- Something new is owned. -/
theorem Hv.new {w0 w w' : World} {B R : List SL} (h : Hv w0 R w) (hs : ∃ S', sep B S' w' ∧ (∀ b, S' b → w.heap.size ≤ b)) (hk : Kept emp w w') : Hv w0 (B ++ R) w' := by
  obtain ⟨S', g1, g2⟩ := hs
  obtain ⟨S, a, h4⟩ := h.sp
  have hsz := h.bel.size
  have h2lt := sep_lt h4
  refine ⟨h.bel.trans ⟨hk.os, hk.tape, hk.output, hk.size, fun k h' => hk.block k (by omega) fun h => h⟩, fun b => S' b ∨ S b, fun b => ?_, sep_app.2 ⟨S', S, fun b => Iff.rfl, fun b x y => ?_, g1, sep_loc (fun b hb => hk.block b (h2lt b hb) fun h => h) h4⟩⟩
  · rintro (x | x)
    · have := g2 b x; omega
    · exact a b x
  · have := g2 b x; have := h2lt b y; omega
theorem Hv.same {w0 w w' : World} {R : List SL} (h : Hv w0 R w) (hk : Kept emp w w') : Hv w0 R w' := h.new (B := []) ⟨emp, fun _ h => h, fun _ h => h.elim⟩ hk
theorem Hv.drew {w0 w : World} {R : List SL} (h : Hv w0 R w) : Hv w0 R w.drew := h.same (Kept.drew _ _)
theorem Hv.kept {w w' : World} {G : List SL} (h : Hv w G w') : Kept emp w w' := ⟨h.bel.os, h.bel.tape, h.bel.output, h.bel.size, fun k hk _ => h.bel.block k hk⟩
/-- A call that owns nothing of its caller's: what it gives is owned besides. -/
theorem Hv.call {w0 w w' : World} {R G : List SL} (h : Hv w0 R w) (hg : Hv w G w') : Hv w0 (G ++ R) w' :=
  h.new (let ⟨S, a, b⟩ := hg.sp; ⟨S, b, a⟩) hg.kept
theorem Hv.perm {w0 w : World} {H G : List SL} (hp : ∀ {S w}, sep H S w → sep G S w) (h : Hv w0 H w) : Hv w0 G w := ⟨h.bel, let ⟨S, a, b⟩ := h.sp; ⟨S, a, hp b⟩⟩

/-! what may be owned -/
/-- A block. -/
def pto (b : Nat) (o : Obj) : SL where
  ok S w := (∀ k, S k ↔ k = b) ∧ w.heap[b]? = some o
  loc he h := ⟨h.1, (he b ((h.1 b).2 rfl)).trans h.2⟩
  lt h k hk := by rw [(h.1 k).1 hk]; exact (Array.getElem?_eq_some_iff.1 h.2).1
/-- A variable (a box): its cells. -/
abbrev box (b : Nat) (t : TypeId) (cs : List Value) : SL := pto b (.cells cs.toArray t (0, 0))
/-- A slice's row: a growable one. -/
def row (e size : Nat) (v : Value) (n : Nat) (xs : List Value) : SL where
  ok S w := (∀ k, S k ↔ v.ownBlock = some k) ∧ w.ownsRow 0 e size v n xs ∧ ∀ u ∈ xs, u.oneCell' = true
  loc {S w w'} he h := by
    refine ⟨h.1, ⟨h.2.1.1, ?_⟩, h.2.2⟩
    rcases h.2.1.2 with h2 | ⟨g, cap, cur, hv, hg, hh, r⟩
    · exact .inl h2
    · exact .inr ⟨g, cap, cur, hv, hg, by rw [he g ((h.1 g).2 (by rw [hv]; rfl))]; exact hh, r⟩
  lt h k hk := (h.2.1.lt k ((h.1 k).1 hk)).2
/-- A word on it besides. -/
def lift (φ : Prop) : SL where
  ok S _ := (∀ k, ¬ S k) ∧ φ
  loc _ h := h
  lt h k hk := (h.1 k hk).elim
/-- Some x. -/
def any {α : Type} (A : α → SL) : SL where
  ok S w := ∃ x, (A x).ok S w
  loc he h := let ⟨x, h⟩ := h; ⟨x, (A x).loc he h⟩
  lt h := let ⟨x, h⟩ := h; (A x).lt h
/-- Several together. -/
def many (H : List SL) : SL where
  ok S w := sep H S w
  loc he h := sep_loc he h
  lt h := sep_lt h
theorem Hv.opens {w0 w : World} {H R : List SL} (h : Hv w0 (many H :: R) w) : Hv w0 (H ++ R) w := h.perm (by intro S w h; exact sep_app.2 h)
theorem Hv.closes {w0 w : World} {H R : List SL} (h : Hv w0 (H ++ R) w) : Hv w0 (many H :: R) w := h.perm (by intro S w h; exact sep_app.1 h)
theorem Hv.pick {w0 w : World} {α : Type} {A : α → SL} {R : List SL} (h : Hv w0 (any A :: R) w) : ∃ x, Hv w0 (A x :: R) w := by
  obtain ⟨S, a, S1, S2, h1, h2, ⟨x, h3⟩, h4⟩ := h.sp
  exact ⟨x, h.bel, S, a, S1, S2, h1, h2, h3, h4⟩
theorem Hv.give {w0 w : World} {α : Type} {A : α → SL} {R : List SL} (x : α) (h : Hv w0 (A x :: R) w) : Hv w0 (any A :: R) w := by
  obtain ⟨S, a, S1, S2, h1, h2, h3, h4⟩ := h.sp
  exact ⟨h.bel, S, a, S1, S2, h1, h2, ⟨x, h3⟩, h4⟩
end Go.Vx
