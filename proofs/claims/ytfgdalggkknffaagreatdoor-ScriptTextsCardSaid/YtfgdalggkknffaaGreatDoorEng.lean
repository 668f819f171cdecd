import Derived.Test.YtfgdalggkknffaaGreatDoorVx
import Derived.Below
import Derived.Laws.AppendOwn
import Derived.Laws.OwnMore
import Derived.Laws.MakeOwn
import Derived.ArgAppend
import Derived.OwnWalk
import Derived.ChangeStays
import Derived.ChangeSlices
import Derived.SliceStrings
import Derived.WideShapes
import Derived.ChangeShapes
import Derived.Laws.StandIn
import Derived.Lib.UnsafeStr
import Derived.Lib.Builder
import Derived.Lib.LaidTab
import Derived.Lib.ItoaMem
import Derived.Lib.ItoaLen
import Derived.Sort.Grow
import Derived.Deep.Draws
import Derived.Lib.IndexAny
import Derived.Lib.Bytealg
import Derived.Lib.OthersKept
import Derived.Laws.RangeAny
import Derived.SizedLaws
import Derived.Laws.IdiomCopy
import Derived.Lib.MakeNoZero
import Derived.Laws.CopyRow
set_option linter.all false
namespace Go.Vx
open Go.RowKit
structure SL where
  ok : (Nat → Prop) → World → Prop
  loc : ∀ {S : Nat → Prop} {w w' : World}, (∀ b, S b → w'.heap[b]? = w.heap[b]?) → ok S w → ok S w'
  lt : ∀ {S : Nat → Prop} {w : World}, ok S w → ∀ b, S b → b < w.heap.size
def emp : Nat → Prop := fun _ => False
def sep : List SL → (Nat → Prop) → World → Prop
  | [], S, _ => ∀ b, ¬ S b
  | A :: H, S, w => ∃ S1 S2, (∀ b, S b ↔ S1 b ∨ S2 b) ∧ (∀ b, S1 b → S2 b → False) ∧ A.ok S1 w ∧ sep H S2 w
theorem sep_loc {H : List SL} : ∀ {S : Nat → Prop} {w w' : World}, (∀ b, S b → w'.heap[b]? = w.heap[b]?) → sep H S w → sep H S w' := by
  induction H with
  | nil => exact fun _ h => h
  | cons A H ih =>
    rintro S w w' he ⟨S1, S2, h1, h2, h3, h4⟩
    exact ⟨S1, S2, h1, h2, A.loc (fun b hb => he b ((h1 b).2 (.inl hb))) h3, ih (fun b hb => he b ((h1 b).2 (.inr hb))) h4⟩
theorem sep_lt {H : List SL} : ∀ {S : Nat → Prop} {w : World}, sep H S w → ∀ b, S b → b < w.heap.size := by
  induction H with
  | nil => exact fun h b hb => (h b hb).elim
  | cons A H ih =>
    rintro S w ⟨S1, S2, h1, h2, h3, h4⟩ b hb
    rcases (h1 b).1 hb with h | h
    · exact A.lt h3 b h
    · exact ih h4 b h
theorem sep_app {H G : List SL} : ∀ {S : Nat → Prop} {w : World}, sep (H ++ G) S w ↔ ∃ S1 S2, (∀ b, S b ↔ S1 b ∨ S2 b) ∧ (∀ b, S1 b → S2 b → False) ∧ sep H S1 w ∧ sep G S2 w := by
  induction H with
  | nil =>
    intro S w
    constructor
    · exact fun h => ⟨emp, S, fun b => ⟨.inr, fun h => h.elim (fun h => h.elim) id⟩, fun b h => h.elim, fun b h => h, h⟩
    · rintro ⟨S1, S2, h1, h2, h3, h4⟩
      have : S = S2 := funext fun b => propext ⟨fun h => ((h1 b).1 h).elim (fun h => (h3 b h).elim) id, fun h => (h1 b).2 (.inr h)⟩
      rw [this]; exact h4
  | cons A H ih =>
    intro S w
    constructor
    · rintro ⟨S1, S2, h1, h2, h3, h4⟩
      obtain ⟨T1, T2, g1, g2, g3, g4⟩ := ih.1 h4
      refine ⟨fun b => S1 b ∨ T1 b, T2, fun b => ?_, fun b => ?_, ⟨S1, T1, fun b => Iff.rfl, fun b x y => h2 b x ((g1 b).2 (.inl y)), h3, g3⟩, g4⟩
      · rw [h1 b, g1 b]; exact or_assoc.symm
      · rintro (x | x) y
        · exact h2 b x ((g1 b).2 (.inr y))
        · exact g2 b x y
    · rintro ⟨S1, S2, h1, h2, ⟨T1, T2, g1, g2, g3, g4⟩, h4⟩
      refine ⟨T1, fun b => T2 b ∨ S2 b, fun b => ?_, fun b x => ?_, g3, ih.2 ⟨T2, S2, fun b => Iff.rfl, fun b x y => h2 b ((g1 b).2 (.inr x)) y, g4, h4⟩⟩
      · rw [h1 b, g1 b]; exact or_assoc
      · rintro (y | y)
        · exact g2 b x y
        · exact h2 b ((g1 b).2 (.inl x)) y
class Hv (w0 : outParam World) (H : outParam (List SL)) (w : World) : Prop where
  bel : Below w0.heap.size w0 w
  sp : ∃ S, (∀ b, S b → w0.heap.size ≤ b) ∧ sep H S w
class Take (H : List SL) (A : SL) (R : outParam (List SL)) : Prop where
  perm : ∀ {S w}, sep H S w ↔ sep (A :: R) S w
instance (priority := high) Take.here {A : SL} {H : List SL} : Take (A :: H) A H := ⟨Iff.rfl⟩
theorem sep_swap {A B : SL} {H : List SL} {S : Nat → Prop} {w : World} (h : sep (A :: B :: H) S w) : sep (B :: A :: H) S w := by
  obtain ⟨S1, S2, h1, h2, h3, T1, T2, g1, g2, g3, g4⟩ := h
  refine ⟨T1, fun b => S1 b ∨ T2 b, fun b => ?_, fun b x => ?_, g3, S1, T2, fun b => Iff.rfl, fun b x y => h2 b x ((g1 b).2 (.inr y)), h3, g4⟩
  · rw [h1 b, g1 b]; exact or_left_comm
  · rintro (y | y)
    · exact h2 b y ((g1 b).2 (.inl x))
    · exact g2 b x y
theorem sep_cons {A : SL} {H G : List SL} (h : ∀ {S w}, sep H S w → sep G S w) {S : Nat → Prop} {w : World} : sep (A :: H) S w → sep (A :: G) S w :=
  fun ⟨S1, S2, h1, h2, h3, h4⟩ => ⟨S1, S2, h1, h2, h3, h h4⟩
instance Take.there {A B : SL} {H R : List SL} [t : Take H A R] : Take (B :: H) A (B :: R) :=
  ⟨⟨fun h => sep_swap (sep_cons t.perm.1 h), fun h => sep_cons t.perm.2 (sep_swap h)⟩⟩
class DropTo (R H : List SL) : Prop where sub : ∀ {S w}, sep R S w → ∃ S', (∀ b, S' b → S b) ∧ sep H S' w
instance (priority := high) {H : List SL} : DropTo H H := ⟨fun h => ⟨_, fun _ h => h, h⟩⟩
instance {A : SL} {R H : List SL} [d : DropTo R H] : DropTo (A :: R) H := ⟨fun ⟨_, _, h1, _, _, h4⟩ => let ⟨S', g1, g2⟩ := d.sub h4; ⟨S', fun b hb => (h1 b).2 (.inr (g1 b hb)), g2⟩⟩
theorem Hv.drop {w0 w : World} {R H : List SL} [d : DropTo R H] (h : Hv w0 R w) : Hv w0 H w := ⟨h.bel, let ⟨S, a, b⟩ := h.sp; let ⟨S', g1, g2⟩ := d.sub b; ⟨S', fun b hb => a b (g1 b hb), g2⟩⟩
theorem Hv.drop1 {w0 w : World} {A : SL} {R H : List SL} [d : DropTo R H] (h : Hv w0 (A :: R) w) : Hv w0 (A :: H) w := by
  obtain ⟨S, a, S1, S2, h1, h2, h3, h4⟩ := h.sp
  obtain ⟨S', g1, g2⟩ := d.sub h4
  exact ⟨h.bel, fun b => S1 b ∨ S' b, fun b hb => a b ((h1 b).2 (hb.imp id (g1 b))), S1, S', fun b => Iff.rfl, fun b x y => h2 b x (g1 b y), h3, g2⟩
theorem Hv.begin (w : World) : Hv w [] w := ⟨Below.refl _ _, emp, fun _ h => h.elim, fun _ h => h⟩
theorem Hv.ok {w0 w : World} {H : List SL} {A : SL} (h : Hv w0 (A :: H) w) : ∃ S, (∀ b, S b → w0.heap.size ≤ b ∧ b < w.heap.size) ∧ A.ok S w := by
  obtain ⟨S, a, S1, S2, h1, h2, h3, h4⟩ := h.sp
  exact ⟨S1, fun b hb => ⟨a b ((h1 b).2 (.inl hb)), A.lt h3 b hb⟩, h3⟩
theorem Hv.tail {w0 w : World} {H : List SL} {A : SL} (h : Hv w0 (A :: H) w) : Hv w0 H w := by
  obtain ⟨S, a, S1, S2, h1, h2, h3, h4⟩ := h.sp
  exact ⟨h.bel, S2, fun b hb => a b ((h1 b).2 (.inr hb)), h4⟩
structure Kept (S : Nat → Prop) (w w' : World) : Prop where
  os : w'.os = w.os
  tape : w'.tape = w.tape
  output : w'.output = w.output
  size : w.heap.size ≤ w'.heap.size
  block : ∀ k, k < w.heap.size → ¬ S k → w'.heap[k]? = w.heap[k]?
theorem Kept.of {w w' : World} {row : Option Nat} {S : Nat → Prop} (h : w.grownBy w' row) (hr : ∀ k, row = some k → S k) : Kept S w w' :=
  ⟨h.os, h.tape, h.output, h.size, fun k hk hs => h.block k hk fun e => hs (hr k e.symm)⟩
theorem Kept.refl (S : Nat → Prop) (w : World) : Kept S w w := ⟨rfl, rfl, rfl, Nat.le_refl _, fun _ _ _ => rfl⟩
theorem Kept.drew (S : Nat → Prop) (w : World) : Kept S w w.drew := ⟨rfl, rfl, rfl, Nat.le_refl _, fun _ _ _ => rfl⟩
theorem Kept.alloc (S : Nat → Prop) (w : World) (o : Obj) : Kept S w (w.alloc o) := .of (World.grownBy_alloc w o none) fun _ h => by cases h
theorem Hv.step {w0 w w' : World} {A : SL} {B R : List SL} (h : Hv w0 (A :: R) w)
    (hs : ∀ S, (∀ b, S b → w0.heap.size ≤ b ∧ b < w.heap.size) → A.ok S w → ∃ S', sep B S' w' ∧ (∀ b, S' b → S b ∨ w.heap.size ≤ b) ∧ Kept S w w') : Hv w0 (B ++ R) w' := by
  obtain ⟨S, a, S1, S2, h1, h2, h3, h4⟩ := h.sp
  obtain ⟨S', g1, g2, g3⟩ := hs S1 (fun b hb => ⟨a b ((h1 b).2 (.inl hb)), A.lt h3 b hb⟩) h3
  have hsz := h.bel.size
  have h2lt := sep_lt h4
  refine ⟨h.bel.trans ⟨g3.os, g3.tape, g3.output, g3.size, fun k hk => g3.block k (by omega) fun hS => ?_⟩, fun b => S' b ∨ S2 b, fun b => ?_, sep_app.2 ⟨S', S2, fun b => Iff.rfl, fun b x y => ?_, g1, sep_loc (fun b hb => ?_) h4⟩⟩
  · have := a k ((h1 k).2 (.inl hS)); omega
  · rintro (x | x)
    · rcases g2 b x with y | y
      · exact a b ((h1 b).2 (.inl y))
      · omega
    · exact a b ((h1 b).2 (.inr x))
  · rcases g2 b x with z | z
    · exact h2 b z y
    · have := h2lt b y; omega
  · exact g3.block b (h2lt b hb) fun hS => h2 b hS hb
theorem Hv.new {w0 w w' : World} {B R : List SL} (h : Hv w0 R w) (hs : ∃ S', sep B S' w' ∧ (∀ b, S' b → w.heap.size ≤ b)) (hk : Kept emp w w') : Hv w0 (B ++ R) w' := by
  obtain ⟨S', g1, g2⟩ := hs
  obtain ⟨S, a, h4⟩ := h.sp
  have hsz := h.bel.size
  have h2lt := sep_lt h4
  refine ⟨h.bel.trans ⟨hk.os, hk.tape, hk.output, hk.size, fun k h' => hk.block k (by omega) fun h => h⟩, fun b => S' b ∨ S b, fun b => ?_, sep_app.2 ⟨S', S, fun b => Iff.rfl, fun b x y => ?_, g1, sep_loc (fun b hb => hk.block b (h2lt b hb) fun h => h) h4⟩⟩
  · rintro (x | x)
    · have := g2 b x; omega
    · exact a b x
  · have := g2 b x; have := h2lt b y; omega
theorem Hv.same {w0 w w' : World} {R : List SL} (h : Hv w0 R w) (hk : Kept emp w w') : Hv w0 R w' := h.new (B := []) ⟨emp, fun _ h => h, fun _ h => h.elim⟩ hk
theorem Hv.drew {w0 w : World} {R : List SL} (h : Hv w0 R w) : Hv w0 R w.drew := h.same (Kept.drew _ _)
theorem Hv.perm {w0 w : World} {H G : List SL} (hp : ∀ {S w}, sep H S w → sep G S w) (h : Hv w0 H w) : Hv w0 G w := ⟨h.bel, let ⟨S, a, b⟩ := h.sp; ⟨S, a, hp b⟩⟩
def pto (b : Nat) (o : Obj) : SL where
  ok S w := (∀ k, S k ↔ k = b) ∧ w.heap[b]? = some o
  loc he h := ⟨h.1, (he b ((h.1 b).2 rfl)).trans h.2⟩
  lt h k hk := by rw [(h.1 k).1 hk]; exact (Array.getElem?_eq_some_iff.1 h.2).1
abbrev box (b : Nat) (t : TypeId) (cs : List Value) : SL := pto b (.cells cs.toArray t (0, 0))
def row (e size : Nat) (v : Value) (n : Nat) (xs : List Value) : SL where
  ok S w := (∀ k, S k ↔ v.ownBlock = some k) ∧ w.ownsRow 0 e size v n xs ∧ ∀ u ∈ xs, u.oneCell' = true
  loc {S w w'} he h := by
    refine ⟨h.1, ⟨h.2.1.1, ?_⟩, h.2.2⟩
    rcases h.2.1.2 with h2 | ⟨g, cap, cur, hv, hg, hh, r⟩
    · exact .inl h2
    · exact .inr ⟨g, cap, cur, hv, hg, by rw [he g ((h.1 g).2 (by rw [hv]; rfl))]; exact hh, r⟩
  lt h k hk := (h.2.1.lt k ((h.1 k).1 hk)).2
def lift (φ : Prop) : SL where
  ok S _ := (∀ k, ¬ S k) ∧ φ
  loc _ h := h
  lt h k hk := (h.1 k hk).elim
def any {α : Type} (A : α → SL) : SL where
  ok S w := ∃ x, (A x).ok S w
  loc he h := let ⟨x, h⟩ := h; ⟨x, (A x).loc he h⟩
  lt h := let ⟨x, h⟩ := h; (A x).lt h
def many (H : List SL) : SL where
  ok S w := sep H S w
  loc he h := sep_loc he h
  lt h := sep_lt h
theorem Hv.opens {w0 w : World} {H R : List SL} (h : Hv w0 (many H :: R) w) : Hv w0 (H ++ R) w := h.perm (by intro S w h; exact sep_app.2 h)
theorem Hv.closes {w0 w : World} {H R : List SL} (h : Hv w0 (H ++ R) w) : Hv w0 (many H :: R) w := h.perm (by intro S w h; exact sep_app.1 h)
theorem Hv.pick {w0 w : World} {α : Type} {A : α → SL} {R : List SL} (h : Hv w0 (any A :: R) w) : ∃ x, Hv w0 (A x :: R) w := by
  obtain ⟨S, a, S1, S2, h1, h2, ⟨x, h3⟩, h4⟩ := h.sp
  exact ⟨x, h.bel, S, a, S1, S2, h1, h2, h3, h4⟩
theorem Hv.give {w0 w : World} {α : Type} {A : α → SL} {R : List SL} (x : α) (h : Hv w0 (A x :: R) w) : Hv w0 (any A :: R) w := by
  obtain ⟨S, a, S1, S2, h1, h2, h3, h4⟩ := h.sp
  exact ⟨h.bel, S, a, S1, S2, h1, h2, ⟨x, h3⟩, h4⟩
end Go.Vx

namespace Go.Vx
open Go.RowKit
theorem bl : (∀ b : Bool, ((!b) = true) = (b = false)) ∧ (∀ b : Bool, ((!b) = false) = (b = true)) ∧ (∀ (p : Prop) [Decidable p], (decide p = true) = p) ∧ (∀ (p : Prop) [Decidable p], decide p = false ↔ ¬ p) ∧
    (∀ a b : Bool, ((a && b) = true) = (a = true ∧ b = true)) ∧ (∀ a b : Bool, ((a || b) = true) = (a = true ∨ b = true)) ∧ (∀ a b : Bool, (a || b) = false ↔ a = false ∧ b = false) ∧ (∀ a b : Bool, (a && b) = false ↔ (a = true → b = false)) ∧
    (∀ a b : Int, ¬ a < b ↔ b ≤ a) ∧ (∀ a b : Int, ¬ a ≤ b ↔ b < a) ∧ (∀ a b : Nat, ¬ a < b ↔ b ≤ a) ∧ (∀ a b : Nat, ¬ a ≤ b ↔ b < a) :=
  ⟨fun b => by simp, fun b => by simp, fun p _ => by simp, fun p _ => by simp, fun a b => by simp, fun a b => by simp, fun a b => by simp, fun a b => by simp, fun a b => Int.not_lt, fun a b => Int.not_le, fun a b => Nat.not_lt, fun a b => Nat.not_le⟩
theorem ll {α : Type} : (∀ a b : List α, (a ++ b).length = a.length + b.length) ∧ (∀ (β : Type) (f : α → β) (a : List α), (a.map f).length = a.length) ∧ (∀ (n : Nat) (a : List α), (a.take n).length = min n a.length) ∧ (∀ (n : Nat) (a : List α), (a.drop n).length = a.length - n) ∧ (∀ (n : Nat) (a : α), (List.replicate n a).length = n) ∧
    (∀ (x : α) (a : List α), (x :: a).length = a.length + 1) ∧ ([] : List α).length = 0 ∧ (∀ (a : List α) (i : Nat) (x : α), (a.set i x).length = a.length) :=
  ⟨fun a b => List.length_append, fun β f a => List.length_map .., fun n a => List.length_take, fun n a => List.length_drop, fun n a => List.length_replicate, fun x a => rfl, rfl, fun a i x => List.length_set⟩
class Step (g : Prop) (h : outParam Prop) : Prop where prf : h → g
theorem go {g h : Prop} [s : Step g h] (x : h) : g := s.prf x
class VT (C : (Value → St → Prop) → St → Prop) (w : World) (v : outParam Value) : Prop where
  prf : ∀ {K ds}, K v ⟨w, ds⟩ → C K ⟨w, ds⟩
class VS (C : (Value → St → Prop) → St → Prop) (w : World) (side : outParam Prop) (v : outParam Value) : Prop where
  prf : side → ∀ {K ds}, K v ⟨w, ds⟩ → C K ⟨w, ds⟩
instance (priority := high) Step.vt {C : (Value → St → Prop) → St → Prop} {K : Value → St → Prop} {w : World} {ds : List Deferred} {v : Value} [i : VT C w v] : Step (C K ⟨w, ds⟩) (K v ⟨w, ds⟩) := ⟨i.prf⟩
instance Step.vs {C : (Value → St → Prop) → St → Prop} {K : Value → St → Prop} {w : World} {ds : List Deferred} {v : Value} {side : Prop} [i : VS C w side v] : Step (C K ⟨w, ds⟩) (side ∧ K v ⟨w, ds⟩) := ⟨fun h => i.prf h.1 h.2⟩
instance (priority := high) Step.qt {C : (Value → St → Prop) → St → Prop} {K : Value → Prop} {w : World} {ds : List Deferred} {v : Value} [i : VT C w v] : Step (Qt C ⟨w, ds⟩ K) (K v) := ⟨fun h => ⟨v, i.prf ⟨rfl, rfl⟩, h⟩⟩
instance Step.qs {C : (Value → St → Prop) → St → Prop} {K : Value → Prop} {w : World} {ds : List Deferred} {v : Value} {side : Prop} [i : VS C w side v] : Step (Qt C ⟨w, ds⟩ K) (side ∧ K v) := ⟨fun h => ⟨v, i.prf h.1 ⟨rfl, rfl⟩, h.2⟩⟩
instance (priority := high) Step.ckA {C : (Value → St → Prop) → St → Prop} {w : World} {ds : List Deferred} {v : Value} {B : Prop} [i : VT C w v] : Step (Ck C v ⟨w, ds⟩ ∧ B) B := ⟨fun h => ⟨i.prf ⟨rfl, rfl⟩, h⟩⟩
instance Step.ckB {C : (Value → St → Prop) → St → Prop} {w : World} {ds : List Deferred} {v : Value} {side B : Prop} [i : VS C w side v] : Step (Ck C v ⟨w, ds⟩ ∧ B) (side ∧ B) := ⟨fun h => ⟨i.prf h.1 ⟨rfl, rfl⟩, h.2⟩⟩
instance Step.dw {k : St → Prop} {w : World} {ds : List Deferred} {w0 : World} {H : List SL} [o : Hv w0 H w] : Step (Dw k ⟨w, ds⟩) (∀ w', Hv w0 H w' → k ⟨w', ds⟩) := ⟨fun h => h _ o.drew⟩
instance Step.cond {b : Bool} {A B : Prop} : Step (CondP (.bool b) A B) ((b = true → A) ∧ (b = false → B)) := ⟨fun h => by cases b; exact .inr ⟨rfl, h.2 rfl⟩; exact .inl ⟨rfl, h.1 rfl⟩⟩
instance (priority := high) Step.condT {A B : Prop} : Step (CondP (.bool true) A B) A := ⟨fun h => .inl ⟨rfl, h⟩⟩
instance (priority := high) Step.condF {A B : Prop} : Step (CondP (.bool false) A B) B := ⟨fun h => .inr ⟨rfl, h⟩⟩
instance Step.grd {b : Bool} {A B : Prop} : Step (Grd (.bool b) true A B) ((b = true → A) ∧ (b = false → B)) := ⟨fun h => ⟨fun e => h.1 (by simpa using e), fun e => h.2 (by simpa using e)⟩⟩
instance Step.grdN {b : Bool} {A B : Prop} : Step (Grd (.bool b) false A B) ((b = false → A) ∧ (b = true → B)) := ⟨fun h => ⟨fun e => h.1 (by simpa using e), fun e => h.2 (by simpa using e)⟩⟩
instance (priority := high) Step.grdU {b : Bool} {A B : Prop} : Step (Grd undef b A B) B := ⟨fun h => ⟨fun e => absurd e (by unfold undef; nofun), fun _ => h⟩⟩
instance (priority := high) Step.grdTT {A B : Prop} : Step (Grd (.bool true) true A B) A := ⟨fun h => ⟨fun _ => h, fun e => absurd rfl e⟩⟩
instance (priority := high) Step.grdTF {A B : Prop} : Step (Grd (.bool true) false A B) B := ⟨fun h => ⟨fun e => by simp at e, fun _ => h⟩⟩
instance (priority := high) Step.grdFT {A B : Prop} : Step (Grd (.bool false) true A B) B := ⟨fun h => ⟨fun e => by simp at e, fun _ => h⟩⟩
instance (priority := high) Step.grdFF {A B : Prop} : Step (Grd (.bool false) false A B) A := ⟨fun h => ⟨fun _ => h, fun e => absurd rfl e⟩⟩
instance {br : (St → Prop) → Prop} {k : St → Prop} : Step (J0 br k) (br k) := ⟨fun h => ⟨_, fun _ h => h, h⟩⟩
instance {br : (Value → St → Prop) → Prop} {k : Value → St → Prop} : Step (J1 br k) (br k) := ⟨fun h => ⟨_, fun _ _ h => h, h⟩⟩
instance {br : (Value → Value → St → Prop) → Prop} {k : Value → Value → St → Prop} : Step (J2 br k) (br k) := ⟨fun h => ⟨_, fun _ _ _ h => h, h⟩⟩
instance {br : (Value → Value → Value → St → Prop) → Prop} {k : Value → Value → Value → St → Prop} : Step (J3 br k) (br k) := ⟨fun h => ⟨_, fun _ _ _ _ h => h, h⟩⟩
instance Step.ret {P : Program} {k : World → Prop} {w : World} : Step (Ret P k ⟨w, []⟩) (k w) := ⟨fun h => h⟩
section
variable {P : Program} {w : World}
theorem vl_ok {m : Sem Value} {v : Value} {w' : World} {K : Value → St → Prop} {ds : List Deferred} (h : m.run P w = .ok v w') (k : K v ⟨w', ds⟩) : Vl P m K ⟨w, ds⟩ :=
  ⟨by simp only [Sem.run_bind, h, Result.andThen_ok, Sem.run_pure]; exact k⟩
theorem ut_ok {m : Sem Unit} {w' : World} {K : Value → St → Prop} {ds : List Deferred} (h : m.run P w = .ok () w') (k : K undef ⟨w', ds⟩) : Ut P m K ⟨w, ds⟩ :=
  ⟨by simp only [Sem.run_bind, h, Result.andThen_ok, Sem.run_pure]; exact k⟩
theorem VT.of {m : Sem Value} {v : Value} (h : m.run P w = .ok v w) : VT (Vl P m) w v := ⟨fun k => vl_ok h k⟩
theorem VS.of {m : Sem Value} {v : Value} {side : Prop} (h : side → m.run P w = .ok v w) : VS (Vl P m) w side v := ⟨fun s => fun k => vl_ok (h s) k⟩
theorem beq_dec (a b : List UInt8) : (a == b) = decide (a = b) := by rw [Bool.eq_iff_iff]; simp
theorem str_add (a b : List UInt8) : (⟨a.toArray⟩ : ByteArray) ++ ⟨b.toArray⟩ = ⟨(a ++ b).toArray⟩ := by
  apply ByteArray.ext; simp
instance {b : Bool} : VT (Uo P .not (.bool b)) w (.bool !b) := VT.of rfl
theorem bo_int {op : BinOp} {t : TypeId} {cx cy : Bool} {k k' : IntKind} {a b : Int} : binS op t cx cy (.int k a) (.int k' b) = binOp op t (.int k a) (.int k' b) := by
  unfold binS eqGuard; cases op <;> rfl
theorem bo_str {op : BinOp} {t : TypeId} {cx cy : Bool} {a b : ByteArray} : binS op t cx cy (.string a) (.string b) = binOp op t (.string a) (.string b) := by
  unfold binS eqGuard; cases op <;> rfl
section
variable {t : TypeId} {cx cy : Bool} {k : IntKind} {a b : Int}
instance : VT (Bo P .eql t cx cy (.int k a) (.int k b)) w (.bool (decide (a = b))) := VT.of (by rw [bo_int, binOp_eql]; rfl)
instance : VT (Bo P .neq t cx cy (.int k a) (.int k b)) w (.bool (!decide (a = b))) := VT.of (by rw [bo_int, binOp_neq]; rfl)
instance : VT (Bo P .lss t cx cy (.int k a) (.int k b)) w (.bool (decide (a < b))) := VT.of (by rw [bo_int, binOp_lss]; rfl)
instance : VT (Bo P .leq t cx cy (.int k a) (.int k b)) w (.bool (decide (a ≤ b))) := VT.of (by rw [bo_int, binOp_leq]; rfl)
instance : VT (Bo P .gtr t cx cy (.int k a) (.int k b)) w (.bool (decide (b < a))) := VT.of (by rw [bo_int, binOp_gtr]; rfl)
instance : VT (Bo P .geq t cx cy (.int k a) (.int k b)) w (.bool (decide (b ≤ a))) := VT.of (by rw [bo_int, binOp_geq]; rfl)
def InR (z : Int) : Prop := -9223372036854775808 ≤ z ∧ z ≤ 9223372036854775807
theorem wrap64 {z : Int} (h : InR z) : IntKind.i64.wrap z = z := by rw [IntKind.wrap_i64]; unfold InR at h; omega
instance : VS (Bo P .add t cx cy (.int .i64 a) (.int .i64 b)) w (InR (a + b)) (.int .i64 (a + b)) := VS.of fun h => by rw [bo_int, binOp_add]; simp only [Op.intArith, Sem.run_pure, wrap64 h]
instance : VS (Bo P .sub t cx cy (.int .i64 a) (.int .i64 b)) w (InR (a - b)) (.int .i64 (a - b)) := VS.of fun h => by rw [bo_int, binOp_sub]; simp only [Op.intArith, Sem.run_pure, wrap64 h]
instance : VS (Bo P .mul t cx cy (.int .i64 a) (.int .i64 b)) w (InR (a * b)) (.int .i64 (a * b)) := VS.of fun h => by rw [bo_int, binOp_mul]; simp only [Op.intArith, Sem.run_pure, wrap64 h]
end
section
variable {t : TypeId} {cx cy : Bool} {a b : UInt8}
theorem byte_inj : ((a.toNat : Int) = (b.toNat : Int)) ↔ a = b := ⟨fun h => UInt8.toNat_inj.1 (by omega), fun h => by rw [h]⟩
instance (priority := high) : VT (Bo P .eql t cx cy (byteV a) (byteV b)) w (.bool (decide (a = b))) := VT.of (by rw [bo_int, binOp_eql]; simp only [Sem.run_pure]; congr 2; rw [Bool.eq_iff_iff]; simp [byte_inj])
instance (priority := high) : VT (Bo P .neq t cx cy (byteV a) (byteV b)) w (.bool (!decide (a = b))) := VT.of (by rw [bo_int, binOp_neq]; simp only [Sem.run_pure]; congr 2; rw [Bool.eq_iff_iff]; simp [byte_inj])
instance (priority := high) : VT (Bo P .lss t cx cy (byteV a) (byteV b)) w (.bool (decide (a < b))) := VT.of (by rw [bo_int, binOp_lss]; simp only [Sem.run_pure]; congr 2; rw [Bool.eq_iff_iff]; simp [UInt8.lt_iff_toNat_lt])
instance (priority := high) : VT (Bo P .leq t cx cy (byteV a) (byteV b)) w (.bool (decide (a ≤ b))) := VT.of (by rw [bo_int, binOp_leq]; simp only [Sem.run_pure]; congr 2; rw [Bool.eq_iff_iff]; simp [UInt8.le_iff_toNat_le])
instance (priority := high) : VT (Bo P .gtr t cx cy (byteV a) (byteV b)) w (.bool (decide (b < a))) := VT.of (by rw [bo_int, binOp_gtr]; simp only [Sem.run_pure]; congr 2; rw [Bool.eq_iff_iff]; simp [UInt8.lt_iff_toNat_lt])
instance (priority := high) : VT (Bo P .geq t cx cy (byteV a) (byteV b)) w (.bool (decide (b ≤ a))) := VT.of (by rw [bo_int, binOp_geq]; simp only [Sem.run_pure]; congr 2; rw [Bool.eq_iff_iff]; simp [UInt8.le_iff_toNat_le])
instance (priority := high) : VT (Bo P .add t cx cy (byteV a) (byteV b)) w (byteV (a + b)) := VT.of (by rw [bo_int, binOp_add]; simp only [Op.intArith, Sem.run_pure, IntKind.wrap_u8]; first | (congr 2; done) | (congr 2; simp [UInt8.toNat_add]))
instance (priority := high) : VT (Bo P .sub t cx cy (byteV a) (byteV b)) w (byteV (a - b)) := VT.of (by
  rw [bo_int, binOp_sub]; simp only [Op.intArith, Sem.run_pure, IntKind.wrap_u8]; congr 2
  have := a.toNat_lt; have := b.toNat_lt
  rw [UInt8.toNat_sub]; omega)
end
section
variable {t : TypeId} {cx cy : Bool} {a b : List UInt8}
instance : VT (Bo P .eql t cx cy (str a) (str b)) w (.bool (decide (a = b))) := VT.of (by rw [bo_str, binOp_string_eql, ByteArray.toList_eq, ByteArray.toList_eq]; simp only [Sem.run_pure, beq_dec])
instance : VT (Bo P .neq t cx cy (str a) (str b)) w (.bool (!decide (a = b))) := VT.of (by rw [bo_str, binOp_string_neq, ByteArray.toList_eq, ByteArray.toList_eq]; simp only [Sem.run_pure, beq_dec])
instance : VS (Bo P .add t cx cy (str a) (str b)) w ((a.length : Int) + (b.length : Int) ≤ 9223372036854775807) (str (a ++ b)) := VS.of fun h => by
  have h' : ((ByteArray.mk a.toArray).size : Int) + ((ByteArray.mk b.toArray).size : Int) ≤ 9223372036854775807 := h
  rw [bo_str, binOp_string_add]; simp [Op.stringOp, h', str_add]
end
instance {b : Bool} {x y : Value} : VT (Pk P (.bool b) x y) w (if b then x else y) := ⟨fun k => ⟨by simp only [asBool, Sem.run_bind, Sem.run_pure, Result.andThen_ok]; exact k⟩⟩
instance (priority := high) {b x : Bool} : VT (Pk P (.bool b) (.bool x) (.bool false)) w (.bool (b && x)) := ⟨fun k => ⟨by cases b <;> exact k⟩⟩
instance (priority := high) {x y : Value} : VT (Pk P (.bool true) x y) w x := ⟨fun k => ⟨k⟩⟩
instance (priority := high) {x y : Value} : VT (Pk P (.bool false) x y) w y := ⟨fun k => ⟨k⟩⟩
class TyU (P : Program) (t : TypeId) (d : outParam TypeDesc) : Prop where eq : P.underlying t = some d
class TyAgg (P : Program) (t : TypeId) (b : outParam Bool) : Prop where run : ∀ w, (isAgg t).run P w = .ok b w
class TySize (P : Program) (t : TypeId) (n : outParam Nat) : Prop where run : ∀ w, (sizeOf t).run P w = .ok n w
class TyZ (P : Program) (t : TypeId) (cs : outParam (List Value)) : Prop where run : ∀ w, ∃ z, (zeroValue t).run P w = .ok z w ∧ z.cells = cs.toArray
class TySl (P : Program) (t : TypeId) (e size : outParam Nat) : Prop where
  info : ∃ i z, P.underlying t = some (.slice e) ∧ P.info? e = some i ∧ i.zero = some z ∧ i.size = size ∧ z.cells.size = size ∧ 0 < size ∧ i.bytes ≤ 1024
class TyFld (P : Program) (t f : Nat) (off : outParam Nat) : Prop where
  run : ∀ a w, (Instr.fieldAt t (.pointer (some a)) f).run P w = .ok (.pointer (some (a.add off))) w
class EqV (P : Program) (d t : Nat) (x y : Value) (b : outParam Bool) : Prop where run : ∀ w, (Op.equalIn d t x y).run P w = .ok b w
instance {d t : Nat} {a b : Bool} [u : TyU P t .bool] : EqV P (d + 1) t (.bool a) (.bool b) (a == b) := ⟨fun w => run_equalIn_bool' w d t a b u.eq⟩
class Nth {α : Type} (l : List α) (i : Nat) (x : outParam α) : Prop where eq : l[i]? = some x
instance {α : Type} {l : List α} {x : α} : Nth (x :: l) 0 x := ⟨rfl⟩
instance {α : Type} {l : List α} {x y : α} {i : Nat} [h : Nth l i x] : Nth (y :: l) (i + 1) x := ⟨by simpa using h.eq⟩
end
section
variable {P : Program} {w : World} {t : TypeId} {cx cy : Bool}
instance {d : Nat} {e : TypeId} {b : Option Addr} [u : TyU P t (.pointer e)] : EqV P (d + 1) t (.pointer none) (.pointer b) b.isNone := ⟨fun w => by simp [Op.equalIn, run_underlying u.eq]⟩
instance {d : Nat} {e : TypeId} {a : Addr} [u : TyU P t (.pointer e)] : EqV P (d + 1) t (.pointer (some a)) (.pointer none) false := ⟨fun w => by simp [Op.equalIn, run_underlying u.eq]⟩
theorem eql_of {x y : Value} {b : Bool} (h : EqV P 10000 t x y b) (he : binS .eql t cx cy x y = (do pure (.bool (← Op.equal t x y)))) : VT (Bo P .eql t cx cy x y) w (.bool b) := VT.of (by
  rw [he]; simp only [Op.equal, Op.maxDepth, Sem.run_bind, h.run, Result.andThen_ok, Sem.run_pure])
theorem neq_of {x y : Value} {b : Bool} (h : EqV P 10000 t x y b) (he : binS .neq t cx cy x y = (do pure (.bool (!(← Op.equal t x y))))) : VT (Bo P .neq t cx cy x y) w (.bool !b) := VT.of (by
  rw [he]; simp only [Op.equal, Op.maxDepth, Sem.run_bind, h.run, Result.andThen_ok, Sem.run_pure])
instance {x y : Option Addr} {b : Bool} [h : EqV P 10000 t (.pointer x) (.pointer y) b] : VT (Bo P .eql t cx cy (.pointer x) (.pointer y)) w (.bool b) := eql_of h rfl
instance {x y : Option Addr} {b : Bool} [h : EqV P 10000 t (.pointer x) (.pointer y) b] : VT (Bo P .neq t cx cy (.pointer x) (.pointer y)) w (.bool !b) := neq_of h rfl
instance {x y b : Bool} [h : EqV P 10000 t (.bool x) (.bool y) b] : VT (Bo P .eql t cx cy (.bool x) (.bool y)) w (.bool b) := eql_of h rfl
instance {x y b : Bool} [h : EqV P 10000 t (.bool x) (.bool y) b] : VT (Bo P .neq t cx cy (.bool x) (.bool y)) w (.bool !b) := neq_of h rfl
end
theorem addr_add (b o n : Nat) : (⟨b, o, none⟩ : Addr).add n = ⟨b, o + n, none⟩ := by unfold Addr.add; split <;> simp_all
class AddA (a : Addr) (n : Nat) (r : outParam Addr) : Prop where eq : a.add n = r
instance (priority := high) {b n : Nat} : AddA ⟨b, 0, none⟩ n ⟨b, n, none⟩ := ⟨by rw [addr_add, Nat.zero_add]⟩
instance {b o n : Nat} : AddA ⟨b, o, none⟩ n ⟨b, o + n, none⟩ := ⟨addr_add _ _ _⟩
instance (priority := low) {a : Addr} {n : Nat} : AddA a n (a.add n) := ⟨rfl⟩
class BoxIn (H : List SL) (b : Nat) (t : outParam TypeId) (cs : outParam (List Value)) (R : outParam (List SL)) : Prop where perm : ∀ {S w}, sep H S w ↔ sep (box b t cs :: R) S w
instance (priority := high) {b t : Nat} {cs : List Value} {H : List SL} : BoxIn (box b t cs :: H) b t cs H := ⟨Iff.rfl⟩
instance {A : SL} {b t : Nat} {cs : List Value} {H R : List SL} [h : BoxIn H b t cs R] : BoxIn (A :: H) b t cs (A :: R) :=
  ⟨⟨fun x => sep_swap (sep_cons h.perm.1 x), fun x => sep_cons h.perm.2 (sep_swap x)⟩⟩
class El (w : World) (a : Addr) (cs : outParam (List Value)) : Prop where at_ : ∀ j u, cs[j]? = some u → w.cell? (a.add j) = some u
class DropL {α : Type} (l : List α) (i : Nat) (r : outParam (List α)) : Prop where eq : l.drop i = r
instance {α : Type} {l : List α} : DropL l 0 l := ⟨rfl⟩
instance {α : Type} {l r : List α} {x : α} {i : Nat} [h : DropL l i r] : DropL (x :: l) (i + 1) r := ⟨by simpa using h.eq⟩
instance {w w0 : World} {H R : List SL} {b o t : Nat} {cs r : List Value} [h : Hv w0 H w] [i : BoxIn H b t cs R] [d : DropL cs o r] : El w ⟨b, o, none⟩ r := ⟨fun j u hu => by
  have h1 := Hv.perm i.perm.1 h
  obtain ⟨S, _, _, hb⟩ := h1.ok
  rw [addr_add, cell_of_row w b (o + j) _ t (0, 0) hb]
  rw [← d.eq, List.getElem?_drop] at hu
  simpa using hu⟩
instance {w : World} {a : Addr} {k : Nat} {cs r : List Value} [h : El w a cs] [d : DropL cs k r] : El w (a.add k) r := ⟨fun j u hu => by
  rw [← d.eq, List.getElem?_drop] at hu
  have := h.at_ _ _ hu
  rw [← this]
  congr 1
  unfold Addr.add
  split <;> split <;> split <;> simp_all <;> omega⟩
class TakeL {α : Type} (l : List α) (n : Nat) (r : outParam (List α)) : Prop where eq : l.take n = r ∧ r.length = n
instance {α : Type} {l : List α} : TakeL l 0 [] := ⟨by simp⟩
instance {α : Type} {l r : List α} {x : α} {n : Nat} [h : TakeL l n r] : TakeL (x :: l) (n + 1) (x :: r) := ⟨by have := h.eq; simp [this]⟩
section
variable {P : Program} {w : World}
instance {t : TypeId} {a : Addr} {v : Value} {cs : List Value} [g : TyAgg P t false] [h : El w a (v :: cs)] : VT (Ld P t (.pointer (some a))) w v := VT.of (by
  have := h.at_ 0 v rfl
  simp only [Instr.loadAt, Instr.sureAddr, loadVar, Sem.run_bind, Sem.run_pure, Result.andThen_ok, g.run]
  simp only [Addr.add, if_true] at this
  simp [run_load, this])
instance {t n : TypeId} {a : Addr} {cs r : List Value} [g : TyAgg P t true] [z : TySize P t n] [h : El w a cs] [k : TakeL cs n r] : VT (Ld P t (.pointer (some a))) w (.agg r.toArray) := VT.of (by
  have hl := run_loadCells_list (P := P) (w := w) a r (fun j u hu => by
    rw [← k.eq.1] at hu
    rw [List.getElem?_take] at hu
    split at hu
    · exact h.at_ j u hu
    · cases hu)
  rw [k.eq.2] at hl
  simp [Instr.loadAt, Instr.sureAddr, loadVar, Sem.run_bind, g.run, z.run, hl])
theorem ld_run {t : TypeId} {a w v} [h : VT (Ld P t a) w v] : (Instr.loadAt t a).run P w = .ok v w := by
  have h1 := h.prf (K := fun v' s' => v' = v ∧ s' = ⟨w, []⟩) (ds := []) ⟨rfl, rfl⟩
  have h2 := h1.out
  simp only [Sem.run_bind] at h2
  cases hr : (Instr.loadAt t a).run P w with
  | halt x w' => rw [hr] at h2; exact h2.elim
  | ok x w' =>
    rw [hr] at h2
    obtain ⟨rfl, h3⟩ := (h2 : x = v ∧ (⟨w', []⟩ : St) = ⟨w, []⟩)
    cases h3; rfl
instance {t : TypeId} {a : Addr} {v : Value} {k : Value → Prop} [h : VT (Ld P t (.pointer (some a))) w v] : Step (LdR P t (.pointer (some a)) w k) (k v) := ⟨fun hk => ⟨v, ld_run (h := h), hk⟩⟩
instance {t f off : Nat} {a r : Addr} [i : TyFld P t f off] [g : AddA a off r] : VT (Fa P t (.pointer (some a)) f) w (.pointer (some r)) := VT.of (by rw [i.run, g.eq])
instance {a : Addr} : VT (Nc P (.pointer (some a))) w (.pointer (some a)) := ⟨fun k => ⟨k⟩⟩
end
class One (w : World) (v : Value) : Prop where eq : v.oneCell' = true
instance {w : World} {k : IntKind} {a : Int} : One w (.int k a) := ⟨rfl⟩
instance {w : World} {b : Bool} : One w (.bool b) := ⟨rfl⟩
instance {w : World} {s : ByteArray} : One w (.string s) := ⟨rfl⟩
instance {w : World} {a : Option Addr} : One w (.pointer a) := ⟨rfl⟩
instance {w : World} {a : Option Addr} {n c : Nat} : One w (.slice a n c) := ⟨rfl⟩
instance {w : World} {r : Option Nat} : One w (.map r) := ⟨rfl⟩
instance {w : World} {f : Fn} {a b : Array Value} : One w (.func f a b) := ⟨rfl⟩
theorem one_cells {v : Value} (h : v.oneCell' = true) : v.cells = #[v] := by cases v <;> simp_all [Value.oneCell', Value.cells]
class Ones (w : World) (l : List Value) : Prop where eq : ∀ v ∈ l, v.oneCell' = true
instance {w : World} : Ones w [] := ⟨fun _ h => by simp at h⟩
instance {w : World} {x : Value} {l : List Value} [h : One w x] [k : Ones w l] : Ones w (x :: l) := ⟨fun v hv => by
  cases hv with
  | head => exact h.eq
  | tail _ hv => exact k.eq v hv⟩
class Cells (w : World) (v : Value) (cs : outParam (List Value)) : Prop where
  eq : v.cells = cs.toArray
  one : ∀ v ∈ cs, v.oneCell' = true
instance (priority := high) {w : World} {l : List Value} [h : Ones w l] : Cells w (.agg l.toArray) l := ⟨rfl, h.eq⟩
instance {w : World} {v : Value} [h : One w v] : Cells w v [v] := ⟨one_cells h.eq, fun u hu => by simp at hu; subst hu; exact h.eq⟩
class Len {α : Type} (l : List α) (n : outParam Nat) : Prop where eq : l.length = n
instance {α : Type} : Len ([] : List α) 0 := ⟨rfl⟩
instance {α : Type} {x : α} {l : List α} {n : Nat} [h : Len l n] : Len (x :: l) (n + 1) := ⟨by simp [h.eq]⟩
class PutL (cs : List Value) (o : Nat) (vs : List Value) (r : outParam (List Value)) : Prop where eq : cs.take o ++ vs ++ cs.drop (o + vs.length) = r ∧ o + vs.length ≤ cs.length
instance {cs : List Value} : PutL cs 0 [] cs := ⟨by simp⟩
instance {x v : Value} {cs vs r : List Value} [h : PutL cs 0 vs r] : PutL (x :: cs) 0 (v :: vs) (v :: r) := ⟨by have := h.eq; simp at this ⊢; exact this⟩
instance {x : Value} {o : Nat} {cs vs r : List Value} [h : PutL cs o vs r] : PutL (x :: cs) (o + 1) vs (x :: r) := ⟨by
  have := h.eq; rw [show o + 1 + vs.length = (o + vs.length) + 1 by omega]; simp at this ⊢; exact this⟩
theorem fold_put (vs : List Value) : ∀ (k o : Nat) (cs : List Value), o + k + vs.length ≤ cs.length →
    ((vs.zipIdx k).foldl (fun (cs : Array Value) p => cs.setIfInBounds (o + p.2) p.1) cs.toArray) = (cs.take (o + k) ++ vs ++ cs.drop (o + k + vs.length)).toArray := by
  induction vs with
  | nil => intro k o cs _; simp
  | cons v vs ih =>
    intro k o cs h
    simp only [List.length_cons] at h
    simp only [List.zipIdx_cons, List.foldl_cons, List.setIfInBounds_toArray]
    rw [ih (k + 1) o (cs.set (o + k) v) (by rw [List.length_set]; omega)]
    congr 1
    have e := list_seg_step cs (o + k) v vs (by omega)
    simpa [Nat.add_assoc] using e
class FillL (pl : List (Nat × Nat)) (cs : List Value) (ps : List (Nat × Value)) (w : World) (r : outParam (List Value)) : Prop where
  eq : Instr.fill (pl.toArray[·]?) cs.toArray ps = some r.toArray
instance {pl : List (Nat × Nat)} {cs : List Value} {w : World} : FillL pl cs [] w cs := ⟨rfl⟩
instance {pl : List (Nat × Nat)} {cs vs c1 r : List Value} {ps : List (Nat × Value)} {w : World} {i o n : Nat} {v : Value} [h1 : Nth pl i (o, n)] [h2 : Cells w v vs] [h3 : Len vs n] [h4 : PutL cs o vs c1] [h5 : FillL pl c1 ps w r] :
    FillL pl cs ((i, v) :: ps) w r := ⟨by
  have e1 : pl.toArray[i]? = some (o, n) := by simpa using h1.eq
  simp only [Instr.fill, e1, h2.eq, List.size_toArray, h3.eq]
  have hb := h4.eq.2
  rw [h3.eq] at hb
  rw [if_neg (by simp; omega)]
  have hf := fold_put vs 0 o cs (by simpa using h4.eq.2)
  rw [Nat.add_zero, h4.eq.1] at hf
  have hz : vs.toArray.zipIdx = (vs.zipIdx 0).toArray := by simp
  rw [hz, List.foldl_toArray]
  rw [hf]
  exact h5.eq⟩
class TyB (P : Program) (t : TypeId) (zs : outParam (List Value)) (pl : outParam (List (Nat × Nat))) : Prop where
  eq : ∀ ps, P.built t ps = Instr.fill (pl.toArray[·]?) zs.toArray ps
section
variable {P : Program} {w w0 : World} {H R : List SL} {ds : List Deferred}
instance {t : TypeId} {zs r : List Value} {pl : List (Nat × Nat)} {ps : List (Nat × Value)} [h : TyB P t zs pl] [f : FillL pl zs ps w r] : VT (Bd P t ps.toArray) w (.agg r.toArray) := VT.of (run_build w t _ _ (by rw [h.eq]; exact f.eq))
theorem box_new (w : World) (t : TypeId) (cs : List Value) : ∃ S', sep [box w.heap.size t cs] S' (w.alloc (.cells cs.toArray t)) ∧ ∀ b, S' b → w.heap.size ≤ b :=
  ⟨fun b => b = w.heap.size, ⟨fun b => b = w.heap.size, emp, fun b => ⟨.inl, fun h => h.elim id fun h => h.elim⟩, fun b _ h => h, ⟨fun k => Iff.rfl, heap_alloc_new w _⟩, fun b h => h⟩, fun b h => by omega⟩
theorem Hv.box (h : Hv w0 H w) (t : TypeId) (cs : List Value) : Hv w0 (box w.heap.size t cs :: H) (w.alloc (.cells cs.toArray t)) := h.new (B := [Vx.box w.heap.size t cs]) (box_new w t cs) (Kept.alloc _ _ _)
instance {t : TypeId} {v : Value} {cs : List Value} {K : Value → St → Prop} [o : Hv w0 H w] [c : Cells w v cs] : Step (Bx P t v K ⟨w, ds⟩) (∀ b w', Hv w0 (box b t cs :: H) w' → K (.pointer (some ⟨b, 0, none⟩)) ⟨w', ds⟩) :=
  ⟨fun h => vl_ok (w' := w.alloc (.cells cs.toArray t)) (by simp [Instr.box, newVar, newRow, c.eq]) (h _ _ (o.box t cs))⟩
instance {t : TypeId} {zs : List Value} {K : Value → St → Prop} [o : Hv w0 H w] [z : TyZ P t zs] : Step (Al P t K ⟨w, ds⟩) (∀ b w', Hv w0 (box b t zs :: H) w' → K (.pointer (some ⟨b, 0, none⟩)) ⟨w', ds⟩) :=
  ⟨fun h => by
    obtain ⟨z, hz, hc⟩ := z.run w
    exact vl_ok (w' := w.alloc (.cells zs.toArray t)) (by simp [Instr.alloc, Sem.run_bind, hz, newVar, newRow, hc]) (h _ _ (o.box t zs))⟩
theorem Hv.stored {b t : Nat} {cs r : List Value} (h : Hv w0 (Vx.box b t cs :: R) w) : Hv w0 (Vx.box b t r :: R) (w.setRow b r.toArray) := by
  refine Hv.step (B := [Vx.box b t r]) h fun S hS hb => ⟨S, ⟨S, emp, fun b => ⟨.inl, fun h => h.elim id fun h => h.elim⟩, fun b _ h => h, ⟨hb.1, setRow_heap w b _ _ t _ hb.2⟩, fun b h => h⟩, fun b h => .inl h, ?_⟩
  exact ⟨rfl, rfl, rfl, by simp [World.setRow], fun k hk hs => setRow_other w b k _ fun e => hs ((hb.1 k).2 e)⟩
instance {t n b o t' : Nat} {x : Value} {cs vs r : List Value} {K : Value → St → Prop} [ow : Hv w0 H w] [i : BoxIn H b t' cs R] [c : Cells w x vs] [z : TySize P t n] [l : Len vs n] [p : PutL cs o vs r] :
    Step (Sv P t (.pointer (some ⟨b, o, none⟩)) x K ⟨w, ds⟩) (∀ w', Hv w0 (box b t' r :: R) w' → K undef ⟨w', ds⟩) :=
  ⟨fun h => by
    have h1 := Hv.perm i.perm.1 ow
    obtain ⟨S, _, _, hb⟩ := h1.ok
    have hs := run_storeCells_at P b o t' vs 0 cs.toArray w hb (by simpa using p.eq.2) c.one
    simp only [Nat.add_zero, p.eq.1] at hs
    refine ut_ok (w' := w.setRow b r.toArray) ?_ (h _ h1.stored)
    simp [Instr.storeAt, Instr.sureAddr, storeVar, Sem.run_bind, z.run, c.eq, l.eq, hs]⟩
end
end Go.Vx

namespace Go.Vx
open Go.RowKit
class Rds (w : World) (v : Value) (size n : outParam Nat) (xs : outParam (List Value)) : Prop where
  len : xs.length = n * size
  one : ∀ u ∈ xs, u.oneCell' = true
  le : n ≤ maxLen
  ex : ∃ base cap, v = .slice base n cap ∧ (base = none → cap = 0) ∧ n ≤ cap ∧ ∀ j u, xs[j]? = some u → ∃ a, base = some a ∧ w.cell? (a.add j) = some u
class RowIn (H : List SL) (v : Value) (e size n : outParam Nat) (xs : outParam (List Value)) (R : outParam (List SL)) : Prop where perm : ∀ {S w}, sep H S w → sep (row e size v n xs :: R) S w
instance (priority := high) {e size n : Nat} {v : Value} {xs : List Value} {H : List SL} : RowIn (row e size v n xs :: H) v e size n xs H := ⟨id⟩
instance {A : SL} {e size n : Nat} {v : Value} {xs : List Value} {H R : List SL} [h : RowIn H v e size n xs R] : RowIn (A :: H) v e size n xs (A :: R) :=
  ⟨fun x => sep_swap (sep_cons h.perm x)⟩
theorem rds_row {w : World} {e size n : Nat} {v : Value} {xs : List Value} (h : w.ownsRow 0 e size v n xs) (h1 : ∀ u ∈ xs, u.oneCell' = true) : Rds w v size n xs := by
  rcases h.2 with ⟨rfl, rfl⟩ | ⟨g, cap, cur, rfl, _, hg, hnc, hcm, hcs, ht⟩
  · have : xs = [] := List.eq_nil_of_length_eq_zero (by simpa using h.1)
    subst this
    exact ⟨by simp, by simp, by simp, none, 0, rfl, fun _ => rfl, Nat.le_refl _, fun j u hu => by simp at hu⟩
  · exact ⟨h.1, h1, Nat.le_trans hnc hcm, some ⟨g, 0, none⟩, cap, rfl, (fun h => by cases h), hnc, fun j u hu => ⟨_, rfl, h.cells (g := g) rfl j u hu⟩⟩
instance {w w0 : World} {H R : List SL} {e size n : Nat} {v : Value} {xs : List Value} [h : Hv w0 H w] [i : RowIn H v e size n xs R] : Rds w v size n xs := by
  have h1 := Hv.perm i.perm h
  obtain ⟨S, _, _, hr, h2⟩ := h1.ok
  exact rds_row hr h2
class Arg (w0 : World) (v : Value) (size n : outParam Nat) (xs : outParam (List Value)) : Prop where
  len : xs.length = n * size
  one : ∀ u ∈ xs, u.oneCell' = true
  le : n ≤ maxLen
  ex : ∃ base cap, v = .slice base n cap ∧ (base = none → cap = 0) ∧ n ≤ cap ∧ ∀ j u, xs[j]? = some u → ∃ a, base = some a ∧ a.block < w0.heap.size ∧ w0.cell? (a.add j) = some u
theorem add_block (a : Addr) (n : Nat) : (a.add n).block = a.block := by unfold Addr.add; split <;> rfl
instance (priority := low) {w w0 : World} {H : List SL} {size n : Nat} {v : Value} {xs : List Value} [h : Hv w0 H w] [i : Arg w0 v size n xs] : Rds w v size n xs := by
  obtain ⟨base, cap, e, h0, hnc, hx⟩ := i.ex
  refine ⟨i.len, i.one, i.le, base, cap, e, h0, hnc, fun j u hu => ?_⟩
  obtain ⟨a, ha, hb, hc⟩ := hx j u hu
  exact ⟨a, ha, (h.bel.cell (p := a.add j) (by rw [add_block]; exact hb)).trans hc⟩
class SubSl (v : outParam Value) (v' : Value) (size lo m : outParam Nat) : Prop where
  ex : ∀ base n cap, v = .slice base n cap → v' = .slice (if cap = lo then base else base.map (·.add (lo * size))) m (cap - lo) ∧ lo + m ≤ n
theorem addr_add_add (a : Addr) (i j : Nat) : (a.add i).add j = a.add (i + j) := by
  unfold Addr.add; split <;> split <;> split <;> simp_all <;> omega
instance {w : World} {v v' : Value} {size lo m n : Nat} {xs : List Value} [r : Rds w v size n xs] [s : SubSl v v' size lo m] : Rds w v' size m ((xs.drop (lo * size)).take (m * size)) := by
  obtain ⟨base, cap, e, h0, hnc, hx⟩ := r.ex
  obtain ⟨e', hle⟩ := s.ex base n cap e
  have hlen := r.len
  have hmul : lo * size + m * size ≤ n * size := by rw [← Nat.add_mul]; exact Nat.mul_le_mul_right _ (by omega)
  refine ⟨by simp; omega, fun u hu => r.one u (List.mem_of_mem_drop (List.mem_of_mem_take hu)), by have := r.le; omega, _, cap - lo, e', fun hb => ?_, by omega, fun j u hu => ?_⟩
  · by_cases hc : cap = lo
    · omega
    · rw [if_neg hc] at hb
      have := h0 (by simpa using hb)
      omega
  · rw [List.getElem?_take] at hu
    split at hu
    · rename_i hj
      rw [List.getElem?_drop] at hu
      obtain ⟨a, ha, hc⟩ := hx _ _ hu
      have hpos : 0 < m := by
        rcases Nat.eq_zero_or_pos m with h | h
        · subst h; simp at hj
        · exact h
      rw [if_neg (by omega), ha]
      exact ⟨_, rfl, by rw [addr_add_add]; exact hc⟩
    · cases hu
instance (priority := low) {w : World} {v : Value} {size n : Nat} {xs : List Value} [r : Rds w v size n xs] : One w v := ⟨by obtain ⟨base, cap, rfl, _⟩ := r.ex; rfl⟩
class RdsF (w0 : World) (H : List SL) (v : Value) (size n : outParam Nat) (xs : outParam (List Value)) : Prop where rd : ∀ w, Hv w0 H w → Rds w v size n xs
class RdsL (w0 : World) (H : outParam (List SL)) (v : Value) (size n : outParam Nat) (xs : outParam (List Value)) : Prop where rd : ∀ w, Hv w0 H w → Rds w v size n xs
theorem RdsF.loc {w0 : World} {H : List SL} {v : Value} {size n : Nat} {xs : List Value} (h : RdsF w0 H v size n xs) : RdsL w0 H v size n xs := ⟨h.rd⟩
instance (priority := low) {w w0 : World} {H H' : List SL} {v : Value} {size n : Nat} {xs : List Value} [o : Hv w0 H' w] [r : RdsL w0 H v size n xs] [d : DropTo H' H] : Rds w v size n xs := r.rd w (Hv.drop o)
instance {w0 : World} {H : List SL} {v : Value} {size n : Nat} {xs : List Value} [i : Arg w0 v size n xs] : RdsF w0 H v size n xs := ⟨fun w h => by infer_instance⟩
instance {w0 : World} {H R : List SL} {e size n : Nat} {v : Value} {xs : List Value} [i : RowIn H v e size n xs R] : RdsF w0 H v size n xs := ⟨fun w h => by infer_instance⟩
class SubX (xs : List Value) (size i n : Nat) (cs : outParam (List Value)) : Prop where
  eq : xs.length = n * size → i < n → ∀ j u, cs[j]? = some u → xs[i * size + j]? = some u
class UEnc {α : Type} (enc : α → List Value) (size : outParam Nat) : Prop where eq : ∀ x, (enc x).length = size
theorem flatMap_at {α : Type} {enc : α → List Value} {size : Nat} (he : ∀ x, (enc x).length = size) : ∀ (ys : List α) (i : Nat) (y : α), ys[i]? = some y → ∀ j u, (enc y)[j]? = some u → (ys.flatMap enc)[i * size + j]? = some u := by
  intro ys
  induction ys with
  | nil => intro i y h; simp at h
  | cons x ys ih =>
    intro i y h j u hu
    have hj : j < (enc y).length := (List.getElem?_eq_some_iff.1 hu).1
    rw [he y] at hj
    cases i with
    | zero =>
      simp only [List.getElem?_cons_zero, Option.some.injEq] at h
      subst h
      rw [List.flatMap_cons, List.getElem?_append_left (by rw [he]; omega)]
      simpa using hu
    | succ i =>
      rw [List.flatMap_cons, List.getElem?_append_right (by rw [he, Nat.add_mul]; omega), he]
      rw [show (i + 1) * size + j - size = i * size + j by rw [Nat.add_mul]; omega]
      exact ih i y (by simpa using h) j u hu
theorem flatMap_len {α : Type} {enc : α → List Value} {size : Nat} (he : ∀ x, (enc x).length = size) (ys : List α) : (ys.flatMap enc).length = ys.length * size := by
  induction ys with
  | nil => simp
  | cons x ys ih => rw [List.flatMap_cons, List.length_append, he, ih, List.length_cons, Nat.add_mul]; omega
theorem getD_at {α : Type} [Inhabited α] {ys : List α} {i : Nat} (h : i < ys.length) : ys[i]? = some (ys.getD i default) := by simp [h]
instance {α : Type} [Inhabited α] {enc : α → List Value} {size i n : Nat} {ys : List α} [u : UEnc enc size] : SubX (ys.flatMap enc) size i n (enc (ys.getD i default)) := ⟨fun hl hi j x hx => by
  refine flatMap_at u.eq ys i _ (getD_at ?_) j x hx
  rw [flatMap_len u.eq] at hl
  have h2 : 0 < size := by
    have := (List.getElem?_eq_some_iff.1 hx).1
    rw [u.eq] at this; omega
  have := Nat.eq_of_mul_eq_mul_right h2 hl
  omega⟩
instance {α : Type} [Inhabited α] {f : α → Value} {i n : Nat} {ys : List α} : SubX (ys.map f) 1 i n [f (ys.getD i default)] := ⟨fun hl hi j x hx => by
  simp only [List.length_map, Nat.mul_one] at hl
  cases j with
  | zero =>
    simp only [List.getElem?_cons_zero, Option.some.injEq] at hx
    subst hx
    rw [Nat.mul_one, Nat.add_zero, List.getElem?_map, getD_at (by omega)]
    rfl
  | succ j => simp at hx⟩
class ToN (z : Int) (i : outParam Nat) : Prop where eq : 0 ≤ z → z.toNat = i
instance {i : Nat} : ToN (i : Int) i := ⟨fun _ => by simp⟩
instance (priority := high) : ToN (0 : Int) 0 := ⟨fun _ => rfl⟩
instance (priority := high) : ToN (1 : Int) 1 := ⟨fun _ => rfl⟩
instance (priority := high) : ToN (2 : Int) 2 := ⟨fun _ => rfl⟩
instance (priority := high) : ToN (16 : Int) 16 := ⟨fun _ => rfl⟩
instance (priority := low) {z : Int} : ToN z z.toNat := ⟨fun _ => rfl⟩
section
variable {P : Program} {w w0 : World} {H R : List SL} {ds : List Deferred}
theorem bi_ok {b : Builtin} {tys : Array TypeId} {ty : TypeId} {cs : Array Bool} {args : Array Value} {m : Sem Value} {v : Value} {w' : World} {K : Value → St → Prop} (hb : builtin b tys ty cs args = (do pure (.value (← m)))) (h : m.run P w = .ok v w') (k : K v ⟨w', ds⟩) : Bi P b tys ty cs args K ⟨w, ds⟩ :=
  ⟨by rw [hb]; simp only [Sem.run_bind, h, Result.andThen_ok, Sem.run_pure]; exact k⟩
theorem el_slice {t e : TypeId} (hu : P.underlying t = some (.slice e)) : P.underlying t = some (.slice (P.elem t)) := by
  have : P.elem t = e := by simp [Program.elem, hu]
  rw [this]; exact hu
instance {t ty e s size n : Nat} {cs : Array Bool} {v : Value} {xs : List Value} [u : TySl P t e s] [r : Rds w v size n xs] : VT (Bi P .len #[t] ty cs #[v]) w (.int .i64 n) := ⟨fun k => by
  obtain ⟨base, cap, rfl, _⟩ := r.ex
  obtain ⟨i, z, hu, _⟩ := u.info
  exact bi_ok (m := Builtin.len_ #[t] ty #[.slice base n cap]) rfl (run_len_slice w t ty base n cap (el_slice hu)) k⟩
instance {t ty : Nat} {cs : Array Bool} {l : List UInt8} [u : TyU P t .string] : VT (Bi P .len #[t] ty cs #[str l]) w (.int .i64 l.length) := ⟨fun k =>
  bi_ok (m := Builtin.len_ #[t] ty #[str l]) rfl (run_len_string w t ty _ u.eq) k⟩
class IxA (v : outParam Value) (i s : outParam Nat) (a : Addr) : Prop where ex : ∃ base n cap, v = .slice (some base) n cap ∧ i < n ∧ a = base.add (i * s)
instance (priority := low) {a : Addr} {v : Value} {i s n : Nat} {xs cs : List Value} [x : IxA v i s a] [r : Rds w v s n xs] [c : SubX xs s i n cs] : El w a cs := ⟨fun j u hj => by
  obtain ⟨base, n', cap, hv, hi, rfl⟩ := x.ex
  obtain ⟨base', cap', hv', _, _, hx⟩ := r.ex
  rw [hv] at hv'
  simp only [Value.slice.injEq] at hv'
  obtain ⟨rfl, rfl, rfl⟩ := hv'
  obtain ⟨a', ha', hc⟩ := hx _ _ (c.eq r.len hi j u hj)
  simp only [Option.some.injEq] at ha'
  subst ha'
  rw [addr_add_add]; exact hc⟩
theorem ia_run {t e s n i : Nat} {v : Value} {k : IntKind} {z : Int} {xs : List Value} (u : TySl P t e s) (r : Rds w v s n xs) (zn : ToN z i) (h : 0 ≤ z ∧ z < n) : ∃ a, (Instr.indexAt t v (.int k z)).run P w = .ok (.pointer (some a)) w ∧ IxA v i s a := by
  obtain ⟨h1, h2⟩ := h
  have hz := zn.eq h1
  have hlt : i < n := by omega
  obtain ⟨base, cap, rfl, _, _, hx⟩ := r.ex
  obtain ⟨inf, zv, hu, hi, _, hs, _, hpos, _⟩ := u.info
  have hl := r.len
  have hmul : i * s + s ≤ n * s := by
    have := Nat.mul_le_mul_right s (show i + 1 ≤ n by omega)
    rw [Nat.add_mul] at this; omega
  obtain ⟨u0, hu0⟩ : ∃ u, xs[i * s]? = some u := ⟨xs[i * s]'(by omega), List.getElem?_eq_getElem (by omega)⟩
  obtain ⟨a, rfl, _⟩ := hx _ _ hu0
  refine ⟨a.add (i * s), ?_, _, _, _, rfl, hlt, rfl⟩
  have hsz : (sizeOf e).run P w = .ok s w := by simp [sizeOf, typeInfo, hi, hs]
  simp [Instr.indexAt, asIntOf, Sem.run_bind, run_underlying hu, h1, h2, hsz, hz]
instance {t e s n i : Nat} {v : Value} {k : IntKind} {z : Int} {xs : List Value} {K : Value → St → Prop} [u : TySl P t e s] [r : Rds w v s n xs] [zn : ToN z i] :
    Step (Ia P t v (.int k z) K ⟨w, ds⟩) ((0 ≤ z ∧ z < n) ∧ ∀ a, IxA v i s a → K (.pointer (some a)) ⟨w, ds⟩) := ⟨fun h => by
  obtain ⟨a, h1, h2⟩ := ia_run (k := k) u r zn h.1
  exact vl_ok h1 (h.2 a h2)⟩
instance {t e s n i : Nat} {v : Value} {k : IntKind} {z : Int} {xs : List Value} {K : Value → Prop} [u : TySl P t e s] [r : Rds w v s n xs] [zn : ToN z i] :
    Step (Qt (Ia P t v (.int k z)) ⟨w, ds⟩ K) ((0 ≤ z ∧ z < n) ∧ ∀ a, IxA v i s a → K (.pointer (some a))) := ⟨fun h => by
  obtain ⟨a, h1, h2⟩ := ia_run (k := k) u r zn h.1
  exact ⟨_, vl_ok h1 ⟨rfl, rfl⟩, h.2 a h2⟩⟩
end
section
variable {P : Program} {w w0 : World} {H R : List SL} {ds : List Deferred}
theorem ownsRow_base {e size n b b' : Nat} {v : Value} {xs : List Value} (h : w.ownsRow b e size v n xs) (hb : ∀ k, v.ownBlock = some k → b' ≤ k) : w.ownsRow b' e size v n xs := by
  refine ⟨h.1, ?_⟩
  rcases h.2 with h2 | ⟨g, cap, cur, rfl, _, r⟩
  · exact .inl h2
  · exact .inr ⟨g, cap, cur, rfl, hb g rfl, r⟩
theorem append_run {t e size n m : Nat} (u : TySl P t e size) {v x : Value} {xs news : List Value} (ty : TypeId) (hv : w.ownsRow 0 e size v n xs) (hx : Rds w x size m news) (hb : n + m ≤ 137438953472) :
    ∃ v' w', (Builtin.append_ #[t, t] ty #[v, x]).run P w = .ok v' w' ∧ w'.ownsRow 0 e size v' (n + m) (xs ++ news) ∧ Kept (fun k => v.ownBlock = some k) w w' ∧ ∀ k, v'.ownBlock = some k → v.ownBlock = some k ∨ w.heap.size ≤ k := by
  obtain ⟨i, z, hu, hi, hz, hs, hzs, hpos, hby⟩ := u.info
  have h63 : n + m ≤ maxLen := by simp only [maxLen]; omega
  have hbytes : (n + m) * i.bytes ≤ 140737488355328 := Nat.le_trans (Nat.mul_le_mul hb hby) (by decide)
  obtain ⟨base, cap, rfl, h0, _, hc⟩ := hx.ex
  cases base with
  | none =>
    have hm : news = [] := by
      cases hn : news with
      | nil => rfl
      | cons a l => obtain ⟨a, ha, _⟩ := hc 0 a (by rw [hn]; rfl); cases ha
    subst hm
    have hl := hx.len
    simp only [List.length_nil] at hl
    have hm0 : m = 0 := by rcases Nat.mul_eq_zero.1 hl.symm with h | h <;> omega
    subst hm0
    rw [h0 rfl]
    exact ⟨_, _, run_append_owned_none (P := P) w 0 t ty e i size hu hi v n xs hv, by simpa using hv, Kept.refl _ _, fun k h => .inl h⟩
  | some a =>
    have hnews : ∀ j u, news[j]? = some u → w.cell? (a.add j) = some u := fun j u hj => by
      obtain ⟨a', ha', h⟩ := hc j u hj
      simp only [Option.some.injEq] at ha'; subst ha'; exact h
    rcases hv.2 with ⟨rfl, rfl⟩ | ⟨g, cp, cur, rfl, _, hg, hnc, hcm, hcs, ht⟩
    · have hv' : w.ownsRow w.heap.size e size (.slice none 0 0) 0 xs := ⟨hv.1, .inl ⟨rfl, rfl⟩⟩
      obtain ⟨v', w', h1, h2, h3, _⟩ := run_append_own (P := P) w w.heap.size t ty e i z size i.bytes hu hi hz hs rfl hzs hpos _ 0 xs hv' a m cap news hx.len hnews hx.one h63 hbytes (Nat.le_refl _)
      exact ⟨v', w', h1, ownsRow_base h2 fun k _ => Nat.zero_le k, Kept.of h3 (fun k hk => hk), fun k hk => .inr (h2.lt k hk).1⟩
    · by_cases hroom : n + m ≤ cp
      · obtain ⟨w', h1, h2, h3⟩ := run_append_fits (P := P) w 0 t ty e i size hu hi hs g n cp xs hv a m cap news hx.len hnews hx.one hroom
        exact ⟨_, w', h1, h2, Kept.of h3 (fun k hk => hk), fun k hk => .inl hk⟩
      · obtain ⟨v', w', h1, h2, h3⟩ := run_append_arg_grows (P := P) w t ty e i z size i.bytes hu hi hz hs rfl hzs hpos ⟨g, 0, none⟩ n cp xs hv.1 (hv.cells (g := g) rfl) a m cap news hx.len hnews (by omega) h63 hbytes
        exact ⟨v', w', h1, ownsRow_base h2 fun k _ => Nat.zero_le k, Kept.of h3 (fun k hk => by cases hk), fun k hk => .inr (h2.lt k hk).1⟩
theorem Hv.rowStep {e size n m : Nat} {v v' : Value} {xs ys : List Value} {w' : World} (h : Hv w0 (row e size v n xs :: R) w) (ho : w'.ownsRow 0 e size v' m ys) (h1 : ∀ u ∈ ys, u.oneCell' = true) (hk : Kept (fun k => v.ownBlock = some k) w w')
    (hs : ∀ k, v'.ownBlock = some k → v.ownBlock = some k ∨ w.heap.size ≤ k) : Hv w0 (row e size v' m ys :: R) w' := by
  refine Hv.step (B := [row e size v' m ys]) h fun S hS hr => ⟨fun k => v'.ownBlock = some k, ⟨fun k => v'.ownBlock = some k, emp, fun b => ⟨.inl, fun h => h.elim id fun h => h.elim⟩, fun b _ h => h, ⟨fun k => Iff.rfl, ho, h1⟩, fun b h => h⟩, fun b hb => (hs b hb).imp (hr.1 b).2 id, ?_⟩
  exact ⟨hk.os, hk.tape, hk.output, hk.size, fun k h1 h2 => hk.block k h1 fun h => h2 ((hr.1 k).2 h)⟩
theorem Hv.rowNew {e size m : Nat} {v' : Value} {ys : List Value} {w' : World} (h : Hv w0 R w) (ho : w'.ownsRow 0 e size v' m ys) (h1 : ∀ u ∈ ys, u.oneCell' = true) (hk : Kept emp w w') (hs : ∀ k, v'.ownBlock = some k → w.heap.size ≤ k) : Hv w0 (row e size v' m ys :: R) w' :=
  Hv.new (B := [row e size v' m ys]) h ⟨fun k => v'.ownBlock = some k, ⟨fun k => v'.ownBlock = some k, emp, fun b => ⟨.inl, fun h => h.elim id fun h => h.elim⟩, fun b _ h => h, ⟨fun k => Iff.rfl, ho, h1⟩, fun b h => h⟩, hs⟩ hk
theorem Hv.nilRow (e size : Nat) (h : Hv w0 R w) : Hv w0 (row e size (.slice none 0 0) 0 [] :: R) w := h.rowNew (World.ownsRow_nil w 0 e size) (by simp) (Kept.refl _ _) fun k hk => by simp [Value.ownBlock] at hk
instance {t ty e size n m : Nat} {cs : Array Bool} {v x : Value} {xs news : List Value} {K : Value → St → Prop} [o : Hv w0 H w] [i : RowIn H v e size n xs R] [r : Rds w x size m news] [u : TySl P t e size] :
    Step (Bi P .append #[t, t] ty cs #[v, x] K ⟨w, ds⟩) (n + m ≤ 137438953472 ∧ ∀ v' w', Hv w0 (row e size v' (n + m) (xs ++ news) :: R) w' → K v' ⟨w', ds⟩) := ⟨fun h => by
  have h1 := Hv.perm i.perm o
  obtain ⟨S, _, _, hr, h2⟩ := h1.ok
  obtain ⟨v', w', g1, g2, g3, g4⟩ := append_run u ty hr r h.1
  exact bi_ok (m := Builtin.append_ #[t, t] ty #[v, x]) rfl g1 (h.2 _ _ (h1.rowStep g2 (fun u hu => (List.mem_append.1 hu).elim (h2 u) (r.one u)) g3 g4))⟩
class AppL {α : Type} (a b : List α) (c : outParam (List α)) : Prop where eq : a ++ b = c
instance {α : Type} {b : List α} : AppL [] b b := ⟨rfl⟩
instance {α : Type} {x : α} {a b c : List α} [h : AppL a b c] : AppL (x :: a) b (x :: c) := ⟨by simp [h.eq]⟩
class RepL (zs : List Value) (n : Nat) (r : outParam (List Value)) : Prop where eq : (List.replicate n zs).flatten = r
instance {zs : List Value} : RepL zs 0 [] := ⟨rfl⟩
instance {zs r c : List Value} {n : Nat} [h : RepL zs n r] [a : AppL zs r c] : RepL zs (n + 1) c := ⟨by rw [List.replicate_succ, List.flatten_cons, h.eq, a.eq]⟩
class PlN (size o n : Nat) (pl : outParam (List (Nat × Nat))) : Prop where eq : ∀ i x, pl[i]? = some x → x = (o + i * size, size)
instance {size o : Nat} : PlN size o 0 [] := ⟨fun i x h => by simp at h⟩
instance {size o n : Nat} {pl : List (Nat × Nat)} [h : PlN size (o + size) n pl] : PlN size o (n + 1) ((o, size) :: pl) := ⟨fun i x hx => by
  cases i with
  | zero => simp at hx; simp [hx]
  | succ i => rw [h.eq i x (by simpa using hx), Nat.add_mul]; congr 1; omega⟩
theorem fill_mono {p q : Nat → Option (Nat × Nat)} (h : ∀ i x, p i = some x → q i = some x) {ps : List (Nat × Value)} : ∀ {cs r : Array Value}, Instr.fill p cs ps = some r → Instr.fill q cs ps = some r := by
  induction ps with
  | nil => exact fun h => h
  | cons a ps ih =>
    obtain ⟨i, v⟩ := a
    intro cs r hf
    simp only [Instr.fill] at hf ⊢
    cases hp : p i with
    | none => simp [hp] at hf
    | some x =>
      obtain ⟨off, size⟩ := x
      simp only [hp] at hf
      simp only [h i _ hp]
      split at hf
      · cases hf
      · rename_i hc; rw [if_neg hc]; exact ih hf
theorem rep_at {size : Nat} (zs : List Value) (hz : zs.length = size) (hp : 0 < size) (n : Nat) : (Array.range (n * size)).map (fun i => zs.toArray[i % zs.toArray.size]!) = (List.replicate n zs).flatten.toArray := by
  apply Array.ext'
  simp only [Array.toList_map, Array.toList_range, List.size_toArray, hz]
  induction n with
  | zero => simp
  | succ n ih =>
    rw [List.replicate_succ', List.flatten_append, Nat.add_mul, Nat.one_mul, List.range_add, List.map_append, ih]
    congr 1
    simp only [List.map_map, List.flatten_cons, List.flatten_nil, List.append_nil]
    apply List.ext_getElem
    · simp [hz]
    · intro i h1 h2
      simp only [List.length_map, List.length_range] at h1
      simp [Nat.add_mod, Nat.mod_eq_of_lt h1, show i < zs.length by omega]
instance {t e size n : Nat} {zs full r : List Value} {pl : List (Nat × Nat)} {ps : List (Nat × Value)} {K : Value → St → Prop} [o : Hv w0 H w] [u : TySl P t e size] [z : TyZ P e zs] [rp : RepL zs n full] [p : PlN size 0 n pl] [f : FillL pl full ps w r] [on : Ones w r] [l : Len r (n * size)] :
    Step (Bs P t n ps.toArray K ⟨w, ds⟩) ((0 < n ∧ n * size ≤ 16777216) ∧ ∀ v w', Hv w0 (row e size v n r :: H) w' → K v ⟨w', ds⟩) := ⟨fun h => by
  obtain ⟨⟨hn, hsz⟩, h⟩ := h
  obtain ⟨i, z0, hu, hi, hz, hs, hzs, hpos, _⟩ := u.info
  obtain ⟨z1, hz1, hzc⟩ := z.run w
  have hz0 : z0 = z1 := by
    have : (zeroValue e).run P w = .ok z0 w := by simp [zeroValue, typeInfo, hi, hz]
    rw [this] at hz1; simpa using hz1
  subst hz0
  have hzl : zs.length = size := by rw [hzc] at hzs; simpa using hzs
  have hrun : (sizeOf e).run P w = .ok size w := by simp [sizeOf, typeInfo, hi, hs]
  have hne : ¬ n * size = 0 := by rw [Nat.mul_eq_zero]; omega
  have hfill : Instr.fill (fun i => some (i * size, size)) (((Array.range (n * size)).map (z0.cells[· % z0.cells.size]!))) ps.toArray.toList = some r.toArray := by
    rw [hzc, rep_at zs hzl hpos n, rp.eq]
    refine fill_mono (fun i x hx => ?_) f.eq
    have := p.eq i x (by simpa using hx)
    rw [this, Nat.zero_add]
  refine vl_ok (w' := w.alloc (.cells r.toArray e)) (v := .slice (some ⟨w.heap.size, 0, none⟩) n n) ?_ (h _ _ (o.rowNew (m := n) ?_ on.eq (Kept.alloc _ _ _) ?_))
  · have hgt : ¬ n * size > 2 ^ 24 := by omega
    simp only [Instr.buildSlice, Sem.run_bind, run_underlying hu, Result.andThen_ok, hrun]
    rw [if_neg hgt, if_neg hne]
    simp only [Sem.run_bind, hz1, Result.andThen_ok, Sem.run_pure, hfill]
    simp [newRow]
  · have := World.ownsRow_lit (base := 0) (e := e) (size := size) w r.toArray n (Nat.zero_le _) (by simp only [maxLen]; have := Nat.le_mul_of_pos_right n hpos; omega) (by simpa using l.eq)
    simpa using this
  · intro k hk
    simp only [Value.ownBlock, Option.some.injEq] at hk
    omega⟩
end
section
variable {P : Program} {w w0 : World} {H R : List SL} {ds : List Deferred}
class OptI (o : Option Value) (d : Nat) (z : outParam Int) : Prop where eq : (o = none ∧ z = d) ∨ ∃ k, o = some (.int k z)
instance {d : Nat} : OptI none d d := ⟨.inl ⟨rfl, rfl⟩⟩
instance {k : IntKind} {z : Int} {d : Nat} : OptI (some (.int k z)) d z := ⟨.inr ⟨k, rfl⟩⟩
theorem sl_run {t e size s n l h : Nat} {v : Value} {xs : List Value} {lo hi : Option Value} {zl zh : Int} (u : TySl P t e s) (r : Rds w v size n xs) (ol : OptI lo 0 zl) (oh : OptI hi n zh) (nl : ToN zl l) (nh : ToN zh h) (hs : TySize P e size) (hb : 0 ≤ zl ∧ zl ≤ zh ∧ zh ≤ n) :
    ∃ v', (Instr.sliceAt t v lo hi none).run P w = .ok v' w ∧ SubSl v v' size l (h - l) := by
  obtain ⟨h1, h2, h3⟩ := hb
  obtain ⟨base, cap, rfl, h0, hnc, hx⟩ := r.ex
  obtain ⟨i, z, hu, hi', _, hsz, _, hpos, _⟩ := u.info
  have el := nl.eq h1
  have eh := nh.eq (by omega)
  refine ⟨.slice (if cap = l then base else base.map (·.add (l * size))) (h - l) (cap - l), ?_, ⟨fun b n' c e => ?_⟩⟩
  · simp only [Instr.sliceAt, Sem.run_bind, run_underlying hu, Result.andThen_ok, Instr.slice]
    have hb : (Instr.sliceBounds true n cap lo hi none).run P w = .ok (l, h, cap) w := by
      have k1 : 0 ≤ zl ∧ zl ≤ (h : Int) := ⟨h1, by omega⟩
      have k2 : 0 ≤ zh ∧ zh ≤ (cap : Int) := ⟨by omega, by omega⟩
      rcases ol.eq with ⟨rfl, rfl⟩ | ⟨k, rfl⟩ <;> rcases oh.eq with ⟨rfl, rfl⟩ | ⟨k', rfl⟩
      · simp at el eh; subst el; subst eh
        simp [Instr.sliceBounds]
      · simp at el; subst el
        simp [Instr.sliceBounds, Instr.sliceBound, asIntOf, k2, eh]
      · simp at eh; subst eh
        simp [Instr.sliceBounds, Instr.sliceBound, asIntOf, k1, el]
      · simp [Instr.sliceBounds, Instr.sliceBound, asIntOf, k1, k2, el, eh]
    simp only [hb, Result.andThen_ok, hs.run, Sem.run_pure]
  · simp only [Value.slice.injEq] at e
    obtain ⟨rfl, rfl, rfl⟩ := e
    exact ⟨rfl, by omega⟩
instance {t e size s n l h : Nat} {v : Value} {xs : List Value} {lo hi : Option Value} {zl zh : Int} {K : Value → St → Prop} [u : TySl P t e s] [r : Rds w v size n xs] [ol : OptI lo 0 zl] [oh : OptI hi n zh] [nl : ToN zl l] [nh : ToN zh h] [hs : TySize P e size] :
    Step (Sl P t v lo hi none K ⟨w, ds⟩) ((0 ≤ zl ∧ zl ≤ zh ∧ zh ≤ n) ∧ ∀ v', SubSl v v' size l (h - l) → K v' ⟨w, ds⟩) := ⟨fun ⟨hb, hk⟩ => by
  obtain ⟨v', h1, h2⟩ := sl_run u r ol oh nl nh hs hb
  exact vl_ok h1 (hk _ h2)⟩
instance {t e size s n l h : Nat} {v : Value} {xs : List Value} {lo hi : Option Value} {zl zh : Int} {K : Value → Prop} [u : TySl P t e s] [r : Rds w v size n xs] [ol : OptI lo 0 zl] [oh : OptI hi n zh] [nl : ToN zl l] [nh : ToN zh h] [hs : TySize P e size] :
    Step (Qt (Sl P t v lo hi none) ⟨w, ds⟩ K) ((0 ≤ zl ∧ zl ≤ zh ∧ zh ≤ n) ∧ ∀ v', SubSl v v' size l (h - l) → K v') := ⟨fun ⟨hb, hk⟩ => by
  obtain ⟨v', h1, h2⟩ := sl_run u r ol oh nl nh hs hb
  exact ⟨_, vl_ok h1 ⟨rfl, rfl⟩, hk _ h2⟩⟩
theorem reslice_row {e size n m : Nat} {v v' : Value} {xs : List Value} (hr : w.ownsRow 0 e size v n xs) (hs : SubSl v v' size 0 m) : w.ownsRow 0 e size v' m (xs.take (m * size)) ∧ v'.ownBlock = v.ownBlock := by
  rcases hr.2 with ⟨rfl, rfl⟩ | ⟨g, cap, cur, rfl, hb, hg, hnc, hcm, hcs, ht⟩
  · obtain ⟨e', hle⟩ := hs.ex _ _ _ rfl
    have : m = 0 := by omega
    subst this
    simp only [if_true, Nat.sub_self] at e'
    subst e'
    simp [Value.ownBlock, World.ownsRow_nil]
  · obtain ⟨e', hle⟩ := hs.ex _ _ _ rfl
    have he : v' = .slice (some ⟨g, 0, none⟩) m cap := by
      rw [e']
      simp only [Nat.zero_mul, Nat.sub_zero]
      congr 1
      split
      · rfl
      · simp [Addr.add]
    subst he
    have hmn : m * size ≤ n * size := Nat.mul_le_mul_right _ (by omega)
    refine ⟨⟨by have := hr.1; simp; omega, .inr ⟨g, cap, cur, rfl, hb, hg, by omega, hcm, hcs, ?_⟩⟩, rfl⟩
    rw [← ht, List.take_take, Nat.min_eq_left hmn]
instance (priority := low) {e size n m : Nat} {v v' : Value} {xs : List Value} {H R : List SL} [s : SubSl v v' size 0 m] [h : RowIn H v e size n xs R] : RowIn H v' e size m (xs.take (m * size)) R := ⟨fun x => by
  obtain ⟨S1, S2, h1, h2, ⟨g1, g2, g3⟩, h4⟩ := h.perm x
  have := reslice_row g2 s
  exact ⟨S1, S2, h1, h2, ⟨fun k => by rw [this.2]; exact g1 k, this.1, fun u hu => g3 u (List.mem_of_mem_take hu)⟩, h4⟩⟩
class Bys (xs : List Value) (bs : outParam (List UInt8)) : Prop where eq : xs = bs.map byteV
instance {bs : List UInt8} : Bys (bs.map byteV) bs := ⟨rfl⟩
instance {xs : List Value} {bs : List UInt8} {i j : Nat} [h : Bys xs bs] : Bys ((xs.drop (i * 1)).take (j * 1)) ((bs.drop i).take j) := ⟨by rw [h.eq]; simp [List.map_take, List.map_drop]⟩
instance {src dst e n : Nat} {v : Value} {xs : List Value} {bs : List UInt8} [hs : TyU P src (.slice e)] [he : TyU P e (.int .u8)] [hd : TyU P dst .string] [r : Rds w v 1 n xs] [b : Bys xs bs] : VT (Cv P src dst v) w (str bs) := VT.of (by
  obtain ⟨base, cap, rfl, h0, hnc, hx⟩ := r.ex
  have hl := r.len
  have hb := b.eq
  subst hb
  simp only [List.length_map, Nat.mul_one] at hl
  cases base with
  | none =>
    have := h0 rfl
    have : bs = [] := List.eq_nil_of_length_eq_zero (by omega)
    subst this
    simp [convert, run_underlying hs.eq, run_underlying he.eq, run_underlying hd.eq, Conv.bytesToString]
    rfl
  | some a =>
    subst hl
    refine run_convert_bytes_back w src dst e a cap bs hs.eq he.eq hd.eq fun j hj => ?_
    obtain ⟨a', ha, hc⟩ := hx j (byteV bs[j]) (by simp [hj])
    simp only [Option.some.injEq] at ha
    subst ha; exact hc)
instance {src dst : Nat} {k k' : IntKind} {n : Int} {d : TypeDesc} [hs : TyU P src d] [hd : TyU P dst (.int k')] : VT (Cv P src dst (.int k n)) w (.int k' (k'.wrap n)) := VT.of (by
  simp [convert, run_underlying hs.eq, run_underlying hd.eq, Conv.intToInt])
instance {l : List Value} {i : Nat} {v : Value} [h : Nth l i v] : VT (Ex P (.tuple l.toArray) i) w v := VT.of (by
  have := h.eq
  simp [Instr.extract, this])
end
class InK {κ α : Type} (F : κ → α → SL) (k : κ) (H : List SL) (x : outParam α) (R : outParam (List SL)) : Prop where perm : ∀ {S w}, sep H S w → sep (F k x :: R) S w
instance (priority := high) {κ α : Type} {F : κ → α → SL} {k : κ} {H : List SL} {x : α} : InK F k (F k x :: H) x H := ⟨id⟩
instance {κ α : Type} {F : κ → α → SL} {k : κ} {A : SL} {H R : List SL} {x : α} [h : InK F k H x R] : InK F k (A :: H) x (A :: R) := ⟨fun y => sep_swap (sep_cons h.perm y)⟩
theorem InK.hv {κ α : Type} {F : κ → α → SL} {k : κ} {H R : List SL} {x : α} {w0 w : World} (h : InK F k H x R) (o : Hv w0 H w) : Hv w0 (F k x :: R) w := Hv.perm h.perm o
structure Sub (R G : List SL) : Prop where sub : ∀ {S w}, sep R S w → ∃ S', (∀ b, S' b → S b) ∧ sep G S' w
theorem Sub.hv {R G : List SL} {w0 w : World} [o : Hv w0 R w] (h : Sub R G) : Hv w0 G w := ⟨o.bel, let ⟨S, a, b⟩ := o.sp; let ⟨S', g1, g2⟩ := h.sub b; ⟨S', fun b hb => a b (g1 b hb), g2⟩⟩
theorem Sub.cons {A : SL} {R G : List SL} (h : Sub R G) : Sub (A :: R) (A :: G) := ⟨fun ⟨S1, S2, h1, h2, h3, h4⟩ =>
  let ⟨S', g1, g2⟩ := h.sub h4
  ⟨fun b => S1 b ∨ S' b, fun b hb => (h1 b).2 (hb.imp id (g1 b)), S1, S', fun b => Iff.rfl, fun b x y => h2 b x (g1 b y), h3, g2⟩⟩
theorem subEnd {R H : List SL} [d : DropTo R H] : Sub R H := ⟨d.sub⟩
theorem subRow {H' R G : List SL} {v : Value} {e size n m : Nat} {xs ys : List Value} [r : RowIn H' v e size n xs R] (h1 : n = m) (h2 : xs = ys) (k : Sub R G) : Sub H' (row e size v m ys :: G) := ⟨fun h => by
  subst h1 h2; exact k.cons.sub (r.perm h)⟩
theorem subBox {H' R G : List SL} {b t : Nat} {xs ys : List Value} [r : BoxIn H' b t xs R] (h2 : xs = ys) (k : Sub R G) : Sub H' (box b t ys :: G) := ⟨fun h => by
  subst h2; exact k.cons.sub (r.perm.1 h)⟩
theorem subK {κ α : Type} {F : κ → α → SL} {key : κ} {H' R G : List SL} {x y : α} [r : InK F key H' x R] (h : x = y) (k : Sub R G) : Sub H' (F key y :: G) := ⟨fun h' => by
  subst h; exact k.cons.sub (r.perm h')⟩
theorem take_snoc {α : Type} [Inhabited α] {l : List α} {i : Nat} (h : i < l.length) : l.take (i + 1) = l.take i ++ [l.getD i default] := by
  rw [List.take_add_one, List.getElem?_eq_getElem h]; simp [h]
def ro (size : Nat) (v : Value) (n : Nat) (xs : List Value) : SL where
  ok S w := (∀ k, S k ↔ v.ownBlock = some k) ∧ xs.length = n * size ∧ (∀ u ∈ xs, u.oneCell' = true) ∧ ∃ g cap cur e fz, v = .slice (some ⟨g, 0, none⟩) n cap ∧ w.heap[g]? = some (.cells cur e fz) ∧ n ≤ cap ∧ cap ≤ maxLen ∧ cur.toList.take (n * size) = xs
  loc {S w w'} he h := by
    obtain ⟨h1, h2, h3, g, cap, cur, e, fz, hv, hg, r⟩ := h
    exact ⟨h1, h2, h3, g, cap, cur, e, fz, hv, by rw [he g ((h1 g).2 (by rw [hv]; rfl))]; exact hg, r⟩
  lt {S w} h k hk := by
    obtain ⟨h1, h2, h3, g, cap, cur, e, fz, hv, hg, r⟩ := h
    have := (h1 k).1 hk
    rw [hv] at this
    simp only [Value.ownBlock, Option.some.injEq] at this
    subst this
    exact (Array.getElem?_eq_some_iff.1 hg).1
instance : Bys [] [] := ⟨rfl⟩
instance (priority := high) {b : UInt8} {xs : List Value} {bs : List UInt8} [k : Bys xs bs] : Bys (byteV b :: xs) (b :: bs) := ⟨by rw [k.eq]; rfl⟩
class Encs {α : Type} (enc : α → List Value) (xs : List Value) (ys : outParam (List α)) : Prop where eq : xs = ys.flatMap enc
instance {α : Type} {enc : α → List Value} {ys : List α} : Encs enc (ys.flatMap enc) ys := ⟨rfl⟩
end Go.Vx

namespace Go.Vx
open Go.RowKit
section
variable {P : Program} {w w0 : World} {H R : List SL} {ds : List Deferred}
theorem first_str (l : List UInt8) (w : World) : (Builtin.firstCells 1 l.length (str l)).run P w = .ok (l.map byteV).toArray w := by
  have h : (((⟨l.toArray⟩ : ByteArray).extract 0 l.length).data.map fun b => Value.int .u8 b.toNat) = (l.map byteV).toArray := by
    apply Array.ext'
    simp
  simp only [Builtin.firstCells, Sem.run_pure, h]
theorem append_str_run {t q e n : Nat} (u : TySl P t e 1) (hq : P.underlying q = some .string) {v : Value} {xs : List Value} {l : List UInt8} (ty : TypeId) (hv : w.ownsRow 0 e 1 v n xs) (hb : n + l.length ≤ 137438953472) :
    ∃ v' w', (Builtin.append_ #[t, q] ty #[v, str l]).run P w = .ok v' w' ∧ w'.ownsRow 0 e 1 v' (n + l.length) (xs ++ l.map byteV) ∧ Kept (fun k => v.ownBlock = some k) w w' ∧ ∀ k, v'.ownBlock = some k → v.ownBlock = some k ∨ w.heap.size ≤ k := by
  obtain ⟨i, z, hu, hi, hz, hs, hzs, hpos, hby⟩ := u.info
  have hlen : (xs ++ l.map byteV).length = (n + l.length) * 1 := by have := hv.1; simp at this ⊢; omega
  have hbytes : (n + l.length) * i.bytes ≤ 140737488355328 := Nat.le_trans (Nat.mul_le_mul hb hby) (by decide)
  have hz0 : (⟨#[]⟩ : ByteArray).size = 0 := rfl
  have hzl : (⟨l.toArray⟩ : ByteArray).size = l.length := rfl
  have h1 : ∀ u ∈ l.map byteV, u.oneCell' = true := fun u hu => by obtain ⟨_, _, rfl⟩ := List.mem_map.1 hu; rfl
  have grown : ∀ (old : Nat), old < n + l.length →
      (w.drew.alloc (.cells (xs.toArray ++ (l.map byteV).toArray ++ Builtin.zeroCells z.cells (grownCap w (n + l.length) old e - (n + l.length))) e)).ownsRow 0 e 1
        (.slice (some ⟨w.heap.size, 0, none⟩) (n + l.length) (grownCap w (n + l.length) old e)) (n + l.length) (xs ++ l.map byteV) := by
    intro old ho
    have hge := grownCap_ge w (n + l.length) old e
    have hcm : grownCap w (n + l.length) old e ≤ maxLen := grownCap_le_maxLen w (n + l.length) old e (by simp only [maxLen]; omega)
    refine ⟨hlen, .inr ⟨w.heap.size, _, _, rfl, Nat.zero_le _, heap_alloc_new w.drew _, hge, hcm, ?_, ?_⟩⟩
    · have := hv.1
      simp only [Array.size_append, List.size_toArray, size_zeroCells, hzs, this, List.length_map]
      omega
    · simp only [Array.toList_append, List.append_assoc]
      rw [← List.append_assoc, ← hlen]
      exact List.take_left
  have hk : ∀ (S : Nat → Prop) (o : Obj), Kept S w (w.drew.alloc o) := fun S o => ⟨rfl, rfl, rfl, by simp, fun k hk _ => Below.heap_alloc w.drew o k hk⟩
  rcases hv.2 with ⟨rfl, rfl⟩ | ⟨g, cp, cur, rfl, _, hg, hnc, hcm, hcs, ht⟩
  · have hx : xs = [] := List.eq_nil_of_length_eq_zero (by simpa using hv.1)
    subst hx
    by_cases hm : l = []
    · subst hm
      refine ⟨.slice none 0 0, w, ?_, World.ownsRow_nil w 0 e 1, Kept.refl _ _, fun k h => .inl h⟩
      have hf := first_str (P := P) [] w
      simp only [List.length_nil] at hf
      simp [Builtin.append_, run_underlying hu, run_underlying hq, sizeOf, typeInfo, hi, hs, Builtin.lenOf, hz0, hf]
    · have hm0 : l.length ≠ 0 := fun h => hm (List.eq_nil_of_length_eq_zero h)
      have hr := run_append_nil_string (P := P) w t q ty e i z hu hq hi hz ⟨l.toArray⟩ (by show 0 < l.length; omega) (by show (l.length : Int) ≤ _; omega) (by show l.length * _ ≤ _; simp only [Nat.zero_add] at hbytes; omega)
      have hg := grown 0 (by omega)
      simp only [Nat.zero_add, List.nil_append, Array.empty_append] at hg
      refine ⟨_, _, hr, ?_, hk _ _, fun k h => .inr ?_⟩
      · have e1 : ((⟨l.toArray⟩ : ByteArray).data.map fun b => Value.int .u8 b.toNat) = (l.map byteV).toArray := by apply Array.ext'; simp
        have e2 : (⟨l.toArray⟩ : ByteArray).size = l.length := rfl
        rw [e1, e2]
        simpa using hg
      · simp only [Value.ownBlock, Option.some.injEq] at h; omega
  · by_cases hroom : n + l.length ≤ cp
    · have hst := run_storeCells_at P g n e (l.map byteV) 0 cur w hg (by simp; omega) h1
      refine ⟨.slice (some ⟨g, 0, none⟩) (n + l.length) cp, w.setRow g (cur.toList.take n ++ l.map byteV ++ cur.toList.drop (n + l.length)).toArray, ?_, ⟨hlen, .inr ⟨g, cp, _, rfl, Nat.zero_le _, setRow_heap w g cur _ e _ hg, hroom, hcm, ?_, ?_⟩⟩, ⟨rfl, rfl, rfl, by simp [World.setRow], fun k _ hk => setRow_other w g k _ fun e => hk (by simp [Value.ownBlock, e])⟩, fun k h => .inl h⟩
      · have hf := first_str (P := P) l w
        simp only [Nat.add_zero, List.length_map] at hst
        simp [Builtin.append_, run_underlying hu, run_underlying hq, sizeOf, typeInfo, hi, hs, Builtin.lenOf, hzl, hroom, hf, Addr.add_lit, hst]
      · simp; omega
      · rw [Nat.mul_one] at ht
        rw [ht, Nat.mul_one]
        have : n + l.length = (xs ++ l.map byteV).length := by rw [hlen]; omega
        rw [this]
        exact List.take_left
    · have holds : ∀ j u, xs[j]? = some u → w.cell? ((⟨g, 0, none⟩ : Addr).add j) = some u := hv.cells (g := g) rfl
      have hf := first_str (P := P) l w.drew
      have hfo := run_firstCells_some (P := P) w.drew 1 n ⟨g, 0, none⟩ n cp xs hv.1 (by simpa using holds)
      have hfit := growslice_fits (show cp < n + l.length by omega) hbytes
      refine ⟨_, _, ?_, grown cp (by omega), hk _ _, fun k h => .inr ?_⟩
      · have h63' : ¬ (9223372036854775807 < ((n : Int) + (l.length : Int))) := by omega
        have h48' : ¬ (281474976710656 < Builtin.nextslicecap (n + l.length) cp * i.bytes) := by omega
        simp [Builtin.append_, run_underlying hu, run_underlying hq, sizeOf, typeInfo, zeroValue, hi, hz, hs, Builtin.lenOf, hzl, hroom, h63', h48', Question.forced, hf, hfo, newRow, grownCap]
        congr 2
        apply Array.ext'
        simp
      · simp only [Value.ownBlock, Option.some.injEq] at h; omega
instance {t q ty e n : Nat} {cs : Array Bool} {v : Value} {xs : List Value} {l : List UInt8} {K : Value → St → Prop} [o : Hv w0 H w] [i : RowIn H v e 1 n xs R] [u : TySl P t e 1] [hq : TyU P q .string] :
    Step (Bi P .append #[t, q] ty cs #[v, str l] K ⟨w, ds⟩) (n + l.length ≤ 137438953472 ∧ ∀ v' w', Hv w0 (row e 1 v' (n + l.length) (xs ++ l.map byteV) :: R) w' → K v' ⟨w', ds⟩) := ⟨fun h => by
  have h1 := Hv.perm i.perm o
  obtain ⟨S, _, _, hr, h2⟩ := h1.ok
  obtain ⟨v', w', g1, g2, g3, g4⟩ := append_str_run u hq.eq ty hr h.1
  exact bi_ok (m := Builtin.append_ #[t, q] ty #[v, str l]) rfl g1 (h.2 _ _ (h1.rowStep g2 (fun u hu => (List.mem_append.1 hu).elim (h2 u) fun hu => by obtain ⟨_, _, rfl⟩ := List.mem_map.1 hu; rfl) g3 g4))⟩
end
section
variable {P : Program} {w w0 : World} {H R : List SL} {ds : List Deferred}
instance {t e n : Nat} {k k' : IntKind} {z : Int} {zv : Value} {K : Value → St → Prop} [o : Hv w0 H w] [u : TySl P t e 1] [zz : TyZ P e [zv]] [on : One w zv] [zn : ToN z n] :
    Step (Ms P t (.int k z) (.int k' z) K ⟨w, ds⟩) ((0 ≤ z ∧ z ≤ 1000000) ∧ ∀ v w', Hv w0 (row e 1 v n (List.replicate n zv) :: H) w' → K v ⟨w', ds⟩) := ⟨fun ⟨⟨h1, h2⟩, h⟩ => by
  obtain ⟨i, z0, hu, hi, hz, hs, hzs, hpos, hby⟩ := u.info
  obtain ⟨z1, hz1, hzc⟩ := zz.run w
  have hz0 : z0 = z1 := by
    have : (zeroValue e).run P w = .ok z0 w := by simp [zeroValue, typeInfo, hi, hz]
    rw [this] at hz1; simpa using hz1
  subst hz0
  have hn := zn.eq h1
  have hzn : z = (n : Int) := by omega
  subst hzn
  obtain ⟨w', g1, g2, g3⟩ := run_make_full (P := P) w 0 t e i z0 1 hu hi hz hs k k' n (Nat.le_trans (Nat.mul_le_mul hby (show n ≤ 1000000 by omega)) (by decide)) (by simp only [maxLen]; omega) (Nat.zero_le _)
  have hm : (madeCells z0.cells (n * 1)).toList = List.replicate n zv := by
    rw [hzc, Nat.mul_one]; exact toList_madeCells_one zv n
  rw [hm] at g2
  exact vl_ok g1 (h _ _ (o.rowNew g2 (fun u hu => by rw [List.mem_replicate] at hu; rw [hu.2]; exact on.eq) (Kept.of g3 fun k hk => by cases hk) fun k hk => by simp only [Value.ownBlock, Option.some.injEq] at hk; omega))⟩
theorem Hv.put {e n i : Nat} {g cap : Nat} {xs : List Value} {u : Value} (h : Hv w0 (row e 1 (.slice (some ⟨g, 0, none⟩) n cap) n xs :: R) w) (hu : u.oneCell' = true) : Hv w0 (row e 1 (.slice (some ⟨g, 0, none⟩) n cap) n (xs.set i u) :: R) (w.setCell ⟨g, i, none⟩ u) := by
  obtain ⟨S, _, _, hr, h1⟩ := h.ok
  have hs := hr.stored i u
  refine h.rowStep hs.1 (fun x hx => ?_) (Kept.of hs.2 fun k hk => hk) fun k hk => .inl hk
  rcases List.mem_or_eq_of_mem_set hx with h2 | h2
  · exact h1 x h2
  · rw [h2]; exact hu
instance {t e n i : Nat} {a : Addr} {v x : Value} {xs : List Value} {K : Value → St → Prop} [o : Hv w0 H w] [ix : IxA v i 1 a] [r : RowIn H v e 1 n xs R] [ts : TySize P t 1] [on : One w x] :
    Step (Sv P t (.pointer (some a)) x K ⟨w, ds⟩) (∀ w', Hv w0 (row e 1 v n (xs.set i x) :: R) w' → K undef ⟨w', ds⟩) := ⟨fun h => by
  have h1 := Hv.perm r.perm o
  obtain ⟨S, _, _, hr, h2⟩ := h1.ok
  obtain ⟨base, n', cap, hv, hi, rfl⟩ := ix.ex
  rcases hr.2 with ⟨rfl, rfl⟩ | ⟨g, cp, cur, rfl, hb, hg, hnc, hcm, hcs, ht⟩
  · cases hv
  · simp only [Value.slice.injEq, Option.some.injEq] at hv
    obtain ⟨rfl, rfl, rfl⟩ := hv
    refine ut_ok ?_ (h _ (h1.put on.eq))
    have hcell : w.cell? ⟨g, i, none⟩ = xs[i]? := hr.cellAt i (by omega)
    have hsome : xs[i]? = some (xs[i]'(by have := hr.1; omega)) := List.getElem?_eq_getElem _
    have hfz : w.frozen? ⟨g, i, none⟩ = false := hr.frozenAt i
    have h0 : (⟨g, i, none⟩ : Addr).add 0 = ⟨g, i, none⟩ := by rw [addr_add, Nat.add_zero]
    have hst : (store (⟨g, i, none⟩ : Addr) x).run P w = .ok () (w.setCell ⟨g, i, none⟩ x) := by
      rw [run_store P w _ x _ on.eq, hcell, hsome]; simp [hfz]
    have hsc : (storeCells (⟨g, i, none⟩ : Addr) [x]).run P w = .ok () (w.setCell ⟨g, i, none⟩ x) := by
      simp [storeCells, h0, Sem.run_bind, hst]
    simp [Instr.storeAt, Instr.sureAddr, storeVar, Sem.run_bind, ts.run, one_cells on.eq, addr_add, hsc]⟩
section
variable {t : TypeId} {cx cy : Bool}
instance {a b : Int} {k : IntKind} : VS (Bo P .rem t cx cy (.int k a) (.int k b)) w (b ≠ 0) (.int k (a.tmod b)) := VS.of fun h => by rw [bo_int, binOp_rem]; simp [Op.intDiv, h]
instance (priority := high) {a b : UInt8} : VS (Bo P .rem t cx cy (byteV a) (byteV b)) w (b ≠ 0) (byteV (a % b)) := VS.of fun h => by
  rw [bo_int, binOp_rem]
  have hb : ¬ b.toNat = 0 := fun e => h (UInt8.toNat_inj.1 (by simpa using e))
  have e : (a.toNat : Int).tmod (b.toNat : Int) = ((a % b).toNat : Int) := by rw [UInt8.toNat_mod]; rfl
  simp [Op.intDiv, hb, e]
instance (priority := high) {src dst : Nat} {b : UInt8} {d : TypeDesc} [hs : TyU P src d] [hd : TyU P dst (.int .i64)] : VT (Cv P src dst (byteV b)) w (.int .i64 (b.toNat : Int)) := VT.of (by
  have h : IntKind.i64.wrap (b.toNat : Int) = b.toNat := wrap64 ⟨by omega, by have := b.toNat_lt; omega⟩
  simp [convert, run_underlying hs.eq, run_underlying hd.eq, Conv.intToInt, h])
end
end
end Go.Vx

namespace Go.Vx
open Go.RowKit
section
variable {P : Program} {w w0 : World} {H R : List SL} {ds : List Deferred}
theorem Hv.at {b : Nat} {o : Obj} (h : Hv w0 (pto b o :: R) w) : w.heap[b]? = some o := by obtain ⟨S, _, _, hb⟩ := h.ok; exact hb
theorem Hv.putObj {b : Nat} {o : Obj} (h : Hv w0 (pto b o :: R) w) (o' : Obj) : Hv w0 (pto b o' :: R) (w.putObj b o') := by
  have hlt := (Array.getElem?_eq_some_iff.1 h.at).1
  refine Hv.step (B := [pto b o']) h fun S hS hb => ⟨S, ⟨S, emp, fun b => ⟨.inl, fun h => h.elim id fun h => h.elim⟩, fun b _ h => h, ⟨hb.1, World.putObj_heap_same hlt⟩, fun b h => h⟩, fun b h => .inl h, ?_⟩
  exact ⟨rfl, rfl, rfl, by simp, fun k hk hs => World.putObj_heap_other fun e => hs ((hb.1 k).2 e)⟩
theorem Hv.newObj (h : Hv w0 R w) (o : Obj) : Hv w0 (pto w.heap.size o :: R) (w.alloc o) :=
  h.new (B := [pto w.heap.size o]) ⟨fun b => b = w.heap.size, ⟨fun b => b = w.heap.size, emp, fun b => ⟨.inl, fun h => h.elim id fun h => h.elim⟩, fun b _ h => h, ⟨fun k => Iff.rfl, heap_alloc_new w _⟩, fun b h => h⟩, fun b h => by omega⟩ (Kept.alloc _ _ _)
def lpR (rc : Loop) (l : Nat) : SL := pto l (.loop { rc with state := .ready, pending := none })
def lpB (rc : Loop) (l : Nat) : SL := pto l (.loop { rc with state := .busy, pending := none })
def lpD (rc : Loop) (l : Nat) (c : Code) : SL := pto l (.loop { rc with state := .done, pending := some c })
def dfb (b : Nat) : SL := pto b (.deferred (some []))
abbrev mk (b : Nat) : Deferred := { target := .collected b, args := #[] }
class RecR (H : List SL) (l : Nat) (rc : outParam Loop) (R : outParam (List SL)) : Prop where perm : ∀ {S w}, sep H S w ↔ sep (lpR rc l :: R) S w
instance (priority := high) {l : Nat} {rc : Loop} {H : List SL} : RecR (lpR rc l :: H) l rc H := ⟨Iff.rfl⟩
instance {A : SL} {l : Nat} {rc : Loop} {H R : List SL} [h : RecR H l rc R] : RecR (A :: H) l rc (A :: R) := ⟨⟨fun x => sep_swap (sep_cons h.perm.1 x), fun x => sep_cons h.perm.2 (sep_swap x)⟩⟩
class RecB (H : List SL) (l : Nat) (rc : outParam Loop) (R : outParam (List SL)) : Prop where perm : ∀ {S w}, sep H S w ↔ sep (lpB rc l :: R) S w
instance (priority := high) {l : Nat} {rc : Loop} {H : List SL} : RecB (lpB rc l :: H) l rc H := ⟨Iff.rfl⟩
instance {A : SL} {l : Nat} {rc : Loop} {H R : List SL} [h : RecB H l rc R] : RecB (A :: H) l rc (A :: R) := ⟨⟨fun x => sep_swap (sep_cons h.perm.1 x), fun x => sep_cons h.perm.2 (sep_swap x)⟩⟩
instance {l : Nat} {rc : Loop} {k : St → Prop} [o : Hv w0 H w] [i : RecR H l rc R] : Step (Bg P l k ⟨w, ds⟩) (∀ w', Hv w0 (lpB rc l :: R) w' → k ⟨w', ds⟩) := ⟨fun h => by
  have h1 := Hv.perm i.perm.1 o
  exact ⟨_, run_beginRound h1.at rfl, h _ (h1.putObj _)⟩⟩
instance {l : Nat} {rc : Loop} {k : Value → World → Prop} [o : Hv w0 H w] [i : RecB H l rc R] : Step (Er P l none k ⟨w, ds⟩) (∀ w', Hv w0 (lpR rc l :: R) w' → k (.bool true) w') := ⟨fun h => by
  have h1 := Hv.perm i.perm.1 o
  exact ⟨_, _, run_endRound none h1.at, h _ (h1.putObj _)⟩⟩
instance {l : Nat} {rc : Loop} {c : Code} {k : Value → World → Prop} [o : Hv w0 H w] [i : RecB H l rc R] : Step (Er P l (some c) k ⟨w, ds⟩) (∀ w', Hv w0 (lpD rc l c :: R) w' → k (.bool false) w') := ⟨fun h => by
  have h1 := Hv.perm i.perm.1 o
  exact ⟨_, _, run_endRound (some c) h1.at, h _ (h1.putObj _)⟩⟩
class DfbIn (H : List SL) (b : Nat) (R : outParam (List SL)) : Prop where perm : ∀ {S w}, sep H S w ↔ sep (dfb b :: R) S w
instance (priority := high) {b : Nat} {H : List SL} : DfbIn (dfb b :: H) b H := ⟨Iff.rfl⟩
instance {A : SL} {b : Nat} {H R : List SL} [h : DfbIn H b R] : DfbIn (A :: H) b (A :: R) := ⟨⟨fun x => sep_swap (sep_cons h.perm.1 x), fun x => sep_cons h.perm.2 (sep_swap x)⟩⟩
instance (priority := high) {b : Nat} {k : World → Prop} [o : Hv w0 H w] [i : DfbIn H b R] : Step (Ret P k ⟨w, mk b :: ds⟩) (∀ w', Hv w0 R w' → Ret P k ⟨w', ds⟩) := ⟨fun h => by
  have h1 := Hv.perm i.perm.1 o
  exact .inl ⟨b, _, rfl, run_takeDeferred h1.at, h _ (h1.putObj (.deferred none)).tail⟩⟩
def SeqOf {α : Type} (P : Program) (w0 : World) (gv : Value) (T : List SL) (enc : α → List Value) (xs : List α) : Prop :=
  ∀ (l : Nat) (J X : Nat → SL) (w : World) (ds : List Deferred) (K : Value → St → Prop), Hv w0 (J 0 :: T) w →
    (∀ (i : Nat) (x : α) (F : List SL) (w : World) (ds : List Deferred) (K : Value → St → Prop), xs[i]? = some x → Hv w0 (J i :: F) w → (∀ w', Hv w0 (J (i + 1) :: F) w' → K (.bool true) ⟨w', ds⟩) → (∀ w', Hv w0 (X i :: F) w' → K (.bool false) ⟨w', ds⟩) → Dy P (yv l) (enc x).toArray K ⟨w, ds⟩) →
    (∀ v w', Hv w0 (J xs.length :: T) w' → K v ⟨w', ds⟩) → (∀ i x v w', xs[i]? = some x → Hv w0 (X i :: T) w' → K v ⟨w', ds⟩) → Cy P gv #[yv l] K ⟨w, ds⟩
theorem sep_many {G F : List SL} {S : Nat → Prop} {w : World} : sep (many G :: F) S w ↔ sep (G ++ F) S w := sep_app.symm
theorem rf_core {α : Type} {gv : Value} {T G : List SL} {enc : α → List Value} {xs : List α} {np l : Nat} {rc : Loop} {rnd : Rnd} {J XR : Nat → SL} {XE : Nat → Nat → SL} {kn kr : St → Prop} {kx : Nat → St → Prop}
    (hs : SeqOf P w0 gv T enc xs) (hnp : ∀ x, (enc x).length = np) (hy : Yl P rc np rnd) (o : Hv w0 (J 0 :: lpR rc l :: many G :: T) w)
    (hb : ∀ (R : Value → World → Prop) (F : List SL) (w : World) (i : Nat) (x : α), xs[i]? = some x → Hv w0 (J i :: lpR rc l :: many G :: F) w →
      (∀ w', Hv w0 (J (i + 1) :: lpR rc l :: many G :: F) w' → R (.bool true) w') → (∀ w', Hv w0 (XR i :: lpD rc l .ret :: many G :: F) w' → R (.bool false) w') → (∀ j w', Hv w0 (XE j i :: lpD rc l (.exit j) :: many G :: F) w' → R (.bool false) w') → rnd l (enc x) R ⟨w, []⟩)
    (hn : ∀ w', Hv w0 (J xs.length :: many G :: T) w' → kn ⟨w', ds⟩)
    (hr : ∀ i x w', xs[i]? = some x → Hv w0 (XR i :: many G :: T) w' → kr ⟨w', ds⟩)
    (hx : ∀ j i x w', xs[i]? = some x → Hv w0 (XE j i :: many G :: T) w' → kx j ⟨w', ds⟩) :
    Cy P gv #[yv l] (fun _ s' => Elp P l kn kr kx s') ⟨w, ds⟩ := by
  refine hs l (fun i => many [J i, lpR rc l, many G]) (fun i => any fun c : Option Nat => match c with | none => many [XR i, lpD rc l .ret, many G] | some j => many [XE j i, lpD rc l (.exit j), many G]) w ds _ (Hv.closes (H := [_, _, _]) o) ?_ ?_ ?_
  · intro i x F w1 ds1 K hi o1 h1 h2
    have o2 := Hv.opens o1
    have hl : w1.heap[l]? = some (.loop { rc with state := .ready, pending := none }) := (Hv.perm sep_swap o2).at
    refine hy l .ready none (enc x) w1 ds1 K (hnp x) hl (hb _ F w1 i x hi o2 (fun w' h => h1 w' (Hv.closes (H := [_, _, _]) h)) (fun w' h => h2 w' (Hv.give none (Hv.closes (H := [_, _, _]) h))) (fun j w' h => h2 w' (Hv.give (some j) (Hv.closes (H := [_, _, _]) h))))
  · intro v w' o1
    have o2 := Hv.perm sep_swap (Hv.opens o1)
    exact ⟨_, _, run_endLoop o2.at (by simp), hn _ (o2.putObj _).tail⟩
  · intro i x v w' hi o1
    obtain ⟨c, o2⟩ := o1.pick
    cases c with
    | none =>
      have o3 := Hv.perm sep_swap (Hv.opens o2)
      exact ⟨_, _, run_endLoop o3.at (by simp), hr i x _ hi (o3.putObj _).tail⟩
    | some j =>
      have o3 := Hv.perm sep_swap (Hv.opens o2)
      exact ⟨_, _, run_endLoop o3.at (by simp), hx j i x _ hi (o3.putObj _).tail⟩
theorem rf_go {α : Type} {gv : Value} (T : List SL) {enc : α → List Value} {xs : List α} {np : Nat} {rnd : Rnd} (J XR : Nat → SL) (XE : Nat → Nat → SL) {kn kr : St → Prop} {kx : Nat → St → Prop}
    (hs : SeqOf P w0 gv T enc xs) (hnp : ∀ x, (enc x).length = np) (o : Hv w0 (J 0 :: T) w)
    (hb : ∀ (b l : Nat) (rc : Loop) (R : Value → World → Prop) (F : List SL) (w : World) (i : Nat) (x : α), xs[i]? = some x → Hv w0 (J i :: lpR rc l :: dfb b :: F) w →
      (∀ w', Hv w0 (J (i + 1) :: lpR rc l :: dfb b :: F) w' → R (.bool true) w') → (∀ w', Hv w0 (XR i :: lpD rc l .ret :: dfb b :: F) w' → R (.bool false) w') → (∀ j w', Hv w0 (XE j i :: lpD rc l (.exit j) :: dfb b :: F) w' → R (.bool false) w') → rnd l (enc x) R ⟨w, []⟩)
    (hn : ∀ b w', Hv w0 (J xs.length :: dfb b :: T) w' → kn ⟨w', mk b :: ds⟩)
    (hr : ∀ b i x w', xs[i]? = some x → Hv w0 (XR i :: dfb b :: T) w' → kr ⟨w', mk b :: ds⟩)
    (hx : ∀ b j i x w', xs[i]? = some x → Hv w0 (XE j i :: dfb b :: T) w' → kx j ⟨w', mk b :: ds⟩) : Rf P none np gv rnd kn kr kx ⟨w, ds⟩ := by
  refine ⟨?_⟩
  intro rc h1 h2 hy
  have o1 := (o.newObj (.deferred (some []))).newObj (.loop rc)
  rw [World.size_alloc] at o1
  obtain ⟨st, pd, fn, tm, ps, as, bo, df⟩ := rc
  dsimp only at h1 h2
  subst h1 h2
  have cl : ∀ {A B : SL} {b : Nat} {F : List SL} {w : World}, Hv w0 (A :: B :: dfb b :: F) w → Hv w0 (A :: B :: many [dfb b] :: F) w := fun h => h.perm fun h => sep_cons (sep_cons (sep_many (G := [_])).2) h
  have op : ∀ {A B : SL} {b : Nat} {F : List SL} {w : World}, Hv w0 (A :: B :: many [dfb b] :: F) w → Hv w0 (A :: B :: dfb b :: F) w := fun h => h.perm fun h => sep_cons (sep_cons (sep_many (G := [_])).1) h
  have op1 : ∀ {A : SL} {b : Nat} {F : List SL} {w : World}, Hv w0 (A :: many [dfb b] :: F) w → Hv w0 (A :: dfb b :: F) w := fun h => h.perm fun h => sep_cons (sep_many (G := [_])).1 h
  refine rf_core (G := [dfb w.heap.size]) (J := J) (XR := XR) (XE := XE) hs hnp hy ?_ (fun R F w1 i x hi o2 a b c => hb w.heap.size _ _ R F w1 i x hi (op o2) (fun w' h => a w' (cl h)) (fun w' h => b w' (cl h)) (fun j w' h => c j w' (cl h))) (fun w' h => hn _ w' (op1 h)) (fun i x w' hi h => hr _ i x w' hi (op1 h)) (fun j i x w' hi h => hx _ j i x w' hi (op1 h))
  refine cl ?_
  exact Hv.perm (fun h => sep_swap (sep_cons sep_swap h)) o1
end
class TyFn (P : Program) (t : TypeId) : Prop where eq : ∃ a b c, P.underlying t = some (.func a b c)
class BodyOf (P : Program) (g : Nat) : Prop where ok : hasBody P g = true
theorem call_body {P : Program} {g : Nat} (h : hasBody P g = true) (args : Array Value) (w : World) : (callFunc g args).run P w = .ok (.enter g args) w := by
  unfold hasBody at h
  split at h
  · rename_i fn hfn
    simp only [Bool.and_eq_true, Bool.not_eq_true'] at h
    have hn : fn.body ≠ none := by cases hbb : fn.body <;> simp_all
    have hm : fn.name ≠ "runtime.NumGoroutine" := by simpa using h.1
    simp [callFunc, program, Sem.run, hfn, hm, hn, Bind.bind, Sem.bind, Pure.pure]
  · cases h
section
variable {P : Program} {w w0 : World} {H R : List SL} {ds : List Deferred}
instance {fn : Fn} {a b : Array Value} : VT (Mf P fn a b) w (.func fn a b) := VT.of (by rfl)
instance {d t : Nat} {f : Fn} {a b : Array Value} [u : TyFn P t] : EqV P (d + 1) t (.func f a b) .nilFunc false := ⟨fun w => by
  obtain ⟨x, y, z, hu⟩ := u.eq
  simp [Op.equalIn, run_underlying hu]⟩
instance {d t : Nat} [u : TyFn P t] : EqV P (d + 1) t .nilFunc .nilFunc true := ⟨fun w => by
  obtain ⟨x, y, z, hu⟩ := u.eq
  simp [Op.equalIn, run_underlying hu]⟩
instance {t : TypeId} {cx cy c : Bool} {f : Fn} {a b : Array Value} [h : EqV P 10000 t (.func f a b) .nilFunc c] : VT (Bo P .eql t cx cy (.func f a b) .nilFunc) w (.bool c) := eql_of h rfl
theorem dy_clo {g : Nat} {cap args : Array Value} {K : Value → St → Prop} {s : St} (hb : hasBody P g = true) (h : Cl P g (args ++ cap) K s) : Dy P (.func (.func g) #[] cap) args K s := ⟨by
  have : (do let d ← Deferred.ofValue (.func (.func g) #[] cap) args; invoke d.target d.args : Sem Next).run P s.w = .ok (.enter g (args ++ cap)) s.w := by
    simp [Deferred.ofValue, invoke, Sem.run_bind, call_body hb]
  rw [this]; exact h.out⟩
theorem cy_clo {g : Nat} {cap args : Array Value} {K : Value → St → Prop} {s : St} (hb : hasBody P g = true) (h : Cl P g (args ++ cap) K s) : Cy P (.func (.func g) #[] cap) args K s :=
  ⟨⟨{ target := .fn (.func g) cap, args := args }, s.w, g, args ++ cap, s.w, by simp [Deferred.ofValue], by simp [invoke, call_body hb], h.out⟩⟩
instance {g : Nat} {cap args : List Value} {K : Value → St → Prop} [b : BodyOf P g] : Step (Cy P (.func (.func g) #[] cap.toArray) args.toArray K ⟨w, ds⟩) (Cl P g (args ++ cap).toArray K ⟨w, ds⟩) := ⟨fun h => cy_clo b.ok (by simpa using h)⟩
class Yld {α : outParam Type} (P : Program) (w0 : World) (l : Nat) (J X : outParam (Nat → SL)) (enc : outParam (α → List Value)) (xs : outParam (List α)) : Prop where
  run : ∀ (i : Nat) (x : α) (F : List SL) (w : World) (ds : List Deferred) (K : Value → St → Prop), xs[i]? = some x → Hv w0 (J i :: F) w → (∀ w', Hv w0 (J (i + 1) :: F) w' → K (.bool true) ⟨w', ds⟩) → (∀ w', Hv w0 (X i :: F) w' → K (.bool false) ⟨w', ds⟩) → Dy P (yv l) (enc x).toArray K ⟨w, ds⟩
class InJ (J : Nat → SL) (H : List SL) (i : outParam Nat) (R : outParam (List SL)) : Prop where perm : ∀ {S w}, sep H S w ↔ sep (J i :: R) S w
instance (priority := high) {J : Nat → SL} {i : Nat} {H : List SL} : InJ J (J i :: H) i H := ⟨Iff.rfl⟩
instance {J : Nat → SL} {A : SL} {i : Nat} {H R : List SL} [h : InJ J H i R] : InJ J (A :: H) i (A :: R) := ⟨⟨fun x => sep_swap (sep_cons h.perm.1 x), fun x => sep_cons h.perm.2 (sep_swap x)⟩⟩
instance {α : Type} {l n : Nat} {J X : Nat → SL} {enc : α → List Value} {xs : List α} {args : Array Value} {K : Value → St → Prop} [y : Yld P w0 l J X enc xs] [o : Hv w0 H w] [i : InJ J H n R] :
    Step (Dy P (yv l) args K ⟨w, ds⟩) (∃ x, xs[n]? = some x ∧ (enc x).toArray = args ∧ (∀ w', Hv w0 (J (n + 1) :: R) w' → K (.bool true) ⟨w', ds⟩) ∧ (∀ w', Hv w0 (X n :: R) w' → K (.bool false) ⟨w', ds⟩)) := ⟨fun ⟨x, h1, h2, h3, h4⟩ => by
  rw [← h2]; exact y.run n x R w ds K h1 (Hv.perm i.perm.1 o) h3 h4⟩
theorem subJ {J : Nat → SL} {H' R G : List SL} {n m : Nat} [r : InJ J H' n R] (h : n = m) (k : Sub R G) : Sub H' (J m :: G) := ⟨fun h' => by
  subst h; exact (Sub.cons k).sub (r.perm.1 h')⟩
theorem subA {A : SL} {H' R G : List SL} [t : Take H' A R] (k : Sub R G) : Sub H' (A :: G) := ⟨fun h' => (Sub.cons k).sub (t.perm.1 h')⟩
theorem Hv.lifted {φ : Prop} (h : Hv w0 (lift φ :: H) w) : φ := by obtain ⟨S, _, h⟩ := h.ok; exact h.2
theorem Hv.lift {φ : Prop} (h : Hv w0 H w) (p : φ) : Hv w0 (lift φ :: H) w := h.new (B := [Vx.lift φ]) ⟨emp, ⟨emp, emp, fun b => ⟨.inl, fun h => h.elim id id⟩, fun b h => h.elim, ⟨fun k h => h, p⟩, fun b h => h⟩, fun b h => h.elim⟩ (Kept.refl _ _)
end
end Go.Vx

namespace Go.Vx
open Go.RowKit Go.ChangeShapes Go.WideShapes
section
variable {H : Type} {enc : TypeId × Value → H} {P : Program} {W W' : World} {sp : Nat → Bool} {held : Bool}
theorem arg_nil (W : World) : Arg W (.slice none 0 0) 1 0 [] := ⟨by simp, by simp, by simp, none, 0, rfl, fun _ => rfl, Nat.le_refl _, fun j u h => by simp at h⟩
theorem byte_of {z : Int} (h : (Lit.int .u8 z).wf = true) : byteV (UInt8.ofNat z.toNat) = .int .u8 z := by
  simp only [Lit.wf, Bool.and_eq_true, decide_eq_true_eq] at h
  have h1 : 0 ≤ z := by simpa [IntKind.min, IntKind.signed] using h.1
  have h2 : z ≤ 255 := by simpa [IntKind.max, IntKind.signed, IntKind.bits] using h.2
  show Value.int .u8 _ = _
  congr 1
  rw [UInt8.toNat_ofNat']
  have : z.toNat % 2 ^ 8 = z.toNat := Nat.mod_eq_of_lt (by omega)
  rw [this]; omega
theorem arg_bytes {t e fuel : Nat} {c : Value} {x : DataW H × List MemPlace} (ht : P.underlying t = some (.slice e)) (he : P.underlying e = some (.int .u8)) (hc : P.cellsOf e = 1) (h : DataW.trod enc P W 0 sp held fuel t [c] = some x) :
    ∃ bs : List UInt8, Arg W c 1 bs.length (bs.map byteV) := by
  rcases open_ints ht he hc h with ⟨hcs, _⟩ | ⟨a, len, cap, zs, hcs, _, hlc, hcm, hzl, _, hcell, hwf⟩
  · simp only [List.cons.injEq, and_true] at hcs
    subst hcs
    exact ⟨[], arg_nil W⟩
  · simp only [List.cons.injEq, and_true] at hcs
    subst hcs
    have hge : len ≤ zs.length := by rw [hzl]; split <;> omega
    have hl : ((zs.take len).map fun z => UInt8.ofNat z.toNat).length = len := by simp; omega
    refine ⟨(zs.take len).map fun z => UInt8.ofNat z.toNat, by simp, fun u hu => ?_, by omega, some a, cap, by rw [hl], (fun h => by cases h), by omega, fun j u hu => ⟨a, rfl, ?_⟩⟩
    · simp only [List.mem_map] at hu
      obtain ⟨_, _, rfl⟩ := hu
      rfl
    · simp only [List.getElem?_map, List.getElem?_take] at hu
      split at hu
      · rename_i hj
        have hz := hcell j (by omega)
        have hzj : zs[j]? = some (zs.getD j 0) := by simp [show j < zs.length by omega]
        rw [hzj] at hu
        simp only [Option.map_some, Option.some.injEq] at hu
        rw [byte_of (hwf _ (List.mem_of_getElem? hzj))] at hu
        subst hu
        exact ⟨by have := World.block_lt_of_cell? W _ hz; rwa [add_block] at this, hz⟩
      · simp at hu
theorem args_stay {T : TypeId → Prop} (K : Kids P T) (hsz : ∀ {t e : TypeId}, T t → P.underlying t = some (.slice e) → 0 < P.cellsOf e) (hb : Below W.heap.size W W') :
    ∀ {ts : List TypeId} {vs : List Value} {ds : List (DataW H)} {p : List MemPlace}, (∀ t ∈ ts, T t) → DataW.TrodAll enc P W 0 (fun _ => true) true ts vs ds p → (∀ q ∈ p, q.block < W.heap.size) →
      DataW.TrodAll enc P W' 0 (fun b => decide (b < W.heap.size)) true ts vs ds p := by
  intro ts
  induction ts with
  | nil =>
    intro vs ds p _ h _
    cases vs <;> cases ds <;> simp_all [DataW.TrodAll]
  | cons t ts ih =>
    intro vs ds p hT h hp
    obtain ⟨v, vs1, d, ds1, a, b, rfl, rfl, rfl, ⟨fuel, hf⟩, h2⟩ := trodAll_cons h
    refine ⟨a, b, ⟨fuel, DataW.trod_stays K hsz (fun h => by cases h) (hT t (List.mem_cons_self ..)) hf (fun q hq => hb.same (hp q (by simp [hq]))) (fun q hq => by simpa using hp q (by simp [hq]))⟩, ih (fun t ht => hT t (List.mem_cons_of_mem _ ht)) h2 (fun q hq => hp q (by simp [hq])), rfl⟩
end
end Go.Vx

namespace Go.Vx
open Go.RowKit Go.ChangeShapes Go.WideShapes
section
variable {P : Program} {w w0 : World} {H R : List SL} {ds : List Deferred}
instance {t i : Nat} {k : IntKind} {z : Int} {l : List UInt8} [u : TyU P t .string] [zn : ToN z i] : VS (Ix P t (str l) (.int k z)) w (0 ≤ z ∧ z < l.length) (byteV (l.getD i default)) := VS.of fun h => by
  have hz : (⟨l.toArray⟩ : ByteArray).size = l.length := rfl
  rw [run_index_string w t _ k z u.eq, dif_pos ⟨h.1, by rw [hz]; exact h.2⟩]
  have e := zn.eq h.1
  have h2 : i < l.length := by omega
  have e2 : (⟨l.toArray⟩ : ByteArray)[z.toNat]'(by rw [hz]; omega) = l.getD i default := by
    subst e
    show l.toArray[z.toNat]'(by simpa using h2) = _
    simp [h2]
  rw [e2]
def idxB (l : List UInt8) (c : UInt8) : Int := match l.findIdx? (· == c) with | some i => i | none => -1
theorem firstIdx_eq (l : List UInt8) (c : UInt8) : firstIdx ⟨l.toArray⟩ c = idxB l c := by
  have hg : ∀ i, i < l.length → (⟨l.toArray⟩ : ByteArray)[i]! = l.getD i default := by
    intro i hi
    rw [getElem!_pos _ i (by exact hi)]
    show l.toArray[i]'(by simpa using hi) = _
    simp [hi]
  have key : (List.range l.length).find? (fun i => (⟨l.toArray⟩ : ByteArray)[i]! == c) = l.findIdx? (· == c) := by
    have h1 : (List.range l.length).find? (fun i => (⟨l.toArray⟩ : ByteArray)[i]! == c) = (List.range l.length).find? (fun i => l.getD i default == c) := by
      have aux : ∀ (m : List Nat), (∀ i ∈ m, i < l.length) → m.find? (fun i => (⟨l.toArray⟩ : ByteArray)[i]! == c) = m.find? (fun i => l.getD i default == c) := by
        intro m
        induction m with
        | nil => intro _; rfl
        | cons a m ih =>
          intro h
          rw [List.find?_cons, List.find?_cons, hg a (h a (List.mem_cons_self ..)), ih fun i hi => h i (List.mem_cons_of_mem _ hi)]
      exact aux _ fun i hi => List.mem_range.1 hi
    rw [h1]
    clear h1 hg
    induction l with
    | nil => rfl
    | cons b l ih =>
      rw [List.length_cons, List.range_succ_eq_map, List.find?_cons, List.findIdx?_cons]
      simp only [List.getD_cons_zero]
      cases hb : b == c with
      | true => rfl
      | false =>
        rw [List.find?_map]
        have : ((fun i => (b :: l).getD i default == c) ∘ Nat.succ) = fun i => l.getD i default == c := by funext i; simp
        rw [this, ih]
        simp
  unfold firstIdx idxB
  have hz : (⟨l.toArray⟩ : ByteArray).size = l.length := rfl
  rw [hz, key]
  cases l.findIdx? (· == c) <;> rfl
class ExIdx (P : Program) (g : Nat) : Prop where
  run : ∀ (args : Array Value) (w : World), (callFunc g args).run P w = ((Extern.BytealgIndexByte.indexByte args).run P w).andThen fun v w' => .ok (.value v) w'
instance {g : Nat} {l : List UInt8} {c : UInt8} [e : ExIdx P g] : VT (Dy P (.func (.func g) #[] #[]) #[str l, byteV c]) w (.int .i64 (idxB l c)) := ⟨fun k => ⟨by
  have h : (do let d ← Deferred.ofValue (.func (.func g) #[] #[]) #[str l, byteV c]; invoke d.target d.args : Sem Next).run P w = (callFunc g #[str l, byteV c]).run P w := by
    simp [Deferred.ofValue, invoke, Sem.run_bind, Sem.run_pure, Result.andThen]
  rw [h, e.run, run_indexByte_string, firstIdx_eq]
  have hc : ((c.toNat : Int).toNat).toUInt8 = c := by simp
  rw [hc]
  exact k⟩⟩
end
section
variable {P : Program} {w w0 : World} {H R : List SL} {ds : List Deferred}
class Strs (zs : List Value) (ss : outParam (List (List UInt8))) : Prop where eq : zs = ss.map str
instance {ss : List (List UInt8)} : Strs (ss.map str) ss := ⟨rfl⟩
instance : Strs [] [] := ⟨rfl⟩
instance (priority := high) {l : List UInt8} {zs : List Value} {ss : List (List UInt8)} [k : Strs zs ss] : Strs (str l :: zs) (l :: ss) := ⟨by rw [k.eq]; rfl⟩
instance {xs ys : List Value} {bs cs : List (List UInt8)} [h : Strs xs bs] [k : Strs ys cs] : Strs (xs ++ ys) (bs ++ cs) := ⟨by rw [h.eq, k.eq, List.map_append]⟩
end
theorem least (p : Nat → Prop) (h : ∃ n, p n) : ∃ n, p n ∧ ∀ k, p k → n ≤ k := by
  obtain ⟨n, hn⟩ := h
  induction n using Nat.strongRecOn with
  | _ n ih =>
    by_cases h : ∃ k, k < n ∧ p k
    · obtain ⟨k, h1, h2⟩ := h
      exact ih k h1 h2
    · exact ⟨n, hn, fun k hk => Nat.le_of_not_lt fun hlt => h ⟨k, hlt, hk⟩⟩
theorem l0_ind {s : St} {body : (St → Prop) → St → Prop} (I : Nat → St → Prop) (h0 : ∃ m, I m s) (hs : ∀ m s N, I m s → (∀ m' s', m' < m → I m' s' → N s') → body N s) : L0 s body := by
  classical
  refine ⟨fun s => ∃ m, I m s, fun s => if h : ∃ m, I m s then Classical.choose (least _ h) else 0, h0, fun s h => ?_⟩
  have hf := Classical.choose_spec (least _ h)
  refine hs _ s _ hf.1 fun m' s' hlt hI => ⟨⟨m', hI⟩, ?_⟩
  have h' : ∃ m, I m s' := ⟨m', hI⟩
  dsimp only
  rw [dif_pos h', dif_pos h]
  exact Nat.lt_of_le_of_lt ((Classical.choose_spec (least _ h')).2 _ hI) hlt
section
variable {H : Type} {enc : TypeId × Value → H} {P : Program} {W W' : World} {sp : Nat → Bool} {held : Bool}
theorem str_of (s : ByteArray) : str s.data.toList = .string s := by cases s; simp
theorem struct_fld {fs : Array Field} {t i fuel : Nat} {f : Field} {cs : List Value} {x : DataW H × List MemPlace} (ht : P.underlying t = some (.struct fs)) (h : DataW.trod enc P W 0 sp held fuel t cs = some x) (hf : fs[i]? = some f) (hc : P.cellsOf f.type = 1) :
    ∃ n y, DataW.trod enc P W 0 sp held n f.type ((cs.drop f.offset).take 1) = some y := by
  obtain ⟨xs, n, _, _, hl, hlen, hall⟩ := DataW.trod_struct ht h
  have h1 := hall i f hf
  rw [hc] at h1
  have hi : i < xs.length := by rw [hlen]; exact (Array.getElem?_eq_some_iff.1 hf).1
  exact ⟨n, xs[i], by rw [h1, List.getElem?_eq_getElem hi]⟩
theorem take_one {l : List Value} {k : Nat} {v : Value} (h : (l.drop k).take 1 = [v]) : l[k]? = some v := by
  have : ((l.drop k).take 1)[0]? = some v := by rw [h]; rfl
  rw [List.getElem?_take] at this
  simpa using this
theorem struct_int {fs : Array Field} {t i fuel : Nat} {k : IntKind} {f : Field} {cs : List Value} {x : DataW H × List MemPlace} (ht : P.underlying t = some (.struct fs)) (h : DataW.trod enc P W 0 sp held fuel t cs = some x) (hf : fs[i]? = some f) (hu : P.underlying f.type = some (.int k)) (hc : P.cellsOf f.type = 1) :
    ∃ z : Int, cs[f.offset]? = some (.int k z) ∧ (Lit.int k z).wf = true := by
  obtain ⟨n, y, h1⟩ := struct_fld ht h hf hc
  obtain ⟨z, h2, _, h3⟩ := DataW.trod_int hu h1
  exact ⟨z, take_one h2, h3⟩
theorem list_of_at {l m : List Value} (hl : l.length = m.length) (h : ∀ i, i < m.length → l[i]? = m[i]?) : l = m :=
  List.ext_getElem? fun i => by
    rcases Nat.lt_or_ge i m.length with h1 | h1
    · exact h i h1
    · rw [List.getElem?_eq_none h1, List.getElem?_eq_none (by omega)]
end
end Go.Vx

namespace Go.Vx
open Go.RowKit
class Ltn (i n : Nat) : Prop where lt : i < n
class TyArr (P : Program) (t : TypeId) (n e s : outParam Nat) : Prop where
  u : P.underlying t = some (.array n e)
  size : ∀ w, (sizeOf e).run P w = .ok s w
instance {α : Type} {n : Nat} {x : α} : Len (List.replicate n x) n := ⟨List.length_replicate⟩
instance (priority := low) {α : Type} {l : List α} {n : Nat} [h : Len l n] : TakeL l n l := ⟨by rw [List.take_of_length_le (by rw [h.eq]; exact Nat.le_refl _)], h.eq⟩
instance (priority := low) {cs vs : List Value} {n : Nat} [h : Len cs n] [k : Len vs n] : PutL cs 0 vs vs := ⟨by
  have e1 := h.eq; have e2 := k.eq
  refine ⟨?_, by omega⟩
  rw [List.drop_eq_nil_of_le (by omega)]; simp⟩
instance (priority := high) {f : Nat → Value} {m i n : Nat} : SubX ((List.range m).map f) 1 i n [f i] := ⟨fun hl hi j u hj => by
  simp only [List.length_map, List.length_range] at hl
  cases j with
  | zero =>
    simp only [List.getElem?_cons_zero, Option.some.injEq] at hj
    subst hj
    rw [Nat.mul_one, Nat.add_zero, List.getElem?_map, List.getElem?_range (by omega)]
    rfl
  | succ j => simp at hj⟩
instance (priority := high) {x : Value} {l : List Value} {n : Nat} : SubX (x :: l) 1 0 n [x] := ⟨fun hl hi j u hj => by
  cases j with
  | zero => simpa using hj
  | succ j => simp at hj⟩
instance (priority := low) {w w0 : World} {H R : List SL} {b i n t : Nat} {cs r : List Value} [o : Hv w0 H w] [x : BoxIn H b t cs R] [l : Len cs n] [h : Ltn i n] [s : SubX cs 1 i n r] : El w ⟨b, i, none⟩ r := ⟨fun j u hu => by
  have h1 := Hv.perm x.perm.1 o
  obtain ⟨S, _, _, hb⟩ := h1.ok
  rw [addr_add, cell_of_row w b (i + j) _ t (0, 0) hb]
  have := s.eq (by rw [l.eq, Nat.mul_one]) h.lt j u hu
  rw [Nat.mul_one] at this
  simpa using this⟩
section
variable {P : Program} {w w0 : World} {H R : List SL} {ds : List Deferred}
theorem ia_arr {t n e s b i : Nat} {k : IntKind} {z : Int} (u : TyArr P t n e s) (zn : ToN z i) (h : 0 ≤ z ∧ z < n) : (Instr.indexAt t (.pointer (some ⟨b, 0, none⟩)) (.int k z)).run P w = .ok (.pointer (some ⟨b, i * s, none⟩)) w := by
  have hn : P.arrayLen t = n := by simp [Program.arrayLen, u.u]
  have he : P.elem t = e := by simp [Program.elem, u.u]
  rw [run_indexAt_array w t _ k z (by rw [hn, he]; exact u.u), hn, he, if_pos h, u.size, Result.andThen_ok, addr_add, Nat.zero_add, zn.eq h.1]
class MulN (i s : Nat) (r : outParam Nat) : Prop where eq : i * s = r
instance (priority := high) {i : Nat} : MulN i 1 i := ⟨Nat.mul_one i⟩
instance {t n e s b i r : Nat} {k : IntKind} {z : Int} {K : Value → St → Prop} [u : TyArr P t n e s] [zn : ToN z i] [m : MulN i s r] :
    Step (Ia P t (.pointer (some ⟨b, 0, none⟩)) (.int k z) K ⟨w, ds⟩) ((0 ≤ z ∧ z < n) ∧ (Ltn i n → K (.pointer (some ⟨b, r, none⟩)) ⟨w, ds⟩)) := ⟨fun ⟨h, k⟩ => by
  have := zn.eq h.1
  rw [← m.eq] at k
  exact vl_ok (ia_arr u zn h) (k ⟨by omega⟩)⟩
instance (priority := low) {t b i n t' : Nat} {x : Value} {cs : List Value} {K : Value → St → Prop} [ow : Hv w0 H w] [ib : BoxIn H b t' cs R] [on : One w x] [z : TySize P t 1] [l : Len cs n] [h : Ltn i n] :
    Step (Sv P t (.pointer (some ⟨b, i, none⟩)) x K ⟨w, ds⟩) (∀ w', Hv w0 (box b t' (cs.set i x) :: R) w' → K undef ⟨w', ds⟩) := ⟨fun hk => by
  have h1 := Hv.perm ib.perm.1 ow
  obtain ⟨S, _, _, hb⟩ := h1.ok
  have hlt : i < cs.length := by rw [l.eq]; exact h.lt
  have hs := run_storeCells_at P b i t' [x] 0 cs.toArray w hb (by simp; omega) (fun u hu => by simp at hu; subst hu; exact on.eq)
  have e : cs.take i ++ [x] ++ cs.drop (i + 1) = cs.set i x := by
    rw [List.set_eq_take_append_cons_drop, if_pos hlt, List.append_assoc]; rfl
  have e' : (cs.toArray.toList.take (i + 0) ++ [x] ++ cs.toArray.toList.drop (i + 0 + [x].length)).toArray = (cs.set i x).toArray := by
    rw [← e]; rfl
  rw [e'] at hs
  refine ut_ok (w' := w.setRow b (cs.set i x).toArray) ?_ (hk _ h1.stored)
  simp [Instr.storeAt, Instr.sureAddr, storeVar, Sem.run_bind, z.run, one_cells on.eq, hs]⟩
section
variable {t : TypeId} {cx cy : Bool}
theorem bits16 (a b : Int) (ha : 0 ≤ a ∧ a < 65536) (hb : 0 ≤ b ∧ b < 65536) :
    (BitVec.ofInt 16 a ||| BitVec.ofInt 16 b).toNat = a.toNat ||| b.toNat ∧ (BitVec.ofInt 16 a &&& BitVec.ofInt 16 b).toNat = a.toNat &&& b.toNat := by
  have e : ∀ z : Int, 0 ≤ z ∧ z < 65536 → (BitVec.ofInt 16 z).toNat = z.toNat := fun z hz => by
    rw [BitVec.toNat_ofInt]; omega
  rw [BitVec.toNat_or, BitVec.toNat_and, e a ha, e b hb]
  exact ⟨rfl, rfl⟩
theorem wrap16 {z : Nat} (h : z < 65536) : IntKind.u16.wrap (z : Int) = z := by
  simp only [IntKind.wrap, IntKind.signed, IntKind.bits]
  simp; omega
instance {a b : Int} : VS (Bo P .or t cx cy (.int .u16 a) (.int .u16 b)) w ((0 ≤ a ∧ a < 65536) ∧ 0 ≤ b ∧ b < 65536) (.int .u16 ((a.toNat ||| b.toNat : Nat) : Int)) := VS.of fun h => by
  rw [bo_int, binOp_or]
  simp only [Op.intBits]
  have := (bits16 a b h.1 h.2).1
  show (pure (Value.int IntKind.u16 (IntKind.u16.wrap ((BitVec.ofInt 16 a ||| BitVec.ofInt 16 b).toNat : Int))) : Sem Value).run P w = _
  rw [this, wrap16 (Nat.or_lt_two_pow (n := 16) (by omega) (by omega))]
  rfl
instance {a b : Int} : VS (Bo P .and t cx cy (.int .u16 a) (.int .u16 b)) w ((0 ≤ a ∧ a < 65536) ∧ 0 ≤ b ∧ b < 65536) (.int .u16 ((a.toNat &&& b.toNat : Nat) : Int)) := VS.of fun h => by
  rw [bo_int, binOp_and]
  simp only [Op.intBits]
  have := (bits16 a b h.1 h.2).2
  show (pure (Value.int IntKind.u16 (IntKind.u16.wrap ((BitVec.ofInt 16 a &&& BitVec.ofInt 16 b).toNat : Int))) : Sem Value).run P w = _
  rw [this, wrap16 (Nat.lt_of_le_of_lt Nat.and_le_left (by omega))]
  rfl
end
theorem cv_byte {src dst i : Nat} {z : Int} (hs : TyU P src (.int .i64)) (hd : TyU P dst (.int .u8)) (zn : ToN z i) (h : 0 ≤ z ∧ z < 256) : (convert src dst (.int .i64 z)).run P w = .ok (byteV (UInt8.ofNat i)) w := by
  have e := zn.eq h.1
  have h2 : IntKind.u8.wrap z = ((UInt8.ofNat i).toNat : Int) := by
    rw [UInt8.toNat_ofNat']
    simp only [IntKind.wrap, IntKind.signed, IntKind.bits]
    simp; omega
  simp [convert, run_underlying hs.eq, run_underlying hd.eq, Conv.intToInt, h2]
instance (priority := 20000) {src dst i : Nat} {z : Int} {K : Value → St → Prop} [hs : TyU P src (.int .i64)] [hd : TyU P dst (.int .u8)] [zn : ToN z i] : Step (Cv P src dst (.int .i64 z) K ⟨w, ds⟩) ((0 ≤ z ∧ z < 256) ∧ K (byteV (UInt8.ofNat i)) ⟨w, ds⟩) := ⟨fun ⟨h, k⟩ => vl_ok (cv_byte hs hd zn h) k⟩
end
theorem idxB_has (l : List UInt8) (c : UInt8) : decide (0 ≤ idxB l c) = l.contains c := by
  unfold idxB
  cases h : l.findIdx? (· == c) with
  | none =>
    rw [List.findIdx?_eq_none_iff] at h
    symm
    simp only [List.contains_eq_mem, show ¬ (0 : Int) ≤ -1 by decide, decide_false, decide_eq_false_iff_not]
    intro hm
    simpa using h c hm
  | some i =>
    obtain ⟨hi, h1, _⟩ := List.findIdx?_eq_some_iff_getElem.1 h
    have : l[i] = c := by simpa using h1
    have hm : c ∈ l := this ▸ List.getElem_mem hi
    simp [hm]
end Go.Vx

namespace Go.Vx
open Go.RowKit
section
variable {α : Type} [DecidableEq α]
def getA (es : List (α × Value)) (k : α) : Option Value := (es.find? fun p => decide (p.1 = k)).map (·.2)
def putA (es : List (α × Value)) (k : α) (v : Value) : List (α × Value) := match es.findIdx? fun p => decide (p.1 = k) with | some j => es.set j (k, v) | none => es ++ [(k, v)]
def delA (es : List (α × Value)) (k : α) : List (α × Value) := match es.findIdx? fun p => decide (p.1 = k) with | some j => es.eraseIdx j | none => es
end
class KeyF {α : Type} [DecidableEq α] (d : outParam TypeDesc) (f : α → Value) : Prop where
  same : ∀ a b, Instr.sameNow d (f a) (f b) = some (decide (a = b))
  bits : ∀ a, Instr.sameBits 10000 (f a) (f a) = true
  chk : ∀ (P : Program) (t : TypeId) (e : Bool) (a : α) (w : World), P.underlying t = some d → (Instr.checkKey e 10000 t (f a)).run P w = .ok () w
abbrev intV (z : Int) : Value := .int .i64 z
theorem chk_of {P : Program} {t : TypeId} {e : Bool} {v : Value} {w : World} (h : ∀ n, (Instr.checkKey e (n + 1) t v).run P w = .ok () w) : (Instr.checkKey e 10000 t v).run P w = .ok () w := h 9999
theorem bits_of {v : Value} (h : ∀ n, Instr.sameBits (n + 1) v v = true) : Instr.sameBits 10000 v v = true := h 9999
instance : KeyF (.int .i64) intV := ⟨fun a b => by simp only [Instr.sameNow, if_true]; congr 1, fun a => bits_of fun n => by simp [Instr.sameBits], fun P t e a w h => chk_of fun n => by simp [Instr.checkKey, run_underlying h]⟩
theorem ba_beq (a b : List UInt8) : ((ByteArray.mk a.toArray) == (ByteArray.mk b.toArray)) = decide (a = b) := by
  have h : (ByteArray.mk a.toArray = ByteArray.mk b.toArray) ↔ a = b := ⟨fun h => by
    have := congrArg (fun x => x.data.toList) h
    simpa using this, fun h => by rw [h]⟩
  have h2 : ((ByteArray.mk a.toArray) == (ByteArray.mk b.toArray)) = true ↔ ByteArray.mk a.toArray = ByteArray.mk b.toArray := by
    constructor
    · intro h
      have e : a.toArray = b.toArray := by simpa using (show (a.toArray == b.toArray) = true from h)
      rw [e]
    · intro h
      have e : a.toArray = b.toArray := congrArg (·.data) h
      show (a.toArray == b.toArray) = true
      rw [e]; simp
  rw [Bool.eq_iff_iff, h2, h]; simp
instance : KeyF .string (fun l => str l) := ⟨fun a b => by simp only [Instr.sameNow, ba_beq], fun a => bits_of fun n => by simp [Instr.sameBits, ba_beq], fun P t e a w h => chk_of fun n => by simp [Instr.checkKey, run_underlying h]⟩
def mkE {α : Type} (f : α → Value) (es : List (α × Value)) (bs : List Nat) : List MapEntry := List.zipWith (fun p b => ⟨f p.1, p.2, b⟩) es bs
def mpb {α : Type} (b : Nat) (f : α → Value) (es : List (α × Value)) (bs : List Nat) : SL where
  ok S w := (∀ k, S k ↔ k = b) ∧ bs.length = es.length ∧ bs.Nodup ∧ ∃ clock, (∀ x ∈ bs, x < clock) ∧ w.heap[b]? = some (.map (mkE f es bs).toArray clock)
  loc he h := ⟨h.1, h.2.1, h.2.2.1, let ⟨c, h1, h2⟩ := h.2.2.2; ⟨c, h1, (he b ((h.1 b).2 rfl)).trans h2⟩⟩
  lt h k hk := by obtain ⟨c, _, h2⟩ := h.2.2.2; rw [(h.1 k).1 hk]; exact (Array.getElem?_eq_some_iff.1 h2).1
def mpk {α : Type} (b : Nat) (f : α → Value) (es : List (α × Value)) : SL := any fun bs => mpb b f es bs
def mp0 (b : Nat) : SL := mpk b intV []
theorem mp0_as {α : Type} (b : Nat) (f : α → Value) {S : Nat → Prop} {w : World} (h : (mp0 b).ok S w) : (mpk b f []).ok S w := by
  obtain ⟨bs, h1, h2, h3, c, h4, h5⟩ := h
  have : bs = [] := List.eq_nil_of_length_eq_zero h2
  subst this
  exact ⟨[], h1, h2, h3, c, h4, h5⟩
class MapIn {α : Type} (H : List SL) (b : Nat) (f : α → Value) (es : outParam (List (α × Value))) (R : outParam (List SL)) : Prop where perm : ∀ {S w}, sep H S w → sep (mpk b f es :: R) S w
instance (priority := high) {α : Type} {b : Nat} {f : α → Value} {es : List (α × Value)} {H : List SL} : MapIn (mpk b f es :: H) b f es H := ⟨id⟩
instance (priority := high) {α : Type} {b : Nat} {f : α → Value} {H : List SL} : MapIn (mp0 b :: H) b f [] H := ⟨fun ⟨S1, S2, h1, h2, h3, h4⟩ => ⟨S1, S2, h1, h2, mp0_as b f h3, h4⟩⟩
instance {α : Type} {A : SL} {b : Nat} {f : α → Value} {es : List (α × Value)} {H R : List SL} [h : MapIn H b f es R] : MapIn (A :: H) b f es (A :: R) := ⟨fun x => sep_swap (sep_cons h.perm x)⟩
theorem mkE_get {α : Type} (f : α → Value) : ∀ (es : List (α × Value)) (bs : List Nat) (j : Nat) (p : α × Value), bs.length = es.length → es[j]? = some p → ∃ b, bs[j]? = some b ∧ (mkE f es bs)[j]? = some ⟨f p.1, p.2, b⟩ := by
  intro es
  induction es with
  | nil => intro bs j p _ h; simp at h
  | cons q es ih =>
    intro bs j p hl h
    cases bs with
    | nil => simp at hl
    | cons b bs =>
      cases j with
      | zero => simp only [List.getElem?_cons_zero, Option.some.injEq] at h; subst h; exact ⟨b, rfl, rfl⟩
      | succ j => exact ih bs j p (by simpa using hl) (by simpa using h)
section
variable {α : Type} [DecidableEq α] {d : TypeDesc} {f : α → Value}
theorem findNow_eq (kf : KeyF d f) (k : α) : ∀ (es : List (α × Value)) (bs : List Nat) (i : Nat), bs.length = es.length →
    Instr.findNow d (f k) (mkE f es bs) i = some ((es.findIdx? fun p => decide (p.1 = k)).bind fun j => (es[j]?).map fun p => (i + j, p.2)) := by
  intro es
  induction es with
  | nil => intro bs i h; have : bs = [] := List.eq_nil_of_length_eq_zero h; subst this; rfl
  | cons p es ih =>
    intro bs i h
    cases bs with
    | nil => simp at h
    | cons b bs =>
      have e : mkE f (p :: es) (b :: bs) = ⟨f p.1, p.2, b⟩ :: mkE f es bs := rfl
      rw [e]
      simp only [Instr.findNow, kf.same, List.findIdx?_cons]
      by_cases hk : k = p.1
      · have h2 : decide (p.1 = k) = true := by simp [hk]
        simp [hk]
      · have h2 : decide (p.1 = k) = false := by simp [Ne.symm hk]
        rw [decide_eq_false hk, h2]
        simp only [ih bs (i + 1) (by simpa using h)]
        cases hf : es.findIdx? fun p => decide (p.1 = k) with
        | none => simp
        | some j => simp; cases es[j]? <;> simp; omega
theorem getA_eq (es : List (α × Value)) (k : α) : getA es k = (es.findIdx? fun p => decide (p.1 = k)).bind fun j => (es[j]?).map (·.2) := by
  unfold getA
  induction es with
  | nil => rfl
  | cons p es ih =>
    rw [List.find?_cons, List.findIdx?_cons]
    by_cases hk : p.1 = k
    · simp [hk]
    · rw [decide_eq_false hk]
      simp only [ih]
      cases es.findIdx? fun p => decide (p.1 = k) <;> simp
theorem find_key {P : Program} {kt : TypeId} {w : World} (kf : KeyF d f) (hk : P.underlying kt = some d) (k : α) (es : List (α × Value)) (bs : List Nat) (h : bs.length = es.length) :
    (Instr.findKey kt (f k) (mkE f es bs)).run P w = .ok ((es.findIdx? fun p => decide (p.1 = k)).bind fun j => (es[j]?).map fun p => (j, p.2)) w := by
  have h2 := findNow_eq kf k es bs 0 h
  simp only [Nat.zero_add] at h2
  simp [Instr.findKey, Sem.run_bind, run_underlying hk, h2]
theorem stays_key {P : Program} {w : World} (kf : KeyF d f) (k : α) : (Instr.keyThatStays (f k) (f k)).run P w = .ok (f k) w := by
  simp [Instr.keyThatStays, kf.bits]
theorem getObj_run {P : Program} {w : World} {r : Nat} {en : Array MapEntry} {c : Nat} (h : w.heap[r]? = some (.map en c)) : (getObj r).run P w = .ok (.map en c) w := by simp [getObj, Sem.run, h]
theorem setObj_run {P : Program} {w : World} {r : Nat} {en : Array MapEntry} {c : Nat} (o' : Obj) (h : w.heap[r]? = some (.map en c)) : (setObj r o').run P w = .ok () (w.putObj r o') := by simp [setObj, Sem.run, h, World.putObj]
end
section
variable {P : Program} {w w0 : World} {H R : List SL} {ds : List Deferred} {α : Type} [DecidableEq α] {d : TypeDesc} {f : α → Value}
theorem Hv.mpIn {b : Nat} {es : List (α × Value)} (h : Hv w0 (mpk b f es :: R) w) : ∃ bs clock, bs.length = es.length ∧ bs.Nodup ∧ (∀ x ∈ bs, x < clock) ∧ w.heap[b]? = some (.map (mkE f es bs).toArray clock) := by
  obtain ⟨S, _, bs, _, h2, h3, c, h4, h5⟩ := h.ok
  exact ⟨bs, c, h2, h3, h4, h5⟩
theorem Hv.mpSet {b : Nat} {es es' : List (α × Value)} {bs' : List Nat} {c : Nat} (h : Hv w0 (mpk b f es :: R) w) (h1 : bs'.length = es'.length) (h2 : bs'.Nodup) (h3 : ∀ x ∈ bs', x < c) : Hv w0 (mpb b f es' bs' :: R) (w.putObj b (.map (mkE f es' bs').toArray c)) := by
  obtain ⟨bs, c0, _, _, _, h5⟩ := h.mpIn
  have hlt := (Array.getElem?_eq_some_iff.1 h5).1
  refine Hv.step (B := [mpb b f es' bs']) h fun S hS hb => ?_
  obtain ⟨_, hb, _⟩ := hb
  refine ⟨S, ⟨S, emp, fun b => ⟨.inl, fun h => h.elim id fun h => h.elim⟩, fun b _ h => h, ⟨hb, h1, h2, c, h3, World.putObj_heap_same hlt⟩, fun b h => h⟩, fun b h => .inl h, ?_⟩
  exact ⟨rfl, rfl, rfl, by simp, fun k hk hs => World.putObj_heap_other fun e => hs ((hb k).2 e)⟩
theorem Hv.mpAny {b : Nat} {es : List (α × Value)} {bs : List Nat} (h : Hv w0 (mpb b f es bs :: R) w) : Hv w0 (mpk b f es :: R) w := Hv.give bs h
class TyMap (P : Program) (t : TypeId) (k e : outParam Nat) (d : outParam TypeDesc) : Prop where
  u : P.underlying t = some (.map k e)
  k : P.underlying k = some d
instance {t : TypeId} {K : Value → St → Prop} [o : Hv w0 H w] : Step (Mm P t none K ⟨w, ds⟩) (∀ b w', Hv w0 (mp0 b :: H) w' → K (.map (some b)) ⟨w', ds⟩) := ⟨fun h => by
  have hn : Hv w0 (mp0 w.heap.size :: H) (w.alloc (.map #[] 0)) := by
    refine o.new (B := [mp0 w.heap.size]) ⟨fun b => b = w.heap.size, ⟨fun b => b = w.heap.size, emp, fun b => ⟨.inl, fun h => h.elim id fun h => h.elim⟩, fun b _ h => h, ⟨[], fun k => Iff.rfl, rfl, List.nodup_nil, 0, by simp, heap_alloc_new w _⟩, fun b h => h⟩, fun b h => by omega⟩ (Kept.alloc _ _ _)
  exact vl_ok (w' := w.alloc (.map #[] 0)) (by simp [Instr.makeMap, Sem.run_bind, run_newObj_alloc]) (h _ _ hn)⟩
theorem idx_lt {es : List (α × Value)} {k : α} {j : Nat} (h : (es.findIdx? fun p => decide (p.1 = k)) = some j) : ∃ v, es[j]? = some (k, v) := by
  obtain ⟨hl, h1, _⟩ := List.findIdx?_eq_some_iff_getElem.1 h
  have : es[j].1 = k := by simpa using h1
  exact ⟨es[j].2, by rw [List.getElem?_eq_getElem hl, ← this]⟩
theorem mkE_set {es : List (α × Value)} {bs : List Nat} {j : Nat} {k : α} {v0 v : Value} (hl : bs.length = es.length) (h : es[j]? = some (k, v0)) :
    (mkE f es bs).toArray.modify j (fun e => { e with key := f k, val := v }) = (mkE f (es.set j (k, v)) bs).toArray := by
  apply Array.toList_inj.1
  apply List.ext_getElem?
  intro i
  simp only [Array.toList_modify, List.getElem?_modify, mkE, List.getElem?_zipWith, List.getElem?_set]
  by_cases hij : j = i
  · subst hij
    have hj : j < es.length := (List.getElem?_eq_some_iff.1 h).1
    have hb : bs[j]? = some (bs[j]'(by omega)) := List.getElem?_eq_getElem _
    simp [h, hb, hj]
  · simp [hij]
theorem mkE_push {es : List (α × Value)} {bs : List Nat} {k : α} {v : Value} {c : Nat} (hl : bs.length = es.length) : (mkE f es bs).toArray.push ⟨f k, v, c⟩ = (mkE f (es ++ [(k, v)]) (bs ++ [c])).toArray := by
  apply Array.toList_inj.1
  simp only [mkE, List.push_toArray]
  rw [List.zipWith_append hl.symm]
  rfl
theorem mkE_del {es : List (α × Value)} {bs : List Nat} {j : Nat} : (mkE f es bs).eraseIdx j = mkE f (es.eraseIdx j) (bs.eraseIdx j) := by
  apply List.ext_getElem?
  intro i
  simp only [mkE, List.getElem?_eraseIdx, List.getElem?_zipWith]
  split <;> rfl
structure KeyR (P : Program) (kt : TypeId) (f : α → Value) : Prop where
  find : ∀ (k : α) (es : List (α × Value)) (bs : List Nat) (w : World), bs.length = es.length → (Instr.findKey kt (f k) (mkE f es bs)).run P w = .ok ((es.findIdx? fun p => decide (p.1 = k)).bind fun j => (es[j]?).map fun p => (j, p.2)) w
  stays : ∀ (k : α) (w : World), (Instr.keyThatStays (f k) (f k)).run P w = .ok (f k) w
  chk : ∀ (e : Bool) (k : α) (w : World), (Instr.checkKey e 10000 kt (f k)).run P w = .ok () w
theorem KeyR.of {kt : TypeId} (u : P.underlying kt = some d) (kf : KeyF d f) : KeyR P kt f := ⟨fun k es _ _ h => find_key kf u k es _ h, fun k _ => stays_key kf k, fun e k w => kf.chk P kt e k w u⟩
theorem map_putR {t b : Nat} {k : α} {x : Value} {es : List (α × Value)} {kt e : Nat} (u : P.underlying t = some (.map kt e)) (kr : KeyR P kt f) (h : Hv w0 (mpk b f es :: R) w) : ∃ w', (Instr.mapUpdate t (.map (some b)) (f k) x).run P w = .ok () w' ∧ Hv w0 (mpk b f (putA es k x) :: R) w' := by
  obtain ⟨bs, clock, h1, h2, h3, h4⟩ := h.mpIn
  have hc : ∀ w, (Instr.checkKey false 10000 kt (f k)).run P w = .ok () w := fun w => kr.chk false k w
  have hf : ∀ w, (Instr.findKey kt (f k) (mkE f es bs)).run P w = _ := fun w => kr.find k es bs w h1
  have hs : ∀ w, (Instr.keyThatStays (f k) (f k)).run P w = .ok (f k) w := fun w => kr.stays k w
  cases hi : es.findIdx? fun p => decide (p.1 = k) with
  | none =>
    have hn : (∀ x ∈ bs ++ [clock], x < clock + 1) ∧ (bs ++ [clock]).Nodup := by
      refine ⟨fun x hx => ?_, ?_⟩
      · rcases List.mem_append.1 hx with h | h
        · have := h3 x h; omega
        · simp at h; omega
      · rw [List.nodup_append]
        exact ⟨h2, by simp, fun a ha b hb => by simp at hb; have := h3 a ha; omega⟩
    refine ⟨w.putObj b (.map (mkE f (es ++ [(k, x)]) (bs ++ [clock])).toArray (clock + 1)), ?_, ?_⟩
    · have hf' := hf w
      rw [hi] at hf'
      simp only [Option.bind_none] at hf'
      simp only [Instr.mapUpdate, Sem.run_bind, run_underlying u, Result.andThen_ok, getObj_run h4, hc, hf', setObj_run _ h4, mkE_push h1]
    · have : putA es k x = es ++ [(k, x)] := by unfold putA; rw [hi]
      rw [this]
      exact (h.mpSet (by simp [h1]) hn.2 hn.1).mpAny
  | some j =>
    obtain ⟨v0, hv0⟩ := idx_lt hi
    obtain ⟨bj, _, hej⟩ := mkE_get f es bs j _ h1 hv0
    have hkey : ((((mkE f es bs).toArray[j]?).map (·.key)).getD (f k)) = f k := by simp [hej]
    refine ⟨w.putObj b (.map (mkE f (es.set j (k, x)) bs).toArray clock), ?_, ?_⟩
    · have hf' := hf w
      rw [hi] at hf'
      simp only [Option.bind_some, hv0, Option.map_some] at hf'
      simp only [Instr.mapUpdate, Sem.run_bind, run_underlying u, Result.andThen_ok, getObj_run h4, hc, hf', hkey, hs, setObj_run _ h4, mkE_set h1 hv0]
    · have : putA es k x = es.set j (k, x) := by unfold putA; rw [hi]
      rw [this]
      exact (h.mpSet (by simp [h1]) h2 h3).mpAny
theorem map_put {t b : Nat} {k : α} {x : Value} {es : List (α × Value)} {kt e : Nat} [u : TyMap P t kt e d] [kf : KeyF d f] (h : Hv w0 (mpk b f es :: R) w) : ∃ w', (Instr.mapUpdate t (.map (some b)) (f k) x).run P w = .ok () w' ∧ Hv w0 (mpk b f (putA es k x) :: R) w' := map_putR u.u (.of u.k kf) h
def orZ (o : Option Value) (z : Value) : Value := o.getD z
theorem map_getR {t b : Nat} {k : α} {es : List (α × Value)} {kt e : Nat} {z : Value} {ok : Bool} (u : P.underlying t = some (.map kt e)) (kr : KeyR P kt f) (hz : (zeroValue e).run P w = .ok z w) (h : Hv w0 (mpk b f es :: R) w) :
    (Instr.lookup t (.map (some b)) (f k) ok).run P w = .ok (if ok then .tuple #[orZ (getA es k) z, .bool (getA es k).isSome] else orZ (getA es k) z) w := by
  obtain ⟨bs, clock, h1, h2, h3, h4⟩ := h.mpIn
  have hc : ∀ e w, (Instr.checkKey e 10000 kt (f k)).run P w = .ok () w := fun e w => kr.chk e k w
  have hf := kr.find k es bs w h1
  have hg := getA_eq es k
  cases hi : es.findIdx? fun p => decide (p.1 = k) with
  | none =>
    rw [hi] at hf hg
    simp only [Option.bind_none] at hf hg
    simp only [Instr.lookup, Sem.run_bind, run_underlying u, Result.andThen_ok, getObj_run h4, hc, hf, hz, Sem.run_pure, hg, orZ]
    cases ok <;> rfl
  | some j =>
    obtain ⟨v0, hv0⟩ := idx_lt hi
    rw [hi] at hf hg
    simp only [Option.bind_some, hv0, Option.map_some] at hf hg
    simp only [Instr.lookup, Sem.run_bind, run_underlying u, Result.andThen_ok, getObj_run h4, hc, hf, Sem.run_pure, hg, orZ]
    cases ok <;> rfl
theorem map_get {t b : Nat} {k : α} {es : List (α × Value)} {kt e : Nat} {z : Value} {ok : Bool} (u : TyMap P t kt e d) (kf : KeyF d f) (hz : (zeroValue e).run P w = .ok z w) (h : Hv w0 (mpk b f es :: R) w) :
    (Instr.lookup t (.map (some b)) (f k) ok).run P w = .ok (if ok then .tuple #[orZ (getA es k) z, .bool (getA es k).isSome] else orZ (getA es k) z) w := map_getR u.u (.of u.k kf) hz h
theorem map_delR {t b : Nat} {k : α} {es : List (α × Value)} {kt e ty : Nat} {ts : List Nat} (u : P.underlying t = some (.map kt e)) (kr : KeyR P kt f) (h : Hv w0 (mpk b f es :: R) w) : ∃ w', (Builtin.delete_ (t :: ts).toArray ty #[.map (some b), f k]).run P w = .ok (.tuple #[]) w' ∧ Hv w0 (mpk b f (delA es k) :: R) w' := by
  obtain ⟨bs, clock, h1, h2, h3, h4⟩ := h.mpIn
  have hc : ∀ e w, (Instr.checkKey e 10000 kt (f k)).run P w = .ok () w := fun e w => kr.chk e k w
  have hf := kr.find k es bs w h1
  have ht : ((t :: ts).toArray[0]? : Option Nat) = some t := rfl
  cases hi : es.findIdx? fun p => decide (p.1 = k) with
  | none =>
    rw [hi] at hf
    simp only [Option.bind_none] at hf
    refine ⟨w.putObj b (.map (mkE f es bs).toArray clock), ?_, ?_⟩
    · simp [Builtin.delete_, Sem.run_bind, run_underlying u, getObj_run h4, hc, hf, setObj_run _ h4]
    · have : delA es k = es := by unfold delA; rw [hi]
      rw [this]
      exact (h.mpSet h1 h2 h3).mpAny
  | some j =>
    obtain ⟨v0, hv0⟩ := idx_lt hi
    have hj : j < es.length := (List.getElem?_eq_some_iff.1 hv0).1
    rw [hi] at hf
    simp only [Option.bind_some, hv0, Option.map_some] at hf
    refine ⟨w.putObj b (.map (mkE f (es.eraseIdx j) (bs.eraseIdx j)).toArray clock), ?_, ?_⟩
    · simp [Builtin.delete_, Sem.run_bind, run_underlying u, getObj_run h4, hc, hf, setObj_run _ h4, mkE_del]
    · have : delA es k = es.eraseIdx j := by unfold delA; rw [hi]
      rw [this]
      refine (h.mpSet ?_ (h2.sublist (List.eraseIdx_sublist _ _)) fun x hx => h3 x ((List.eraseIdx_sublist _ _).subset hx)).mpAny
      rw [List.length_eraseIdx, List.length_eraseIdx, h1]
theorem map_del {t b : Nat} {k : α} {es : List (α × Value)} {kt e ty : Nat} {ts : List Nat} [u : TyMap P t kt e d] [kf : KeyF d f] (h : Hv w0 (mpk b f es :: R) w) : ∃ w', (Builtin.delete_ (t :: ts).toArray ty #[.map (some b), f k]).run P w = .ok (.tuple #[]) w' ∧ Hv w0 (mpk b f (delA es k) :: R) w' := map_delR u.u (.of u.k kf) h
end
section
variable {P : Program} {w w0 : World} {H R : List SL} {ds : List Deferred}
instance {t b kt e : Nat} {z : List UInt8} {x : Value} {es : List (List UInt8 × Value)} {d : TypeDesc} {K : Value → St → Prop} [o : Hv w0 H w] [m : MapIn H b (fun l => str l) es R] [u : TyMap P t kt e d] [kf : KeyF d (fun l => str l)] : Step (Mu P t (.map (some b)) (str z) x K ⟨w, ds⟩) (∀ w', Hv w0 (mpk b (fun l => str l) (putA es z x) :: R) w' → K undef ⟨w', ds⟩) := ⟨fun h => by
  obtain ⟨w', h1, h2⟩ := map_put (P := P) (t := t) (k := z) (x := x) (Hv.perm m.perm o)
  exact ut_ok h1 (h _ h2)⟩
class TyZV (P : Program) (t : TypeId) (z : outParam Value) : Prop where run : ∀ w, (zeroValue t).run P w = .ok z w
end
end Go.Vx

namespace Go.Vx
open Go.RowKit Go.Lib
theorem tyz_of {P : Program} {t : TypeId} {i : TypeInfo} {z : Value} (hi : P.info? t = some i) (hz : i.zero = some z) (w : World) : (zeroValue t).run P w = .ok z w := by simp [zeroValue, typeInfo, hi, hz]
class TyInf (P : Program) (t : TypeId) (n : outParam Nat) : Prop where ex : ∃ i, P.info? t = some i ∧ i.size = n
class TyUn (P : Program) (t : TypeId) : Prop where eq : P.underlying t = some .unsafePointer
class TyLie (P : Program) (t : Nat) (n : outParam Nat) : Prop where eq : liesAt P P.depth t (n / P.cellsOf t) 0 t 1 = true
class ExNoE (P : Program) (g : Nat) : Prop where
  run : ∀ (args : Array Value) (w : World), (callFunc g args).run P w = ((Extern.AbiNoEscape.same args).run P w).andThen fun v w' => .ok (.value v) w'
section
variable {P : Program} {w w0 : World} {H R : List SL} {ds : List Deferred}
instance (priority := high) {d t e n : Nat} {a : Addr} [u : TyU P t (.pointer e)] [i : TyInf P e n] : EqV P (d + 1) t (.pointer (some a)) (.pointer (some a)) true := ⟨fun w => by
  obtain ⟨j, hj, _⟩ := i.ex
  by_cases h : n = 0
  · simp [Op.equalIn, run_underlying u.eq, sizeOf, typeInfo, hj, run_sameAddr_same]
  · simp [Op.equalIn, run_underlying u.eq, sizeOf, typeInfo, hj, run_sameAddr_same]⟩
theorem box_shape {b t : Nat} {cs : List Value} (h : Hv w0 (box b t cs :: R) w) : w.shape? b = some (t, cs.length) := by
  simp [World.shape?, h.at]
instance {src dst b t n : Nat} {x : Value} {cs : List Value} [hs : TyU P src (.pointer t)] [hd : TyUn P dst] [i : TyInf P t n] [o : Hv w0 H w] [ib : BoxIn H b t (x :: cs) R] : VS (Cv P src dst (.pointer (some ⟨b, 0, none⟩))) w (n ≠ 0) (.pointer (some ⟨b, 0, none⟩)) := VS.of fun h => by
  obtain ⟨j, hj, hz⟩ := i.ex
  have h1 := Hv.perm ib.perm.1 o
  exact run_to_unsafe w ⟨b, 0, none⟩ hs.eq hd.eq hj (by omega) (box_shape h1) (by simp)
instance {src dst b t n m : Nat} {cs : List Value} [hs : TyUn P src] [hd : TyU P dst (.pointer t)] [i : TyInf P t n] [o : Hv w0 H w] [ib : BoxIn H b t cs R] [li : TyLie P t m] [l : Len cs m] : VT (Cv P src dst (.pointer (some ⟨b, 0, none⟩))) w (.pointer (some ⟨b, 0, none⟩)) := VT.of (by
  obtain ⟨j, hj, hz⟩ := i.ex
  have h1 := Hv.perm ib.perm.1 o
  have h2 := box_shape h1
  rw [l.eq] at h2
  exact run_from_unsafe w ⟨b, 0, none⟩ hs.eq hd.eq hj h2 li.eq)
instance {g : Nat} {v : Value} [e : ExNoE P g] : VT (Dy P (.func (.func g) #[] #[]) #[v]) w v := ⟨fun k => ⟨by
  have h : (do let d ← Deferred.ofValue (.func (.func g) #[] #[]) #[v]; invoke d.target d.args : Sem Next).run P w = (callFunc g #[v]).run P w := by
    simp [Deferred.ofValue, invoke, Sem.run_bind, Sem.run_pure, Result.andThen]
  rw [h, e.run, run_noEscape]
  exact k⟩⟩
instance {ts cs : Array _} {ty : TypeId} {a : Addr} {n c : Nat} : VS (Bi P .unsafeSliceData ts ty cs #[.slice (some a) n c]) w (c ≠ 0) (.pointer (some a)) := ⟨fun h {K ds} k => bi_ok (m := Builtin.unsafeSliceData_ ts ty #[.slice (some a) n c]) rfl (run_unsafeSliceData_row w ts ty a n c h) k⟩
instance {ts cs : Array _} {ty : TypeId} {n c : Nat} : VT (Bi P .unsafeSliceData ts ty cs #[.slice none n c]) w (.pointer none) := ⟨fun {K ds} k => bi_ok (m := Builtin.unsafeSliceData_ ts ty #[.slice none n c]) rfl (run_unsafeSliceData_nil w ts ty n c) k⟩
theorem row_string {e pt it ty n : Nat} {v : Value} {l : List UInt8} (hp : P.underlying pt = some (.pointer e)) (hc : P.cellsOf e = 1) (hn : n = l.length) (h63 : l.length ≤ 1000000000) (h : Hv w0 (row e 1 v n (l.map byteV) :: R) w) :
    (v = .slice none 0 0 ∧ l = []) ∨ ∃ g cap, v = .slice (some ⟨g, 0, none⟩) n cap ∧ (0 < l.length → cap ≠ 0 ∧ ∃ w', (Builtin.unsafeString_ #[pt, it] ty #[.pointer (some ⟨g, 0, none⟩), .int .i64 l.length]).run P w = .ok (str l) w' ∧ Hv w0 (ro 1 v n (l.map byteV) :: R) w') := by
  subst hn
  obtain ⟨S, _, hS, hr, h1⟩ := h.ok
  rcases hr.2 with ⟨rfl, h0⟩ | ⟨g, cap, cur, rfl, hb, hg, hnc, hcm, hcs, htk⟩
  · exact .inl ⟨rfl, List.eq_nil_of_length_eq_zero h0⟩
  · refine .inr ⟨g, cap, rfl, fun hpos => ⟨by omega, ?_⟩⟩
    rw [Nat.mul_one] at hcs
    have hsh : w.shape? g = some (e, cur.size) := by simp [World.shape?, hg]
    have hcell : ∀ j x, l[j]? = some x → w.cell? ((⟨g, 0, none⟩ : Addr).add j) = some (.int .u8 x.toNat) := fun j x hj => hr.cells (g := g) rfl j _ (by simp [hj])
    have hrun := run_unsafeString_row (P := P) w pt it ty e hp hc g cur.size hsh l (by intro e; subst e; simp at hpos) (by omega) (by omega) hcell
    refine ⟨_, hrun, Hv.step (B := [ro 1 (.slice (some ⟨g, 0, none⟩) l.length cap) l.length (l.map byteV)]) h fun S' hS' hr' => ?_⟩
    have hne0 : ¬ l.length = 0 := by omega
    have hfz : w.freeze ⟨g, 0, none⟩ l.length = _ := if_neg hne0
    have hg' : ∃ fz, (w.freeze ⟨g, 0, none⟩ l.length).heap[g]? = some (.cells cur e fz) := by
      rw [hfz]; simp [hg, Array.getElem?_modify]
    obtain ⟨fz, hg'⟩ := hg'
    refine ⟨S', ⟨S', emp, fun b => ⟨.inl, fun h => h.elim id fun h => h.elim⟩, fun b _ h => h, ⟨hr'.1, hr.1, h1, g, cap, cur, e, _, rfl, hg', hnc, hcm, htk⟩, fun b h => h⟩, fun b h => .inl h, ?_⟩
    rw [hfz]
    refine ⟨rfl, rfl, rfl, by simp, fun k hk hs => ?_⟩
    have hne : k ≠ g := fun e => hs ((hr'.1 k).2 (by rw [e]; rfl))
    simp [Array.getElem?_modify, Ne.symm hne]
def capOk (v : Value) : Prop := v = .slice none 0 0 ∨ ∃ a n c, v = .slice (some a) n c ∧ c ≠ 0
def sbd (t e b : Nat) (bs : List UInt8) : SL := any fun q : Bool × Value => many [lift (capOk q.2), box b t [.pointer (if q.1 then some ⟨b, 0, none⟩ else none), q.2], row e 1 q.2 bs.length (bs.map byteV)]
theorem sbd_open {t e b : Nat} {bs : List UInt8} (h : Hv w0 (sbd t e b bs :: H) w) : ∃ (q : Bool) (v : Value), capOk v ∧ Hv w0 (box b t [.pointer (if q then some ⟨b, 0, none⟩ else none), v] :: row e 1 v bs.length (bs.map byteV) :: H) w := by
  obtain ⟨⟨q, v⟩, h⟩ := h.pick
  have h := h.opens
  exact ⟨q, v, h.lifted, h.tail⟩
theorem sbd_close' {t e b : Nat} {bs : List UInt8} (q : Bool) {v : Value} (hv : capOk v) (h : Hv w0 (box b t [.pointer (if q then some ⟨b, 0, none⟩ else none), v] :: row e 1 v bs.length (bs.map byteV) :: H) w) : Hv w0 (sbd t e b bs :: H) w :=
  Hv.give (q, v) (Hv.closes (H := [_, _, _]) (Hv.lift h hv))
theorem cap_row {e n : Nat} {v : Value} {xs : List Value} (h : Hv w0 (row e 1 v n xs :: H) w) (hv : v = .slice none 0 0 ∨ 0 < n) : capOk v := by
  rcases hv with hv | hv
  · exact .inl hv
  · obtain ⟨S, _, _, hr, _⟩ := h.ok
    rcases hr.2 with ⟨rfl, h0⟩ | ⟨g, cap, cur, rfl, _, _, hnc, _⟩
    · exact .inl rfl
    · exact .inr ⟨_, _, _, rfl, by omega⟩
theorem sbd_close {t e b : Nat} {bs : List UInt8} (q : Bool) {v : Value} (hv : v = .slice none 0 0 ∨ 0 < bs.length) (h : Hv w0 (box b t [.pointer (if q then some ⟨b, 0, none⟩ else none), v] :: row e 1 v bs.length (bs.map byteV) :: H) w) : Hv w0 (sbd t e b bs :: H) w :=
  sbd_close' q (cap_row (Hv.perm sep_swap h) hv) h
theorem sbd_new {t e b : Nat} (h : Hv w0 (box b t [.pointer none, .slice none 0 0] :: H) w) : Hv w0 (sbd t e b [] :: H) w :=
  sbd_close false (.inl rfl) (Hv.perm sep_swap (Hv.nilRow e 1 h))
class SbIn (H : List SL) (b : Nat) (t e : outParam Nat) (bs : outParam (List UInt8)) (R : outParam (List SL)) : Prop where perm : ∀ {S w}, sep H S w → sep (sbd t e b bs :: R) S w
instance (priority := high) {t e b : Nat} {bs : List UInt8} {H : List SL} : SbIn (sbd t e b bs :: H) b t e bs H := ⟨id⟩
instance {A : SL} {t e b : Nat} {bs : List UInt8} {H R : List SL} [h : SbIn H b t e bs R] : SbIn (A :: H) b t e bs (A :: R) := ⟨fun x => sep_swap (sep_cons h.perm x)⟩
theorem subSb {t e b : Nat} {H' R G : List SL} {xs ys : List UInt8} [r : SbIn H' b t e xs R] (h : xs = ys) (k : Sub R G) : Sub H' (sbd t e b ys :: G) := ⟨fun h' => by
  subst h; exact (Sub.cons k).sub (r.perm h')⟩
end
end Go.Vx

namespace Go.Vx
open Go.RowKit Go.Lib
theorem inf_of {P : Program} {t : TypeId} {i : TypeInfo} (h : P.types[t]? = some i) : P.info? t = some i := by
  have hlt : t < P.types.size := (Array.getElem?_eq_some_iff.1 h).1
  unfold Tables.info?
  rw [if_pos hlt]; exact h
theorem binOp_quo' {t : TypeId} {k : IntKind} {a b : Int} : binOp .quo t (.int k a) (.int k b) = Op.intDiv .quo k a b := by simp [binOp]
section
variable {P : Program} {w w0 : World} {H : List SL} {t : TypeId} {cx cy : Bool}
instance {a b : Int} : VS (Bo P .quo t cx cy (.int .i64 a) (.int .i64 b)) w (b ≠ 0 ∧ InR (a.tdiv b)) (.int .i64 (a.tdiv b)) := VS.of fun h => by
  rw [bo_int, binOp_quo']; simp only [Op.intDiv, if_neg h.1, Sem.run_pure, wrap64 h.2]
class Tab (P : Program) (w0 : World) (name : String) (k : IntKind) (zs : outParam (List Int)) : Prop where eq : TabIs P w0 name k zs
theorem Hv.tab {name : String} {k : IntKind} {zs : List Int} (o : Hv w0 H w) (h : TabIs P w0 name k zs) : TabIs P w name k zs := by
  unfold TabIs World.var? at *
  cases hg : P.globalNamed name with
  | none => rw [hg] at h; simp at h
  | some g =>
    rw [hg] at h
    simp only [Option.bind_some] at h ⊢
    have hlt : g < w0.heap.size := by
      rcases Nat.lt_or_ge g w0.heap.size with x | x
      · exact x
      · rw [Array.getElem?_eq_none x] at h; cases h
    rw [o.bel.block g hlt]; exact h
theorem Hv.grown {os : Array Obj} {k : Nat} (o : Hv w0 H w) : Hv w0 H (Go.Sort.grow (w.drewN k) os) :=
  o.same ⟨rfl, rfl, rfl, by simp [Go.Sort.grow, World.drewN], fun j hj _ => by
    simp only [Go.Sort.grow, World.drewN]; exact Array.getElem?_append_left hj⟩
end
theorem ext_str (l : List UInt8) (a b : Nat) : (ByteArray.mk l.toArray).extract a b = ByteArray.mk ((l.take b).drop a).toArray := by
  apply ByteArray.ext
  simp only [ByteArray.data_extract, List.extract_toArray, List.extract_eq_drop_take]
  rw [List.drop_take]
section
variable {P : Program} {w : World} {t i j : Nat} {l : List UInt8} {k k' : IntKind} {z z' : Int}
instance [u : TyU P t .string] [n : ToN z i] : VS (Sl P t (str l) (some (.int k z)) none none) w (0 ≤ z ∧ z ≤ l.length) (str (l.drop i)) := VS.of fun h => by
  have e := n.eq h.1
  rw [run_sliceAt_string w t _ _ _ _ u.eq, run_slice_string_l w t _ u.eq k z h.1 (by simpa [ByteArray.size] using h.2), e, ext_str]
  simp [ByteArray.size, str]
instance [u : TyU P t .string] [n : ToN z i] : VS (Sl P t (str l) none (some (.int k z)) none) w (0 ≤ z ∧ z ≤ l.length) (str (l.take i)) := VS.of fun h => by
  have e := n.eq h.1
  rw [run_sliceAt_string w t _ _ _ _ u.eq, run_slice_string_h w t _ u.eq k z h.1 (by simpa [ByteArray.size] using h.2), e, ext_str]
  simp [str]
instance [u : TyU P t .string] [n : ToN z i] [m : ToN z' j] : VS (Sl P t (str l) (some (.int k z)) (some (.int k' z')) none) w (0 ≤ z ∧ z ≤ z' ∧ z' ≤ l.length) (str ((l.take j).drop i)) := VS.of fun h => by
  have e := n.eq h.1
  have e' := m.eq (by omega)
  have hsz : (ByteArray.mk l.toArray).size = l.length := by simp [ByteArray.size]
  have h3 : z'.toNat ≤ l.length := by omega
  have hj : (j : Int) = z' := by omega
  rw [run_sliceAt_string w t _ _ _ _ u.eq]
  simp [Instr.slice, str, run_underlying u.eq, Instr.sliceBounds, Sem.run_bind, run_sliceBound, h.1, h.2.1, h.2.2, show 0 ≤ z' by omega, hsz, e, e', hj, ext_str]
end
theorem dec_big {u : Nat} (h : ¬ u < 10) : decDigits u = decDigits (u / 10) ++ [UInt8.ofNat (48 + u % 10)] := by rw [decDigits, dif_neg h]
theorem inR_of {z : Int} (h : (Lit.int .i64 z).wf = true) : InR z := by
  unfold InR
  have := h
  simp [Lit.wf, IntKind.min, IntKind.max, IntKind.signed, IntKind.bits] at this
  omega
end Go.Vx

namespace Go.Vx
open Go.RowKit Go.Lib
section
variable {P : Program} {w w0 : World} {H R : List SL} {ds : List Deferred}
instance (priority := high) {t e size : Nat} {K : Value → St → Prop} [o : Hv w0 H w] [u : TySl P t e size] :
    Step (Bs P t 0 ([] : List (Nat × Value)).toArray K ⟨w, ds⟩) (∀ v w', Hv w0 (row e size v 0 [] :: H) w' → K v ⟨w', ds⟩) := ⟨fun h => by
  obtain ⟨i, z0, hu, hi, hz, hs, hzs, hpos, _⟩ := u.info
  have hrun : (sizeOf e).run P w = .ok size w := by simp [sizeOf, typeInfo, hi, hs]
  refine vl_ok (w' := w.alloc (.cells #[] e)) (v := .slice (some ⟨w.heap.size, 0, none⟩) 0 0) ?_ (h _ _ (o.rowNew (m := 0) ?_ (fun u hu => by simp at hu) (Kept.alloc _ _ _) ?_))
  · simp only [Instr.buildSlice, Sem.run_bind, run_underlying hu, Result.andThen_ok, hrun]
    simp [Instr.fill, newRow]
    congr 2
    exact Array.eq_empty_of_size_eq_zero (by simp)
  · have := World.ownsRow_lit (base := 0) (e := e) (size := size) w #[] 0 (Nat.zero_le _) (by simp [maxLen]) (by simp)
    simpa using this
  · intro k hk
    simp only [Value.ownBlock, Option.some.injEq] at hk
    omega⟩
theorem flat_drop {α : Type} {enc : α → List Value} {s : Nat} (he : ∀ x, (enc x).length = s) (ys : List α) : ∀ i, (ys.flatMap enc).drop (i * s) = (ys.drop i).flatMap enc := by
  induction ys with
  | nil => intro i; simp
  | cons y ys ih =>
    intro i
    cases i with
    | zero => simp
    | succ i =>
      rw [List.flatMap_cons, List.drop_append, List.drop_succ_cons, ← ih i, he, List.drop_of_length_le (by rw [he, Nat.add_mul]; omega)]
      rw [show (i + 1) * s - s = i * s by rw [Nat.add_mul]; omega]; simp
theorem flat_take {α : Type} {enc : α → List Value} {s : Nat} (he : ∀ x, (enc x).length = s) (ys : List α) : ∀ i, (ys.flatMap enc).take (i * s) = (ys.take i).flatMap enc := by
  induction ys with
  | nil => intro i; simp
  | cons y ys ih =>
    intro i
    cases i with
    | zero => simp
    | succ i =>
      rw [List.flatMap_cons, List.take_append, List.take_succ_cons, List.flatMap_cons, ← ih i, he, List.take_of_length_le (by rw [he, Nat.add_mul]; omega)]
      rw [show (i + 1) * s - s = i * s by rw [Nat.add_mul]; omega]
class EncTy (e : Nat) (α : outParam Type) (enc : outParam (α → List Value)) (s : outParam Nat) : Prop where eq : ∀ x, (enc x).length = s
end
section
variable {P : Program} {w : World}
instance {tys : Array TypeId} {ty : TypeId} {cs : Array Bool} {k : IntKind} {x y : Int} : VT (Bi P .min tys ty cs #[.int k x, .int k y]) w (.int k (min x y)) := ⟨fun h => by
  have e : (if y < x then y else x) = min x y := by omega
  exact bi_ok (m := Builtin.min_ tys ty #[.int k x, .int k y]) rfl (by rw [run_min_int2, e]) h⟩
instance {tys : Array TypeId} {ty : TypeId} {cs : Array Bool} {k : IntKind} {x y : Int} : VT (Bi P .max tys ty cs #[.int k x, .int k y]) w (.int k (max x y)) := ⟨fun h => by
  have e : (if y > x then y else x) = max x y := by omega
  exact bi_ok (m := Builtin.max_ tys ty #[.int k x, .int k y]) rfl (by rw [run_max_int2, e]) h⟩
end
theorem idx_eq (l : List UInt8) (c : UInt8) : indexByte l c = idxB l c := by
  induction l with
  | nil => rfl
  | cons b l ih =>
    unfold indexByte
    unfold idxB at ih ⊢
    rw [List.findIdx?_cons]
    by_cases h : b == c
    · simp [h]
    · simp only [h, Bool.false_eq_true, if_false]
      rw [ih]
      cases List.findIdx? (· == c) l with
      | none => rfl
      | some i => simp
end Go.Vx

namespace Go.Vx
open Go.RowKit Go.Lib
theorem list_ofQ {α : Type} [Inhabited α] (p : Nat → α → Prop) : ∀ n, (∀ i, i < n → ∃ y, p i y) → ∃ l : List α, l.length = n ∧ ∀ i, i < n → p i (l.getD i default) := by
  intro n
  induction n with
  | zero => intro _; exact ⟨[], rfl, fun i h => by omega⟩
  | succ n ih =>
    intro h
    obtain ⟨l, hl, hp⟩ := ih fun i hi => h i (by omega)
    obtain ⟨y, hy⟩ := h n (by omega)
    refine ⟨l ++ [y], by simp [hl], fun i hi => ?_⟩
    rcases Nat.lt_or_ge i n with q | q
    · have := hp i q
      rwa [List.getD_eq_getElem?_getD, List.getElem?_append_left (by omega), ← List.getD_eq_getElem?_getD]
    · obtain rfl : i = n := by omega
      rw [List.getD_eq_getElem?_getD, List.getElem?_append_right (by omega), hl, Nat.sub_self]
      exact hy
section
variable {H : Type} {enc : TypeId × Value → H} {P : Program} {W : World} {sp : Nat → Bool} {held : Bool}
theorem weightsAll_mem {e : TypeId} : ∀ {l : List (DataW H)} {d : DataW H}, d ∈ l → ∀ n ∈ d.weights P e, n ∈ DataW.weightsAll P e l
  | d' :: r, d, hd, n, hn => by
    simp only [DataW.weightsAll, List.mem_append]
    rcases List.mem_cons.1 hd with rfl | h
    · exact Or.inl hn
    · exact Or.inr (weightsAll_mem h n hn)
theorem struct_strW {fs : Array Field} {t i fuel : Nat} {f : Field} {cs : List Value} {x : DataW H × List MemPlace} (ht : P.underlying t = some (.struct fs)) (h : DataW.trod enc P W 0 sp held fuel t cs = some x) (hf : fs[i]? = some f) (hu : P.underlying f.type = some .string) (hc : P.cellsOf f.type = 1) :
    ∃ s : ByteArray, cs[f.offset]? = some (.string s) ∧ s.data.toList.length ∈ x.1.weights P t := by
  obtain ⟨xs, n, _, hx, hl, hlen, hall⟩ := DataW.trod_struct ht h
  have h1 := hall i f hf
  rw [hc] at h1
  have hi : i < xs.length := by rw [hlen]; exact (Array.getElem?_eq_some_iff.1 hf).1
  rw [List.getElem?_eq_getElem hi] at h1
  obtain ⟨s, h2, h3⟩ := DataW.trod_string hu h1
  refine ⟨s, take_one h2, ?_⟩
  rw [hx]
  simp only [DataW.weights, ht]
  refine DataW.weights_mem_each (j := i) (t := f.type) (d := .lit (.string s.data.toList)) (by simpa using congrArg (Option.map (·.type)) hf) ?_ _ (by simp [DataW.weights])
  rw [List.getElem?_map, List.getElem?_eq_getElem hi]
  simp [h3]
theorem sized_mem {ts : List TypeId} {ds : List (DataW H)} (h : (DataW.weightsEach P ts ds).all (· ≤ reachBytes) = true) {j : Nat} {t e : TypeId} {es sps : List (DataW H)} {d : DataW H} (ht : ts[j]? = some t) (hd : ds[j]? = some (.slice es sps)) (hu : P.underlying t = some (.slice e)) (hm : d ∈ es) {n : Nat} (hn : n ∈ d.weights P e) : n ≤ 140737488351232 := by
  have := List.all_eq_true.1 h _ (DataW.weights_mem_each ht hd n (by simp only [DataW.weights, hu]; exact List.mem_cons_of_mem _ (List.mem_append_left _ (weightsAll_mem hm n hn))))
  exact of_decide_eq_true this
end
end Go.Vx

namespace Go.Vx
open Go.RowKit
def srow (v : Value) (n : Nat) (bs : List UInt8) : SL where
  ok S w := (∀ k, S k ↔ v.ownBlock = some k) ∧ bs.length = n ∧ ∃ g cap cur e fz, v = .slice (some ⟨g, 0, none⟩) n cap ∧ w.heap[g]? = some (.cells cur e (fz, fz + 1)) ∧ cur.size ≤ fz ∧ n ≤ cap ∧ cap ≤ maxLen ∧ cur.toList.take n = bs.map byteV
  loc {S w w'} he h := by
    obtain ⟨h1, h2, g, cap, cur, e, fz, hv, hg, r⟩ := h
    exact ⟨h1, h2, g, cap, cur, e, fz, hv, by rw [he g ((h1 g).2 (by rw [hv]; rfl))]; exact hg, r⟩
  lt {S w} h k hk := by
    obtain ⟨h1, h2, g, cap, cur, e, fz, hv, hg, r⟩ := h
    have := (h1 k).1 hk
    rw [hv] at this
    simp only [Value.ownBlock, Option.some.injEq] at this
    subst this
    exact (Array.getElem?_eq_some_iff.1 hg).1
class SrIn (H : List SL) (v : Value) (n : outParam Nat) (bs : outParam (List UInt8)) (R : outParam (List SL)) : Prop where perm : ∀ {S w}, sep H S w ↔ sep (srow v n bs :: R) S w
instance (priority := high) {n : Nat} {v : Value} {bs : List UInt8} {H : List SL} : SrIn (srow v n bs :: H) v n bs H := ⟨Iff.rfl⟩
theorem subSrow {H' R G : List SL} {v : Value} {n m : Nat} {xs ys : List UInt8} [r : SrIn H' v n xs R] (h1 : n = m) (h2 : xs = ys) (k : Sub R G) : Sub H' (srow v m ys :: G) := ⟨fun h => by
  subst h1 h2; exact k.cons.sub (r.perm.1 h)⟩
theorem rds_srow {S : Nat → Prop} {w : World} {v : Value} {n : Nat} {bs : List UInt8} (h : (srow v n bs).ok S w) : Rds w v 1 n (bs.map byteV) := by
  obtain ⟨h1, h2, g, cap, cur, e, fz, hv, hg, hf, hnc, hcm, ht⟩ := h
  refine ⟨by simp [h2], fun u hu => ?_, by omega, some ⟨g, 0, none⟩, cap, hv, (fun h => by cases h), hnc, fun j u hu => ⟨_, rfl, ?_⟩⟩
  · obtain ⟨b, _, rfl⟩ := List.mem_map.1 hu; rfl
  · rw [addr_add, Nat.zero_add, cell_of_row w g j cur e _ hg]
    rw [← ht, List.getElem?_take] at hu
    split at hu
    · simpa using hu
    · cases hu
theorem SrIn.rds {H R : List SL} {v : Value} {n : Nat} {bs : List UInt8} (i : SrIn H v n bs R) {w w0 : World} (o : Hv w0 H w) : Rds w v 1 n (bs.map byteV) := by
  obtain ⟨S, _, h⟩ := (Hv.perm i.perm.1 o).ok
  exact rds_srow h
instance {w w0 : World} {H R : List SL} {n : Nat} {v : Value} {bs : List UInt8} [o : Hv w0 H w] [i : SrIn H v n bs R] : Rds w v 1 n (bs.map byteV) := i.rds o
section
variable {P : Program} {w w0 : World} {H R : List SL} {ds : List Deferred}
theorem grown_lim (e : TypeId) {n : Nat} (h : n ≤ 100000) : grownCap w n 0 e ≤ maxLen := grownCap_le_maxLen w n 0 e (by simp only [maxLen]; omega)
instance {src dst e : TypeId} {l : List UInt8} {K : Value → St → Prop} [o : Hv w0 H w] [hs : TyU P src .string] [hd : TyU P dst (.slice e)] [he : TyU P e (.int .u8)] :
    Step (Cv P src dst (str l) K ⟨w, ds⟩) (l.length ≤ 100000 ∧ ∀ v w', Hv w0 (srow v l.length l :: H) w' → K v ⟨w', ds⟩) := ⟨fun ⟨hl, h⟩ => by
  have hg := grownCap_ge w l.length 0 e
  have hm := grown_lim (w := w) e hl
  refine vl_ok (run_bytes_of_string w src dst e ⟨l.toArray⟩ hs.eq hd.eq he.eq) (h _ _ (o.new (B := [srow _ _ _]) ⟨fun k => k = w.heap.size, ⟨_, emp, fun b => ⟨.inl, fun h => h.elim id fun h => h.elim⟩, fun b _ h => h, ?_, fun b h => h⟩, fun b hb => by omega⟩ ?_))
  · refine ⟨fun k => by simp only [Value.ownBlock, Option.some.injEq]; exact eq_comm, rfl, w.heap.size, grownCap w l.length 0 e, bytesRow ⟨l.toArray⟩ (grownCap w l.length 0 e), e, _, rfl, ?_, Nat.le_refl _, hg, hm, ?_⟩
    · show (w.heap.push _)[w.heap.size]? = _
      rw [Array.getElem?_push]
      exact if_pos rfl
    · simp [bytesRow]
  · exact ⟨rfl, rfl, rfl, by simp, fun k hk _ => Below.heap_alloc w.drew _ k hk⟩⟩
instance {t i n : Nat} {a : Addr} {v : Value} {bs : List UInt8} {c : UInt8} {K : Value → St → Prop} [o : Hv w0 H w] [ix : IxA v i 1 a] [r : SrIn H v n bs R] [ts : TySize P t 1] :
    Step (Sv P t (.pointer (some a)) (byteV c) K ⟨w, ds⟩) (∀ w', Hv w0 (srow v n (bs.set i c) :: R) w' → K undef ⟨w', ds⟩) := ⟨fun h => by
  have h1 := Hv.perm r.perm.1 o
  obtain ⟨base, n', cap', hv', hi, rfl⟩ := ix.ex
  obtain ⟨S, hS, h1', h2, g, cap, cur, e, fz, hv, hg, hf, hnc, hcm, ht⟩ := h1.ok
  rw [hv'] at hv
  simp only [Value.slice.injEq, Option.some.injEq] at hv
  obtain ⟨rfl, rfl, rfl⟩ := hv
  have hsz : n' ≤ cur.size := by have := congrArg List.length ht; simp at this; omega
  refine ut_ok (w' := w.setCell ⟨g, i, none⟩ (byteV c)) ?_ (h _ (Hv.step (B := [srow _ _ _]) h1 fun S' hS' ho => ?_))
  · have hcell : w.cell? ⟨g, i, none⟩ = some (cur[i]'(by omega)) := by rw [cell_of_row w g i cur e _ hg]; exact Array.getElem?_eq_getElem _
    have hfz : w.frozen? ⟨g, i, none⟩ = false := by
      simp only [World.frozen?, hg]
      have : ¬ fz ≤ i := by omega
      simp [this]
    have h0 : (⟨g, i, none⟩ : Addr).add 0 = ⟨g, i, none⟩ := by rw [addr_add, Nat.add_zero]
    have hst : (store (⟨g, i, none⟩ : Addr) (byteV c)).run P w = .ok () (w.setCell ⟨g, i, none⟩ (byteV c)) := by
      rw [run_store P w _ _ _ rfl, hcell]; simp [hfz]
    have hsc : (storeCells (⟨g, i, none⟩ : Addr) [byteV c]).run P w = .ok () (w.setCell ⟨g, i, none⟩ (byteV c)) := by
      simp [storeCells, h0, Sem.run_bind, hst]
    simp [Instr.storeAt, Instr.sureAddr, storeVar, Sem.run_bind, ts.run, one_cells (v := byteV c) rfl, addr_add, hsc]
  · refine ⟨S', ⟨S', emp, fun b => ⟨.inl, fun h => h.elim id fun h => h.elim⟩, fun b _ h => h, ⟨ho.1, by simp [h2], g, cap', cur.setIfInBounds i (byteV c), e, fz, hv', ?_, by simpa using hf, hnc, hcm, ?_⟩, fun b h => h⟩, fun b h => .inl h, rfl, rfl, rfl, by simp, fun k hk hs => ?_⟩
    · rw [setCell_eq_setRow w g i cur e _ _ hg]
      simp [World.setRow, Array.getElem?_modify, hg]
    · rw [Array.toList_setIfInBounds, List.take_set, ht, List.map_set]
    · have hne : k ≠ g := fun e => hs ((ho.1 k).2 (by rw [e, hv']; rfl))
      exact heap_setCell_other w _ k _ hne⟩
end
end Go.Vx

namespace Go.Vx
open Go.RowKit Go.Lib
section
variable {P : Program} {w w0 : World} {H R : List SL} {ds : List Deferred}
theorem j0_hv {br : (St → Prop) → Prop} {k : St → Prop} (w0 : World) (H : List SL) (ds : List Deferred) (h1 : br fun s => ∃ w', s = ⟨w', ds⟩ ∧ Hv w0 H w') (h2 : ∀ w', Hv w0 H w' → k ⟨w', ds⟩) : J0 br k :=
  ⟨_, fun _ ⟨w', e, h⟩ => by rw [e]; exact h2 w' h, h1⟩
theorem j1_hv {br : (Value → St → Prop) → Prop} {k : Value → St → Prop} (w0 : World) (H : List SL) (ds : List Deferred) (v : Value) (h1 : br fun x s => x = v ∧ ∃ w', s = ⟨w', ds⟩ ∧ Hv w0 H w') (h2 : ∀ w', Hv w0 H w' → k v ⟨w', ds⟩) : J1 br k :=
  ⟨_, fun _ _ ⟨ev, w', e, h⟩ => by rw [e, ev]; exact h2 w' h, h1⟩
theorem j0_any {br : (St → Prop) → Prop} {k : St → Prop} (A : St → Prop) (h1 : br A) (h2 : ∀ s, A s → k s) : J0 br k := ⟨A, h2, h1⟩
theorem j1_any {br : (Value → St → Prop) → Prop} {k : Value → St → Prop} (A : Value → St → Prop) (h1 : br A) (h2 : ∀ x s, A x s → k x s) : J1 br k := ⟨A, h2, h1⟩
theorem append_str_nil {t q e n : Nat} (u : TySl P t e 1) (hq : P.underlying q = some .string) {v : Value} {xs : List Value} (ty : TypeId) (hv : w.ownsRow 0 e 1 v n xs) : (Builtin.append_ #[t, q] ty #[v, str []]).run P w = .ok v w := by
  obtain ⟨i, z, hu, hi, hz, hs, hzs, hpos, hby⟩ := u.info
  have hz0 : (⟨#[]⟩ : ByteArray).size = 0 := rfl
  have hf := first_str (P := P) [] w
  simp only [List.length_nil] at hf
  rcases hv.2 with ⟨rfl, rfl⟩ | ⟨g, cp, cur, rfl, _, hg, hnc, hcm, hcs, ht⟩
  · simp [Builtin.append_, run_underlying hu, run_underlying hq, sizeOf, typeInfo, hi, hs, Builtin.lenOf, hz0, hf]
  · simp [Builtin.append_, run_underlying hu, run_underlying hq, sizeOf, typeInfo, hi, hs, Builtin.lenOf, hz0, hf, hnc, storeCells]
theorem Step.appNil {t q ty e n : Nat} {cs : Array Bool} {v : Value} {xs : List Value} {K : Value → St → Prop} [o : Hv w0 H w] [i : RowIn H v e 1 n xs R] [u : TySl P t e 1] [hq : TyU P q .string] :
    Step (Bi P .append #[t, q] ty cs #[v, str []] K ⟨w, ds⟩) (K v ⟨w, ds⟩) := ⟨fun h => by
  have h1 := Hv.perm i.perm o
  obtain ⟨S, _, _, hr, h2⟩ := h1.ok
  exact bi_ok (m := Builtin.append_ #[t, q] ty #[v, str []]) rfl (append_str_nil u hq.eq ty hr) h⟩
theorem digits_one : ∀ (n t : Nat) (acc : Array Value), (∀ u ∈ acc, u.oneCell' = true) → ∀ u ∈ Extern.BytealgMakeNoZero.digits n t acc, u.oneCell' = true
  | 0, _, _, h => h
  | n + 1, t, acc, h => digits_one n (t / 256) _ fun u hu => by
    rcases Array.mem_push.1 hu with hu | rfl
    · exact h u hu
    · rfl
theorem mkz_run (ps : Array TypeId) (t e : TypeId) (ht : P.underlying t = some (.slice e)) (n : Nat) (hn : n ≤ 281474976710656) :
    ∃ cs : Array Value, (Extern.BytealgMakeNoZero.makeNoZero ps #[t] #[.int .i64 n]).run P w = .ok (.slice (some ⟨w.heap.size, 0, none⟩) n cs.size) (w.drew.drew.alloc (.cells cs e)) ∧ n ≤ cs.size ∧ (n ≤ maxLen → cs.size ≤ maxLen) ∧ ∀ u ∈ cs, u.oneCell' = true := by
  have g1 : ¬ (n : Int) < 0 := by omega
  have g2 : ¬ (281474976710656 : Int) < (n : Int) := by omega
  refine ⟨Extern.BytealgMakeNoZero.digits (grownCap w n 0 e) ((Question.extern "internal/bytealg.MakeNoZero.bytes" 0).cut (w.tape (w.drawn + 1) (.extern "internal/bytealg.MakeNoZero.bytes" 0))) #[], ?_, ?_, ?_, digits_one _ _ _ fun u hu => by simp at hu⟩
  · have hdef : Extern.BytealgMakeNoZero.makeNoZero ps #[t] #[.int .i64 n] =
        (do
          let .slice elem ← underlying t | stuck "bytealg.MakeNoZero: slice type expected"
          if (n : Int) < 0 || (n : Int) > 2 ^ 48 then runtimePanic (.error "makeslice: len out of range")
          let cap ← choose (.appendCap (n : Int).toNat 0 elem)
          askRoom cap
          let bytes ← choose (.extern "internal/bytealg.MakeNoZero.bytes" 0)
          let a ← newRow elem (Extern.BytealgMakeNoZero.digits cap bytes #[])
          pure (.slice (some a) (n : Int).toNat cap)) := rfl
    rw [hdef]
    simp [run_underlying ht, g1, g2, Question.forced, newRow, size_digits, grownCap]
  · rw [size_digits]
    simpa using grownCap_ge w n 0 e
  · intro hm
    rw [size_digits]
    simpa using grownCap_le_maxLen w n 0 e hm
class ExMnz (P : Program) (g : Nat) (t e : outParam Nat) : Prop where
  run : ∃ ps, ∀ (args : Array Value) (w : World), (callFunc g args).run P w = ((Extern.BytealgMakeNoZero.makeNoZero ps #[t] args).run P w).andThen fun v w' => .ok (.value v) w'
  u : P.underlying t = some (.slice e)
instance {g t e n : Nat} {z : Int} {K : Value → St → Prop} [x : ExMnz P g t e] [o : Hv w0 H w] [zn : ToN z n] : Step (Dy P (.func (.func g) #[] #[]) #[.int .i64 z] K ⟨w, ds⟩)
    ((0 ≤ z ∧ z ≤ 1000000000) ∧ ∀ a cap xs w', n ≤ cap → Hv w0 (row e 1 (.slice (some a) n cap) n xs :: H) w' → K (.slice (some a) n cap) ⟨w', ds⟩) := ⟨fun ⟨⟨h1, h2⟩, h⟩ => by
  have hn := zn.eq h1
  have hzn : z = (n : Int) := by omega
  subst hzn
  obtain ⟨ps, hx⟩ := x.run
  obtain ⟨cs, g1, g2, g3, g4⟩ := mkz_run (P := P) (w := w) ps t e x.u n (by omega)
  refine ⟨?_⟩
  have hd : (do let d ← Deferred.ofValue (.func (.func g) #[] #[]) #[.int .i64 (n : Int)]; invoke d.target d.args : Sem Next).run P w = (callFunc g #[.int .i64 (n : Int)]).run P w := by
    simp [Deferred.ofValue, invoke, Sem.run_bind, Sem.run_pure, Result.andThen]
  rw [hd, hx, g1]
  have hm : cs.size ≤ maxLen := g3 (by simp only [maxLen]; omega)
  refine h _ _ (cs.toList.take n) _ g2 (o.rowNew (m := n) ?_ (fun u hu => g4 u (by simpa using List.mem_of_mem_take hu)) ⟨rfl, rfl, rfl, by simp, fun k hk _ => Below.heap_alloc w.drew.drew _ k hk⟩ ?_)
  · refine ⟨by simp; omega, .inr ⟨w.heap.size, cs.size, cs, rfl, Nat.zero_le _, ?_, g2, hm, by omega, by rw [Nat.mul_one]⟩⟩
    exact heap_alloc_new w.drew.drew _
  · intro k hk
    simp only [Value.ownBlock, Option.some.injEq] at hk
    omega⟩
instance {t ty e s n c : Nat} {cs : Array Bool} {b : Option Addr} [u : TySl P t e s] : VT (Bi P .cap #[t] ty cs #[.slice b n c]) w (.int .i64 c) := ⟨fun k => by
  obtain ⟨i, z, hu, _⟩ := u.info
  exact bi_ok (m := Builtin.cap_ #[t] ty #[.slice b n c]) rfl (run_cap_slice w t ty b n c (el_slice hu)) k⟩
instance (priority := high) {t ty e s n c : Nat} {cs : Array Bool} {b : Option Addr} [u : TySl P t e s] : VT (Bi P .len #[t] ty cs #[.slice b n c]) w (.int .i64 n) := ⟨fun k => by
  obtain ⟨i, z, hu, _⟩ := u.info
  exact bi_ok (m := Builtin.len_ #[t] ty #[.slice b n c]) rfl (run_len_slice w t ty b n c (el_slice hu)) k⟩
instance (priority := 10) {w : World} : Rds w (.slice none 0 0) 1 0 [] := ⟨by simp, by simp, by simp [maxLen], none, 0, rfl, fun _ => rfl, Nat.le_refl _, fun j u h => by simp at h⟩
instance {t ty e n m : Nat} {cs : Array Bool} {d x : Value} {xs ys : List Value} [u : TySl P t e 1] [rd : Rds w d 1 n xs] [rx : Rds w x 1 m ys] : VS (Bi P .copy #[t, t] ty cs #[d, x]) w (min m n = 0) (.int .i64 0) := ⟨fun hm {K ds} k => by
  obtain ⟨i, z, hu, hi, hz, hs, _⟩ := u.info
  obtain ⟨b1, c1, rfl, _⟩ := rd.ex
  obtain ⟨b2, c2, rfl, _⟩ := rx.ex
  exact bi_ok (m := Builtin.copy_ #[t, t] ty #[.slice b1 n c1, .slice b2 m c2]) rfl (run_copy_none w t t ty e b1 b2 n c1 m c2 hu (by simp [hi, hs]) (by simpa [Nat.min_def] using hm)) k⟩
theorem sub_cap {v v' : Value} {lo m : Nat} {a : Addr} {n cap : Nat} (hv : v = .slice (some a) n cap) (s : SubSl v v' 1 lo m) (h : lo < cap) : capOk v' := by
  obtain ⟨e, _⟩ := s.ex _ _ _ hv
  rw [if_neg (by omega)] at e
  exact .inr ⟨_, _, _, e, by omega⟩
end
end Go.Vx

namespace Go.Vx
open Go.RowKit
section
variable {H : Type} {enc : TypeId × Value → H} {P : Program} {W : World} {sp : Nat → Bool} {held : Bool}
theorem struct_slW {fs : Array Field} {t i fuel e : Nat} {f : Field} {cs : List Value} {x : DataW H × List MemPlace} (ht : P.underlying t = some (.struct fs)) (h : DataW.trod enc P W 0 sp held fuel t cs = some x) (hf : fs[i]? = some f) (hu : P.underlying f.type = some (.slice e)) (hc : P.cellsOf f.type = 1) :
    ∃ v n y, cs[f.offset]? = some v ∧ DataW.trod enc P W 0 sp held n f.type [v] = some y ∧ ∀ k ∈ y.1.weights P f.type, k ∈ x.1.weights P t := by
  obtain ⟨xs, n, _, hx, hl, hlen, hall⟩ := DataW.trod_struct ht h
  have h1 := hall i f hf
  rw [hc] at h1
  have hi : i < xs.length := by rw [hlen]; exact (Array.getElem?_eq_some_iff.1 hf).1
  rw [List.getElem?_eq_getElem hi] at h1
  have hv : ∃ v, (cs.drop f.offset).take 1 = [v] := by
    rcases DataW.trod_slice hu h1 with ⟨hcs', _⟩ | ⟨a, len, cap, elems, rest, n, _, hcs', _⟩
    · exact ⟨_, hcs'⟩
    · exact ⟨_, hcs'⟩
  obtain ⟨v, hv⟩ := hv
  rw [hv] at h1
  refine ⟨v, n, xs[i], take_one hv, h1, fun k hk => ?_⟩
  rw [hx]
  simp only [DataW.weights, ht]
  refine DataW.weights_mem_each (j := i) (t := f.type) (d := xs[i].1) (by simpa using congrArg (Option.map (·.type)) hf) ?_ k hk
  rw [List.getElem?_map, List.getElem?_eq_getElem hi]
  rfl
end
end Go.Vx

