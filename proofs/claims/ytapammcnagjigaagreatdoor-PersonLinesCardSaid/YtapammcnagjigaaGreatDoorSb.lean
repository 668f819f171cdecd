import Derived.Test.YtapammcnagjigaaGreatDoorEng
set_option linter.all false
namespace Go.Vx
/-- What is to be shown aside. -/
structure Sd (p : Prop) : Prop where out : p

/-! conditions without a parting of ways: '&&', '||' of what is quiet -/
class Pur (W : (Value → St → Prop) → Prop) (s : St) (side : outParam Prop) (r : outParam Value) : Prop where prf : side → ∀ A : Value → St → Prop, A r s → W A
instance (priority := high) {v : Value} {s : St} : Pur (fun A => A v s) s True v := ⟨fun _ _ h => h⟩
instance Pur.vt {C : (Value → St → Prop) → St → Prop} {f : Value → (Value → St → Prop) → St → Prop} {w : World} {ds : List Deferred} {side : Prop} {v r : Value} [i : VT C w v] [p : Pur (fun A => f v A ⟨w, ds⟩) ⟨w, ds⟩ side r] :
    Pur (fun A => C (fun v' s' => f v' A s') ⟨w, ds⟩) ⟨w, ds⟩ side r := ⟨fun hs A h => i.prf (p.prf hs A h)⟩
instance (priority := low) Pur.vs {C : (Value → St → Prop) → St → Prop} {f : Value → (Value → St → Prop) → St → Prop} {w : World} {ds : List Deferred} {side side1 : Prop} {v r : Value} [i : VS C w side1 v] [p : Pur (fun A => f v A ⟨w, ds⟩) ⟨w, ds⟩ side r] :
    Pur (fun A => C (fun v' s' => f v' A s') ⟨w, ds⟩) ⟨w, ds⟩ (side1 ∧ side) r := ⟨fun hs A h => i.prf hs.1 (p.prf hs.2 A h)⟩
section
variable {P : Program} {w : World} {ds : List Deferred}
instance (priority := 20000) {b r : Bool} {side : Prop} {B : (Value → St → Prop) → Prop} {K : Value → St → Prop} [p : Pur B ⟨w, ds⟩ side (.bool r)] :
    Step (J1 (fun A => Grd (.bool b) true (B A) (A undef ⟨w, ds⟩)) (fun x s => Pk P (.bool b) x (.bool false) K s)) (Sd (b = true → side) ∧ K (.bool (b && r)) ⟨w, ds⟩) := ⟨fun ⟨⟨h1⟩, h2⟩ => by
  cases b with
  | true => exact ⟨fun x s => x = .bool r ∧ s = ⟨w, ds⟩, fun x s ⟨e1, e2⟩ => by subst e1 e2; exact go (by simpa using h2), ⟨fun _ => p.prf (h1 rfl) _ ⟨rfl, rfl⟩, fun e => absurd rfl e⟩⟩
  | false => exact ⟨fun x s => s = ⟨w, ds⟩, fun x s e => by subst e; exact go (by simpa using h2), ⟨fun e => by simp at e, fun _ => rfl⟩⟩⟩
instance (priority := 20000) {b r : Bool} {side : Prop} {B : (Value → St → Prop) → Prop} {K : Value → St → Prop} [p : Pur B ⟨w, ds⟩ side (.bool r)] :
    Step (J1 (fun A => Grd (.bool b) false (B A) (A undef ⟨w, ds⟩)) (fun x s => Pk P (.bool b) (.bool true) x K s)) (Sd (b = false → side) ∧ K (.bool (b || r)) ⟨w, ds⟩) := ⟨fun ⟨⟨h1⟩, h2⟩ => by
  cases b with
  | false => exact ⟨fun x s => x = .bool r ∧ s = ⟨w, ds⟩, fun x s ⟨e1, e2⟩ => by subst e1 e2; exact go (by simpa using h2), ⟨fun _ => p.prf (h1 rfl) _ ⟨rfl, rfl⟩, fun e => absurd rfl e⟩⟩
  | true => exact ⟨fun x s => s = ⟨w, ds⟩, fun x s e => by subst e; exact go (by simpa using h2), ⟨fun e => by simp at e, fun _ => rfl⟩⟩⟩
/-- a || (b && c) -/
instance (priority := 30000) {a b c : Bool} {side1 side2 : Prop} {B : (Value → St → Prop) → Prop} {C : (Value → St → Prop) → St → Prop} {K : Value → St → Prop} [p : Pur B ⟨w, ds⟩ side1 (.bool b)] [q : Pur (fun A => C A ⟨w, ds⟩) ⟨w, ds⟩ side2 (.bool c)] :
    Step (J1 (fun A => Grd (.bool a) false (B A) (A undef ⟨w, ds⟩)) (fun x s => J1 (fun A => Grd x true (C A s) (A undef s)) (fun y s => J1 (fun A => Grd (.bool a) false (Pk P x y (.bool false) (fun v s => A v s) s) (A undef s)) (fun z s => Pk P (.bool a) (.bool true) z K s))))
      (Sd ((a = false → side1) ∧ (a = false → b = true → side2)) ∧ K (.bool (a || (b && c))) ⟨w, ds⟩) := ⟨fun ⟨⟨⟨h1, h2⟩⟩, h3⟩ => by
  cases a with
  | true =>
    refine ⟨fun x s => x = undef ∧ s = ⟨w, ds⟩, fun x s ⟨e1, e2⟩ => ?_, ⟨fun e => by simp at e, fun _ => ⟨rfl, rfl⟩⟩⟩
    subst e1 e2
    refine ⟨fun x s => s = ⟨w, ds⟩, fun x s e => ?_, go rfl⟩
    subst e
    refine ⟨fun x s => s = ⟨w, ds⟩, fun x s e => ?_, ⟨fun e => by simp at e, fun _ => rfl⟩⟩
    subst e
    exact go (by simpa using h3)
  | false =>
    refine ⟨fun x s => x = .bool b ∧ s = ⟨w, ds⟩, fun x s ⟨e1, e2⟩ => ?_, ⟨fun _ => p.prf (h1 rfl) _ ⟨rfl, rfl⟩, fun e => absurd rfl e⟩⟩
    subst e1 e2
    cases b with
    | false =>
      refine ⟨fun x s => s = ⟨w, ds⟩, fun x s e => ?_, ⟨fun e => by simp at e, fun _ => rfl⟩⟩
      subst e
      refine ⟨fun x s => x = .bool false ∧ s = ⟨w, ds⟩, fun x s ⟨e1, e2⟩ => ?_, ⟨fun _ => go ⟨rfl, rfl⟩, fun e => absurd rfl e⟩⟩
      subst e1 e2
      exact go (by simpa using h3)
    | true =>
      refine ⟨fun x s => x = .bool c ∧ s = ⟨w, ds⟩, fun x s ⟨e1, e2⟩ => ?_, ⟨fun _ => q.prf (h2 rfl rfl) _ ⟨rfl, rfl⟩, fun e => absurd rfl e⟩⟩
      subst e1 e2
      refine ⟨fun x s => x = .bool c ∧ s = ⟨w, ds⟩, fun x s ⟨e1, e2⟩ => ?_, ⟨fun _ => go ⟨rfl, rfl⟩, fun e => absurd rfl e⟩⟩
      subst e1 e2
      exact go (by simpa using h3)⟩
/-- a && (b || c) -/
instance (priority := 30000) {a b c : Bool} {side1 side2 : Prop} {B : (Value → St → Prop) → Prop} {C : (Value → St → Prop) → St → Prop} {K : Value → St → Prop} [p : Pur B ⟨w, ds⟩ side1 (.bool b)] [q : Pur (fun A => C A ⟨w, ds⟩) ⟨w, ds⟩ side2 (.bool c)] :
    Step (J1 (fun A => Grd (.bool a) true (B A) (A undef ⟨w, ds⟩)) (fun x s => J1 (fun A => Grd x false (C A s) (A undef s)) (fun y s => J1 (fun A => Grd (.bool a) true (Pk P x (.bool true) y (fun v s => A v s) s) (A undef s)) (fun z s => Pk P (.bool a) z (.bool false) K s))))
      (Sd ((a = true → side1) ∧ (a = true → b = false → side2)) ∧ K (.bool (a && (b || c))) ⟨w, ds⟩) := ⟨fun ⟨⟨⟨h1, h2⟩⟩, h3⟩ => by
  cases a with
  | false =>
    refine ⟨fun x s => x = undef ∧ s = ⟨w, ds⟩, fun x s ⟨e1, e2⟩ => ?_, ⟨fun e => by simp at e, fun _ => ⟨rfl, rfl⟩⟩⟩
    subst e1 e2
    refine ⟨fun x s => s = ⟨w, ds⟩, fun x s e => ?_, go rfl⟩
    subst e
    refine ⟨fun x s => s = ⟨w, ds⟩, fun x s e => ?_, ⟨fun e => by simp at e, fun _ => rfl⟩⟩
    subst e
    exact go (by simpa using h3)
  | true =>
    refine ⟨fun x s => x = .bool b ∧ s = ⟨w, ds⟩, fun x s ⟨e1, e2⟩ => ?_, ⟨fun _ => p.prf (h1 rfl) _ ⟨rfl, rfl⟩, fun e => absurd rfl e⟩⟩
    subst e1 e2
    cases b with
    | true =>
      refine ⟨fun x s => s = ⟨w, ds⟩, fun x s e => ?_, ⟨fun e => by simp at e, fun _ => rfl⟩⟩
      subst e
      refine ⟨fun x s => x = .bool true ∧ s = ⟨w, ds⟩, fun x s ⟨e1, e2⟩ => ?_, ⟨fun _ => go ⟨rfl, rfl⟩, fun e => absurd rfl e⟩⟩
      subst e1 e2
      exact go (by simpa using h3)
    | false =>
      refine ⟨fun x s => x = .bool c ∧ s = ⟨w, ds⟩, fun x s ⟨e1, e2⟩ => ?_, ⟨fun _ => q.prf (h2 rfl rfl) _ ⟨rfl, rfl⟩, fun e => absurd rfl e⟩⟩
      subst e1 e2
      refine ⟨fun x s => x = .bool c ∧ s = ⟨w, ds⟩, fun x s ⟨e1, e2⟩ => ?_, ⟨fun _ => go ⟨rfl, rfl⟩, fun e => absurd rfl e⟩⟩
      subst e1 e2
      exact go (by simpa using h3)⟩
end
end Go.Vx

