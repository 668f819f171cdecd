import Derived.Test.YtapammcnagjigaaDoorSa
set_option linter.all false
namespace Go.Vx
open Go.RowKit

/-! a range over a function -/
section
variable {P : Program} {w w0 : World} {H R : List SL} {ds : List Deferred}
theorem Hv.at {b : Nat} {o : Obj} (h : Hv w0 (pto b o :: R) w) : w.heap[b]? = some o := by obtain ⟨S, _, _, hb⟩ := h.ok; exact hb
theorem Hv.putObj {b : Nat} {o : Obj} (h : Hv w0 (pto b o :: R) w) (o' : Obj) : Hv w0 (pto b o' :: R) (w.putObj b o') := by
  have hlt := (Array.getElem?_eq_some_iff.1 h.at).1
  refine Hv.step (B := [pto b o']) h fun S hS hb => ⟨S, ⟨S, emp, fun b => ⟨.inl, fun h => h.elim id fun h => h.elim⟩, fun b _ h => h, ⟨hb.1, World.putObj_heap_same hlt⟩, fun b h => h⟩, fun b h => .inl h, ?_⟩
  exact ⟨rfl, rfl, rfl, by simp, fun k hk hs => World.putObj_heap_other fun e => hs ((hb.1 k).2 e)⟩
theorem Hv.newObj (h : Hv w0 R w) (o : Obj) : Hv w0 (pto w.heap.size o :: R) (w.alloc o) :=
  h.new (B := [pto w.heap.size o]) ⟨fun b => b = w.heap.size, ⟨fun b => b = w.heap.size, emp, fun b => ⟨.inl, fun h => h.elim id fun h => h.elim⟩, fun b _ h => h, ⟨fun k => Iff.rfl, heap_alloc_new w _⟩, fun b h => h⟩, fun b h => by omega⟩ (Kept.alloc _ _ _)
/-- The loop's record: ready, busy, done; the block for its deferred calls. -/
def lpR (rc : Loop) (l : Nat) : SL := pto l (.loop { rc with state := .ready, pending := none })
def lpB (rc : Loop) (l : Nat) : SL := pto l (.loop { rc with state := .busy, pending := none })
def lpD (rc : Loop) (l : Nat) (c : Code) : SL := pto l (.loop { rc with state := .done, pending := some c })
def dfb (b : Nat) : SL := pto b (.deferred (some []))
abbrev mk (b : Nat) : Deferred := { target := .collected b, args := #[] }
class RecR (H : List SL) (l : Nat) (rc : outParam Loop) (R : outParam (List SL)) : Prop where perm : ∀ {S w}, sep H S w ↔ sep (lpR rc l :: R) S w
instance (priority := high) {l : Nat} {rc : Loop} {H : List SL} : RecR (lpR rc l :: H) l rc H := ⟨Iff.rfl⟩
instance {A : SL} {l : Nat} {rc : Loop} {H R : List SL} [h : RecR H l rc R] : RecR (A :: H) l rc (A :: R) := ⟨⟨fun x => sep_swap (sep_cons h.perm.1 x), fun x => sep_cons h.perm.2 (sep_swap x)⟩⟩
class RecB (H : List SL) (l : Nat) (rc : outParam Loop) (R : outParam (List SL)) : Prop where perm : ∀ {S w}, sep H S w ↔ sep (lpB rc l :: R) S w
instance (priority := high) {l : Nat} {rc : Loop} {H : List SL} : RecB (lpB rc l :: H) l rc H := ⟨Iff.rfl⟩
instance {A : SL} {l : Nat} {rc : Loop} {H R : List SL} [h : RecB H l rc R] : RecB (A :: H) l rc (A :: R) := ⟨⟨fun x => sep_swap (sep_cons h.perm.1 x), fun x => sep_cons h.perm.2 (sep_swap x)⟩⟩
instance {l : Nat} {rc : Loop} {k : St → Prop} [o : Hv w0 H w] [i : RecR H l rc R] : Step (Bg P l k ⟨w, ds⟩) (∀ w', Hv w0 (lpB rc l :: R) w' → k ⟨w', ds⟩) := ⟨fun h => by
  have h1 := Hv.perm i.perm.1 o
  exact ⟨_, run_beginRound h1.at rfl, h _ (h1.putObj _)⟩⟩
instance {l : Nat} {rc : Loop} {k : Value → World → Prop} [o : Hv w0 H w] [i : RecB H l rc R] : Step (Er P l none k ⟨w, ds⟩) (∀ w', Hv w0 (lpR rc l :: R) w' → k (.bool true) w') := ⟨fun h => by
  have h1 := Hv.perm i.perm.1 o
  exact ⟨_, _, run_endRound none h1.at, h _ (h1.putObj _)⟩⟩
instance {l : Nat} {rc : Loop} {c : Code} {k : Value → World → Prop} [o : Hv w0 H w] [i : RecB H l rc R] : Step (Er P l (some c) k ⟨w, ds⟩) (∀ w', Hv w0 (lpD rc l c :: R) w' → k (.bool false) w') := ⟨fun h => by
  have h1 := Hv.perm i.perm.1 o
  exact ⟨_, _, run_endRound (some c) h1.at, h _ (h1.putObj _)⟩⟩
class DfbIn (H : List SL) (b : Nat) (R : outParam (List SL)) : Prop where perm : ∀ {S w}, sep H S w ↔ sep (dfb b :: R) S w
instance (priority := high) {b : Nat} {H : List SL} : DfbIn (dfb b :: H) b H := ⟨Iff.rfl⟩
instance {A : SL} {b : Nat} {H R : List SL} [h : DfbIn H b R] : DfbIn (A :: H) b (A :: R) := ⟨⟨fun x => sep_swap (sep_cons h.perm.1 x), fun x => sep_cons h.perm.2 (sep_swap x)⟩⟩
instance (priority := high) {b : Nat} {k : World → Prop} [o : Hv w0 H w] [i : DfbIn H b R] : Step (Ret P k ⟨w, mk b :: ds⟩) (∀ w', Hv w0 R w' → Ret P k ⟨w', ds⟩) := ⟨fun h => by
  have h1 := Hv.perm i.perm.1 o
  exact ⟨b, _, rfl, run_takeDeferred h1.at, h _ (h1.putObj (.deferred none)).tail⟩⟩

/-- An iterator's promise: it calls yield at xs, one by one, as long as it says true; J: what the caller holds between two rounds, X: where a round said no. T: the iterator's own. -/
def SeqOf {α : Type} (P : Program) (w0 : World) (gv : Value) (T : List SL) (enc : α → List Value) (xs : List α) : Prop :=
  ∀ (l : Nat) (J X : Nat → SL) (w : World) (ds : List Deferred) (K : Value → St → Prop), Hv w0 (J 0 :: T) w →
    (∀ (i : Nat) (x : α) (F : List SL) (w : World) (ds : List Deferred) (K : Value → St → Prop), xs[i]? = some x → Hv w0 (J i :: F) w → (∀ w', Hv w0 (J (i + 1) :: F) w' → K (.bool true) ⟨w', ds⟩) → (∀ w', Hv w0 (X i :: F) w' → K (.bool false) ⟨w', ds⟩) → Dy P (yv l) (enc x).toArray K ⟨w, ds⟩) →
    (∀ v w', Hv w0 (J xs.length :: T) w' → K v ⟨w', ds⟩) → (∀ i x v w', xs[i]? = some x → Hv w0 (X i :: T) w' → K v ⟨w', ds⟩) → Cy P gv #[yv l] K ⟨w, ds⟩

theorem sep_many {G F : List SL} {S : Nat → Prop} {w : World} : sep (many G :: F) S w ↔ sep (G ++ F) S w := sep_app.symm
theorem rf_core {α : Type} {gv : Value} {T G : List SL} {enc : α → List Value} {xs : List α} {np l : Nat} {rc : Loop} {rnd : Rnd} {J XR : Nat → SL} {XE : Nat → Nat → SL} {kn kr : St → Prop} {kx : Nat → St → Prop}
    (hs : SeqOf P w0 gv T enc xs) (hnp : ∀ x, (enc x).length = np) (hy : Yl P rc np rnd) (o : Hv w0 (J 0 :: lpR rc l :: many G :: T) w)
    (hb : ∀ (R : Value → World → Prop) (F : List SL) (w : World) (i : Nat) (x : α), xs[i]? = some x → Hv w0 (J i :: lpR rc l :: many G :: F) w →
      (∀ w', Hv w0 (J (i + 1) :: lpR rc l :: many G :: F) w' → R (.bool true) w') → (∀ w', Hv w0 (XR i :: lpD rc l .ret :: many G :: F) w' → R (.bool false) w') → (∀ j w', Hv w0 (XE j i :: lpD rc l (.exit j) :: many G :: F) w' → R (.bool false) w') → rnd l (enc x) R ⟨w, []⟩)
    (hn : ∀ w', Hv w0 (J xs.length :: many G :: T) w' → kn ⟨w', ds⟩)
    (hr : ∀ i x w', xs[i]? = some x → Hv w0 (XR i :: many G :: T) w' → kr ⟨w', ds⟩)
    (hx : ∀ j i x w', xs[i]? = some x → Hv w0 (XE j i :: many G :: T) w' → kx j ⟨w', ds⟩) :
    Cy P gv #[yv l] (fun _ s' => Elp P l kn kr kx s') ⟨w, ds⟩ := by
  refine hs l (fun i => many [J i, lpR rc l, many G]) (fun i => any fun c : Option Nat => match c with | none => many [XR i, lpD rc l .ret, many G] | some j => many [XE j i, lpD rc l (.exit j), many G]) w ds _ (Hv.closes (H := [_, _, _]) o) ?_ ?_ ?_
  · intro i x F w1 ds1 K hi o1 h1 h2
    have o2 := Hv.opens o1
    have hl : w1.heap[l]? = some (.loop { rc with state := .ready, pending := none }) := (Hv.perm sep_swap o2).at
    refine hy l .ready none (enc x) w1 ds1 K (hnp x) hl (hb _ F w1 i x hi o2 (fun w' h => h1 w' (Hv.closes (H := [_, _, _]) h)) (fun w' h => h2 w' (Hv.give none (Hv.closes (H := [_, _, _]) h))) (fun j w' h => h2 w' (Hv.give (some j) (Hv.closes (H := [_, _, _]) h))))
  · intro v w' o1
    have o2 := Hv.perm sep_swap (Hv.opens o1)
    exact ⟨_, _, run_endLoop o2.at (by simp), hn _ (o2.putObj _).tail⟩
  · intro i x v w' hi o1
    obtain ⟨c, o2⟩ := o1.pick
    cases c with
    | none =>
      have o3 := Hv.perm sep_swap (Hv.opens o2)
      exact ⟨_, _, run_endLoop o3.at (by simp), hr i x _ hi (o3.putObj _).tail⟩
    | some j =>
      have o3 := Hv.perm sep_swap (Hv.opens o2)
      exact ⟨_, _, run_endLoop o3.at (by simp), hx j i x _ hi (o3.putObj _).tail⟩
theorem rf_go {α : Type} {gv : Value} (T : List SL) {enc : α → List Value} {xs : List α} {np : Nat} {rnd : Rnd} (J XR : Nat → SL) (XE : Nat → Nat → SL) {kn kr : St → Prop} {kx : Nat → St → Prop}
    (hs : SeqOf P w0 gv T enc xs) (hnp : ∀ x, (enc x).length = np) (o : Hv w0 (J 0 :: T) w)
    (hb : ∀ (b l : Nat) (rc : Loop) (R : Value → World → Prop) (F : List SL) (w : World) (i : Nat) (x : α), xs[i]? = some x → Hv w0 (J i :: lpR rc l :: dfb b :: F) w →
      (∀ w', Hv w0 (J (i + 1) :: lpR rc l :: dfb b :: F) w' → R (.bool true) w') → (∀ w', Hv w0 (XR i :: lpD rc l .ret :: dfb b :: F) w' → R (.bool false) w') → (∀ j w', Hv w0 (XE j i :: lpD rc l (.exit j) :: dfb b :: F) w' → R (.bool false) w') → rnd l (enc x) R ⟨w, []⟩)
    (hn : ∀ b w', Hv w0 (J xs.length :: dfb b :: T) w' → kn ⟨w', mk b :: ds⟩)
    (hr : ∀ b i x w', xs[i]? = some x → Hv w0 (XR i :: dfb b :: T) w' → kr ⟨w', mk b :: ds⟩)
    (hx : ∀ b j i x w', xs[i]? = some x → Hv w0 (XE j i :: dfb b :: T) w' → kx j ⟨w', mk b :: ds⟩) : Rf P none np gv rnd kn kr kx ⟨w, ds⟩ := by
  refine ⟨?_⟩
  intro rc h1 h2 hy
  have o1 := (o.newObj (.deferred (some []))).newObj (.loop rc)
  rw [World.size_alloc] at o1
  obtain ⟨st, pd, fn, tm, ps, as, bo, df⟩ := rc
  dsimp only at h1 h2
  subst h1 h2
  have cl : ∀ {A B : SL} {b : Nat} {F : List SL} {w : World}, Hv w0 (A :: B :: dfb b :: F) w → Hv w0 (A :: B :: many [dfb b] :: F) w := fun h => h.perm fun h => sep_cons (sep_cons (sep_many (G := [_])).2) h
  have op : ∀ {A B : SL} {b : Nat} {F : List SL} {w : World}, Hv w0 (A :: B :: many [dfb b] :: F) w → Hv w0 (A :: B :: dfb b :: F) w := fun h => h.perm fun h => sep_cons (sep_cons (sep_many (G := [_])).1) h
  have op1 : ∀ {A : SL} {b : Nat} {F : List SL} {w : World}, Hv w0 (A :: many [dfb b] :: F) w → Hv w0 (A :: dfb b :: F) w := fun h => h.perm fun h => sep_cons (sep_many (G := [_])).1 h
  refine rf_core (G := [dfb w.heap.size]) (J := J) (XR := XR) (XE := XE) hs hnp hy ?_ (fun R F w1 i x hi o2 a b c => hb w.heap.size _ _ R F w1 i x hi (op o2) (fun w' h => a w' (cl h)) (fun w' h => b w' (cl h)) (fun j w' h => c j w' (cl h))) (fun w' h => hn _ w' (op1 h)) (fun i x w' hi h => hr _ i x w' hi (op1 h)) (fun j i x w' hi h => hx _ j i x w' hi (op1 h))
  refine cl ?_
  exact Hv.perm (fun h => sep_swap (sep_cons sep_swap h)) o1
theorem rf_in {α : Type} {gv : Value} (T : List SL) {enc : α → List Value} {xs : List α} {np l0 : Nat} {rc0 : Loop} {rnd : Rnd} (J XR : Nat → SL) (XE : Nat → Nat → SL) {kn kr : St → Prop} {kx : Nat → St → Prop}
    (hs : SeqOf P w0 gv (lpB rc0 l0 :: T) enc xs) (hnp : ∀ x, (enc x).length = np) (o : Hv w0 (J 0 :: lpB rc0 l0 :: T) w)
    (hb : ∀ (l : Nat) (rc : Loop) (R : Value → World → Prop) (F : List SL) (w : World) (i : Nat) (x : α), xs[i]? = some x → Hv w0 (J i :: lpR rc l :: F) w →
      (∀ w', Hv w0 (J (i + 1) :: lpR rc l :: F) w' → R (.bool true) w') → (∀ w', Hv w0 (XR i :: lpD rc l .ret :: F) w' → R (.bool false) w') → (∀ j w', Hv w0 (XE j i :: lpD rc l (.exit j) :: F) w' → R (.bool false) w') → rnd l (enc x) R ⟨w, []⟩)
    (hn : ∀ w', Hv w0 (J xs.length :: lpB rc0 l0 :: T) w' → kn ⟨w', ds⟩)
    (hr : ∀ i x w', xs[i]? = some x → Hv w0 (XR i :: lpB rc0 l0 :: T) w' → kr ⟨w', ds⟩)
    (hx : ∀ j i x w', xs[i]? = some x → Hv w0 (XE j i :: lpB rc0 l0 :: T) w' → kx j ⟨w', ds⟩) : Rf P (some l0) np gv rnd kn kr kx ⟨w, ds⟩ := by
  have h0 := (Hv.perm sep_swap o).at
  refine ⟨⟨_, h0, fun rc h1 h2 hy => ?_⟩⟩
  have o1 := o.newObj (.loop rc)
  obtain ⟨st, pd, fn, tm, ps, as, bo, df⟩ := rc
  dsimp only at h1 h2
  subst h1 h2
  have em : ∀ {A B : SL} {F : List SL} {S w}, sep (A :: B :: F) S w ↔ sep (A :: B :: many [] :: F) S w := fun {A B F S w} => ⟨fun h => sep_cons (sep_cons (sep_many (G := [])).2) h, fun h => sep_cons (sep_cons (sep_many (G := [])).1) h⟩
  have em1 : ∀ {A : SL} {F : List SL} {S w}, sep (A :: many [] :: F) S w → sep (A :: F) S w := fun {A F S w} h => sep_cons (sep_many (G := [])).1 h
  refine rf_core (G := []) (J := J) (XR := XR) (XE := XE) hs hnp hy (Hv.perm (fun h => em.1 (sep_swap h)) o1) (fun R F w1 i x hi o2 a b c => hb _ _ R F w1 i x hi (Hv.perm em.2 o2) (fun w' h => a w' (Hv.perm em.1 h)) (fun w' h => b w' (Hv.perm em.1 h)) (fun j w' h => c j w' (Hv.perm em.1 h))) (fun w' h => hn w' (Hv.perm em1 h)) (fun i x w' hi h => hr i x w' hi (Hv.perm em1 h)) (fun j i x w' hi h => hx j i x w' hi (Hv.perm em1 h))
end
/-! closures -/
class TyFn (P : Program) (t : TypeId) : Prop where eq : ∃ a b c, P.underlying t = some (.func a b c)
class BodyOf (P : Program) (g : Nat) : Prop where ok : hasBody P g = true
theorem call_body {P : Program} {g : Nat} (h : hasBody P g = true) (args : Array Value) (w : World) : (callFunc g args).run P w = .ok (.enter g args) w := by
  unfold hasBody at h
  split at h
  · rename_i fn hfn
    simp only [Bool.and_eq_true, Bool.not_eq_true'] at h
    have hn : fn.body ≠ none := by cases hbb : fn.body <;> simp_all
    have hm : fn.name ≠ "runtime.NumGoroutine" := by simpa using h.1
    simp [callFunc, program, Sem.run, hfn, hm, hn, Bind.bind, Sem.bind, Pure.pure]
  · cases h
section
variable {P : Program} {w w0 : World} {H R : List SL} {ds : List Deferred}
instance {fn : Fn} {a b : Array Value} : VT (Mf P fn a b) w (.func fn a b) := VT.of (by rfl)
instance {d t : Nat} {f : Fn} {a b : Array Value} [u : TyFn P t] : EqV P (d + 1) t (.func f a b) .nilFunc false := ⟨fun w => by
  obtain ⟨x, y, z, hu⟩ := u.eq
  simp [Op.equalIn, run_underlying hu]⟩
instance {d t : Nat} [u : TyFn P t] : EqV P (d + 1) t .nilFunc .nilFunc true := ⟨fun w => by
  obtain ⟨x, y, z, hu⟩ := u.eq
  simp [Op.equalIn, run_underlying hu]⟩
instance {t : TypeId} {cx cy c : Bool} {f : Fn} {a b : Array Value} [h : EqV P 10000 t (.func f a b) .nilFunc c] : VT (Bo P .eql t cx cy (.func f a b) .nilFunc) w (.bool c) := eql_of h rfl
instance {t : TypeId} {cx cy c : Bool} {f : Fn} {a b : Array Value} [h : EqV P 10000 t (.func f a b) .nilFunc c] : VT (Bo P .neq t cx cy (.func f a b) .nilFunc) w (.bool !c) := neq_of h rfl
instance {g : Nat} {a b : Array Value} : VT (Nc P (.func (.func g) a b)) w (.func (.func g) a b) := ⟨fun k => ⟨k⟩⟩
instance {l : Nat} : VT (Nc P (yv l)) w (yv l) := ⟨fun k => ⟨k⟩⟩
theorem dy_clo {g : Nat} {cap args : Array Value} {K : Value → St → Prop} {s : St} (hb : hasBody P g = true) (h : Cl P g (args ++ cap) K s) : Dy P (.func (.func g) #[] cap) args K s := ⟨by
  have : (do let d ← Deferred.ofValue (.func (.func g) #[] cap) args; invoke d.target d.args : Sem Next).run P s.w = .ok (.enter g (args ++ cap)) s.w := by
    simp [Deferred.ofValue, invoke, Sem.run_bind, call_body hb]
  rw [this]; exact h.out⟩
theorem cy_clo {g : Nat} {cap args : Array Value} {K : Value → St → Prop} {s : St} (hb : hasBody P g = true) (h : Cl P g (args ++ cap) K s) : Cy P (.func (.func g) #[] cap) args K s :=
  ⟨⟨{ target := .fn (.func g) cap, args := args }, s.w, g, args ++ cap, s.w, by simp [Deferred.ofValue], by simp [invoke, call_body hb], h.out⟩⟩
instance {g : Nat} {cap args : List Value} {K : Value → St → Prop} [b : BodyOf P g] : Step (Dy P (.func (.func g) #[] cap.toArray) args.toArray K ⟨w, ds⟩) (Cl P g (args ++ cap).toArray K ⟨w, ds⟩) := ⟨fun h => dy_clo b.ok (by simpa using h)⟩
instance {g : Nat} {cap args : List Value} {K : Value → St → Prop} [b : BodyOf P g] : Step (Cy P (.func (.func g) #[] cap.toArray) args.toArray K ⟨w, ds⟩) (Cl P g (args ++ cap).toArray K ⟨w, ds⟩) := ⟨fun h => cy_clo b.ok (by simpa using h)⟩
/-- What a call of yield does, while an iterator runs. -/
class Yld {α : outParam Type} (P : Program) (w0 : World) (l : Nat) (J X : outParam (Nat → SL)) (enc : outParam (α → List Value)) (xs : outParam (List α)) : Prop where
  run : ∀ (i : Nat) (x : α) (F : List SL) (w : World) (ds : List Deferred) (K : Value → St → Prop), xs[i]? = some x → Hv w0 (J i :: F) w → (∀ w', Hv w0 (J (i + 1) :: F) w' → K (.bool true) ⟨w', ds⟩) → (∀ w', Hv w0 (X i :: F) w' → K (.bool false) ⟨w', ds⟩) → Dy P (yv l) (enc x).toArray K ⟨w, ds⟩
class InJ (J : Nat → SL) (H : List SL) (i : outParam Nat) (R : outParam (List SL)) : Prop where perm : ∀ {S w}, sep H S w ↔ sep (J i :: R) S w
instance (priority := high) {J : Nat → SL} {i : Nat} {H : List SL} : InJ J (J i :: H) i H := ⟨Iff.rfl⟩
instance {J : Nat → SL} {A : SL} {i : Nat} {H R : List SL} [h : InJ J H i R] : InJ J (A :: H) i (A :: R) := ⟨⟨fun x => sep_swap (sep_cons h.perm.1 x), fun x => sep_cons h.perm.2 (sep_swap x)⟩⟩
instance {α : Type} {l n : Nat} {J X : Nat → SL} {enc : α → List Value} {xs : List α} {args : Array Value} {K : Value → St → Prop} [y : Yld P w0 l J X enc xs] [o : Hv w0 H w] [i : InJ J H n R] :
    Step (Dy P (yv l) args K ⟨w, ds⟩) (∃ x, xs[n]? = some x ∧ (enc x).toArray = args ∧ (∀ w', Hv w0 (J (n + 1) :: R) w' → K (.bool true) ⟨w', ds⟩) ∧ (∀ w', Hv w0 (X n :: R) w' → K (.bool false) ⟨w', ds⟩)) := ⟨fun ⟨x, h1, h2, h3, h4⟩ => by
  rw [← h2]; exact y.run n x R w ds K h1 (Hv.perm i.perm.1 o) h3 h4⟩
theorem Hv.toJ {J : Nat → SL} {n m : Nat} {T : List SL} [o : Hv w0 H w] [i : InJ J H n R] [d : DropTo R T] (h : n = m) : Hv w0 (J m :: T) w := by
  subst h; exact (Hv.perm i.perm.1 o).drop1
theorem subJ {J : Nat → SL} {H' R G : List SL} {n m : Nat} [r : InJ J H' n R] (h : n = m) (k : Sub R G) : Sub H' (J m :: G) := ⟨fun h' => by
  subst h; exact (Sub.cons k).sub (r.perm.1 h')⟩
theorem subA {A : SL} {H' R G : List SL} [t : Take H' A R] (k : Sub R G) : Sub H' (A :: G) := ⟨fun h' => (Sub.cons k).sub (t.perm.1 h')⟩
theorem Hv.lifted {φ : Prop} (h : Hv w0 (lift φ :: H) w) : φ := by obtain ⟨S, _, h⟩ := h.ok; exact h.2
theorem Hv.lift {φ : Prop} (h : Hv w0 H w) (p : φ) : Hv w0 (lift φ :: H) w := h.new (B := [Vx.lift φ]) ⟨emp, ⟨emp, emp, fun b => ⟨.inl, fun h => h.elim id id⟩, fun b h => h.elim, ⟨fun k h => h, p⟩, fun b h => h⟩, fun b h => h.elim⟩ (Kept.refl _ _)
end
end Go.Vx
