import Derived.Test.YtapammcnagjigaaDoorSx
set_option linter.all false
namespace Go.Vx
open Go.RowKit

/-- What conditions say, for simp: one name for all of it. -/
theorem bl : (∀ b : Bool, ((!b) = true) = (b = false)) ∧ (∀ b : Bool, ((!b) = false) = (b = true)) ∧ (∀ (p : Prop) [Decidable p], (decide p = true) = p) ∧ (∀ (p : Prop) [Decidable p], decide p = false ↔ ¬ p) ∧
    (∀ a b : Bool, ((a && b) = true) = (a = true ∧ b = true)) ∧ (∀ a b : Bool, ((a || b) = true) = (a = true ∨ b = true)) ∧ (∀ a b : Bool, (a || b) = false ↔ a = false ∧ b = false) ∧ (∀ a b : Bool, (a && b) = false ↔ (a = true → b = false)) ∧
    (∀ a b : Int, ¬ a < b ↔ b ≤ a) ∧ (∀ a b : Int, ¬ a ≤ b ↔ b < a) ∧ (∀ a b : Nat, ¬ a < b ↔ b ≤ a) ∧ (∀ a b : Nat, ¬ a ≤ b ↔ b < a) :=
  ⟨fun b => by simp, fun b => by simp, fun p _ => by simp, fun p _ => by simp, fun a b => by simp, fun a b => by simp, fun a b => by simp, fun a b => by simp, fun a b => Int.not_lt, fun a b => Int.not_le, fun a b => Nat.not_lt, fun a b => Nat.not_le⟩
/-- How long lists are, for simp. -/
theorem ll {α : Type} : (∀ a b : List α, (a ++ b).length = a.length + b.length) ∧ (∀ (β : Type) (f : α → β) (a : List α), (a.map f).length = a.length) ∧ (∀ (n : Nat) (a : List α), (a.take n).length = min n a.length) ∧ (∀ (n : Nat) (a : List α), (a.drop n).length = a.length - n) ∧ (∀ (n : Nat) (a : α), (List.replicate n a).length = n) ∧
    (∀ (x : α) (a : List α), (x :: a).length = a.length + 1) ∧ ([] : List α).length = 0 ∧ (∀ (a : List α) (i : Nat) (x : α), (a.set i x).length = a.length) :=
  ⟨fun a b => List.length_append, fun β f a => List.length_map .., fun n a => List.length_take, fun n a => List.length_drop, fun n a => List.length_replicate, fun x a => rfl, rfl, fun a i x => List.length_set⟩
/-! the engine: 'go' turns a word into what is to be shown of it -/
class Step (g : Prop) (h : outParam Prop) : Prop where prf : h → g
theorem go {g h : Prop} [s : Step g h] (x : h) : g := s.prf x
/-- A value comes out, the world as it was; VS: if 'side'. -/
class VT (C : (Value → St → Prop) → St → Prop) (w : World) (v : outParam Value) : Prop where
  prf : ∀ {K ds}, K v ⟨w, ds⟩ → C K ⟨w, ds⟩
class VS (C : (Value → St → Prop) → St → Prop) (w : World) (side : outParam Prop) (v : outParam Value) : Prop where
  prf : side → ∀ {K ds}, K v ⟨w, ds⟩ → C K ⟨w, ds⟩
instance (priority := high) Step.vt {C : (Value → St → Prop) → St → Prop} {K : Value → St → Prop} {w : World} {ds : List Deferred} {v : Value} [i : VT C w v] : Step (C K ⟨w, ds⟩) (K v ⟨w, ds⟩) := ⟨i.prf⟩
instance Step.vs {C : (Value → St → Prop) → St → Prop} {K : Value → St → Prop} {w : World} {ds : List Deferred} {v : Value} {side : Prop} [i : VS C w side v] : Step (C K ⟨w, ds⟩) (side ∧ K v ⟨w, ds⟩) := ⟨fun h => i.prf h.1 h.2⟩
instance (priority := high) Step.qt {C : (Value → St → Prop) → St → Prop} {K : Value → Prop} {w : World} {ds : List Deferred} {v : Value} [i : VT C w v] : Step (Qt C ⟨w, ds⟩ K) (K v) := ⟨fun h => ⟨v, i.prf ⟨rfl, rfl⟩, h⟩⟩
instance Step.qs {C : (Value → St → Prop) → St → Prop} {K : Value → Prop} {w : World} {ds : List Deferred} {v : Value} {side : Prop} [i : VS C w side v] : Step (Qt C ⟨w, ds⟩ K) (side ∧ K v) := ⟨fun h => ⟨v, i.prf h.1 ⟨rfl, rfl⟩, h.2⟩⟩
instance (priority := high) Step.ck {C : (Value → St → Prop) → St → Prop} {w : World} {ds : List Deferred} {v v' : Value} [i : VT C w v] : Step (Ck C v' ⟨w, ds⟩) (v = v') := ⟨fun h => i.prf ⟨h, rfl⟩⟩
instance Step.cs {C : (Value → St → Prop) → St → Prop} {w : World} {ds : List Deferred} {v v' : Value} {side : Prop} [i : VS C w side v] : Step (Ck C v' ⟨w, ds⟩) (side ∧ v = v') := ⟨fun h => i.prf h.1 ⟨h.2, rfl⟩⟩
instance (priority := high) Step.ckA {C : (Value → St → Prop) → St → Prop} {w : World} {ds : List Deferred} {v : Value} {B : Prop} [i : VT C w v] : Step (Ck C v ⟨w, ds⟩ ∧ B) B := ⟨fun h => ⟨i.prf ⟨rfl, rfl⟩, h⟩⟩
instance Step.ckB {C : (Value → St → Prop) → St → Prop} {w : World} {ds : List Deferred} {v : Value} {side B : Prop} [i : VS C w side v] : Step (Ck C v ⟨w, ds⟩ ∧ B) (side ∧ B) := ⟨fun h => ⟨i.prf h.1 ⟨rfl, rfl⟩, h.2⟩⟩
instance Step.dw {k : St → Prop} {w : World} {ds : List Deferred} {w0 : World} {H : List SL} [o : Hv w0 H w] : Step (Dw k ⟨w, ds⟩) (∀ w', Hv w0 H w' → k ⟨w', ds⟩) := ⟨fun h => h _ o.drew⟩
instance Step.cond {b : Bool} {A B : Prop} : Step (CondP (.bool b) A B) ((b = true → A) ∧ (b = false → B)) := ⟨fun h => by cases b; exact .inr ⟨rfl, h.2 rfl⟩; exact .inl ⟨rfl, h.1 rfl⟩⟩
instance (priority := high) Step.condT {A B : Prop} : Step (CondP (.bool true) A B) A := ⟨fun h => .inl ⟨rfl, h⟩⟩
instance (priority := high) Step.condF {A B : Prop} : Step (CondP (.bool false) A B) B := ⟨fun h => .inr ⟨rfl, h⟩⟩
instance Step.grd {b : Bool} {A B : Prop} : Step (Grd (.bool b) true A B) ((b = true → A) ∧ (b = false → B)) := ⟨fun h => ⟨fun e => h.1 (by simpa using e), fun e => h.2 (by simpa using e)⟩⟩
instance Step.grdN {b : Bool} {A B : Prop} : Step (Grd (.bool b) false A B) ((b = false → A) ∧ (b = true → B)) := ⟨fun h => ⟨fun e => h.1 (by simpa using e), fun e => h.2 (by simpa using e)⟩⟩
instance (priority := high) Step.grdU {b : Bool} {A B : Prop} : Step (Grd undef b A B) B := ⟨fun h => ⟨fun e => absurd e (by unfold undef; nofun), fun _ => h⟩⟩
instance (priority := high) Step.grdTT {A B : Prop} : Step (Grd (.bool true) true A B) A := ⟨fun h => ⟨fun _ => h, fun e => absurd rfl e⟩⟩
instance (priority := high) Step.grdTF {A B : Prop} : Step (Grd (.bool true) false A B) B := ⟨fun h => ⟨fun e => by simp at e, fun _ => h⟩⟩
instance (priority := high) Step.grdFT {A B : Prop} : Step (Grd (.bool false) true A B) B := ⟨fun h => ⟨fun e => by simp at e, fun _ => h⟩⟩
instance (priority := high) Step.grdFF {A B : Prop} : Step (Grd (.bool false) false A B) A := ⟨fun h => ⟨fun _ => h, fun e => absurd rfl e⟩⟩
instance {br : (St → Prop) → Prop} {k : St → Prop} : Step (J0 br k) (br k) := ⟨fun h => ⟨_, fun _ h => h, h⟩⟩
instance {br : (Value → St → Prop) → Prop} {k : Value → St → Prop} : Step (J1 br k) (br k) := ⟨fun h => ⟨_, fun _ _ h => h, h⟩⟩
instance {br : (Value → Value → St → Prop) → Prop} {k : Value → Value → St → Prop} : Step (J2 br k) (br k) := ⟨fun h => ⟨_, fun _ _ _ h => h, h⟩⟩
instance {br : (Value → Value → Value → St → Prop) → Prop} {k : Value → Value → Value → St → Prop} : Step (J3 br k) (br k) := ⟨fun h => ⟨_, fun _ _ _ _ h => h, h⟩⟩
instance {br : (Value → Value → Value → Value → St → Prop) → Prop} {k : Value → Value → Value → Value → St → Prop} : Step (J4 br k) (br k) := ⟨fun h => ⟨_, fun _ _ _ _ _ h => h, h⟩⟩
instance {br : (Value → Value → Value → Value → Value → St → Prop) → Prop} {k : Value → Value → Value → Value → Value → St → Prop} : Step (J5 br k) (br k) := ⟨fun h => ⟨_, fun _ _ _ _ _ _ h => h, h⟩⟩
instance Step.ret {P : Program} {k : World → Prop} {w : World} : Step (Ret P k ⟨w, []⟩) (k w) := ⟨fun h => h⟩

section
variable {P : Program} {w : World}
theorem vl_ok {m : Sem Value} {v : Value} {w' : World} {K : Value → St → Prop} {ds : List Deferred} (h : m.run P w = .ok v w') (k : K v ⟨w', ds⟩) : Vl P m K ⟨w, ds⟩ :=
  ⟨by simp only [Sem.run_bind, h, Result.andThen_ok, Sem.run_pure]; exact k⟩
theorem ut_ok {m : Sem Unit} {w' : World} {K : Value → St → Prop} {ds : List Deferred} (h : m.run P w = .ok () w') (k : K undef ⟨w', ds⟩) : Ut P m K ⟨w, ds⟩ :=
  ⟨by simp only [Sem.run_bind, h, Result.andThen_ok, Sem.run_pure]; exact k⟩
theorem VT.of {m : Sem Value} {v : Value} (h : m.run P w = .ok v w) : VT (Vl P m) w v := ⟨fun k => vl_ok h k⟩
theorem VS.of {m : Sem Value} {v : Value} {side : Prop} (h : side → m.run P w = .ok v w) : VS (Vl P m) w side v := ⟨fun s => fun k => vl_ok (h s) k⟩

/-! scalars -/
theorem beq_dec (a b : List UInt8) : (a == b) = decide (a = b) := by rw [Bool.eq_iff_iff]; simp
theorem str_add (a b : List UInt8) : (⟨a.toArray⟩ : ByteArray) ++ ⟨b.toArray⟩ = ⟨(a ++ b).toArray⟩ := by
  apply ByteArray.ext; simp
instance {b : Bool} : VT (Uo P .not (.bool b)) w (.bool !b) := VT.of rfl
theorem bo_int {op : BinOp} {t : TypeId} {cx cy : Bool} {k k' : IntKind} {a b : Int} : binS op t cx cy (.int k a) (.int k' b) = binOp op t (.int k a) (.int k' b) := by
  unfold binS eqGuard; cases op <;> rfl
theorem bo_str {op : BinOp} {t : TypeId} {cx cy : Bool} {a b : ByteArray} : binS op t cx cy (.string a) (.string b) = binOp op t (.string a) (.string b) := by
  unfold binS eqGuard; cases op <;> rfl
theorem bo_bool {op : BinOp} {t : TypeId} {cx cy : Bool} {a b : Bool} : binS op t cx cy (.bool a) (.bool b) = binOp op t (.bool a) (.bool b) := by
  unfold binS eqGuard; cases op <;> rfl
section
variable {t : TypeId} {cx cy : Bool} {k : IntKind} {a b : Int}
instance : VT (Bo P .eql t cx cy (.int k a) (.int k b)) w (.bool (decide (a = b))) := VT.of (by rw [bo_int, binOp_eql]; rfl)
instance : VT (Bo P .neq t cx cy (.int k a) (.int k b)) w (.bool (!decide (a = b))) := VT.of (by rw [bo_int, binOp_neq]; rfl)
instance : VT (Bo P .lss t cx cy (.int k a) (.int k b)) w (.bool (decide (a < b))) := VT.of (by rw [bo_int, binOp_lss]; rfl)
instance : VT (Bo P .leq t cx cy (.int k a) (.int k b)) w (.bool (decide (a ≤ b))) := VT.of (by rw [bo_int, binOp_leq]; rfl)
instance : VT (Bo P .gtr t cx cy (.int k a) (.int k b)) w (.bool (decide (b < a))) := VT.of (by rw [bo_int, binOp_gtr]; rfl)
instance : VT (Bo P .geq t cx cy (.int k a) (.int k b)) w (.bool (decide (b ≤ a))) := VT.of (by rw [bo_int, binOp_geq]; rfl)
def InR (z : Int) : Prop := -9223372036854775808 ≤ z ∧ z ≤ 9223372036854775807
theorem wrap64 {z : Int} (h : InR z) : IntKind.i64.wrap z = z := by rw [IntKind.wrap_i64]; unfold InR at h; omega
instance : VS (Bo P .add t cx cy (.int .i64 a) (.int .i64 b)) w (InR (a + b)) (.int .i64 (a + b)) := VS.of fun h => by rw [bo_int, binOp_add]; simp only [Op.intArith, Sem.run_pure, wrap64 h]
instance : VS (Bo P .sub t cx cy (.int .i64 a) (.int .i64 b)) w (InR (a - b)) (.int .i64 (a - b)) := VS.of fun h => by rw [bo_int, binOp_sub]; simp only [Op.intArith, Sem.run_pure, wrap64 h]
instance : VS (Bo P .mul t cx cy (.int .i64 a) (.int .i64 b)) w (InR (a * b)) (.int .i64 (a * b)) := VS.of fun h => by rw [bo_int, binOp_mul]; simp only [Op.intArith, Sem.run_pure, wrap64 h]
end
section
variable {t : TypeId} {cx cy : Bool} {a b : UInt8}
theorem byte_inj : ((a.toNat : Int) = (b.toNat : Int)) ↔ a = b := ⟨fun h => UInt8.toNat_inj.1 (by omega), fun h => by rw [h]⟩
instance (priority := high) : VT (Bo P .eql t cx cy (byteV a) (byteV b)) w (.bool (decide (a = b))) := VT.of (by rw [bo_int, binOp_eql]; simp only [Sem.run_pure]; congr 2; rw [Bool.eq_iff_iff]; simp [byte_inj])
instance (priority := high) : VT (Bo P .neq t cx cy (byteV a) (byteV b)) w (.bool (!decide (a = b))) := VT.of (by rw [bo_int, binOp_neq]; simp only [Sem.run_pure]; congr 2; rw [Bool.eq_iff_iff]; simp [byte_inj])
instance (priority := high) : VT (Bo P .lss t cx cy (byteV a) (byteV b)) w (.bool (decide (a < b))) := VT.of (by rw [bo_int, binOp_lss]; simp only [Sem.run_pure]; congr 2; rw [Bool.eq_iff_iff]; simp [UInt8.lt_iff_toNat_lt])
instance (priority := high) : VT (Bo P .leq t cx cy (byteV a) (byteV b)) w (.bool (decide (a ≤ b))) := VT.of (by rw [bo_int, binOp_leq]; simp only [Sem.run_pure]; congr 2; rw [Bool.eq_iff_iff]; simp [UInt8.le_iff_toNat_le])
instance (priority := high) : VT (Bo P .gtr t cx cy (byteV a) (byteV b)) w (.bool (decide (b < a))) := VT.of (by rw [bo_int, binOp_gtr]; simp only [Sem.run_pure]; congr 2; rw [Bool.eq_iff_iff]; simp [UInt8.lt_iff_toNat_lt])
instance (priority := high) : VT (Bo P .geq t cx cy (byteV a) (byteV b)) w (.bool (decide (b ≤ a))) := VT.of (by rw [bo_int, binOp_geq]; simp only [Sem.run_pure]; congr 2; rw [Bool.eq_iff_iff]; simp [UInt8.le_iff_toNat_le])
instance (priority := high) : VT (Bo P .add t cx cy (byteV a) (byteV b)) w (byteV (a + b)) := VT.of (by rw [bo_int, binOp_add]; simp only [Op.intArith, Sem.run_pure, IntKind.wrap_u8]; first | (congr 2; done) | (congr 2; simp [UInt8.toNat_add]))
instance (priority := high) : VT (Bo P .sub t cx cy (byteV a) (byteV b)) w (byteV (a - b)) := VT.of (by
  rw [bo_int, binOp_sub]; simp only [Op.intArith, Sem.run_pure, IntKind.wrap_u8]; congr 2
  have := a.toNat_lt; have := b.toNat_lt
  rw [UInt8.toNat_sub]; omega)
end
section
variable {t : TypeId} {cx cy : Bool} {a b : List UInt8}
instance : VT (Bo P .eql t cx cy (str a) (str b)) w (.bool (decide (a = b))) := VT.of (by rw [bo_str, binOp_string_eql, ByteArray.toList_eq, ByteArray.toList_eq]; simp only [Sem.run_pure, beq_dec])
instance : VT (Bo P .neq t cx cy (str a) (str b)) w (.bool (!decide (a = b))) := VT.of (by rw [bo_str, binOp_string_neq, ByteArray.toList_eq, ByteArray.toList_eq]; simp only [Sem.run_pure, beq_dec])
instance : VS (Bo P .add t cx cy (str a) (str b)) w ((a.length : Int) + (b.length : Int) ≤ 9223372036854775807) (str (a ++ b)) := VS.of fun h => by
  have h' : ((ByteArray.mk a.toArray).size : Int) + ((ByteArray.mk b.toArray).size : Int) ≤ 9223372036854775807 := h
  rw [bo_str, binOp_string_add]; simp [Op.stringOp, h', str_add]
end
instance {b : Bool} {x y : Value} : VT (Pk P (.bool b) x y) w (if b then x else y) := ⟨fun k => ⟨by simp only [asBool, Sem.run_bind, Sem.run_pure, Result.andThen_ok]; exact k⟩⟩
instance (priority := high) {b x : Bool} : VT (Pk P (.bool b) (.bool x) (.bool false)) w (.bool (b && x)) := ⟨fun k => ⟨by cases b <;> exact k⟩⟩
instance (priority := high) {b x : Bool} : VT (Pk P (.bool b) (.bool true) (.bool x)) w (.bool (b || x)) := ⟨fun k => ⟨by cases b <;> exact k⟩⟩
instance (priority := high) {x y : Value} : VT (Pk P (.bool true) x y) w x := ⟨fun k => ⟨k⟩⟩
instance (priority := high) {x y : Value} : VT (Pk P (.bool false) x y) w y := ⟨fun k => ⟨k⟩⟩

/-! types: what the program says of them -/
class TyU (P : Program) (t : TypeId) (d : outParam TypeDesc) : Prop where eq : P.underlying t = some d
class TyAgg (P : Program) (t : TypeId) (b : outParam Bool) : Prop where run : ∀ w, (isAgg t).run P w = .ok b w
class TySize (P : Program) (t : TypeId) (n : outParam Nat) : Prop where run : ∀ w, (sizeOf t).run P w = .ok n w
/-- The cells of its zero. -/
class TyZ (P : Program) (t : TypeId) (cs : outParam (List Value)) : Prop where run : ∀ w, ∃ z, (zeroValue t).run P w = .ok z w ∧ z.cells = cs.toArray
/-- A slice type: of what; its cells, its bytes. -/
class TySl (P : Program) (t : TypeId) (e size : outParam Nat) : Prop where
  info : ∃ i z, P.underlying t = some (.slice e) ∧ P.info? e = some i ∧ i.zero = some z ∧ i.size = size ∧ z.cells.size = size ∧ 0 < size ∧ i.bytes ≤ 1024
/-- A field: where it lies. -/
class TyFld (P : Program) (t f : Nat) (off : outParam Nat) : Prop where
  run : ∀ a w, (Instr.fieldAt t (.pointer (some a)) f).run P w = .ok (.pointer (some (a.add off))) w

/-! equality -/
class EqV (P : Program) (d t : Nat) (x y : Value) (b : outParam Bool) : Prop where run : ∀ w, (Op.equalIn d t x y).run P w = .ok b w
instance {d t : Nat} {k k' : IntKind} {a b : Int} [u : TyU P t (.int k')] : EqV P (d + 1) t (.int k a) (.int k b) (decide (a = b)) := ⟨fun w => by rw [run_equalIn_int w d t k k' a b u.eq]; rfl⟩
instance (priority := high) {d t : Nat} {k' : IntKind} {a b : UInt8} [u : TyU P t (.int k')] : EqV P (d + 1) t (byteV a) (byteV b) (decide (a = b)) := ⟨fun w => by
  rw [run_equalIn_int w d t .u8 k' _ _ u.eq]
  have hi : ((a.toNat : Int) = (b.toNat : Int)) ↔ a = b := ⟨fun h => UInt8.toNat_inj.1 (by omega), fun h => by rw [h]⟩
  have : decide ((a.toNat : Int) = (b.toNat : Int)) = decide (a = b) := by rw [Bool.eq_iff_iff]; simp only [decide_eq_true_eq, hi]
  simp only [← this]; rfl⟩
instance {d t : Nat} {a b : Bool} [u : TyU P t .bool] : EqV P (d + 1) t (.bool a) (.bool b) (a == b) := ⟨fun w => run_equalIn_bool' w d t a b u.eq⟩
instance {d t : Nat} {a b : List UInt8} [u : TyU P t .string] : EqV P (d + 1) t (str a) (str b) (decide (a = b)) := ⟨fun w => by
  rw [run_equalIn_string w d t _ _ u.eq, ByteArray.toList_eq, ByteArray.toList_eq]; simp only [beq_dec]⟩
class EqFs (P : Program) (d : Nat) (xs ys : List Value) (fs : List (Nat × Nat)) (b : outParam Bool) : Prop where
  run : ∀ (f : List Field), f.map (fun x => (x.type, x.offset)) = fs → (∀ x ∈ f, x.name ≠ "_") → ∀ w, (Op.eqFields d xs.toArray ys.toArray f).run P w = .ok b w
instance {d : Nat} {xs ys : List Value} : EqFs P d xs ys [] true := ⟨fun f hf _ w => by
  have : f = [] := by simpa using hf
  subst this; rfl⟩
/-- A part of an aggregate. -/
class Part (P : Program) (t : TypeId) (cs : List Value) (off : Nat) (v : outParam Value) : Prop where run : ∀ w, (part t cs.toArray off).run P w = .ok v w
class Nth {α : Type} (l : List α) (i : Nat) (x : outParam α) : Prop where eq : l[i]? = some x
instance {α : Type} {l : List α} {x : α} : Nth (x :: l) 0 x := ⟨rfl⟩
instance {α : Type} {l : List α} {x y : α} {i : Nat} [h : Nth l i x] : Nth (y :: l) (i + 1) x := ⟨by simpa using h.eq⟩
class Cut {α : Type} (l : List α) (i n : Nat) (r : outParam (List α)) : Prop where eq : (l.drop i).take n = r ∧ r.length = n
instance {α : Type} {l : List α} : Cut l 0 0 [] := ⟨by simp⟩
instance {α : Type} {l r : List α} {x : α} {n : Nat} [h : Cut l 0 n r] : Cut (x :: l) 0 (n + 1) (x :: r) := ⟨by have := h.eq; simp at this ⊢; exact this⟩
instance {α : Type} {l r : List α} {x : α} {i n : Nat} [h : Cut l i n r] : Cut (x :: l) (i + 1) n r := ⟨by have := h.eq; simpa using this⟩
instance {t off : Nat} {cs : List Value} {v : Value} [a : TyAgg P t false] [h : Nth cs off v] : Part P t cs off v := ⟨fun w => by
  simp [part, Sem.run_bind, a.run, h.eq]⟩
instance {t off n : Nat} {cs r : List Value} [a : TyAgg P t true] [z : TySize P t n] [h : Cut cs off n r] : Part P t cs off (.agg r.toArray) := ⟨fun w => by
  simp only [part, Sem.run_bind, a.run, Result.andThen_ok, z.run, if_true, Sem.run_pure]
  congr 2
  have := h.eq.1
  rw [← this]
  simp [List.take_drop, Nat.add_comm]⟩
instance {d t o : Nat} {xs ys : List Value} {fs : List (Nat × Nat)} {x y : Value} {b c : Bool} [hx : Part P t xs o x] [hy : Part P t ys o y] [he : EqV P d t x y b] [hs : EqFs P d xs ys fs c] :
    EqFs P d xs ys ((t, o) :: fs) (b && c) := ⟨fun f hf hn w => by
  cases f with
  | nil => simp at hf
  | cons g f =>
    simp only [List.map_cons, List.cons.injEq, Prod.mk.injEq] at hf
    obtain ⟨⟨h1, h2⟩, h3⟩ := hf
    simp only [Op.eqFields]
    rw [if_pos (hn g (List.mem_cons_self ..)), h1, h2]
    simp only [Sem.run_bind, hx.run, hy.run, Result.andThen_ok, he.run]
    cases b
    · rfl
    · simpa using hs.run f h3 (fun x hx => hn x (List.mem_cons_of_mem _ hx)) w⟩
end

section
variable {P : Program} {w : World} {t : TypeId} {cx cy : Bool}
instance {d : Nat} {e : TypeId} {b : Option Addr} [u : TyU P t (.pointer e)] : EqV P (d + 1) t (.pointer none) (.pointer b) b.isNone := ⟨fun w => by simp [Op.equalIn, run_underlying u.eq]⟩
instance {d : Nat} {e : TypeId} {a : Addr} [u : TyU P t (.pointer e)] : EqV P (d + 1) t (.pointer (some a)) (.pointer none) false := ⟨fun w => by simp [Op.equalIn, run_underlying u.eq]⟩
instance {d : Nat} {e : TypeId} {b : Option Addr} {n c n' c' : Nat} [u : TyU P t (.slice e)] : EqV P (d + 1) t (.slice none n c) (.slice b n' c') b.isNone := ⟨fun w => by simp [Op.equalIn, run_underlying u.eq]⟩
instance {d : Nat} {e : TypeId} {a : Addr} {n c n' c' : Nat} [u : TyU P t (.slice e)] : EqV P (d + 1) t (.slice (some a) n c) (.slice none n' c') false := ⟨fun w => by simp [Op.equalIn, run_underlying u.eq]⟩
instance {d : Nat} {k e : TypeId} {b : Option Nat} [u : TyU P t (.map k e)] : EqV P (d + 1) t (.map none) (.map b) b.isNone := ⟨fun w => by simp [Op.equalIn, run_underlying u.eq]⟩
instance {d : Nat} {k e : TypeId} {r : Nat} [u : TyU P t (.map k e)] : EqV P (d + 1) t (.map (some r)) (.map none) false := ⟨fun w => by simp [Op.equalIn, run_underlying u.eq]⟩
theorem bo_ptr {op : BinOp} {a b : Option Addr} : binS op t cx cy (.pointer a) (.pointer b) = binOp op t (.pointer a) (.pointer b) := by
  unfold binS eqGuard; cases op <;> rfl
theorem eql_of {x y : Value} {b : Bool} (h : EqV P 10000 t x y b) (he : binS .eql t cx cy x y = (do pure (.bool (← Op.equal t x y)))) : VT (Bo P .eql t cx cy x y) w (.bool b) := VT.of (by
  rw [he]; simp only [Op.equal, Op.maxDepth, Sem.run_bind, h.run, Result.andThen_ok, Sem.run_pure])
theorem neq_of {x y : Value} {b : Bool} (h : EqV P 10000 t x y b) (he : binS .neq t cx cy x y = (do pure (.bool (!(← Op.equal t x y))))) : VT (Bo P .neq t cx cy x y) w (.bool !b) := VT.of (by
  rw [he]; simp only [Op.equal, Op.maxDepth, Sem.run_bind, h.run, Result.andThen_ok, Sem.run_pure])
instance {x y : Option Addr} {b : Bool} [h : EqV P 10000 t (.pointer x) (.pointer y) b] : VT (Bo P .eql t cx cy (.pointer x) (.pointer y)) w (.bool b) := eql_of h rfl
instance {x y : Option Addr} {b : Bool} [h : EqV P 10000 t (.pointer x) (.pointer y) b] : VT (Bo P .neq t cx cy (.pointer x) (.pointer y)) w (.bool !b) := neq_of h rfl
instance {x y b : Bool} [h : EqV P 10000 t (.bool x) (.bool y) b] : VT (Bo P .eql t cx cy (.bool x) (.bool y)) w (.bool b) := eql_of h rfl
instance {x y b : Bool} [h : EqV P 10000 t (.bool x) (.bool y) b] : VT (Bo P .neq t cx cy (.bool x) (.bool y)) w (.bool !b) := neq_of h rfl
instance {x y : Option Addr} {n m n' m' : Nat} {b : Bool} [h : EqV P 10000 t (.slice x n m) (.slice y n' m') b] : VT (Bo P .eql t cx cy (.slice x n m) (.slice y n' m')) w (.bool b) := eql_of h rfl
instance {x y : Option Addr} {n m n' m' : Nat} {b : Bool} [h : EqV P 10000 t (.slice x n m) (.slice y n' m') b] : VT (Bo P .neq t cx cy (.slice x n m) (.slice y n' m')) w (.bool !b) := neq_of h rfl
instance {x y : Option Nat} {b : Bool} [h : EqV P 10000 t (.map x) (.map y) b] : VT (Bo P .eql t cx cy (.map x) (.map y)) w (.bool b) := eql_of h rfl
instance {x y : Option Nat} {b : Bool} [h : EqV P 10000 t (.map x) (.map y) b] : VT (Bo P .neq t cx cy (.map x) (.map y)) w (.bool !b) := neq_of h rfl
/-- Structs that may be compared. -/
class TyEq (P : Program) (t : TypeId) (fs : outParam (List (Nat × Nat))) : Prop where
  u : ∃ f, P.underlying t = some (.struct f) ∧ f.toList.map (fun x => (x.type, x.offset)) = fs ∧ f.toList.all (fun x => x.name != "_") = true
  held : P.stoodInHeld t = false
  guard : P.eqGuardType P.depth t = false
instance {d : Nat} {xs ys : List Value} {fs : List (Nat × Nat)} {b : Bool} [u : TyEq P t fs] [h : EqFs P d xs ys fs b] : EqV P (d + 1) t (.agg xs.toArray) (.agg ys.toArray) b := ⟨fun w => by
  obtain ⟨f, hu, hm, hn⟩ := u.u
  have hf : P.fieldsOf t = f := by simp [Program.fieldsOf, hu]
  rw [run_equalIn_struct w d t _ _ (by rw [hf]; exact hu) u.held, hf]
  exact h.run _ hm (fun x hx => by simpa using List.all_eq_true.1 hn x hx) w⟩
theorem guard_agg {op : BinOp} {fs : List (Nat × Nat)} [u : TyEq P t fs] {x y : Operand} {xs ys : Array Value} : (eqGuard op t x y (.agg xs) (.agg ys)).run P w = .ok () w := run_eqGuard_agg w op t x y xs ys u.guard
instance {fs : List (Nat × Nat)} {xs ys : List Value} {b : Bool} [u : TyEq P t fs] [h : EqV P 10000 t (.agg xs.toArray) (.agg ys.toArray) b] : VT (Bo P .eql t cx cy (.agg xs.toArray) (.agg ys.toArray)) w (.bool b) := VT.of (by
  unfold binS; simp only [Sem.run_bind, guard_agg, Result.andThen_ok, run_eql_struct, h.run])
instance {fs : List (Nat × Nat)} {xs ys : List Value} {b : Bool} [u : TyEq P t fs] [h : EqV P 10000 t (.agg xs.toArray) (.agg ys.toArray) b] : VT (Bo P .neq t cx cy (.agg xs.toArray) (.agg ys.toArray)) w (.bool !b) := VT.of (by
  unfold binS; simp only [Sem.run_bind, guard_agg, Result.andThen_ok, run_neq_struct, h.run])
end
/-! memory: boxes -/
theorem addr_add (b o n : Nat) : (⟨b, o, none⟩ : Addr).add n = ⟨b, o + n, none⟩ := by unfold Addr.add; split <;> simp_all
class AddA (a : Addr) (n : Nat) (r : outParam Addr) : Prop where eq : a.add n = r
instance (priority := high) {b n : Nat} : AddA ⟨b, 0, none⟩ n ⟨b, n, none⟩ := ⟨by rw [addr_add, Nat.zero_add]⟩
instance {b o n : Nat} : AddA ⟨b, o, none⟩ n ⟨b, o + n, none⟩ := ⟨addr_add _ _ _⟩
instance (priority := low) {a : Addr} {n : Nat} : AddA a n (a.add n) := ⟨rfl⟩
class BoxIn (H : List SL) (b : Nat) (t : outParam TypeId) (cs : outParam (List Value)) (R : outParam (List SL)) : Prop where perm : ∀ {S w}, sep H S w ↔ sep (box b t cs :: R) S w
instance (priority := high) {b t : Nat} {cs : List Value} {H : List SL} : BoxIn (box b t cs :: H) b t cs H := ⟨Iff.rfl⟩
instance {A : SL} {b t : Nat} {cs : List Value} {H R : List SL} [h : BoxIn H b t cs R] : BoxIn (A :: H) b t cs (A :: R) :=
  ⟨⟨fun x => sep_swap (sep_cons h.perm.1 x), fun x => sep_cons h.perm.2 (sep_swap x)⟩⟩
/-- At an address cells stand. -/
class El (w : World) (a : Addr) (cs : outParam (List Value)) : Prop where at_ : ∀ j u, cs[j]? = some u → w.cell? (a.add j) = some u
class DropL {α : Type} (l : List α) (i : Nat) (r : outParam (List α)) : Prop where eq : l.drop i = r
instance {α : Type} {l : List α} : DropL l 0 l := ⟨rfl⟩
instance {α : Type} {l r : List α} {x : α} {i : Nat} [h : DropL l i r] : DropL (x :: l) (i + 1) r := ⟨by simpa using h.eq⟩
instance {w w0 : World} {H R : List SL} {b o t : Nat} {cs r : List Value} [h : Hv w0 H w] [i : BoxIn H b t cs R] [d : DropL cs o r] : El w ⟨b, o, none⟩ r := ⟨fun j u hu => by
  have h1 := Hv.perm i.perm.1 h
  obtain ⟨S, _, _, hb⟩ := h1.ok
  rw [addr_add, cell_of_row w b (o + j) _ t (0, 0) hb]
  rw [← d.eq, List.getElem?_drop] at hu
  simpa using hu⟩
instance {w : World} {a : Addr} {k : Nat} {cs r : List Value} [h : El w a cs] [d : DropL cs k r] : El w (a.add k) r := ⟨fun j u hu => by
  rw [← d.eq, List.getElem?_drop] at hu
  have := h.at_ _ _ hu
  rw [← this]
  congr 1
  unfold Addr.add
  split <;> split <;> split <;> simp_all <;> omega⟩
theorem el_load {w : World} {a : Addr} {cs : List Value} [h : El w a cs] {j : Nat} {u : Value} (hu : cs[j]? = some u) : w.cell? (a.add j) = some u := h.at_ j u hu
class TakeL {α : Type} (l : List α) (n : Nat) (r : outParam (List α)) : Prop where eq : l.take n = r ∧ r.length = n
instance {α : Type} {l : List α} : TakeL l 0 [] := ⟨by simp⟩
instance {α : Type} {l r : List α} {x : α} {n : Nat} [h : TakeL l n r] : TakeL (x :: l) (n + 1) (x :: r) := ⟨by have := h.eq; simp [this]⟩
section
variable {P : Program} {w : World}
instance {t : TypeId} {a : Addr} {v : Value} {cs : List Value} [g : TyAgg P t false] [h : El w a (v :: cs)] : VT (Ld P t (.pointer (some a))) w v := VT.of (by
  have := h.at_ 0 v rfl
  simp only [Instr.loadAt, Instr.sureAddr, loadVar, Sem.run_bind, Sem.run_pure, Result.andThen_ok, g.run]
  simp only [Addr.add, if_true] at this
  simp [run_load, this])
instance {t n : TypeId} {a : Addr} {cs r : List Value} [g : TyAgg P t true] [z : TySize P t n] [h : El w a cs] [k : TakeL cs n r] : VT (Ld P t (.pointer (some a))) w (.agg r.toArray) := VT.of (by
  have hl := run_loadCells_list (P := P) (w := w) a r (fun j u hu => by
    rw [← k.eq.1] at hu
    rw [List.getElem?_take] at hu
    split at hu
    · exact h.at_ j u hu
    · cases hu)
  rw [k.eq.2] at hl
  simp [Instr.loadAt, Instr.sureAddr, loadVar, Sem.run_bind, g.run, z.run, hl])
theorem ld_run {t : TypeId} {a w v} [h : VT (Ld P t a) w v] : (Instr.loadAt t a).run P w = .ok v w := by
  have h1 := h.prf (K := fun v' s' => v' = v ∧ s' = ⟨w, []⟩) (ds := []) ⟨rfl, rfl⟩
  have h2 := h1.out
  simp only [Sem.run_bind] at h2
  cases hr : (Instr.loadAt t a).run P w with
  | halt x w' => rw [hr] at h2; exact h2.elim
  | ok x w' =>
    rw [hr] at h2
    obtain ⟨rfl, h3⟩ := (h2 : x = v ∧ (⟨w', []⟩ : St) = ⟨w, []⟩)
    cases h3; rfl
instance {t : TypeId} {a : Addr} {v : Value} {k : Value → Prop} [h : VT (Ld P t (.pointer (some a))) w v] : Step (LdR P t (.pointer (some a)) w k) (k v) := ⟨fun hk => ⟨v, ld_run (h := h), hk⟩⟩
instance {t f off : Nat} {a r : Addr} [i : TyFld P t f off] [g : AddA a off r] : VT (Fa P t (.pointer (some a)) f) w (.pointer (some r)) := VT.of (by rw [i.run, g.eq])
instance {a : Addr} : VT (Nc P (.pointer (some a))) w (.pointer (some a)) := ⟨fun k => ⟨k⟩⟩
end
/-! cells of a value -/
class One (w : World) (v : Value) : Prop where eq : v.oneCell' = true
instance {w : World} {k : IntKind} {a : Int} : One w (.int k a) := ⟨rfl⟩
instance {w : World} {b : Bool} : One w (.bool b) := ⟨rfl⟩
instance {w : World} {s : ByteArray} : One w (.string s) := ⟨rfl⟩
instance {w : World} {a : Option Addr} : One w (.pointer a) := ⟨rfl⟩
instance {w : World} {a : Option Addr} {n c : Nat} : One w (.slice a n c) := ⟨rfl⟩
instance {w : World} {r : Option Nat} : One w (.map r) := ⟨rfl⟩
instance {w : World} : One w .nilIface := ⟨rfl⟩
instance {w : World} : One w .nilFunc := ⟨rfl⟩
instance {w : World} {t : TypeId} {v : Value} : One w (.iface t v) := ⟨rfl⟩
instance {w : World} {f : Fn} {a b : Array Value} : One w (.func f a b) := ⟨rfl⟩
theorem one_cells {v : Value} (h : v.oneCell' = true) : v.cells = #[v] := by cases v <;> simp_all [Value.oneCell', Value.cells]
class Ones (w : World) (l : List Value) : Prop where eq : ∀ v ∈ l, v.oneCell' = true
instance {w : World} : Ones w [] := ⟨fun _ h => by simp at h⟩
instance {w : World} {x : Value} {l : List Value} [h : One w x] [k : Ones w l] : Ones w (x :: l) := ⟨fun v hv => by
  cases hv with
  | head => exact h.eq
  | tail _ hv => exact k.eq v hv⟩
class Cells (w : World) (v : Value) (cs : outParam (List Value)) : Prop where
  eq : v.cells = cs.toArray
  one : ∀ v ∈ cs, v.oneCell' = true
instance (priority := high) {w : World} {l : List Value} [h : Ones w l] : Cells w (.agg l.toArray) l := ⟨rfl, h.eq⟩
instance {w : World} {v : Value} [h : One w v] : Cells w v [v] := ⟨one_cells h.eq, fun u hu => by simp at hu; subst hu; exact h.eq⟩
class Len {α : Type} (l : List α) (n : outParam Nat) : Prop where eq : l.length = n
instance {α : Type} : Len ([] : List α) 0 := ⟨rfl⟩
instance {α : Type} {x : α} {l : List α} {n : Nat} [h : Len l n] : Len (x :: l) (n + 1) := ⟨by simp [h.eq]⟩
/-- A piece of a row put in its place. -/
class PutL (cs : List Value) (o : Nat) (vs : List Value) (r : outParam (List Value)) : Prop where eq : cs.take o ++ vs ++ cs.drop (o + vs.length) = r ∧ o + vs.length ≤ cs.length
instance {cs : List Value} : PutL cs 0 [] cs := ⟨by simp⟩
instance {x v : Value} {cs vs r : List Value} [h : PutL cs 0 vs r] : PutL (x :: cs) 0 (v :: vs) (v :: r) := ⟨by have := h.eq; simp at this ⊢; exact this⟩
instance {x : Value} {o : Nat} {cs vs r : List Value} [h : PutL cs o vs r] : PutL (x :: cs) (o + 1) vs (x :: r) := ⟨by
  have := h.eq; rw [show o + 1 + vs.length = (o + vs.length) + 1 by omega]; simp at this ⊢; exact this⟩
theorem fold_put (vs : List Value) : ∀ (k o : Nat) (cs : List Value), o + k + vs.length ≤ cs.length →
    ((vs.zipIdx k).foldl (fun (cs : Array Value) p => cs.setIfInBounds (o + p.2) p.1) cs.toArray) = (cs.take (o + k) ++ vs ++ cs.drop (o + k + vs.length)).toArray := by
  induction vs with
  | nil => intro k o cs _; simp
  | cons v vs ih =>
    intro k o cs h
    simp only [List.length_cons] at h
    simp only [List.zipIdx_cons, List.foldl_cons, List.setIfInBounds_toArray]
    rw [ih (k + 1) o (cs.set (o + k) v) (by rw [List.length_set]; omega)]
    congr 1
    have e := list_seg_step cs (o + k) v vs (by omega)
    simpa [Nat.add_assoc] using e
class FillL (pl : List (Nat × Nat)) (cs : List Value) (ps : List (Nat × Value)) (w : World) (r : outParam (List Value)) : Prop where
  eq : Instr.fill (pl.toArray[·]?) cs.toArray ps = some r.toArray
instance {pl : List (Nat × Nat)} {cs : List Value} {w : World} : FillL pl cs [] w cs := ⟨rfl⟩
instance {pl : List (Nat × Nat)} {cs vs c1 r : List Value} {ps : List (Nat × Value)} {w : World} {i o n : Nat} {v : Value} [h1 : Nth pl i (o, n)] [h2 : Cells w v vs] [h3 : Len vs n] [h4 : PutL cs o vs c1] [h5 : FillL pl c1 ps w r] :
    FillL pl cs ((i, v) :: ps) w r := ⟨by
  have e1 : pl.toArray[i]? = some (o, n) := by simpa using h1.eq
  simp only [Instr.fill, e1, h2.eq, List.size_toArray, h3.eq]
  have hb := h4.eq.2
  rw [h3.eq] at hb
  rw [if_neg (by simp; omega)]
  have hf := fold_put vs 0 o cs (by simpa using h4.eq.2)
  rw [Nat.add_zero, h4.eq.1] at hf
  have hz : vs.toArray.zipIdx = (vs.zipIdx 0).toArray := by simp
  rw [hz, List.foldl_toArray]
  rw [hf]
  exact h5.eq⟩
/-- A struct type: its zero's cells, its fields' places. -/
class TyB (P : Program) (t : TypeId) (zs : outParam (List Value)) (pl : outParam (List (Nat × Nat))) : Prop where
  eq : ∀ ps, P.built t ps = Instr.fill (pl.toArray[·]?) zs.toArray ps
section
variable {P : Program} {w w0 : World} {H R : List SL} {ds : List Deferred}
instance {t : TypeId} {zs r : List Value} {pl : List (Nat × Nat)} {ps : List (Nat × Value)} [h : TyB P t zs pl] [f : FillL pl zs ps w r] : VT (Bd P t ps.toArray) w (.agg r.toArray) := VT.of (run_build w t _ _ (by rw [h.eq]; exact f.eq))
theorem box_new (w : World) (t : TypeId) (cs : List Value) : ∃ S', sep [box w.heap.size t cs] S' (w.alloc (.cells cs.toArray t)) ∧ ∀ b, S' b → w.heap.size ≤ b :=
  ⟨fun b => b = w.heap.size, ⟨fun b => b = w.heap.size, emp, fun b => ⟨.inl, fun h => h.elim id fun h => h.elim⟩, fun b _ h => h, ⟨fun k => Iff.rfl, heap_alloc_new w _⟩, fun b h => h⟩, fun b h => by omega⟩
theorem Hv.box (h : Hv w0 H w) (t : TypeId) (cs : List Value) : Hv w0 (box w.heap.size t cs :: H) (w.alloc (.cells cs.toArray t)) := h.new (B := [Vx.box w.heap.size t cs]) (box_new w t cs) (Kept.alloc _ _ _)
instance {t : TypeId} {v : Value} {cs : List Value} {K : Value → St → Prop} [o : Hv w0 H w] [c : Cells w v cs] : Step (Bx P t v K ⟨w, ds⟩) (∀ b w', Hv w0 (box b t cs :: H) w' → K (.pointer (some ⟨b, 0, none⟩)) ⟨w', ds⟩) :=
  ⟨fun h => vl_ok (w' := w.alloc (.cells cs.toArray t)) (by simp [Instr.box, newVar, newRow, c.eq]) (h _ _ (o.box t cs))⟩
instance {t : TypeId} {zs : List Value} {K : Value → St → Prop} [o : Hv w0 H w] [z : TyZ P t zs] : Step (Al P t K ⟨w, ds⟩) (∀ b w', Hv w0 (box b t zs :: H) w' → K (.pointer (some ⟨b, 0, none⟩)) ⟨w', ds⟩) :=
  ⟨fun h => by
    obtain ⟨z, hz, hc⟩ := z.run w
    exact vl_ok (w' := w.alloc (.cells zs.toArray t)) (by simp [Instr.alloc, Sem.run_bind, hz, newVar, newRow, hc]) (h _ _ (o.box t zs))⟩
theorem Hv.stored {b t : Nat} {cs r : List Value} (h : Hv w0 (Vx.box b t cs :: R) w) : Hv w0 (Vx.box b t r :: R) (w.setRow b r.toArray) := by
  refine Hv.step (B := [Vx.box b t r]) h fun S hS hb => ⟨S, ⟨S, emp, fun b => ⟨.inl, fun h => h.elim id fun h => h.elim⟩, fun b _ h => h, ⟨hb.1, setRow_heap w b _ _ t _ hb.2⟩, fun b h => h⟩, fun b h => .inl h, ?_⟩
  exact ⟨rfl, rfl, rfl, by simp [World.setRow], fun k hk hs => setRow_other w b k _ fun e => hs ((hb.1 k).2 e)⟩
instance {t n b o t' : Nat} {x : Value} {cs vs r : List Value} {K : Value → St → Prop} [ow : Hv w0 H w] [i : BoxIn H b t' cs R] [c : Cells w x vs] [z : TySize P t n] [l : Len vs n] [p : PutL cs o vs r] :
    Step (Sv P t (.pointer (some ⟨b, o, none⟩)) x K ⟨w, ds⟩) (∀ w', Hv w0 (box b t' r :: R) w' → K undef ⟨w', ds⟩) :=
  ⟨fun h => by
    have h1 := Hv.perm i.perm.1 ow
    obtain ⟨S, _, _, hb⟩ := h1.ok
    have hs := run_storeCells_at P b o t' vs 0 cs.toArray w hb (by simpa using p.eq.2) c.one
    simp only [Nat.add_zero, p.eq.1] at hs
    refine ut_ok (w' := w.setRow b r.toArray) ?_ (h _ h1.stored)
    simp [Instr.storeAt, Instr.sureAddr, storeVar, Sem.run_bind, z.run, c.eq, l.eq, hs]⟩
end
end Go.Vx
