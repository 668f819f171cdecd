import Derived.Test.YtapammcnagjigaaDoorSt
set_option linter.all false
namespace Go.Vx
open Go.RowKit

/-! arrays; bits; numbers' kinds -/
class Ltn (i n : Nat) : Prop where lt : i < n
/-- An array type: how many, of what, of what size. -/
class TyArr (P : Program) (t : TypeId) (n e s : outParam Nat) : Prop where
  u : P.underlying t = some (.array n e)
  size : ∀ w, (sizeOf e).run P w = .ok s w
instance {α β : Type} {f : α → β} {l : List α} {n : Nat} [h : Len l n] : Len (l.map f) n := ⟨by rw [List.length_map, h.eq]⟩
instance {n : Nat} : Len (List.range n) n := ⟨List.length_range⟩
instance {α : Type} {n : Nat} {x : α} : Len (List.replicate n x) n := ⟨List.length_replicate⟩
instance {α : Type} {l : List α} {n i : Nat} {x : α} [h : Len l n] : Len (l.set i x) n := ⟨by rw [List.length_set, h.eq]⟩
instance (priority := low) {α : Type} {l : List α} {n : Nat} [h : Len l n] : TakeL l n l := ⟨by rw [List.take_of_length_le (by rw [h.eq]; exact Nat.le_refl _)], h.eq⟩
instance (priority := low) {cs vs : List Value} {n : Nat} [h : Len cs n] [k : Len vs n] : PutL cs 0 vs vs := ⟨by
  have e1 := h.eq; have e2 := k.eq
  refine ⟨?_, by omega⟩
  rw [List.drop_eq_nil_of_le (by omega)]; simp⟩
instance {α : Type} {w : World} {l : List α} {k : IntKind} {g : α → Int} : Ones w (l.map fun x => .int k (g x)) := ⟨fun v hv => by obtain ⟨_, _, rfl⟩ := List.mem_map.1 hv; rfl⟩
instance {w : World} {n : Nat} {v : Value} [o : One w v] : Ones w (List.replicate n v) := ⟨fun u hu => by rw [List.eq_of_mem_replicate hu]; exact o.eq⟩
instance {w : World} {l : List Value} {i : Nat} {v : Value} [h : Ones w l] [o : One w v] : Ones w (l.set i v) := ⟨fun u hu => by
  rcases List.mem_or_eq_of_mem_set hu with h1 | h1
  · exact h.eq u h1
  · rw [h1]; exact o.eq⟩
instance (priority := high) {f : Nat → Value} {m i n : Nat} : SubX ((List.range m).map f) 1 i n [f i] := ⟨fun hl hi j u hj => by
  simp only [List.length_map, List.length_range] at hl
  cases j with
  | zero =>
    simp only [List.getElem?_cons_zero, Option.some.injEq] at hj
    subst hj
    rw [Nat.mul_one, Nat.add_zero, List.getElem?_map, List.getElem?_range (by omega)]
    rfl
  | succ j => simp at hj⟩
instance (priority := high) {x : Value} {l : List Value} {n : Nat} : SubX (x :: l) 1 0 n [x] := ⟨fun hl hi j u hj => by
  cases j with
  | zero => simpa using hj
  | succ j => simp at hj⟩
instance (priority := high) {l : List Value} {i n : Nat} {v : Value} : SubX (l.set i v) 1 i n [v] := ⟨fun hl hi j u hj => by
  simp only [List.length_set] at hl
  cases j with
  | zero =>
    simp only [List.getElem?_cons_zero, Option.some.injEq] at hj
    subst hj
    rw [Nat.mul_one, Nat.add_zero, List.getElem?_set_self (by omega)]
  | succ j => simp at hj⟩
instance (priority := low) {w w0 : World} {H R : List SL} {b i n t : Nat} {cs r : List Value} [o : Hv w0 H w] [x : BoxIn H b t cs R] [l : Len cs n] [h : Ltn i n] [s : SubX cs 1 i n r] : El w ⟨b, i, none⟩ r := ⟨fun j u hu => by
  have h1 := Hv.perm x.perm.1 o
  obtain ⟨S, _, _, hb⟩ := h1.ok
  rw [addr_add, cell_of_row w b (i + j) _ t (0, 0) hb]
  have := s.eq (by rw [l.eq, Nat.mul_one]) h.lt j u hu
  rw [Nat.mul_one] at this
  simpa using this⟩
section
variable {P : Program} {w w0 : World} {H R : List SL} {ds : List Deferred}
theorem ia_arr {t n e s b i : Nat} {k : IntKind} {z : Int} (u : TyArr P t n e s) (zn : ToN z i) (h : 0 ≤ z ∧ z < n) : (Instr.indexAt t (.pointer (some ⟨b, 0, none⟩)) (.int k z)).run P w = .ok (.pointer (some ⟨b, i * s, none⟩)) w := by
  have hn : P.arrayLen t = n := by simp [Program.arrayLen, u.u]
  have he : P.elem t = e := by simp [Program.elem, u.u]
  rw [run_indexAt_array w t _ k z (by rw [hn, he]; exact u.u), hn, he, if_pos h, u.size, Result.andThen_ok, addr_add, Nat.zero_add, zn.eq h.1]
class MulN (i s : Nat) (r : outParam Nat) : Prop where eq : i * s = r
instance (priority := high) {i : Nat} : MulN i 1 i := ⟨Nat.mul_one i⟩
instance {i s : Nat} : MulN i s (i * s) := ⟨rfl⟩
instance {t n e s b i r : Nat} {k : IntKind} {z : Int} {K : Value → St → Prop} [u : TyArr P t n e s] [zn : ToN z i] [m : MulN i s r] :
    Step (Ia P t (.pointer (some ⟨b, 0, none⟩)) (.int k z) K ⟨w, ds⟩) ((0 ≤ z ∧ z < n) ∧ (Ltn i n → K (.pointer (some ⟨b, r, none⟩)) ⟨w, ds⟩)) := ⟨fun ⟨h, k⟩ => by
  have := zn.eq h.1
  rw [← m.eq] at k
  exact vl_ok (ia_arr u zn h) (k ⟨by omega⟩)⟩
instance {t n e s b i r : Nat} {k : IntKind} {z : Int} {K : Value → Prop} [u : TyArr P t n e s] [zn : ToN z i] [m : MulN i s r] :
    Step (Qt (Ia P t (.pointer (some ⟨b, 0, none⟩)) (.int k z)) ⟨w, ds⟩ K) ((0 ≤ z ∧ z < n) ∧ (Ltn i n → K (.pointer (some ⟨b, r, none⟩)))) := ⟨fun ⟨h, k⟩ => by
  have := zn.eq h.1
  rw [← m.eq] at k
  exact ⟨_, vl_ok (ia_arr u zn h) ⟨rfl, rfl⟩, k ⟨by omega⟩⟩⟩
instance (priority := low) {t b i n t' : Nat} {x : Value} {cs : List Value} {K : Value → St → Prop} [ow : Hv w0 H w] [ib : BoxIn H b t' cs R] [on : One w x] [z : TySize P t 1] [l : Len cs n] [h : Ltn i n] :
    Step (Sv P t (.pointer (some ⟨b, i, none⟩)) x K ⟨w, ds⟩) (∀ w', Hv w0 (box b t' (cs.set i x) :: R) w' → K undef ⟨w', ds⟩) := ⟨fun hk => by
  have h1 := Hv.perm ib.perm.1 ow
  obtain ⟨S, _, _, hb⟩ := h1.ok
  have hlt : i < cs.length := by rw [l.eq]; exact h.lt
  have hs := run_storeCells_at P b i t' [x] 0 cs.toArray w hb (by simp; omega) (fun u hu => by simp at hu; subst hu; exact on.eq)
  have e : cs.take i ++ [x] ++ cs.drop (i + 1) = cs.set i x := by
    rw [List.set_eq_take_append_cons_drop, if_pos hlt, List.append_assoc]; rfl
  have e' : (cs.toArray.toList.take (i + 0) ++ [x] ++ cs.toArray.toList.drop (i + 0 + [x].length)).toArray = (cs.set i x).toArray := by
    rw [← e]; rfl
  rw [e'] at hs
  refine ut_ok (w' := w.setRow b (cs.set i x).toArray) ?_ (hk _ h1.stored)
  simp [Instr.storeAt, Instr.sureAddr, storeVar, Sem.run_bind, z.run, one_cells on.eq, hs]⟩
section
variable {t : TypeId} {cx cy : Bool}
theorem bits16 (a b : Int) (ha : 0 ≤ a ∧ a < 65536) (hb : 0 ≤ b ∧ b < 65536) :
    (BitVec.ofInt 16 a ||| BitVec.ofInt 16 b).toNat = a.toNat ||| b.toNat ∧ (BitVec.ofInt 16 a &&& BitVec.ofInt 16 b).toNat = a.toNat &&& b.toNat := by
  have e : ∀ z : Int, 0 ≤ z ∧ z < 65536 → (BitVec.ofInt 16 z).toNat = z.toNat := fun z hz => by
    rw [BitVec.toNat_ofInt]; omega
  rw [BitVec.toNat_or, BitVec.toNat_and, e a ha, e b hb]
  exact ⟨rfl, rfl⟩
theorem wrap16 {z : Nat} (h : z < 65536) : IntKind.u16.wrap (z : Int) = z := by
  simp only [IntKind.wrap, IntKind.signed, IntKind.bits]
  simp; omega
instance {a b : Int} : VS (Bo P .or t cx cy (.int .u16 a) (.int .u16 b)) w ((0 ≤ a ∧ a < 65536) ∧ 0 ≤ b ∧ b < 65536) (.int .u16 ((a.toNat ||| b.toNat : Nat) : Int)) := VS.of fun h => by
  rw [bo_int, binOp_or]
  simp only [Op.intBits]
  have := (bits16 a b h.1 h.2).1
  show (pure (Value.int IntKind.u16 (IntKind.u16.wrap ((BitVec.ofInt 16 a ||| BitVec.ofInt 16 b).toNat : Int))) : Sem Value).run P w = _
  rw [this, wrap16 (Nat.or_lt_two_pow (n := 16) (by omega) (by omega))]
  rfl
instance {a b : Int} : VS (Bo P .and t cx cy (.int .u16 a) (.int .u16 b)) w ((0 ≤ a ∧ a < 65536) ∧ 0 ≤ b ∧ b < 65536) (.int .u16 ((a.toNat &&& b.toNat : Nat) : Int)) := VS.of fun h => by
  rw [bo_int, binOp_and]
  simp only [Op.intBits]
  have := (bits16 a b h.1 h.2).2
  show (pure (Value.int IntKind.u16 (IntKind.u16.wrap ((BitVec.ofInt 16 a &&& BitVec.ofInt 16 b).toNat : Int))) : Sem Value).run P w = _
  rw [this, wrap16 (Nat.lt_of_le_of_lt Nat.and_le_left (by omega))]
  rfl
end
/-- A number made a byte. -/
theorem cv_byte {src dst i : Nat} {z : Int} (hs : TyU P src (.int .i64)) (hd : TyU P dst (.int .u8)) (zn : ToN z i) (h : 0 ≤ z ∧ z < 256) : (convert src dst (.int .i64 z)).run P w = .ok (byteV (UInt8.ofNat i)) w := by
  have e := zn.eq h.1
  have h2 : IntKind.u8.wrap z = ((UInt8.ofNat i).toNat : Int) := by
    rw [UInt8.toNat_ofNat']
    simp only [IntKind.wrap, IntKind.signed, IntKind.bits]
    simp; omega
  simp [convert, run_underlying hs.eq, run_underlying hd.eq, Conv.intToInt, h2]
instance (priority := 20000) {src dst i : Nat} {z : Int} {K : Value → St → Prop} [hs : TyU P src (.int .i64)] [hd : TyU P dst (.int .u8)] [zn : ToN z i] : Step (Cv P src dst (.int .i64 z) K ⟨w, ds⟩) ((0 ≤ z ∧ z < 256) ∧ K (byteV (UInt8.ofNat i)) ⟨w, ds⟩) := ⟨fun ⟨h, k⟩ => vl_ok (cv_byte hs hd zn h) k⟩
instance (priority := 20000) {src dst i : Nat} {z : Int} {K : Value → Prop} [hs : TyU P src (.int .i64)] [hd : TyU P dst (.int .u8)] [zn : ToN z i] : Step (Qt (Cv P src dst (.int .i64 z)) ⟨w, ds⟩ K) ((0 ≤ z ∧ z < 256) ∧ K (byteV (UInt8.ofNat i))) := ⟨fun ⟨h, k⟩ => ⟨_, vl_ok (cv_byte hs hd zn h) ⟨rfl, rfl⟩, k⟩⟩
end
theorem idxB_has (l : List UInt8) (c : UInt8) : decide (0 ≤ idxB l c) = l.contains c := by
  unfold idxB
  cases h : l.findIdx? (· == c) with
  | none =>
    rw [List.findIdx?_eq_none_iff] at h
    symm
    simp only [List.contains_eq_mem, show ¬ (0 : Int) ≤ -1 by decide, decide_false, decide_eq_false_iff_not]
    intro hm
    simpa using h c hm
  | some i =>
    obtain ⟨hi, h1, _⟩ := List.findIdx?_eq_some_iff_getElem.1 h
    have : l[i] = c := by simpa using h1
    have hm : c ∈ l := this ▸ List.getElem_mem hi
    simp [hm]
end Go.Vx
