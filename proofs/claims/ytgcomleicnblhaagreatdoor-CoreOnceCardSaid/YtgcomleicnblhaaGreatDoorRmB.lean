import Derived.Test.YtgcomleicnblhaaGreatDoorRmA
set_option linter.all false
namespace Go.Proofs.YtgcomleicnblhaaGreatDoor
open Go.Vx Go.Lib
/-! bits of small numbers -/
section
variable {t : TypeId} {cx cy : Bool} {w : World}
theorem bits32 : ∀ a b : Fin 32, IntKind.i64.wrap ((BitVec.ofInt 64 a.val &&& BitVec.ofInt 64 b.val).toNat : Int) = ((a.val &&& b.val : Nat) : Int) ∧ IntKind.i64.wrap ((BitVec.ofInt 64 a.val ||| BitVec.ofInt 64 b.val).toNat : Int) = ((a.val ||| b.val : Nat) : Int) ∧ IntKind.i64.wrap ((BitVec.ofInt 64 a.val &&& ~~~ BitVec.ofInt 64 b.val).toNat : Int) = ((a.val &&& (31 - b.val) : Nat) : Int) := by decide +kernel
theorem fin32 {a : Int} (h : 0 ≤ a ∧ a < 32) : ∃ x : Fin 32, a = (x.val : Int) := ⟨⟨a.toNat, by omega⟩, by simp; omega⟩
instance rmb1 {a b : Int} {i j : Nat} [zi : ToN a i] [zj : ToN b j] : VS (Bo P .and t cx cy (.int .i64 a) (.int .i64 b)) w ((0 ≤ a ∧ a < 32) ∧ 0 ≤ b ∧ b < 32) (.int .i64 ((i &&& j : Nat) : Int)) := VS.of fun h => by
  rw [← zi.eq h.1.1, ← zj.eq h.2.1]
  obtain ⟨x, rfl⟩ := fin32 h.1
  obtain ⟨y, rfl⟩ := fin32 h.2
  rw [bo_int, binOp_and]
  simp only [Op.intBits]
  show (pure (Value.int IntKind.i64 (IntKind.i64.wrap ((BitVec.ofInt 64 x.val &&& BitVec.ofInt 64 y.val).toNat : Int))) : Sem Value).run P w = _
  rw [(bits32 x y).1]; rfl
instance rmb2 {a b : Int} {i j : Nat} [zi : ToN a i] [zj : ToN b j] : VS (Bo P .or t cx cy (.int .i64 a) (.int .i64 b)) w ((0 ≤ a ∧ a < 32) ∧ 0 ≤ b ∧ b < 32) (.int .i64 ((i ||| j : Nat) : Int)) := VS.of fun h => by
  rw [← zi.eq h.1.1, ← zj.eq h.2.1]
  obtain ⟨x, rfl⟩ := fin32 h.1
  obtain ⟨y, rfl⟩ := fin32 h.2
  rw [bo_int, binOp_or]
  simp only [Op.intBits]
  show (pure (Value.int IntKind.i64 (IntKind.i64.wrap ((BitVec.ofInt 64 x.val ||| BitVec.ofInt 64 y.val).toNat : Int))) : Sem Value).run P w = _
  rw [(bits32 x y).2.1]; rfl
instance rmb3 {a b : Int} {i j : Nat} [zi : ToN a i] [zj : ToN b j] : VS (Bo P .andNot t cx cy (.int .i64 a) (.int .i64 b)) w ((0 ≤ a ∧ a < 32) ∧ 0 ≤ b ∧ b < 32) (.int .i64 ((i &&& (31 - j) : Nat) : Int)) := VS.of fun h => by
  rw [← zi.eq h.1.1, ← zj.eq h.2.1]
  obtain ⟨x, rfl⟩ := fin32 h.1
  obtain ⟨y, rfl⟩ := fin32 h.2
  rw [bo_int]
  show (pure (Value.int IntKind.i64 (IntKind.i64.wrap ((BitVec.ofInt 64 x.val &&& ~~~ BitVec.ofInt 64 y.val).toNat : Int))) : Sem Value).run P w = _
  rw [(bits32 x y).2.2]; rfl
def bitN (c : UInt8) : Nat := if c = 105 then 1 else if c = 109 then 2 else if c = 110 then 4 else if c = 115 then 8 else if c = 116 then 16 else 0
theorem bitN_lt (c : UInt8) : bitN c < 32 := by unfold bitN; split <;> (try split) <;> (try split) <;> (try split) <;> (try split) <;> omega
instance rmb4 {z : Int} : VS (Bo P .shl t cx cy (.int .i64 1) (.int .i64 z)) w (0 ≤ z ∧ z < 60) (.int .i64 ((2 ^ z.toNat : Nat) : Int)) := VS.of fun h => by
  rw [bo_int, binOp_shl, shift_shl .i64 .i64 1 z h.1 (by have := h.2; simp only [IntKind.bits]; omega)]
  have e : ∀ n : Fin 60, IntKind.i64.wrap (1 * 2 ^ n.val) = ((2 ^ n.val : Nat) : Int) := by decide +kernel
  have := e ⟨z.toNat, by omega⟩
  simp only at this
  rw [this]; rfl
theorem letters_idx (c : UInt8) : idxB [105, 109, 110, 115, 116] c = if c = 105 then 0 else if c = 109 then 1 else if c = 110 then 2 else if c = 115 then 3 else if c = 116 then 4 else -1 := by
  simp only [idxB_cons, show idxB [] c = -1 from rfl, eq_comm (b := c)]
  by_cases h1 : c = 105 <;> by_cases h2 : c = 109 <;> by_cases h3 : c = 110 <;> by_cases h4 : c = 115 <;> by_cases h5 : c = 116 <;> simp [*]
end
end Go.Proofs.YtgcomleicnblhaaGreatDoor

