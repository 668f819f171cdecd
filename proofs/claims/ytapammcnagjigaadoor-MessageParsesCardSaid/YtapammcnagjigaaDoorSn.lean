import Derived.Test.YtapammcnagjigaaDoorSw
import Derived.Lib.LaidTab
import Derived.Lib.ItoaMem
import Derived.Lib.ItoaLen
import Derived.Sort.Grow
import Derived.Deep.Draws
set_option linter.all false
namespace Go.Vx
open Go.RowKit Go.Lib

theorem inf_of {P : Program} {t : TypeId} {i : TypeInfo} (h : P.types[t]? = some i) : P.info? t = some i := by
  have hlt : t < P.types.size := (Array.getElem?_eq_some_iff.1 h).1
  unfold Tables.info?
  rw [if_pos hlt]; exact h
/-! division; tables of the library's; decimal digits -/
theorem binOp_quo' {t : TypeId} {k : IntKind} {a b : Int} : binOp .quo t (.int k a) (.int k b) = Op.intDiv .quo k a b := by simp [binOp]
section
variable {P : Program} {w w0 : World} {H : List SL} {t : TypeId} {cx cy : Bool}
instance {a b : Int} : VS (Bo P .quo t cx cy (.int .i64 a) (.int .i64 b)) w (b ≠ 0 ∧ InR (a.tdiv b)) (.int .i64 (a.tdiv b)) := VS.of fun h => by
  rw [bo_int, binOp_quo']; simp only [Op.intDiv, if_neg h.1, Sem.run_pure, wrap64 h.2]
instance {a : Int} : VS (Uo P .neg (.int .i64 a)) w (InR (-a)) (.int .i64 (-a)) := VS.of fun h => by
  show (Op.intArith .sub .i64 0 a).run P w = _
  simp only [Op.intArith, Sem.run_pure, Int.zero_sub, wrap64 h]
instance (priority := 20000) {src dst i : Nat} {z : Int} {B : Prop} {ds : List Deferred} [hs : TyU P src (.int .i64)] [hd : TyU P dst (.int .u8)] [zn : ToN z i] : Step (Ck (Cv P src dst (.int .i64 z)) (byteV (UInt8.ofNat i)) ⟨w, ds⟩ ∧ B) ((0 ≤ z ∧ z < 256) ∧ B) := ⟨fun ⟨h, k⟩ => ⟨(show Step (Cv P src dst (.int .i64 z) _ ⟨w, ds⟩) _ from inferInstance).prf ⟨h, rfl, rfl⟩, k⟩⟩
/-- A table of the library's lies in the world ahead. -/
class Tab (P : Program) (w0 : World) (name : String) (k : IntKind) (zs : outParam (List Int)) : Prop where eq : TabIs P w0 name k zs
theorem Hv.tab {name : String} {k : IntKind} {zs : List Int} (o : Hv w0 H w) (h : TabIs P w0 name k zs) : TabIs P w name k zs := by
  unfold TabIs World.var? at *
  cases hg : P.globalNamed name with
  | none => rw [hg] at h; simp at h
  | some g =>
    rw [hg] at h
    simp only [Option.bind_some] at h ⊢
    have hlt : g < w0.heap.size := by
      rcases Nat.lt_or_ge g w0.heap.size with x | x
      · exact x
      · rw [Array.getElem?_eq_none x] at h; cases h
    rw [o.bel.block g hlt]; exact h
theorem Hv.grown {os : Array Obj} {k : Nat} (o : Hv w0 H w) : Hv w0 H (Go.Sort.grow (w.drewN k) os) :=
  o.same ⟨rfl, rfl, rfl, by simp [Go.Sort.grow, World.drewN], fun j hj _ => by
    simp only [Go.Sort.grow, World.drewN]; exact Array.getElem?_append_left hj⟩
end
/-! pieces of a string -/
theorem ext_str (l : List UInt8) (a b : Nat) : (ByteArray.mk l.toArray).extract a b = ByteArray.mk ((l.take b).drop a).toArray := by
  apply ByteArray.ext
  simp only [ByteArray.data_extract, List.extract_toArray, List.extract_eq_drop_take]
  rw [List.drop_take]
section
variable {P : Program} {w : World} {t i j : Nat} {l : List UInt8} {k k' : IntKind} {z z' : Int}
instance [u : TyU P t .string] [n : ToN z i] : VS (Sl P t (str l) (some (.int k z)) none none) w (0 ≤ z ∧ z ≤ l.length) (str (l.drop i)) := VS.of fun h => by
  have e := n.eq h.1
  rw [run_sliceAt_string w t _ _ _ _ u.eq, run_slice_string_l w t _ u.eq k z h.1 (by simpa [ByteArray.size] using h.2), e, ext_str]
  simp [ByteArray.size, str]
instance [u : TyU P t .string] [n : ToN z i] : VS (Sl P t (str l) none (some (.int k z)) none) w (0 ≤ z ∧ z ≤ l.length) (str (l.take i)) := VS.of fun h => by
  have e := n.eq h.1
  rw [run_sliceAt_string w t _ _ _ _ u.eq, run_slice_string_h w t _ u.eq k z h.1 (by simpa [ByteArray.size] using h.2), e, ext_str]
  simp [str]
instance [u : TyU P t .string] [n : ToN z i] [m : ToN z' j] : VS (Sl P t (str l) (some (.int k z)) (some (.int k' z')) none) w (0 ≤ z ∧ z ≤ z' ∧ z' ≤ l.length) (str ((l.take j).drop i)) := VS.of fun h => by
  have e := n.eq h.1
  have e' := m.eq (by omega)
  have hsz : (ByteArray.mk l.toArray).size = l.length := by simp [ByteArray.size]
  have h3 : z'.toNat ≤ l.length := by omega
  have hj : (j : Int) = z' := by omega
  rw [run_sliceAt_string w t _ _ _ _ u.eq]
  simp [Instr.slice, str, run_underlying u.eq, Instr.sliceBounds, Sem.run_bind, run_sliceBound, h.1, h.2.1, h.2.2, show 0 ≤ z' by omega, hsz, e, e', hj, ext_str]
end
/-! the decimal digits -/
theorem tdiv_nat {n : Int} (h : 0 ≤ n) : (n.tdiv 10).toNat = n.toNat / 10 ∧ 0 ≤ n.tdiv 10 ∧ n.tdiv 10 ≤ n := by
  rw [Int.tdiv_eq_ediv_of_nonneg h]; omega
theorem tmod_nat {n : Int} (h : 0 ≤ n) : (n.tmod 10).toNat = n.toNat % 10 ∧ 0 ≤ n.tmod 10 ∧ n.tmod 10 < 10 := by
  rw [Int.tmod_eq_emod_of_nonneg h]; omega
theorem dec_big {u : Nat} (h : ¬ u < 10) : decDigits u = decDigits (u / 10) ++ [UInt8.ofNat (48 + u % 10)] := by rw [decDigits, dif_neg h]
theorem itoa_pos {n : Int} (h : 0 ≤ n) : itoa n = decDigits n.toNat := by unfold itoa; rw [if_neg (by omega)]
theorem itoa_neg1 {n : Int} (h : n < 0) : itoa n = 45 :: decDigits n.natAbs := by unfold itoa; rw [if_pos h]
theorem tdiv_neg {n : Int} (h : n ≤ -10) : (n.tdiv 10) < 0 ∧ (n.tdiv 10).natAbs = n.natAbs / 10 ∧ n ≤ n.tdiv 10 ∧ (n.tmod 10) ≤ 0 ∧ -10 < n.tmod 10 ∧ (-(n.tmod 10)).toNat = n.natAbs % 10 := by
  have e1 : n.tdiv 10 = -((-n).tdiv 10) := by rw [← Int.neg_tdiv, Int.neg_neg]
  have e2 : n.tmod 10 = -((-n).tmod 10) := by rw [← Int.neg_tmod, Int.neg_neg]
  have h1 : (-n).tdiv 10 = (-n) / 10 := Int.tdiv_eq_ediv_of_nonneg (by omega)
  have h2 : (-n).tmod 10 = (-n) % 10 := Int.tmod_eq_emod_of_nonneg (by omega)
  rw [e1, e2, h1, h2]; omega
theorem itoa_step {n : Int} (h : n ≤ -10) : itoa n = itoa (n.tdiv 10) ++ decDigits (-(n.tmod 10)).toNat := by
  obtain ⟨h1, h2, _, h3, h4, h5⟩ := tdiv_neg h
  rw [itoa_neg1 (by omega), itoa_neg1 h1, h2, h5, decDigits_one (show n.natAbs % 10 < 10 by omega), dec_big (by omega)]
  simp
theorem inR_of {z : Int} (h : (Lit.int .i64 z).wf = true) : InR z := by
  unfold InR
  have := h
  simp [Lit.wf, IntKind.min, IntKind.max, IntKind.signed, IntKind.bits] at this
  omega
theorem dec_len {u : Nat} (h : (u : Int) ≤ 9223372036854775807) : (decDigits u).length ≤ 21 := by
  rw [← itoa_nonneg]; exact itoa_length_le _ (by omega) h
end Go.Vx
