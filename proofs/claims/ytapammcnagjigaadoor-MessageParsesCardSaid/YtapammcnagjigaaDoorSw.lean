import Derived.Test.YtapammcnagjigaaDoorSm
import Derived.Lib.UnsafeStr
import Derived.Lib.Builder
set_option linter.all false
namespace Go.Vx
open Go.RowKit Go.Lib

/-! pointers; strings.Builder's parts -/
theorem tyz_of {P : Program} {t : TypeId} {i : TypeInfo} {z : Value} (hi : P.info? t = some i) (hz : i.zero = some z) (w : World) : (zeroValue t).run P w = .ok z w := by simp [zeroValue, typeInfo, hi, hz]
class TyInf (P : Program) (t : TypeId) (n : outParam Nat) : Prop where ex : ∃ i, P.info? t = some i ∧ i.size = n
class TyUn (P : Program) (t : TypeId) : Prop where eq : P.underlying t = some .unsafePointer
/-- A variable of type t in a block of its own lies as such. -/
class TyLie (P : Program) (t : Nat) (n : outParam Nat) : Prop where eq : liesAt P P.depth t (n / P.cellsOf t) 0 t 1 = true
class ExNoE (P : Program) (g : Nat) : Prop where
  run : ∀ (args : Array Value) (w : World), (callFunc g args).run P w = ((Extern.AbiNoEscape.same args).run P w).andThen fun v w' => .ok (.value v) w'
section
variable {P : Program} {w w0 : World} {H R : List SL} {ds : List Deferred}
instance (priority := high) {d t e n : Nat} {a : Addr} [u : TyU P t (.pointer e)] [i : TyInf P e n] : EqV P (d + 1) t (.pointer (some a)) (.pointer (some a)) true := ⟨fun w => by
  obtain ⟨j, hj, _⟩ := i.ex
  by_cases h : n = 0
  · simp [Op.equalIn, run_underlying u.eq, sizeOf, typeInfo, hj, run_sameAddr_same]
  · simp [Op.equalIn, run_underlying u.eq, sizeOf, typeInfo, hj, run_sameAddr_same]⟩
theorem box_shape {b t : Nat} {cs : List Value} (h : Hv w0 (box b t cs :: R) w) : w.shape? b = some (t, cs.length) := by
  simp [World.shape?, h.at]
instance {src dst b t n : Nat} {x : Value} {cs : List Value} [hs : TyU P src (.pointer t)] [hd : TyUn P dst] [i : TyInf P t n] [o : Hv w0 H w] [ib : BoxIn H b t (x :: cs) R] : VS (Cv P src dst (.pointer (some ⟨b, 0, none⟩))) w (n ≠ 0) (.pointer (some ⟨b, 0, none⟩)) := VS.of fun h => by
  obtain ⟨j, hj, hz⟩ := i.ex
  have h1 := Hv.perm ib.perm.1 o
  exact run_to_unsafe w ⟨b, 0, none⟩ hs.eq hd.eq hj (by omega) (box_shape h1) (by simp)
instance {src dst b t n m : Nat} {cs : List Value} [hs : TyUn P src] [hd : TyU P dst (.pointer t)] [i : TyInf P t n] [o : Hv w0 H w] [ib : BoxIn H b t cs R] [li : TyLie P t m] [l : Len cs m] : VT (Cv P src dst (.pointer (some ⟨b, 0, none⟩))) w (.pointer (some ⟨b, 0, none⟩)) := VT.of (by
  obtain ⟨j, hj, hz⟩ := i.ex
  have h1 := Hv.perm ib.perm.1 o
  have h2 := box_shape h1
  rw [l.eq] at h2
  exact run_from_unsafe w ⟨b, 0, none⟩ hs.eq hd.eq hj h2 li.eq)
instance {g : Nat} {v : Value} [e : ExNoE P g] : VT (Dy P (.func (.func g) #[] #[]) #[v]) w v := ⟨fun k => ⟨by
  have h : (do let d ← Deferred.ofValue (.func (.func g) #[] #[]) #[v]; invoke d.target d.args : Sem Next).run P w = (callFunc g #[v]).run P w := by
    simp [Deferred.ofValue, invoke, Sem.run_bind, Sem.run_pure, Result.andThen]
  rw [h, e.run, run_noEscape]
  exact k⟩⟩
instance {ts cs : Array _} {ty : TypeId} {a : Addr} {n c : Nat} : VS (Bi P .unsafeSliceData ts ty cs #[.slice (some a) n c]) w (c ≠ 0) (.pointer (some a)) := ⟨fun h {K ds} k => bi_ok (m := Builtin.unsafeSliceData_ ts ty #[.slice (some a) n c]) rfl (run_unsafeSliceData_row w ts ty a n c h) k⟩
instance {ts cs : Array _} {ty : TypeId} {n c : Nat} : VT (Bi P .unsafeSliceData ts ty cs #[.slice none n c]) w (.pointer none) := ⟨fun {K ds} k => bi_ok (m := Builtin.unsafeSliceData_ ts ty #[.slice none n c]) rfl (run_unsafeSliceData_nil w ts ty n c) k⟩
instance {pt it ty : TypeId} {cs : Array _} {p : Option Addr} : VT (Bi P .unsafeString #[pt, it] ty cs #[.pointer p, .int .i64 0]) w (str []) := ⟨fun {K ds} k => bi_ok (m := Builtin.unsafeString_ #[pt, it] ty #[.pointer p, .int .i64 0]) rfl (run_unsafeString_none w pt it ty p) k⟩
/-- The bytes of a row, made a string in place: the row may not be turned any more. -/
theorem row_string {e pt it ty n : Nat} {v : Value} {l : List UInt8} (hp : P.underlying pt = some (.pointer e)) (hc : P.cellsOf e = 1) (hn : n = l.length) (h63 : l.length ≤ 1000000000) (h : Hv w0 (row e 1 v n (l.map byteV) :: R) w) :
    (v = .slice none 0 0 ∧ l = []) ∨ ∃ g cap, v = .slice (some ⟨g, 0, none⟩) n cap ∧ (0 < l.length → cap ≠ 0 ∧ ∃ w', (Builtin.unsafeString_ #[pt, it] ty #[.pointer (some ⟨g, 0, none⟩), .int .i64 l.length]).run P w = .ok (str l) w' ∧ Hv w0 (ro 1 v n (l.map byteV) :: R) w') := by
  subst hn
  obtain ⟨S, _, hS, hr, h1⟩ := h.ok
  rcases hr.2 with ⟨rfl, h0⟩ | ⟨g, cap, cur, rfl, hb, hg, hnc, hcm, hcs, htk⟩
  · exact .inl ⟨rfl, List.eq_nil_of_length_eq_zero h0⟩
  · refine .inr ⟨g, cap, rfl, fun hpos => ⟨by omega, ?_⟩⟩
    rw [Nat.mul_one] at hcs
    have hsh : w.shape? g = some (e, cur.size) := by simp [World.shape?, hg]
    have hcell : ∀ j x, l[j]? = some x → w.cell? ((⟨g, 0, none⟩ : Addr).add j) = some (.int .u8 x.toNat) := fun j x hj => hr.cells (g := g) rfl j _ (by simp [hj])
    have hrun := run_unsafeString_row (P := P) w pt it ty e hp hc g cur.size hsh l (by intro e; subst e; simp at hpos) (by omega) (by omega) hcell
    refine ⟨_, hrun, Hv.step (B := [ro 1 (.slice (some ⟨g, 0, none⟩) l.length cap) l.length (l.map byteV)]) h fun S' hS' hr' => ?_⟩
    have hne0 : ¬ l.length = 0 := by omega
    have hfz : w.freeze ⟨g, 0, none⟩ l.length = _ := if_neg hne0
    have hg' : ∃ fz, (w.freeze ⟨g, 0, none⟩ l.length).heap[g]? = some (.cells cur e fz) := by
      rw [hfz]; simp [hg, Array.getElem?_modify]
    obtain ⟨fz, hg'⟩ := hg'
    refine ⟨S', ⟨S', emp, fun b => ⟨.inl, fun h => h.elim id fun h => h.elim⟩, fun b _ h => h, ⟨hr'.1, hr.1, h1, g, cap, cur, e, _, rfl, hg', hnc, hcm, htk⟩, fun b h => h⟩, fun b h => .inl h, ?_⟩
    rw [hfz]
    refine ⟨rfl, rfl, rfl, by simp, fun k hk hs => ?_⟩
    have hne : k ≠ g := fun e => hs ((hr'.1 k).2 (by rw [e]; rfl))
    simp [Array.getElem?_modify, Ne.symm hne]
/-- Room: none, or some. -/
def capOk (v : Value) : Prop := v = .slice none 0 0 ∨ ∃ a n c, v = .slice (some a) n c ∧ c ≠ 0
/-- A builder that has taken bytes. -/
def sbd (t e b : Nat) (bs : List UInt8) : SL := any fun q : Bool × Value => many [lift (capOk q.2), box b t [.pointer (if q.1 then some ⟨b, 0, none⟩ else none), q.2], row e 1 q.2 bs.length (bs.map byteV)]
theorem sbd_open {t e b : Nat} {bs : List UInt8} (h : Hv w0 (sbd t e b bs :: H) w) : ∃ (q : Bool) (v : Value), capOk v ∧ Hv w0 (box b t [.pointer (if q then some ⟨b, 0, none⟩ else none), v] :: row e 1 v bs.length (bs.map byteV) :: H) w := by
  obtain ⟨⟨q, v⟩, h⟩ := h.pick
  have h := h.opens
  exact ⟨q, v, h.lifted, h.tail⟩
theorem sbd_close' {t e b : Nat} {bs : List UInt8} (q : Bool) {v : Value} (hv : capOk v) (h : Hv w0 (box b t [.pointer (if q then some ⟨b, 0, none⟩ else none), v] :: row e 1 v bs.length (bs.map byteV) :: H) w) : Hv w0 (sbd t e b bs :: H) w :=
  Hv.give (q, v) (Hv.closes (H := [_, _, _]) (Hv.lift h hv))
theorem cap_row {e n : Nat} {v : Value} {xs : List Value} (h : Hv w0 (row e 1 v n xs :: H) w) (hv : v = .slice none 0 0 ∨ 0 < n) : capOk v := by
  rcases hv with hv | hv
  · exact .inl hv
  · obtain ⟨S, _, _, hr, _⟩ := h.ok
    rcases hr.2 with ⟨rfl, h0⟩ | ⟨g, cap, cur, rfl, _, _, hnc, _⟩
    · exact .inl rfl
    · exact .inr ⟨_, _, _, rfl, by omega⟩
theorem sbd_close {t e b : Nat} {bs : List UInt8} (q : Bool) {v : Value} (hv : v = .slice none 0 0 ∨ 0 < bs.length) (h : Hv w0 (box b t [.pointer (if q then some ⟨b, 0, none⟩ else none), v] :: row e 1 v bs.length (bs.map byteV) :: H) w) : Hv w0 (sbd t e b bs :: H) w :=
  sbd_close' q (cap_row (Hv.perm sep_swap h) hv) h
theorem sbd_new {t e b : Nat} (h : Hv w0 (box b t [.pointer none, .slice none 0 0] :: H) w) : Hv w0 (sbd t e b [] :: H) w :=
  sbd_close false (.inl rfl) (Hv.perm sep_swap (Hv.nilRow e 1 h))
class SbIn (H : List SL) (b : Nat) (t e : outParam Nat) (bs : outParam (List UInt8)) (R : outParam (List SL)) : Prop where perm : ∀ {S w}, sep H S w → sep (sbd t e b bs :: R) S w
instance (priority := high) {t e b : Nat} {bs : List UInt8} {H : List SL} : SbIn (sbd t e b bs :: H) b t e bs H := ⟨id⟩
instance {A : SL} {t e b : Nat} {bs : List UInt8} {H R : List SL} [h : SbIn H b t e bs R] : SbIn (A :: H) b t e bs (A :: R) := ⟨fun x => sep_swap (sep_cons h.perm x)⟩
theorem subSb {t e b : Nat} {H' R G : List SL} {xs ys : List UInt8} [r : SbIn H' b t e xs R] (h : xs = ys) (k : Sub R G) : Sub H' (sbd t e b ys :: G) := ⟨fun h' => by
  subst h; exact (Sub.cons k).sub (r.perm h')⟩
end
end Go.Vx
