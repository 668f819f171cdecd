import Derived.Test.YtapammcnagjigaaDoorSq
set_option linter.all false
namespace Go.Vx
open Go.RowKit
/-! the bytes of a string, as a slice -/
def srow (v : Value) (n : Nat) (bs : List UInt8) : SL where
  ok S w := (∀ k, S k ↔ v.ownBlock = some k) ∧ bs.length = n ∧ ∃ g cap cur e fz, v = .slice (some ⟨g, 0, none⟩) n cap ∧ w.heap[g]? = some (.cells cur e (fz, fz + 1)) ∧ cur.size ≤ fz ∧ n ≤ cap ∧ cap ≤ maxLen ∧ cur.toList.take n = bs.map byteV
  loc {S w w'} he h := by
    obtain ⟨h1, h2, g, cap, cur, e, fz, hv, hg, r⟩ := h
    exact ⟨h1, h2, g, cap, cur, e, fz, hv, by rw [he g ((h1 g).2 (by rw [hv]; rfl))]; exact hg, r⟩
  lt {S w} h k hk := by
    obtain ⟨h1, h2, g, cap, cur, e, fz, hv, hg, r⟩ := h
    have := (h1 k).1 hk
    rw [hv] at this
    simp only [Value.ownBlock, Option.some.injEq] at this
    subst this
    exact (Array.getElem?_eq_some_iff.1 hg).1
class SrIn (H : List SL) (v : Value) (n : outParam Nat) (bs : outParam (List UInt8)) (R : outParam (List SL)) : Prop where perm : ∀ {S w}, sep H S w ↔ sep (srow v n bs :: R) S w
instance (priority := high) {n : Nat} {v : Value} {bs : List UInt8} {H : List SL} : SrIn (srow v n bs :: H) v n bs H := ⟨Iff.rfl⟩
instance {A : SL} {n : Nat} {v : Value} {bs : List UInt8} {H R : List SL} [h : SrIn H v n bs R] : SrIn (A :: H) v n bs (A :: R) := ⟨⟨fun x => sep_swap (sep_cons h.perm.1 x), fun x => sep_cons h.perm.2 (sep_swap x)⟩⟩
theorem subSrow {H' R G : List SL} {v : Value} {n m : Nat} {xs ys : List UInt8} [r : SrIn H' v n xs R] (h1 : n = m) (h2 : xs = ys) (k : Sub R G) : Sub H' (srow v m ys :: G) := ⟨fun h => by
  subst h1 h2; exact k.cons.sub (r.perm.1 h)⟩
theorem rds_srow {S : Nat → Prop} {w : World} {v : Value} {n : Nat} {bs : List UInt8} (h : (srow v n bs).ok S w) : Rds w v 1 n (bs.map byteV) := by
  obtain ⟨h1, h2, g, cap, cur, e, fz, hv, hg, hf, hnc, hcm, ht⟩ := h
  refine ⟨by simp [h2], fun u hu => ?_, by omega, some ⟨g, 0, none⟩, cap, hv, (fun h => by cases h), hnc, fun j u hu => ⟨_, rfl, ?_⟩⟩
  · obtain ⟨b, _, rfl⟩ := List.mem_map.1 hu; rfl
  · rw [addr_add, Nat.zero_add, cell_of_row w g j cur e _ hg]
    rw [← ht, List.getElem?_take] at hu
    split at hu
    · simpa using hu
    · cases hu
theorem SrIn.rds {H R : List SL} {v : Value} {n : Nat} {bs : List UInt8} (i : SrIn H v n bs R) {w w0 : World} (o : Hv w0 H w) : Rds w v 1 n (bs.map byteV) := by
  obtain ⟨S, _, h⟩ := (Hv.perm i.perm.1 o).ok
  exact rds_srow h
instance {w w0 : World} {H R : List SL} {n : Nat} {v : Value} {bs : List UInt8} [o : Hv w0 H w] [i : SrIn H v n bs R] : Rds w v 1 n (bs.map byteV) := i.rds o
instance {w0 : World} {H R : List SL} {n : Nat} {v : Value} {bs : List UInt8} [i : SrIn H v n bs R] : RdsF w0 H v 1 n (bs.map byteV) := ⟨fun _ h => i.rds h⟩
section
variable {P : Program} {w w0 : World} {H R : List SL} {ds : List Deferred}
theorem grown_lim (e : TypeId) {n : Nat} (h : n ≤ 100000) : grownCap w n 0 e ≤ maxLen := grownCap_le_maxLen w n 0 e (by simp only [maxLen]; omega)
instance {src dst e : TypeId} {l : List UInt8} {K : Value → St → Prop} [o : Hv w0 H w] [hs : TyU P src .string] [hd : TyU P dst (.slice e)] [he : TyU P e (.int .u8)] :
    Step (Cv P src dst (str l) K ⟨w, ds⟩) (l.length ≤ 100000 ∧ ∀ v w', Hv w0 (srow v l.length l :: H) w' → K v ⟨w', ds⟩) := ⟨fun ⟨hl, h⟩ => by
  have hg := grownCap_ge w l.length 0 e
  have hm := grown_lim (w := w) e hl
  refine vl_ok (run_bytes_of_string w src dst e ⟨l.toArray⟩ hs.eq hd.eq he.eq) (h _ _ (o.new (B := [srow _ _ _]) ⟨fun k => k = w.heap.size, ⟨_, emp, fun b => ⟨.inl, fun h => h.elim id fun h => h.elim⟩, fun b _ h => h, ?_, fun b h => h⟩, fun b hb => by omega⟩ ?_))
  · refine ⟨fun k => by simp only [Value.ownBlock, Option.some.injEq]; exact eq_comm, rfl, w.heap.size, grownCap w l.length 0 e, bytesRow ⟨l.toArray⟩ (grownCap w l.length 0 e), e, _, rfl, ?_, Nat.le_refl _, hg, hm, ?_⟩
    · show (w.heap.push _)[w.heap.size]? = _
      rw [Array.getElem?_push]
      exact if_pos rfl
    · simp [bytesRow]
  · exact ⟨rfl, rfl, rfl, by simp, fun k hk _ => Below.heap_alloc w.drew _ k hk⟩⟩
instance {t i n : Nat} {a : Addr} {v : Value} {bs : List UInt8} {c : UInt8} {K : Value → St → Prop} [o : Hv w0 H w] [ix : IxA v i 1 a] [r : SrIn H v n bs R] [ts : TySize P t 1] :
    Step (Sv P t (.pointer (some a)) (byteV c) K ⟨w, ds⟩) (∀ w', Hv w0 (srow v n (bs.set i c) :: R) w' → K undef ⟨w', ds⟩) := ⟨fun h => by
  have h1 := Hv.perm r.perm.1 o
  obtain ⟨base, n', cap', hv', hi, rfl⟩ := ix.ex
  obtain ⟨S, hS, h1', h2, g, cap, cur, e, fz, hv, hg, hf, hnc, hcm, ht⟩ := h1.ok
  rw [hv'] at hv
  simp only [Value.slice.injEq, Option.some.injEq] at hv
  obtain ⟨rfl, rfl, rfl⟩ := hv
  have hsz : n' ≤ cur.size := by have := congrArg List.length ht; simp at this; omega
  refine ut_ok (w' := w.setCell ⟨g, i, none⟩ (byteV c)) ?_ (h _ (Hv.step (B := [srow _ _ _]) h1 fun S' hS' ho => ?_))
  · have hcell : w.cell? ⟨g, i, none⟩ = some (cur[i]'(by omega)) := by rw [cell_of_row w g i cur e _ hg]; exact Array.getElem?_eq_getElem _
    have hfz : w.frozen? ⟨g, i, none⟩ = false := by
      simp only [World.frozen?, hg]
      have : ¬ fz ≤ i := by omega
      simp [this]
    have h0 : (⟨g, i, none⟩ : Addr).add 0 = ⟨g, i, none⟩ := by rw [addr_add, Nat.add_zero]
    have hst : (store (⟨g, i, none⟩ : Addr) (byteV c)).run P w = .ok () (w.setCell ⟨g, i, none⟩ (byteV c)) := by
      rw [run_store P w _ _ _ rfl, hcell]; simp [hfz]
    have hsc : (storeCells (⟨g, i, none⟩ : Addr) [byteV c]).run P w = .ok () (w.setCell ⟨g, i, none⟩ (byteV c)) := by
      simp [storeCells, h0, Sem.run_bind, hst]
    simp [Instr.storeAt, Instr.sureAddr, storeVar, Sem.run_bind, ts.run, one_cells (v := byteV c) rfl, addr_add, hsc]
  · refine ⟨S', ⟨S', emp, fun b => ⟨.inl, fun h => h.elim id fun h => h.elim⟩, fun b _ h => h, ⟨ho.1, by simp [h2], g, cap', cur.setIfInBounds i (byteV c), e, fz, hv', ?_, by simpa using hf, hnc, hcm, ?_⟩, fun b h => h⟩, fun b h => .inl h, rfl, rfl, rfl, by simp, fun k hk hs => ?_⟩
    · rw [setCell_eq_setRow w g i cur e _ _ hg]
      simp [World.setRow, Array.getElem?_modify, hg]
    · rw [Array.toList_setIfInBounds, List.take_set, ht, List.map_set]
    · have hne : k ≠ g := fun e => hs ((ho.1 k).2 (by rw [e, hv']; rfl))
      exact heap_setCell_other w _ k _ hne⟩
end
end Go.Vx
