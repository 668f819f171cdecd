import Derived.Test.YtapammcnagjigaaDoorSz
set_option linter.all false
namespace Go.Vx
open Go.RowKit

/-! a string put behind a row of bytes -/
section
variable {P : Program} {w w0 : World} {H R : List SL} {ds : List Deferred}
theorem first_str (l : List UInt8) (w : World) : (Builtin.firstCells 1 l.length (str l)).run P w = .ok (l.map byteV).toArray w := by
  have h : (((⟨l.toArray⟩ : ByteArray).extract 0 l.length).data.map fun b => Value.int .u8 b.toNat) = (l.map byteV).toArray := by
    apply Array.ext'
    simp
  simp only [Builtin.firstCells, Sem.run_pure, h]
theorem append_str_run {t q e n : Nat} (u : TySl P t e 1) (hq : P.underlying q = some .string) {v : Value} {xs : List Value} {l : List UInt8} (ty : TypeId) (hv : w.ownsRow 0 e 1 v n xs) (hb : n + l.length ≤ 137438953472) :
    ∃ v' w', (Builtin.append_ #[t, q] ty #[v, str l]).run P w = .ok v' w' ∧ w'.ownsRow 0 e 1 v' (n + l.length) (xs ++ l.map byteV) ∧ Kept (fun k => v.ownBlock = some k) w w' ∧ ∀ k, v'.ownBlock = some k → v.ownBlock = some k ∨ w.heap.size ≤ k := by
  obtain ⟨i, z, hu, hi, hz, hs, hzs, hpos, hby⟩ := u.info
  have hlen : (xs ++ l.map byteV).length = (n + l.length) * 1 := by have := hv.1; simp at this ⊢; omega
  have hbytes : (n + l.length) * i.bytes ≤ 140737488355328 := Nat.le_trans (Nat.mul_le_mul hb hby) (by decide)
  have hz0 : (⟨#[]⟩ : ByteArray).size = 0 := rfl
  have hzl : (⟨l.toArray⟩ : ByteArray).size = l.length := rfl
  have h1 : ∀ u ∈ l.map byteV, u.oneCell' = true := fun u hu => by obtain ⟨_, _, rfl⟩ := List.mem_map.1 hu; rfl
  have grown : ∀ (old : Nat), old < n + l.length →
      (w.drew.alloc (.cells (xs.toArray ++ (l.map byteV).toArray ++ Builtin.zeroCells z.cells (grownCap w (n + l.length) old e - (n + l.length))) e)).ownsRow 0 e 1
        (.slice (some ⟨w.heap.size, 0, none⟩) (n + l.length) (grownCap w (n + l.length) old e)) (n + l.length) (xs ++ l.map byteV) := by
    intro old ho
    have hge := grownCap_ge w (n + l.length) old e
    have hcm : grownCap w (n + l.length) old e ≤ maxLen := grownCap_le_maxLen w (n + l.length) old e (by simp only [maxLen]; omega)
    refine ⟨hlen, .inr ⟨w.heap.size, _, _, rfl, Nat.zero_le _, heap_alloc_new w.drew _, hge, hcm, ?_, ?_⟩⟩
    · have := hv.1
      simp only [Array.size_append, List.size_toArray, size_zeroCells, hzs, this, List.length_map]
      omega
    · simp only [Array.toList_append, List.append_assoc]
      rw [← List.append_assoc, ← hlen]
      exact List.take_left
  have hk : ∀ (S : Nat → Prop) (o : Obj), Kept S w (w.drew.alloc o) := fun S o => ⟨rfl, rfl, rfl, by simp, fun k hk _ => Below.heap_alloc w.drew o k hk⟩
  rcases hv.2 with ⟨rfl, rfl⟩ | ⟨g, cp, cur, rfl, _, hg, hnc, hcm, hcs, ht⟩
  · have hx : xs = [] := List.eq_nil_of_length_eq_zero (by simpa using hv.1)
    subst hx
    by_cases hm : l = []
    · subst hm
      refine ⟨.slice none 0 0, w, ?_, World.ownsRow_nil w 0 e 1, Kept.refl _ _, fun k h => .inl h⟩
      have hf := first_str (P := P) [] w
      simp only [List.length_nil] at hf
      simp [Builtin.append_, run_underlying hu, run_underlying hq, sizeOf, typeInfo, hi, hs, Builtin.lenOf, hz0, hf]
    · have hm0 : l.length ≠ 0 := fun h => hm (List.eq_nil_of_length_eq_zero h)
      have hr := run_append_nil_string (P := P) w t q ty e i z hu hq hi hz ⟨l.toArray⟩ (by show 0 < l.length; omega) (by show (l.length : Int) ≤ _; omega) (by show l.length * _ ≤ _; simp only [Nat.zero_add] at hbytes; omega)
      have hg := grown 0 (by omega)
      simp only [Nat.zero_add, List.nil_append, Array.empty_append] at hg
      refine ⟨_, _, hr, ?_, hk _ _, fun k h => .inr ?_⟩
      · have e1 : ((⟨l.toArray⟩ : ByteArray).data.map fun b => Value.int .u8 b.toNat) = (l.map byteV).toArray := by apply Array.ext'; simp
        have e2 : (⟨l.toArray⟩ : ByteArray).size = l.length := rfl
        rw [e1, e2]
        simpa using hg
      · simp only [Value.ownBlock, Option.some.injEq] at h; omega
  · by_cases hroom : n + l.length ≤ cp
    · have hst := run_storeCells_at P g n e (l.map byteV) 0 cur w hg (by simp; omega) h1
      refine ⟨.slice (some ⟨g, 0, none⟩) (n + l.length) cp, w.setRow g (cur.toList.take n ++ l.map byteV ++ cur.toList.drop (n + l.length)).toArray, ?_, ⟨hlen, .inr ⟨g, cp, _, rfl, Nat.zero_le _, setRow_heap w g cur _ e _ hg, hroom, hcm, ?_, ?_⟩⟩, ⟨rfl, rfl, rfl, by simp [World.setRow], fun k _ hk => setRow_other w g k _ fun e => hk (by simp [Value.ownBlock, e])⟩, fun k h => .inl h⟩
      · have hf := first_str (P := P) l w
        simp only [Nat.add_zero, List.length_map] at hst
        simp [Builtin.append_, run_underlying hu, run_underlying hq, sizeOf, typeInfo, hi, hs, Builtin.lenOf, hzl, hroom, hf, Addr.add_lit, hst]
      · simp; omega
      · rw [Nat.mul_one] at ht
        rw [ht, Nat.mul_one]
        have : n + l.length = (xs ++ l.map byteV).length := by rw [hlen]; omega
        rw [this]
        exact List.take_left
    · have holds : ∀ j u, xs[j]? = some u → w.cell? ((⟨g, 0, none⟩ : Addr).add j) = some u := hv.cells (g := g) rfl
      have hf := first_str (P := P) l w.drew
      have hfo := run_firstCells_some (P := P) w.drew 1 n ⟨g, 0, none⟩ n cp xs hv.1 (by simpa using holds)
      have hfit := growslice_fits (show cp < n + l.length by omega) hbytes
      refine ⟨_, _, ?_, grown cp (by omega), hk _ _, fun k h => .inr ?_⟩
      · have h63' : ¬ (9223372036854775807 < ((n : Int) + (l.length : Int))) := by omega
        have h48' : ¬ (281474976710656 < Builtin.nextslicecap (n + l.length) cp * i.bytes) := by omega
        simp [Builtin.append_, run_underlying hu, run_underlying hq, sizeOf, typeInfo, zeroValue, hi, hz, hs, Builtin.lenOf, hzl, hroom, h63', h48', Question.forced, hf, hfo, newRow, grownCap]
        congr 2
        apply Array.ext'
        simp
      · simp only [Value.ownBlock, Option.some.injEq] at h; omega
instance {t q ty e n : Nat} {cs : Array Bool} {v : Value} {xs : List Value} {l : List UInt8} {K : Value → St → Prop} [o : Hv w0 H w] [i : RowIn H v e 1 n xs R] [u : TySl P t e 1] [hq : TyU P q .string] :
    Step (Bi P .append #[t, q] ty cs #[v, str l] K ⟨w, ds⟩) (n + l.length ≤ 137438953472 ∧ ∀ v' w', Hv w0 (row e 1 v' (n + l.length) (xs ++ l.map byteV) :: R) w' → K v' ⟨w', ds⟩) := ⟨fun h => by
  have h1 := Hv.perm i.perm o
  obtain ⟨S, _, _, hr, h2⟩ := h1.ok
  obtain ⟨v', w', g1, g2, g3, g4⟩ := append_str_run u hq.eq ty hr h.1
  exact bi_ok (m := Builtin.append_ #[t, q] ty #[v, str l]) rfl g1 (h.2 _ _ (h1.rowStep g2 (fun u hu => (List.mem_append.1 hu).elim (h2 u) fun hu => by obtain ⟨_, _, rfl⟩ := List.mem_map.1 hu; rfl) g3 g4))⟩
end

/-! made rows; stores into a row; bytes and numbers -/
section
variable {P : Program} {w w0 : World} {H R : List SL} {ds : List Deferred}
instance {t e n : Nat} {k k' : IntKind} {z : Int} {zv : Value} {K : Value → St → Prop} [o : Hv w0 H w] [u : TySl P t e 1] [zz : TyZ P e [zv]] [on : One w zv] [zn : ToN z n] :
    Step (Ms P t (.int k z) (.int k' z) K ⟨w, ds⟩) ((0 ≤ z ∧ z ≤ 1000000) ∧ ∀ v w', Hv w0 (row e 1 v n (List.replicate n zv) :: H) w' → K v ⟨w', ds⟩) := ⟨fun ⟨⟨h1, h2⟩, h⟩ => by
  obtain ⟨i, z0, hu, hi, hz, hs, hzs, hpos, hby⟩ := u.info
  obtain ⟨z1, hz1, hzc⟩ := zz.run w
  have hz0 : z0 = z1 := by
    have : (zeroValue e).run P w = .ok z0 w := by simp [zeroValue, typeInfo, hi, hz]
    rw [this] at hz1; simpa using hz1
  subst hz0
  have hn := zn.eq h1
  have hzn : z = (n : Int) := by omega
  subst hzn
  obtain ⟨w', g1, g2, g3⟩ := run_make_full (P := P) w 0 t e i z0 1 hu hi hz hs k k' n (Nat.le_trans (Nat.mul_le_mul hby (show n ≤ 1000000 by omega)) (by decide)) (by simp only [maxLen]; omega) (Nat.zero_le _)
  have hm : (madeCells z0.cells (n * 1)).toList = List.replicate n zv := by
    rw [hzc, Nat.mul_one]; exact toList_madeCells_one zv n
  rw [hm] at g2
  exact vl_ok g1 (h _ _ (o.rowNew g2 (fun u hu => by rw [List.mem_replicate] at hu; rw [hu.2]; exact on.eq) (Kept.of g3 fun k hk => by cases hk) fun k hk => by simp only [Value.ownBlock, Option.some.injEq] at hk; omega))⟩
instance {n : Nat} {b : UInt8} : Bys (List.replicate n (byteV b)) (List.replicate n b) := ⟨by simp⟩
instance {xs : List Value} {bs : List UInt8} {i : Nat} {b : UInt8} [h : Bys xs bs] : Bys (xs.set i (byteV b)) (bs.set i b) := ⟨by rw [h.eq, List.map_set]⟩
theorem Hv.put {e n i : Nat} {g cap : Nat} {xs : List Value} {u : Value} (h : Hv w0 (row e 1 (.slice (some ⟨g, 0, none⟩) n cap) n xs :: R) w) (hu : u.oneCell' = true) : Hv w0 (row e 1 (.slice (some ⟨g, 0, none⟩) n cap) n (xs.set i u) :: R) (w.setCell ⟨g, i, none⟩ u) := by
  obtain ⟨S, _, _, hr, h1⟩ := h.ok
  have hs := hr.stored i u
  refine h.rowStep hs.1 (fun x hx => ?_) (Kept.of hs.2 fun k hk => hk) fun k hk => .inl hk
  rcases List.mem_or_eq_of_mem_set hx with h2 | h2
  · exact h1 x h2
  · rw [h2]; exact hu
instance {t e n i : Nat} {a : Addr} {v x : Value} {xs : List Value} {K : Value → St → Prop} [o : Hv w0 H w] [ix : IxA v i 1 a] [r : RowIn H v e 1 n xs R] [ts : TySize P t 1] [on : One w x] :
    Step (Sv P t (.pointer (some a)) x K ⟨w, ds⟩) (∀ w', Hv w0 (row e 1 v n (xs.set i x) :: R) w' → K undef ⟨w', ds⟩) := ⟨fun h => by
  have h1 := Hv.perm r.perm o
  obtain ⟨S, _, _, hr, h2⟩ := h1.ok
  obtain ⟨base, n', cap, hv, hi, rfl⟩ := ix.ex
  rcases hr.2 with ⟨rfl, rfl⟩ | ⟨g, cp, cur, rfl, hb, hg, hnc, hcm, hcs, ht⟩
  · cases hv
  · simp only [Value.slice.injEq, Option.some.injEq] at hv
    obtain ⟨rfl, rfl, rfl⟩ := hv
    refine ut_ok ?_ (h _ (h1.put on.eq))
    have hcell : w.cell? ⟨g, i, none⟩ = xs[i]? := hr.cellAt i (by omega)
    have hsome : xs[i]? = some (xs[i]'(by have := hr.1; omega)) := List.getElem?_eq_getElem _
    have hfz : w.frozen? ⟨g, i, none⟩ = false := hr.frozenAt i
    have h0 : (⟨g, i, none⟩ : Addr).add 0 = ⟨g, i, none⟩ := by rw [addr_add, Nat.add_zero]
    have hst : (store (⟨g, i, none⟩ : Addr) x).run P w = .ok () (w.setCell ⟨g, i, none⟩ x) := by
      rw [run_store P w _ x _ on.eq, hcell, hsome]; simp [hfz]
    have hsc : (storeCells (⟨g, i, none⟩ : Addr) [x]).run P w = .ok () (w.setCell ⟨g, i, none⟩ x) := by
      simp [storeCells, h0, Sem.run_bind, hst]
    simp [Instr.storeAt, Instr.sureAddr, storeVar, Sem.run_bind, ts.run, one_cells on.eq, addr_add, hsc]⟩
section
variable {t : TypeId} {cx cy : Bool}
instance {a b : Int} {k : IntKind} : VS (Bo P .rem t cx cy (.int k a) (.int k b)) w (b ≠ 0) (.int k (a.tmod b)) := VS.of fun h => by rw [bo_int, binOp_rem]; simp [Op.intDiv, h]
instance (priority := high) {a b : UInt8} : VS (Bo P .rem t cx cy (byteV a) (byteV b)) w (b ≠ 0) (byteV (a % b)) := VS.of fun h => by
  rw [bo_int, binOp_rem]
  have hb : ¬ b.toNat = 0 := fun e => h (UInt8.toNat_inj.1 (by simpa using e))
  have e : (a.toNat : Int).tmod (b.toNat : Int) = ((a % b).toNat : Int) := by rw [UInt8.toNat_mod]; rfl
  simp [Op.intDiv, hb, e]
instance (priority := high) {src dst : Nat} {b : UInt8} {d : TypeDesc} [hs : TyU P src d] [hd : TyU P dst (.int .i64)] : VT (Cv P src dst (byteV b)) w (.int .i64 (b.toNat : Int)) := VT.of (by
  have h : IntKind.i64.wrap (b.toNat : Int) = b.toNat := wrap64 ⟨by omega, by have := b.toNat_lt; omega⟩
  simp [convert, run_underlying hs.eq, run_underlying hd.eq, Conv.intToInt, h])
end
end
end Go.Vx
