import Derived.Test.YtapammcnagjigaaDoorSn
import Derived.Test.YtapammcnagjigaaDoorSf
import Derived.Lib.IndexAny
import Derived.Lib.Bytealg
import Derived.Lib.OthersKept
import Derived.Laws.RangeAny
set_option linter.all false
namespace Go.Vx
open Go.RowKit Go.Lib

/-! a range over a string -/
/-- The rune at a place: its number, how many bytes it takes. -/
structure RuneAt (l : List UInt8) (pos : Nat) (c wd : Nat) : Prop where
  wd1 : 1 ≤ wd
  fits : pos + wd ≤ l.length
  low : (l.getD pos 0).toNat < 128 → c = (l.getD pos 0).toNat ∧ wd = 1
  high : 128 ≤ (l.getD pos 0).toNat → 128 ≤ c ∧ ∀ j < wd, 128 ≤ (l.getD (pos + j) 0).toNat
  top : c ≤ 1114111
theorem get_str (l : List UInt8) (i : Nat) : (ByteArray.mk l.toArray).get! i = l.getD i 0 := by
  simp [ByteArray.get!, List.getD_eq_getElem?_getD, Array.getElem!_eq_getD, Array.getD]
  rcases Nat.lt_or_ge i l.length with h | h
  · simp [h]
  · simp [Nat.not_lt.2 h]
    try rfl
theorem rune_at (l : List UInt8) (pos : Nat) (h : pos < l.length) : RuneAt l pos (Utf8.decode ⟨l.toArray⟩ pos).1 (Utf8.decode ⟨l.toArray⟩ pos).2 := by
  have hsz : (ByteArray.mk l.toArray).size = l.length := by simp [ByteArray.size]
  have b0 := (l.getD pos 0).toNat_lt
  have b1 := (l.getD (pos + 1) 0).toNat_lt
  have b2 := (l.getD (pos + 2) 0).toNat_lt
  have b3 := (l.getD (pos + 3) 0).toNat_lt
  unfold Utf8.decode Utf8.runeError Utf8.valid
  simp only [get_str, hsz, Nat.add_zero, ge_iff_le]
  generalize hx0 : (l.getD pos 0).toNat = x0 at *
  generalize hx1 : (l.getD (pos + 1) 0).toNat = x1 at *
  generalize hx2 : (l.getD (pos + 2) 0).toNat = x2 at *
  generalize hx3 : (l.getD (pos + 3) 0).toNat = x3 at *
  have key : ∀ c wd, 1 ≤ wd → pos + wd ≤ l.length → (x0 < 128 → c = x0 ∧ wd = 1) → (128 ≤ x0 → 128 ≤ c ∧ ∀ j < wd, 128 ≤ (l.getD (pos + j) 0).toNat) → c ≤ 1114111 → RuneAt l pos c wd := fun c wd a b d e f => ⟨a, b, by rw [hx0]; exact d, by rw [hx0]; exact e, f⟩
  have one : 128 ≤ x0 → ∀ j < 1, 128 ≤ (l.getD (pos + j) 0).toNat := fun h j hj => by
    obtain rfl : j = 0 := by omega
    rw [Nat.add_zero, hx0]; exact h
  have two : 128 ≤ x0 → 128 ≤ x1 → ∀ j < 2, 128 ≤ (l.getD (pos + j) 0).toNat := fun h g j hj => by
    rcases (show j = 0 ∨ j = 1 by omega) with rfl | rfl
    · rw [Nat.add_zero, hx0]; exact h
    · rw [hx1]; exact g
  have three : 128 ≤ x0 → 128 ≤ x1 → 128 ≤ x2 → ∀ j < 3, 128 ≤ (l.getD (pos + j) 0).toNat := fun h g k j hj => by
    rcases (show j = 0 ∨ j = 1 ∨ j = 2 by omega) with rfl | rfl | rfl
    · rw [Nat.add_zero, hx0]; exact h
    · rw [hx1]; exact g
    · rw [hx2]; exact k
  have four : 128 ≤ x0 → 128 ≤ x1 → 128 ≤ x2 → 128 ≤ x3 → ∀ j < 4, 128 ≤ (l.getD (pos + j) 0).toNat := fun h g k m j hj => by
    rcases (show j = 0 ∨ j = 1 ∨ j = 2 ∨ j = 3 by omega) with rfl | rfl | rfl | rfl
    · rw [Nat.add_zero, hx0]; exact h
    · rw [hx1]; exact g
    · rw [hx2]; exact k
    · rw [hx3]; exact m
  split
  · exact key _ _ (by simp) (by simp; omega) (fun _ => by simp) (fun h => by omega) (by simp; omega)
  · split
    · rename_i h1 h2
      simp only [Bool.and_eq_true, beq_iff_eq, decide_eq_true_eq] at h2
      split
      · exact key _ _ (by simp) (by simp; omega) (fun h => by omega) (fun h => ⟨by simp; omega, two h (by omega)⟩) (by simp; omega)
      · exact key _ _ (by simp) (by simp; omega) (fun h => by omega) (fun h => ⟨by simp, one h⟩) (by simp)
    · split
      · rename_i h1 h2 h3
        simp only [Bool.and_eq_true, beq_iff_eq, decide_eq_true_eq] at h3
        split
        · rename_i h4
          simp only [Bool.and_eq_true, Bool.or_eq_true, decide_eq_true_eq] at h4
          exact key _ _ (by simp) (by simp; omega) (fun h => by omega) (fun h => ⟨by simp; omega, three h (by omega) (by omega)⟩) (by simp; omega)
        · exact key _ _ (by simp) (by simp; omega) (fun h => by omega) (fun h => ⟨by simp, one h⟩) (by simp)
      · split
        · rename_i h1 h2 h3 h4
          simp only [Bool.and_eq_true, beq_iff_eq, decide_eq_true_eq] at h4
          split
          · rename_i h5
            simp only [Bool.and_eq_true, Bool.or_eq_true, decide_eq_true_eq] at h5
            exact key _ _ (by simp) (by simp; omega) (fun h => by omega) (fun h => ⟨by simp; omega, four h (by omega) (by omega) (by omega)⟩) (by simp; omega)
          · exact key _ _ (by simp) (by simp; omega) (fun h => by omega) (fun h => ⟨by simp, one h⟩) (by simp)
        · exact key _ _ (by simp) (by simp; omega) (fun h => by omega) (fun h => ⟨by simp, one h⟩) (by simp)
/-- An iterator over a string. -/
def itr (b : Nat) (l : List UInt8) (pos : Nat) : SL := pto b (.stringIter ⟨l.toArray⟩ pos)
class ItIn (H : List SL) (b : Nat) (l : outParam (List UInt8)) (pos : outParam Nat) (R : outParam (List SL)) : Prop where perm : ∀ {S w}, sep H S w ↔ sep (itr b l pos :: R) S w
instance (priority := high) {b pos : Nat} {l : List UInt8} {H : List SL} : ItIn (itr b l pos :: H) b l pos H := ⟨Iff.rfl⟩
instance {A : SL} {b pos : Nat} {l : List UInt8} {H R : List SL} [h : ItIn H b l pos R] : ItIn (A :: H) b l pos (A :: R) := ⟨⟨fun x => sep_swap (sep_cons h.perm.1 x), fun x => sep_cons h.perm.2 (sep_swap x)⟩⟩
theorem subItr {H' R G : List SL} {b n m : Nat} {l : List UInt8} [r : ItIn H' b l n R] (h : n = m) (k : Sub R G) : Sub H' (itr b l m :: G) := ⟨fun h' => by
  subst h; exact (Sub.cons k).sub (r.perm.1 h')⟩
section
variable {P : Program} {w w0 : World} {H R : List SL} {ds : List Deferred} {l : List UInt8} {K : Value → St → Prop}
instance {t : TypeId} [u : TyU P t .string] [o : Hv w0 H w] : Step (Rg P t (str l) K ⟨w, ds⟩) (∀ b w', Hv w0 (itr b l 0 :: H) w' → K (.pointer (some ⟨b, 0, none⟩)) ⟨w', ds⟩) := ⟨fun h => by
  refine vl_ok (w' := w.iter ⟨l.toArray⟩ 0) ?_ (h _ _ (o.newObj (.stringIter ⟨l.toArray⟩ 0)))
  simp [str, Instr.range, run_underlying u.eq, World.iter]⟩
instance {b pos : Nat} {ty : TypeId} [o : Hv w0 H w] [i : ItIn H b l pos R] : Step (Nx P (.pointer (some ⟨b, 0, none⟩)) true ty K ⟨w, ds⟩)
    ((pos < l.length → ∀ (c wd : Nat) w', RuneAt l pos c wd → Hv w0 (itr b l (pos + wd) :: R) w' → K (.tuple #[.bool true, .int .i64 pos, .int .i32 c]) ⟨w', ds⟩) ∧ (l.length ≤ pos → K (.tuple #[.bool false]) ⟨w, ds⟩)) := ⟨fun ⟨h1, h2⟩ => by
  have o1 := Hv.perm i.perm.1 o
  have hb := o1.at
  have hsz : (ByteArray.mk l.toArray).size = l.length := by simp [ByteArray.size]
  rcases Nat.lt_or_ge pos l.length with hp | hp
  · refine vl_ok ?_ (h1 hp _ _ _ (rune_at l pos hp) (o1.putObj (.stringIter ⟨l.toArray⟩ (pos + (Utf8.decode ⟨l.toArray⟩ pos).2))))
    simp only [Instr.next, getObj, setObj, Sem.run_bind, Sem.run, hb, Result.andThen_ok, hsz, hp, if_true]
    simp [goInt, World.putObj]
  · refine vl_ok ?_ (h2 hp)
    simp only [Instr.next, getObj, Sem.run_bind, Sem.run, hb, Result.andThen_ok, hsz, Nat.not_lt.2 hp, if_false]
    simp⟩
end
/-! runes made strings -/
def encR (r : Int) : List UInt8 := (Utf8.encode r).data.toList
theorem encR_high {r : Int} (h : 128 ≤ r) : 2 ≤ (encR r).length ∧ (encR r).length ≤ 4 ∧ ∀ b ∈ encR r, 128 ≤ b.toNat := by
  have hb : ∀ n : Nat, 128 ≤ n % 256 → 128 ≤ (UInt8.ofNat n).toNat := fun n h => by simpa [UInt8.toNat_ofNat'] using h
  unfold encR Utf8.encode
  generalize hc : (if Utf8.valid r = true then r.toNat else Utf8.runeError) = c
  have hc1 : 128 ≤ c ∧ c ≤ 1114111 := by
    rw [← hc]; split
    · rename_i hv
      simp only [Utf8.valid, Bool.or_eq_true, Bool.and_eq_true, decide_eq_true_eq] at hv
      omega
    · unfold Utf8.runeError; omega
  simp only
  split
  · omega
  · split
    · simp; exact ⟨hb _ (by omega), hb _ (by omega)⟩
    · split
      · simp; exact ⟨hb _ (by omega), hb _ (by omega), hb _ (by omega)⟩
      · simp; exact ⟨hb _ (by omega), hb _ (by omega), hb _ (by omega), hb _ (by omega)⟩
section
variable {P : Program} {w : World}
instance {src dst : TypeId} {k : IntKind} {r : Int} [hs : TyU P src (.int k)] [hd : TyU P dst .string] : VT (Cv P src dst (.int k r)) w (str (encR r)) := VT.of (by
  simp [convert, run_underlying hs.eq, run_underlying hd.eq, Conv.intToString, str, encR])
end
/-! a thing put into a row of things -/
section
variable {P : Program} {w w0 : World} {H R : List SL} {ds : List Deferred}
theorem Hv.putS {e s n i : Nat} {g cap : Nat} {xs : List Value} {u : Value} (h : Hv w0 (row e s (.slice (some ⟨g, 0, none⟩) n cap) n xs :: R) w) (hu : u.oneCell' = true) : Hv w0 (row e s (.slice (some ⟨g, 0, none⟩) n cap) n (xs.set i u) :: R) (w.setCell ⟨g, i, none⟩ u) := by
  obtain ⟨S, _, _, hr, h1⟩ := h.ok
  have hs := hr.stored i u
  refine h.rowStep hs.1 (fun x hx => ?_) (Kept.of hs.2 fun k hk => hk) fun k hk => .inl hk
  rcases List.mem_or_eq_of_mem_set hx with h2 | h2
  · exact h1 x h2
  · rw [h2]; exact hu
theorem Hv.puts {e s n g cap : Nat} (vs : List Value) : ∀ {o k : Nat} {xs : List Value} {w : World}, Hv w0 (row e s (.slice (some ⟨g, 0, none⟩) n cap) n xs :: R) w → (∀ u ∈ vs, u.oneCell' = true) → o + k + vs.length ≤ n * s →
    ∃ w', (storeCells ⟨g, o, none⟩ vs k).run P w = .ok () w' ∧ Hv w0 (row e s (.slice (some ⟨g, 0, none⟩) n cap) n (xs.take (o + k) ++ vs ++ xs.drop (o + k + vs.length)) :: R) w' := by
  induction vs with
  | nil => intro o k xs w h _ _; exact ⟨w, by simp [storeCells], by simpa using h⟩
  | cons v vs ih =>
    intro o k xs w h h1 hle
    simp only [List.length_cons] at hle
    obtain ⟨S, _, _, hr, h2⟩ := h.ok
    have hlen : xs.length = n * s := hr.1
    have hc : w.cell? ⟨g, o + k, none⟩ = xs[o + k]? := hr.cellAt (o + k) (by omega)
    have hsome : xs[o + k]? = some (xs[o + k]'(by omega)) := List.getElem?_eq_getElem _
    have hfz : w.frozen? ⟨g, o + k, none⟩ = false := hr.frozenAt (o + k)
    have hst : (store (⟨g, o + k, none⟩ : Addr) v).run P w = .ok () (w.setCell ⟨g, o + k, none⟩ v) := by
      rw [run_store P w _ v _ (h1 v (List.mem_cons_self ..)), hc, hsome]; simp [hfz]
    obtain ⟨w', e1, e2⟩ := ih (o := o) (k := k + 1) (h.putS (i := o + k) (h1 v (List.mem_cons_self ..))) (fun u hu => h1 u (List.mem_cons_of_mem _ hu)) (by omega)
    refine ⟨w', ?_, ?_⟩
    · rw [storeCells, Sem.run_bind, addr_add, hst]; exact e1
    · have e := list_seg_step xs (o + k) v vs (by omega)
      rw [show o + (k + 1) = o + k + 1 by omega] at e2
      have : (xs.set (o + k) v).take (o + k + 1) ++ vs ++ (xs.set (o + k) v).drop (o + k + 1 + vs.length) = xs.take (o + k) ++ (v :: vs) ++ xs.drop (o + k + (v :: vs).length) := by
        simpa [Nat.add_assoc, Nat.add_comm, Nat.add_left_comm] using e
      rw [this] at e2; exact e2
theorem flat_put {α : Type} {enc : α → List Value} {s : Nat} (he : ∀ x, (enc x).length = s) (ys : List α) (y : α) : ∀ i, i < ys.length → (ys.flatMap enc).take (i * s) ++ enc y ++ (ys.flatMap enc).drop (i * s + s) = (ys.set i y).flatMap enc := by
  induction ys with
  | nil => intro i h; simp at h
  | cons x ys ih =>
    intro i h
    cases i with
    | zero => simp [he, List.drop_append]
    | succ i =>
      have := ih i (by simpa using h)
      have e1 : (i + 1) * s = s + i * s := by rw [Nat.add_mul]; omega
      have e3 : (enc x).take (s + i * s) = enc x := List.take_of_length_le (by rw [he]; omega)
      have e4 : (enc x).drop (s + i * s + s) = [] := List.drop_of_length_le (by rw [he]; omega)
      have e5 : s + i * s - (enc x).length = i * s := by rw [he]; omega
      have e6 : s + i * s + s - (enc x).length = i * s + s := by rw [he]; omega
      rw [List.flatMap_cons, e1, List.take_append, List.drop_append, e3, e4, e5, e6, List.set_cons_succ, List.flatMap_cons, ← this]
      simp
instance (priority := high) {t e size : Nat} {K : Value → St → Prop} [o : Hv w0 H w] [u : TySl P t e size] :
    Step (Bs P t 0 ([] : List (Nat × Value)).toArray K ⟨w, ds⟩) (∀ v w', Hv w0 (row e size v 0 [] :: H) w' → K v ⟨w', ds⟩) := ⟨fun h => by
  obtain ⟨i, z0, hu, hi, hz, hs, hzs, hpos, _⟩ := u.info
  have hrun : (sizeOf e).run P w = .ok size w := by simp [sizeOf, typeInfo, hi, hs]
  refine vl_ok (w' := w.alloc (.cells #[] e)) (v := .slice (some ⟨w.heap.size, 0, none⟩) 0 0) ?_ (h _ _ (o.rowNew (m := 0) ?_ (fun u hu => by simp at hu) (Kept.alloc _ _ _) ?_))
  · simp only [Instr.buildSlice, Sem.run_bind, run_underlying hu, Result.andThen_ok, hrun]
    simp [Instr.fill, newRow]
    congr 2
    exact Array.eq_empty_of_size_eq_zero (by simp)
  · have := World.ownsRow_lit (base := 0) (e := e) (size := size) w #[] 0 (Nat.zero_le _) (by simp [maxLen]) (by simp)
    simpa using this
  · intro k hk
    simp only [Value.ownBlock, Option.some.injEq] at hk
    omega⟩
theorem flat_drop {α : Type} {enc : α → List Value} {s : Nat} (he : ∀ x, (enc x).length = s) (ys : List α) : ∀ i, (ys.flatMap enc).drop (i * s) = (ys.drop i).flatMap enc := by
  induction ys with
  | nil => intro i; simp
  | cons y ys ih =>
    intro i
    cases i with
    | zero => simp
    | succ i =>
      rw [List.flatMap_cons, List.drop_append, List.drop_succ_cons, ← ih i, he, List.drop_of_length_le (by rw [he, Nat.add_mul]; omega)]
      rw [show (i + 1) * s - s = i * s by rw [Nat.add_mul]; omega]; simp
theorem flat_take {α : Type} {enc : α → List Value} {s : Nat} (he : ∀ x, (enc x).length = s) (ys : List α) : ∀ i, (ys.flatMap enc).take (i * s) = (ys.take i).flatMap enc := by
  induction ys with
  | nil => intro i; simp
  | cons y ys ih =>
    intro i
    cases i with
    | zero => simp
    | succ i =>
      rw [List.flatMap_cons, List.take_append, List.take_succ_cons, List.flatMap_cons, ← ih i, he, List.take_of_length_le (by rw [he, Nat.add_mul]; omega)]
      rw [show (i + 1) * s - s = i * s by rw [Nat.add_mul]; omega]
theorem RdsF.part {α : Type} {enc : α → List Value} {size n l m : Nat} {ys : List α} {v v' : Value} (he : ∀ x, (enc x).length = size) (r : RdsF w0 H v size n (ys.flatMap enc)) (s : SubSl v v' size l m) : RdsF w0 H v' size m (((ys.drop l).take m).flatMap enc) := by
  have : RdsF w0 H v' size m (((ys.flatMap enc).drop (l * size)).take (m * size)) := inferInstance
  rw [flat_drop he, flat_take he] at this
  exact this
/-- How a type's things are spelt in a row. -/
class EncTy (e : Nat) (α : outParam Type) (enc : outParam (α → List Value)) (s : outParam Nat) : Prop where eq : ∀ x, (enc x).length = s
instance {α : Type} {t e n s i : Nat} {a : Addr} {v : Value} {xs cs : List Value} {enc : α → List Value} {ys : List α} {y : α} {K : Value → St → Prop} [o : Hv w0 H w] [ix : IxA v i s a] [r : RowIn H v e s n xs R] [ts : TySize P t s] [on : Ones w cs] [u : EncTy e α enc s] [ex : Encs enc xs ys] [ec : Encs enc cs [y]] :
    Step (Sv P t (.pointer (some a)) (.agg cs.toArray) K ⟨w, ds⟩) (∀ w', Hv w0 (row e s v n ((ys.set i y).flatMap enc) :: R) w' → K undef ⟨w', ds⟩) := ⟨fun h => by
  have h1 := Hv.perm r.perm o
  obtain ⟨S, _, _, hr, h2⟩ := h1.ok
  obtain ⟨base, n', cap, hv, hi, rfl⟩ := ix.ex
  have hcs : cs = enc y := by have := ec.eq; simpa using this
  have hl : cs.length = s := by rw [hcs]; exact u.eq y
  have hlen : xs.length = n * s := hr.1
  have hxy : xs = ys.flatMap enc := ex.eq
  rcases hr.2 with ⟨rfl, rfl⟩ | ⟨g, cp, cur, rfl, hb, hg, hnc, hcm, hcs2, ht⟩
  · cases hv
  · simp only [Value.slice.injEq, Option.some.injEq] at hv
    obtain ⟨rfl, rfl, rfl⟩ := hv
    have hle : i * s + s ≤ n * s := by
      have := Nat.mul_le_mul_right s (show i + 1 ≤ n by omega)
      rw [Nat.add_mul, Nat.one_mul] at this; exact this
    obtain ⟨w', e1, e2⟩ := Hv.puts (P := P) cs (o := i * s) (k := 0) h1 on.eq (by omega)
    refine ut_ok (w' := w') ?_ (h _ ?_)
    · have e3 : (Value.agg cs.toArray).cells = cs.toArray := rfl
      simp [Instr.storeAt, Instr.sureAddr, storeVar, Sem.run_bind, ts.run, e3, hl, addr_add, e1]
    · rw [Nat.add_zero, hl, hcs, hxy] at e2
      by_cases hs : s = 0
      · subst hs
        have e0 : ∀ zs : List α, zs.flatMap enc = [] := fun zs => List.eq_nil_of_length_eq_zero (by rw [flatMap_len u.eq]; simp)
        have e9 : enc y = [] := List.eq_nil_of_length_eq_zero (u.eq y)
        rw [e0] at e2 ⊢
        simpa [e9] using e2
      · have hyl : ys.length = n := by
          have := flatMap_len u.eq ys
          rw [← hxy, hlen] at this
          exact (Nat.eq_of_mul_eq_mul_right (by omega) this).symm
        rw [flat_put u.eq ys y i (by omega)] at e2
        exact e2⟩
end
section
variable {P : Program} {w : World}
instance {tys : Array TypeId} {ty : TypeId} {cs : Array Bool} {k : IntKind} {x y : Int} : VT (Bi P .min tys ty cs #[.int k x, .int k y]) w (.int k (min x y)) := ⟨fun h => by
  have e : (if y < x then y else x) = min x y := by omega
  exact bi_ok (m := Builtin.min_ tys ty #[.int k x, .int k y]) rfl (by rw [run_min_int2, e]) h⟩
instance {tys : Array TypeId} {ty : TypeId} {cs : Array Bool} {k : IntKind} {x y : Int} : VT (Bi P .max tys ty cs #[.int k x, .int k y]) w (.int k (max x y)) := ⟨fun h => by
  have e : (if y > x then y else x) = max x y := by omega
  exact bi_ok (m := Builtin.max_ tys ty #[.int k x, .int k y]) rfl (by rw [run_max_int2, e]) h⟩
end
theorem idx_eq (l : List UInt8) (c : UInt8) : indexByte l c = idxB l c := by
  induction l with
  | nil => rfl
  | cons b l ih =>
    unfold indexByte
    unfold idxB at ih ⊢
    rw [List.findIdx?_cons]
    by_cases h : b == c
    · simp [h]
    · simp only [h, Bool.false_eq_true, if_false]
      rw [ih]
      cases List.findIdx? (· == c) l with
      | none => rfl
      | some i => simp
theorem idxB_neg {l : List UInt8} {c : UInt8} : idxB l c < 0 ↔ ∀ x ∈ l, x ≠ c := by
  unfold idxB
  cases h : l.findIdx? (· == c) with
  | none =>
    refine ⟨fun _ x hx e => ?_, fun _ => by simp⟩
    have := List.findIdx?_eq_none_iff.1 h x hx
    simp [e] at this
  | some i =>
    obtain ⟨hi, h1, _⟩ := List.findIdx?_eq_some_iff_getElem.1 h
    have e : l[i] = c := by simpa using h1
    exact ⟨fun h => by simp at h; omega, fun h => absurd e (h _ (List.getElem_mem hi))⟩
theorem indexAny_has (l cs : List UInt8) : decide (0 ≤ indexAny l cs) = l.any (cs.contains ·) := by
  induction l with
  | nil => rfl
  | cons b l ih =>
    have hg := indexAny_ge cs l
    unfold indexAny
    rw [List.any_cons, ← ih]
    cases h : cs.contains b with
    | true => simp
    | false =>
      simp only [Bool.false_eq_true, if_false, Bool.false_or]
      split
      · rename_i e; simp at e; simp [e]
      · rename_i e; simp at e; rw [decide_eq_decide]; omega
end Go.Vx
