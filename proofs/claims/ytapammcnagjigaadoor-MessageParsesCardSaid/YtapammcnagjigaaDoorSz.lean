import Derived.Test.YtapammcnagjigaaDoorSy
set_option linter.all false
namespace Go.Vx
open Go.RowKit

/-! slices: what may be read -/
/-- A slice that can be read: n elements of 'size' cells, xs all cells. -/
class Rds (w : World) (v : Value) (size n : outParam Nat) (xs : outParam (List Value)) : Prop where
  len : xs.length = n * size
  one : ∀ u ∈ xs, u.oneCell' = true
  le : n ≤ maxLen
  ex : ∃ base cap, v = .slice base n cap ∧ (base = none → cap = 0) ∧ n ≤ cap ∧ ∀ j u, xs[j]? = some u → ∃ a, base = some a ∧ w.cell? (a.add j) = some u
class RowIn (H : List SL) (v : Value) (e size n : outParam Nat) (xs : outParam (List Value)) (R : outParam (List SL)) : Prop where perm : ∀ {S w}, sep H S w → sep (row e size v n xs :: R) S w
instance (priority := high) {e size n : Nat} {v : Value} {xs : List Value} {H : List SL} : RowIn (row e size v n xs :: H) v e size n xs H := ⟨id⟩
instance {A : SL} {e size n : Nat} {v : Value} {xs : List Value} {H R : List SL} [h : RowIn H v e size n xs R] : RowIn (A :: H) v e size n xs (A :: R) :=
  ⟨fun x => sep_swap (sep_cons h.perm x)⟩
theorem rds_row {w : World} {e size n : Nat} {v : Value} {xs : List Value} (h : w.ownsRow 0 e size v n xs) (h1 : ∀ u ∈ xs, u.oneCell' = true) : Rds w v size n xs := by
  rcases h.2 with ⟨rfl, rfl⟩ | ⟨g, cap, cur, rfl, _, hg, hnc, hcm, hcs, ht⟩
  · have : xs = [] := List.eq_nil_of_length_eq_zero (by simpa using h.1)
    subst this
    exact ⟨by simp, by simp, by simp, none, 0, rfl, fun _ => rfl, Nat.le_refl _, fun j u hu => by simp at hu⟩
  · exact ⟨h.1, h1, Nat.le_trans hnc hcm, some ⟨g, 0, none⟩, cap, rfl, (fun h => by cases h), hnc, fun j u hu => ⟨_, rfl, h.cells (g := g) rfl j u hu⟩⟩
instance {w w0 : World} {H R : List SL} {e size n : Nat} {v : Value} {xs : List Value} [h : Hv w0 H w] [i : RowIn H v e size n xs R] : Rds w v size n xs := by
  have h1 := Hv.perm i.perm h
  obtain ⟨S, _, _, hr, h2⟩ := h1.ok
  exact rds_row hr h2
/-- The same of the world in which all began. -/
class Arg (w0 : World) (v : Value) (size n : outParam Nat) (xs : outParam (List Value)) : Prop where
  len : xs.length = n * size
  one : ∀ u ∈ xs, u.oneCell' = true
  le : n ≤ maxLen
  ex : ∃ base cap, v = .slice base n cap ∧ (base = none → cap = 0) ∧ n ≤ cap ∧ ∀ j u, xs[j]? = some u → ∃ a, base = some a ∧ a.block < w0.heap.size ∧ w0.cell? (a.add j) = some u
theorem add_block (a : Addr) (n : Nat) : (a.add n).block = a.block := by unfold Addr.add; split <;> rfl
instance (priority := low) {w w0 : World} {H : List SL} {size n : Nat} {v : Value} {xs : List Value} [h : Hv w0 H w] [i : Arg w0 v size n xs] : Rds w v size n xs := by
  obtain ⟨base, cap, e, h0, hnc, hx⟩ := i.ex
  refine ⟨i.len, i.one, i.le, base, cap, e, h0, hnc, fun j u hu => ?_⟩
  obtain ⟨a, ha, hb, hc⟩ := hx j u hu
  exact ⟨a, ha, (h.bel.cell (p := a.add j) (by rw [add_block]; exact hb)).trans hc⟩
/-- A piece of a slice. -/
class SubSl (v : outParam Value) (v' : Value) (size lo m : outParam Nat) : Prop where
  ex : ∀ base n cap, v = .slice base n cap → v' = .slice (if cap = lo then base else base.map (·.add (lo * size))) m (cap - lo) ∧ lo + m ≤ n
theorem addr_add_add (a : Addr) (i j : Nat) : (a.add i).add j = a.add (i + j) := by
  unfold Addr.add; split <;> split <;> split <;> simp_all <;> omega
instance {w : World} {v v' : Value} {size lo m n : Nat} {xs : List Value} [r : Rds w v size n xs] [s : SubSl v v' size lo m] : Rds w v' size m ((xs.drop (lo * size)).take (m * size)) := by
  obtain ⟨base, cap, e, h0, hnc, hx⟩ := r.ex
  obtain ⟨e', hle⟩ := s.ex base n cap e
  have hlen := r.len
  have hmul : lo * size + m * size ≤ n * size := by rw [← Nat.add_mul]; exact Nat.mul_le_mul_right _ (by omega)
  refine ⟨by simp; omega, fun u hu => r.one u (List.mem_of_mem_drop (List.mem_of_mem_take hu)), by have := r.le; omega, _, cap - lo, e', fun hb => ?_, by omega, fun j u hu => ?_⟩
  · by_cases hc : cap = lo
    · omega
    · rw [if_neg hc] at hb
      have := h0 (by simpa using hb)
      omega
  · rw [List.getElem?_take] at hu
    split at hu
    · rename_i hj
      rw [List.getElem?_drop] at hu
      obtain ⟨a, ha, hc⟩ := hx _ _ hu
      have hpos : 0 < m := by
        rcases Nat.eq_zero_or_pos m with h | h
        · subst h; simp at hj
        · exact h
      rw [if_neg (by omega), ha]
      exact ⟨_, rfl, by rw [addr_add_add]; exact hc⟩
    · cases hu
instance (priority := low) {w : World} {v : Value} {size n : Nat} {xs : List Value} [r : Rds w v size n xs] : One w v := ⟨by obtain ⟨base, cap, rfl, _⟩ := r.ex; rfl⟩
/-- What can be read as long as H is owned. -/
class RdsF (w0 : World) (H : List SL) (v : Value) (size n : outParam Nat) (xs : outParam (List Value)) : Prop where rd : ∀ w, Hv w0 H w → Rds w v size n xs
class RdsL (w0 : World) (H : outParam (List SL)) (v : Value) (size n : outParam Nat) (xs : outParam (List Value)) : Prop where rd : ∀ w, Hv w0 H w → Rds w v size n xs
theorem RdsF.loc {w0 : World} {H : List SL} {v : Value} {size n : Nat} {xs : List Value} (h : RdsF w0 H v size n xs) : RdsL w0 H v size n xs := ⟨h.rd⟩
instance (priority := low) {w w0 : World} {H H' : List SL} {v : Value} {size n : Nat} {xs : List Value} [o : Hv w0 H' w] [r : RdsL w0 H v size n xs] [d : DropTo H' H] : Rds w v size n xs := r.rd w (Hv.drop o)
instance {w0 : World} {H : List SL} {v : Value} {size n : Nat} {xs : List Value} [i : Arg w0 v size n xs] : RdsF w0 H v size n xs := ⟨fun w h => by infer_instance⟩
instance {w0 : World} {H R : List SL} {e size n : Nat} {v : Value} {xs : List Value} [i : RowIn H v e size n xs R] : RdsF w0 H v size n xs := ⟨fun w h => by infer_instance⟩
instance {w0 : World} {H : List SL} {v v' : Value} {size lo m n : Nat} {xs : List Value} [s : SubSl v v' size lo m] [r : RdsF w0 H v size n xs] : RdsF w0 H v' size m ((xs.drop (lo * size)).take (m * size)) := ⟨fun w h => by
  have := r.rd w h
  infer_instance⟩
/-- The i-th piece of 'size' cells. -/
class SubX (xs : List Value) (size i n : Nat) (cs : outParam (List Value)) : Prop where
  eq : xs.length = n * size → i < n → ∀ j u, cs[j]? = some u → xs[i * size + j]? = some u
class UEnc {α : Type} (enc : α → List Value) (size : outParam Nat) : Prop where eq : ∀ x, (enc x).length = size
theorem flatMap_at {α : Type} {enc : α → List Value} {size : Nat} (he : ∀ x, (enc x).length = size) : ∀ (ys : List α) (i : Nat) (y : α), ys[i]? = some y → ∀ j u, (enc y)[j]? = some u → (ys.flatMap enc)[i * size + j]? = some u := by
  intro ys
  induction ys with
  | nil => intro i y h; simp at h
  | cons x ys ih =>
    intro i y h j u hu
    have hj : j < (enc y).length := (List.getElem?_eq_some_iff.1 hu).1
    rw [he y] at hj
    cases i with
    | zero =>
      simp only [List.getElem?_cons_zero, Option.some.injEq] at h
      subst h
      rw [List.flatMap_cons, List.getElem?_append_left (by rw [he]; omega)]
      simpa using hu
    | succ i =>
      rw [List.flatMap_cons, List.getElem?_append_right (by rw [he, Nat.add_mul]; omega), he]
      rw [show (i + 1) * size + j - size = i * size + j by rw [Nat.add_mul]; omega]
      exact ih i y (by simpa using h) j u hu
theorem flatMap_len {α : Type} {enc : α → List Value} {size : Nat} (he : ∀ x, (enc x).length = size) (ys : List α) : (ys.flatMap enc).length = ys.length * size := by
  induction ys with
  | nil => simp
  | cons x ys ih => rw [List.flatMap_cons, List.length_append, he, ih, List.length_cons, Nat.add_mul]; omega
theorem getD_at {α : Type} [Inhabited α] {ys : List α} {i : Nat} (h : i < ys.length) : ys[i]? = some (ys.getD i default) := by simp [h]
instance {α : Type} [Inhabited α] {enc : α → List Value} {size i n : Nat} {ys : List α} [u : UEnc enc size] : SubX (ys.flatMap enc) size i n (enc (ys.getD i default)) := ⟨fun hl hi j x hx => by
  refine flatMap_at u.eq ys i _ (getD_at ?_) j x hx
  rw [flatMap_len u.eq] at hl
  have h2 : 0 < size := by
    have := (List.getElem?_eq_some_iff.1 hx).1
    rw [u.eq] at this; omega
  have := Nat.eq_of_mul_eq_mul_right h2 hl
  omega⟩
instance {α : Type} [Inhabited α] {f : α → Value} {i n : Nat} {ys : List α} : SubX (ys.map f) 1 i n [f (ys.getD i default)] := ⟨fun hl hi j x hx => by
  simp only [List.length_map, Nat.mul_one] at hl
  cases j with
  | zero =>
    simp only [List.getElem?_cons_zero, Option.some.injEq] at hx
    subst hx
    rw [Nat.mul_one, Nat.add_zero, List.getElem?_map, getD_at (by omega)]
    rfl
  | succ j => simp at hx⟩
instance {x : Value} {i size n : Nat} {l cs : List Value} [h : Cut (x :: l) (i * size) size cs] : SubX (x :: l) size i n cs := ⟨fun hl hi j u hu => by
  rw [← h.eq.1, List.getElem?_take] at hu
  split at hu
  · rwa [List.getElem?_drop] at hu
  · cases hu⟩
instance (priority := low) {i n : Nat} {xs : List Value} : SubX xs 1 i n [xs.getD i undef] := ⟨fun hl hi j u hu => by
  cases j with
  | zero =>
    simp only [List.getElem?_cons_zero, Option.some.injEq] at hu
    subst hu
    rw [Nat.mul_one, Nat.add_zero]
    have : i < xs.length := by omega
    simp [this]
  | succ j => simp at hu⟩
class ToN (z : Int) (i : outParam Nat) : Prop where eq : 0 ≤ z → z.toNat = i
instance {i : Nat} : ToN (i : Int) i := ⟨fun _ => by simp⟩
instance {i : Nat} : ToN (@OfNat.ofNat Int i instOfNat) i := ⟨fun _ => by rfl⟩
instance (priority := high) : ToN (0 : Int) 0 := ⟨fun _ => rfl⟩
instance (priority := high) : ToN (1 : Int) 1 := ⟨fun _ => rfl⟩
instance (priority := high) : ToN (2 : Int) 2 := ⟨fun _ => rfl⟩
instance (priority := high) : ToN (3 : Int) 3 := ⟨fun _ => rfl⟩
instance (priority := high) : ToN (4 : Int) 4 := ⟨fun _ => rfl⟩
instance (priority := high) : ToN (5 : Int) 5 := ⟨fun _ => rfl⟩
instance (priority := high) : ToN (6 : Int) 6 := ⟨fun _ => rfl⟩
instance (priority := high) : ToN (7 : Int) 7 := ⟨fun _ => rfl⟩
instance (priority := high) : ToN (8 : Int) 8 := ⟨fun _ => rfl⟩
instance (priority := high) : ToN (9 : Int) 9 := ⟨fun _ => rfl⟩
instance (priority := high) : ToN (10 : Int) 10 := ⟨fun _ => rfl⟩
instance (priority := high) : ToN (11 : Int) 11 := ⟨fun _ => rfl⟩
instance (priority := high) : ToN (12 : Int) 12 := ⟨fun _ => rfl⟩
instance (priority := high) : ToN (13 : Int) 13 := ⟨fun _ => rfl⟩
instance (priority := high) : ToN (14 : Int) 14 := ⟨fun _ => rfl⟩
instance (priority := high) : ToN (15 : Int) 15 := ⟨fun _ => rfl⟩
instance (priority := high) : ToN (16 : Int) 16 := ⟨fun _ => rfl⟩
instance (priority := high) : ToN (17 : Int) 17 := ⟨fun _ => rfl⟩
instance (priority := high) : ToN (18 : Int) 18 := ⟨fun _ => rfl⟩
instance (priority := high) : ToN (19 : Int) 19 := ⟨fun _ => rfl⟩
instance (priority := high) : ToN (20 : Int) 20 := ⟨fun _ => rfl⟩
instance (priority := high) : ToN (21 : Int) 21 := ⟨fun _ => rfl⟩
instance (priority := high) : ToN (22 : Int) 22 := ⟨fun _ => rfl⟩
instance (priority := high) : ToN (23 : Int) 23 := ⟨fun _ => rfl⟩
instance (priority := high) : ToN (24 : Int) 24 := ⟨fun _ => rfl⟩
instance (priority := low) {z : Int} : ToN z z.toNat := ⟨fun _ => rfl⟩
section
variable {P : Program} {w w0 : World} {H R : List SL} {ds : List Deferred}
theorem bi_ok {b : Builtin} {tys : Array TypeId} {ty : TypeId} {cs : Array Bool} {args : Array Value} {m : Sem Value} {v : Value} {w' : World} {K : Value → St → Prop} (hb : builtin b tys ty cs args = (do pure (.value (← m)))) (h : m.run P w = .ok v w') (k : K v ⟨w', ds⟩) : Bi P b tys ty cs args K ⟨w, ds⟩ :=
  ⟨by rw [hb]; simp only [Sem.run_bind, h, Result.andThen_ok, Sem.run_pure]; exact k⟩
theorem el_slice {t e : TypeId} (hu : P.underlying t = some (.slice e)) : P.underlying t = some (.slice (P.elem t)) := by
  have : P.elem t = e := by simp [Program.elem, hu]
  rw [this]; exact hu
instance {t ty e s size n : Nat} {cs : Array Bool} {v : Value} {xs : List Value} [u : TySl P t e s] [r : Rds w v size n xs] : VT (Bi P .len #[t] ty cs #[v]) w (.int .i64 n) := ⟨fun k => by
  obtain ⟨base, cap, rfl, _⟩ := r.ex
  obtain ⟨i, z, hu, _⟩ := u.info
  exact bi_ok (m := Builtin.len_ #[t] ty #[.slice base n cap]) rfl (run_len_slice w t ty base n cap (el_slice hu)) k⟩
instance {t ty : Nat} {cs : Array Bool} {l : List UInt8} [u : TyU P t .string] : VT (Bi P .len #[t] ty cs #[str l]) w (.int .i64 l.length) := ⟨fun k =>
  bi_ok (m := Builtin.len_ #[t] ty #[str l]) rfl (run_len_string w t ty _ u.eq) k⟩
/-- The address of a slice's element. -/
class IxA (v : outParam Value) (i s : outParam Nat) (a : Addr) : Prop where ex : ∃ base n cap, v = .slice (some base) n cap ∧ i < n ∧ a = base.add (i * s)
instance (priority := low) {a : Addr} {v : Value} {i s n : Nat} {xs cs : List Value} [x : IxA v i s a] [r : Rds w v s n xs] [c : SubX xs s i n cs] : El w a cs := ⟨fun j u hj => by
  obtain ⟨base, n', cap, hv, hi, rfl⟩ := x.ex
  obtain ⟨base', cap', hv', _, _, hx⟩ := r.ex
  rw [hv] at hv'
  simp only [Value.slice.injEq] at hv'
  obtain ⟨rfl, rfl, rfl⟩ := hv'
  obtain ⟨a', ha', hc⟩ := hx _ _ (c.eq r.len hi j u hj)
  simp only [Option.some.injEq] at ha'
  subst ha'
  rw [addr_add_add]; exact hc⟩
theorem ia_run {t e s n i : Nat} {v : Value} {k : IntKind} {z : Int} {xs : List Value} (u : TySl P t e s) (r : Rds w v s n xs) (zn : ToN z i) (h : 0 ≤ z ∧ z < n) : ∃ a, (Instr.indexAt t v (.int k z)).run P w = .ok (.pointer (some a)) w ∧ IxA v i s a := by
  obtain ⟨h1, h2⟩ := h
  have hz := zn.eq h1
  have hlt : i < n := by omega
  obtain ⟨base, cap, rfl, _, _, hx⟩ := r.ex
  obtain ⟨inf, zv, hu, hi, _, hs, _, hpos, _⟩ := u.info
  have hl := r.len
  have hmul : i * s + s ≤ n * s := by
    have := Nat.mul_le_mul_right s (show i + 1 ≤ n by omega)
    rw [Nat.add_mul] at this; omega
  obtain ⟨u0, hu0⟩ : ∃ u, xs[i * s]? = some u := ⟨xs[i * s]'(by omega), List.getElem?_eq_getElem (by omega)⟩
  obtain ⟨a, rfl, _⟩ := hx _ _ hu0
  refine ⟨a.add (i * s), ?_, _, _, _, rfl, hlt, rfl⟩
  have hsz : (sizeOf e).run P w = .ok s w := by simp [sizeOf, typeInfo, hi, hs]
  simp [Instr.indexAt, asIntOf, Sem.run_bind, run_underlying hu, h1, h2, hsz, hz]
instance {t e s n i : Nat} {v : Value} {k : IntKind} {z : Int} {xs : List Value} {K : Value → St → Prop} [u : TySl P t e s] [r : Rds w v s n xs] [zn : ToN z i] :
    Step (Ia P t v (.int k z) K ⟨w, ds⟩) ((0 ≤ z ∧ z < n) ∧ ∀ a, IxA v i s a → K (.pointer (some a)) ⟨w, ds⟩) := ⟨fun h => by
  obtain ⟨a, h1, h2⟩ := ia_run (k := k) u r zn h.1
  exact vl_ok h1 (h.2 a h2)⟩
instance {t e s n i : Nat} {v : Value} {k : IntKind} {z : Int} {xs : List Value} {K : Value → Prop} [u : TySl P t e s] [r : Rds w v s n xs] [zn : ToN z i] :
    Step (Qt (Ia P t v (.int k z)) ⟨w, ds⟩ K) ((0 ≤ z ∧ z < n) ∧ ∀ a, IxA v i s a → K (.pointer (some a))) := ⟨fun h => by
  obtain ⟨a, h1, h2⟩ := ia_run (k := k) u r zn h.1
  exact ⟨_, vl_ok h1 ⟨rfl, rfl⟩, h.2 a h2⟩⟩
instance {t e s n i : Nat} {v : Value} {k : IntKind} {z : Int} {xs : List Value} {a : Addr} {B : Prop} [x : IxA v i s a] [u : TySl P t e s] [r : Rds w v s n xs] [zn : ToN z i] :
    Step (Ck (Ia P t v (.int k z)) (.pointer (some a)) ⟨w, ds⟩ ∧ B) ((0 ≤ z ∧ z < n) ∧ B) := ⟨fun h => by
  obtain ⟨b, h1, h2⟩ := ia_run (k := k) u r zn h.1
  refine ⟨vl_ok h1 ⟨?_, rfl⟩, h.2⟩
  obtain ⟨_, _, _, hv, _, rfl⟩ := x.ex
  obtain ⟨_, _, _, hv', _, rfl⟩ := h2.ex
  rw [hv] at hv'
  simp only [Value.slice.injEq, Option.some.injEq] at hv'
  rw [hv'.1]⟩
end

/-! append -/
section
variable {P : Program} {w w0 : World} {H R : List SL} {ds : List Deferred}
theorem ownsRow_base {e size n b b' : Nat} {v : Value} {xs : List Value} (h : w.ownsRow b e size v n xs) (hb : ∀ k, v.ownBlock = some k → b' ≤ k) : w.ownsRow b' e size v n xs := by
  refine ⟨h.1, ?_⟩
  rcases h.2 with h2 | ⟨g, cap, cur, rfl, _, r⟩
  · exact .inl h2
  · exact .inr ⟨g, cap, cur, rfl, hb g rfl, r⟩
theorem append_run {t e size n m : Nat} (u : TySl P t e size) {v x : Value} {xs news : List Value} (ty : TypeId) (hv : w.ownsRow 0 e size v n xs) (hx : Rds w x size m news) (hb : n + m ≤ 137438953472) :
    ∃ v' w', (Builtin.append_ #[t, t] ty #[v, x]).run P w = .ok v' w' ∧ w'.ownsRow 0 e size v' (n + m) (xs ++ news) ∧ Kept (fun k => v.ownBlock = some k) w w' ∧ ∀ k, v'.ownBlock = some k → v.ownBlock = some k ∨ w.heap.size ≤ k := by
  obtain ⟨i, z, hu, hi, hz, hs, hzs, hpos, hby⟩ := u.info
  have h63 : n + m ≤ maxLen := by simp only [maxLen]; omega
  have hbytes : (n + m) * i.bytes ≤ 140737488355328 := Nat.le_trans (Nat.mul_le_mul hb hby) (by decide)
  obtain ⟨base, cap, rfl, h0, _, hc⟩ := hx.ex
  cases base with
  | none =>
    have hm : news = [] := by
      cases hn : news with
      | nil => rfl
      | cons a l => obtain ⟨a, ha, _⟩ := hc 0 a (by rw [hn]; rfl); cases ha
    subst hm
    have hl := hx.len
    simp only [List.length_nil] at hl
    have hm0 : m = 0 := by rcases Nat.mul_eq_zero.1 hl.symm with h | h <;> omega
    subst hm0
    rw [h0 rfl]
    exact ⟨_, _, run_append_owned_none (P := P) w 0 t ty e i size hu hi v n xs hv, by simpa using hv, Kept.refl _ _, fun k h => .inl h⟩
  | some a =>
    have hnews : ∀ j u, news[j]? = some u → w.cell? (a.add j) = some u := fun j u hj => by
      obtain ⟨a', ha', h⟩ := hc j u hj
      simp only [Option.some.injEq] at ha'; subst ha'; exact h
    rcases hv.2 with ⟨rfl, rfl⟩ | ⟨g, cp, cur, rfl, _, hg, hnc, hcm, hcs, ht⟩
    · have hv' : w.ownsRow w.heap.size e size (.slice none 0 0) 0 xs := ⟨hv.1, .inl ⟨rfl, rfl⟩⟩
      obtain ⟨v', w', h1, h2, h3, _⟩ := run_append_own (P := P) w w.heap.size t ty e i z size i.bytes hu hi hz hs rfl hzs hpos _ 0 xs hv' a m cap news hx.len hnews hx.one h63 hbytes (Nat.le_refl _)
      exact ⟨v', w', h1, ownsRow_base h2 fun k _ => Nat.zero_le k, Kept.of h3 (fun k hk => hk), fun k hk => .inr (h2.lt k hk).1⟩
    · by_cases hroom : n + m ≤ cp
      · obtain ⟨w', h1, h2, h3⟩ := run_append_fits (P := P) w 0 t ty e i size hu hi hs g n cp xs hv a m cap news hx.len hnews hx.one hroom
        exact ⟨_, w', h1, h2, Kept.of h3 (fun k hk => hk), fun k hk => .inl hk⟩
      · obtain ⟨v', w', h1, h2, h3⟩ := run_append_arg_grows (P := P) w t ty e i z size i.bytes hu hi hz hs rfl hzs hpos ⟨g, 0, none⟩ n cp xs hv.1 (hv.cells (g := g) rfl) a m cap news hx.len hnews (by omega) h63 hbytes
        exact ⟨v', w', h1, ownsRow_base h2 fun k _ => Nat.zero_le k, Kept.of h3 (fun k hk => by cases hk), fun k hk => .inr (h2.lt k hk).1⟩
theorem Hv.rowStep {e size n m : Nat} {v v' : Value} {xs ys : List Value} {w' : World} (h : Hv w0 (row e size v n xs :: R) w) (ho : w'.ownsRow 0 e size v' m ys) (h1 : ∀ u ∈ ys, u.oneCell' = true) (hk : Kept (fun k => v.ownBlock = some k) w w')
    (hs : ∀ k, v'.ownBlock = some k → v.ownBlock = some k ∨ w.heap.size ≤ k) : Hv w0 (row e size v' m ys :: R) w' := by
  refine Hv.step (B := [row e size v' m ys]) h fun S hS hr => ⟨fun k => v'.ownBlock = some k, ⟨fun k => v'.ownBlock = some k, emp, fun b => ⟨.inl, fun h => h.elim id fun h => h.elim⟩, fun b _ h => h, ⟨fun k => Iff.rfl, ho, h1⟩, fun b h => h⟩, fun b hb => (hs b hb).imp (hr.1 b).2 id, ?_⟩
  exact ⟨hk.os, hk.tape, hk.output, hk.size, fun k h1 h2 => hk.block k h1 fun h => h2 ((hr.1 k).2 h)⟩
theorem Hv.rowNew {e size m : Nat} {v' : Value} {ys : List Value} {w' : World} (h : Hv w0 R w) (ho : w'.ownsRow 0 e size v' m ys) (h1 : ∀ u ∈ ys, u.oneCell' = true) (hk : Kept emp w w') (hs : ∀ k, v'.ownBlock = some k → w.heap.size ≤ k) : Hv w0 (row e size v' m ys :: R) w' :=
  Hv.new (B := [row e size v' m ys]) h ⟨fun k => v'.ownBlock = some k, ⟨fun k => v'.ownBlock = some k, emp, fun b => ⟨.inl, fun h => h.elim id fun h => h.elim⟩, fun b _ h => h, ⟨fun k => Iff.rfl, ho, h1⟩, fun b h => h⟩, hs⟩ hk
theorem Hv.nilRow (e size : Nat) (h : Hv w0 R w) : Hv w0 (row e size (.slice none 0 0) 0 [] :: R) w := h.rowNew (World.ownsRow_nil w 0 e size) (by simp) (Kept.refl _ _) fun k hk => by simp [Value.ownBlock] at hk
instance {t ty e size n m : Nat} {cs : Array Bool} {v x : Value} {xs news : List Value} {K : Value → St → Prop} [o : Hv w0 H w] [i : RowIn H v e size n xs R] [r : Rds w x size m news] [u : TySl P t e size] :
    Step (Bi P .append #[t, t] ty cs #[v, x] K ⟨w, ds⟩) (n + m ≤ 137438953472 ∧ ∀ v' w', Hv w0 (row e size v' (n + m) (xs ++ news) :: R) w' → K v' ⟨w', ds⟩) := ⟨fun h => by
  have h1 := Hv.perm i.perm o
  obtain ⟨S, _, _, hr, h2⟩ := h1.ok
  obtain ⟨v', w', g1, g2, g3, g4⟩ := append_run u ty hr r h.1
  exact bi_ok (m := Builtin.append_ #[t, t] ty #[v, x]) rfl g1 (h.2 _ _ (h1.rowStep g2 (fun u hu => (List.mem_append.1 hu).elim (h2 u) (r.one u)) g3 g4))⟩

/-! a slice written out -/
class AppL {α : Type} (a b : List α) (c : outParam (List α)) : Prop where eq : a ++ b = c
instance {α : Type} {b : List α} : AppL [] b b := ⟨rfl⟩
instance {α : Type} {x : α} {a b c : List α} [h : AppL a b c] : AppL (x :: a) b (x :: c) := ⟨by simp [h.eq]⟩
class RepL (zs : List Value) (n : Nat) (r : outParam (List Value)) : Prop where eq : (List.replicate n zs).flatten = r
instance {zs : List Value} : RepL zs 0 [] := ⟨rfl⟩
instance {zs r c : List Value} {n : Nat} [h : RepL zs n r] [a : AppL zs r c] : RepL zs (n + 1) c := ⟨by rw [List.replicate_succ, List.flatten_cons, h.eq, a.eq]⟩
class PlN (size o n : Nat) (pl : outParam (List (Nat × Nat))) : Prop where eq : ∀ i x, pl[i]? = some x → x = (o + i * size, size)
instance {size o : Nat} : PlN size o 0 [] := ⟨fun i x h => by simp at h⟩
instance {size o n : Nat} {pl : List (Nat × Nat)} [h : PlN size (o + size) n pl] : PlN size o (n + 1) ((o, size) :: pl) := ⟨fun i x hx => by
  cases i with
  | zero => simp at hx; simp [hx]
  | succ i => rw [h.eq i x (by simpa using hx), Nat.add_mul]; congr 1; omega⟩
theorem fill_mono {p q : Nat → Option (Nat × Nat)} (h : ∀ i x, p i = some x → q i = some x) {ps : List (Nat × Value)} : ∀ {cs r : Array Value}, Instr.fill p cs ps = some r → Instr.fill q cs ps = some r := by
  induction ps with
  | nil => exact fun h => h
  | cons a ps ih =>
    obtain ⟨i, v⟩ := a
    intro cs r hf
    simp only [Instr.fill] at hf ⊢
    cases hp : p i with
    | none => simp [hp] at hf
    | some x =>
      obtain ⟨off, size⟩ := x
      simp only [hp] at hf
      simp only [h i _ hp]
      split at hf
      · cases hf
      · rename_i hc; rw [if_neg hc]; exact ih hf
theorem rep_at {size : Nat} (zs : List Value) (hz : zs.length = size) (hp : 0 < size) (n : Nat) : (Array.range (n * size)).map (fun i => zs.toArray[i % zs.toArray.size]!) = (List.replicate n zs).flatten.toArray := by
  apply Array.ext'
  simp only [Array.toList_map, Array.toList_range, List.size_toArray, hz]
  induction n with
  | zero => simp
  | succ n ih =>
    rw [List.replicate_succ', List.flatten_append, Nat.add_mul, Nat.one_mul, List.range_add, List.map_append, ih]
    congr 1
    simp only [List.map_map, List.flatten_cons, List.flatten_nil, List.append_nil]
    apply List.ext_getElem
    · simp [hz]
    · intro i h1 h2
      simp only [List.length_map, List.length_range] at h1
      simp [Nat.add_mod, Nat.mod_eq_of_lt h1, show i < zs.length by omega]
instance {t e size n : Nat} {zs full r : List Value} {pl : List (Nat × Nat)} {ps : List (Nat × Value)} {K : Value → St → Prop} [o : Hv w0 H w] [u : TySl P t e size] [z : TyZ P e zs] [rp : RepL zs n full] [p : PlN size 0 n pl] [f : FillL pl full ps w r] [on : Ones w r] [l : Len r (n * size)] :
    Step (Bs P t n ps.toArray K ⟨w, ds⟩) ((0 < n ∧ n * size ≤ 16777216) ∧ ∀ v w', Hv w0 (row e size v n r :: H) w' → K v ⟨w', ds⟩) := ⟨fun h => by
  obtain ⟨⟨hn, hsz⟩, h⟩ := h
  obtain ⟨i, z0, hu, hi, hz, hs, hzs, hpos, _⟩ := u.info
  obtain ⟨z1, hz1, hzc⟩ := z.run w
  have hz0 : z0 = z1 := by
    have : (zeroValue e).run P w = .ok z0 w := by simp [zeroValue, typeInfo, hi, hz]
    rw [this] at hz1; simpa using hz1
  subst hz0
  have hzl : zs.length = size := by rw [hzc] at hzs; simpa using hzs
  have hrun : (sizeOf e).run P w = .ok size w := by simp [sizeOf, typeInfo, hi, hs]
  have hne : ¬ n * size = 0 := by rw [Nat.mul_eq_zero]; omega
  have hfill : Instr.fill (fun i => some (i * size, size)) (((Array.range (n * size)).map (z0.cells[· % z0.cells.size]!))) ps.toArray.toList = some r.toArray := by
    rw [hzc, rep_at zs hzl hpos n, rp.eq]
    refine fill_mono (fun i x hx => ?_) f.eq
    have := p.eq i x (by simpa using hx)
    rw [this, Nat.zero_add]
  refine vl_ok (w' := w.alloc (.cells r.toArray e)) (v := .slice (some ⟨w.heap.size, 0, none⟩) n n) ?_ (h _ _ (o.rowNew (m := n) ?_ on.eq (Kept.alloc _ _ _) ?_))
  · have hgt : ¬ n * size > 2 ^ 24 := by omega
    simp only [Instr.buildSlice, Sem.run_bind, run_underlying hu, Result.andThen_ok, hrun]
    rw [if_neg hgt, if_neg hne]
    simp only [Sem.run_bind, hz1, Result.andThen_ok, Sem.run_pure, hfill]
    simp [newRow]
  · have := World.ownsRow_lit (base := 0) (e := e) (size := size) w r.toArray n (Nat.zero_le _) (by simp only [maxLen]; have := Nat.le_mul_of_pos_right n hpos; omega) (by simpa using l.eq)
    simpa using this
  · intro k hk
    simp only [Value.ownBlock, Option.some.injEq] at hk
    omega⟩
end

/-! pieces; bytes and strings -/
section
variable {P : Program} {w w0 : World} {H R : List SL} {ds : List Deferred}
class OptI (o : Option Value) (d : Nat) (z : outParam Int) : Prop where eq : (o = none ∧ z = d) ∨ ∃ k, o = some (.int k z)
instance {d : Nat} : OptI none d d := ⟨.inl ⟨rfl, rfl⟩⟩
instance {k : IntKind} {z : Int} {d : Nat} : OptI (some (.int k z)) d z := ⟨.inr ⟨k, rfl⟩⟩
theorem sl_run {t e size s n l h : Nat} {v : Value} {xs : List Value} {lo hi : Option Value} {zl zh : Int} (u : TySl P t e s) (r : Rds w v size n xs) (ol : OptI lo 0 zl) (oh : OptI hi n zh) (nl : ToN zl l) (nh : ToN zh h) (hs : TySize P e size) (hb : 0 ≤ zl ∧ zl ≤ zh ∧ zh ≤ n) :
    ∃ v', (Instr.sliceAt t v lo hi none).run P w = .ok v' w ∧ SubSl v v' size l (h - l) := by
  obtain ⟨h1, h2, h3⟩ := hb
  obtain ⟨base, cap, rfl, h0, hnc, hx⟩ := r.ex
  obtain ⟨i, z, hu, hi', _, hsz, _, hpos, _⟩ := u.info
  have el := nl.eq h1
  have eh := nh.eq (by omega)
  refine ⟨.slice (if cap = l then base else base.map (·.add (l * size))) (h - l) (cap - l), ?_, ⟨fun b n' c e => ?_⟩⟩
  · simp only [Instr.sliceAt, Sem.run_bind, run_underlying hu, Result.andThen_ok, Instr.slice]
    have hb : (Instr.sliceBounds true n cap lo hi none).run P w = .ok (l, h, cap) w := by
      have k1 : 0 ≤ zl ∧ zl ≤ (h : Int) := ⟨h1, by omega⟩
      have k2 : 0 ≤ zh ∧ zh ≤ (cap : Int) := ⟨by omega, by omega⟩
      rcases ol.eq with ⟨rfl, rfl⟩ | ⟨k, rfl⟩ <;> rcases oh.eq with ⟨rfl, rfl⟩ | ⟨k', rfl⟩
      · simp at el eh; subst el; subst eh
        simp [Instr.sliceBounds]
      · simp at el; subst el
        simp [Instr.sliceBounds, Instr.sliceBound, asIntOf, k2, eh]
      · simp at eh; subst eh
        simp [Instr.sliceBounds, Instr.sliceBound, asIntOf, k1, el]
      · simp [Instr.sliceBounds, Instr.sliceBound, asIntOf, k1, k2, el, eh]
    simp only [hb, Result.andThen_ok, hs.run, Sem.run_pure]
  · simp only [Value.slice.injEq] at e
    obtain ⟨rfl, rfl, rfl⟩ := e
    exact ⟨rfl, by omega⟩
instance {t e size s n l h : Nat} {v : Value} {xs : List Value} {lo hi : Option Value} {zl zh : Int} {K : Value → St → Prop} [u : TySl P t e s] [r : Rds w v size n xs] [ol : OptI lo 0 zl] [oh : OptI hi n zh] [nl : ToN zl l] [nh : ToN zh h] [hs : TySize P e size] :
    Step (Sl P t v lo hi none K ⟨w, ds⟩) ((0 ≤ zl ∧ zl ≤ zh ∧ zh ≤ n) ∧ ∀ v', SubSl v v' size l (h - l) → K v' ⟨w, ds⟩) := ⟨fun ⟨hb, hk⟩ => by
  obtain ⟨v', h1, h2⟩ := sl_run u r ol oh nl nh hs hb
  exact vl_ok h1 (hk _ h2)⟩
instance {t e size s n l h : Nat} {v : Value} {xs : List Value} {lo hi : Option Value} {zl zh : Int} {K : Value → Prop} [u : TySl P t e s] [r : Rds w v size n xs] [ol : OptI lo 0 zl] [oh : OptI hi n zh] [nl : ToN zl l] [nh : ToN zh h] [hs : TySize P e size] :
    Step (Qt (Sl P t v lo hi none) ⟨w, ds⟩ K) ((0 ≤ zl ∧ zl ≤ zh ∧ zh ≤ n) ∧ ∀ v', SubSl v v' size l (h - l) → K v') := ⟨fun ⟨hb, hk⟩ => by
  obtain ⟨v', h1, h2⟩ := sl_run u r ol oh nl nh hs hb
  exact ⟨_, vl_ok h1 ⟨rfl, rfl⟩, hk _ h2⟩⟩
theorem reslice_row {e size n m : Nat} {v v' : Value} {xs : List Value} (hr : w.ownsRow 0 e size v n xs) (hs : SubSl v v' size 0 m) : w.ownsRow 0 e size v' m (xs.take (m * size)) ∧ v'.ownBlock = v.ownBlock := by
  rcases hr.2 with ⟨rfl, rfl⟩ | ⟨g, cap, cur, rfl, hb, hg, hnc, hcm, hcs, ht⟩
  · obtain ⟨e', hle⟩ := hs.ex _ _ _ rfl
    have : m = 0 := by omega
    subst this
    simp only [if_true, Nat.sub_self] at e'
    subst e'
    simp [Value.ownBlock, World.ownsRow_nil]
  · obtain ⟨e', hle⟩ := hs.ex _ _ _ rfl
    have he : v' = .slice (some ⟨g, 0, none⟩) m cap := by
      rw [e']
      simp only [Nat.zero_mul, Nat.sub_zero]
      congr 1
      split
      · rfl
      · simp [Addr.add]
    subst he
    have hmn : m * size ≤ n * size := Nat.mul_le_mul_right _ (by omega)
    refine ⟨⟨by have := hr.1; simp; omega, .inr ⟨g, cap, cur, rfl, hb, hg, by omega, hcm, hcs, ?_⟩⟩, rfl⟩
    rw [← ht, List.take_take, Nat.min_eq_left hmn]
instance (priority := low) {e size n m : Nat} {v v' : Value} {xs : List Value} {H R : List SL} [s : SubSl v v' size 0 m] [h : RowIn H v e size n xs R] : RowIn H v' e size m (xs.take (m * size)) R := ⟨fun x => by
  obtain ⟨S1, S2, h1, h2, ⟨g1, g2, g3⟩, h4⟩ := h.perm x
  have := reslice_row g2 s
  exact ⟨S1, S2, h1, h2, ⟨fun k => by rw [this.2]; exact g1 k, this.1, fun u hu => g3 u (List.mem_of_mem_take hu)⟩, h4⟩⟩
class Bys (xs : List Value) (bs : outParam (List UInt8)) : Prop where eq : xs = bs.map byteV
instance {bs : List UInt8} : Bys (bs.map byteV) bs := ⟨rfl⟩
instance {xs : List Value} {bs : List UInt8} {i j : Nat} [h : Bys xs bs] : Bys ((xs.drop (i * 1)).take (j * 1)) ((bs.drop i).take j) := ⟨by rw [h.eq]; simp [List.map_take, List.map_drop]⟩
instance {src dst e n : Nat} {v : Value} {xs : List Value} {bs : List UInt8} [hs : TyU P src (.slice e)] [he : TyU P e (.int .u8)] [hd : TyU P dst .string] [r : Rds w v 1 n xs] [b : Bys xs bs] : VT (Cv P src dst v) w (str bs) := VT.of (by
  obtain ⟨base, cap, rfl, h0, hnc, hx⟩ := r.ex
  have hl := r.len
  have hb := b.eq
  subst hb
  simp only [List.length_map, Nat.mul_one] at hl
  cases base with
  | none =>
    have := h0 rfl
    have : bs = [] := List.eq_nil_of_length_eq_zero (by omega)
    subst this
    simp [convert, run_underlying hs.eq, run_underlying he.eq, run_underlying hd.eq, Conv.bytesToString]
    rfl
  | some a =>
    subst hl
    refine run_convert_bytes_back w src dst e a cap bs hs.eq he.eq hd.eq fun j hj => ?_
    obtain ⟨a', ha, hc⟩ := hx j (byteV bs[j]) (by simp [hj])
    simp only [Option.some.injEq] at ha
    subst ha; exact hc)
instance {src dst : Nat} {k k' : IntKind} {n : Int} {d : TypeDesc} [hs : TyU P src d] [hd : TyU P dst (.int k')] : VT (Cv P src dst (.int k n)) w (.int k' (k'.wrap n)) := VT.of (by
  simp [convert, run_underlying hs.eq, run_underlying hd.eq, Conv.intToInt])
instance {l : List Value} {i : Nat} {v : Value} [h : Nth l i v] : VT (Ex P (.tuple l.toArray) i) w v := VT.of (by
  have := h.eq
  simp [Instr.extract, this])
end
/-- A thing of a kind, by its key. -/
class InK {κ α : Type} (F : κ → α → SL) (k : κ) (H : List SL) (x : outParam α) (R : outParam (List SL)) : Prop where perm : ∀ {S w}, sep H S w → sep (F k x :: R) S w
instance (priority := high) {κ α : Type} {F : κ → α → SL} {k : κ} {H : List SL} {x : α} : InK F k (F k x :: H) x H := ⟨id⟩
instance {κ α : Type} {F : κ → α → SL} {k : κ} {A : SL} {H R : List SL} {x : α} [h : InK F k H x R] : InK F k (A :: H) x (A :: R) := ⟨fun y => sep_swap (sep_cons h.perm y)⟩
theorem InK.hv {κ α : Type} {F : κ → α → SL} {k : κ} {H R : List SL} {x : α} {w0 w : World} (h : InK F k H x R) (o : Hv w0 H w) : Hv w0 (F k x :: R) w := Hv.perm h.perm o
/-! what is owned, put in the order that is asked for -/
structure Sub (R G : List SL) : Prop where sub : ∀ {S w}, sep R S w → ∃ S', (∀ b, S' b → S b) ∧ sep G S' w
theorem Sub.hv {R G : List SL} {w0 w : World} [o : Hv w0 R w] (h : Sub R G) : Hv w0 G w := ⟨o.bel, let ⟨S, a, b⟩ := o.sp; let ⟨S', g1, g2⟩ := h.sub b; ⟨S', fun b hb => a b (g1 b hb), g2⟩⟩
theorem Sub.cons {A : SL} {R G : List SL} (h : Sub R G) : Sub (A :: R) (A :: G) := ⟨fun ⟨S1, S2, h1, h2, h3, h4⟩ =>
  let ⟨S', g1, g2⟩ := h.sub h4
  ⟨fun b => S1 b ∨ S' b, fun b hb => (h1 b).2 (hb.imp id (g1 b)), S1, S', fun b => Iff.rfl, fun b x y => h2 b x (g1 b y), h3, g2⟩⟩
theorem subEnd {R H : List SL} [d : DropTo R H] : Sub R H := ⟨d.sub⟩
theorem subRow {H' R G : List SL} {v : Value} {e size n m : Nat} {xs ys : List Value} [r : RowIn H' v e size n xs R] (h1 : n = m) (h2 : xs = ys) (k : Sub R G) : Sub H' (row e size v m ys :: G) := ⟨fun h => by
  subst h1 h2; exact k.cons.sub (r.perm h)⟩
theorem subBox {H' R G : List SL} {b t : Nat} {xs ys : List Value} [r : BoxIn H' b t xs R] (h2 : xs = ys) (k : Sub R G) : Sub H' (box b t ys :: G) := ⟨fun h => by
  subst h2; exact k.cons.sub (r.perm.1 h)⟩
theorem subK {κ α : Type} {F : κ → α → SL} {key : κ} {H' R G : List SL} {x y : α} [r : InK F key H' x R] (h : x = y) (k : Sub R G) : Sub H' (F key y :: G) := ⟨fun h' => by
  subst h; exact k.cons.sub (r.perm h')⟩
theorem take_snoc {α : Type} [Inhabited α] {l : List α} {i : Nat} (h : i < l.length) : l.take (i + 1) = l.take i ++ [l.getD i default] := by
  rw [List.take_add_one, List.getElem?_eq_getElem h]; simp [h]
/-! a row that is only read any more -/
def ro (size : Nat) (v : Value) (n : Nat) (xs : List Value) : SL where
  ok S w := (∀ k, S k ↔ v.ownBlock = some k) ∧ xs.length = n * size ∧ (∀ u ∈ xs, u.oneCell' = true) ∧ ∃ g cap cur e fz, v = .slice (some ⟨g, 0, none⟩) n cap ∧ w.heap[g]? = some (.cells cur e fz) ∧ n ≤ cap ∧ cap ≤ maxLen ∧ cur.toList.take (n * size) = xs
  loc {S w w'} he h := by
    obtain ⟨h1, h2, h3, g, cap, cur, e, fz, hv, hg, r⟩ := h
    exact ⟨h1, h2, h3, g, cap, cur, e, fz, hv, by rw [he g ((h1 g).2 (by rw [hv]; rfl))]; exact hg, r⟩
  lt {S w} h k hk := by
    obtain ⟨h1, h2, h3, g, cap, cur, e, fz, hv, hg, r⟩ := h
    have := (h1 k).1 hk
    rw [hv] at this
    simp only [Value.ownBlock, Option.some.injEq] at this
    subst this
    exact (Array.getElem?_eq_some_iff.1 hg).1
class RoIn (H : List SL) (v : Value) (size n : outParam Nat) (xs : outParam (List Value)) : Prop where rd : ∀ {S w}, sep H S w → Rds w v size n xs
instance (priority := high) {size n : Nat} {v : Value} {xs : List Value} {H : List SL} : RoIn (ro size v n xs :: H) v size n xs := ⟨fun {S w} h => by
  obtain ⟨S1, S2, _, _, ⟨h1, h2, h3, g, cap, cur, e, fz, hv, hg, hnc, hcm, ht⟩, _⟩ := h
  refine ⟨h2, h3, by omega, some ⟨g, 0, none⟩, cap, hv, (fun h => by cases h), hnc, fun j u hu => ⟨_, rfl, ?_⟩⟩
  rw [addr_add, Nat.zero_add, cell_of_row w g j cur e fz hg]
  rw [← ht, List.getElem?_take] at hu
  split at hu
  · simpa using hu
  · cases hu⟩
instance {A : SL} {size n : Nat} {v : Value} {xs : List Value} {H : List SL} [h : RoIn H v size n xs] : RoIn (A :: H) v size n xs := ⟨fun ⟨_, _, _, _, _, h4⟩ => h.rd h4⟩
instance {w w0 : World} {H : List SL} {size n : Nat} {v : Value} {xs : List Value} [o : Hv w0 H w] [i : RoIn H v size n xs] : Rds w v size n xs := i.rd o.sp.choose_spec.2
instance {w0 : World} {H : List SL} {size n : Nat} {v : Value} {xs : List Value} [i : RoIn H v size n xs] : RdsF w0 H v size n xs := ⟨fun _ h => i.rd h.sp.choose_spec.2⟩
section
variable {P : Program} {w w0 : World} {H R : List SL} {ds : List Deferred}
instance {t e n : Nat} {v : Value} {xs : List Value} {K : Value → St → Prop} [o : Hv w0 H w] [i : RowIn H v e 1 n xs R] [ht : TyU P t (.slice e)] [he : TyU P e (.int .u8)] :
    Step (Cv P t t v K ⟨w, ds⟩) (0 < n ∧ ∀ w', Hv w0 (ro 1 v n xs :: R) w' → K v ⟨w', ds⟩) := ⟨fun ⟨hn, h⟩ => by
  have h1 := Hv.perm i.perm o
  obtain ⟨S, _, _, hr, h2⟩ := h1.ok
  rcases hr.2 with ⟨rfl, rfl⟩ | ⟨g, cap, cur, rfl, hb, hg, hnc, hcm, hcs, htk⟩
  · omega
  · have hsh : w.shape? g = some (e, cur.size) := by simp [World.shape?, hg]
    refine vl_ok (w' := w.freeze ⟨g, cur.size, none⟩ 1) (v := .slice (some ⟨g, 0, none⟩) n cap) ?_ (h _ (Hv.step (B := [ro 1 (.slice (some ⟨g, 0, none⟩) n cap) n xs]) h1 fun S hS hr' => ?_))
    · simp only [convert, Sem.run_bind, run_underlying ht.eq, run_underlying he.eq, Result.andThen_ok, beq_self_eq_true, markStringish]
      simp [shape, Sem.run, hsh, freeze]
    · have hg' : (w.freeze ⟨g, cur.size, none⟩ 1).heap[g]? = some (.cells cur e (cur.size, cur.size + 1)) := by
        simp [World.freeze, hg, Array.getElem?_modify]
      refine ⟨S, ⟨S, emp, fun b => ⟨.inl, fun h => h.elim id fun h => h.elim⟩, fun b _ h => h, ⟨hr'.1, hr.1, h2, g, cap, cur, e, _, rfl, hg', hnc, hcm, htk⟩, fun b h => h⟩, fun b h => .inl h, rfl, rfl, rfl, by simp [World.freeze], fun k hk hs => ?_⟩
      have hne : k ≠ g := fun e => hs ((hr'.1 k).2 (by rw [e]; rfl))
      simp [World.freeze, Array.getElem?_modify, Ne.symm hne]⟩
end
instance : Bys [] [] := ⟨rfl⟩
instance (priority := high) {b : UInt8} {xs : List Value} {bs : List UInt8} [k : Bys xs bs] : Bys (byteV b :: xs) (b :: bs) := ⟨by rw [k.eq]; rfl⟩
instance {xs ys : List Value} {bs cs : List UInt8} [h : Bys xs bs] [k : Bys ys cs] : Bys (xs ++ ys) (bs ++ cs) := ⟨by rw [h.eq, k.eq, List.map_append]⟩
/-- Cells that spell things, one behind the other. -/
class Encs {α : Type} (enc : α → List Value) (xs : List Value) (ys : outParam (List α)) : Prop where eq : xs = ys.flatMap enc
instance {α : Type} {enc : α → List Value} {ys : List α} : Encs enc (ys.flatMap enc) ys := ⟨rfl⟩
instance {α : Type} {enc : α → List Value} : Encs enc [] [] := ⟨rfl⟩
instance {α : Type} {enc : α → List Value} {xs xs' : List Value} {ys ys' : List α} [h : Encs enc xs ys] [k : Encs enc xs' ys'] : Encs enc (xs ++ xs') (ys ++ ys') := ⟨by rw [h.eq, k.eq, List.flatMap_append]⟩
theorem Encs.len {α : Type} {enc : α → List Value} {size n : Nat} {xs : List Value} {ys : List α} [u : UEnc enc size] (h : Encs enc xs ys) (hl : xs.length = n * size) (hs : 0 < size) : n = ys.length := by
  rw [h.eq, flatMap_len u.eq] at hl
  exact (Nat.eq_of_mul_eq_mul_right hs hl).symm
end Go.Vx
