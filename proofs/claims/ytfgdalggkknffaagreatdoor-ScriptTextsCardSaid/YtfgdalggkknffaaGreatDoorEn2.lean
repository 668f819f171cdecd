import Derived.Test.YtfgdalggkknffaaGreatDoorEng
import Derived.Laws.CopyRow
import Derived.Lib.Overlaps
import Derived.Lib.AppendZerosOnto
import Derived.Laws.IdiomRangeMap
import Derived.Lib.SliceRun
import Derived.Sort.Row
import Derived.Sort.Grow
set_option linter.all false
namespace Go.Vx
structure Sd (p : Prop) : Prop where out : p
class Pur (W : (Value → St → Prop) → Prop) (s : St) (side : outParam Prop) (r : outParam Value) : Prop where prf : side → ∀ A : Value → St → Prop, A r s → W A
instance (priority := high) {v : Value} {s : St} : Pur (fun A => A v s) s True v := ⟨fun _ _ h => h⟩
instance Pur.vt {C : (Value → St → Prop) → St → Prop} {f : Value → (Value → St → Prop) → St → Prop} {w : World} {ds : List Deferred} {side : Prop} {v r : Value} [i : VT C w v] [p : Pur (fun A => f v A ⟨w, ds⟩) ⟨w, ds⟩ side r] :
    Pur (fun A => C (fun v' s' => f v' A s') ⟨w, ds⟩) ⟨w, ds⟩ side r := ⟨fun hs A h => i.prf (p.prf hs A h)⟩
instance (priority := low) Pur.vs {C : (Value → St → Prop) → St → Prop} {f : Value → (Value → St → Prop) → St → Prop} {w : World} {ds : List Deferred} {side side1 : Prop} {v r : Value} [i : VS C w side1 v] [p : Pur (fun A => f v A ⟨w, ds⟩) ⟨w, ds⟩ side r] :
    Pur (fun A => C (fun v' s' => f v' A s') ⟨w, ds⟩) ⟨w, ds⟩ (side1 ∧ side) r := ⟨fun hs A h => i.prf hs.1 (p.prf hs.2 A h)⟩
section
variable {P : Program} {w : World} {ds : List Deferred}
instance (priority := 20000) {b r : Bool} {side : Prop} {B : (Value → St → Prop) → Prop} {K : Value → St → Prop} [p : Pur B ⟨w, ds⟩ side (.bool r)] :
    Step (J1 (fun A => Grd (.bool b) true (B A) (A undef ⟨w, ds⟩)) (fun x s => Pk P (.bool b) x (.bool false) K s)) (Sd (b = true → side) ∧ K (.bool (b && r)) ⟨w, ds⟩) := ⟨fun ⟨⟨h1⟩, h2⟩ => by
  cases b with
  | true => exact ⟨fun x s => x = .bool r ∧ s = ⟨w, ds⟩, fun x s ⟨e1, e2⟩ => by subst e1 e2; exact go (by simpa using h2), ⟨fun _ => p.prf (h1 rfl) _ ⟨rfl, rfl⟩, fun e => absurd rfl e⟩⟩
  | false => exact ⟨fun x s => s = ⟨w, ds⟩, fun x s e => by subst e; exact go (by simpa using h2), ⟨fun e => by simp at e, fun _ => rfl⟩⟩⟩
instance (priority := 20000) {b r : Bool} {side : Prop} {B : (Value → St → Prop) → Prop} {K : Value → St → Prop} [p : Pur B ⟨w, ds⟩ side (.bool r)] :
    Step (J1 (fun A => Grd (.bool b) false (B A) (A undef ⟨w, ds⟩)) (fun x s => Pk P (.bool b) (.bool true) x K s)) (Sd (b = false → side) ∧ K (.bool (b || r)) ⟨w, ds⟩) := ⟨fun ⟨⟨h1⟩, h2⟩ => by
  cases b with
  | false => exact ⟨fun x s => x = .bool r ∧ s = ⟨w, ds⟩, fun x s ⟨e1, e2⟩ => by subst e1 e2; exact go (by simpa using h2), ⟨fun _ => p.prf (h1 rfl) _ ⟨rfl, rfl⟩, fun e => absurd rfl e⟩⟩
  | true => exact ⟨fun x s => s = ⟨w, ds⟩, fun x s e => by subst e; exact go (by simpa using h2), ⟨fun e => by simp at e, fun _ => rfl⟩⟩⟩
instance (priority := 30000) {a b c : Bool} {side1 side2 : Prop} {B : (Value → St → Prop) → Prop} {C : (Value → St → Prop) → St → Prop} {K : Value → St → Prop} [p : Pur B ⟨w, ds⟩ side1 (.bool b)] [q : Pur (fun A => C A ⟨w, ds⟩) ⟨w, ds⟩ side2 (.bool c)] :
    Step (J1 (fun A => Grd (.bool a) false (B A) (A undef ⟨w, ds⟩)) (fun x s => J1 (fun A => Grd x true (C A s) (A undef s)) (fun y s => J1 (fun A => Grd (.bool a) false (Pk P x y (.bool false) (fun v s => A v s) s) (A undef s)) (fun z s => Pk P (.bool a) (.bool true) z K s))))
      (Sd ((a = false → side1) ∧ (a = false → b = true → side2)) ∧ K (.bool (a || (b && c))) ⟨w, ds⟩) := ⟨fun ⟨⟨⟨h1, h2⟩⟩, h3⟩ => by
  cases a with
  | true =>
    refine ⟨fun x s => x = undef ∧ s = ⟨w, ds⟩, fun x s ⟨e1, e2⟩ => ?_, ⟨fun e => by simp at e, fun _ => ⟨rfl, rfl⟩⟩⟩
    subst e1 e2
    refine ⟨fun x s => s = ⟨w, ds⟩, fun x s e => ?_, go rfl⟩
    subst e
    refine ⟨fun x s => s = ⟨w, ds⟩, fun x s e => ?_, ⟨fun e => by simp at e, fun _ => rfl⟩⟩
    subst e
    exact go (by simpa using h3)
  | false =>
    refine ⟨fun x s => x = .bool b ∧ s = ⟨w, ds⟩, fun x s ⟨e1, e2⟩ => ?_, ⟨fun _ => p.prf (h1 rfl) _ ⟨rfl, rfl⟩, fun e => absurd rfl e⟩⟩
    subst e1 e2
    cases b with
    | false =>
      refine ⟨fun x s => s = ⟨w, ds⟩, fun x s e => ?_, ⟨fun e => by simp at e, fun _ => rfl⟩⟩
      subst e
      refine ⟨fun x s => x = .bool false ∧ s = ⟨w, ds⟩, fun x s ⟨e1, e2⟩ => ?_, ⟨fun _ => go ⟨rfl, rfl⟩, fun e => absurd rfl e⟩⟩
      subst e1 e2
      exact go (by simpa using h3)
    | true =>
      refine ⟨fun x s => x = .bool c ∧ s = ⟨w, ds⟩, fun x s ⟨e1, e2⟩ => ?_, ⟨fun _ => q.prf (h2 rfl rfl) _ ⟨rfl, rfl⟩, fun e => absurd rfl e⟩⟩
      subst e1 e2
      refine ⟨fun x s => x = .bool c ∧ s = ⟨w, ds⟩, fun x s ⟨e1, e2⟩ => ?_, ⟨fun _ => go ⟨rfl, rfl⟩, fun e => absurd rfl e⟩⟩
      subst e1 e2
      exact go (by simpa using h3)⟩
end
end Go.Vx

namespace Go.Vx
open Go.RowKit
theorem sd {p : Prop} (h : p := by first | omega | (unfold InR; omega) | decide | (simp only [ll]; omega) | (with_reducible assumption) | ((repeat' apply And.intro) <;> first | (with_reducible assumption) | omega | (unfold InR; omega))) : p := h
theorem sb {p : Prop} (h : p := by
  first
  | exact fun _ => True.intro
  | exact And.intro (fun _ => True.intro) (fun _ _ => True.intro)
  | (intro hq; (first | exact True.intro | omega | (simp only [and_true]; omega) | (simp only [bl] at hq; (try simp only [and_true]); omega) | fail))
  | exact And.intro (fun hq => by first | exact True.intro | omega | (simp only [and_true]; omega) | (simp only [bl] at hq; (try simp only [and_true]); omega) | fail) (fun hq hr => by first | exact True.intro | omega | (simp only [and_true]; omega) | (simp only [bl] at hq hr; omega) | (simp only [bl] at hr; omega) | fail)
  | fail) : Sd p := ⟨h⟩
theorem ab {p q : Prop} (h : p) (n : ¬ p := by decide) : q := absurd h n
section
variable {P : Program} {w w0 : World} {H R : List SL} {ds : List Deferred}
theorem Hv.openRow {e size n : Nat} {v : Value} {xs : List Value} (h : Hv w0 (row e size v n xs :: R) w) :
    (v = .slice none 0 0 ∧ n = 0 ∧ xs = [] ∧ Hv w0 R w) ∨ ∃ g cap cur, v = .slice (some ⟨g, 0, none⟩) n cap ∧ n ≤ cap ∧ cap ≤ maxLen ∧ cur.length = cap * size ∧ cur.take (n * size) = xs ∧ (∀ u ∈ xs, u.oneCell' = true) ∧ Hv w0 (Vx.box g e cur :: R) w := by
  obtain ⟨S, _, _, hr, h1⟩ := h.ok
  rcases hr.2 with ⟨rfl, rfl⟩ | ⟨g, cap, cur, rfl, _, hg, hnc, hcm, hcs, ht⟩
  · exact .inl ⟨rfl, rfl, List.eq_nil_of_length_eq_zero (by simpa using hr.1), h.tail⟩
  · refine .inr ⟨g, cap, cur.toList, rfl, hnc, hcm, by simpa using hcs, ht, h1, ?_⟩
    have := Hv.step (B := [Vx.box g e cur.toList]) (w' := w) h fun S hS hb => ⟨S, ⟨S, emp, fun b => ⟨.inl, fun h => h.elim id fun h => h.elim⟩, fun b _ h => h, ⟨fun k => ?_, by simpa using hg⟩, fun b h => h⟩, fun b h => .inl h, Kept.refl _ _⟩
    · exact this
    · rw [hb.1 k]; simp only [Value.ownBlock, Option.some.injEq]; exact eq_comm
theorem Hv.shutRow {e size n g cap : Nat} {cur : List Value} (h : Hv w0 (Vx.box g e cur :: R) w) (h1 : n ≤ cap) (h2 : cap ≤ maxLen) (h3 : cur.length = cap * size) (h4 : ∀ u ∈ cur.take (n * size), u.oneCell' = true) :
    Hv w0 (row e size (.slice (some ⟨g, 0, none⟩) n cap) n (cur.take (n * size)) :: R) w := by
  have hm : n * size ≤ cap * size := Nat.mul_le_mul_right _ h1
  have := Hv.step (B := [row e size (.slice (some ⟨g, 0, none⟩) n cap) n (cur.take (n * size))]) (w' := w) h fun S hS hb => ⟨S, ⟨S, emp, fun b => ⟨.inl, fun h => h.elim id fun h => h.elim⟩, fun b _ h => h, ⟨fun k => ?_, ⟨by simp; omega, .inr ⟨g, cap, cur.toArray, rfl, Nat.zero_le _, hb.2, h1, h2, by simpa using h3, by simp⟩⟩, h4⟩, fun b h => h⟩, fun b h => .inl h, Kept.refl _ _⟩
  · exact this
  · rw [hb.1 k]; simp only [Value.ownBlock, Option.some.injEq]; exact eq_comm
theorem box_cell {g e o : Nat} {cur : List Value} (h : Hv w0 (box g e cur :: R) w) (j : Nat) : w.cell? ((⟨g, o, none⟩ : Addr).add j) = cur[o + j]? := by
  rw [addr_add, cell_of_row w g (o + j) _ e (0, 0) h.at]; simp
theorem box_rd {g e lo m : Nat} {cur : List Value} (h : Hv w0 (box g e cur :: R) w) : ∀ j u, ((cur.drop lo).take m)[j]? = some u → w.cell? ((⟨g, lo, none⟩ : Addr).add j) = some u := by
  intro j u hu
  rw [List.getElem?_take] at hu
  split at hu
  · rw [List.getElem?_drop] at hu; rw [box_cell h]; exact hu
  · cases hu
def put (cur : List Value) (o : Nat) (vs : List Value) : List Value := cur.take o ++ vs ++ cur.drop (o + vs.length)
theorem put_len {cur vs : List Value} {o : Nat} (h : o + vs.length ≤ cur.length) : (put cur o vs).length = cur.length := by unfold put; simp; omega
theorem store_box {g e o : Nat} {cur vs : List Value} (h : Hv w0 (box g e cur :: R) w) (hl : o + vs.length ≤ cur.length) (h1 : ∀ v ∈ vs, v.oneCell' = true) : (storeCells ⟨g, o, none⟩ vs).run P w = .ok () (w.setRow g (put cur o vs).toArray) := by
  have := run_storeCells_at P g o e vs 0 cur.toArray w h.at (by simpa using hl) h1
  simpa [put] using this
theorem app_box {t ty e size g n cap m c : Nat} {a : Addr} {cur vs : List Value} (u : TySl P t e size) (h : Hv w0 (box g e cur :: R) w) (hv : vs.length = m * size) (hr : ∀ j u, vs[j]? = some u → w.cell? (a.add j) = some u) (h1 : ∀ v ∈ vs, v.oneCell' = true) (hroom : n + m ≤ cap) (hc : cur.length = cap * size) :
    (Builtin.append_ #[t, t] ty #[.slice (some ⟨g, 0, none⟩) n cap, .slice (some a) m c]).run P w = .ok (.slice (some ⟨g, 0, none⟩) (n + m) cap) (w.setRow g (put cur (n * size) vs).toArray) := by
  obtain ⟨i, z, hu, hi, hz, hs, hzs, hpos, hby⟩ := u.info
  have hm : (n + m) * size ≤ cap * size := Nat.mul_le_mul_right _ hroom
  rw [Nat.add_mul] at hm
  have h2 := run_firstCells_some (P := P) w size m a m c vs hv hr
  have h3 := store_box (P := P) (o := n * size) h (by omega) h1
  simp [Builtin.append_, run_underlying hu, sizeOf, typeInfo, hi, hs, Builtin.lenOf, hroom, h2, addr_add, h3]
theorem copy_box {t ty e size g lo dn dc m c k : Nat} {a : Addr} {cur vs : List Value} (u : TySl P t e size) (h : Hv w0 (box g e cur :: R) w) (hk : min m dn = k) (hv : vs.length = k * size) (hr : ∀ j u, vs[j]? = some u → w.cell? (a.add j) = some u) (h1 : ∀ v ∈ vs, v.oneCell' = true) (hc : lo + k * size ≤ cur.length) :
    (Builtin.copy_ #[t, t] ty #[.slice (some ⟨g, lo, none⟩) dn dc, .slice (some a) m c]).run P w = .ok (.int .i64 k) (w.setRow g (put cur lo vs).toArray) := by
  obtain ⟨i, z, hu, hi, hz, hs, hzs, hpos, hby⟩ := u.info
  have h2 := run_firstCells_some (P := P) w size k a m c vs hv hr
  have h3 := store_box (P := P) (o := lo) h (by omega) h1
  have hk' : Nat.min m dn = k := hk
  simp [Builtin.copy_, run_underlying hu, sizeOf, typeInfo, hi, hs, Builtin.lenOf, hk', h2, h3, goInt]
theorem zeros_list {zs : List Value} {size : Nat} (hz : zs.length = size) (hp : 0 < size) (n : Nat) : (Builtin.zeroCells zs.toArray n).toList = (List.replicate n zs).flatten := by
  have := rep_at zs hz hp n
  unfold Builtin.zeroCells
  simp only [List.size_toArray, hz] at this ⊢
  rw [this]
theorem clear_box {t ty e size g lo n c : Nat} {cur zs : List Value} (u : TySl P t e size) (tz : TyZ P e zs) (hz1 : ∀ v ∈ zs, v.oneCell' = true) (h : Hv w0 (box g e cur :: R) w) (hc : lo + n * size ≤ cur.length) :
    ∃ vs, vs.length = n * size ∧ (Builtin.clear_ #[t] ty #[.slice (some ⟨g, lo, none⟩) n c]).run P w = .ok (.tuple #[]) (w.setRow g (put cur lo vs).toArray) := by
  obtain ⟨i, z, hu, hi, hz, hs, hzs, hpos, hby⟩ := u.info
  obtain ⟨z1, hz1', hzc⟩ := tz.run w
  have hz0 : z = z1 := by
    have : (zeroValue e).run P w = .ok z w := by simp [zeroValue, typeInfo, hi, hz]
    rw [this] at hz1'; simpa using hz1'
  subst hz0
  have hzl : zs.length = size := by rw [hzc] at hzs; simpa using hzs
  have hlen : ((List.replicate n zs).flatten).length = n * size := by simp [hzl]
  refine ⟨(List.replicate n zs).flatten, hlen, ?_⟩
  cases n with
  | zero =>
    have hs := setRow_self w g cur.toArray e (0, 0) h.at
    simp [Builtin.clear_, run_underlying hu, put, hs]
  | succ n =>
    have h3 := store_box (P := P) (o := lo) (vs := (List.replicate (n + 1) zs).flatten) h (by rw [hlen]; exact hc) (fun v hv => by
      obtain ⟨l, h4, h5⟩ := List.mem_flatten.1 hv
      rw [List.eq_of_mem_replicate h4] at h5
      exact hz1 v h5)
    simp [Builtin.clear_, run_underlying hu, hz1', hzc, zeros_list hzl hpos, h3]
theorem slice_run {t e size n cap : Nat} {b : Option Addr} {lo hi mx : Option Value} {l h m : Nat} (u : TySl P t e size) (hs : TySize P e size) (hb : (Instr.sliceBounds true n cap lo hi mx).run P w = .ok (l, h, m) w) :
    (Instr.sliceAt t (.slice b n cap) lo hi mx).run P w = .ok (.slice (if m = l then b else b.map (·.add (l * size))) (h - l) (m - l)) w := by
  obtain ⟨i, z, hu, hi', _, hsz, _, hpos, _⟩ := u.info
  simp only [Instr.sliceAt, Sem.run_bind, run_underlying hu, Result.andThen_ok, Instr.slice, hb, hs.run, Sem.run_pure]
theorem qt_run {m : Sem Value} {v : Value} {K : Value → Prop} (hr : m.run P w = .ok v w) (h : K v) : Qt (Vl P m) ⟨w, ds⟩ K := ⟨v, vl_ok hr ⟨rfl, rfl⟩, h⟩
theorem bounds2 {n cap l h : Nat} {k k' : IntKind} (h1 : l ≤ h) (h2 : h ≤ cap) : (Instr.sliceBounds true n cap (some (.int k l)) (some (.int k' h)) none).run P w = .ok (l, h, cap) w := by
  simp [Instr.sliceBounds, Instr.sliceBound, asIntOf, h1, h2]
theorem boundsL {n cap l : Nat} {k : IntKind} (h1 : l ≤ n) : (Instr.sliceBounds true n cap (some (.int k l)) none none).run P w = .ok (l, n, cap) w := by
  simp [Instr.sliceBounds, Instr.sliceBound, asIntOf, h1]
theorem boundsH {n cap h : Nat} {k : IntKind} (h1 : h ≤ cap) : (Instr.sliceBounds true n cap none (some (.int k h)) none).run P w = .ok (0, h, cap) w := by
  simp [Instr.sliceBounds, Instr.sliceBound, asIntOf, h1]
theorem bounds3 {n cap l h m : Nat} {k k' k2 : IntKind} (h1 : l ≤ h) (h2 : h ≤ m) (h3 : m ≤ cap) : (Instr.sliceBounds true n cap (some (.int k l)) (some (.int k' h)) (some (.int k2 m))).run P w = .ok (l, h, m) w := by
  simp [Instr.sliceBounds, Instr.sliceBound, asIntOf, h1, h2, h3]
theorem pc_addr {g l cap size : Nat} (h : l < cap) : (if cap = l then (some ⟨g, 0, none⟩ : Option Addr) else (some (⟨g, 0, none⟩ : Addr)).map (·.add (l * size))) = some ⟨g, l * size, none⟩ := by
  rw [if_neg (by omega)]; simp [addr_add]
theorem pc_zero {g cap size : Nat} : (if cap = 0 then (some ⟨g, 0, none⟩ : Option Addr) else (some (⟨g, 0, none⟩ : Addr)).map (·.add (0 * size))) = some ⟨g, 0, none⟩ := by
  split <;> simp [addr_add]
theorem put_take {cur vs : List Value} {o : Nat} (h : o ≤ cur.length) : (put cur o vs).take o = cur.take o := by
  unfold put; rw [List.append_assoc, List.take_left' (by rw [List.length_take]; omega)]
theorem put_drop {cur vs : List Value} {o : Nat} (h : o ≤ cur.length) : (put cur o vs).drop o = vs ++ cur.drop (o + vs.length) := by
  unfold put; rw [List.append_assoc, List.drop_left' (by rw [List.length_take]; omega)]
theorem put_rest {cur vs : List Value} {o k : Nat} (h : o ≤ cur.length) (hk : o + vs.length ≤ k) : (put cur o vs).drop k = cur.drop k := by
  have : k = o + (k - o) := by omega
  rw [this, ← List.drop_drop, put_drop h, List.drop_append, List.drop_of_length_le (by omega), List.nil_append, List.drop_drop]
  congr 1; omega
def delW (P : Program) (tS tI : Nat) (a0 a1 a2 : Value) (K : Value → World → Prop) (s : St) : Prop :=
  Bi P .len #[tS] tI #[false] #[a0] (fun v1 s => Sl P tS a0 (some a1) (some a2) (some v1) (fun _ s => Bo P .eql tI false false a1 a2 (fun v3 s => CondP v3 (Ret P (fun w => K a0 w) s) (Bi P .len #[tS] tI #[false] #[a0] (fun v4 s => Dw (fun s => Qt (Sl P tS a0 none (some a1) none) s fun v5 => Qt (Sl P tS a0 (some a2) none none) s fun v6 => Bi P .append #[tS, tS] tS #[false, false] #[v5, v6] (fun v7 s => Bi P .len #[tS] tI #[false] #[v7] (fun v8 s => Sl P tS v7 (some v8) (some v4) none (fun v9 s => Bi P .clear #[tS] 0 #[false] #[v9] (fun _ s => Ret P (fun w => K v7 w) s) s) s) s) s) s) s)) s) s) s
theorem delW_ok {tS tI e size n i j : Nat} {v : Value} {xs zs : List Value} {K : Value → World → Prop} (u : TySl P tS e size) (hs : TySize P e size) (tz : TyZ P e zs) (hz1 : ∀ v ∈ zs, v.oneCell' = true)
    (o : Hv w0 (row e size v n xs :: R) w) (hij : i ≤ j) (hj : j ≤ n) (h : ∀ v' w', Hv w0 (row e size v' (n - (j - i)) (xs.take (i * size) ++ xs.drop (j * size)) :: R) w' → K v' w') :
    delW P tS tI v (.int .i64 i) (.int .i64 j) K ⟨w, []⟩ := by
  unfold delW
  refine go ?_
  have hrd : Rds w v size n xs := inferInstance
  obtain ⟨b, cap, rfl, _, hnc, _⟩ := hrd.ex
  refine vl_ok (slice_run u hs (bounds3 hij hj hnc)) ?_
  refine go ?_
  refine go ⟨fun h1 => ?_, fun h1 => ?_⟩
  · have e1 : i = j := by have := of_decide_eq_true h1; omega
    subst e1
    refine go (h _ _ ?_)
    rw [Nat.sub_self, Nat.sub_zero, List.take_append_drop]; exact o
  · have e1 : i < j := by
      have : (i : Int) ≠ j := by simpa using h1
      omega
    refine go (go fun w1 o1 => ?_)
    rcases o1.openRow with ⟨_, rfl, _⟩ | ⟨g, cap', cur, ev, h1, h2, h3, h4, h5, o2⟩
    · omega
    · simp only [Value.slice.injEq] at ev
      obtain ⟨rfl, _, rfl⟩ := ev
      have hcap : n * size ≤ cap * size := Nat.mul_le_mul_right _ hnc
      have hjn : j * size ≤ n * size := Nat.mul_le_mul_right _ hj
      have hij' : i * size ≤ j * size := Nat.mul_le_mul_right _ hij
      have hsz : (n - j) * size = n * size - j * size := Nat.sub_mul _ _ _
      refine qt_run (slice_run u hs (boundsH (by omega))) (qt_run (slice_run u hs (boundsL hj)) ?_)
      obtain ⟨lo, hlo, e3⟩ : ∃ lo, (if cap = j then (some ⟨g, 0, none⟩ : Option Addr) else (some (⟨g, 0, none⟩ : Addr)).map (·.add (j * size))) = some ⟨g, lo, none⟩ ∧ (n - j = 0 ∨ lo = j * size) := by
        split
        · exact ⟨0, rfl, .inl (by omega)⟩
        · exact ⟨j * size, by simp [addr_add], .inr rfl⟩
      rw [pc_zero, hlo]
      simp only [Nat.sub_zero]
      have hlen : ((cur.drop (j * size)).take ((n - j) * size)).length = (n - j) * size := by
        rw [List.length_take, List.length_drop]; omega
      have hB : (cur.drop (j * size)).take ((n - j) * size) = xs.drop (j * size) := by rw [← h4, List.drop_take, hsz]
      rw [hB] at hlen
      have hmem : ∀ v ∈ xs.drop (j * size), v.oneCell' = true := fun v hv => h5 v (List.mem_of_mem_drop hv)
      have hrd2 : ∀ k u, (xs.drop (j * size))[k]? = some u → w1.cell? ((⟨g, lo, none⟩ : Addr).add k) = some u := by
        rcases e3 with e3 | rfl
        · have hnil : xs.drop (j * size) = [] := List.eq_nil_of_length_eq_zero (by rw [hlen, e3, Nat.zero_mul])
          rw [hnil]; intro k u hu; simp at hu
        · rw [← hB]; exact box_rd o2
      refine bi_ok (m := Builtin.append_ #[tS, tS] tS #[.slice (some ⟨g, 0, none⟩) i cap, .slice (some ⟨g, lo, none⟩) (n - j) (cap - j)]) rfl (app_box u o2 hlen hrd2 hmem (by omega) h3) ?_
      have o3 := o2.stored (r := put cur (i * size) (xs.drop (j * size)))
      generalize hc3 : put cur (i * size) (xs.drop (j * size)) = cur3 at o3
      have hl3 : cur3.length = cap * size := by rw [← hc3, put_len (by rw [hlen]; omega), h3]
      have ht3 : cur3.take ((i + (n - j)) * size) = xs.take (i * size) ++ xs.drop (j * size) := by
        rw [Nat.add_mul, List.take_add, ← hc3, put_take (by omega), put_drop (by omega), List.take_left' hlen, ← h4, List.take_take, Nat.min_eq_left (by omega)]
      refine go ?_
      refine vl_ok (slice_run u hs (bounds2 (by omega) (by omega))) ?_
      rw [pc_addr (by omega)]
      have hm2 : (i + (n - j)) * size + (n - (i + (n - j))) * size = n * size := by rw [← Nat.add_mul]; congr 1; omega
      obtain ⟨vs, hv, hr⟩ := clear_box (ty := 0) (lo := (i + (n - j)) * size) (n := n - (i + (n - j))) (c := cap - (i + (n - j))) u tz hz1 o3 (by omega)
      refine bi_ok (m := Builtin.clear_ #[tS] 0 #[.slice (some ⟨g, (i + (n - j)) * size, none⟩) (n - (i + (n - j))) (cap - (i + (n - j)))]) rfl hr ?_
      have o4 := o3.stored (r := put cur3 ((i + (n - j)) * size) vs)
      have ht4 : (put cur3 ((i + (n - j)) * size) vs).take ((i + (n - j)) * size) = xs.take (i * size) ++ xs.drop (j * size) := by rw [put_take (by omega), ht3]
      have o5 := o4.shutRow (n := i + (n - j)) (cap := cap) (size := size) (by omega) h2 (by rw [put_len (by omega), hl3]) (by
        rw [ht4]; exact fun u hu => (List.mem_append.1 hu).elim (fun h => h5 u (List.mem_of_mem_take h)) (fun h => h5 u (List.mem_of_mem_drop h)))
      rw [ht4] at o5
      refine go (h _ _ ?_)
      rw [show n - (j - i) = i + (n - j) by omega]
      exact o5
class ExOv (P : Program) (g tS : Nat) : Prop where
  run : ∃ tR, ∀ (args : Array Value) (w : World), (callFunc g args).run P w = ((Extern.SlicesOverlaps.overlaps #[tS, tS] #[tR] args).run P w).andThen fun v w' => .ok (.value v) w'
theorem ov_dy {g tS e size ga gb la ca lo lb cb : Nat} {ea eb : Nat} {ca' cb' : List Value} {K : Value → St → Prop} (x : ExOv P g tS) (u : TySl P tS e size) (hs : TySize P e size) (o : Hv w0 (box ga ea ca' :: box gb eb cb' :: R) w) (hb : cb'.length ≠ 0) (h : K (.bool false) ⟨w, ds⟩) :
    Dy P (.func (.func g) #[] #[]) #[.slice (some ⟨ga, 0, none⟩) la ca, .slice (some ⟨gb, lo, none⟩) lb cb] K ⟨w, ds⟩ := by
  obtain ⟨i, z, hu, hi, hz, hs', hzs, hpos, hby⟩ := u.info
  have h1 := o.at
  have h2 := (Hv.perm sep_swap o).at
  have hne : ga ≠ gb := by
    rintro rfl
    obtain ⟨S, _, S1, S2, a1, a2, a3, S3, S4, b1, b2, b3, b4⟩ := o.sp
    exact a2 ga ((a3.1 ga).2 rfl) ((b1 ga).2 (.inl ((b3.1 ga).2 rfl)))
  obtain ⟨tR, hx⟩ := x.run
  have hr := Lib.run_overlaps_apart (P := P) w tS tR e hu size hs.run ⟨ga, 0, none⟩ ⟨gb, lo, none⟩ la ca lb cb hne ea eb ca'.length cb'.length (by simp [World.shape?, h1]) (by simp [World.shape?, h2]) hb (by simp [World.frozen?, h1]) (by simp [World.frozen?, h1])
  refine ⟨?_⟩
  have hd : (do let d ← Deferred.ofValue (.func (.func g) #[] #[]) #[.slice (some ⟨ga, 0, none⟩) la ca, .slice (some ⟨gb, lo, none⟩) lb cb]; invoke d.target d.args : Sem Next).run P w = (callFunc g #[.slice (some ⟨ga, 0, none⟩) la ca, .slice (some ⟨gb, lo, none⟩) lb cb]).run P w := by
    simp [Deferred.ofValue, invoke, Sem.run_bind, Sem.run_pure, Result.andThen]
  rw [hd, hx, hr]
  exact h
def insW (P : Program) (tS tI gO gR : Nat) (a0 a1 a2 : Value) (K : Value → World → Prop) (s : St) : Prop :=
  Sl P tS a0 (some a1) none none (fun _ s => Bi P .len #[tS] tI #[false] #[a2] (fun v2 s => Bo P .eql tI false true v2 (.int .i64 0) (fun v3 s => CondP v3 (Ret P (fun w => K a0 w) s) (Bi P .len #[tS] tI #[false] #[a0] (fun v4 s => Bo P .eql tI false false a1 v4 (fun v5 s => CondP v5 (Bi P .append #[tS, tS] tS #[false, false] #[a0, a2] (fun v6 s => Ret P (fun w => K v6 w) s) s) (Bo P .add tI false false v4 v2 (fun v7 s => Bi P .cap #[tS] tI #[false] #[a0] (fun v8 s => Bo P .gtr tI false false v7 v8 (fun v9 s => CondP v9 (Sl P tS a0 none (some a1) none (fun v10 s => Bo P .add tI false false v4 v2 (fun v11 s => Bo P .sub tI false false v11 a1 (fun v12 s => Bi P .append #[tS, tI] tS #[false, false] #[v10, v12] (fun v13 s => Sl P tS v13 (some a1) none none (fun v14 s => Bi P .copy #[tS, tS] tI #[false, false] #[v14, a2] (fun _ s => Dw (fun s => Qt (Bo P .add tI false false a1 v2) s fun v16 => Qt (Sl P tS v13 (some v16) none none) s fun v17 => Qt (Sl P tS a0 (some a1) none none) s fun v18 => Bi P .copy #[tS, tS] tI #[false, false] #[v17, v18] (fun _ s => Ret P (fun w => K v13 w) s) s) s) s) s) s) s) s) s) (Bo P .add tI false false v4 v2 (fun v20 s => Sl P tS a0 none (some v20) none (fun v21 s => Bo P .add tI false false a1 v2 (fun v22 s => Sl P tS v21 (some v22) none none (fun v23 s => Dy P (.func (.func gO) #[] #[]) #[a2, v23] (fun v24 s => Uo P .not v24 (fun v25 s => CondP v25 (Dw (fun s => Qt (Bo P .add tI false false a1 v2) s fun v26 => Qt (Sl P tS v21 (some v26) none none) s fun v27 => Qt (Sl P tS v21 (some a1) none none) s fun v28 => Bi P .copy #[tS, tS] tI #[false, false] #[v27, v28] (fun _ s => Sl P tS v21 (some a1) none none (fun v30 s => Bi P .copy #[tS, tS] tI #[false, false] #[v30, a2] (fun _ s => Ret P (fun w => K v21 w) s) s) s) s) s) (Sl P tS v21 (some v4) none none (fun v32 s => Bi P .copy #[tS, tS] tI #[false, false] #[v32, a2] (fun _ s => Sl P tS v21 (some a1) none none (fun v34 s => Cl P gR #[v34, v2] (fun _ s => Ret P (fun w => K v21 w) s) s) s) s) s)) s) s) s) s) s) s)) s) s) s)) s) s)) s) s) s
theorem insW_ok {tS tI gO gR e size n m i : Nat} {v x : Value} {xs ys : List Value} {K : Value → World → Prop} (u : TySl P tS e size) (hI : TyU P tI (.int .i64)) (hs : TySize P e size) (ex : ExOv P gO tS)
    (o : Hv w0 (row e size v n xs :: row e size x m ys :: R) w) (hi : i ≤ n) (hnm : n + m ≤ 1000000000) (h : ∀ v' w', Hv w0 (row e size v' (n + m) (xs.take (i * size) ++ ys ++ xs.drop (i * size)) :: R) w' → K v' w') :
    insW P tS tI gO gR v (.int .i64 i) x K ⟨w, []⟩ := by
  unfold insW
  have o' := Hv.perm sep_swap o
  have hrd : Rds w v size n xs := inferInstance
  have hrx : Rds w x size m ys := inferInstance
  obtain ⟨b, cap, rfl, _, hnc, _⟩ := hrd.ex
  obtain ⟨bx, cx, rfl, _, hmc, _⟩ := hrx.ex
  have hxl := hrd.len
  have hyl := hrx.len
  have hx1 := hrd.one
  have hy1 := hrx.one
  refine vl_ok (slice_run u hs (boundsL hi)) ?_
  refine go (go (go ⟨fun h1 => ?_, fun h1 => ?_⟩))
  · have e1 : m = 0 := by have := of_decide_eq_true h1; omega
    subst e1
    have : ys = [] := List.eq_nil_of_length_eq_zero (by rw [hyl]; simp)
    subst this
    refine go (h _ _ ?_)
    rw [List.append_nil, List.take_append_drop]
    exact o'.tail
  have hm0 : m ≠ 0 := by simpa using h1
  refine go (go (go ⟨fun h2 => ?_, fun h2 => ?_⟩))
  · have e1 : i = n := by have := of_decide_eq_true h2; omega
    subst e1
    refine go ⟨by omega, fun v' w' o2 => go (h _ _ ?_)⟩
    rw [List.take_of_length_le (by omega), List.drop_of_length_le (by omega), List.append_nil]
    exact o2.drop1
  have hin : i < n := by
    have : (i : Int) ≠ n := by simpa using h2
    omega
  have hisz : i * size ≤ n * size := Nat.mul_le_mul_right _ hi
  have hsub : (n - i) * size = n * size - i * size := Nat.sub_mul _ _ _
  have hdl : (xs.drop (i * size)).length = (n - i) * size := by rw [List.length_drop]; omega
  have hd1 : ∀ u ∈ xs.drop (i * size), u.oneCell' = true := fun u hu => hx1 u (List.mem_of_mem_drop hu)
  have hnm1 : (n + m) * size = i * size + m * size + (n - i) * size := by rw [← Nat.add_mul, ← Nat.add_mul]; congr 1; omega
  have hall : ∀ u ∈ xs.take (i * size) ++ ys ++ xs.drop (i * size), u.oneCell' = true := fun u hu => by
    rcases List.mem_append.1 hu with h | h
    · rcases List.mem_append.1 h with h | h
      · exact hx1 u (List.mem_of_mem_take h)
      · exact hy1 u h
    · exact hd1 u h
  rcases o.openRow with ⟨_, rfl, _⟩ | ⟨g, cap', cur, ev, g1, g2, g3, g4, g5, o2⟩
  · omega
  simp only [Value.slice.injEq] at ev
  obtain ⟨rfl, _, rfl⟩ := ev
  have hcap : n * size ≤ cap * size := Nat.mul_le_mul_right _ hnc
  have o3 := Hv.perm sep_swap o2
  rcases o3.openRow with ⟨_, rfl, _⟩ | ⟨gx, cx', curx, ev, k1, k2, k3, k4, k5, o4⟩
  · exact absurd rfl hm0
  simp only [Value.slice.injEq] at ev
  obtain ⟨rfl, _, rfl⟩ := ev
  have hcx : m * size ≤ cx * size := Nat.mul_le_mul_right _ hmc
  refine go ⟨by unfold InR; omega, ?_⟩
  refine go (go (go ⟨fun h3 => ?_, fun h3 => ?_⟩))
  · -- a new row
    have h3' : cap < n + m := by have : (cap : Int) < (n : Int) + m := by simpa using h3
                                 omega
    refine vl_ok (slice_run u hs (boundsH (by omega))) ?_
    rw [pc_zero]
    refine go ⟨by unfold InR; omega, ?_⟩
    refine go ⟨by unfold InR; omega, ?_⟩
    simp only [Nat.sub_zero]
    rw [show (n : Int) + (m : Int) - (i : Int) = ((n + m - i : Nat) : Int) by omega]
    obtain ⟨inf, z, hu, hi', hz, hs', hzs, hpos, hby⟩ := u.info
    have hfit := growslice_fits (show cap < n + m by omega) (Nat.le_trans (Nat.mul_le_mul (show n + m ≤ 137438953472 by omega) hby) (by decide))
    have hfo : (Builtin.firstCells inf.size i (.slice (some ⟨g, 0, none⟩) i cap)).run P w.drew = .ok (xs.take (i * size)).toArray w.drew := by
      rw [hs']
      refine run_firstCells_some (P := P) w.drew size i _ i cap _ (by rw [List.length_take]; omega) fun j v hv => ?_
      have : ((cur.drop 0).take (i * size))[j]? = some v := by
        rw [List.drop_zero]; rw [← g4, List.take_take, Nat.min_eq_left (by omega)] at hv; exact hv
      exact box_rd (lo := 0) o2 j v this
    have hrun := Lib.run_append_grow_zeros (P := P) w tS tI tS e inf z .i64 .i64 hu hI.eq hi' hz (some ⟨g, 0, none⟩) i cap _ hfo (n + m - i) (by omega) (by omega) (by omega) (by omega) (by have := Nat.mul_le_mul (show n + m - i ≤ 1000000000 by omega) hby; omega) (by rw [show i + (n + m - i) = n + m by omega]; omega)
    rw [show i + (n + m - i) = n + m by omega] at hrun
    refine bi_ok (m := Builtin.append_ #[tS, tI] tS #[.slice (some ⟨g, 0, none⟩) i cap, .int .i64 ((n + m - i : Nat) : Int)]) rfl hrun ?_
    have hge := grownCap_ge w (n + m) cap e
    have hcm : grownCap w (n + m) cap e ≤ maxLen := grownCap_le_maxLen w (n + m) cap e (by simp only [maxLen]; omega)
    generalize hC : grownCap w (n + m) cap e = C at hge hcm
    have hzl : (Builtin.zeroCells z.cells (n + m - i)).size = (n + m - i) * size := by rw [size_zeroCells, hzs]
    have hzl2 : (Builtin.zeroCells z.cells (C - (n + m))).size = (C - (n + m)) * size := by rw [size_zeroCells, hzs]
    obtain ⟨c1, hc1⟩ : ∃ c1 : List Value, c1.toArray = (xs.take (i * size)).toArray ++ Builtin.zeroCells z.cells (n + m - i) ++ Builtin.zeroCells z.cells (C - (n + m)) := ⟨_, Array.toArray_toList⟩
    have hl1 : c1.length = C * size := by
      have := congrArg Array.size hc1
      simp only [List.size_toArray, Array.size_append, hzl, hzl2, List.length_take] at this
      have e1 : (n + m - i) * size = (n + m) * size - i * size := Nat.sub_mul _ _ _
      have e2 : (C - (n + m)) * size = C * size - (n + m) * size := Nat.sub_mul _ _ _
      have e3 : (n + m) * size ≤ C * size := Nat.mul_le_mul_right _ hge
      omega
    have hCs : (n + m) * size ≤ C * size := Nat.mul_le_mul_right _ hge
    have ht1 : c1.take (i * size) = xs.take (i * size) := by
      have e1 : c1 = xs.take (i * size) ++ (Builtin.zeroCells z.cells (n + m - i)).toList ++ (Builtin.zeroCells z.cells (C - (n + m))).toList := by
        have := congrArg Array.toList hc1
        simpa using this
      rw [e1, List.append_assoc, List.take_left' (by rw [List.length_take]; omega)]
    rw [← hc1]
    have oA : Hv w0 (box w.heap.size e c1 :: box gx e curx :: box g e cur :: R) (w.drew.alloc (.cells c1.toArray e)) := o4.drew.box e c1
    refine vl_ok (slice_run u hs (boundsL (by omega))) ?_
    rw [pc_addr (by omega)]
    have hyc : ∀ j v, ys[j]? = some v → (w.drew.alloc (.cells c1.toArray e)).cell? ((⟨gx, 0, none⟩ : Addr).add j) = some v := fun j v hv => by
      have : ((curx.drop 0).take (m * size))[j]? = some v := by rw [List.drop_zero, k4]; exact hv
      exact box_rd (lo := 0) (Hv.perm sep_swap oA) j v this
    refine bi_ok (m := Builtin.copy_ #[tS, tS] tI #[.slice (some ⟨w.heap.size, i * size, none⟩) (n + m - i) (C - i), .slice (some ⟨gx, 0, none⟩) m cx]) rfl (copy_box u oA (show min m (n + m - i) = m by omega) hyl hyc hy1 (by omega)) ?_
    have oB := oA.stored (r := put c1 (i * size) ys)
    refine go fun w2 oC => ?_
    refine go ⟨by unfold InR; omega, ?_⟩
    rw [show (i : Int) + (m : Int) = ((i + m : Nat) : Int) by omega]
    refine qt_run (slice_run u hs (boundsL (by omega))) (qt_run (slice_run u hs (boundsL hi)) ?_)
    rw [pc_addr (show i + m < C by omega), pc_addr (show i < cap by omega)]
    have hdc : ∀ j v, (xs.drop (i * size))[j]? = some v → w2.cell? ((⟨g, i * size, none⟩ : Addr).add j) = some v := fun j v hv => by
      refine box_rd (m := (n - i) * size) (Hv.perm (fun h => sep_swap (sep_cons sep_swap h)) oC) j v ?_
      rw [← g4, List.drop_take, ← hsub] at hv; exact hv
    have him : (i + m) * size = i * size + m * size := Nat.add_mul _ _ _
    refine bi_ok (m := Builtin.copy_ #[tS, tS] tI #[.slice (some ⟨w.heap.size, (i + m) * size, none⟩) (n + m - (i + m)) (C - (i + m)), .slice (some ⟨g, i * size, none⟩) (n - i) (cap - i)]) rfl (copy_box u oC (show min (n - i) (n + m - (i + m)) = n - i by omega) hdl hdc hd1 (by rw [put_len (by omega)]; omega)) ?_
    have oD := oC.stored (r := put (put c1 (i * size) ys) ((i + m) * size) (xs.drop (i * size)))
    have hp1 : (put c1 (i * size) ys).length = C * size := by rw [put_len (by omega), hl1]
    have hfin : (put (put c1 (i * size) ys) ((i + m) * size) (xs.drop (i * size))).take ((n + m) * size) = xs.take (i * size) ++ ys ++ xs.drop (i * size) := by
      have q1 := put_take (cur := put c1 (i * size) ys) (vs := xs.drop (i * size)) (o := (i + m) * size) (by rw [hp1]; omega)
      have q2 := put_drop (cur := put c1 (i * size) ys) (vs := xs.drop (i * size)) (o := (i + m) * size) (by rw [hp1]; omega)
      have q3 : (put c1 (i * size) ys).take ((i + m) * size) = xs.take (i * size) ++ ys := by
        rw [him, List.take_add, put_take (cur := c1) (vs := ys) (o := i * size) (by omega), put_drop (cur := c1) (vs := ys) (o := i * size) (by omega), List.take_left' hyl, ht1]
      rw [hnm1, ← him, List.take_add, q1, q2, q3, List.take_left' hdl]
    have oE := oD.shutRow (n := n + m) (cap := C) (size := size) (by omega) hcm (by rw [put_len (by omega), hp1]) (by rw [hfin]; exact hall)
    rw [hfin] at oE
    exact go (h _ _ (oE.drop1))
  · -- in its place
    have h3' : n + m ≤ cap := by have : ¬ ((cap : Int) < (n : Int) + m) := by simpa using h3
                                 omega
    refine go ⟨by unfold InR; omega, ?_⟩
    rw [show (n : Int) + (m : Int) = ((n + m : Nat) : Int) by omega]
    refine vl_ok (slice_run u hs (boundsH (by omega))) ?_
    rw [pc_zero]
    refine go ⟨by unfold InR; omega, ?_⟩
    rw [show (i : Int) + (m : Int) = ((i + m : Nat) : Int) by omega]
    simp only [Nat.sub_zero]
    refine vl_ok (slice_run u hs (boundsL (by omega))) ?_
    rw [pc_addr (by omega)]
    have hpos : 0 < size := by obtain ⟨_, _, _, _, _, _, _, hpos, _⟩ := u.info; exact hpos
    have hcs : (n + m) * size ≤ cap * size := Nat.mul_le_mul_right _ h3'
    have hc0 : 0 < cap * size := Nat.mul_pos (by omega) hpos
    refine ov_dy ex u hs o4 (by omega) ?_
    refine go (go ⟨fun _ => ?_, fun e => by simp at e⟩)
    clear o o' o2 o3
    refine go fun w2 oC => ?_
    have oC' := Hv.perm sep_swap oC
    refine go ⟨by unfold InR; omega, ?_⟩
    rw [show (i : Int) + (m : Int) = ((i + m : Nat) : Int) by omega]
    refine qt_run (slice_run u hs (boundsL (by omega))) (qt_run (slice_run u hs (boundsL (by omega))) ?_)
    rw [pc_addr (show i + m < cap by omega), pc_addr (show i < cap by omega)]
    have him : (i + m) * size = i * size + m * size := Nat.add_mul _ _ _
    have hdc : ∀ j v, (xs.drop (i * size))[j]? = some v → w2.cell? ((⟨g, i * size, none⟩ : Addr).add j) = some v := fun j v hv => by
      refine box_rd (m := (n - i) * size) oC' j v ?_
      rw [← g4, List.drop_take, ← hsub] at hv; exact hv
    refine bi_ok (m := Builtin.copy_ #[tS, tS] tI #[.slice (some ⟨g, (i + m) * size, none⟩) (n + m - (i + m)) (cap - (i + m)), .slice (some ⟨g, i * size, none⟩) (n + m - i) (cap - i)]) rfl (copy_box u oC' (show min (n + m - i) (n + m - (i + m)) = n - i by omega) hdl hdc hd1 (by omega)) ?_
    have oD := oC'.stored (r := put cur ((i + m) * size) (xs.drop (i * size)))
    refine vl_ok (slice_run u hs (boundsL (by omega))) ?_
    rw [pc_addr (show i < cap by omega)]
    have hyc := fun (j : Nat) (v : Value) (hv : ys[j]? = some v) => box_rd (lo := 0) (m := m * size) (Hv.perm sep_swap oD) j v (by rw [List.drop_zero, k4]; exact hv)
    have hp1 : (put cur ((i + m) * size) (xs.drop (i * size))).length = cap * size := by rw [put_len (by omega), g3]
    refine bi_ok (m := Builtin.copy_ #[tS, tS] tI #[.slice (some ⟨g, i * size, none⟩) (n + m - i) (cap - i), .slice (some ⟨gx, 0, none⟩) m cx]) rfl (copy_box u oD (show min m (n + m - i) = m by omega) hyl hyc hy1 (by omega)) ?_
    have oE := oD.stored (r := put (put cur ((i + m) * size) (xs.drop (i * size))) (i * size) ys)
    have hfin : (put (put cur ((i + m) * size) (xs.drop (i * size))) (i * size) ys).take ((n + m) * size) = xs.take (i * size) ++ ys ++ xs.drop (i * size) := by
      have e1 : (put cur ((i + m) * size) (xs.drop (i * size))).take (i * size) = xs.take (i * size) := by
        have := put_take (cur := cur) (vs := xs.drop (i * size)) (o := (i + m) * size) (by omega)
        have e2 := congrArg (List.take (i * size)) this
        rw [List.take_take, List.take_take, Nat.min_eq_left (by omega)] at e2
        rw [e2, ← g4, List.take_take, Nat.min_eq_left (by omega)]
      have q1 := put_take (cur := put cur ((i + m) * size) (xs.drop (i * size))) (vs := ys) (o := i * size) (by rw [hp1]; omega)
      have q2 := put_drop (cur := put cur ((i + m) * size) (xs.drop (i * size))) (vs := ys) (o := i * size) (by rw [hp1]; omega)
      have q3 := put_rest (cur := put cur ((i + m) * size) (xs.drop (i * size))) (vs := ys) (o := i * size) (k := i * size + m * size) (by rw [hp1]; omega) (by omega)
      have q4 := put_drop (cur := cur) (vs := xs.drop (i * size)) (o := (i + m) * size) (by omega)
      rw [hnm1, List.take_add, List.take_add, q1, q2, List.take_left' hyl, q3, ← him, q4, List.take_left' hdl, e1]
    have oF := oE.shutRow (n := n + m) (cap := cap) (size := size) (by omega) g2 (by rw [put_len (by omega), hp1]) (by rw [hfin]; exact hall)
    rw [hfin] at oF
    exact go (h _ _ (oF.drop1))
def bsfW (P : Program) (tS tE tT tI tU : Nat) (a0 a1 a2 : Value) (K : Value → World → Prop) (s : St) : Prop :=
  Bx P tT a1 (fun v1 s => Bi P .len #[tS] tI #[false] #[a0] (fun v2 s => L2 (.int .i64 0) v2 s (fun N3 x4 x5 s => Bo P .lss tI false false x4 x5 (fun v6 s => CondP v6 (Bo P .add tI false false x4 x5 (fun v7 s => Cv P tI tU v7 (fun v8 s => Bo P .shr tU false true v8 (.int .u64 1) (fun v9 s => Cv P tU tI v9 (fun v10 s => Dw (fun s => Qt (Ia P tS a0 v10) s fun v11 => Qt (Ld P tE v11) s fun v12 => Qt (Ld P tT v1) s fun v13 => Dy P a2 #[v12, v13] (fun v14 s => Qt (Bo P .lss tI false true v14 (.int .i64 0)) s fun v15 => CondP v15 (Bo P .add tI false true v10 (.int .i64 1) (fun v16 s => N3 v16 x5 s) s) (N3 x4 v10 s)) s) s) s) s) s) s) (J2 (fun A17 => Dw (fun s => Qt (Bo P .lss tI false false x4 v2) s fun v20 => Grd v20 true (Qt (Ia P tS a0 x4) s fun v21 => Qt (Ld P tE v21) s fun v22 => Qt (Ld P tT v1) s fun v23 => Dy P a2 #[v22, v23] (fun v24 s => Qt (Bo P .eql tI false true v24 (.int .i64 0)) s fun v25 => Qt (Pk P v20 v25 (.bool false)) s fun v26 => A17 x4 v26 s) s) (Qt (Pk P v20 undef (.bool false)) s fun v27 => A17 x4 v27 s)) s) (fun x18 x19 s => Ret P (fun w => K (.tuple #[x18, x19]) w) s))) s)) s) s
theorem half_wrap {a : Int} (h0 : 0 ≤ a) (h1 : a ≤ 9223372036854775807) : IntKind.i64.wrap (IntKind.u64.wrap a / 2) = a / 2 := by
  rw [IntKind.wrap_u64, IntKind.wrap_i64]; omega
instance {t : TypeId} {cx cy : Bool} {a : Int} : VT (Bo P .shr t cx cy (.int .u64 a) (.int .u64 1)) w (.int .u64 (a / 2)) := VT.of (by
  rw [bo_int, binOp_shr, shift_shr .u64 .u64 a 1 (by omega) (by decide)]; rfl)
theorem bsfW_ok {tS tE tT tI tU e size n : Nat} {v tv fv : Value} {xs tcs : List Value} {el : Nat → Value} {c : Nat → Int} {K : Value → World → Prop} (u : TySl P tS e size) (hI : TyU P tI (.int .i64)) (hU : TyU P tU (.int .u64)) (o : Hv w0 H w) (rd : RdsF w0 H v size n xs) (ct : Cells w tv tcs)
    (hT : ∀ (b : Nat) (w' : World), Hv w0 (box b tT tcs :: H) w' → VT (Ld P tT (.pointer (some ⟨b, 0, none⟩))) w' tv)
    (hE : ∀ (i : Nat) (a : Addr) (w' : World), i < n → Rds w' v size n xs → IxA v i size a → VT (Ld P tE (.pointer (some a))) w' (el i))
    (hc : ∀ (i : Nat) (F : List SL) (w' : World) (K' : Value → St → Prop), i < n → Hv w0 F w' → (∀ w'', Hv w0 F w'' → K' (.int .i64 (c i)) ⟨w'', []⟩) → Dy P fv #[el i, tv] K' ⟨w', []⟩)
    (mono : ∀ i j, i ≤ j → j < n → c j < 0 → c i < 0) (hn : n ≤ 1000000000)
    (h : ∀ i w', i ≤ n → (∀ k, k < i → c k < 0) → (∀ k, i ≤ k → k < n → 0 ≤ c k) → Hv w0 H w' → K (.tuple #[.int .i64 i, .bool (decide (i < n) && decide (c i = 0))]) w') :
    bsfW P tS tE tT tI tU v tv fv K ⟨w, []⟩ := by
  unfold bsfW
  refine go fun b w1 o1 => ?_
  have r1 := rd.rd w1 o1.tail
  refine go ?_
  refine ⟨fun x y s => ∃ (i j : Nat) (w' : World), x = .int .i64 i ∧ y = .int .i64 j ∧ s = ⟨w', []⟩ ∧ i ≤ j ∧ j ≤ n ∧ (∀ k, k < i → c k < 0) ∧ (∀ k, j ≤ k → k < n → 0 ≤ c k) ∧ Hv w0 (box b tT tcs :: H) w',
    fun x y s => match x, y with | .int _ a, .int _ b => (b - a).toNat | _, _ => 0, ⟨0, n, w1, rfl, rfl, rfl, Nat.zero_le _, Nat.le_refl _, fun k hk => by omega, fun k h1 h2 => by omega, o1⟩, ?_⟩
  rintro x y s ⟨i, j, w2, rfl, rfl, rfl, hij, hjn, hlo, hhi, o2⟩
  refine go (go ⟨fun h1 => ?_, fun h1 => ?_⟩)
  · have hlt : i < j := by have := of_decide_eq_true h1; omega
    refine go ⟨by unfold InR; omega, ?_⟩
    refine go (go (go ?_))
    rw [half_wrap (by omega) (by omega)]
    refine go fun w3 o3 => ?_
    have r3 := rd.rd w3 o3.tail
    have em : ((i : Int) + (j : Int)) / 2 = (((i + j) / 2 : Nat) : Int) := by omega
    rw [em]
    generalize hm : (i + j) / 2 = m
    refine go ⟨⟨by omega, by omega⟩, fun a ha => ?_⟩
    have l1 := hE m a w3 (by omega) r3 ha
    have l2 := hT b w3 o3
    refine go (go ?_)
    refine hc m _ w3 _ (by omega) o3 fun w4 o4 => ?_
    refine go (go ⟨fun h2 => ?_, fun h2 => ?_⟩)
    · have h2' := of_decide_eq_true h2
      refine go ⟨by unfold InR; omega, ?_⟩
      refine ⟨⟨m + 1, j, w4, by simp, rfl, rfl, by omega, hjn, fun k hk => ?_, hhi, o4⟩, by simp; omega⟩
      exact mono k m (by omega) (by omega) h2'
    · have h2' := of_decide_eq_false h2
      refine ⟨⟨i, m, w4, rfl, rfl, rfl, by omega, by omega, hlo, fun k h3 h4 => ?_, o4⟩, by simp; omega⟩
      rcases Nat.lt_or_ge k m with h5 | h5
      · omega
      · have := mono m k h5 h4
        omega
  · have e1 : i = j := by have := of_decide_eq_false h1; omega
    subst e1
    refine go (go fun w3 o3 => ?_)
    have r3 := rd.rd w3 o3.tail
    refine go (go ⟨fun h2 => ?_, fun h2 => ?_⟩)
    · have hlt : i < n := by have := of_decide_eq_true h2; omega
      refine go ⟨⟨by omega, by omega⟩, fun a ha => ?_⟩
      have l1 := hE i a w3 hlt r3 ha
      have l2 := hT b w3 o3
      refine go (go ?_)
      refine hc i _ w3 _ hlt o3 fun w4 o4 => ?_
      refine go (go (go ?_))
      refine cast ?_ (h i w4 hjn hlo hhi o4.tail)
      congr 4
      simp [hlt]
    · have hge : n ≤ i := by have := of_decide_eq_false h2; omega
      refine go (go ?_)
      refine cast ?_ (h i w3 hjn hlo hhi o3.tail)
      congr 4
      simp [Nat.not_lt.2 hge]
end
end Go.Vx

namespace Go.Vx
open Go.RowKit
theorem cl_st {P : Program} {bd : Nat} (hB : Bodies P bd) {g : FuncId} {fn : Func} (hf : P.funcs[g]? = some fn) (n : Nat) (rs : List ResultVar) {args : List Value} {w : World} {ds : List Deferred} {K : Value → St → Prop} {D : (Value → World → Prop) → St → Prop}
    (h : D (fun v w' => K v ⟨w', ds⟩) ⟨w, []⟩) (h1 : (fn.ntmps, fn.results.toList, fn.body) = (n, rs, some (fn.body.getD .skip)) := by kernel_rfl) (hn : Nat.ble args.length n = true := by rfl)
    (he : ∀ K, wpc P bd n none (fn.body.getD .skip) (lmOf rs) (ktOf P n rs K) (frOf args) = D K := by intro K; kernel_rfl) : Cl P g args.toArray K ⟨w, ds⟩ :=
  cl_ok (calls_of hB hf n rs (D := D _) (K := fun v w' => K v ⟨w', ds⟩) h1 hn (he _) h fun v w' h => ⟨v, rfl, h⟩)
theorem law_of {P : Program} {g : FuncId} {args : Array Value} {w : World} (h : Cl P g args (fun v s => v = .bool true ∧ Hv w [] s.w) ⟨w, []⟩) : Calls P g args w fun e w' => e = .returned (.bool true) ∧ Hv w [] w' :=
  h.out.mono fun e w' ⟨v, h1, h2, h3⟩ => ⟨by rw [h1, h2], h3⟩
class InsF (P : Program) (g : Nat) (tS : outParam Nat) : Prop where
  run : ∃ tI gO gR, TyU P tI (.int .i64) ∧ ExOv P gO tS ∧ ∀ (v i x : Value) (K : Value → St → Prop) (w : World) (ds : List Deferred), insW P tS tI gO gR v i x (fun v w' => K v ⟨w', ds⟩) ⟨w, []⟩ → Cl P g #[v, i, x] K ⟨w, ds⟩
class DelF (P : Program) (g : Nat) (tS : outParam Nat) : Prop where
  run : ∃ tI, ∀ (v i j : Value) (K : Value → St → Prop) (w : World) (ds : List Deferred), delW P tS tI v i j (fun v w' => K v ⟨w', ds⟩) ⟨w, []⟩ → Cl P g #[v, i, j] K ⟨w, ds⟩
class BsfF (P : Program) (g : Nat) (tS tE tT : outParam Nat) : Prop where
  run : ∃ tI tU, TyU P tI (.int .i64) ∧ TyU P tU (.int .u64) ∧ ∀ (v x f : Value) (K : Value → St → Prop) (w : World) (ds : List Deferred), bsfW P tS tE tT tI tU v x f (fun v w' => K v ⟨w', ds⟩) ⟨w, []⟩ → Cl P g #[v, x, f] K ⟨w, ds⟩
class Maps {α : Type} (f : α → Value) (xs : List Value) (l : outParam (List α)) : Prop where eq : xs = l.map f
instance {α : Type} {f : α → Value} : Maps f [] [] := ⟨rfl⟩
instance {α : Type} {f : α → Value} {x : α} {xs : List Value} {l : List α} [h : Maps f xs l] : Maps f (f x :: xs) (x :: l) := ⟨by rw [h.eq]; rfl⟩
instance (priority := 1100) {i : Nat} : ToN ((i : Int) + 1) (i + 1) := ⟨fun _ => by omega⟩
section
variable {P : Program} {w w0 : World} {H R R' : List SL} {ds : List Deferred} {K : Value → St → Prop}
instance {α : Type} {g tS e size n m i : Nat} {zi : Int} {v x : Value} {xs ys : List Value} {enc : α → List Value} {l k : List α} [f : InsF P g tS] [u : TySl P tS e size] [ts : TySize P e size] [en : EncTy e α enc size] [o : Hv w0 H w] [r : RowIn H v e size n xs R] [r2 : RowIn R x e size m ys R'] [e1 : Encs enc xs l] [e2 : Encs enc ys k] [zn : ToN zi i] :
    Step (Cl P g #[v, .int .i64 zi, x] K ⟨w, ds⟩) ((0 ≤ zi ∧ zi ≤ n ∧ n + m ≤ 1000000000) ∧ ∀ v' w', Hv w0 (row e size v' (n + m) ((l.take i ++ k ++ l.drop i).flatMap enc) :: R') w' → K v' ⟨w', ds⟩) := ⟨fun ⟨⟨h1, h2, h3⟩, h⟩ => by
  obtain ⟨tI, gO, gR, a1, a2, a3⟩ := f.run
  have hz := zn.eq h1
  obtain rfl : zi = (i : Int) := by omega
  refine a3 _ _ _ _ _ _ (insW_ok u a1 ts a2 (Hv.perm (sep_cons r2.perm) (Hv.perm r.perm o)) (by omega) h3 fun v' w' o' => h _ _ ?_)
  rw [e1.eq, e2.eq, flat_take en.eq, flat_drop en.eq, ← List.flatMap_append, ← List.flatMap_append] at o'
  exact o'⟩
instance {α : Type} {g tS e size n i j : Nat} {zi zj : Int} {v : Value} {xs zs : List Value} {enc : α → List Value} {l : List α} [f : DelF P g tS] [u : TySl P tS e size] [ts : TySize P e size] [tz : TyZ P e zs] [oz : Ones w zs] [en : EncTy e α enc size] [o : Hv w0 H w] [r : RowIn H v e size n xs R] [e1 : Encs enc xs l] [zn : ToN zi i] [zm : ToN zj j] :
    Step (Cl P g #[v, .int .i64 zi, .int .i64 zj] K ⟨w, ds⟩) ((0 ≤ zi ∧ zi ≤ zj ∧ zj ≤ n) ∧ ∀ v' w', Hv w0 (row e size v' (n - (j - i)) ((l.take i ++ l.drop j).flatMap enc) :: R) w' → K v' ⟨w', ds⟩) := ⟨fun ⟨⟨h1, h2, h3⟩, h⟩ => by
  obtain ⟨tI, a3⟩ := f.run
  have hz := zn.eq h1
  have hj := zm.eq (by omega)
  obtain rfl : zi = (i : Int) := by omega
  obtain rfl : zj = (j : Int) := by omega
  refine a3 _ _ _ _ _ _ (delW_ok u ts tz oz.eq (Hv.perm r.perm o) (by omega) (by omega) fun v' w' o' => h _ _ ?_)
  rw [e1.eq, flat_take en.eq, flat_drop en.eq, ← List.flatMap_append] at o'
  exact o'⟩
end
def cloW (P : Program) (tS : Nat) (a0 : Value) (K : Value → World → Prop) (s : St) : Prop :=
  Bo P .eql tS false true a0 (.slice none 0 0) (fun v1 s => CondP v1 (Ret P (fun w => K (.slice none 0 0) w) s) (Bs P tS 0 #[] (fun v2 s => Bi P .append #[tS, tS] tS #[false, false] #[v2, a0] (fun v3 s => Ret P (fun w => K v3 w) s) s) s)) s
class CloF (P : Program) (g : Nat) (tS : outParam Nat) : Prop where
  run : ∀ (v : Value) (K : Value → St → Prop) (w : World) (ds : List Deferred), cloW P tS v (fun v w' => K v ⟨w', ds⟩) ⟨w, []⟩ → Cl P g #[v] K ⟨w, ds⟩
section
variable {P : Program} {w w0 : World} {H R : List SL} {ds : List Deferred} {K : Value → St → Prop}
instance {g tS e size n : Nat} {v : Value} {xs : List Value} [f : CloF P g tS] [u : TySl P tS e size] [o : Hv w0 H w] [rd : RdsF w0 H v size n xs] : Step (Cl P g #[v] K ⟨w, ds⟩) (n ≤ 1000000000 ∧ ∀ v' w', Hv w0 (row e size v' n xs :: H) w' → K v' ⟨w', ds⟩) := ⟨fun ⟨hn, h⟩ => by
  refine f.run _ _ _ _ ?_
  unfold cloW
  have r := rd.rd w o
  obtain ⟨b, cap, rfl, h0, hnc, hx⟩ := r.ex
  obtain ⟨i, z, hu, _⟩ := u.info
  have he : VT (Bo P .eql tS false true (.slice b n cap) (.slice none 0 0)) w (.bool b.isNone) := VT.of (Lib.run_eql_slice_nil w tS _ b n cap 0 0 hu)
  refine go (go ⟨fun h1 => ?_, fun h1 => ?_⟩)
  · have hb : b = none := by cases b <;> simp_all
    subst hb
    have hc := h0 rfl
    obtain rfl : n = 0 := by omega
    have : xs = [] := List.eq_nil_of_length_eq_zero (by rw [r.len]; simp)
    subst this
    exact go (h _ _ (Hv.nilRow e size o))
  · refine go ?_
    intro v2 w2 o2
    have r2 := rd.rd w2 o2.tail
    refine go ⟨by omega, fun v3 w3 o3 => go (h _ _ ?_)⟩
    simpa using o3⟩
end
section
variable {P : Program} {w : World} {ds : List Deferred} {K : Value → St → Prop} {g : Nat} {args : Array Value}
instance (priority := 20000) Step.dy0 [b : BodyOf P g] : Step (Dy P (.func (.func g) #[] #[]) args K ⟨w, ds⟩) (Cl P g args K ⟨w, ds⟩) := ⟨fun h => dy_clo b.ok (by simpa using h)⟩
end
theorem Sub.any {α : Type} {A : α → SL} {H G : List SL} (x : α) (h : Sub H (A x :: G)) : Sub H (any A :: G) := ⟨fun hs =>
  let ⟨S', a, S1, S2, h1, h2, h3, h4⟩ := h.sub hs
  ⟨S', a, S1, S2, h1, h2, ⟨x, h3⟩, h4⟩⟩
theorem Sub.many {L H G : List SL} (h : Sub H (L ++ G)) : Sub H (many L :: G) := ⟨fun hs =>
  let ⟨S', a, b⟩ := h.sub hs
  ⟨S', a, sep_app.1 b⟩⟩
theorem Sub.lift {φ : Prop} {H G : List SL} (p : φ) (h : Sub H G) : Sub H (Vx.lift φ :: G) := ⟨fun hs =>
  let ⟨S', a, b⟩ := h.sub hs
  ⟨S', a, emp, S', fun b => ⟨.inr, fun h => h.elim (fun h => h.elim) id⟩, fun b h => h.elim, ⟨fun k h => h, p⟩, b⟩⟩
instance (priority := 20000) {R G : List SL} [d : DropTo R G] : DropTo R (List.append [] G) := ⟨d.sub⟩
instance (priority := 20000) {R G : List SL} [d : DropTo R G] : DropTo R ([] ++ G) := ⟨d.sub⟩
theorem Sub.rest {H T R : List SL} (h : Sub H (T ++ R)) : Sub H (Vx.many R :: T) := ⟨fun hs =>
  let ⟨S', a, b⟩ := h.sub hs
  let ⟨S1, S2, h1, h2, h3, h4⟩ := sep_app.1 b
  ⟨S', a, S2, S1, fun b => (h1 b).trans or_comm, fun b x y => h2 b y x, h4, h3⟩⟩
theorem Sub.unrest {H R : List SL} {A : SL} (h : Sub H [A, Vx.many R]) : Sub H (A :: R) := ⟨fun hs =>
  let ⟨S', a, b⟩ := h.sub hs
  ⟨S', a, sep_cons (fun {S w} h => by
    have := sep_many.1 h
    rwa [List.append_nil] at this) b⟩⟩
section
variable {α : Type} [DecidableEq α]
theorem getA_cons (p : α × Value) (es : List (α × Value)) (k : α) : getA (p :: es) k = if p.1 = k then some p.2 else getA es k := by
  unfold getA; rw [List.find?_cons]; by_cases h : p.1 = k <;> simp [h]
theorem putA_cons (p : α × Value) (es : List (α × Value)) (k : α) (v : Value) : putA (p :: es) k v = if p.1 = k then (k, v) :: es else p :: putA es k v := by
  unfold putA; rw [List.findIdx?_cons]
  by_cases h : p.1 = k
  · simp [h]
  · simp only [h, decide_false, Bool.false_eq_true, if_false]
    cases es.findIdx? fun p => decide (p.1 = k) <;> simp
theorem delA_cons (p : α × Value) (es : List (α × Value)) (k : α) : delA (p :: es) k = if p.1 = k then es else p :: delA es k := by
  unfold delA; rw [List.findIdx?_cons]
  by_cases h : p.1 = k
  · simp [h]
  · simp only [h, decide_false, Bool.false_eq_true, if_false]
    cases es.findIdx? fun p => decide (p.1 = k) <;> simp
theorem putA_nil (k : α) (v : Value) : putA [] k v = [(k, v)] := rfl
theorem delA_nil (k : α) : delA ([] : List (α × Value)) k = [] := rfl
theorem getA_put (es : List (α × Value)) (k k' : α) (v : Value) : getA (putA es k v) k' = if k' = k then some v else getA es k' := by
  induction es with
  | nil => rw [putA_nil, getA_cons]; by_cases h : k = k' <;> simp [h, eq_comm]
  | cons p es ih =>
    rw [putA_cons]
    by_cases h : p.1 = k
    · rw [if_pos h, getA_cons, getA_cons]
      by_cases h2 : k = k'
      · simp [h2]
      · have h3 : ¬ k' = k := fun e => h2 e.symm
        have h4 : ¬ p.1 = k' := fun e => h2 (h ▸ e)
        simp [h2, h3, h4]
    · rw [if_neg h, getA_cons, getA_cons, ih]
      by_cases h2 : p.1 = k'
      · have h3 : ¬ k' = k := fun e => h (h2.trans e)
        simp [h2, h3]
      · simp [h2]
theorem mem_put (es : List (α × Value)) (k : α) (v : Value) (x : α) : x ∈ (putA es k v).map (·.1) ↔ x = k ∨ x ∈ es.map (·.1) := by
  induction es with
  | nil => simp [putA_nil]
  | cons p es ih =>
    rw [putA_cons]
    by_cases h : p.1 = k
    · rw [if_pos h]; simp [h]
    · rw [if_neg h, List.map_cons, List.mem_cons, ih, List.map_cons, List.mem_cons]; exact or_left_comm
theorem nodup_put {es : List (α × Value)} (hn : (es.map (·.1)).Nodup) (k : α) (v : Value) : ((putA es k v).map (·.1)).Nodup := by
  induction es with
  | nil => simp [putA_nil]
  | cons p es ih =>
    rw [List.map_cons, List.nodup_cons] at hn
    rw [putA_cons]
    by_cases h : p.1 = k
    · rw [if_pos h, List.map_cons, List.nodup_cons]; exact ⟨by rw [← h]; exact hn.1, hn.2⟩
    · rw [if_neg h, List.map_cons, List.nodup_cons, mem_put]; exact ⟨fun e => e.elim h hn.1, ih hn.2⟩
theorem getA_none {es : List (α × Value)} {k : α} (h : k ∉ es.map (·.1)) : getA es k = none := by
  induction es with
  | nil => rfl
  | cons p es ih =>
    rw [List.map_cons, List.mem_cons, not_or] at h
    rw [getA_cons, if_neg (fun e => h.1 e.symm), ih h.2]
theorem getA_del {es : List (α × Value)} (hn : (es.map (·.1)).Nodup) (k k' : α) : getA (delA es k) k' = if k' = k then none else getA es k' := by
  induction es with
  | nil => rw [delA_nil]; simp [getA]
  | cons p es ih =>
    rw [List.map_cons, List.nodup_cons] at hn
    rw [delA_cons]
    by_cases h : p.1 = k
    · rw [if_pos h, getA_cons]
      by_cases h2 : k' = k
      · rw [if_pos h2, h2, getA_none (by rw [← h]; exact hn.1)]
      · rw [if_neg h2, if_neg (fun e => h2 (by rw [← e, h]))]
    · rw [if_neg h, getA_cons, getA_cons, ih hn.2]
      by_cases h2 : p.1 = k'
      · have h3 : ¬ k' = k := fun e => h (h2.trans e)
        simp [h2, h3]
      · simp [h2]
theorem mem_del {es : List (α × Value)} {k x : α} (h : x ∈ (delA es k).map (·.1)) : x ∈ es.map (·.1) := by
  induction es with
  | nil => exact h
  | cons p es ih =>
    rw [delA_cons] at h
    by_cases e : p.1 = k
    · rw [if_pos e] at h; exact List.mem_cons_of_mem _ h
    · rw [if_neg e, List.map_cons, List.mem_cons] at h
      rw [List.map_cons, List.mem_cons]; exact h.imp id ih
theorem nodup_del {es : List (α × Value)} (hn : (es.map (·.1)).Nodup) (k : α) : ((delA es k).map (·.1)).Nodup := by
  induction es with
  | nil => exact hn
  | cons p es ih =>
    rw [List.map_cons, List.nodup_cons] at hn
    rw [delA_cons]
    by_cases e : p.1 = k
    · rw [if_pos e]; exact hn.2
    · rw [if_neg e, List.map_cons, List.nodup_cons]; exact ⟨fun h => hn.1 (mem_del h), ih hn.2⟩
def updF {β : Type} (g : α → Option β) (k : α) (v : Option β) : α → Option β := fun x => if x = k then v else g x
theorem updF_at {β : Type} (g : α → Option β) (k : α) (v : Option β) : updF g k v k = v := by simp [updF]
theorem updF_ne {β : Type} (g : α → Option β) {k x : α} (h : x ≠ k) (v : Option β) : updF g k v x = g x := by simp [updF, h]
def mpfA (b : Nat) (f : α → Value) (g : α → Option Value) (es : List (α × Value)) : SL := many [lift ((es.map (·.1)).Nodup ∧ ∀ k, getA es k = g k), mpk b f es]
def mpf (b : Nat) (f : α → Value) (g : α → Option Value) : SL := any (mpfA b f g)
theorem Hv.mpfOpen {w0 w : World} {R : List SL} {b : Nat} {f : α → Value} {g : α → Option Value} (h : Hv w0 (mpf b f g :: R) w) : ∃ es, ((es.map (·.1)).Nodup ∧ ∀ k, getA es k = g k) ∧ Hv w0 (mpk b f es :: R) w := by
  obtain ⟨es, h1⟩ := h.pick
  have h2 := h1.opens
  exact ⟨es, h2.lifted, h2.tail⟩
theorem Hv.mpfShut {w0 w : World} {R : List SL} {b : Nat} {f : α → Value} {g : α → Option Value} {es : List (α × Value)} (hn : (es.map (·.1)).Nodup) (hg : ∀ k, getA es k = g k) (h : Hv w0 (mpk b f es :: R) w) : Hv w0 (mpf b f g :: R) w :=
  Hv.give (A := mpfA b f g) es (Hv.closes (H := [_, _]) (h.lift ⟨hn, hg⟩))
class MpfIn {α : Type} [DecidableEq α] (H : List SL) (b : Nat) (f : α → Value) (g : outParam (α → Option Value)) (R : outParam (List SL)) : Prop where perm : ∀ {S w}, sep H S w → sep (mpf b f g :: R) S w
instance (priority := high) {b : Nat} {f : α → Value} {g : α → Option Value} {H : List SL} : MpfIn (mpf b f g :: H) b f g H := ⟨id⟩
instance (priority := high) {b : Nat} {f : α → Value} {H : List SL} : MpfIn (mp0 b :: H) b f (fun _ => none) H := ⟨fun {S w} ⟨S1, S2, h1, h2, h3, h4⟩ =>
  ⟨S1, S2, h1, h2, ⟨[], emp, S1, fun b => ⟨.inr, fun h => h.elim (fun h => h.elim) id⟩, fun b h => h.elim, ⟨fun k h => h, List.nodup_nil, fun k => rfl⟩, S1, emp, fun b => ⟨.inl, fun h => h.elim id fun h => h.elim⟩, fun b _ h => h, mp0_as b f h3, fun b h => h⟩, h4⟩⟩
instance {A : SL} {b : Nat} {f : α → Value} {g : α → Option Value} {H R : List SL} [h : MpfIn H b f g R] : MpfIn (A :: H) b f g (A :: R) := ⟨fun x => sep_swap (sep_cons h.perm x)⟩
theorem subMpf {H' R G : List SL} {b : Nat} {f : α → Value} {g g' : α → Option Value} [r : MpfIn H' b f g R] (h : g = g') (k : Sub R G) : Sub H' (mpf b f g' :: G) := ⟨fun h' => by
  subst h; exact (Sub.cons k).sub (r.perm h')⟩
section
variable {P : Program} {w w0 : World} {H R : List SL} {d : TypeDesc} {f : α → Value} {g : α → Option Value}
theorem mpf_put {t b kt e : Nat} {k : α} {x : Value} (u : TyMap P t kt e d) (kf : KeyF d f) (o : Hv w0 (mpf b f g :: R) w) : ∃ w', (Instr.mapUpdate t (.map (some b)) (f k) x).run P w = .ok () w' ∧ Hv w0 (mpf b f (updF g k (some x)) :: R) w' := by
  obtain ⟨es, ⟨h1, h2⟩, o1⟩ := o.mpfOpen
  obtain ⟨w', h3, h4⟩ := map_put (P := P) (t := t) (k := k) (x := x) o1
  exact ⟨w', h3, Hv.mpfShut (nodup_put h1 k x) (fun k' => by rw [getA_put, h2]; rfl) h4⟩
theorem mpf_get {t b kt e : Nat} {k : α} {z : Value} {ok : Bool} (u : TyMap P t kt e d) (kf : KeyF d f) (zz : TyZV P e z) (o : Hv w0 (mpf b f g :: R) w) :
    (Instr.lookup t (.map (some b)) (f k) ok).run P w = .ok (if ok then .tuple #[orZ (g k) z, .bool (g k).isSome] else orZ (g k) z) w := by
  obtain ⟨es, ⟨h1, h2⟩, o1⟩ := o.mpfOpen
  rw [map_get u kf (zz.run w) o1, h2]
theorem mpf_del {t b kt e ty : Nat} {ts : List Nat} {k : α} (u : TyMap P t kt e d) (kf : KeyF d f) (o : Hv w0 (mpf b f g :: R) w) : ∃ w', (Builtin.delete_ (t :: ts).toArray ty #[.map (some b), f k]).run P w = .ok (.tuple #[]) w' ∧ Hv w0 (mpf b f (updF g k none) :: R) w' := by
  obtain ⟨es, ⟨h1, h2⟩, o1⟩ := o.mpfOpen
  obtain ⟨w', h3, h4⟩ := map_del (P := P) (t := t) (k := k) (ty := ty) (ts := ts) o1
  exact ⟨w', h3, Hv.mpfShut (nodup_del h1 k) (fun k' => by rw [getA_del h1, h2]; rfl) h4⟩
end
end
section
variable {P : Program} {w w0 : World} {H R : List SL} {ds : List Deferred} {d : TypeDesc} {K : Value → St → Prop} {t b kt e : Nat} {x z : Value}
instance (priority := 900) {k : Int} {g : Int → Option Value} [o : Hv w0 H w] [m : MpfIn H b intV g R] [u : TyMap P t kt e d] [kf : KeyF d intV] : Step (Mu P t (.map (some b)) (.int .i64 k) x K ⟨w, ds⟩) (∀ w', Hv w0 (mpf b intV (updF g k (some x)) :: R) w' → K undef ⟨w', ds⟩) := ⟨fun h => by
  obtain ⟨w', h1, h2⟩ := mpf_put (k := k) (x := x) u kf (Hv.perm m.perm o)
  exact ut_ok h1 (h _ h2)⟩
instance (priority := 900) {k : Int} {g : Int → Option Value} [o : Hv w0 H w] [m : MpfIn H b intV g R] [u : TyMap P t kt e d] [kf : KeyF d intV] [zz : TyZV P e z] : VT (Lk P t (.map (some b)) (.int .i64 k) true) w (.tuple #[orZ (g k) z, .bool (g k).isSome]) := VT.of (by
  rw [mpf_get (f := intV) u kf zz (Hv.perm m.perm o)]; rfl)
instance {k : Int} {g : Int → Option Value} {t2 ty : Nat} {cs : Array Bool} [o : Hv w0 H w] [m : MpfIn H b intV g R] [u : TyMap P t kt e d] [kf : KeyF d intV] : Step (Bi P .delete #[t, t2] ty cs #[.map (some b), .int .i64 k] K ⟨w, ds⟩) (∀ v w', Hv w0 (mpf b intV (updF g k none) :: R) w' → K v ⟨w', ds⟩) := ⟨fun h => by
  obtain ⟨w', h1, h2⟩ := mpf_del (ty := ty) (ts := [t2]) (k := k) u kf (Hv.perm m.perm o)
  exact bi_ok (m := Builtin.delete_ #[t, t2] ty #[.map (some b), .int .i64 k]) rfl h1 (h _ _ h2)⟩
end
end Go.Vx

namespace Go.Vx
theorem sep_perm {L L' : List SL} (p : L.Perm L') : ∀ {S : Nat → Prop} {w : World}, sep L S w → sep L' S w := by
  induction p with
  | nil => exact fun h => h
  | cons x _ ih => exact fun h => sep_cons ih h
  | swap x y l => exact fun h => sep_swap h
  | trans _ _ i1 i2 => exact fun h => i2 (i1 h)
theorem Hv.pm {w0 w : World} {L L' : List SL} (p : L.Perm L') (o : Hv w0 L w) : Hv w0 L' w := Hv.perm (sep_perm p) o
theorem rot3 {A B C : SL} {H : List SL} : (A :: B :: C :: H).Perm (B :: C :: A :: H) := (List.Perm.swap B A _).trans ((List.Perm.swap C A _).cons B)
theorem subT {A : SL} {H R G : List SL} [t : Take H A R] (k : Sub R G) : Sub H (A :: G) := ⟨fun h => (Sub.cons k).sub (t.perm.1 h)⟩
class AtS {α β : Type} (g : α → Option β) (k : α) (x : outParam β) : Prop where eq : g k = some x
class AtN {α β : Type} (g : α → Option β) (k : α) : Prop where eq : g k = none
section
variable {α : Type} [DecidableEq α]
theorem putA_len (es : List (α × Value)) (k : α) (v : Value) : (putA es k v).length = if (getA es k).isSome then es.length else es.length + 1 := by
  induction es with
  | nil => rw [putA_nil]; rfl
  | cons p es ih =>
    rw [putA_cons, getA_cons]
    by_cases h : p.1 = k
    · rw [if_pos h, if_pos h]; simp
    · rw [if_neg h, if_neg h, List.length_cons, ih]; split <;> simp
theorem del_len' (es : List (α × Value)) (k : α) : (delA es k).length = if (getA es k).isSome then es.length - 1 else es.length := by
  induction es with
  | nil => rw [delA_nil]; rfl
  | cons p es ih =>
    rw [delA_cons, getA_cons]
    by_cases h : p.1 = k
    · rw [if_pos h, if_pos h]; simp
    · rw [if_neg h, if_neg h, List.length_cons, ih]
      have : (getA es k).isSome = true → 0 < es.length := fun hh => by
        cases es with
        | nil => simp [getA] at hh
        | cons q es => simp
      split
      · rename_i hh; have := this hh; simp only [List.length_cons]; omega
      · simp
def mpnA (b : Nat) (f : α → Value) (g : α → Option Value) (n : Nat) (es : List (α × Value)) : SL := many [lift ((es.map (·.1)).Nodup ∧ (∀ k, getA es k = g k) ∧ es.length = n), mpk b f es]
def mpn (b : Nat) (f : α → Value) (g : α → Option Value) (n : Nat) : SL := any (mpnA b f g n)
variable {w0 w : World} {R H : List SL} {b n : Nat} {f : α → Value} {g : α → Option Value}
theorem Hv.mpnOpen (h : Hv w0 (mpn b f g n :: R) w) : ∃ es, ((es.map (·.1)).Nodup ∧ (∀ k, getA es k = g k) ∧ es.length = n) ∧ Hv w0 (mpk b f es :: R) w := by
  obtain ⟨es, h1⟩ := h.pick
  have h2 := h1.opens
  exact ⟨es, h2.lifted, h2.tail⟩
theorem Hv.mpnShut {es : List (α × Value)} (hn : (es.map (·.1)).Nodup) (hg : ∀ k, getA es k = g k) (hl : es.length = n) (h : Hv w0 (mpk b f es :: R) w) : Hv w0 (mpn b f g n :: R) w :=
  Hv.give (A := mpnA b f g n) es (Hv.closes (H := [_, _]) (h.lift ⟨hn, hg, hl⟩))
class MpnIn {α : Type} [DecidableEq α] (H : List SL) (b : Nat) (f : α → Value) (g : outParam (α → Option Value)) (n : outParam Nat) (R : outParam (List SL)) : Prop where perm : ∀ {S w}, sep H S w → sep (mpn b f g n :: R) S w
instance (priority := high) : MpnIn (mpn b f g n :: H) b f g n H := ⟨id⟩
instance (priority := high) : MpnIn (mp0 b :: H) b f (fun _ => none) 0 H := ⟨fun {S w} ⟨S1, S2, h1, h2, h3, h4⟩ =>
  ⟨S1, S2, h1, h2, ⟨[], emp, S1, fun b => ⟨.inr, fun h => h.elim (fun h => h.elim) id⟩, fun b h => h.elim, ⟨fun k h => h, List.nodup_nil, fun k => rfl, rfl⟩, S1, emp, fun b => ⟨.inl, fun h => h.elim id fun h => h.elim⟩, fun b _ h => h, mp0_as b f h3, fun b h => h⟩, h4⟩⟩
instance {A : SL} [h : MpnIn H b f g n R] : MpnIn (A :: H) b f g n (A :: R) := ⟨fun x => sep_swap (sep_cons h.perm x)⟩
theorem subMpn {H' G : List SL} {g' : α → Option Value} {n' : Nat} [r : MpnIn H' b f g n R] (h : g = g') (e : n = n') (k : Sub R G) : Sub H' (mpn b f g' n' :: G) := ⟨fun h' => by
  subst h e; exact (Sub.cons k).sub (r.perm h')⟩
section
variable {P : Program} {d : TypeDesc}
theorem mpn_put {t kt e : Nat} {k : α} {x : Value} (u : TyMap P t kt e d) (kf : KeyF d f) (o : Hv w0 (mpn b f g n :: R) w) : ∃ w', (Instr.mapUpdate t (.map (some b)) (f k) x).run P w = .ok () w' ∧ Hv w0 (mpn b f (updF g k (some x)) (if (g k).isSome then n else n + 1) :: R) w' := by
  obtain ⟨es, ⟨h1, h2, h5⟩, o1⟩ := o.mpnOpen
  obtain ⟨w', h3, h4⟩ := map_put (P := P) (t := t) (k := k) (x := x) o1
  exact ⟨w', h3, Hv.mpnShut (nodup_put h1 k x) (fun k' => by rw [getA_put, h2]; rfl) (by rw [putA_len, h2, h5]) h4⟩
theorem mpn_get {t kt e : Nat} {k : α} {z : Value} {ok : Bool} (u : TyMap P t kt e d) (kf : KeyF d f) (zz : TyZV P e z) (o : Hv w0 (mpn b f g n :: R) w) :
    (Instr.lookup t (.map (some b)) (f k) ok).run P w = .ok (if ok then .tuple #[orZ (g k) z, .bool (g k).isSome] else orZ (g k) z) w := by
  obtain ⟨es, ⟨h1, h2, h5⟩, o1⟩ := o.mpnOpen
  rw [map_get u kf (zz.run w) o1, h2]
theorem mpn_del {t kt e ty : Nat} {ts : List Nat} {k : α} (u : TyMap P t kt e d) (kf : KeyF d f) (o : Hv w0 (mpn b f g n :: R) w) : ∃ w', (Builtin.delete_ (t :: ts).toArray ty #[.map (some b), f k]).run P w = .ok (.tuple #[]) w' ∧ Hv w0 (mpn b f (updF g k none) (if (g k).isSome then n - 1 else n) :: R) w' := by
  obtain ⟨es, ⟨h1, h2, h5⟩, o1⟩ := o.mpnOpen
  obtain ⟨w', h3, h4⟩ := map_del (P := P) (t := t) (k := k) (ty := ty) (ts := ts) o1
  exact ⟨w', h3, Hv.mpnShut (nodup_del h1 k) (fun k' => by rw [getA_del h1, h2]; rfl) (by rw [del_len', h2, h5]) h4⟩
end
end
section
variable {P : Program} {w w0 : World} {H R : List SL} {ds : List Deferred} {d : TypeDesc} {K : Value → St → Prop} {t b kt e n : Nat} {x z : Value}
instance (priority := 910) {k : Int} {g : Int → Option Value} [o : Hv w0 H w] [m : MpnIn H b intV g n R] [u : TyMap P t kt e d] [kf : KeyF d intV] : Step (Mu P t (.map (some b)) (.int .i64 k) x K ⟨w, ds⟩) (∀ w', Hv w0 (mpn b intV (updF g k (some x)) (if (g k).isSome then n else n + 1) :: R) w' → K undef ⟨w', ds⟩) := ⟨fun h => by
  obtain ⟨w', h1, h2⟩ := mpn_put (k := k) (x := x) u kf (Hv.perm m.perm o)
  exact ut_ok h1 (h _ h2)⟩
instance (priority := 920) {k : Int} {g : Int → Option Value} [o : Hv w0 H w] [m : MpnIn H b intV g n R] [u : TyMap P t kt e d] [kf : KeyF d intV] [zz : TyZV P e z] [a : AtS g k x] : VT (Lk P t (.map (some b)) (.int .i64 k) false) w x := VT.of (by
  rw [mpn_get (f := intV) u kf zz (Hv.perm m.perm o), a.eq]; rfl)
instance (priority := 920) {k : Int} {g : Int → Option Value} [o : Hv w0 H w] [m : MpnIn H b intV g n R] [u : TyMap P t kt e d] [kf : KeyF d intV] [zz : TyZV P e z] [a : AtN g k] : VT (Lk P t (.map (some b)) (.int .i64 k) false) w z := VT.of (by
  rw [mpn_get (f := intV) u kf zz (Hv.perm m.perm o), a.eq]; rfl)
instance (priority := 920) {k : List UInt8} {g : List UInt8 → Option Value} [o : Hv w0 H w] [m : MpnIn H b (fun l => str l) g n R] [u : TyMap P t kt e d] [kf : KeyF d (fun l => str l)] [zz : TyZV P e z] [a : AtS g k x] : VT (Lk P t (.map (some b)) (str k) false) w x := VT.of (by
  rw [mpn_get (f := fun l => str l) u kf zz (Hv.perm m.perm o), a.eq]; rfl)
instance (priority := 920) {k : List UInt8} {g : List UInt8 → Option Value} [o : Hv w0 H w] [m : MpnIn H b (fun l => str l) g n R] [u : TyMap P t kt e d] [kf : KeyF d (fun l => str l)] [zz : TyZV P e z] [a : AtN g k] : VT (Lk P t (.map (some b)) (str k) false) w z := VT.of (by
  rw [mpn_get (f := fun l => str l) u kf zz (Hv.perm m.perm o), a.eq]; rfl)
instance (priority := 910) {k : Int} {g : Int → Option Value} {t2 ty : Nat} {cs : Array Bool} [o : Hv w0 H w] [m : MpnIn H b intV g n R] [u : TyMap P t kt e d] [kf : KeyF d intV] : Step (Bi P .delete #[t, t2] ty cs #[.map (some b), .int .i64 k] K ⟨w, ds⟩) (∀ v w', Hv w0 (mpn b intV (updF g k none) (if (g k).isSome then n - 1 else n) :: R) w' → K v ⟨w', ds⟩) := ⟨fun h => by
  obtain ⟨w', h1, h2⟩ := mpn_del (ty := ty) (ts := [t2]) (k := k) u kf (Hv.perm m.perm o)
  exact bi_ok (m := Builtin.delete_ #[t, t2] ty #[.map (some b), .int .i64 k]) rfl h1 (h _ _ h2)⟩
end
section
variable {α : Type} [DecidableEq α] {P : Program} {f : α → Value} {kt : TypeId}
abbrev isV (k : Int × List UInt8) : Value := .agg #[.int .i64 k.1, str k.2]
end
section
variable {P : Program} {w w0 : World} {H : List SL} {ds : List Deferred}
instance (priority := 1100) {t e n size : Nat} {k k' : IntKind} {z : Int} {K : Value → St → Prop} [o : Hv w0 H w] [u : TySl P t e size] [zn : ToN z n] :
    Step (Ms P t (.int k 0) (.int k' z) K ⟨w, ds⟩) ((0 ≤ z ∧ z ≤ 1000000) ∧ ∀ v w', Hv w0 (row e size v 0 [] :: H) w' → K v ⟨w', ds⟩) := ⟨fun ⟨⟨h1, h2⟩, h⟩ => by
  obtain ⟨i, z0, hu, hi, hz, hs, hzs, hpos, hby⟩ := u.info
  have hn := zn.eq h1
  have hzn : z = (n : Int) := by omega
  subst hzn
  obtain ⟨w', g1, g2, g3⟩ := run_make_own (P := P) w 0 t e i z0 size hu hi hz hs k k' n (Nat.le_trans (Nat.mul_le_mul hby (show n ≤ 1000000 by omega)) (by decide)) (by simp only [maxLen]; omega) (Nat.zero_le _)
  exact vl_ok g1 (h _ _ (o.rowNew g2 (fun u hu => by cases hu) (Kept.of g3 fun k hk => by cases hk) fun k hk => by simp only [Value.ownBlock, Option.some.injEq] at hk; omega))⟩
end
section
variable {P : Program} {w w0 : World} {H R : List SL} {ds : List Deferred}
instance (priority := 1100) {t ty e n m : Nat} {cs : Array Bool} {d x : Value} {xs ys : List Value} {K : Value → St → Prop} [o : Hv w0 H w] [i : RowIn H d e 1 n xs R] [rx : RdsF w0 R x 1 m ys] [u : TySl P t e 1] :
    Step (Bi P .copy #[t, t] ty cs #[d, x] K ⟨w, ds⟩) (n ≤ m ∧ ∀ w', Hv w0 (row e 1 d n (ys.take n) :: R) w' → K (.int .i64 n) ⟨w', ds⟩) := ⟨fun ⟨hn, h⟩ => by
  have o1 := Hv.perm i.perm o
  obtain ⟨i', z, hu, hi, hz, hs, hr⟩ := u.info
  have rx1 := rx.rd w o1.tail
  have hyl := rx1.len
  have hy1 := rx1.one
  obtain ⟨b2, c2, rfl, h20, h2c, hx⟩ := rx1.ex
  rcases o1.openRow with ⟨rfl, rfl, rfl, o2⟩ | ⟨g, cap, cur, rfl, hnc, hcm, hcl, hct, h1, o2⟩
  · refine bi_ok (m := Builtin.copy_ #[t, t] ty #[.slice none 0 0, .slice b2 m c2]) rfl (run_copy_none w t t ty e none b2 0 0 m c2 hu (by simp [hi, hs]) (by simp)) ?_
    exact h _ (Hv.nilRow e 1 o2)
  · cases b2 with
    | none =>
      have h3 := h20 rfl
      obtain rfl : n = 0 := by omega
      refine bi_ok (m := Builtin.copy_ #[t, t] ty #[.slice (some ⟨g, 0, none⟩) 0 cap, .slice none m c2]) rfl (run_copy_none w t t ty e (some ⟨g, 0, none⟩) none 0 cap m c2 hu (by simp [hi, hs]) (by simp)) ?_
      have : xs = [] := by rw [← hct]; simp
      subst this
      exact h _ o1
    | some a =>
      have hvl : (ys.take n).length = n := by rw [List.length_take]; omega
      refine bi_ok (m := Builtin.copy_ #[t, t] ty #[.slice (some ⟨g, 0, none⟩) n cap, .slice (some a) m c2]) rfl (copy_box (k := n) (lo := 0) (vs := ys.take n) u o2 (by omega) (by omega) (fun j v hv => ?_) (fun v hv => hy1 v (List.mem_of_mem_take hv)) (by omega)) ?_
      · rw [List.getElem?_take] at hv
        split at hv
        · obtain ⟨a', ha, hc⟩ := hx j v hv
          obtain rfl := Option.some.inj ha
          exact hc
        · cases hv
      · have o3 := o2.stored (r := put cur 0 (ys.take n))
        have e1 : (put cur 0 (ys.take n)).take (n * 1) = ys.take n := by
          unfold put
          rw [List.take_zero, List.nil_append, Nat.mul_one]
          exact List.take_left' hvl
        have o4 := Hv.shutRow (n := n) (size := 1) (cap := cap) o3 hnc hcm (by rw [put_len (by omega)]; exact hcl) (by rw [e1]; exact fun v hv => hy1 v (List.mem_of_mem_take hv))
        rw [e1] at o4
        exact h _ o4⟩
end
section
variable {α β : Type} [DecidableEq α]
abbrev ptrV (b : Nat) : Value := .pointer (some ⟨b, 0, none⟩)
def lkE (es : List (α × Nat × β)) (k : α) : Option (Nat × β) := (es.find? fun e => decide (e.1 = k)).map (·.2)
theorem lkE_cons (e : α × Nat × β) (es : List (α × Nat × β)) (k : α) : lkE (e :: es) k = if e.1 = k then some e.2 else lkE es k := by
  unfold lkE; rw [List.find?_cons]; by_cases h : e.1 = k <;> simp [h]
theorem lkE_split {es : List (α × Nat × β)} {k : α} {x : Nat × β} (h : lkE es k = some x) : ∃ a c, es = a ++ (k, x) :: c ∧ ∀ e ∈ a, e.1 ≠ k := by
  induction es with
  | nil => simp [lkE] at h
  | cons e es ih =>
    rw [lkE_cons] at h
    by_cases q : e.1 = k
    · rw [if_pos q] at h
      obtain rfl := Option.some.inj h
      exact ⟨[], es, by rw [← q]; rfl, by simp⟩
    · rw [if_neg q] at h
      obtain ⟨a, c, rfl, hn⟩ := ih h
      exact ⟨e :: a, c, rfl, fun e' he => by rcases List.mem_cons.1 he with rfl | he; exact q; exact hn _ he⟩
theorem lkE_app (a c : List (α × Nat × β)) (k : α) : lkE (a ++ c) k = (lkE a k).or (lkE c k) := by
  induction a with
  | nil => rfl
  | cons e a ih => rw [List.cons_append, lkE_cons, lkE_cons]; by_cases q : e.1 = k <;> simp [q, ih]
theorem lkE_none {es : List (α × Nat × β)} {k : α} (h : ∀ e ∈ es, e.1 ≠ k) : lkE es k = none := by
  induction es with
  | nil => rfl
  | cons e es ih => rw [lkE_cons, if_neg (h e (by simp)), ih fun e' he => h e' (by simp [he])]
theorem lkE_no {es : List (α × Nat × β)} {k : α} (h : lkE es k = none) : ∀ e ∈ es, e.1 ≠ k := by
  induction es with
  | nil => simp
  | cons e es ih =>
    rw [lkE_cons] at h
    by_cases q : e.1 = k
    · rw [if_pos q] at h; cases h
    · rw [if_neg q] at h
      intro e' he
      rcases List.mem_cons.1 he with rfl | he
      · exact q
      · exact ih h e' he
def mapA (m : Nat) (f : α → Value) (F : Nat → β → SL) (g : α → Option β) (n : Nat) (es : List (α × Nat × β)) : SL :=
  many [lift ((es.map (·.1)).Nodup ∧ ∀ k, (lkE es k).map (·.2) = g k), mpn m f (fun k => (lkE es k).map fun x => ptrV x.1) n, many (es.map fun e => F e.2.1 e.2.2)]
def mapO (m : Nat) (f : α → Value) (F : Nat → β → SL) (g : α → Option β) (n : Nat) : SL := any (mapA m f F g n)
variable {w0 w : World} {H : List SL} {m n : Nat} {f : α → Value} {F : Nat → β → SL} {g : α → Option β}
theorem Hv.mapIn (o : Hv w0 (mapO m f F g n :: H) w) : ∃ es : List (α × Nat × β), (es.map (·.1)).Nodup ∧ (∀ k, (lkE es k).map (·.2) = g k) ∧ Hv w0 (mpn m f (fun k => (lkE es k).map fun x => ptrV x.1) n :: many (es.map fun e => F e.2.1 e.2.2) :: H) w := by
  obtain ⟨es, h1⟩ := o.pick
  have h2 := h1.opens
  have h3 := h2.lifted
  exact ⟨es, h3.1, h3.2, h2.tail⟩
theorem Hv.mapOut {es : List (α × Nat × β)} {h : α → Option Value} (hn : (es.map (·.1)).Nodup) (hg : ∀ k, (lkE es k).map (·.2) = g k) (hh : ∀ k, h k = (lkE es k).map fun x => ptrV x.1) (o : Hv w0 (mpn m f h n :: many (es.map fun e => F e.2.1 e.2.2) :: H) w) : Hv w0 (mapO m f F g n :: H) w := by
  obtain rfl : h = fun k => (lkE es k).map fun x => ptrV x.1 := funext hh
  exact Hv.give (A := mapA m f F g n) es (Hv.closes (H := [_, _, _]) (o.lift ⟨hn, hg⟩))
theorem Hv.manyPerm {L L' : List SL} (p : L.Perm L') (o : Hv w0 (many L :: H) w) : Hv w0 (many L' :: H) w :=
  Hv.closes (Hv.pm (p.append_right H) o.opens)
theorem Hv.manyCons {A : SL} {L : List SL} (o : Hv w0 (A :: many L :: H) w) : Hv w0 (many (A :: L) :: H) w :=
  Hv.closes (H := A :: L) (Hv.pm List.perm_middle (Hv.pm (List.Perm.swap ..) o).opens)
theorem Hv.manyHead {A : SL} {L : List SL} (o : Hv w0 (many (A :: L) :: H) w) : Hv w0 (A :: many L :: H) w :=
  Hv.pm (List.Perm.swap ..) (Hv.closes (H := L) (Hv.pm List.perm_middle.symm (show Hv w0 (A :: (L ++ H)) w from o.opens)))
theorem nodup_mid {a c : List (α × Nat × β)} {e : α × Nat × β} (h : ((a ++ e :: c).map (·.1)).Nodup) : ((a ++ c).map (·.1)).Nodup ∧ ∀ x ∈ a ++ c, x.1 ≠ e.1 := by
  have p : (a ++ e :: c).Perm (e :: (a ++ c)) := List.perm_middle
  have h2 := ((p.map (·.1)).nodup_iff).1 h
  rw [List.map_cons, List.nodup_cons] at h2
  exact ⟨h2.2, fun x hx q => h2.1 (q ▸ List.mem_map.2 ⟨x, hx, rfl⟩)⟩
theorem lkE_mid {a c : List (α × Nat × β)} {k k' : α} {x : Nat × β} (h : ((a ++ (k, x) :: c).map (·.1)).Nodup) : lkE (a ++ (k, x) :: c) k' = if k' = k then some x else lkE (a ++ c) k' := by
  have hn := (nodup_mid h).2
  rw [lkE_app, lkE_cons, lkE_app]
  by_cases q : k' = k
  · subst q
    rw [if_pos rfl, if_pos rfl, lkE_none fun e he => hn e (by simp [he])]; rfl
  · rw [if_neg q, if_neg (fun e => q e.symm)]
theorem Hv.mapNew (o : Hv w0 (mpn m f (fun _ => none) 0 :: H) w) : Hv w0 (mapO m f F (fun _ : α => none) 0 :: H) w :=
  Hv.mapOut (es := []) List.nodup_nil (fun _ => rfl) (fun _ => rfl) (Hv.pm (List.Perm.swap ..) (Hv.closes (H := []) o))
structure Wnd (w0 : World) (A B : List SL) : Prop where
  go : ∀ {w : World} {H : List SL}, Hv w0 (A ++ H) w → Hv w0 (B ++ H) w
theorem Wnd.shut {w0 w : World} {A : List SL} {B : SL} {H G : List SL} (c : Wnd w0 A [B]) [o : Hv w0 G w] (h : Sub G (A ++ H)) : Hv w0 (B :: H) w := c.go (Sub.hv h)
theorem Hv.mapNo (o : Hv w0 (mapO m f F g n :: H) w) {k : α} (hk : g k = none) : ∃ (h : α → Option Value) (M : SL), AtN h k ∧ Hv w0 (mpn m f h n :: M :: H) w ∧
    Wnd w0 [mpn m f h n, M] [mapO m f F g n] ∧
    (∀ {b n' : Nat} {y : β}, Wnd w0 [mpn m f (updF h k (some (ptrV b))) n', F b y, M] [mapO m f F (updF g k (some y)) n']) := by
  obtain ⟨es, h1, h2, o1⟩ := o.mapIn
  have h3 : lkE es k = none := by have := h2 k; rw [hk] at this; simpa using this
  refine ⟨_, _, ⟨by rw [h3]; rfl⟩, o1, ⟨fun o2 => Hv.mapOut h1 h2 (fun _ => rfl) o2⟩, fun {b n' y} => ⟨fun {w' H'} o2 => ?_⟩⟩
  refine Hv.mapOut (es := (k, b, y) :: es) ?_ (fun k' => ?_) (fun k' => ?_) (Hv.pm (List.Perm.swap ..) (Hv.manyCons (L := es.map fun e => F e.2.1 e.2.2) (A := F b y) (Hv.pm rot3 o2)))
  · rw [List.map_cons, List.nodup_cons]
    exact ⟨fun hc => by obtain ⟨e, he, q⟩ := List.mem_map.1 hc; exact lkE_no h3 e he q, h1⟩
  · rw [lkE_cons]
    by_cases q : k' = k
    · subst q; rw [if_pos rfl, updF_at]; rfl
    · rw [if_neg (fun e => q e.symm), updF_ne _ q, h2]
  · rw [lkE_cons]
    by_cases q : k' = k
    · subst q; rw [if_pos rfl, updF_at]; rfl
    · rw [if_neg (fun e => q e.symm), updF_ne _ q]
theorem Hv.mapAt (o : Hv w0 (mapO m f F g n :: H) w) {k : α} {y : β} (hk : g k = some y) : ∃ (b : Nat) (h : α → Option Value) (M : SL), AtS h k (ptrV b) ∧ Hv w0 (mpn m f h n :: F b y :: M :: H) w ∧
    Wnd w0 [mpn m f h n, F b y, M] [mapO m f F g n] ∧
    (∀ {y' : β}, Wnd w0 [mpn m f h n, F b y', M] [mapO m f F (updF g k (some y')) n]) ∧
    (∀ {n' : Nat}, Wnd w0 [mpn m f (updF h k none) n', M] [mapO m f F (updF g k none) n']) := by
  obtain ⟨es, h1, h2, o1⟩ := o.mapIn
  obtain ⟨⟨b, y0⟩, h3, h4⟩ : ∃ x, lkE es k = some x ∧ x.2 = y := by
    have := h2 k
    rw [hk] at this
    simpa using this
  dsimp only at h4
  subst h4
  obtain ⟨a, c, rfl, hn⟩ := lkE_split h3
  have hm := nodup_mid h1
  have pm : ∀ y' : β, ((a ++ (k, b, y') :: c).map fun e => F e.2.1 e.2.2).Perm (F b y' :: (a ++ c).map fun e => F e.2.1 e.2.2) := fun y' => List.perm_middle.map _
  have shut : ∀ {y' : β}, Wnd w0 [mpn m f (fun k' => (lkE (a ++ (k, b, y0) :: c) k').map fun x => ptrV x.1) n, F b y', many ((a ++ c).map fun e => F e.2.1 e.2.2)] [mapO m f F (updF g k (some y')) n] := fun {y'} => ⟨fun {w' H'} o2 => by
    refine Hv.mapOut (es := a ++ (k, b, y') :: c) (by simpa using h1) (fun k' => ?_) (fun k' => ?_) (Hv.pm (List.Perm.swap ..) (Hv.manyPerm (pm y').symm (Hv.manyCons (Hv.pm rot3 o2))))
    · rw [lkE_mid (by simpa using h1)]
      have := h2 k'
      rw [lkE_mid h1] at this
      by_cases q : k' = k
      · subst q; rw [if_pos rfl, updF_at]; rfl
      · rw [if_neg q] at this ⊢; rw [updF_ne _ q, this]
    · rw [lkE_mid h1, lkE_mid (by simpa using h1)]
      by_cases q : k' = k
      · rw [if_pos q, if_pos q]; rfl
      · rw [if_neg q, if_neg q]⟩
  refine ⟨b, _, many ((a ++ c).map fun e => F e.2.1 e.2.2), ⟨by rw [h3]; rfl⟩, ?_, ⟨fun {w' H'} o2 => ?_⟩, shut, fun {n'} => ⟨fun {w' H'} o2 => ?_⟩⟩
  · exact Hv.pm rot3.symm (Hv.manyHead (Hv.manyPerm (pm y0) (Hv.pm (List.Perm.swap ..) o1)))
  · have := shut.go o2
    have e : updF g k (some y0) = g := funext fun x => by
      by_cases q : x = k
      · subst q; rw [updF_at, hk]
      · rw [updF_ne _ q]
    rwa [e] at this
  · refine Hv.mapOut (es := a ++ c) hm.1 (fun k' => ?_) (fun k' => ?_) o2
    · have := h2 k'
      rw [lkE_mid h1] at this
      by_cases q : k' = k
      · subst q; rw [updF_at, lkE_none fun e he => hm.2 e he]; rfl
      · rw [if_neg q] at this; rw [updF_ne _ q, this]
    · by_cases q : k' = k
      · subst q; rw [updF_at, lkE_none fun e he => hm.2 e he]; rfl
      · rw [updF_ne _ q, lkE_mid h1, if_neg q]
end
end Go.Vx

namespace Go.Vx
def Df (P : Program) (fv : Value) (args : Array Value) (K : Value → St → Prop) (s : St) : Prop := OpP P (do let d ← Deferred.ofValue fv args; pure (.defer d)) K s
structure Cd (P : Program) (g : FuncId) (args : Array Value) (K : World → Prop) (w : World) : Prop where
  out : CallsDIn (FW none) 0 P g args .returning w fun e u w' => u = .returning ∧ ∃ v, e = .returned v ∧ K w'
section
variable {P : Program} {w : World} {ds : List Deferred} {g : Nat} {args : Array Value}
theorem cd_st {bd : Nat} (hB : Bodies P bd) {g : FuncId} {fn : Func} (hf : P.funcs[g]? = some fn) (n : Nat) (rs : List ResultVar) {args : List Value} {w : World} {K : World → Prop} {D : (Value → World → Prop) → St → Prop}
    (h : D (fun _ w' => K w') ⟨w, []⟩) (h1 : (fn.ntmps, fn.results.toList, fn.body) = (n, rs, some (fn.body.getD .skip)) := by kernel_rfl) (hn : Nat.ble args.length n = true := by rfl)
    (he : ∀ K, wpc P bd n none (fn.body.getD .skip) (lmOf rs) (ktD P n rs K) (frOf args) = D K := by intro K; kernel_rfl) : Cd P g args.toArray K w := by
  rw [← he] at h
  simp only [Prod.mk.injEq] at h1
  obtain ⟨e1, e2, e3⟩ := h1
  subst e1 e2
  exact ⟨(callsD_of_wpc hB hf e3 hn h).mono fun e u w' ⟨hu, v, hv, hk⟩ => ⟨hu, v, hv, hk⟩⟩
instance (priority := high) Step.ret0D {k : World → Prop} : Step (RetD k ⟨w, []⟩) (k w) := ⟨fun h => ⟨rfl, h⟩⟩
instance (priority := high) Step.rnone {B : Prop} : Step ((none : Option Nat) = none ∧ B) B := ⟨fun h => ⟨rfl, h⟩⟩
instance (priority := high) Step.df {K : Value → St → Prop} : Step (Df P (.func (.func g) #[] #[]) args K ⟨w, ds⟩) (K undef ⟨w, { target := .fn (.func g) #[], args := args } :: ds⟩) := ⟨fun h => ⟨by
  simp [Deferred.ofValue, Sem.run_bind, Sem.run_pure, Result.andThen, NextP, h]⟩⟩
instance (priority := 900) Step.retDf [b : BodyOf P g] {k : World → Prop} : Step (Ret P k ⟨w, { target := .fn (.func g) #[], args := args } :: ds⟩) (Cd P g args (fun w' => Ret P k ⟨w', ds⟩) w) := ⟨fun h => by
  refine .inr ⟨.func g, #[], g, args, rfl, ?_, h.out⟩
  have := call_body b.ok (args := args ++ #[]) (w := w)
  simpa [invoke] using this⟩
end
end Go.Vx

namespace Go.Vx
section
variable {P : Program} {w w0 : World} {H R : List SL} {ds : List Deferred} {α β : Type}
def SeqL (P : Program) (w0 : World) (gv : Value) (T T' : List SL) (E : Nat → List SL) (enc : α → β → List Value) (B : α → β → SL) (xs : List α) : Prop :=
  ∀ (l : Nat) (J X : Nat → SL) (w : World) (ds : List Deferred) (K : Value → St → Prop), Hv w0 (J 0 :: T) w →
    (∀ (i : Nat) (x : α) (y : β) (F : List SL) (w : World) (ds : List Deferred) (K : Value → St → Prop), xs[i]? = some x → Hv w0 (J i :: B x y :: F) w → (∀ w', Hv w0 (J (i + 1) :: B x y :: F) w' → K (.bool true) ⟨w', ds⟩) → (∀ w', Hv w0 (X i :: B x y :: F) w' → K (.bool false) ⟨w', ds⟩) → Dy P (yv l) (enc x y).toArray K ⟨w, ds⟩) →
    (∀ v w', Hv w0 (J xs.length :: T') w' → K v ⟨w', ds⟩) → (∀ i x v w', xs[i]? = some x → Hv w0 (X i :: E i) w' → K v ⟨w', ds⟩) → Cy P gv #[yv l] K ⟨w, ds⟩
theorem rf_coreL {gv : Value} {T T' G : List SL} {E : Nat → List SL} {enc : α → β → List Value} {B : α → β → SL} {xs : List α} {np l : Nat} {rc : Loop} {rnd : Rnd} {J XR : Nat → SL} {kn kr : St → Prop} {kx : Nat → St → Prop}
    (hs : SeqL P w0 gv T T' E enc B xs) (hnp : ∀ x y, (enc x y).length = np) (hy : Yl P rc np rnd) (o : Hv w0 (J 0 :: lpR rc l :: many G :: T) w)
    (hb : ∀ (R : Value → World → Prop) (F : List SL) (w : World) (i : Nat) (x : α) (y : β), xs[i]? = some x → Hv w0 (J i :: lpR rc l :: many G :: B x y :: F) w →
      (∀ w', Hv w0 (J (i + 1) :: lpR rc l :: many G :: B x y :: F) w' → R (.bool true) w') → (∀ w', Hv w0 (XR i :: lpD rc l .ret :: many G :: B x y :: F) w' → R (.bool false) w') → rnd l (enc x y) R ⟨w, []⟩)
    (hn : ∀ w', Hv w0 (J xs.length :: many G :: T') w' → kn ⟨w', ds⟩)
    (hr : ∀ i x w', xs[i]? = some x → Hv w0 (XR i :: many G :: E i) w' → kr ⟨w', ds⟩) :
    Cy P gv #[yv l] (fun _ s' => Elp P l kn kr kx s') ⟨w, ds⟩ := by
  refine hs l (fun i => many [J i, lpR rc l, many G]) (fun i => many [XR i, lpD rc l .ret, many G]) w ds _ (Hv.closes (H := [_, _, _]) o) ?_ ?_ ?_
  · intro i x y F w1 ds1 K hi o1 h1 h2
    have o2 := Hv.opens o1
    have hl : w1.heap[l]? = some (.loop { rc with state := .ready, pending := none }) := (Hv.perm sep_swap o2).at
    exact hy l .ready none (enc x y) w1 ds1 K (hnp x y) hl (hb _ F w1 i x y hi o2 (fun w' h => h1 w' (Hv.closes (H := [_, _, _]) h)) (fun w' h => h2 w' (Hv.closes (H := [_, _, _]) h)))
  · intro v w' o1
    have o2 := Hv.perm sep_swap (Hv.opens o1)
    exact ⟨_, _, run_endLoop o2.at (by simp), hn _ (o2.putObj _).tail⟩
  · intro i x v w' hi o1
    have o3 := Hv.perm sep_swap (Hv.opens o1)
    exact ⟨_, _, run_endLoop o3.at (by simp), hr i x _ hi (o3.putObj _).tail⟩
theorem rf_goL {gv : Value} (T T' : List SL) (E : Nat → List SL) {enc : α → β → List Value} {B : α → β → SL} {xs : List α} {np : Nat} {rnd : Rnd} (J XR : Nat → SL) {kn kr : St → Prop} {kx : Nat → St → Prop}
    (hs : SeqL P w0 gv T T' E enc B xs) (hnp : ∀ x y, (enc x y).length = np) (o : Hv w0 (J 0 :: T) w)
    (hb : ∀ (b l : Nat) (rc : Loop) (R : Value → World → Prop) (F : List SL) (w : World) (i : Nat) (x : α) (y : β), xs[i]? = some x → Hv w0 (J i :: lpR rc l :: dfb b :: B x y :: F) w →
      (∀ w', Hv w0 (J (i + 1) :: lpR rc l :: dfb b :: B x y :: F) w' → R (.bool true) w') → (∀ w', Hv w0 (XR i :: lpD rc l .ret :: dfb b :: B x y :: F) w' → R (.bool false) w') → rnd l (enc x y) R ⟨w, []⟩)
    (hn : ∀ b w', Hv w0 (J xs.length :: dfb b :: T') w' → kn ⟨w', mk b :: ds⟩)
    (hr : ∀ b i x w', xs[i]? = some x → Hv w0 (XR i :: dfb b :: E i) w' → kr ⟨w', mk b :: ds⟩) : Rf P none np gv rnd kn kr kx ⟨w, ds⟩ := by
  refine ⟨?_⟩
  intro rc h1 h2 hy
  have o1 := (o.newObj (.deferred (some []))).newObj (.loop rc)
  rw [World.size_alloc] at o1
  obtain ⟨st, pd, fn, tm, ps, as, bo, df⟩ := rc
  dsimp only at h1 h2
  subst h1 h2
  have cl : ∀ {A B : SL} {b : Nat} {F : List SL} {w : World}, Hv w0 (A :: B :: dfb b :: F) w → Hv w0 (A :: B :: many [dfb b] :: F) w := fun h => h.perm fun h => sep_cons (sep_cons (sep_many (G := [_])).2) h
  have op : ∀ {A B : SL} {b : Nat} {F : List SL} {w : World}, Hv w0 (A :: B :: many [dfb b] :: F) w → Hv w0 (A :: B :: dfb b :: F) w := fun h => h.perm fun h => sep_cons (sep_cons (sep_many (G := [_])).1) h
  have op1 : ∀ {A : SL} {b : Nat} {F : List SL} {w : World}, Hv w0 (A :: many [dfb b] :: F) w → Hv w0 (A :: dfb b :: F) w := fun h => h.perm fun h => sep_cons (sep_many (G := [_])).1 h
  refine rf_coreL (G := [dfb w.heap.size]) (J := J) (XR := XR) hs hnp hy ?_ (fun R F w1 i x y hi o2 a b => hb w.heap.size _ _ R F w1 i x y hi (op o2) (fun w' h => a w' (cl h)) (fun w' h => b w' (cl h))) (fun w' h => hn _ w' (op1 h)) (fun i x w' hi h => hr _ i x w' hi (op1 h))
  refine cl ?_
  exact Hv.perm (fun h => sep_swap (sep_cons sep_swap h)) o1
class YldL {α β : outParam Type} (P : Program) (w0 : World) (l : Nat) (J X : outParam (Nat → SL)) (enc : outParam (α → β → List Value)) (B : outParam (α → β → SL)) (xs : outParam (List α)) : Prop where
  run : ∀ (i : Nat) (x : α) (y : β) (F : List SL) (w : World) (ds : List Deferred) (K : Value → St → Prop), xs[i]? = some x → Hv w0 (J i :: B x y :: F) w → (∀ w', Hv w0 (J (i + 1) :: B x y :: F) w' → K (.bool true) ⟨w', ds⟩) → (∀ w', Hv w0 (X i :: B x y :: F) w' → K (.bool false) ⟨w', ds⟩) → Dy P (yv l) (enc x y).toArray K ⟨w, ds⟩
instance (priority := 890) {α β : Type} {l n : Nat} {J X : Nat → SL} {enc : α → β → List Value} {B : α → β → SL} {xs : List α} {args : Array Value} {K : Value → St → Prop} [y : YldL P w0 l J X enc B xs] [o : Hv w0 H w] [i : InJ J H n R] :
    Step (Dy P (yv l) args K ⟨w, ds⟩) (∃ x y F, xs[n]? = some x ∧ (enc x y).toArray = args ∧ Sub R (B x y :: F) ∧ (∀ w', Hv w0 (J (n + 1) :: B x y :: F) w' → K (.bool true) ⟨w', ds⟩) ∧ (∀ w', Hv w0 (X n :: B x y :: F) w' → K (.bool false) ⟨w', ds⟩)) := ⟨fun ⟨x, u, F, h1, h2, h3, h4, h5⟩ => by
  rw [← h2]
  have o1 := Hv.perm i.perm.1 o
  exact y.run n x u F w ds K h1 (Sub.hv (o := o1) (Sub.cons h3)) h4 h5⟩
end
end Go.Vx

