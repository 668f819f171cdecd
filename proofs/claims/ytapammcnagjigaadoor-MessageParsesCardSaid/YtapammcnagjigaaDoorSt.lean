import Derived.Test.YtapammcnagjigaaDoorSr
import Derived.Test.YtapammcnagjigaaDoorSf
import Derived.Laws.StandIn
set_option linter.all false
namespace Go.Vx
open Go.RowKit Go.ChangeShapes Go.WideShapes

/-! strings -/
section
variable {P : Program} {w w0 : World} {H R : List SL} {ds : List Deferred}
instance {t i : Nat} {k : IntKind} {z : Int} {l : List UInt8} [u : TyU P t .string] [zn : ToN z i] : VS (Ix P t (str l) (.int k z)) w (0 ≤ z ∧ z < l.length) (byteV (l.getD i default)) := VS.of fun h => by
  have hz : (⟨l.toArray⟩ : ByteArray).size = l.length := rfl
  rw [run_index_string w t _ k z u.eq, dif_pos ⟨h.1, by rw [hz]; exact h.2⟩]
  have e := zn.eq h.1
  have h2 : i < l.length := by omega
  have e2 : (⟨l.toArray⟩ : ByteArray)[z.toNat]'(by rw [hz]; omega) = l.getD i default := by
    subst e
    show l.toArray[z.toNat]'(by simpa using h2) = _
    simp [h2]
  rw [e2]
/-- Where a byte stands first. -/
def idxB (l : List UInt8) (c : UInt8) : Int := match l.findIdx? (· == c) with | some i => i | none => -1
theorem firstIdx_eq (l : List UInt8) (c : UInt8) : firstIdx ⟨l.toArray⟩ c = idxB l c := by
  have hg : ∀ i, i < l.length → (⟨l.toArray⟩ : ByteArray)[i]! = l.getD i default := by
    intro i hi
    rw [getElem!_pos _ i (by exact hi)]
    show l.toArray[i]'(by simpa using hi) = _
    simp [hi]
  have key : (List.range l.length).find? (fun i => (⟨l.toArray⟩ : ByteArray)[i]! == c) = l.findIdx? (· == c) := by
    have h1 : (List.range l.length).find? (fun i => (⟨l.toArray⟩ : ByteArray)[i]! == c) = (List.range l.length).find? (fun i => l.getD i default == c) := by
      have aux : ∀ (m : List Nat), (∀ i ∈ m, i < l.length) → m.find? (fun i => (⟨l.toArray⟩ : ByteArray)[i]! == c) = m.find? (fun i => l.getD i default == c) := by
        intro m
        induction m with
        | nil => intro _; rfl
        | cons a m ih =>
          intro h
          rw [List.find?_cons, List.find?_cons, hg a (h a (List.mem_cons_self ..)), ih fun i hi => h i (List.mem_cons_of_mem _ hi)]
      exact aux _ fun i hi => List.mem_range.1 hi
    rw [h1]
    clear h1 hg
    induction l with
    | nil => rfl
    | cons b l ih =>
      rw [List.length_cons, List.range_succ_eq_map, List.find?_cons, List.findIdx?_cons]
      simp only [List.getD_cons_zero]
      cases hb : b == c with
      | true => rfl
      | false =>
        rw [List.find?_map]
        have : ((fun i => (b :: l).getD i default == c) ∘ Nat.succ) = fun i => l.getD i default == c := by funext i; simp
        rw [this, ih]
        simp
  unfold firstIdx idxB
  have hz : (⟨l.toArray⟩ : ByteArray).size = l.length := rfl
  rw [hz, key]
  cases l.findIdx? (· == c) <;> rfl
class ExIdx (P : Program) (g : Nat) : Prop where
  run : ∀ (args : Array Value) (w : World), (callFunc g args).run P w = ((Extern.BytealgIndexByte.indexByte args).run P w).andThen fun v w' => .ok (.value v) w'
instance {g : Nat} {l : List UInt8} {c : UInt8} [e : ExIdx P g] : VT (Dy P (.func (.func g) #[] #[]) #[str l, byteV c]) w (.int .i64 (idxB l c)) := ⟨fun k => ⟨by
  have h : (do let d ← Deferred.ofValue (.func (.func g) #[] #[]) #[str l, byteV c]; invoke d.target d.args : Sem Next).run P w = (callFunc g #[str l, byteV c]).run P w := by
    simp [Deferred.ofValue, invoke, Sem.run_bind, Sem.run_pure, Result.andThen]
  rw [h, e.run, run_indexByte_string, firstIdx_eq]
  have hc : ((c.toNat : Int).toNat).toUInt8 = c := by simp
  rw [hc]
  exact k⟩⟩
end
/-! strings in rows; pieces of rows -/
section
variable {P : Program} {w w0 : World} {H R : List SL} {ds : List Deferred}
instance (priority := high) {H R : List SL} : DropTo (many H :: R) H := ⟨fun ⟨S1, _, h1, _, h3, _⟩ => ⟨S1, fun b hb => (h1 b).2 (.inl hb), h3⟩⟩
theorem subLift {φ : Prop} {R G : List SL} (p : φ) (k : Sub R G) : Sub R (lift φ :: G) := ⟨fun h => let ⟨S', g1, g2⟩ := k.sub h; ⟨S', g1, emp, S', fun b => ⟨.inr, fun h => h.elim (fun h => h.elim) id⟩, fun b h => h.elim, ⟨fun k h => h, p⟩, g2⟩⟩
theorem subM {H : List SL} : Sub H [many H] := ⟨fun h => ⟨_, fun _ h => h, sep_many.2 (by simpa using h)⟩⟩
theorem subM1 {B : SL} {H : List SL} : Sub (B :: H) [many H, B] := ⟨fun h => let ⟨S', g1, g2⟩ := (Sub.cons (A := B) (subM (H := H))).sub h; ⟨S', g1, sep_swap g2⟩⟩
theorem subOpen {H G : List SL} : Sub (many H :: G) (H ++ G) := ⟨fun h => ⟨_, fun _ h => h, sep_many.1 h⟩⟩
class Strs (zs : List Value) (ss : outParam (List (List UInt8))) : Prop where eq : zs = ss.map str
instance {ss : List (List UInt8)} : Strs (ss.map str) ss := ⟨rfl⟩
instance : Strs [] [] := ⟨rfl⟩
instance (priority := high) {l : List UInt8} {zs : List Value} {ss : List (List UInt8)} [k : Strs zs ss] : Strs (str l :: zs) (l :: ss) := ⟨by rw [k.eq]; rfl⟩
instance {xs ys : List Value} {bs cs : List (List UInt8)} [h : Strs xs bs] [k : Strs ys cs] : Strs (xs ++ ys) (bs ++ cs) := ⟨by rw [h.eq, k.eq, List.map_append]⟩
theorem RdsF.drop {α : Type} {f : α → Value} {ss : List α} {v v' : Value} {l m : Nat} (r : RdsF w0 H v 1 ss.length (ss.map f)) (s : SubSl v v' 1 l m) (hm : m = ss.length - l) : RdsF w0 H v' 1 (ss.drop l).length ((ss.drop l).map f) := by
  have : RdsF w0 H v' 1 m (((ss.map f).drop (l * 1)).take (m * 1)) := inferInstance
  have e1 : ((ss.map f).drop (l * 1)).take (m * 1) = (ss.drop l).map f := by
    rw [Nat.mul_one, Nat.mul_one, ← List.map_drop, List.take_of_length_le (by simp; omega)]
  rw [e1] at this
  rw [List.length_drop, ← hm]
  exact this
theorem RdsL.toF {v : Value} {size n : Nat} {xs : List Value} (h : RdsL w0 H v size n xs) : RdsF w0 H v size n xs := ⟨h.rd⟩
instance {t e size s n l h m : Nat} {v v' : Value} {xs : List Value} {lo hi : Option Value} {zl zh : Int} {B : Prop} [u : TySl P t e s] [r : Rds w v size n xs] [ol : OptI lo 0 zl] [oh : OptI hi n zh] [nl : ToN zl l] [nh : ToN zh h] [hs : TySize P e size] [x : SubSl v v' size l m] :
    Step (Ck (Sl P t v lo hi none) v' ⟨w, ds⟩ ∧ B) ((0 ≤ zl ∧ zl ≤ zh ∧ zh ≤ n) ∧ m = h - l ∧ B) := ⟨fun ⟨hb, hm, hB⟩ => by
  obtain ⟨v2, h1, h2⟩ := sl_run u r ol oh nl nh hs hb
  refine ⟨vl_ok h1 ⟨?_, rfl⟩, hB⟩
  obtain ⟨base, cap, e, _⟩ := r.ex
  subst hm
  rw [(h2.ex base n cap e).1, (x.ex base n cap e).1]⟩
end
theorem least (p : Nat → Prop) (h : ∃ n, p n) : ∃ n, p n ∧ ∀ k, p k → n ≤ k := by
  obtain ⟨n, hn⟩ := h
  induction n using Nat.strongRecOn with
  | _ n ih =>
    by_cases h : ∃ k, k < n ∧ p k
    · obtain ⟨k, h1, h2⟩ := h
      exact ih k h1 h2
    · exact ⟨n, hn, fun k hk => Nat.le_of_not_lt fun hlt => h ⟨k, hlt, hk⟩⟩
/-- A loop, what falls being told beside what holds. -/
theorem l0_ind {s : St} {body : (St → Prop) → St → Prop} (I : Nat → St → Prop) (h0 : ∃ m, I m s) (hs : ∀ m s N, I m s → (∀ m' s', m' < m → I m' s' → N s') → body N s) : L0 s body := by
  classical
  refine ⟨fun s => ∃ m, I m s, fun s => if h : ∃ m, I m s then Classical.choose (least _ h) else 0, h0, fun s h => ?_⟩
  have hf := Classical.choose_spec (least _ h)
  refine hs _ s _ hf.1 fun m' s' hlt hI => ⟨⟨m', hI⟩, ?_⟩
  have h' : ∃ m, I m s' := ⟨m', hI⟩
  dsimp only
  rw [dif_pos h', dif_pos h]
  exact Nat.lt_of_le_of_lt ((Classical.choose_spec (least _ h')).2 _ hI) hlt
/-! arguments -/
section
variable {H : Type} {enc : TypeId × Value → H} {P : Program} {W W' : World} {sp : Nat → Bool} {held : Bool}
theorem str_of (s : ByteArray) : str s.data.toList = .string s := by cases s; simp
theorem arg_list {α : Type} [Inhabited α] {t e size fuel : Nat} {c : Value} {x : DataW H × List MemPlace} (en : α → List Value) (hlen : ∀ y, (en y).length = size) (hone : ∀ y, ∀ u ∈ en y, u.oneCell' = true) (hpos : 0 < size)
    (ht : P.underlying t = some (.slice e)) (hc : P.cellsOf e = size) (each : ∀ fuel cs x, DataW.trod enc P W 0 sp held fuel e cs = some x → cs.length = size → ∃ y, cs = en y)
    (h : DataW.trod enc P W 0 sp held fuel t [c] = some x) : ∃ ys : List α, Arg W c size ys.length (ys.flatMap en) := by
  rcases DataW.trod_slice ht h with ⟨hcs', _⟩ | ⟨a, len, cap, elems, rest, n, _, hcs', _, _, hlc, hcm, hel, hi, _⟩
  · simp only [List.cons.injEq, and_true] at hcs'
    subst hcs'
    exact ⟨[], by simp, by simp, by simp, none, 0, rfl, fun _ => rfl, Nat.le_refl _, fun j u h => by simp at h⟩
  · simp only [List.cons.injEq, and_true] at hcs'
    subst hcs'
    have each : ∀ i, i < len → ∃ y : α, W.cells? 0 (a.add (i * size)) size = some (en y) := by
      intro i hlt
      have h1 := hi i hlt
      rw [hc, List.getElem?_eq_getElem (by omega), Option.bind_eq_some_iff] at h1
      obtain ⟨cs1, hc1, hy1⟩ := h1
      obtain ⟨y, rfl⟩ := each _ _ _ hy1 (World.cells?_some hc1).2.1
      exact ⟨y, hc1⟩
    obtain ⟨l, hl, hq⟩ := list_of len _ each
    have hfl : (l.flatMap en).length = l.length * size := flatMap_len hlen l
    refine ⟨l, by rw [hfl], fun u hu => ?_, by omega, some a, cap, by rw [hl], (fun h => by cases h), by omega, fun j u hu => ⟨a, rfl, ?_⟩⟩
    · obtain ⟨y, _, hy⟩ := List.mem_flatMap.1 hu
      exact hone y u hy
    · have hj : j < len * size := by have := (List.getElem?_eq_some_iff.1 hu).1; rw [hfl, hl] at this; exact this
      have hi : j / size < len := Nat.div_lt_of_lt_mul (by rw [Nat.mul_comm]; exact hj)
      have hm : j % size < size := Nat.mod_lt _ hpos
      have hjj : j / size * size + j % size = j := by rw [Nat.mul_comm]; exact Nat.div_add_mod j size
      have hcell : W.cell? (a.add j) = some u := by
        have hy := getD_at (ys := l) (i := j / size) (by omega)
        have h1 := flatMap_at hlen l (j / size) _ hy (j % size) ((en (l.getD (j / size) default))[j % size]'(by rw [hlen]; exact hm)) (List.getElem?_eq_getElem _)
        rw [hjj] at h1
        rw [h1, Option.some.injEq] at hu
        have h2 := (World.cells?_some (hq (j / size) hi)).2.2 (j % size) (by omega)
        rw [addr_add_add, hjj] at h2
        rw [h2, ← hu]
        exact List.getElem?_eq_getElem _
      exact ⟨by have := World.block_lt_of_cell? W _ hcell; rwa [add_block] at this, hcell⟩
theorem struct_fld {fs : Array Field} {t i fuel : Nat} {f : Field} {cs : List Value} {x : DataW H × List MemPlace} (ht : P.underlying t = some (.struct fs)) (h : DataW.trod enc P W 0 sp held fuel t cs = some x) (hf : fs[i]? = some f) (hc : P.cellsOf f.type = 1) :
    ∃ n y, DataW.trod enc P W 0 sp held n f.type ((cs.drop f.offset).take 1) = some y := by
  obtain ⟨xs, n, _, _, hl, hlen, hall⟩ := DataW.trod_struct ht h
  have h1 := hall i f hf
  rw [hc] at h1
  have hi : i < xs.length := by rw [hlen]; exact (Array.getElem?_eq_some_iff.1 hf).1
  exact ⟨n, xs[i], by rw [h1, List.getElem?_eq_getElem hi]⟩
theorem take_one {l : List Value} {k : Nat} {v : Value} (h : (l.drop k).take 1 = [v]) : l[k]? = some v := by
  have : ((l.drop k).take 1)[0]? = some v := by rw [h]; rfl
  rw [List.getElem?_take] at this
  simpa using this
theorem struct_str {fs : Array Field} {t i fuel : Nat} {f : Field} {cs : List Value} {x : DataW H × List MemPlace} (ht : P.underlying t = some (.struct fs)) (h : DataW.trod enc P W 0 sp held fuel t cs = some x) (hf : fs[i]? = some f) (hu : P.underlying f.type = some .string) (hc : P.cellsOf f.type = 1) :
    ∃ s : ByteArray, cs[f.offset]? = some (.string s) := by
  obtain ⟨n, y, h1⟩ := struct_fld ht h hf hc
  obtain ⟨s, h2, _⟩ := DataW.trod_string hu h1
  exact ⟨s, take_one h2⟩
theorem struct_bool {fs : Array Field} {t i fuel : Nat} {f : Field} {cs : List Value} {x : DataW H × List MemPlace} (ht : P.underlying t = some (.struct fs)) (h : DataW.trod enc P W 0 sp held fuel t cs = some x) (hf : fs[i]? = some f) (hu : P.underlying f.type = some .bool) (hc : P.cellsOf f.type = 1) :
    ∃ b : Bool, cs[f.offset]? = some (.bool b) := by
  obtain ⟨n, y, h1⟩ := struct_fld ht h hf hc
  obtain ⟨s, h2, _⟩ := DataW.trod_bool hu h1
  exact ⟨s, take_one h2⟩
theorem struct_int {fs : Array Field} {t i fuel : Nat} {k : IntKind} {f : Field} {cs : List Value} {x : DataW H × List MemPlace} (ht : P.underlying t = some (.struct fs)) (h : DataW.trod enc P W 0 sp held fuel t cs = some x) (hf : fs[i]? = some f) (hu : P.underlying f.type = some (.int k)) (hc : P.cellsOf f.type = 1) :
    ∃ z : Int, cs[f.offset]? = some (.int k z) ∧ (Lit.int k z).wf = true := by
  obtain ⟨n, y, h1⟩ := struct_fld ht h hf hc
  obtain ⟨z, h2, _, h3⟩ := DataW.trod_int hu h1
  exact ⟨z, take_one h2, h3⟩
theorem list_of_at {l m : List Value} (hl : l.length = m.length) (h : ∀ i, i < m.length → l[i]? = m[i]?) : l = m :=
  List.ext_getElem? fun i => by
    rcases Nat.lt_or_ge i m.length with h1 | h1
    · exact h i h1
    · rw [List.getElem?_eq_none h1, List.getElem?_eq_none (by omega)]
theorem strs_flat (ss : List (List UInt8)) : ss.flatMap (fun l => [str l]) = ss.map str := by
  induction ss with
  | nil => rfl
  | cons a l ih => rw [List.flatMap_cons, ih]; rfl
theorem arg_strs {t e fuel : Nat} {c : Value} {x : DataW H × List MemPlace} (ht : P.underlying t = some (.slice e)) (he : P.underlying e = some .string) (hc : P.cellsOf e = 1) (h : DataW.trod enc P W 0 sp held fuel t [c] = some x) :
    ∃ ss : List (List UInt8), Arg W c 1 ss.length (ss.map str) := by
  obtain ⟨ss, h⟩ := arg_list (α := List UInt8) (fun l => [str l]) (fun _ => rfl) (fun y u hu => by simp at hu; subst hu; rfl) (by decide) ht hc (fun fuel cs x h _ => by
    obtain ⟨s, rfl, _⟩ := DataW.trod_string he h
    exact ⟨s.data.toList, by rw [str_of]⟩) h
  refine ⟨ss, ?_⟩
  have : ss.flatMap (fun l => [str l]) = ss.map str := strs_flat ss
  rwa [this] at h
end
end Go.Vx
