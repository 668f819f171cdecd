import Derived.Test.YtapammcnagjigaaDoorSi
import Derived.SizedLaws
set_option linter.all false
namespace Go.Vx
open Go.RowKit Go.Lib

/-! how long the strings in an argument may be -/
theorem list_ofQ {α : Type} [Inhabited α] (p : Nat → α → Prop) : ∀ n, (∀ i, i < n → ∃ y, p i y) → ∃ l : List α, l.length = n ∧ ∀ i, i < n → p i (l.getD i default) := by
  intro n
  induction n with
  | zero => intro _; exact ⟨[], rfl, fun i h => by omega⟩
  | succ n ih =>
    intro h
    obtain ⟨l, hl, hp⟩ := ih fun i hi => h i (by omega)
    obtain ⟨y, hy⟩ := h n (by omega)
    refine ⟨l ++ [y], by simp [hl], fun i hi => ?_⟩
    rcases Nat.lt_or_ge i n with q | q
    · have := hp i q
      rwa [List.getD_eq_getElem?_getD, List.getElem?_append_left (by omega), ← List.getD_eq_getElem?_getD]
    · obtain rfl : i = n := by omega
      rw [List.getD_eq_getElem?_getD, List.getElem?_append_right (by omega), hl, Nat.sub_self]
      exact hy
section
variable {H : Type} {enc : TypeId × Value → H} {P : Program} {W : World} {sp : Nat → Bool} {held : Bool}
theorem weightsAll_mem {e : TypeId} : ∀ {l : List (DataW H)} {d : DataW H}, d ∈ l → ∀ n ∈ d.weights P e, n ∈ DataW.weightsAll P e l
  | d' :: r, d, hd, n, hn => by
    simp only [DataW.weightsAll, List.mem_append]
    rcases List.mem_cons.1 hd with rfl | h
    · exact Or.inl hn
    · exact Or.inr (weightsAll_mem h n hn)
theorem struct_strW {fs : Array Field} {t i fuel : Nat} {f : Field} {cs : List Value} {x : DataW H × List MemPlace} (ht : P.underlying t = some (.struct fs)) (h : DataW.trod enc P W 0 sp held fuel t cs = some x) (hf : fs[i]? = some f) (hu : P.underlying f.type = some .string) (hc : P.cellsOf f.type = 1) :
    ∃ s : ByteArray, cs[f.offset]? = some (.string s) ∧ s.data.toList.length ∈ x.1.weights P t := by
  obtain ⟨xs, n, _, hx, hl, hlen, hall⟩ := DataW.trod_struct ht h
  have h1 := hall i f hf
  rw [hc] at h1
  have hi : i < xs.length := by rw [hlen]; exact (Array.getElem?_eq_some_iff.1 hf).1
  rw [List.getElem?_eq_getElem hi] at h1
  obtain ⟨s, h2, h3⟩ := DataW.trod_string hu h1
  refine ⟨s, take_one h2, ?_⟩
  rw [hx]
  simp only [DataW.weights, ht]
  refine DataW.weights_mem_each (j := i) (t := f.type) (d := .lit (.string s.data.toList)) (by simpa using congrArg (Option.map (·.type)) hf) ?_ _ (by simp [DataW.weights])
  rw [List.getElem?_map, List.getElem?_eq_getElem hi]
  simp [h3]
theorem arg_listQ {α : Type} [Inhabited α] {t e size fuel : Nat} {c : Value} {x : DataW H × List MemPlace} (en : α → List Value) (Q : DataW H → α → Prop) (hlen : ∀ y, (en y).length = size) (hone : ∀ y, ∀ u ∈ en y, u.oneCell' = true) (hpos : 0 < size)
    (ht : P.underlying t = some (.slice e)) (hc : P.cellsOf e = size) (each : ∀ fuel cs x, DataW.trod enc P W 0 sp held fuel e cs = some x → cs.length = size → ∃ y, cs = en y ∧ Q x.1 y)
    (h : DataW.trod enc P W 0 sp held fuel t [c] = some x) : ∃ ys : List α, Arg W c size ys.length (ys.flatMap en) ∧ ∀ y ∈ ys, ∃ es sps d, x.1 = .slice es sps ∧ d ∈ es ∧ Q d y := by
  rcases DataW.trod_slice ht h with ⟨hcs', _⟩ | ⟨a, len, cap, elems, rest, n, _, hcs', hx, _, hlc, hcm, hel, hi, _⟩
  · simp only [List.cons.injEq, and_true] at hcs'
    subst hcs'
    exact ⟨[], ⟨by simp, by simp, by simp, none, 0, rfl, fun _ => rfl, Nat.le_refl _, fun j u h => by simp at h⟩, fun y hy => by simp at hy⟩
  · simp only [List.cons.injEq, and_true] at hcs'
    subst hcs'
    have each : ∀ i, i < len → ∃ y : α, W.cells? 0 (a.add (i * size)) size = some (en y) ∧ ∃ d ∈ elems.map (·.1), Q d y := by
      intro i hlt
      have h1 := hi i hlt
      rw [hc, List.getElem?_eq_getElem (by omega), Option.bind_eq_some_iff] at h1
      obtain ⟨cs1, hc1, hy1⟩ := h1
      obtain ⟨y, rfl, hq⟩ := each _ _ _ hy1 (World.cells?_some hc1).2.1
      exact ⟨y, hc1, _, List.mem_map.2 ⟨_, List.getElem_mem _, rfl⟩, hq⟩
    obtain ⟨l, hl, hq⟩ := list_ofQ _ len each
    have hfl : (l.flatMap en).length = l.length * size := flatMap_len hlen l
    refine ⟨l, ⟨by rw [hfl], fun u hu => ?_, by omega, some a, cap, by rw [hl], (fun h => by cases h), by omega, fun j u hu => ⟨a, rfl, ?_⟩⟩, fun y hy => ?_⟩
    · obtain ⟨y, _, hy⟩ := List.mem_flatMap.1 hu
      exact hone y u hy
    · have hj : j < len * size := by have := (List.getElem?_eq_some_iff.1 hu).1; rw [hfl, hl] at this; exact this
      have hi : j / size < len := Nat.div_lt_of_lt_mul (by rw [Nat.mul_comm]; exact hj)
      have hm : j % size < size := Nat.mod_lt _ hpos
      have hjj : j / size * size + j % size = j := by rw [Nat.mul_comm]; exact Nat.div_add_mod j size
      have hcell : W.cell? (a.add j) = some u := by
        have hy := getD_at (ys := l) (i := j / size) (by omega)
        have h1 := flatMap_at hlen l (j / size) _ hy (j % size) ((en (l.getD (j / size) default))[j % size]'(by rw [hlen]; exact hm)) (List.getElem?_eq_getElem _)
        rw [hjj] at h1
        rw [h1, Option.some.injEq] at hu
        have h2 := (World.cells?_some (hq (j / size) hi).1).2.2 (j % size) (by omega)
        rw [addr_add_add, hjj] at h2
        rw [h2, ← hu]
        exact List.getElem?_eq_getElem _
      exact ⟨by have := World.block_lt_of_cell? W _ hcell; rwa [add_block] at this, hcell⟩
    · obtain ⟨j, hj, rfl⟩ := List.getElem_of_mem hy
      obtain ⟨_, d, hd, hq⟩ := hq j (by omega)
      rw [List.getD_eq_getElem?_getD, List.getElem?_eq_getElem hj] at hq
      exact ⟨_, _, d, congrArg Prod.fst hx, hd, hq⟩
/-- Of a slice among the arguments: what is weighed of its things is within reach. -/
theorem sized_mem {ts : List TypeId} {ds : List (DataW H)} (h : (DataW.weightsEach P ts ds).all (· ≤ reachBytes) = true) {j : Nat} {t e : TypeId} {es sps : List (DataW H)} {d : DataW H} (ht : ts[j]? = some t) (hd : ds[j]? = some (.slice es sps)) (hu : P.underlying t = some (.slice e)) (hm : d ∈ es) {n : Nat} (hn : n ∈ d.weights P e) : n ≤ 140737488351232 := by
  have := List.all_eq_true.1 h _ (DataW.weights_mem_each ht hd n (by simp only [DataW.weights, hu]; exact List.mem_cons_of_mem _ (List.mem_append_left _ (weightsAll_mem hm n hn))))
  exact of_decide_eq_true this
end
end Go.Vx
