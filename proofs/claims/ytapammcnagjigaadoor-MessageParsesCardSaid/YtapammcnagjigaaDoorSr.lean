import Derived.Test.YtapammcnagjigaaDoorSz
import Derived.ChangeStays
import Derived.ChangeSlices
import Derived.SliceStrings
import Derived.WideShapes
import Derived.ChangeShapes
set_option linter.all false
namespace Go.Vx
open Go.RowKit Go.ChangeShapes Go.WideShapes

/-! what the arguments' reading tells -/
section
variable {H : Type} {enc : TypeId × Value → H} {P : Program} {W W' : World} {sp : Nat → Bool} {held : Bool}
theorem list_of {α : Type} [Inhabited α] (n : Nat) (Q : Nat → α → Prop) (h : ∀ i, i < n → ∃ x, Q i x) : ∃ l : List α, l.length = n ∧ ∀ i, i < n → Q i (l.getD i default) := by
  induction n with
  | zero => exact ⟨[], rfl, fun i hi => by omega⟩
  | succ n ih =>
    obtain ⟨l, hl, hq⟩ := ih fun i hi => h i (by omega)
    obtain ⟨x, hx⟩ := h n (by omega)
    refine ⟨l ++ [x], by simp [hl], fun i hi => ?_⟩
    by_cases e : i < n
    · have := hq i e
      simp only [List.getD_eq_getElem?_getD] at this ⊢
      rwa [List.getElem?_append_left (by omega)]
    · have : i = n := by omega
      subst this
      simp only [List.getD_eq_getElem?_getD]
      rw [List.getElem?_append_right (by omega), hl]
      simpa using hx
theorem arg_nil (W : World) : Arg W (.slice none 0 0) 1 0 [] := ⟨by simp, by simp, by simp, none, 0, rfl, fun _ => rfl, Nat.le_refl _, fun j u h => by simp at h⟩
theorem byte_of {z : Int} (h : (Lit.int .u8 z).wf = true) : byteV (UInt8.ofNat z.toNat) = .int .u8 z := by
  simp only [Lit.wf, Bool.and_eq_true, decide_eq_true_eq] at h
  have h1 : 0 ≤ z := by simpa [IntKind.min, IntKind.signed] using h.1
  have h2 : z ≤ 255 := by simpa [IntKind.max, IntKind.signed, IntKind.bits] using h.2
  show Value.int .u8 _ = _
  congr 1
  rw [UInt8.toNat_ofNat']
  have : z.toNat % 2 ^ 8 = z.toNat := Nat.mod_eq_of_lt (by omega)
  rw [this]; omega
theorem arg_bytes {t e fuel : Nat} {c : Value} {x : DataW H × List MemPlace} (ht : P.underlying t = some (.slice e)) (he : P.underlying e = some (.int .u8)) (hc : P.cellsOf e = 1) (h : DataW.trod enc P W 0 sp held fuel t [c] = some x) :
    ∃ bs : List UInt8, Arg W c 1 bs.length (bs.map byteV) := by
  rcases open_ints ht he hc h with ⟨hcs, _⟩ | ⟨a, len, cap, zs, hcs, _, hlc, hcm, hzl, _, hcell, hwf⟩
  · simp only [List.cons.injEq, and_true] at hcs
    subst hcs
    exact ⟨[], arg_nil W⟩
  · simp only [List.cons.injEq, and_true] at hcs
    subst hcs
    have hge : len ≤ zs.length := by rw [hzl]; split <;> omega
    have hl : ((zs.take len).map fun z => UInt8.ofNat z.toNat).length = len := by simp; omega
    refine ⟨(zs.take len).map fun z => UInt8.ofNat z.toNat, by simp, fun u hu => ?_, by omega, some a, cap, by rw [hl], (fun h => by cases h), by omega, fun j u hu => ⟨a, rfl, ?_⟩⟩
    · simp only [List.mem_map] at hu
      obtain ⟨_, _, rfl⟩ := hu
      rfl
    · simp only [List.getElem?_map, List.getElem?_take] at hu
      split at hu
      · rename_i hj
        have hz := hcell j (by omega)
        have hzj : zs[j]? = some (zs.getD j 0) := by simp [show j < zs.length by omega]
        rw [hzj] at hu
        simp only [Option.map_some, Option.some.injEq] at hu
        rw [byte_of (hwf _ (List.mem_of_getElem? hzj))] at hu
        subst hu
        exact ⟨by have := World.block_lt_of_cell? W _ hz; rwa [add_block] at this, hz⟩
      · simp at hu
/-- Rows of rows of bytes. -/
structure Pieces (w0 : World) (v : Value) (pss : List (List UInt8)) : Prop where
  outer : ∃ vs : List Value, Arg w0 v 1 pss.length vs ∧ vs.length = pss.length ∧ ∀ i, i < pss.length → Arg w0 (vs.getD i undef) 1 (pss.getD i default).length ((pss.getD i default).map byteV)
theorem arg_pieces {t s e fuel : Nat} {c : Value} {x : DataW H × List MemPlace} (ht : P.underlying t = some (.slice s)) (hs : P.underlying s = some (.slice e)) (he : P.underlying e = some (.int .u8)) (hcs : P.cellsOf s = 1) (hc : P.cellsOf e = 1) (h : DataW.trod enc P W 0 sp held fuel t [c] = some x) :
    ∃ pss, Pieces W c pss := by
  rcases DataW.trod_slice ht h with ⟨hcs', _⟩ | ⟨a, len, cap, elems, rest, n, _, hcs', _, _, hlc, hcm, hel, hi, _⟩
  · simp only [List.cons.injEq, and_true] at hcs'
    subst hcs'
    exact ⟨[], [], arg_nil W, rfl, fun i hi => by simp at hi⟩
  · simp only [List.cons.injEq, and_true] at hcs'
    subst hcs'
    have each : ∀ i, i < len → ∃ p : Value × List UInt8, W.cell? (a.add i) = some p.1 ∧ Arg W p.1 1 p.2.length (p.2.map byteV) := by
      intro i hlt
      have h1 := hi i hlt
      rw [hcs, Nat.mul_one, List.getElem?_eq_getElem (by omega), Option.bind_eq_some_iff] at h1
      obtain ⟨cs1, hc1, hy1⟩ := h1
      have hlen : cs1.length = 1 := (World.cells?_some hc1).2.1
      match cs1, hlen with
      | [c1], _ =>
        obtain ⟨bs, hbs⟩ := arg_bytes hs he hc hy1
        exact ⟨(c1, bs), cell_of_cells?_one hc1, hbs⟩
    obtain ⟨l, hl, hq⟩ := list_of len _ each
    have hcell : ∀ j, j < len → (l.map (·.1)).getD j undef = (l.getD j default).1 := fun j hj => by simp [hl, hj]
    have hbs : ∀ j, j < len → (l.map (·.2)).getD j default = (l.getD j default).2 := fun j hj => by simp [hl, hj]
    refine ⟨l.map (·.2), l.map (·.1), ⟨by simp, fun u hu => ?_, by simp [hl]; omega, some a, cap, by simp [hl], (fun h => by cases h), by simp [hl]; omega, fun j u hu => ⟨a, rfl, ?_⟩⟩, by simp, fun i hlt => ?_⟩
    · obtain ⟨j, hj⟩ := List.getElem?_of_mem hu
      have hlt : j < len := by have := (List.getElem?_eq_some_iff.1 hj).1; simpa [hl] using this
      have := (hq j hlt).2.ex
      rw [← hcell j hlt] at this
      obtain ⟨b, cp, hv, _⟩ := this
      have : (l.map (·.1)).getD j undef = u := by simp [hj]
      rw [this] at hv
      rw [hv]; rfl
    · have hlt : j < len := by have := (List.getElem?_eq_some_iff.1 hu).1; simpa [hl] using this
      have h1 := (hq j hlt).1
      rw [← hcell j hlt] at h1
      have : (l.map (·.1)).getD j undef = u := by simp [hu]
      rw [this] at h1
      exact ⟨by have := World.block_lt_of_cell? W _ h1; rwa [add_block] at this, h1⟩
    · have hlt' : i < len := by simpa [hl] using hlt
      rw [hcell i hlt', hbs i hlt']
      exact (hq i hlt').2
/-- The arguments are behind the call what they were. -/
theorem args_stay {T : TypeId → Prop} (K : Kids P T) (hsz : ∀ {t e : TypeId}, T t → P.underlying t = some (.slice e) → 0 < P.cellsOf e) (hb : Below W.heap.size W W') :
    ∀ {ts : List TypeId} {vs : List Value} {ds : List (DataW H)} {p : List MemPlace}, (∀ t ∈ ts, T t) → DataW.TrodAll enc P W 0 (fun _ => true) true ts vs ds p → (∀ q ∈ p, q.block < W.heap.size) →
      DataW.TrodAll enc P W' 0 (fun b => decide (b < W.heap.size)) true ts vs ds p := by
  intro ts
  induction ts with
  | nil =>
    intro vs ds p _ h _
    cases vs <;> cases ds <;> simp_all [DataW.TrodAll]
  | cons t ts ih =>
    intro vs ds p hT h hp
    obtain ⟨v, vs1, d, ds1, a, b, rfl, rfl, rfl, ⟨fuel, hf⟩, h2⟩ := trodAll_cons h
    refine ⟨a, b, ⟨fuel, DataW.trod_stays K hsz (fun h => by cases h) (hT t (List.mem_cons_self ..)) hf (fun q hq => hb.same (hp q (by simp [hq]))) (fun q hq => by simpa using hp q (by simp [hq]))⟩, ih (fun t ht => hT t (List.mem_cons_of_mem _ ht)) h2 (fun q hq => hp q (by simp [hq])), rfl⟩
end
end Go.Vx
