import Derived.Test.YtapammcnagjigaaDoorSu
set_option linter.all false
namespace Go.Vx
open Go.RowKit

/-! maps -/
section
variable {α : Type} [DecidableEq α]
def getA (es : List (α × Value)) (k : α) : Option Value := (es.find? fun p => decide (p.1 = k)).map (·.2)
def putA (es : List (α × Value)) (k : α) (v : Value) : List (α × Value) := match es.findIdx? fun p => decide (p.1 = k) with | some j => es.set j (k, v) | none => es ++ [(k, v)]
def delA (es : List (α × Value)) (k : α) : List (α × Value) := match es.findIdx? fun p => decide (p.1 = k) with | some j => es.eraseIdx j | none => es
end
/-- What kind of keys: how they are written. -/
class KeyF {α : Type} [DecidableEq α] (d : outParam TypeDesc) (f : α → Value) : Prop where
  same : ∀ a b, Instr.sameNow d (f a) (f b) = some (decide (a = b))
  bits : ∀ a, Instr.sameBits 10000 (f a) (f a) = true
  chk : ∀ (P : Program) (t : TypeId) (e : Bool) (a : α) (w : World), P.underlying t = some d → (Instr.checkKey e 10000 t (f a)).run P w = .ok () w
abbrev intV (z : Int) : Value := .int .i64 z
theorem chk_of {P : Program} {t : TypeId} {e : Bool} {v : Value} {w : World} (h : ∀ n, (Instr.checkKey e (n + 1) t v).run P w = .ok () w) : (Instr.checkKey e 10000 t v).run P w = .ok () w := h 9999
theorem bits_of {v : Value} (h : ∀ n, Instr.sameBits (n + 1) v v = true) : Instr.sameBits 10000 v v = true := h 9999
instance : KeyF (.int .i64) intV := ⟨fun a b => by simp only [Instr.sameNow, if_true]; congr 1, fun a => bits_of fun n => by simp [Instr.sameBits], fun P t e a w h => chk_of fun n => by simp [Instr.checkKey, run_underlying h]⟩
instance : KeyF .bool Value.bool := ⟨fun a b => by simp only [Instr.sameNow]; cases a <;> cases b <;> rfl, fun a => bits_of fun n => by simp [Instr.sameBits], fun P t e a w h => chk_of fun n => by simp [Instr.checkKey, run_underlying h]⟩
theorem ba_beq (a b : List UInt8) : ((ByteArray.mk a.toArray) == (ByteArray.mk b.toArray)) = decide (a = b) := by
  have h : (ByteArray.mk a.toArray = ByteArray.mk b.toArray) ↔ a = b := ⟨fun h => by
    have := congrArg (fun x => x.data.toList) h
    simpa using this, fun h => by rw [h]⟩
  have h2 : ((ByteArray.mk a.toArray) == (ByteArray.mk b.toArray)) = true ↔ ByteArray.mk a.toArray = ByteArray.mk b.toArray := by
    constructor
    · intro h
      have e : a.toArray = b.toArray := by simpa using (show (a.toArray == b.toArray) = true from h)
      rw [e]
    · intro h
      have e : a.toArray = b.toArray := congrArg (·.data) h
      show (a.toArray == b.toArray) = true
      rw [e]; simp
  rw [Bool.eq_iff_iff, h2, h]; simp
instance : KeyF .string (fun l => str l) := ⟨fun a b => by simp only [Instr.sameNow, ba_beq], fun a => bits_of fun n => by simp [Instr.sameBits, ba_beq], fun P t e a w h => chk_of fun n => by simp [Instr.checkKey, run_underlying h]⟩
def mkE {α : Type} (f : α → Value) (es : List (α × Value)) (bs : List Nat) : List MapEntry := List.zipWith (fun p b => ⟨f p.1, p.2, b⟩) es bs
/-- A map. -/
def mpb {α : Type} (b : Nat) (f : α → Value) (es : List (α × Value)) (bs : List Nat) : SL where
  ok S w := (∀ k, S k ↔ k = b) ∧ bs.length = es.length ∧ bs.Nodup ∧ ∃ clock, (∀ x ∈ bs, x < clock) ∧ w.heap[b]? = some (.map (mkE f es bs).toArray clock)
  loc he h := ⟨h.1, h.2.1, h.2.2.1, let ⟨c, h1, h2⟩ := h.2.2.2; ⟨c, h1, (he b ((h.1 b).2 rfl)).trans h2⟩⟩
  lt h k hk := by obtain ⟨c, _, h2⟩ := h.2.2.2; rw [(h.1 k).1 hk]; exact (Array.getElem?_eq_some_iff.1 h2).1
def mpk {α : Type} (b : Nat) (f : α → Value) (es : List (α × Value)) : SL := any fun bs => mpb b f es bs
/-- A map without entries. -/
def mp0 (b : Nat) : SL := mpk b intV []
theorem mp0_as {α : Type} (b : Nat) (f : α → Value) {S : Nat → Prop} {w : World} (h : (mp0 b).ok S w) : (mpk b f []).ok S w := by
  obtain ⟨bs, h1, h2, h3, c, h4, h5⟩ := h
  have : bs = [] := List.eq_nil_of_length_eq_zero h2
  subst this
  exact ⟨[], h1, h2, h3, c, h4, h5⟩
class MapIn {α : Type} (H : List SL) (b : Nat) (f : α → Value) (es : outParam (List (α × Value))) (R : outParam (List SL)) : Prop where perm : ∀ {S w}, sep H S w → sep (mpk b f es :: R) S w
instance (priority := high) {α : Type} {b : Nat} {f : α → Value} {es : List (α × Value)} {H : List SL} : MapIn (mpk b f es :: H) b f es H := ⟨id⟩
instance (priority := high) {α : Type} {b : Nat} {f : α → Value} {H : List SL} : MapIn (mp0 b :: H) b f [] H := ⟨fun ⟨S1, S2, h1, h2, h3, h4⟩ => ⟨S1, S2, h1, h2, mp0_as b f h3, h4⟩⟩
instance {α : Type} {A : SL} {b : Nat} {f : α → Value} {es : List (α × Value)} {H R : List SL} [h : MapIn H b f es R] : MapIn (A :: H) b f es (A :: R) := ⟨fun x => sep_swap (sep_cons h.perm x)⟩
theorem subMap {α : Type} {H' R G : List SL} {b : Nat} {f : α → Value} {es es' : List (α × Value)} [r : MapIn H' b f es R] (h : es = es') (k : Sub R G) : Sub H' (mpk b f es' :: G) := ⟨fun h' => by
  subst h; exact (Sub.cons k).sub (r.perm h')⟩

theorem mkE_get {α : Type} (f : α → Value) : ∀ (es : List (α × Value)) (bs : List Nat) (j : Nat) (p : α × Value), bs.length = es.length → es[j]? = some p → ∃ b, bs[j]? = some b ∧ (mkE f es bs)[j]? = some ⟨f p.1, p.2, b⟩ := by
  intro es
  induction es with
  | nil => intro bs j p _ h; simp at h
  | cons q es ih =>
    intro bs j p hl h
    cases bs with
    | nil => simp at hl
    | cons b bs =>
      cases j with
      | zero => simp only [List.getElem?_cons_zero, Option.some.injEq] at h; subst h; exact ⟨b, rfl, rfl⟩
      | succ j => exact ih bs j p (by simpa using hl) (by simpa using h)
theorem mkE_len {α : Type} (f : α → Value) (es : List (α × Value)) (bs : List Nat) (h : bs.length = es.length) : (mkE f es bs).length = es.length := by simp [mkE, h]
section
variable {α : Type} [DecidableEq α] {d : TypeDesc} {f : α → Value}
theorem findNow_eq (kf : KeyF d f) (k : α) : ∀ (es : List (α × Value)) (bs : List Nat) (i : Nat), bs.length = es.length →
    Instr.findNow d (f k) (mkE f es bs) i = some ((es.findIdx? fun p => decide (p.1 = k)).bind fun j => (es[j]?).map fun p => (i + j, p.2)) := by
  intro es
  induction es with
  | nil => intro bs i h; have : bs = [] := List.eq_nil_of_length_eq_zero h; subst this; rfl
  | cons p es ih =>
    intro bs i h
    cases bs with
    | nil => simp at h
    | cons b bs =>
      have e : mkE f (p :: es) (b :: bs) = ⟨f p.1, p.2, b⟩ :: mkE f es bs := rfl
      rw [e]
      simp only [Instr.findNow, kf.same, List.findIdx?_cons]
      by_cases hk : k = p.1
      · have h2 : decide (p.1 = k) = true := by simp [hk]
        simp [hk]
      · have h2 : decide (p.1 = k) = false := by simp [Ne.symm hk]
        rw [decide_eq_false hk, h2]
        simp only [ih bs (i + 1) (by simpa using h)]
        cases hf : es.findIdx? fun p => decide (p.1 = k) with
        | none => simp
        | some j => simp; cases es[j]? <;> simp; omega
theorem getA_eq (es : List (α × Value)) (k : α) : getA es k = (es.findIdx? fun p => decide (p.1 = k)).bind fun j => (es[j]?).map (·.2) := by
  unfold getA
  induction es with
  | nil => rfl
  | cons p es ih =>
    rw [List.find?_cons, List.findIdx?_cons]
    by_cases hk : p.1 = k
    · simp [hk]
    · rw [decide_eq_false hk]
      simp only [ih]
      cases es.findIdx? fun p => decide (p.1 = k) <;> simp
theorem find_key {P : Program} {kt : TypeId} {w : World} (kf : KeyF d f) (hk : P.underlying kt = some d) (k : α) (es : List (α × Value)) (bs : List Nat) (h : bs.length = es.length) :
    (Instr.findKey kt (f k) (mkE f es bs)).run P w = .ok ((es.findIdx? fun p => decide (p.1 = k)).bind fun j => (es[j]?).map fun p => (j, p.2)) w := by
  have h2 := findNow_eq kf k es bs 0 h
  simp only [Nat.zero_add] at h2
  simp [Instr.findKey, Sem.run_bind, run_underlying hk, h2]
theorem stays_key {P : Program} {w : World} (kf : KeyF d f) (k : α) : (Instr.keyThatStays (f k) (f k)).run P w = .ok (f k) w := by
  simp [Instr.keyThatStays, kf.bits]
theorem getObj_run {P : Program} {w : World} {r : Nat} {en : Array MapEntry} {c : Nat} (h : w.heap[r]? = some (.map en c)) : (getObj r).run P w = .ok (.map en c) w := by simp [getObj, Sem.run, h]
theorem setObj_run {P : Program} {w : World} {r : Nat} {en : Array MapEntry} {c : Nat} (o' : Obj) (h : w.heap[r]? = some (.map en c)) : (setObj r o').run P w = .ok () (w.putObj r o') := by simp [setObj, Sem.run, h, World.putObj]
end
section
variable {P : Program} {w w0 : World} {H R : List SL} {ds : List Deferred} {α : Type} [DecidableEq α] {d : TypeDesc} {f : α → Value}
theorem Hv.mpIn {b : Nat} {es : List (α × Value)} (h : Hv w0 (mpk b f es :: R) w) : ∃ bs clock, bs.length = es.length ∧ bs.Nodup ∧ (∀ x ∈ bs, x < clock) ∧ w.heap[b]? = some (.map (mkE f es bs).toArray clock) := by
  obtain ⟨S, _, bs, _, h2, h3, c, h4, h5⟩ := h.ok
  exact ⟨bs, c, h2, h3, h4, h5⟩
theorem Hv.mpSet {b : Nat} {es es' : List (α × Value)} {bs' : List Nat} {c : Nat} (h : Hv w0 (mpk b f es :: R) w) (h1 : bs'.length = es'.length) (h2 : bs'.Nodup) (h3 : ∀ x ∈ bs', x < c) : Hv w0 (mpb b f es' bs' :: R) (w.putObj b (.map (mkE f es' bs').toArray c)) := by
  obtain ⟨bs, c0, _, _, _, h5⟩ := h.mpIn
  have hlt := (Array.getElem?_eq_some_iff.1 h5).1
  refine Hv.step (B := [mpb b f es' bs']) h fun S hS hb => ?_
  obtain ⟨_, hb, _⟩ := hb
  refine ⟨S, ⟨S, emp, fun b => ⟨.inl, fun h => h.elim id fun h => h.elim⟩, fun b _ h => h, ⟨hb, h1, h2, c, h3, World.putObj_heap_same hlt⟩, fun b h => h⟩, fun b h => .inl h, ?_⟩
  exact ⟨rfl, rfl, rfl, by simp, fun k hk hs => World.putObj_heap_other fun e => hs ((hb k).2 e)⟩
theorem Hv.mpAny {b : Nat} {es : List (α × Value)} {bs : List Nat} (h : Hv w0 (mpb b f es bs :: R) w) : Hv w0 (mpk b f es :: R) w := Hv.give bs h
class TyMap (P : Program) (t : TypeId) (k e : outParam Nat) (d : outParam TypeDesc) : Prop where
  u : P.underlying t = some (.map k e)
  k : P.underlying k = some d
instance {t : TypeId} {K : Value → St → Prop} [o : Hv w0 H w] : Step (Mm P t none K ⟨w, ds⟩) (∀ b w', Hv w0 (mp0 b :: H) w' → K (.map (some b)) ⟨w', ds⟩) := ⟨fun h => by
  have hn : Hv w0 (mp0 w.heap.size :: H) (w.alloc (.map #[] 0)) := by
    refine o.new (B := [mp0 w.heap.size]) ⟨fun b => b = w.heap.size, ⟨fun b => b = w.heap.size, emp, fun b => ⟨.inl, fun h => h.elim id fun h => h.elim⟩, fun b _ h => h, ⟨[], fun k => Iff.rfl, rfl, List.nodup_nil, 0, by simp, heap_alloc_new w _⟩, fun b h => h⟩, fun b h => by omega⟩ (Kept.alloc _ _ _)
  exact vl_ok (w' := w.alloc (.map #[] 0)) (by simp [Instr.makeMap, Sem.run_bind, run_newObj_alloc]) (h _ _ hn)⟩
theorem idx_lt {es : List (α × Value)} {k : α} {j : Nat} (h : (es.findIdx? fun p => decide (p.1 = k)) = some j) : ∃ v, es[j]? = some (k, v) := by
  obtain ⟨hl, h1, _⟩ := List.findIdx?_eq_some_iff_getElem.1 h
  have : es[j].1 = k := by simpa using h1
  exact ⟨es[j].2, by rw [List.getElem?_eq_getElem hl, ← this]⟩
theorem mkE_set {es : List (α × Value)} {bs : List Nat} {j : Nat} {k : α} {v0 v : Value} (hl : bs.length = es.length) (h : es[j]? = some (k, v0)) :
    (mkE f es bs).toArray.modify j (fun e => { e with key := f k, val := v }) = (mkE f (es.set j (k, v)) bs).toArray := by
  apply Array.toList_inj.1
  apply List.ext_getElem?
  intro i
  simp only [Array.toList_modify, List.getElem?_modify, mkE, List.getElem?_zipWith, List.getElem?_set]
  by_cases hij : j = i
  · subst hij
    have hj : j < es.length := (List.getElem?_eq_some_iff.1 h).1
    have hb : bs[j]? = some (bs[j]'(by omega)) := List.getElem?_eq_getElem _
    simp [h, hb, hj]
  · simp [hij]
theorem mkE_push {es : List (α × Value)} {bs : List Nat} {k : α} {v : Value} {c : Nat} (hl : bs.length = es.length) : (mkE f es bs).toArray.push ⟨f k, v, c⟩ = (mkE f (es ++ [(k, v)]) (bs ++ [c])).toArray := by
  apply Array.toList_inj.1
  simp only [mkE, List.push_toArray]
  rw [List.zipWith_append hl.symm]
  rfl
theorem mkE_del {es : List (α × Value)} {bs : List Nat} {j : Nat} : (mkE f es bs).eraseIdx j = mkE f (es.eraseIdx j) (bs.eraseIdx j) := by
  apply List.ext_getElem?
  intro i
  simp only [mkE, List.getElem?_eraseIdx, List.getElem?_zipWith]
  split <;> rfl
theorem map_put {t b : Nat} {k : α} {x : Value} {es : List (α × Value)} {kt e : Nat} [u : TyMap P t kt e d] [kf : KeyF d f] (h : Hv w0 (mpk b f es :: R) w) : ∃ w', (Instr.mapUpdate t (.map (some b)) (f k) x).run P w = .ok () w' ∧ Hv w0 (mpk b f (putA es k x) :: R) w' := by
  obtain ⟨bs, clock, h1, h2, h3, h4⟩ := h.mpIn
  have hc : ∀ w, (Instr.checkKey false 10000 kt (f k)).run P w = .ok () w := fun w => kf.chk P kt false k w u.k
  have hf : ∀ w, (Instr.findKey kt (f k) (mkE f es bs)).run P w = _ := fun w => find_key (w := w) kf u.k k es bs h1
  have hs : ∀ w, (Instr.keyThatStays (f k) (f k)).run P w = .ok (f k) w := fun w => stays_key kf k
  cases hi : es.findIdx? fun p => decide (p.1 = k) with
  | none =>
    have hn : (∀ x ∈ bs ++ [clock], x < clock + 1) ∧ (bs ++ [clock]).Nodup := by
      refine ⟨fun x hx => ?_, ?_⟩
      · rcases List.mem_append.1 hx with h | h
        · have := h3 x h; omega
        · simp at h; omega
      · rw [List.nodup_append]
        exact ⟨h2, by simp, fun a ha b hb => by simp at hb; have := h3 a ha; omega⟩
    refine ⟨w.putObj b (.map (mkE f (es ++ [(k, x)]) (bs ++ [clock])).toArray (clock + 1)), ?_, ?_⟩
    · have hf' := hf w
      rw [hi] at hf'
      simp only [Option.bind_none] at hf'
      simp only [Instr.mapUpdate, Sem.run_bind, run_underlying u.u, Result.andThen_ok, getObj_run h4, hc, hf', setObj_run _ h4, mkE_push h1]
    · have : putA es k x = es ++ [(k, x)] := by unfold putA; rw [hi]
      rw [this]
      exact (h.mpSet (by simp [h1]) hn.2 hn.1).mpAny
  | some j =>
    obtain ⟨v0, hv0⟩ := idx_lt hi
    obtain ⟨bj, _, hej⟩ := mkE_get f es bs j _ h1 hv0
    have hkey : ((((mkE f es bs).toArray[j]?).map (·.key)).getD (f k)) = f k := by simp [hej]
    refine ⟨w.putObj b (.map (mkE f (es.set j (k, x)) bs).toArray clock), ?_, ?_⟩
    · have hf' := hf w
      rw [hi] at hf'
      simp only [Option.bind_some, hv0, Option.map_some] at hf'
      simp only [Instr.mapUpdate, Sem.run_bind, run_underlying u.u, Result.andThen_ok, getObj_run h4, hc, hf', hkey, hs, setObj_run _ h4, mkE_set h1 hv0]
    · have : putA es k x = es.set j (k, x) := by unfold putA; rw [hi]
      rw [this]
      exact (h.mpSet (by simp [h1]) h2 h3).mpAny
/-- What is found, or the zero. -/
def orZ (o : Option Value) (z : Value) : Value := o.getD z
theorem map_get {t b : Nat} {k : α} {es : List (α × Value)} {kt e : Nat} {z : Value} {ok : Bool} (u : TyMap P t kt e d) (kf : KeyF d f) (hz : (zeroValue e).run P w = .ok z w) (h : Hv w0 (mpk b f es :: R) w) :
    (Instr.lookup t (.map (some b)) (f k) ok).run P w = .ok (if ok then .tuple #[orZ (getA es k) z, .bool (getA es k).isSome] else orZ (getA es k) z) w := by
  obtain ⟨bs, clock, h1, h2, h3, h4⟩ := h.mpIn
  have hc : ∀ e w, (Instr.checkKey e 10000 kt (f k)).run P w = .ok () w := fun e w => kf.chk P kt e k w u.k
  have hf := find_key (P := P) (w := w) kf u.k k es bs h1
  have hg := getA_eq es k
  cases hi : es.findIdx? fun p => decide (p.1 = k) with
  | none =>
    rw [hi] at hf hg
    simp only [Option.bind_none] at hf hg
    simp only [Instr.lookup, Sem.run_bind, run_underlying u.u, Result.andThen_ok, getObj_run h4, hc, hf, hz, Sem.run_pure, hg, orZ]
    cases ok <;> rfl
  | some j =>
    obtain ⟨v0, hv0⟩ := idx_lt hi
    rw [hi] at hf hg
    simp only [Option.bind_some, hv0, Option.map_some] at hf hg
    simp only [Instr.lookup, Sem.run_bind, run_underlying u.u, Result.andThen_ok, getObj_run h4, hc, hf, Sem.run_pure, hg, orZ]
    cases ok <;> rfl
theorem map_del {t b : Nat} {k : α} {es : List (α × Value)} {kt e ty : Nat} {ts : List Nat} [u : TyMap P t kt e d] [kf : KeyF d f] (h : Hv w0 (mpk b f es :: R) w) : ∃ w', (Builtin.delete_ (t :: ts).toArray ty #[.map (some b), f k]).run P w = .ok (.tuple #[]) w' ∧ Hv w0 (mpk b f (delA es k) :: R) w' := by
  obtain ⟨bs, clock, h1, h2, h3, h4⟩ := h.mpIn
  have hc : ∀ e w, (Instr.checkKey e 10000 kt (f k)).run P w = .ok () w := fun e w => kf.chk P kt e k w u.k
  have hf := find_key (P := P) (w := w) kf u.k k es bs h1
  have ht : ((t :: ts).toArray[0]? : Option Nat) = some t := rfl
  cases hi : es.findIdx? fun p => decide (p.1 = k) with
  | none =>
    rw [hi] at hf
    simp only [Option.bind_none] at hf
    refine ⟨w.putObj b (.map (mkE f es bs).toArray clock), ?_, ?_⟩
    · simp [Builtin.delete_, Sem.run_bind, run_underlying u.u, getObj_run h4, hc, hf, setObj_run _ h4]
    · have : delA es k = es := by unfold delA; rw [hi]
      rw [this]
      exact (h.mpSet h1 h2 h3).mpAny
  | some j =>
    obtain ⟨v0, hv0⟩ := idx_lt hi
    have hj : j < es.length := (List.getElem?_eq_some_iff.1 hv0).1
    rw [hi] at hf
    simp only [Option.bind_some, hv0, Option.map_some] at hf
    refine ⟨w.putObj b (.map (mkE f (es.eraseIdx j) (bs.eraseIdx j)).toArray clock), ?_, ?_⟩
    · simp [Builtin.delete_, Sem.run_bind, run_underlying u.u, getObj_run h4, hc, hf, setObj_run _ h4, mkE_del]
    · have : delA es k = es.eraseIdx j := by unfold delA; rw [hi]
      rw [this]
      refine (h.mpSet ?_ (h2.sublist (List.eraseIdx_sublist _ _)) fun x hx => h3 x ((List.eraseIdx_sublist _ _).subset hx)).mpAny
      rw [List.length_eraseIdx, List.length_eraseIdx, h1]
end
section
variable {P : Program} {w w0 : World} {H R : List SL} {ds : List Deferred}
instance {t b kt e : Nat} {z : Int} {x : Value} {es : List (Int × Value)} {d : TypeDesc} {K : Value → St → Prop} [o : Hv w0 H w] [m : MapIn H b intV es R] [u : TyMap P t kt e d] [kf : KeyF d intV] : Step (Mu P t (.map (some b)) (.int .i64 z) x K ⟨w, ds⟩) (∀ w', Hv w0 (mpk b intV (putA es z x) :: R) w' → K undef ⟨w', ds⟩) := ⟨fun h => by
  obtain ⟨w', h1, h2⟩ := map_put (P := P) (t := t) (k := z) (x := x) (Hv.perm m.perm o)
  exact ut_ok h1 (h _ h2)⟩
instance {t b kt e : Nat} {z : Bool} {x : Value} {es : List (Bool × Value)} {d : TypeDesc} {K : Value → St → Prop} [o : Hv w0 H w] [m : MapIn H b Value.bool es R] [u : TyMap P t kt e d] [kf : KeyF d Value.bool] : Step (Mu P t (.map (some b)) (.bool z) x K ⟨w, ds⟩) (∀ w', Hv w0 (mpk b Value.bool (putA es z x) :: R) w' → K undef ⟨w', ds⟩) := ⟨fun h => by
  obtain ⟨w', h1, h2⟩ := map_put (P := P) (t := t) (k := z) (x := x) (Hv.perm m.perm o)
  exact ut_ok h1 (h _ h2)⟩
instance {t b kt e : Nat} {z : List UInt8} {x : Value} {es : List (List UInt8 × Value)} {d : TypeDesc} {K : Value → St → Prop} [o : Hv w0 H w] [m : MapIn H b (fun l => str l) es R] [u : TyMap P t kt e d] [kf : KeyF d (fun l => str l)] : Step (Mu P t (.map (some b)) (str z) x K ⟨w, ds⟩) (∀ w', Hv w0 (mpk b (fun l => str l) (putA es z x) :: R) w' → K undef ⟨w', ds⟩) := ⟨fun h => by
  obtain ⟨w', h1, h2⟩ := map_put (P := P) (t := t) (k := z) (x := x) (Hv.perm m.perm o)
  exact ut_ok h1 (h _ h2)⟩
class TyZV (P : Program) (t : TypeId) (z : outParam Value) : Prop where run : ∀ w, (zeroValue t).run P w = .ok z w
instance {t b kt e : Nat} {k : Int} {z : Value} {es : List (Int × Value)} {d : TypeDesc} [o : Hv w0 H w] [m : MapIn H b intV es R] [u : TyMap P t kt e d] [kf : KeyF d intV] [zz : TyZV P e z] : VT (Lk P t (.map (some b)) (.int .i64 k) false) w (orZ (getA es k) z) := VT.of (by
  rw [map_get (f := intV) u kf (zz.run w) (Hv.perm m.perm o)]; rfl)
instance {t b kt e : Nat} {k : Int} {z : Value} {es : List (Int × Value)} {d : TypeDesc} [o : Hv w0 H w] [m : MapIn H b intV es R] [u : TyMap P t kt e d] [kf : KeyF d intV] [zz : TyZV P e z] : VT (Lk P t (.map (some b)) (.int .i64 k) true) w (.tuple #[orZ (getA es k) z, .bool (getA es k).isSome]) := VT.of (by
  rw [map_get (f := intV) u kf (zz.run w) (Hv.perm m.perm o)]; rfl)
instance {t b kt e : Nat} {k : Bool} {z : Value} {es : List (Bool × Value)} {d : TypeDesc} [o : Hv w0 H w] [m : MapIn H b Value.bool es R] [u : TyMap P t kt e d] [kf : KeyF d Value.bool] [zz : TyZV P e z] : VT (Lk P t (.map (some b)) (.bool k) false) w (orZ (getA es k) z) := VT.of (by
  rw [map_get (f := Value.bool) u kf (zz.run w) (Hv.perm m.perm o)]; rfl)
instance {t b kt e : Nat} {k : List UInt8} {z : Value} {es : List (List UInt8 × Value)} {d : TypeDesc} [o : Hv w0 H w] [m : MapIn H b (fun l => str l) es R] [u : TyMap P t kt e d] [kf : KeyF d (fun l => str l)] [zz : TyZV P e z] : VT (Lk P t (.map (some b)) (str k) false) w (orZ (getA es k) z) := VT.of (by
  rw [map_get (f := fun l => str l) u kf (zz.run w) (Hv.perm m.perm o)]; rfl)
instance {t b kt e : Nat} {k : List UInt8} {z : Value} {es : List (List UInt8 × Value)} {d : TypeDesc} [o : Hv w0 H w] [m : MapIn H b (fun l => str l) es R] [u : TyMap P t kt e d] [kf : KeyF d (fun l => str l)] [zz : TyZV P e z] : VT (Lk P t (.map (some b)) (str k) true) w (.tuple #[orZ (getA es k) z, .bool (getA es k).isSome]) := VT.of (by
  rw [map_get (f := fun l => str l) u kf (zz.run w) (Hv.perm m.perm o)]; rfl)
end
end Go.Vx
