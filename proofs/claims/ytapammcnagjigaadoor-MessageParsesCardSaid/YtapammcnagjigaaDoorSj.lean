import Derived.Test.YtapammcnagjigaaDoorSl
import Derived.Laws.IdiomCopy
import Derived.Lib.MakeNoZero
import Derived.Laws.CopyRow
set_option linter.all false
namespace Go.Vx
open Go.RowKit Go.Lib
/-! where ways meet, with a word given -/
section
variable {P : Program} {w w0 : World} {H R : List SL} {ds : List Deferred}
theorem j0_hv {br : (St → Prop) → Prop} {k : St → Prop} (w0 : World) (H : List SL) (ds : List Deferred) (h1 : br fun s => ∃ w', s = ⟨w', ds⟩ ∧ Hv w0 H w') (h2 : ∀ w', Hv w0 H w' → k ⟨w', ds⟩) : J0 br k :=
  ⟨_, fun _ ⟨w', e, h⟩ => by rw [e]; exact h2 w' h, h1⟩
theorem j1_hv {br : (Value → St → Prop) → Prop} {k : Value → St → Prop} (w0 : World) (H : List SL) (ds : List Deferred) (v : Value) (h1 : br fun x s => x = v ∧ ∃ w', s = ⟨w', ds⟩ ∧ Hv w0 H w') (h2 : ∀ w', Hv w0 H w' → k v ⟨w', ds⟩) : J1 br k :=
  ⟨_, fun _ _ ⟨ev, w', e, h⟩ => by rw [e, ev]; exact h2 w' h, h1⟩
theorem j2_hv {br : (Value → Value → St → Prop) → Prop} {k : Value → Value → St → Prop} (w0 : World) (H : List SL) (ds : List Deferred) (v u : Value) (h1 : br fun x y s => x = v ∧ y = u ∧ ∃ w', s = ⟨w', ds⟩ ∧ Hv w0 H w') (h2 : ∀ w', Hv w0 H w' → k v u ⟨w', ds⟩) : J2 br k :=
  ⟨_, fun _ _ _ ⟨ev, eu, w', e, h⟩ => by rw [e, ev, eu]; exact h2 w' h, h1⟩
theorem j0_any {br : (St → Prop) → Prop} {k : St → Prop} (A : St → Prop) (h1 : br A) (h2 : ∀ s, A s → k s) : J0 br k := ⟨A, h2, h1⟩
theorem j1_any {br : (Value → St → Prop) → Prop} {k : Value → St → Prop} (A : Value → St → Prop) (h1 : br A) (h2 : ∀ x s, A x s → k x s) : J1 br k := ⟨A, h2, h1⟩
/-! bytes put behind nothing -/
theorem append_str_nil {t q e n : Nat} (u : TySl P t e 1) (hq : P.underlying q = some .string) {v : Value} {xs : List Value} (ty : TypeId) (hv : w.ownsRow 0 e 1 v n xs) : (Builtin.append_ #[t, q] ty #[v, str []]).run P w = .ok v w := by
  obtain ⟨i, z, hu, hi, hz, hs, hzs, hpos, hby⟩ := u.info
  have hz0 : (⟨#[]⟩ : ByteArray).size = 0 := rfl
  have hf := first_str (P := P) [] w
  simp only [List.length_nil] at hf
  rcases hv.2 with ⟨rfl, rfl⟩ | ⟨g, cp, cur, rfl, _, hg, hnc, hcm, hcs, ht⟩
  · simp [Builtin.append_, run_underlying hu, run_underlying hq, sizeOf, typeInfo, hi, hs, Builtin.lenOf, hz0, hf]
  · simp [Builtin.append_, run_underlying hu, run_underlying hq, sizeOf, typeInfo, hi, hs, Builtin.lenOf, hz0, hf, hnc, storeCells]
theorem Step.appNil {t q ty e n : Nat} {cs : Array Bool} {v : Value} {xs : List Value} {K : Value → St → Prop} [o : Hv w0 H w] [i : RowIn H v e 1 n xs R] [u : TySl P t e 1] [hq : TyU P q .string] :
    Step (Bi P .append #[t, q] ty cs #[v, str []] K ⟨w, ds⟩) (K v ⟨w, ds⟩) := ⟨fun h => by
  have h1 := Hv.perm i.perm o
  obtain ⟨S, _, _, hr, h2⟩ := h1.ok
  exact bi_ok (m := Builtin.append_ #[t, q] ty #[v, str []]) rfl (append_str_nil u hq.eq ty hr) h⟩
/-! room for bytes -/
theorem digits_one : ∀ (n t : Nat) (acc : Array Value), (∀ u ∈ acc, u.oneCell' = true) → ∀ u ∈ Extern.BytealgMakeNoZero.digits n t acc, u.oneCell' = true
  | 0, _, _, h => h
  | n + 1, t, acc, h => digits_one n (t / 256) _ fun u hu => by
    rcases Array.mem_push.1 hu with hu | rfl
    · exact h u hu
    · rfl
theorem mkz_run (ps : Array TypeId) (t e : TypeId) (ht : P.underlying t = some (.slice e)) (n : Nat) (hn : n ≤ 281474976710656) :
    ∃ cs : Array Value, (Extern.BytealgMakeNoZero.makeNoZero ps #[t] #[.int .i64 n]).run P w = .ok (.slice (some ⟨w.heap.size, 0, none⟩) n cs.size) (w.drew.drew.alloc (.cells cs e)) ∧ n ≤ cs.size ∧ (n ≤ maxLen → cs.size ≤ maxLen) ∧ ∀ u ∈ cs, u.oneCell' = true := by
  have g1 : ¬ (n : Int) < 0 := by omega
  have g2 : ¬ (281474976710656 : Int) < (n : Int) := by omega
  refine ⟨Extern.BytealgMakeNoZero.digits (grownCap w n 0 e) ((Question.extern "internal/bytealg.MakeNoZero.bytes" 0).cut (w.tape (w.drawn + 1) (.extern "internal/bytealg.MakeNoZero.bytes" 0))) #[], ?_, ?_, ?_, digits_one _ _ _ fun u hu => by simp at hu⟩
  · have hdef : Extern.BytealgMakeNoZero.makeNoZero ps #[t] #[.int .i64 n] =
        (do
          let .slice elem ← underlying t | stuck "bytealg.MakeNoZero: slice type expected"
          if (n : Int) < 0 || (n : Int) > 2 ^ 48 then runtimePanic (.error "makeslice: len out of range")
          let cap ← choose (.appendCap (n : Int).toNat 0 elem)
          askRoom cap
          let bytes ← choose (.extern "internal/bytealg.MakeNoZero.bytes" 0)
          let a ← newRow elem (Extern.BytealgMakeNoZero.digits cap bytes #[])
          pure (.slice (some a) (n : Int).toNat cap)) := rfl
    rw [hdef]
    simp [run_underlying ht, g1, g2, Question.forced, newRow, size_digits, grownCap]
  · rw [size_digits]
    simpa using grownCap_ge w n 0 e
  · intro hm
    rw [size_digits]
    simpa using grownCap_le_maxLen w n 0 e hm
class ExMnz (P : Program) (g : Nat) (t e : outParam Nat) : Prop where
  run : ∃ ps, ∀ (args : Array Value) (w : World), (callFunc g args).run P w = ((Extern.BytealgMakeNoZero.makeNoZero ps #[t] args).run P w).andThen fun v w' => .ok (.value v) w'
  u : P.underlying t = some (.slice e)
instance {g t e n : Nat} {z : Int} {K : Value → St → Prop} [x : ExMnz P g t e] [o : Hv w0 H w] [zn : ToN z n] : Step (Dy P (.func (.func g) #[] #[]) #[.int .i64 z] K ⟨w, ds⟩)
    ((0 ≤ z ∧ z ≤ 1000000000) ∧ ∀ a cap xs w', n ≤ cap → Hv w0 (row e 1 (.slice (some a) n cap) n xs :: H) w' → K (.slice (some a) n cap) ⟨w', ds⟩) := ⟨fun ⟨⟨h1, h2⟩, h⟩ => by
  have hn := zn.eq h1
  have hzn : z = (n : Int) := by omega
  subst hzn
  obtain ⟨ps, hx⟩ := x.run
  obtain ⟨cs, g1, g2, g3, g4⟩ := mkz_run (P := P) (w := w) ps t e x.u n (by omega)
  refine ⟨?_⟩
  have hd : (do let d ← Deferred.ofValue (.func (.func g) #[] #[]) #[.int .i64 (n : Int)]; invoke d.target d.args : Sem Next).run P w = (callFunc g #[.int .i64 (n : Int)]).run P w := by
    simp [Deferred.ofValue, invoke, Sem.run_bind, Sem.run_pure, Result.andThen]
  rw [hd, hx, g1]
  have hm : cs.size ≤ maxLen := g3 (by simp only [maxLen]; omega)
  refine h _ _ (cs.toList.take n) _ g2 (o.rowNew (m := n) ?_ (fun u hu => g4 u (by simpa using List.mem_of_mem_take hu)) ⟨rfl, rfl, rfl, by simp, fun k hk _ => Below.heap_alloc w.drew.drew _ k hk⟩ ?_)
  · refine ⟨by simp; omega, .inr ⟨w.heap.size, cs.size, cs, rfl, Nat.zero_le _, ?_, g2, hm, by omega, by rw [Nat.mul_one]⟩⟩
    exact heap_alloc_new w.drew.drew _
  · intro k hk
    simp only [Value.ownBlock, Option.some.injEq] at hk
    omega⟩
/-! cap, and a copy of nothing -/
instance {t ty e s n c : Nat} {cs : Array Bool} {b : Option Addr} [u : TySl P t e s] : VT (Bi P .cap #[t] ty cs #[.slice b n c]) w (.int .i64 c) := ⟨fun k => by
  obtain ⟨i, z, hu, _⟩ := u.info
  exact bi_ok (m := Builtin.cap_ #[t] ty #[.slice b n c]) rfl (run_cap_slice w t ty b n c (el_slice hu)) k⟩
instance (priority := high) {t ty e s n c : Nat} {cs : Array Bool} {b : Option Addr} [u : TySl P t e s] : VT (Bi P .len #[t] ty cs #[.slice b n c]) w (.int .i64 n) := ⟨fun k => by
  obtain ⟨i, z, hu, _⟩ := u.info
  exact bi_ok (m := Builtin.len_ #[t] ty #[.slice b n c]) rfl (run_len_slice w t ty b n c (el_slice hu)) k⟩
instance (priority := 10) {w : World} : Rds w (.slice none 0 0) 1 0 [] := ⟨by simp, by simp, by simp [maxLen], none, 0, rfl, fun _ => rfl, Nat.le_refl _, fun j u h => by simp at h⟩
instance {t ty e n m : Nat} {cs : Array Bool} {d x : Value} {xs ys : List Value} [u : TySl P t e 1] [rd : Rds w d 1 n xs] [rx : Rds w x 1 m ys] : VS (Bi P .copy #[t, t] ty cs #[d, x]) w (min m n = 0) (.int .i64 0) := ⟨fun hm {K ds} k => by
  obtain ⟨i, z, hu, hi, hz, hs, _⟩ := u.info
  obtain ⟨b1, c1, rfl, _⟩ := rd.ex
  obtain ⟨b2, c2, rfl, _⟩ := rx.ex
  exact bi_ok (m := Builtin.copy_ #[t, t] ty #[.slice b1 n c1, .slice b2 m c2]) rfl (run_copy_none w t t ty e b1 b2 n c1 m c2 hu (by simp [hi, hs]) (by simpa [Nat.min_def] using hm)) k⟩
theorem sub_cap {v v' : Value} {lo m : Nat} {a : Addr} {n cap : Nat} (hv : v = .slice (some a) n cap) (s : SubSl v v' 1 lo m) (h : lo < cap) : capOk v' := by
  obtain ⟨e, _⟩ := s.ex _ _ _ hv
  rw [if_neg (by omega)] at e
  exact .inr ⟨_, _, _, e, by omega⟩
end
end Go.Vx
