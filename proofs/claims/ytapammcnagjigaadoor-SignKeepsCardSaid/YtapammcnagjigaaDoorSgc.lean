import Derived.Test.YtapammcnagjigaaDoorSgb
set_option linter.all false
namespace Go.Proofs.YtapammcnagjigaaDoor
open Go.Vx Go.Lib
section
set_option maxRecDepth 20000
set_option synthInstance.maxSize 100000
set_option synthInstance.maxHeartbeats 4000000
instance {w : World} {t : TypeId} {cx cy : Bool} {a b : Int} : VT (Bo P .andNot t cx cy (.int .i64 a) (.int .i64 b)) w (.int .i64 (exI a b)) := VT.of (by rw [bo_int]; rfl)
variable {K : Value → St → Prop} {w0 w : World} {H : List SL} {ds : List Deferred} {l : List UInt8} {x : Value} {n : Nat}
theorem join32_len {ss : List (List UInt8)} (h3 : ss.length ≤ 3) (h : ∀ s ∈ ss, s.length ≤ 20) : (Lib.join ss [32]).length ≤ 70 := by
  match ss, h3, h with
  | [], _, _ => simp [Lib.join]
  | [a], _, h => have := h a (by simp); simp [Lib.join]; omega
  | [a, b], _, h => have := h a (by simp); have := h b (by simp); simp [Lib.join]; omega
  | [a, b, c], _, h => have := h a (by simp); have := h b (by simp); have := h c (by simp); simp [Lib.join]; omega
  | a :: b :: c :: d :: t, h3, _ => simp at h3
instance join32_ok {ss : List (List UInt8)} {R : List SL} [o : Hv w0 H w] {zx : List Value} [r : RowIn H x 9 1 n zx R] [es : Strs zx ss] :
    Step (Cl P 112 #[x, str [32]] K ⟨w, ds⟩) ((ss.length ≤ 3 ∧ ∀ s ∈ ss, s.length ≤ 20) ∧ ∀ (s : List UInt8) w', s.length ≤ 70 → Hv w0 H w' → K (str s) ⟨w', ds⟩) := ⟨fun ⟨⟨h3, h20⟩, h⟩ => by
  obtain rfl := es.eq
  have o1 := Hv.perm r.perm o
  obtain ⟨S, hS, _, hr, h1⟩ := o1.ok
  have hn : ss.length = n := by have := hr.1; simpa using this
  rcases hr.2 with ⟨rfl, h0⟩ | ⟨g, cap, cur, rfl, hb, hg, hnc, hcm, hcs, ht⟩
  · have e : ss = [] := List.eq_nil_of_length_eq_zero (by omega)
    subst e
    refine cl_ok ((Tryd.strings_Join_none none 0 ⟨#[32]⟩ w).mono fun e w' ⟨he, hw⟩ => ?_)
    subst hw
    exact ⟨_, he, h [] _ (by decide) o⟩
  · subst hn
    have hlen : (ss.map fun s => (⟨s.toArray⟩ : ByteArray)).length = ss.length := by simp
    have hmap : (ss.map fun s => (⟨s.toArray⟩ : ByteArray)).map (·.data.toList) = ss := by simp [Function.comp_def]
    have hjl := join32_len h3 h20
    have hJ := Tryd.strings_Join g 0 cap (ss.map fun s => ⟨s.toArray⟩) ⟨#[32]⟩ w (fun j x hx => by
      have hj : j < ss.length := by
        have := (List.getElem?_eq_some_iff.1 hx).1; simpa using this
      have hc := hr.cellAt j (by omega)
      rw [Nat.zero_add, hc]
      simp [hj] at hx ⊢
      exact hx) (Array.getElem?_eq_some_iff.1 hg).1 (by rw [hlen]; omega) (by rw [hlen]; omega) (by rw [hmap]; show (Lib.join ss [32]).length ≤ _; omega)
    rw [hlen, hmap] at hJ
    refine cl_ok (hJ.mono fun e w' ⟨he, hw⟩ => ?_)
    exact ⟨_, he, h _ _ hjl (o.call (G := []) ⟨hw, emp, fun _ h => h.elim, fun _ h => h⟩)⟩⟩
def ctxL (z : Int) (i : Nat) : List (List UInt8) := ((capsL.take i).filter fun x => decide (andI z x.2 ≠ 0)).map (·.1)
theorem ctx_snoc (z : Int) {i : Nat} {x : List UInt8 × Int} (h : capsL[i]? = some x) : ctxL z (i + 1) = ctxL z i ++ if andI z x.2 ≠ 0 then [x.1] else [] := by
  have hi := (List.getElem?_eq_some_iff.1 h).1
  have hx : capsL.getD i default = x := by rw [List.getD_eq_getElem?_getD, h]; rfl
  unfold ctxL
  rw [take_snoc hi, hx, List.filter_append, List.map_append]
  congr 1
  by_cases hc : andI z x.2 = 0
  · rw [if_neg (fun h => h hc)]; simp [hc]
  · rw [if_pos hc]; simp [hc]
theorem ctx_small (z : Int) (i : Nat) : (ctxL z i).length ≤ 3 ∧ ∀ s ∈ ctxL z i, s.length ≤ 20 := by
  refine ⟨?_, fun s hs => ?_⟩
  · unfold ctxL
    rw [List.length_map]
    refine Nat.le_trans (List.length_filter_le _ _) ?_
    rw [List.length_take]
    exact Nat.min_le_right _ _
  · unfold ctxL at hs
    obtain ⟨x, hx, rfl⟩ := List.mem_map.1 hs
    have hm := List.mem_of_mem_take (List.mem_filter.1 hx).1
    have : ∀ x ∈ capsL, x.1.length ≤ 20 := by decide
    exact this x hm
instance ctext_ok {z : Int} [o : Hv w0 H w] : Step (Cl P 74 #[.int .i64 z] K ⟨w, ds⟩) (∀ (s : List UInt8) w', s.length ≤ 70 → Hv w0 H w' → K (str s) ⟨w', ds⟩) := ⟨fun h => by
  refine cl_ok (c74 (K := fun v w' => K v ⟨w', ds⟩) ?_ fun v w' h => ⟨v, rfl, h⟩)
  unfold D74
  repeat' (first | refine go ?_ | intro _ | refine And.intro (Sd.mk (by (first | exact fun _ => True.intro | exact And.intro (fun _ => True.intro) (fun _ _ => True.intro) | (intro hq; (first | exact True.intro | omega | (simp only [and_true]; omega) | (simp only [bl] at hq; (try simp only [and_true]); omega) | fail)) | exact And.intro (fun hq => by first | exact True.intro | omega | (simp only [and_true]; omega) | (simp only [bl] at hq; (try simp only [and_true]); omega) | fail) (fun hq hr => by first | exact True.intro | omega | (simp only [and_true]; omega) | (simp only [bl] at hq hr; omega) | (simp only [bl] at hr; omega) | fail) | fail))) ?_ | refine And.intro (by (first | omega | (unfold InR; omega) | decide | (simp only [ll]; omega))) ?_ | (refine And.intro (fun h1 => ?_) (fun h1 => ?_) <;> first | (exact absurd h1 (by decide)) | ((try rw [h1]); (try simp only [bl] at h1))) | dsimp only)
  rename_i b1 _ _ b2 w1 o1
  refine rf_go (w0 := w0) (T := H) (J := fun i => any fun v => many [box b1 3 [.int .i64 z], box b2 22 [v], row 9 1 v (ctxL z i).length ((ctxL z i).map str)])
    (XR := fun _ => lift False) (XE := fun _ _ => lift False) caps_seq (fun _ => rfl) ?_ ?_ ?_ (fun b i x w' _ h => h.lifted.elim) (fun b j i x w' _ h => h.lifted.elim)
  · refine Hv.give (.slice none 0 0) (Hv.closes ?_)
    dsimp only [List.cons_append, List.nil_append]
    have o5 := Hv.nilRow 9 1 o1
    exact Sub.hv (subBox rfl (subBox rfl (subRow rfl rfl subEnd)))
  · intro bd l1 rc R1 F w8 i x hi o8 hnx hr hx
    obtain ⟨v, o9⟩ := o8.pick
    have o10 := o9.opens
    have hsm := (ctx_small z i).1
    have hsn := ctx_snoc z hi
    dsimp only [List.cons_append, List.nil_append, List.headD, List.tail] at o10 ⊢
    clear o8 o9
    repeat' (first | refine go ?_ | intro _ | refine And.intro (Sd.mk (by (first | exact fun _ => True.intro | exact And.intro (fun _ => True.intro) (fun _ _ => True.intro) | (intro hq; (first | exact True.intro | omega | (simp only [and_true]; omega) | (simp only [bl] at hq; (try simp only [and_true]); omega) | fail)) | exact And.intro (fun hq => by first | exact True.intro | omega | (simp only [and_true]; omega) | (simp only [bl] at hq; (try simp only [and_true]); omega) | fail) (fun hq hr => by first | exact True.intro | omega | (simp only [and_true]; omega) | (simp only [bl] at hq hr; omega) | (simp only [bl] at hr; omega) | fail) | fail))) ?_ | refine And.intro (by (first | omega | (unfold InR; omega) | decide | (simp only [ll]; omega))) ?_ | (refine And.intro (fun h1 => ?_) (fun h1 => ?_) <;> first | (exact absurd h1 (by decide)) | ((try rw [h1]); (try simp only [bl] at h1))) | dsimp only)
    · rw [if_pos h1] at hsn
      rename_i v2 _ _ _ _ _ _
      refine hnx _ (Hv.give v2 (Hv.closes ?_))
      dsimp only [List.cons_append, List.nil_append]
      rw [hsn]
      exact Sub.hv (subBox rfl (subBox rfl (subRow (by simp) (by simp) (subA (subA subEnd)))))
    · rw [if_neg (fun h => h h1), List.append_nil] at hsn
      refine hnx _ (Hv.give v (Hv.closes ?_))
      dsimp only [List.cons_append, List.nil_append]
      rw [hsn]
      exact Sub.hv (subBox rfl (subBox rfl (subRow rfl rfl (subA (subA subEnd)))))
  · intro bd w8 o8
    obtain ⟨v, o9⟩ := o8.pick
    have o10 := o9.opens
    have hsm := ctx_small z capsL.length
    dsimp only [List.cons_append, List.nil_append] at o10
    clear o8 o9
    repeat' (first | refine go ?_ | intro _ | refine And.intro (Sd.mk (by (first | exact fun _ => True.intro | exact And.intro (fun _ => True.intro) (fun _ _ => True.intro) | (intro hq; (first | exact True.intro | omega | (simp only [and_true]; omega) | (simp only [bl] at hq; (try simp only [and_true]); omega) | fail)) | exact And.intro (fun hq => by first | exact True.intro | omega | (simp only [and_true]; omega) | (simp only [bl] at hq; (try simp only [and_true]); omega) | fail) (fun hq hr => by first | exact True.intro | omega | (simp only [and_true]; omega) | (simp only [bl] at hq hr; omega) | (simp only [bl] at hr; omega) | fail) | fail))) ?_ | refine And.intro (by (first | omega | (unfold InR; omega) | decide | (simp only [ll]; omega))) ?_ | (refine And.intro (fun h1 => ?_) (fun h1 => ?_) <;> first | (exact absurd h1 (by decide)) | ((try rw [h1]); (try simp only [bl] at h1))) | dsimp only)
    rename_i sr _ hsr _
    exact h _ _ (by assumption) (Sub.hv subEnd)⟩
end
end Go.Proofs.YtapammcnagjigaaDoor

