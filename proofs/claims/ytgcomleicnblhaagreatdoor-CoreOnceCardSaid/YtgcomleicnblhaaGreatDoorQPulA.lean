import Derived.Test.YtgcomleicnblhaaGreatDoorQTimB
import Derived.Test.YtgcomleicnblhaaGreatDoorEn2
import Derived.Test.YtgcomleicnblhaaGreatDoorShelf
set_option linter.all false
namespace Go.Proofs.YtgcomleicnblhaaGreatDoor.Pl
open Go.Vx
/-! a map's keys, rising -/
section
set_option maxRecDepth 20000
set_option synthInstance.maxSize 100000
set_option synthInstance.maxHeartbeats 4000000
theorem nodup_le {l : List Nat} {n : Nat} (h : l.Nodup) (hl : ∀ i ∈ l, i < n) : l.length ≤ n := by
  have : l ⊆ List.range n := fun i hi => List.mem_range.2 (hl i hi)
  simpa using h.length_le_of_subset this
theorem keys_seq {w0 : World} {T : List SL} {m : Nat} {g : Int → Option Value} (b : Nat) :
    SeqG P w0 (.func (.func 290) #[] #[.pointer (some ⟨b, 0, none⟩)]) (box b 171 [.map (some m)] :: mpf m intV g :: T) (fun k => [intV k]) (fun ys x => x ∉ ys ∧ (g x).isSome = true) (fun ys => ∀ x, (g x).isSome = true → x ∈ ys) := by
  intro y J X w ds K o hy hk hx
  have yy : YldG P w0 y J X (fun k => [intV k]) (fun ys x => x ∉ ys ∧ (g x).isSome = true) := ⟨hy⟩
  obtain ⟨es, ⟨hn, hg⟩, o1⟩ := (show Hv w0 (mpf m intV g :: J [] :: box b 171 [.map (some m)] :: T) w from Hv.perm (fun h => sep_swap (sep_cons sep_swap (sep_cons (sep_cons id) (sep_swap (sep_swap h))))) o).mpfOpen
  clear o
  refine go ?_
  refine s290 ?_
  unfold D290
  repeat (first | refine go ?_ | intro _ | refine ⟨sb, ?_⟩ | refine ⟨sd, ?_⟩ | dsimp only)
  rename_i it w1 o2
  refine l0_ind (fun q s => ∃ (js : List Nat) (w' : World), s = ⟨w', []⟩ ∧ q + js.length = es.length ∧ js.Nodup ∧ (∀ j ∈ js, j < es.length) ∧ Hv w0 (mwk m it intV es js :: J (js.map fun j => (es.getD j default).1) :: box b 171 [.map (some m)] :: T) w') ⟨es.length, [], w1, rfl, by simp, List.nodup_nil, by simp, ?_⟩ ?_
  · exact o2
  rintro q s N ⟨js, w2, rfl, hq, hnd, hlt, o3⟩ hN
  clear o1 o2
  repeat (first | refine go ?_ | intro _ | refine ⟨sb, ?_⟩ | refine ⟨sd, ?_⟩ | dsimp only)
  have kmem : ∀ x, (g x).isSome = true ↔ ∃ j, ∃ h : j < es.length, (es[j]).1 = x := fun x => by
    rw [← hg x]
    have := getA_mem (es := es) (k := x)
    rw [Option.isSome_iff_exists, ← this, List.mem_map]
    constructor
    · rintro ⟨p, hp, rfl⟩
      obtain ⟨j, hj, rfl⟩ := List.getElem_of_mem hp
      exact ⟨j, hj, rfl⟩
    · rintro ⟨j, hj, rfl⟩; exact ⟨_, List.getElem_mem hj, rfl⟩
  have fin : ∀ (A : SL) w', Hv w0 (mwk m it intV es js :: A :: box b 171 [.map (some m)] :: T) w' → Hv w0 (A :: box b 171 [.map (some m)] :: mpf m intV g :: T) w' := fun A w' h =>
    Hv.perm (fun h => sep_cons sep_swap (sep_swap h)) (Hv.mpfShut hn hg h.mwkEnd)
  refine ⟨?_, ?_⟩
  · intro j hj w3 hjn o4
    have ex : (es.getD j default).1 = (es[j]).1 := by simp [List.getD_eq_getElem?_getD, hj]
    clear o3
    repeat (first | refine go ?_ | intro _ | refine ⟨sb, ?_⟩ | refine ⟨sd, ?_⟩ | dsimp only)
    refine ⟨(es[j]).1, ⟨?_, (kmem _).2 ⟨j, hj, rfl⟩⟩, rfl, ?_, ?_⟩
    · intro hc
      obtain ⟨i, hi, e⟩ := List.mem_map.1 hc
      have hi' := hlt i hi
      rw [show (es.getD i default).1 = (es[i]).1 by simp [List.getD_eq_getElem?_getD, hi']] at e
      have h1 := getA_at hn hj
      have h2 := getA_at hn hi'
      have := (List.getElem_inj (i := i) (j := j) (h₀ := by simpa using hi') (h₁ := by simpa using hj) hn).1 (by simpa using e)
      exact hjn (this ▸ hi)
    · intro w4 o5
      have e2 : (js ++ [j]).map (fun j => (es.getD j default).1) = js.map (fun j => (es.getD j default).1) ++ [(es[j]).1] := by rw [List.map_append, List.map_singleton, ex]
      rw [← e2] at o5
      repeat' (first | refine go ?_ | intro _ | refine ⟨sb, ?_⟩ | refine ⟨sd, ?_⟩ | (refine ⟨fun h1 => ?_, fun h1 => ?_⟩ <;> first | exact ab h1 | ((try rw [h1]); (try simp only [bl] at h1))) | dsimp only)
      refine hN (q - 1) _ ?_ ⟨js ++ [j], _, rfl, ?_, ?_, ?_, ?_⟩
      · have := nodup_le hnd hlt; have := nodup_le (l := js ++ [j]) (n := es.length) (by rw [List.nodup_append]; exact ⟨hnd, by simp, fun a ha b hb => by simp at hb; subst hb; exact fun e => hjn (e ▸ ha)⟩) (fun i hi => by rcases List.mem_append.1 hi with h | h; exact hlt i h; simp at h; omega)
        simp at this; omega
      · have := nodup_le (l := js ++ [j]) (n := es.length) (by rw [List.nodup_append]; exact ⟨hnd, by simp, fun a ha b hb => by simp at hb; subst hb; exact fun e => hjn (e ▸ ha)⟩) (fun i hi => by rcases List.mem_append.1 hi with h | h; exact hlt i h; simp at h; omega)
        simp at this ⊢; omega
      · rw [List.nodup_append]; exact ⟨hnd, by simp, fun a ha b hb => by simp at hb; subst hb; exact fun e => hjn (e ▸ ha)⟩
      · intro i hi; rcases List.mem_append.1 hi with h | h
        · exact hlt i h
        · simp at h; omega
      · exact Hv.perm sep_swap o5
    · intro w4 o5
      repeat' (first | refine go ?_ | intro _ | refine ⟨sb, ?_⟩ | refine ⟨sd, ?_⟩ | (refine ⟨fun h1 => ?_, fun h1 => ?_⟩ <;> first | exact ab h1 | ((try rw [h1]); (try simp only [bl] at h1))) | dsimp only)
      refine hx _ (js.map fun j => (es.getD j default).1) _ ?_
      have o6 := Hv.perm sep_swap o5
      exact Hv.perm (fun h => sep_cons sep_swap (sep_swap h)) (Hv.mpfShut hn hg o6.mwkEnd)
  · intro hall
    repeat' (first | refine go ?_ | intro _ | refine ⟨sb, ?_⟩ | refine ⟨sd, ?_⟩ | (refine ⟨fun h1 => ?_, fun h1 => ?_⟩ <;> first | exact ab h1 | ((try rw [h1]); (try simp only [bl] at h1))) | dsimp only)
    refine hk _ _ _ (fun x hx => ?_) (fin _ _ o3)
    obtain ⟨j, hj, rfl⟩ := (kmem x).1 hx
    exact List.mem_map.2 ⟨j, hall j hj, by simp [List.getD_eq_getElem?_getD, hj]⟩
/-- At most N places have something. -/
def Few {β : Type} (g : Int → Option β) (N : Nat) : Prop := ∀ ks : List Int, ks.Nodup → (∀ k ∈ ks, (g k).isSome = true) → ks.length ≤ N
theorem Few.none {β : Type} : Few (fun _ => (none : Option β)) 0 := fun ks _ h => by
  cases ks with
  | nil => simp
  | cons k ks => have := h k (List.mem_cons_self ..); simp at this
theorem Few.upd {β : Type} {g : Int → Option β} {N : Nat} (h : Few g N) (k : Int) (v : Option β) : Few (updF g k v) (N + 1) := fun ks hn hs => by
  have h1 := h (ks.filter fun x => decide (x ≠ k)) (hn.sublist List.filter_sublist) fun x hx => by
    obtain ⟨h1, h2⟩ := List.mem_filter.1 hx
    have := hs x h1
    rwa [updF_ne g (by simpa using h2)] at this
  have h2 : ks.length ≤ (ks.filter fun x => decide (x ≠ k)).length + 1 := by
    clear hs h1
    induction ks with
    | nil => simp
    | cons x ks ih =>
      rw [List.nodup_cons] at hn
      by_cases e : x = k
      · have : ks.filter (fun x => decide (x ≠ k)) = ks := List.filter_eq_self.2 fun y hy => by
          have : y ≠ k := fun e2 => hn.1 (by rw [e, ← e2]; exact hy)
          simpa using this
        rw [List.filter_cons_of_neg (by simp [e]), this]; simp
      · rw [List.filter_cons_of_pos (by simp [e])]
        have := ih hn.2
        simp only [List.length_cons]; omega
  omega
theorem Few.mono {β : Type} {g : Int → Option β} {N M : Nat} (h : Few g N) (hm : N ≤ M) : Few g M := fun ks a b => Nat.le_trans (h ks a b) hm
theorem Few.sub {β γ : Type} {g : Int → Option β} {g' : Int → Option γ} {N : Nat} (h : Few g N) (hs : ∀ k, (g' k).isSome = true → (g k).isSome = true) : Few g' N := fun ks a b => h ks a fun k hk => hs k (b k hk)
variable {K : Value → St → Prop} {w0 w : World} {H R R' : List SL} {ds : List Deferred}
instance sort_ok {v : Value} {n : Nat} {xs : List Value} {l : List Int} [o : Hv w0 H w] [i : RowIn H v 3 1 n xs R] [m : Maps intV xs l] : Step (Cl P 240 #[v] K ⟨w, ds⟩) (n ≤ 1000000000 ∧ ∀ u w', Hv w0 (row 3 1 v n ((l.mergeSort fun x y => decide (x ≤ y)).map intV) :: R) w' → K u ⟨w', ds⟩) := ⟨fun ⟨hn, h⟩ => by
  have hx := m.eq
  subst hx
  have o1 := Hv.perm i.perm o
  have hl : n = l.length := by
    have := (show Rds w v 1 n (l.map intV) from inferInstance).len
    simpa using this.symm
  rcases o1.openRow with ⟨rfl, h0, h1, o2⟩ | ⟨g, cap, cur, rfl, g1, g2, g3, g4, g5, o2⟩
  · subst h0
    have : l = [] := List.eq_nil_of_length_eq_zero hl.symm
    subst this
    refine cl_ok ((Tryz.slices_Sort_int_none none 0 w).mono fun e w' ⟨h2, h3⟩ => ⟨_, h2, h _ _ ?_⟩)
    rw [h3]; simpa using o1
  · subst hl
    rw [Nat.mul_one] at g4
    have hlt : g < w.heap.size := (Array.getElem?_eq_some_iff.1 o2.at).1
    refine cl_ok ((Tryz.slices_Sort_int g 0 cap l w (holds_box o2 g4 rfl) hlt (by omega)).mono fun e w' ⟨h2, q, os, h3⟩ => ⟨_, h2, h _ _ ?_⟩)
    rw [h3]
    have hs : (l.mergeSort fun x y => decide (x ≤ y)).length = l.length := List.length_mergeSort _
    have o3 := o2.sorted (q := q) (os := os) (zs := l.mergeSort fun x y => decide (x ≤ y)) (by rw [hs]; omega)
    have ht : ((l.mergeSort fun x y => decide (x ≤ y)).map intV ++ cur.drop (l.mergeSort fun x y => decide (x ≤ y)).length).take (l.length * 1) = (l.mergeSort fun x y => decide (x ≤ y)).map intV := by
      rw [List.take_left' (by rw [List.length_map, hs, Nat.mul_one])]
    have o4 := o3.shutRow (n := l.length) (cap := cap) (size := 1) g1 g2 (by simp [hs]; omega) (by rw [ht]; intro u hu; obtain ⟨_, _, rfl⟩ := List.mem_map.1 hu; rfl)
    rw [ht] at o4
    exact o4⟩
instance keys_ok {m : Nat} [o : Hv w0 H w] : Step (Cl P 229 #[.map (some m)] K ⟨w, ds⟩) (∀ b w', Hv w0 (box b 171 [.map (some m)] :: H) w' → K (.func (.func 290) #[] #[.pointer (some ⟨b, 0, none⟩)]) ⟨w', ds⟩) := ⟨fun h => by
  refine s229 ?_
  unfold D229
  repeat' (first | refine go ?_ | intro _ | refine ⟨sb, ?_⟩ | refine ⟨sd, ?_⟩ | (refine ⟨fun h1 => ?_, fun h1 => ?_⟩ <;> first | exact ab h1 | ((try rw [h1]); (try simp only [bl] at h1))) | dsimp only)
  exact h _ _ (Sub.hv (subBox rfl subEnd))⟩
theorem coll_ok {T : List SL} {m b : Nat} {g : Int → Option Value} (hF : ∃ N, Few g N ∧ N ≤ 1000000000) (o : Hv w0 (box b 171 [.map (some m)] :: mpf m intV g :: T) w)
    (h : ∀ (v : Value) (ks : List Int) (w' : World), ks.Nodup → (∀ k, k ∈ ks ↔ (g k).isSome = true) → Hv w0 (row 3 1 v ks.length (ks.map intV) :: mpf m intV g :: T) w' → K v ⟨w', ds⟩) :
    Cl P 239 #[.func (.func 290) #[] #[.pointer (some ⟨b, 0, none⟩)]] K ⟨w, ds⟩ := by
  refine s239 ?_
  unfold D239
  refine s297 ?_
  unfold D297
  repeat (first | refine go ?_ | intro _ | refine ⟨sb, ?_⟩ | refine ⟨sd, ?_⟩ | dsimp only)
  rename_i b1 w1 o1
  clear o
  obtain ⟨N, hN, hN2⟩ := hF
  refine rf_goG (w0 := w0) (box b 171 [.map (some m)] :: mpf m intV g :: T) (fun ys => any fun q => many [lift (ys.Nodup ∧ ∀ k ∈ ys, (g k).isSome = true), box b1 64 [q], row 3 1 q ys.length (ys.map intV)]) (fun _ => lift False) (keys_seq b) (fun _ => rfl) ?_ ?_ ?_ (fun b ys w' h => h.lifted.elim)
  · have o2 := Hv.nilRow 3 1 o1
    exact Sub.hv (o := o2) (Sub.any (.slice none 0 0) (Sub.many (Sub.lift ⟨List.nodup_nil, by simp⟩ (subBox rfl (subRow rfl rfl (subBox rfl (subMpf rfl subEnd)))))))
  · intro bd l1 rc R1 F w2 ys x hx o3 hn hr
    obtain ⟨q, o4⟩ := o3.pick
    have o5 := o4.opens
    simp only [List.cons_append, List.nil_append] at o5
    obtain ⟨h1, h2⟩ := o5.lifted
    have o6 := o5.tail
    have hl := hN ys h1 h2
    clear o1 o3 o4 o5
    simp only [List.headD_cons]
    repeat' (first | refine go ?_ | intro _ | refine ⟨sb, ?_⟩ | refine ⟨sd, ?_⟩ | (refine ⟨fun h1 => ?_, fun h1 => ?_⟩ <;> first | exact ab h1 | ((try rw [h1]); (try simp only [bl] at h1))) | dsimp only)
    refine hn _ (Sub.hv (Sub.any _ (Sub.many (Sub.lift ⟨?_, ?_⟩ (subBox rfl (subRow ?_ ?_ (subA (A := lpR rc l1) subEnd)))))))
    · rw [List.nodup_append]; exact ⟨h1, by simp, fun a ha b hb => by simp at hb; subst hb; exact fun e => hx.1 (e ▸ ha)⟩
    · intro k hk; rcases List.mem_append.1 hk with h3 | h3
      · exact h2 k h3
      · rw [List.mem_singleton.1 h3]; exact hx.2
    · simp
    · simp
  · intro bd ys w2 he o3
    obtain ⟨q, o4⟩ := o3.pick
    have o5 := o4.opens
    simp only [List.cons_append, List.nil_append] at o5
    obtain ⟨h1, h2⟩ := o5.lifted
    have o6 := o5.tail
    clear o1 o3 o4 o5
    repeat' (first | refine go ?_ | intro _ | refine ⟨sb, ?_⟩ | refine ⟨sd, ?_⟩ | (refine ⟨fun h1 => ?_, fun h1 => ?_⟩ <;> first | exact ab h1 | ((try rw [h1]); (try simp only [bl] at h1))) | dsimp only)
    exact h _ ys _ h1 (fun k => ⟨h2 k, he k⟩) (Sub.hv (subRow rfl rfl (subMpf rfl subEnd)))
instance sorted_ok {m b : Nat} {g : Int → Option Value} [o : Hv w0 H w] [b1 : BoxIn H b 171 [.map (some m)] R] [p : MpfIn R m intV g R'] : Step (Cl P 163 #[.func (.func 290) #[] #[.pointer (some ⟨b, 0, none⟩)]] K ⟨w, ds⟩)
    ((∃ N, Few g N ∧ N ≤ 1000000000) ∧ ∀ (v : Value) (ks : List Int) (w' : World), ks.Pairwise (· < ·) → (∀ k, k ∈ ks ↔ (g k).isSome = true) → Hv w0 (row 3 1 v ks.length (ks.map intV) :: mpf m intV g :: R') w' → K v ⟨w', ds⟩) := ⟨fun ⟨hF, h⟩ => by
  have o1 : Hv w0 (box b 171 [.map (some m)] :: mpf m intV g :: R') w := Sub.hv (subBox rfl (subMpf rfl subEnd))
  refine s163 ?_
  unfold D163
  refine coll_ok hF o1 ?_
  intro v ks w1 hn hm o2
  clear o o1
  obtain ⟨N, hN, hN2⟩ := hF
  have := hN ks hn fun k hk => (hm k).1 hk
  repeat' (first | refine go ?_ | intro _ | refine ⟨sb, ?_⟩ | refine ⟨sd, ?_⟩ | (refine ⟨fun h1 => ?_, fun h1 => ?_⟩ <;> first | exact ab h1 | ((try rw [h1]); (try simp only [bl] at h1))) | dsimp only)
  rename_i u w2 o3
  have hp := List.mergeSort_perm ks fun x y => decide (x ≤ y)
  refine h v (ks.mergeSort fun x y => decide (x ≤ y)) w2 ?_ (fun k => by rw [hp.mem_iff]; exact hm k) (by rw [hp.length_eq]; exact o3)
  have h1 := List.pairwise_mergeSort (le := fun x y : Int => decide (x ≤ y)) (fun a b c h1 h2 => by simp at *; omega) (fun a b => by simp; omega) ks
  have h2 : (ks.mergeSort fun x y => decide (x ≤ y)).Pairwise (· ≠ ·) := hp.nodup_iff.2 hn
  exact (h1.and h2).imp fun {a b} ⟨h3, h4⟩ => by simp at h3; omega⟩
end
end Go.Proofs.YtgcomleicnblhaaGreatDoor.Pl

