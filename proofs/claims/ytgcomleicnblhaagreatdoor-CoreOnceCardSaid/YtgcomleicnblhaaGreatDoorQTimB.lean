import Derived.Test.YtgcomleicnblhaaGreatDoorQTimA
set_option linter.all false
namespace Go.Proofs.YtgcomleicnblhaaGreatDoor.Pl
open Go.Vx
/-! what is due -/
section
set_option maxRecDepth 20000
set_option synthInstance.maxSize 100000
set_option synthInstance.maxHeartbeats 4000000
/-- What is due, as rows. -/
structure DueL (l : List It) (g : Int → Option Int) (now : Int) : Prop where
  srt : l.Pairwise ItLt
  mem : ∀ k a, (k, a) ∈ l ↔ g k = some a ∧ a ≤ now
theorem Tim.due {l : List It} {g : Int → Option Int} {now : Int} (h : Tim l g) {i : Nat} (h1 : ∀ z ∈ l.take i, z.2 ≤ now) (h2 : i < l.length → ¬ (l.getD i default).2 ≤ now) : DueL (l.take i) g now := by
  refine ⟨h.srt.sublist (List.take_sublist _ _), fun k a => ⟨fun hm => ⟨(h.mem k a).1 (List.mem_of_mem_take hm), h1 _ hm⟩, fun ⟨hg, ha⟩ => ?_⟩⟩
  have hm := (h.mem k a).2 hg
  rw [← List.take_append_drop i l, List.mem_append] at hm
  refine hm.resolve_right fun hd => ?_
  obtain ⟨j, hj, e⟩ := List.mem_drop_iff_getElem.1 hd
  have hi : i < l.length := by omega
  have h3 := h2 hi
  have e2 : l.getD (i + j) default = (k, a) := by simp [List.getD_eq_getElem?_getD, show i + j < l.length by omega, e]
  rcases Nat.eq_zero_or_pos j with rfl | hp
  · rw [Nat.add_zero] at e2; rw [e2] at h3; exact h3 ha
  · have := pw_at h.srt (show i < i + j by omega) (by omega)
    rw [e2] at this
    unfold ItLt at this
    simp only at this
    omega
theorem DueL.len {l : List It} {g : Int → Option Int} {now : Int} (h : DueL l g now) : (l.map (·.1)).Nodup := by
  refine List.pairwise_map.2 (h.srt.imp_of_mem fun {x y} hx hy hlt e => ?_)
  have h1 := ((h.mem x.1 x.2).1 hx).1
  have h2 := ((h.mem y.1 y.2).1 hy).1
  rw [← e, h1] at h2
  have h3 := Option.some.inj h2
  unfold ItLt at hlt; omega
variable {K : Value → St → Prop} {w0 w : World} {H R : List SL} {ds : List Deferred} {t : Nat} {x : Tst} {now : Int}
instance tdue_ok [o : Hv w0 H w] [i : InK tabR t H x R] : Step (Cl P 227 #[.pointer (some ⟨t, 0, none⟩), .int .i64 now] K ⟨w, ds⟩)
    (x.1 ≤ 1000000000 ∧ ∀ b v l w', DueL l x.2 now → l.length ≤ x.1 → Hv w0 (box b 259 [v] :: row 266 2 v l.length (l.flatMap encIt) :: tabR t x :: R) w' → K (.func (.func 289) #[] #[.pointer (some ⟨b, 0, none⟩)]) ⟨w', ds⟩) := ⟨fun ⟨hN, h⟩ => by
  obtain ⟨l, v, m, hT, hL, o1⟩ := tab_open (i.hv o)
  clear o
  refine s227 ?_
  unfold D227
  repeat' (first | refine go ?_ | intro _ | refine ⟨sb, ?_⟩ | refine ⟨sd, ?_⟩ | (refine ⟨fun h1 => ?_, fun h1 => ?_⟩ <;> first | exact ab h1 | ((try rw [h1]); (try simp only [bl] at h1))) | dsimp only)
  rename_i b1 w1 o2
  clear o1
  refine ⟨fun z s => ∃ (i : Nat) (w' : World), z = .int .i64 i ∧ s = ⟨w', []⟩ ∧ i ≤ l.length ∧ (∀ z ∈ l.take i, z.2 ≤ now) ∧ Hv w0 (box b1 259 [.slice none 0 0] :: box t 261 [v, .map (some m)] :: row 266 2 v l.length (l.flatMap encIt) :: mpf m intV (tmap x.2) :: R) w',
    fun z s => match z with | .int _ z => l.length - z.toNat | _ => 0, ⟨0, w1, rfl, rfl, Nat.zero_le _, by simp, o2⟩, ?_⟩
  rintro z s ⟨i, w2, rfl, rfl, hi, hz, o3⟩
  clear o2
  have ex : ((l.flatMap encIt).drop (0 * 2)).take ((i - 0) * 2) = (l.take i).flatMap encIt := by
    rw [flat_drop (s := 2) (fun _ => rfl), flat_take (s := 2) (fun _ => rfl), List.drop_zero, Nat.sub_zero]
  have en : i - 0 = (l.take i).length := by rw [List.length_take]; omega
  have el : (l.take i).length ≤ x.1 := by rw [List.length_take]; omega
  rcases Nat.lt_or_ge i l.length with hlt | hge
  · repeat' (first | refine go ?_ | intro _ | refine ⟨sb, ?_⟩ | refine ⟨sd, ?_⟩ | (refine ⟨fun h1 => ?_, fun h1 => ?_⟩ <;> first | exact ab h1 | ((try rw [h1]); (try simp only [bl] at h1))) | dsimp only)
    · refine ⟨⟨i + 1, _, rfl, rfl, hlt, fun z hz' => ?_, o3⟩, by simp; omega⟩
      rw [take_snoc hlt] at hz'
      rcases List.mem_append.1 hz' with h5 | h5
      · exact hz z h5
      · rw [List.mem_singleton.1 h5]; exact h1
    · refine h b1 _ (l.take i) _ (hT.due hz fun _ => by omega) el (Sub.hv (subBox rfl (subRow en ex (subTab hT hL rfl rfl rfl subEnd))))
    · omega
  · repeat' (first | refine go ?_ | intro _ | refine ⟨sb, ?_⟩ | refine ⟨sd, ?_⟩ | (refine ⟨fun h1 => ?_, fun h1 => ?_⟩ <;> first | exact ab h1 | ((try rw [h1]); (try simp only [bl] at h1))) | dsimp only)
    · omega
    · exact h b1 _ (l.take i) _ (hT.due hz fun _ => by omega) el (Sub.hv (subBox rfl (subRow en ex (subTab hT hL rfl rfl rfl subEnd))))⟩
theorem due_seq {T : List SL} {v : Value} {l : List It} [r : RdsL w0 T v 2 l.length (l.flatMap encIt)] (b : Nat) :
    SeqOf P w0 (.func (.func 289) #[] #[.pointer (some ⟨b, 0, none⟩)]) (box b 259 [v] :: T) encIt l := by
  intro y J X w ds K o hy hk hx
  have yy : Yld P w0 y J X encIt l := ⟨hy⟩
  have one : ∀ w', Hv w0 T w' → One w' v := fun w' h => by have := r.rd w' h; infer_instance
  refine go ?_
  refine s289 ?_
  unfold D289
  have hb := (show Rds w v 2 l.length (l.flatMap encIt) from inferInstance).le
  simp only [maxLen] at hb
  repeat (first | refine go ?_ | intro _ | refine ⟨sb, ?_⟩ | refine ⟨sd, ?_⟩ | dsimp only)
  refine ⟨fun z s => ∃ (i : Nat) (w' : World), z = .int .i64 i ∧ s = ⟨w', []⟩ ∧ i ≤ l.length ∧ Hv w0 (J i :: box b 259 [v] :: T) w',
    fun z s => match z with | .int _ z => l.length - z.toNat | _ => 0, ⟨0, w, rfl, rfl, Nat.zero_le _, o⟩, ?_⟩
  rintro z s ⟨i, w2, rfl, rfl, hi, o2⟩
  clear o
  rcases Nat.lt_or_ge i l.length with hlt | hge
  · have e3 : l[i]? = some (l.getD i default) := getD_at hlt
    repeat' (first | refine go ?_ | intro _ | refine ⟨sb, ?_⟩ | refine ⟨sd, ?_⟩ | (refine ⟨fun h1 => ?_, fun h1 => ?_⟩ <;> first | exact ab h1 | ((try rw [h1]); (try simp only [bl] at h1))) | dsimp only)
    · refine ⟨_, e3, rfl, fun w' o5 => ?_, fun w' o5 => ?_⟩
      · repeat' (first | refine go ?_ | intro _ | refine ⟨sb, ?_⟩ | refine ⟨sd, ?_⟩ | (refine ⟨fun h1 => ?_, fun h1 => ?_⟩ <;> first | exact ab h1 | ((try rw [h1]); (try simp only [bl] at h1))) | dsimp only)
        exact ⟨⟨i + 1, _, rfl, rfl, hlt, Sub.hv (subJ rfl (subBox rfl subEnd))⟩, by simp; omega⟩
      · repeat' (first | refine go ?_ | intro _ | refine ⟨sb, ?_⟩ | refine ⟨sd, ?_⟩ | (refine ⟨fun h1 => ?_, fun h1 => ?_⟩ <;> first | exact ab h1 | ((try rw [h1]); (try simp only [bl] at h1))) | dsimp only)
        exact hx _ _ _ _ e3 (Sub.hv (subA (subBox rfl subEnd)))
    · exfalso; omega
  · obtain rfl : i = l.length := by omega
    repeat' (first | refine go ?_ | intro _ | refine ⟨sb, ?_⟩ | refine ⟨sd, ?_⟩ | (refine ⟨fun h1 => ?_, fun h1 => ?_⟩ <;> first | exact ab h1 | ((try rw [h1]); (try simp only [bl] at h1))) | dsimp only)
    · exfalso; omega
    · exact hk _ _ o2
/-- What is left when all that is due is taken. -/
def takeF (g : Int → Option Int) (now : Int) : Int → Option Int := fun k => (g k).filter fun a => decide (now < a)
def lessF (g : Int → Option Int) (ks : List Int) : Int → Option Int := fun k => if k ∈ ks then none else g k
theorem less_snoc (g : Int → Option Int) (ks : List Int) (k : Int) : updF (lessF g ks) k none = lessF g (ks ++ [k]) := by
  funext z
  show (if z = k then none else if z ∈ ks then none else g z) = if z ∈ ks ++ [k] then none else g z
  by_cases h1 : z = k <;> by_cases h2 : z ∈ ks <;> simp [h1, h2]
theorem less_due {l : List It} {g : Int → Option Int} {now : Int} (h : DueL l g now) : lessF g (l.map (·.1)) = takeF g now := by
  funext k
  have hm : k ∈ l.map (·.1) ↔ ∃ a, g k = some a ∧ a ≤ now := by
    rw [List.mem_map]
    constructor
    · rintro ⟨⟨k', a⟩, h1, rfl⟩; exact ⟨a, (h.mem _ _).1 h1⟩
    · rintro ⟨a, h1⟩; exact ⟨(k, a), (h.mem _ _).2 h1, rfl⟩
  show (if k ∈ l.map (·.1) then none else g k) = (g k).filter fun a => decide (now < a)
  cases hg : g k with
  | none => simp
  | some a =>
    by_cases ha : a ≤ now
    · rw [if_pos (hm.2 ⟨a, hg, ha⟩)]; simp [Option.filter, ha]
    · rw [if_neg (fun h => by obtain ⟨a', e, h2⟩ := hm.1 h; rw [hg] at e; obtain rfl := Option.some.inj e; exact ha h2)]
      have : now < a := by omega
      simp [Option.filter, this]
instance ttake_ok [o : Hv w0 H w] [i : InK tabR t H x R] : Step (Cl P 228 #[.pointer (some ⟨t, 0, none⟩), .int .i64 now] K ⟨w, ds⟩)
    (x.1 ≤ 1000000000 ∧ ∀ v l w', DueL l x.2 now → l.length ≤ x.1 → Hv w0 (row 3 1 v l.length ((l.map (·.1)).map intV) :: tabR t (x.1, takeF x.2 now) :: R) w' → K v ⟨w', ds⟩) := ⟨fun ⟨hN, h⟩ => by
  have o1 := i.hv o
  clear o
  refine s228 ?_
  unfold D228
  repeat' (first | refine go ?_ | intro _ | refine ⟨sb, ?_⟩ | refine ⟨sd, ?_⟩ | (refine ⟨fun h1 => ?_, fun h1 => ?_⟩ <;> first | exact ab h1 | ((try rw [h1]); (try simp only [bl] at h1))) | dsimp only)
  rename_i b1 w1 o2 b2 w2 o3 bd v l w3 hd hl o4
  clear o1 o2 o3
  have rl : RdsL w0 (row 266 2 v l.length (l.flatMap encIt) :: R) v 2 l.length (l.flatMap encIt) := RdsF.loc inferInstance
  refine rf_go (w0 := w0) (box bd 259 [v] :: row 266 2 v l.length (l.flatMap encIt) :: R) (fun i => any fun q => many [box b1 172 [.pointer (some ⟨t, 0, none⟩)], box b2 64 [q], row 3 1 q (l.take i).length (((l.take i).map (·.1)).map intV), tabR t (x.1, lessF x.2 ((l.take i).map (·.1)))])
    (fun _ => lift False) (fun _ _ => lift False) (due_seq (l := l) bd) (fun _ => rfl) ?_ ?_ ?_ (fun b i x w' _ h => h.lifted.elim) (fun b j i x w' _ h => h.lifted.elim)
  · have o5 := Hv.nilRow 3 1 o4
    refine Sub.hv (o := o5) (Sub.any (.slice none 0 0) (Sub.many (subBox rfl (subBox rfl (subRow rfl rfl (subK ?_ (subBox rfl (subRow rfl rfl subEnd))))))))
    refine Prod.ext rfl (funext fun k => ?_)
    simp [lessF]
  · intro b l1 rc R1 F w4 i y hi o5 hn hr hx
    obtain ⟨q, o6⟩ := o5.pick
    have o7 := o6.opens
    have hlt : i < l.length := (List.getElem?_eq_some_iff.1 hi).1
    have ey : l.getD i default = y := by rw [List.getD_eq_getElem?_getD, hi]; rfl
    clear o4 o5 o6
    simp only [List.cons_append, List.nil_append, List.headD_cons, List.tail_cons] at o7 ⊢
    repeat' (first | refine go ?_ | intro _ | refine ⟨sb, ?_⟩ | refine ⟨sd, ?_⟩ | (refine ⟨fun h1 => ?_, fun h1 => ?_⟩ <;> first | exact ab h1 | ((try rw [h1]); (try simp only [bl] at h1))) | dsimp only)
    refine hn _ (Sub.hv (Sub.any _ (Sub.many (subBox rfl (subBox rfl (subRow ?_ ?_ (subK ?_ ?_)))))))
    · rw [List.length_take, List.length_take]; omega
    · rw [take_snoc hlt, ey]; simp
    · rw [take_snoc hlt, ey, less_snoc, List.map_append]; rfl
    · exact subA (A := lpR rc l1) subEnd
  · intro b w4 o5
    obtain ⟨q, o6⟩ := o5.pick
    have o7 := o6.opens
    simp only [List.cons_append, List.nil_append, List.take_length] at o7
    rw [less_due hd] at o7
    clear o4 o5 o6
    repeat' (first | refine go ?_ | intro _ | refine ⟨sb, ?_⟩ | refine ⟨sd, ?_⟩ | (refine ⟨fun h1 => ?_, fun h1 => ?_⟩ <;> first | exact ab h1 | ((try rw [h1]); (try simp only [bl] at h1))) | dsimp only)
    refine h _ l _ hd hl (Sub.hv (subRow rfl rfl (subK rfl subEnd)))⟩
end
end Go.Proofs.YtgcomleicnblhaaGreatDoor.Pl

