import Derived.Test.YtogoaohhaiggpaaPulF
set_option linter.all false
namespace Go.Proofs.Ytogoaohhaiggpaa
open Go.Vx
/-! are just these due? -/
/-- What is due, rising. -/
structure DueP (x : Pst) (now : Int) (l : List It) : Prop where
  srt : l.Pairwise fun a b => a.1 < b.1
  mem : ∀ k a, (k, a) ∈ l ↔ whatF x now k = some a
theorem due_ks {x : Pst} {now : Int} {ks : List Int} (h1 : ks.Pairwise (· < ·)) (h2 : ∀ k, k ∈ ks ↔ (whatF x now k).isSome = true) : DueP x now (ks.map fun k => (k, (whatF x now k).getD 0)) := by
  refine ⟨List.pairwise_map.2 (h1.imp fun h => h), fun k a => ?_⟩
  rw [List.mem_map]
  constructor
  · rintro ⟨k', h3, e⟩
    obtain ⟨rfl, rfl⟩ := Prod.mk.inj e
    obtain ⟨b, hb⟩ := Option.isSome_iff_exists.1 ((h2 k').1 h3)
    rw [hb]; rfl
  · intro h; exact ⟨k, (h2 k).2 (by rw [h]; rfl), by rw [h]; rfl⟩
section
set_option maxRecDepth 20000
set_option synthInstance.maxSize 100000
set_option synthInstance.maxHeartbeats 4000000
variable {K : Value → St → Prop} {w0 w : World} {H R : List SL} {ds : List Deferred} {p : Nat} {x : Pst} {id now : Int}
instance {y : Int × Int} : Encs encIt (encIt y) [y] := ⟨by simp⟩
theorem snoc_eq {l r : List It} {i : Nat} (hl : i < l.length) (hr : i < r.length) : decide (l.take (i + 1) = r.take (i + 1)) = (decide (l.take i = r.take i) && decide (l.getD i default = r.getD i default)) := by
  rw [Bool.eq_iff_iff, Bool.and_eq_true, decide_eq_true_eq, decide_eq_true_eq, decide_eq_true_eq, take_snoc hl, take_snoc hr]
  constructor
  · intro h
    have := List.append_inj h (by simp; omega)
    exact ⟨this.1, by simpa using this.2⟩
  · rintro ⟨h1, h2⟩; rw [h1, h2]
instance same_ok {wv : Value} {n : Nat} {xs : List Value} {rows : List It} [o : Hv w0 H w] [i : InK pulR p H x R] [rd : RdsF w0 R wv 2 n xs] [en : Encs encIt xs rows] : Step (Cl P 16 #[.pointer (some ⟨p, 0, none⟩), wv, .int .i64 now] K ⟨w, ds⟩)
    ((x.fit ∧ InR now) ∧ ∀ (l : List It) (w' : World), DueP x now l → Hv w0 (pulR p (x.due now) :: R) w' → K (.bool (decide (l = rows))) ⟨w', ds⟩) := ⟨fun ⟨⟨hf, hn⟩, h⟩ => by
  have hx := en.eq
  subst hx
  have o0 := i.hv o
  have rw0 := rd.rd w o0.tail
  have one : One w wv := inferInstance
  have hl : n = rows.length := by
    have := rw0.len
    rw [flatMap_len (size := 2) fun _ => rfl] at this
    omega
  subst hl
  have hb := rw0.le
  simp only [maxLen] at hb
  have ra := rd.many
  clear o
  refine s16 ?_
  unfold D16
  repeat' (first | refine go ?_ | intro _ | refine ⟨sb, ?_⟩ | refine ⟨sd, ?_⟩ | (refine ⟨fun h1 => ?_, fun h1 => ?_⟩ <;> first | exact ab h1 | ((try rw [h1]); (try simp only [bl] at h1))) | dsimp only)
  rename_i bw w1 o1 br w2 o2 bn w3 o3 w4 o4 bg w5 o5 w6 o6
  clear o0 o1 o2 o3 o4 o5
  refine ⟨⟨hf, hn⟩, ?_⟩
  intro bq1 bq2 wm v ks w7 hp hm o7
  clear o6
  repeat' (first | refine go ?_ | intro _ | refine ⟨sb, ?_⟩ | refine ⟨sd, ?_⟩ | (refine ⟨fun h1 => ?_, fun h1 => ?_⟩ <;> first | exact ab h1 | ((try rw [h1]); (try simp only [bl] at h1))) | dsimp only)
  have hd := due_ks hp hm
  have hll : (ks.map fun k => (k, (whatF x now k).getD 0)).length = ks.length := List.length_map _
  have hkb := (show Rds w7 v 1 ks.length (ks.map intV) from inferInstance).le
  simp only [maxLen] at hkb
  obtain ⟨l, hl⟩ : ∃ l, l = ks.map fun k => (k, (whatF x now k).getD 0) := ⟨_, rfl⟩
  rw [← hl] at hd hll
  have hat : ∀ (i : Nat) (k : Int), ks[i]? = some k → i < l.length ∧ l.getD i default = (k, (whatF x now k).getD 0) := fun i k hk => by
    have hi := (List.getElem?_eq_some_iff.1 hk).1
    refine ⟨by omega, ?_⟩
    rw [hl, List.getD_eq_getElem?_getD, List.getElem?_map, hk]; rfl
  refine rf_go (w0 := w0) (box bq1 61 [v] :: row 3 1 v ks.length (ks.map intV) :: box bq2 53 [.map (some wm)] :: mpf wm intV (tmap (whatF x now)) :: pulR p (x.due now) :: []) (fun i => many [lift (i ≤ rows.length), box bw 42 [wv], box br 4 [.bool false], box bn 3 [.int .i64 i], box bg 4 [.bool (decide (l.take i = rows.take i))], many R])
    (fun i => many [lift (rows.length ≤ i), box br 4 [.bool false], many R]) (fun _ _ => lift False) (pdue_seq bq1 bq2 wm) (fun _ => rfl) ?_ ?_ ?_ ?_ (fun b j i x w' _ h => h.lifted.elim)
  · refine Sub.hv <| Sub.many <| Sub.lift (Nat.zero_le _) <| subBox rfl <| subBox rfl <| subBox rfl <| subBox ?_ <| Sub.rest <| subBox rfl <| subRow rfl rfl <| subBox rfl <| subMpf rfl <| subK rfl subEnd
    simp
  · intro b l1 rc R1 F w8 i k hi o8 hn2 hr2 hx2
    have o9 := o8.opens
    simp only [List.cons_append, List.nil_append, List.headD_cons, List.tail_cons] at o9 ⊢
    have hlr := o9.lifted
    have o10 := o9.tail
    obtain ⟨hlt, hg⟩ := hat i k hi
    clear o7 o8 o9
    repeat' (first | refine go ?_ | intro _ | refine ⟨sb, ?_⟩ | refine ⟨sd, ?_⟩ | (refine ⟨fun h1 => ?_, fun h1 => ?_⟩ <;> first | exact ab h1 | ((try rw [h1]); (try simp only [bl] at h1))) | dsimp only)
    · refine hr2 _ (Sub.hv <| Sub.many <| Sub.lift (by omega) <| subBox rfl <| subA (A := many R) <| subA (A := lpD rc l1 .ret) subEnd)
    all_goals
      refine hn2 _ (Sub.hv <| Sub.many <| Sub.lift (by omega) <| subBox rfl <| subBox rfl <| subBox rfl <| subBox ?_ <| subA (A := many R) <| subA (A := lpR rc l1) subEnd)
      rw [snoc_eq hlt (by omega), hg]
      refine congrArg (fun b => [Value.bool b]) ?_
      generalize rows.getD i default = z at *
      obtain ⟨z1, z2⟩ := z
      simp only [Prod.mk.injEq]
      grind
  · intro b w8 o8
    have o9 := o8.opens
    simp only [List.cons_append, List.nil_append] at o9
    have hlr := o9.lifted
    have o10 := o9.tail
    clear o7 o8 o9
    have e : (decide (l.take ks.length = rows.take ks.length) && decide ((ks.length : Int) = (rows.length : Int))) = decide (l = rows) := by
      rw [List.take_of_length_le (by omega), Bool.eq_iff_iff, Bool.and_eq_true, decide_eq_true_eq, decide_eq_true_eq, decide_eq_true_eq]
      constructor
      · rintro ⟨h1, h2⟩; rwa [List.take_of_length_le (by omega)] at h1
      · rintro rfl; exact ⟨by rw [List.take_of_length_le (by omega)], by omega⟩
    repeat' (first | refine go ?_ | intro _ | refine ⟨sb, ?_⟩ | refine ⟨sd, ?_⟩ | (refine ⟨fun h1 => ?_, fun h1 => ?_⟩ <;> first | exact ab h1 | ((try rw [h1]); (try simp only [bl] at h1))) | dsimp only)
    rw [e]
    exact h l _ hd (Sub.hv <| Sub.unrest <| subK rfl <| subA (A := many R) subEnd)
  · intro b i k w8 hi o8
    have o9 := o8.opens
    simp only [List.cons_append, List.nil_append] at o9
    have hlr := o9.lifted
    have o10 := o9.tail
    obtain ⟨hlt, hg⟩ := hat i k hi
    clear o7 o8 o9
    have e : false = decide (l = rows) := by
      rw [eq_comm, decide_eq_false_iff_not]; rintro rfl; omega
    repeat' (first | refine go ?_ | intro _ | refine ⟨sb, ?_⟩ | refine ⟨sd, ?_⟩ | (refine ⟨fun h1 => ?_, fun h1 => ?_⟩ <;> first | exact ab h1 | ((try rw [h1]); (try simp only [bl] at h1))) | dsimp only)
    rw [e]
    exact h l _ hd (Sub.hv <| Sub.unrest <| subK rfl <| subA (A := many R) subEnd)⟩
end
end Go.Proofs.Ytogoaohhaiggpaa

