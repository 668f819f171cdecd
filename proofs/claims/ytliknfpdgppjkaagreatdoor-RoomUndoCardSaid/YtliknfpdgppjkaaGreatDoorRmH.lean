import Derived.Test.YtliknfpdgppjkaaGreatDoorRmG
set_option linter.all false
namespace Go.Proofs.YtliknfpdgppjkaaGreatDoor
open Go.Vx Go.Lib
/-! things told one by one -/
section
set_option maxRecDepth 20000
set_option synthInstance.maxSize 100000
set_option synthInstance.maxHeartbeats 4000000
variable {K : Value → St → Prop} {w0 w : World} {H R : List SL} {ds : List Deferred} {p n : Nat} {x : Rm} {v : Value} {xs : List Value}
instance valS_ok [o : Hv w0 H w] [one : One w v] : Step (Cl P 64 #[v] K ⟨w, ds⟩) (∀ b w', Hv w0 (box b 34 [v] :: H) w' → K (.func (.func 98) #[] #[.pointer (some ⟨b, 0, none⟩)]) ⟨w', ds⟩) := ⟨fun h => by
  refine s64 ?_
  unfold D64
  repeat' (first | refine go ?_ | intro _ | refine ⟨sb, ?_⟩ | refine ⟨sd, ?_⟩ | (refine ⟨fun h1 => ?_, fun h1 => ?_⟩ <;> first | exact ab h1 | ((try rw [h1]); (try simp only [bl] at h1))) | dsimp only)
  exact h _ _ (Sub.hv (subBox rfl subEnd))⟩
instance valM_ok [o : Hv w0 H w] [one : One w v] : Step (Cl P 78 #[v] K ⟨w, ds⟩) (∀ b w', Hv w0 (box b 47 [v] :: H) w' → K (.func (.func 107) #[] #[.pointer (some ⟨b, 0, none⟩)]) ⟨w', ds⟩) := ⟨fun h => by
  refine s78 ?_
  unfold D78
  repeat' (first | refine go ?_ | intro _ | refine ⟨sb, ?_⟩ | refine ⟨sd, ?_⟩ | (refine ⟨fun h1 => ?_, fun h1 => ?_⟩ <;> first | exact ab h1 | ((try rw [h1]); (try simp only [bl] at h1))) | dsimp only)
  exact h _ _ (Sub.hv (subBox rfl subEnd))⟩
theorem valS_seq {Tl : List SL} {ss : List (List UInt8)} [r : RdsL w0 Tl v 1 ss.length (ss.map str)] [one : ∀ w, One w v] (b : Nat) :
    SeqOf P w0 (.func (.func 98) #[] #[.pointer (some ⟨b, 0, none⟩)]) (box b 34 [v] :: Tl) (fun l => [str l]) ss := by
  intro y J X w ds K o hy hk hx
  have yy : Yld P w0 y J X (fun l => [str l]) ss := ⟨hy⟩
  refine go ?_
  refine s98 ?_
  unfold D98
  have hb := (show Rds w v 1 ss.length (ss.map str) from inferInstance).le
  simp only [maxLen] at hb
  repeat ((fail_if_success (refine l1_ind (fun _ _ => True) ?_ ?_)); (first | refine go ?_ | intro _ | refine ⟨sb, ?_⟩ | refine ⟨sd, ?_⟩ | dsimp only))
  refine ⟨fun z s => ∃ (i : Nat) (w' : World), z = .int .i64 i ∧ s = ⟨w', []⟩ ∧ i ≤ ss.length ∧ Hv w0 (J i :: box b 34 [v] :: Tl) w',
    fun z s => match z with | .int _ z => ss.length - z.toNat | _ => 0, ⟨0, _, rfl, rfl, Nat.zero_le _, o⟩, ?_⟩
  rintro z s ⟨i, w2, rfl, rfl, hi, o2⟩
  clear o
  rcases Nat.lt_or_ge i ss.length with hlt | hge
  · have e3 : ss[i]? = some (ss.getD i default) := getD_at hlt
    repeat' (first | refine go ?_ | intro _ | refine ⟨sb, ?_⟩ | refine ⟨sd, ?_⟩ | (refine ⟨fun h1 => ?_, fun h1 => ?_⟩ <;> first | exact ab h1 | ((try rw [h1]); (try simp only [bl] at h1))) | dsimp only)
    · refine ⟨_, e3, rfl, fun w' o5 => ?_, fun w' o5 => ?_⟩
      · repeat' (first | refine go ?_ | intro _ | refine ⟨sb, ?_⟩ | refine ⟨sd, ?_⟩ | (refine ⟨fun h1 => ?_, fun h1 => ?_⟩ <;> first | exact ab h1 | ((try rw [h1]); (try simp only [bl] at h1))) | dsimp only)
        exact ⟨⟨i + 1, _, rfl, rfl, hlt, o5⟩, by simp; omega⟩
      · repeat' (first | refine go ?_ | intro _ | refine ⟨sb, ?_⟩ | refine ⟨sd, ?_⟩ | (refine ⟨fun h1 => ?_, fun h1 => ?_⟩ <;> first | exact ab h1 | ((try rw [h1]); (try simp only [bl] at h1))) | dsimp only)
        exact hx _ _ _ _ e3 o5
    · exfalso; omega
  · obtain rfl : i = ss.length := by omega
    repeat' (first | refine go ?_ | intro _ | refine ⟨sb, ?_⟩ | refine ⟨sd, ?_⟩ | (refine ⟨fun h1 => ?_, fun h1 => ?_⟩ <;> first | exact ab h1 | ((try rw [h1]); (try simp only [bl] at h1))) | dsimp only)
    · exfalso; omega
    · exact hk _ _ o2
theorem valM_seq {Tl : List SL} {ss : List Mem} [r : RdsL w0 Tl v 3 ss.length (ss.flatMap encM)] [one : ∀ w, One w v] (b : Nat) :
    SeqOf P w0 (.func (.func 107) #[] #[.pointer (some ⟨b, 0, none⟩)]) (box b 47 [v] :: Tl) (fun m => [memV m]) ss := by
  intro y J X w ds K o hy hk hx
  have yy : Yld P w0 y J X (fun m => [memV m]) ss := ⟨hy⟩
  refine go ?_
  refine s107 ?_
  unfold D107
  have hb := (show Rds w v 3 ss.length (ss.flatMap encM) from inferInstance).le
  simp only [maxLen] at hb
  repeat ((fail_if_success (refine l1_ind (fun _ _ => True) ?_ ?_)); (first | refine go ?_ | intro _ | refine ⟨sb, ?_⟩ | refine ⟨sd, ?_⟩ | dsimp only))
  refine ⟨fun z s => ∃ (i : Nat) (w' : World), z = .int .i64 i ∧ s = ⟨w', []⟩ ∧ i ≤ ss.length ∧ Hv w0 (J i :: box b 47 [v] :: Tl) w',
    fun z s => match z with | .int _ z => ss.length - z.toNat | _ => 0, ⟨0, _, rfl, rfl, Nat.zero_le _, o⟩, ?_⟩
  rintro z s ⟨i, w2, rfl, rfl, hi, o2⟩
  clear o
  rcases Nat.lt_or_ge i ss.length with hlt | hge
  · have e3 : ss[i]? = some (ss.getD i default) := getD_at hlt
    repeat' (first | refine go ?_ | intro _ | refine ⟨sb, ?_⟩ | refine ⟨sd, ?_⟩ | (refine ⟨fun h1 => ?_, fun h1 => ?_⟩ <;> first | exact ab h1 | ((try rw [h1]); (try simp only [bl] at h1))) | dsimp only)
    · refine ⟨_, e3, rfl, fun w' o5 => ?_, fun w' o5 => ?_⟩
      · repeat' (first | refine go ?_ | intro _ | refine ⟨sb, ?_⟩ | refine ⟨sd, ?_⟩ | (refine ⟨fun h1 => ?_, fun h1 => ?_⟩ <;> first | exact ab h1 | ((try rw [h1]); (try simp only [bl] at h1))) | dsimp only)
        exact ⟨⟨i + 1, _, rfl, rfl, hlt, Sub.hv (subA (A := J (i + 1)) (subBox rfl subEnd))⟩, by simp; omega⟩
      · repeat' (first | refine go ?_ | intro _ | refine ⟨sb, ?_⟩ | refine ⟨sd, ?_⟩ | (refine ⟨fun h1 => ?_, fun h1 => ?_⟩ <;> first | exact ab h1 | ((try rw [h1]); (try simp only [bl] at h1))) | dsimp only)
        exact hx _ _ _ _ e3 (Sub.hv (subA (A := X i) (subBox rfl subEnd)))
    · exfalso; omega
  · obtain rfl : i = ss.length := by omega
    repeat' (first | refine go ?_ | intro _ | refine ⟨sb, ?_⟩ | refine ⟨sd, ?_⟩ | (refine ⟨fun h1 => ?_, fun h1 => ?_⟩ <;> first | exact ab h1 | ((try rw [h1]); (try simp only [bl] at h1))) | dsimp only)
    · exfalso; omega
    · exact hk _ _ o2
instance rbans_ok [o : Hv w0 H w] [i : InK roomR p H x R] : Step (Cl P 38 #[.pointer (some ⟨p, 0, none⟩)] K ⟨w, ds⟩) (x.fit ∧ ∀ b v w', Hv w0 (box b 34 [v] :: row 9 1 v x.bans.length (x.bans.map str) :: roomR p x :: R) w' → K (.func (.func 98) #[] #[.pointer (some ⟨b, 0, none⟩)]) ⟨w', ds⟩) := ⟨fun ⟨⟨f1, f2, f3⟩, h⟩ => by
  obtain ⟨vm, vb, s, ok, o1⟩ := room_open (i.hv o)
  clear o
  refine s38 ?_
  unfold D38
  repeat' (first | refine go ?_ | intro _ | refine ⟨sb, ?_⟩ | refine ⟨sd, ?_⟩ | (refine ⟨fun h1 => ?_, fun h1 => ?_⟩ <;> first | exact ab h1 | ((try rw [h1]); (try simp only [bl] at h1))) | dsimp only)
  exact h _ _ _ (Sub.hv (subBox rfl (subRow rfl rfl (subRoom ok ⟨rfl, rfl, rfl, rfl, rfl, rfl⟩ rfl rfl rfl rfl rfl subEnd))))⟩
instance rmembers_ok [o : Hv w0 H w] [i : InK roomR p H x R] : Step (Cl P 45 #[.pointer (some ⟨p, 0, none⟩)] K ⟨w, ds⟩) (x.fit ∧ ∀ b v w', Hv w0 (box b 47 [v] :: row 39 3 v x.mem.length (x.mem.flatMap encM) :: roomR p x :: R) w' → K (.func (.func 107) #[] #[.pointer (some ⟨b, 0, none⟩)]) ⟨w', ds⟩) := ⟨fun ⟨⟨f1, f2, f3⟩, h⟩ => by
  obtain ⟨vm, vb, s, ok, o1⟩ := room_open (i.hv o)
  clear o
  refine s45 ?_
  unfold D45
  repeat' (first | refine go ?_ | intro _ | refine ⟨sb, ?_⟩ | refine ⟨sd, ?_⟩ | (refine ⟨fun h1 => ?_, fun h1 => ?_⟩ <;> first | exact ab h1 | ((try rw [h1]); (try simp only [bl] at h1))) | dsimp only)
  exact h _ _ _ (Sub.hv (subBox rfl (subRow rfl rfl (subRoom ok ⟨rfl, rfl, rfl, rfl, rfl, rfl⟩ rfl rfl rfl rfl rfl subEnd))))⟩
/-! the law's bans and members -/
def lbJ (b1 b2 b3 : Nat) (l : List (List UInt8)) (q : Value) : SL := many [box b3 34 [q], row 9 1 q l.length (l.map str), box b1 34 [.slice none 0 0], box b2 4 [.bool false]]
instance lbans_ok [o : Hv w0 H w] [i : InK roomR p H x R] : Step (Cl P 13 #[.pointer (some ⟨p, 0, none⟩)] K ⟨w, ds⟩) ((x.fit ∧ x.bans.length ≤ 100) ∧ ∀ v w', Hv w0 (row 9 1 v x.bans.length (x.bans.map str) :: roomR p x :: R) w' → K (.tuple #[v, .bool true]) ⟨w', ds⟩) := ⟨fun ⟨⟨hf, hn⟩, h⟩ => by
  have o0 := i.hv o
  clear o
  refine s13 ?_
  unfold D13
  repeat' (first | refine go ?_ | intro _ | refine ⟨sb, ?_⟩ | refine ⟨sd, ?_⟩ | (refine ⟨fun h1 => ?_, fun h1 => ?_⟩ <;> first | exact ab h1 | ((try rw [h1]); (try simp only [bl] at h1))) | dsimp only)
  rename_i b1 w1 o1 b2 w2 o2 b3 w3 o3 bq vq w4 o4
  clear o0 o1 o2 o3
  have one1 : One w4 vq := inferInstance
  have one2 : ∀ w, One w vq := fun w => ⟨one1.eq⟩
  have rl : RdsL w0 (row 9 1 vq x.bans.length (x.bans.map str) :: roomR p x :: R) vq 1 x.bans.length (x.bans.map str) := RdsF.loc inferInstance
  refine rf_go (w0 := w0) (box bq 34 [vq] :: row 9 1 vq x.bans.length (x.bans.map str) :: roomR p x :: R) (fun i => any (lbJ b1 b2 b3 (x.bans.take i)))
    (fun _ => lift False) (fun _ _ => lift False) (valS_seq bq) (fun _ => rfl) ?_ ?_ ?_ (fun b i x w' _ h => h.lifted.elim) (fun b j i x w' _ h => h.lifted.elim)
  · obtain ⟨q0, e0⟩ : ∃ v : Value, v = .slice none 0 0 := ⟨_, rfl⟩
    have o5 := Hv.nilRow 9 1 o4
    rw [← e0] at o5
    exact Sub.hv <| Sub.any (A := lbJ b1 b2 b3 []) q0 <| Sub.many <| subBox rfl <| subRow rfl rfl <| subBox (by rw [e0]) <| subBox rfl <| subBox rfl <| subRow rfl rfl <| subK rfl subEnd
  · intro b l1 rc R1 F w8 i k hi o8 hn2 hr2 hx2
    obtain ⟨q, o8'⟩ := o8.pick
    have o9 := o8'.opens
    simp only [List.cons_append, List.nil_append, List.headD_cons, List.tail_cons] at o9 ⊢
    clear o4 o8 o8'
    have hlt := (List.getElem?_eq_some_iff.1 hi).1
    have hk : x.bans.take (i + 1) = x.bans.take i ++ [k] := by rw [List.take_add_one, hi]; rfl
    have hln : (x.bans.take i).length ≤ 100 := by rw [List.length_take]; omega
    repeat' (first | refine go ?_ | intro _ | refine ⟨sb, ?_⟩ | refine ⟨sd, ?_⟩ | (refine ⟨fun h1 => ?_, fun h1 => ?_⟩ <;> first | exact ab h1 | ((try rw [h1]); (try simp only [bl] at h1))) | dsimp only)
    · exfalso; omega
    · refine hn2 _ (Sub.hv <| Sub.any (A := lbJ b1 b2 b3 (x.bans.take (i + 1))) _ <| Sub.many <| subBox rfl <| subRow ?_ ?_ <| subBox rfl <| subBox rfl <| subA (A := lpR rc l1) subEnd)
      · rw [hk]; simp
      · rw [hk]; simp
  · intro b w8 o8
    obtain ⟨q, o8'⟩ := o8.pick
    have o9 := o8'.opens
    simp only [List.cons_append, List.nil_append] at o9
    clear o4 o8 o8'
    rw [List.take_length] at o9
    repeat' (first | refine go ?_ | intro _ | refine ⟨sb, ?_⟩ | refine ⟨sd, ?_⟩ | (refine ⟨fun h1 => ?_, fun h1 => ?_⟩ <;> first | exact ab h1 | ((try rw [h1]); (try simp only [bl] at h1))) | dsimp only)
    exact h q _ (Sub.hv (subRow rfl rfl <| subK rfl subEnd))⟩
theorem snoc2 {α : Type} [DecidableEq α] [Inhabited α] {l r : List α} {i : Nat} (h1 : i < l.length) (h2 : i < r.length) : decide (l.take (i + 1) = r.take (i + 1)) = (decide (l.take i = r.take i) && decide (l.getD i default = r.getD i default)) := by
  rw [take_snoc h1, take_snoc h2, Bool.eq_iff_iff, Bool.and_eq_true, decide_eq_true_eq, decide_eq_true_eq, decide_eq_true_eq]
  constructor
  · intro h
    have := List.append_inj h (by simp; omega)
    exact ⟨this.1, by simpa using this.2⟩
  · rintro ⟨a, b⟩; rw [a, b]
instance lmem_ok {ws : List Mem} [o : Hv w0 H w] [i : InK roomR p H x R] [rd : RdsF w0 R v 3 n xs] [e : Encs encM xs ws] : Step (Cl P 18 #[.pointer (some ⟨p, 0, none⟩), v] K ⟨w, ds⟩) (x.fit ∧ ∀ w', Hv w0 (roomR p x :: R) w' → K (.bool (decide (x.mem = ws))) ⟨w', ds⟩) := ⟨fun ⟨hf, h⟩ => by
  have o0 := i.hv o
  clear o
  have rl := rd.loc
  have hx := e.eq
  subst hx
  have hl : n = ws.length := by
    have := (rd.rd w o0.tail).len
    rw [flatMap_len (size := 3) fun _ => rfl] at this
    omega
  subst hl
  have hb := (rd.rd w o0.tail).le
  simp only [maxLen] at hb
  have f1 := hf.a
  have ra := rd.many
  refine s18 ?_
  unfold D18
  repeat' (first | refine go ?_ | intro _ | refine ⟨sb, ?_⟩ | refine ⟨sd, ?_⟩ | (refine ⟨fun h1 => ?_, fun h1 => ?_⟩ <;> first | exact ab h1 | ((try rw [h1]); (try simp only [bl] at h1))) | dsimp only)
  rename_i bv wa oa br wb ob bn wc oc wd od bg we oe wf of' bq vq w1 o1
  clear o0 oa ob oc od oe of'
  have one1 : One w1 vq := inferInstance
  have one2 : ∀ w, One w vq := fun w => ⟨one1.eq⟩
  have rl2 : RdsL w0 (row 39 3 vq x.mem.length (x.mem.flatMap encM) :: roomR p x :: []) vq 3 x.mem.length (x.mem.flatMap encM) := RdsF.loc inferInstance
  refine rf_go (w0 := w0) (box bq 47 [vq] :: row 39 3 vq x.mem.length (x.mem.flatMap encM) :: roomR p x :: []) (fun i => many [lift (i ≤ ws.length), box bv 47 [v], box br 4 [.bool false], box bn 3 [.int .i64 i], box bg 4 [.bool (decide (x.mem.take i = ws.take i))], many R])
    (fun i => many [lift (ws.length ≤ i), box br 4 [.bool false], many R]) (fun _ _ => lift False) (valM_seq bq) (fun _ => rfl) ?_ ?_ ?_ ?_ (fun b j i x w' _ h => h.lifted.elim)
  · refine Sub.hv <| Sub.many <| Sub.lift (Nat.zero_le _) <| subBox rfl <| subBox rfl <| subBox rfl <| subBox ?_ <| Sub.rest <| subBox rfl <| subRow rfl rfl <| subK rfl subEnd
    simp
  · intro b l1 rc R1 F w8 i k hi o8 hn2 hr2 hx2
    have o9 := o8.opens
    simp only [List.cons_append, List.nil_append, List.headD_cons, List.tail_cons] at o9 ⊢
    have hlr := o9.lifted
    have o10 := o9.tail
    have hlt := (List.getElem?_eq_some_iff.1 hi).1
    have hk : x.mem.getD i default = k := by rw [List.getD_eq_getElem?_getD, hi]; rfl
    clear o1 o8 o9
    repeat' (first | refine go ?_ | intro _ | refine ⟨sb, ?_⟩ | refine ⟨sd, ?_⟩ | (refine ⟨fun h1 => ?_, fun h1 => ?_⟩ <;> first | exact ab h1 | ((try rw [h1]); (try simp only [bl] at h1))) | dsimp only)
    · exact hr2 _ (Sub.hv <| Sub.many <| Sub.lift (by omega) <| subBox rfl <| subA (A := many R) <| subA (A := lpD rc l1 .ret) subEnd)
    all_goals
      refine hn2 _ (Sub.hv <| Sub.many <| Sub.lift (by omega) <| subBox rfl <| subBox rfl <| subBox rfl <| subBox ?_ <| subA (A := many R) <| subA (A := lpR rc l1) subEnd)
      rw [snoc2 hlt (by omega), hk]
      refine congrArg (fun b => [Value.bool b]) ?_
      generalize ws.getD i default = z at *
      obtain ⟨z1, z2, z3⟩ := z
      obtain ⟨k1, k2, k3⟩ := k
      simp only [Prod.mk.injEq]
      clear hi hk
      grind
  · intro b w8 o8
    have o9 := o8.opens
    simp only [List.cons_append, List.nil_append] at o9
    have hlr := o9.lifted
    have o10 := o9.tail
    clear o1 o8 o9
    repeat' (first | refine go ?_ | intro _ | refine ⟨sb, ?_⟩ | refine ⟨sd, ?_⟩ | (refine ⟨fun h1 => ?_, fun h1 => ?_⟩ <;> first | exact ab h1 | ((try rw [h1]); (try simp only [bl] at h1))) | dsimp only)
    · refine cast (congrArg (fun b => K (.bool b) _) ?_) (h _ (Sub.hv <| Sub.unrest <| subK rfl <| subA (A := many R) subEnd))
      have e1 : x.mem = ws := by
        have := ‹List.take x.mem.length x.mem = List.take x.mem.length ws›
        rw [List.take_length, List.take_of_length_le (by omega)] at this; exact this
      rw [decide_eq_true e1]; simp
    · refine cast (congrArg (fun b => K (.bool b) _) ?_) (h _ (Sub.hv <| Sub.unrest <| subK rfl <| subA (A := many R) subEnd))
      rw [decide_eq_false]; intro e; rw [e] at h1; exact h1 rfl
    · refine cast (congrArg (fun b => K (.bool b) _) ?_) (h _ (Sub.hv <| Sub.unrest <| subK rfl <| subA (A := many R) subEnd))
      rw [decide_eq_false]; intro e; rw [e] at h1; exact h1 rfl
  · intro b i k w8 hi o8
    have o9 := o8.opens
    simp only [List.cons_append, List.nil_append] at o9
    have hlr := o9.lifted
    have o10 := o9.tail
    have hlt := (List.getElem?_eq_some_iff.1 hi).1
    clear o1 o8 o9
    repeat' (first | refine go ?_ | intro _ | refine ⟨sb, ?_⟩ | refine ⟨sd, ?_⟩ | (refine ⟨fun h1 => ?_, fun h1 => ?_⟩ <;> first | exact ab h1 | ((try rw [h1]); (try simp only [bl] at h1))) | dsimp only)
    refine cast (congrArg (fun b => K (.bool b) _) ?_) (h _ (Sub.hv <| Sub.unrest <| subK rfl <| subA (A := many R) subEnd))
    rw [decide_eq_false]; intro e; rw [e] at hlt; omega⟩
end
end Go.Proofs.YtliknfpdgppjkaaGreatDoor

