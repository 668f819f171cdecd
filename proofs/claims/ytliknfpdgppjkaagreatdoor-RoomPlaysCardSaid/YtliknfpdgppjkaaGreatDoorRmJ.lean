import Derived.Test.YtliknfpdgppjkaaGreatDoorRmI
set_option linter.all false
namespace Go.Proofs.YtliknfpdgppjkaaGreatDoor
open Go.Vx Go.Lib
/-! what is done to the document's room -/
section
set_option maxRecDepth 20000
set_option synthInstance.maxSize 100000
set_option synthInstance.maxHeartbeats 4000000
variable {K : Value → St → Prop} {w0 w : World} {H R : List SL} {ds : List Deferred} {p : Nat} {x : Rf} {id : Int}
def Rf.add (x : Rf) (id : Int) (op : Bool) : Rf := if 0 ≤ x.at id then x else { x with l := x.l ++ [(id, op, false)], gs := delBy nid x.gs id }
def Rf.drop (x : Rf) (id : Int) : Rf := if x.at id < 0 then x else { x with l := x.l.take (x.at id).toNat ++ x.l.drop ((x.at id).toNat + 1) }
def Rf.flag (x : Rf) (c : UInt8) : Bool := x.on.contains c
instance fflag_ok {c : UInt8} [o : Hv w0 H w] [i : InK refR p H x R] : Step (Cl P 24 #[.pointer (some ⟨p, 0, none⟩), byteV c] K ⟨w, ds⟩) (x.fit ∧ ∀ w', Hv w0 (refR p x :: R) w' → K (.bool (x.flag c)) ⟨w', ds⟩) := ⟨fun ⟨hf, h⟩ => by
  obtain ⟨vm, vb, vg, o1⟩ := ref_open (i.hv o)
  clear o
  obtain ⟨f1, f2, f3, f4⟩ := hf
  refine s24 ?_
  unfold D24
  refine ⟨fun y s => ∃ (i : Nat) (w' : World), y = .int .i64 i ∧ s = ⟨w', []⟩ ∧ i ≤ x.on.length ∧ (x.on.take i).all (fun b => !decide (b = c)) = true ∧ Hv w0 (box p 50 [str x.name, .int .i64 x.mb, vm, str x.topic, str x.on, str x.key, .int .i64 x.limit, vb, vg] ::
    row 39 3 vm x.l.length (x.l.flatMap encM) :: row 9 1 vb x.bans.length (x.bans.map str) :: row 3 1 vg x.gs.length (x.gs.map intV) :: R) w',
    fun y s => match y with | .int _ z => x.on.length - z.toNat | _ => 0, ⟨0, w, rfl, rfl, Nat.zero_le _, rfl, o1⟩, ?_⟩
  rintro y s ⟨i, w1, rfl, rfl, hi, hp, o2⟩
  clear o1
  have hc : x.flag c = !x.on.all (fun b => !decide (b = c)) := by
    unfold Rf.flag; rw [Bool.eq_iff_iff]; simp
  rw [hc] at h
  rcases Nat.lt_or_ge i x.on.length with hlt | hge
  · have ht := all_take (p := fun b => !decide (b = c)) hlt
    repeat' (first | refine go ?_ | intro _ | refine ⟨sb, ?_⟩ | refine ⟨sd, ?_⟩ | (refine ⟨fun h1 => ?_, fun h1 => ?_⟩ <;> first | exact ab h1 | ((try rw [h1]); (try simp only [bl] at h1))) | dsimp only)
    · rw [all_at hlt (by simpa [-List.getD_eq_getElem?_getD] using h1)] at h
      exact h _ (Sub.hv (subRefR ⟨rfl, rfl, rfl, rfl, rfl, rfl⟩ rfl rfl rfl rfl rfl rfl subEnd))
    · exact ⟨⟨i + 1, _, rfl, rfl, hlt, by rw [ht, hp]; simpa [-List.getD_eq_getElem?_getD] using h1, Sub.hv subEnd⟩, by simp; omega⟩
    · exfalso; omega
  · rw [List.take_of_length_le hge] at hp
    rw [hp] at h
    repeat' (first | refine go ?_ | intro _ | refine ⟨sb, ?_⟩ | refine ⟨sd, ?_⟩ | (refine ⟨fun h1 => ?_, fun h1 => ?_⟩ <;> first | exact ab h1 | ((try rw [h1]); (try simp only [bl] at h1))) | dsimp only)
    · exfalso; omega
    · exact h _ (Sub.hv (subRefR ⟨rfl, rfl, rfl, rfl, rfl, rfl⟩ rfl rfl rfl rfl rfl rfl subEnd))⟩
instance fadd_ok {op : Bool} [o : Hv w0 H w] [i : InK refR p H x R] : Step (Cl P 36 #[.pointer (some ⟨p, 0, none⟩), .int .i64 id, .bool op] K ⟨w, ds⟩) (x.fit ∧ ∀ w', Hv w0 (refR p (x.add id op) :: R) w' → K (.tuple #[]) ⟨w', ds⟩) := ⟨fun ⟨hf, h⟩ => by
  have o0 := i.hv o
  clear o
  refine s36 ?_
  unfold D36
  repeat (first | refine go ?_ | intro _ | refine ⟨sb, ?_⟩ | refine ⟨sd, ?_⟩ | dsimp only)
  rename_i w1 o1
  obtain ⟨vm, vb, vg, o2⟩ := ref_open o1
  clear o0 o1
  obtain ⟨f1, f2, f3, f4⟩ := hf
  repeat' (first | refine go ?_ | intro _ | refine ⟨sb, ?_⟩ | refine ⟨sd, ?_⟩ | (refine ⟨fun h1 => ?_, fun h1 => ?_⟩ <;> first | exact ab h1 | ((try rw [h1]); (try simp only [bl] at h1))) | dsimp only)
  · rw [show x.add id op = x from if_pos h1] at h
    exact h _ (Sub.hv (subRefR ⟨rfl, rfl, rfl, rfl, rfl, rfl⟩ rfl rfl rfl rfl rfl rfl subEnd))
  · rw [show x.add id op = { x with l := x.l ++ [(id, op, false)], gs := delBy nid x.gs id } from if_neg (by omega)] at h
    exact h _ (Sub.hv (subRefR ⟨rfl, rfl, rfl, rfl, rfl, rfl⟩ (by simp) (by simp) rfl rfl rfl rfl subEnd))⟩
instance fdrop_ok [o : Hv w0 H w] [i : InK refR p H x R] : Step (Cl P 33 #[.pointer (some ⟨p, 0, none⟩), .int .i64 id] K ⟨w, ds⟩) (x.fit ∧ ∀ w', Hv w0 (refR p (x.drop id) :: R) w' → K (.bool (decide (0 ≤ x.at id))) ⟨w', ds⟩) := ⟨fun ⟨hf, h⟩ => by
  have o0 := i.hv o
  clear o
  have ha := x.at_le id
  refine s33 ?_
  unfold D33
  repeat (first | refine go ?_ | intro _ | refine ⟨sb, ?_⟩ | refine ⟨sd, ?_⟩ | dsimp only)
  rename_i w1 o1
  obtain ⟨vm, vb, vg, o2⟩ := ref_open o1
  clear o0 o1
  obtain ⟨f1, f2, f3, f4⟩ := hf
  repeat' (first | refine go ?_ | intro _ | refine ⟨sb, ?_⟩ | refine ⟨sd, ?_⟩ | (refine ⟨fun h1 => ?_, fun h1 => ?_⟩ <;> first | exact ab h1 | ((try rw [h1]); (try simp only [bl] at h1))) | dsimp only)
  · rw [show x.drop id = x from if_pos h1, decide_eq_false (by omega)] at h
    exact h _ (Sub.hv (subRefR ⟨rfl, rfl, rfl, rfl, rfl, rfl⟩ rfl rfl rfl rfl rfl rfl subEnd))
  · rw [show x.drop id = { x with l := x.l.take (x.at id).toNat ++ x.l.drop ((x.at id).toNat + 1) } from if_neg (by omega), decide_eq_true h1] at h
    have e9 : (x.at id + 1).toNat = (x.at id).toNat + 1 := by omega
    exact h _ (Sub.hv (subRefR ⟨rfl, rfl, rfl, rfl, rfl, rfl⟩ (by simp; omega) (by simp only [e9, List.nil_append, Nat.sub_zero, Nat.zero_mul, List.drop_zero]; rw [flat_take (s := 3) (fun _ => rfl), flat_drop (s := 3) (fun _ => rfl), List.flatMap_append]; exact congrArg (_ ++ ·) (List.take_of_length_le (by rw [flatMap_len (size := 3) fun _ => rfl, List.length_drop]; exact Nat.le_refl _))) rfl rfl rfl rfl subEnd))⟩
def Rf.ids (x : Rf) : List Int := (x.l.map mid).foldl addI []
def Rf.members (x : Rf) : List Mem := x.ids.map fun id => x.l.getD (x.at id).toNat default
theorem mem_ins {l : List Int} {a b : Int} (h : a ∈ addI l b) : a ∈ l ∨ a = b := by
  unfold addI at h
  split at h
  · exact .inl h
  · simp only [insBy, List.mem_append, List.mem_cons, List.mem_filter] at h
    rcases h with h | h | h
    · exact .inl h.1
    · exact .inr h
    · exact .inl h.1
theorem mem_adds (xs : List Int) : ∀ {l : List Int} {a : Int}, a ∈ xs.foldl addI l → a ∈ l ∨ a ∈ xs := by
  induction xs with
  | nil => intro l a h; exact .inl h
  | cons x xs ih =>
    intro l a h
    rcases ih h with h | h
    · rcases mem_ins h with h | h
      · exact .inl h
      · exact .inr (h ▸ List.mem_cons_self ..)
    · exact .inr (List.mem_cons_of_mem _ h)
theorem adds_ris (xs : List Int) : ∀ {l : List Int}, Ris nid l → Ris nid (xs.foldl addI l) := by
  induction xs with
  | nil => intro l h; exact h
  | cons x xs ih => intro l h; exact ih (addI_ris h x)
theorem Rf.at_mem {x : Rf} {id : Int} (h : id ∈ x.ids) : 0 ≤ x.at id := by
  have h1 := (mem_adds _ h).resolve_left (by simp)
  obtain ⟨m, hm, rfl⟩ := List.mem_map.1 h1
  unfold Rf.at
  cases hf : x.l.findIdx? (fun z => decide (mid z = mid m)) with
  | some i => exact Int.natCast_nonneg i
  | none => have := List.findIdx?_eq_none_iff.1 hf m hm; simp at this
theorem Rf.at_eq (x : Rf) (id : Int) : x.at id = (match x.l.findIdx? (fun m => decide (mid m = id)) with | some i => (i : Int) | none => -1) := rfl
instance fatB_ok {a b c d e f g h' vm : Value} {n : Nat} {xs : List Value} {l : List Mem} [o : Hv w0 H w] [bi : BoxIn H p 50 [a, b, vm, c, d, e, f, g, h'] R] [r : RdsF w0 H vm 3 n xs] [en : Encs encM xs l] : Step (Cl P 17 #[.pointer (some ⟨p, 0, none⟩), .int .i64 id] K ⟨w, ds⟩) (l.length ≤ 100000 ∧ ∀ w', Hv w0 H w' → K (.int .i64 (match l.findIdx? (fun m => decide (mid m = id)) with | some i => (i : Int) | none => -1)) ⟨w', ds⟩) := ⟨fun ⟨f1, h⟩ => by
  have rl := r.loc
  have hx := en.eq
  subst hx
  obtain rfl : n = l.length := by
    have := (r.rd w o).len
    rw [flatMap_len (size := 3) fun _ => rfl] at this
    omega
  refine s17 ?_
  unfold D17
  refine ⟨fun y s => ∃ (i : Nat) (w' : World), y = .int .i64 i ∧ s = ⟨w', []⟩ ∧ i ≤ l.length ∧ (∀ j < i, decide (mid (l.getD j default) = id) = false) ∧ Hv w0 H w',
    fun y s => match y with | .int _ z => l.length - z.toNat | _ => 0, ⟨0, w, rfl, rfl, Nat.zero_le _, fun j hj => by omega, o⟩, ?_⟩
  rintro y s ⟨i, w1, rfl, rfl, hi, hp, o2⟩
  clear o
  rcases Nat.lt_or_ge i l.length with hlt | hge
  · repeat' (first | refine go ?_ | intro _ | refine ⟨sb, ?_⟩ | refine ⟨sd, ?_⟩ | (refine ⟨fun h1 => ?_, fun h1 => ?_⟩ <;> first | exact ab h1 | ((try rw [h1]); (try simp only [bl] at h1))) | dsimp only)
    · rw [find_k hlt (by simpa using h1) hp] at h
      exact h _ (Sub.hv subEnd)
    · refine ⟨⟨i + 1, _, rfl, rfl, hlt, fun j hj => ?_, Sub.hv subEnd⟩, by simp; omega⟩
      rcases Nat.lt_or_ge j i with h3 | h3
      · exact hp j h3
      · obtain rfl : j = i := by omega
        simpa using h1
    · exfalso; omega
  · rw [find_n fun j hj => hp j (by omega)] at h
    repeat' (first | refine go ?_ | intro _ | refine ⟨sb, ?_⟩ | refine ⟨sd, ?_⟩ | (refine ⟨fun h1 => ?_, fun h1 => ?_⟩ <;> first | exact ab h1 | ((try rw [h1]); (try simp only [bl] at h1))) | dsimp only)
    · exfalso; omega
    · exact h _ (Sub.hv subEnd)⟩
instance fmem_ok [o : Hv w0 H w] [i : InK refR p H x R] : Step (Cl P 19 #[.pointer (some ⟨p, 0, none⟩)] K ⟨w, ds⟩) (x.fit ∧ ∀ v w', Hv w0 (row 39 3 v x.members.length (x.members.flatMap encM) :: refR p x :: R) w' → K v ⟨w', ds⟩) := ⟨fun ⟨hf, h⟩ => by
  have o0 := i.hv o
  clear o
  obtain ⟨f1, f2, f3, f4⟩ := hf
  refine s19 ?_
  unfold D19
  have o1 := Hv.nilRow 3 1 o0
  clear o0
  refine ⟨fun y z s => ∃ (i : Nat) (w' : World), z = .int .i64 i ∧ s = ⟨w', []⟩ ∧ i ≤ x.l.length ∧ Hv w0 (row 3 1 y (((x.l.take i).map mid).foldl addI []).length ((((x.l.take i).map mid).foldl addI []).map intV) :: refR p x :: R) w',
    fun _ z s => match z with | .int _ z => x.l.length - z.toNat | _ => 0, ⟨0, w, rfl, rfl, Nat.zero_le _, o1⟩, ?_⟩
  rintro y z s ⟨i, w1, rfl, rfl, hi, o2⟩
  clear o1
  have hl := addsI_len ((x.l.take i).map mid) []
  have hr := adds_ris ((x.l.take i).map mid) (l := []) List.Pairwise.nil
  simp only [List.length_map, List.length_take, List.length_nil] at hl
  obtain ⟨vm, vb, vg, o3⟩ := ref_open ((inferInstance : InK refR p _ x _).hv o2)
  rcases Nat.lt_or_ge i x.l.length with hlt | hge
  · have hst : ((x.l.take (i + 1)).map mid).foldl addI [] = addI (((x.l.take i).map mid).foldl addI []) (x.l.getD i default).1 := by rw [take_snoc hlt, List.map_append, List.foldl_append]; rfl
    clear o2
    generalize hq : ((x.l.take i).map mid).foldl addI [] = q at *
    repeat' (first | refine go ?_ | intro _ | refine ⟨sb, ?_⟩ | refine ⟨sd, ?_⟩ | (refine ⟨fun h1 => ?_, fun h1 => ?_⟩ <;> first | exact ab h1 | ((try rw [h1]); (try simp only [bl] at h1))) | dsimp only)
    · refine ⟨⟨i + 1, _, rfl, rfl, hlt, ?_⟩, by simp; omega⟩
      rw [hst]
      exact Sub.hv (subRow rfl rfl (subRefR ⟨rfl, rfl, rfl, rfl, rfl, rfl⟩ rfl rfl rfl rfl rfl rfl subEnd))
    · exfalso; omega
  · rw [List.take_of_length_le hge] at o2 hl hr
    clear o3
    obtain ⟨vm, vb, vg, o3⟩ := ref_open ((inferInstance : InK refR p _ x _).hv o2)
    clear o2
    repeat' (first | refine go ?_ | intro _ | refine ⟨sb, ?_⟩ | refine ⟨sd, ?_⟩ | (refine ⟨fun h1 => ?_, fun h1 => ?_⟩ <;> first | exact ab h1 | ((try rw [h1]); (try simp only [bl] at h1))) | dsimp only)
    · exfalso; omega
    have o4 : Hv w0 (row 3 1 y x.ids.length (x.ids.map intV) :: refR p x :: R) w1 := Sub.hv (subRow rfl rfl (subRefR ⟨rfl, rfl, rfl, rfl, rfl, rfl⟩ rfl rfl rfl rfl rfl rfl subEnd))
    have o5 := Hv.nilRow 39 3 o4
    clear o3 o4
    have hids : x.ids.length ≤ 100000 := by show (List.foldl addI [] _).length ≤ _; omega
    refine ⟨fun a b s => ∃ (i : Nat) (w' : World), b = .int .i64 i ∧ s = ⟨w', []⟩ ∧ i ≤ x.ids.length ∧ Hv w0 (row 39 3 a (x.members.take i).length ((x.members.take i).flatMap encM) :: row 3 1 y x.ids.length (x.ids.map intV) :: refR p x :: R) w',
      fun _ b s => match b with | .int _ z => x.ids.length - z.toNat | _ => 0, ⟨0, w1, rfl, rfl, Nat.zero_le _, o5⟩, ?_⟩
    rintro a b s ⟨j, w2, rfl, rfl, hj, o6⟩
    clear o5
    have hml : x.members.length = x.ids.length := List.length_map _
    have hmj : (x.members.take j).length = j := by rw [List.length_take]; omega
    rcases Nat.lt_or_ge j x.ids.length with hlt | hge2
    · have ham := Rf.at_mem (x := x) (id := x.ids.getD j default) (getD_mem hlt)
      have hal := x.at_le (x.ids.getD j default)
      have hst : x.members.take (j + 1) = x.members.take j ++ [x.l.getD (x.at (x.ids.getD j default)).toNat default] := by
        rw [take_snoc (by omega)]; congr 2
        simp [Rf.members, hlt]
      obtain ⟨vm, vb, vg, o7⟩ := ref_open ((inferInstance : InK refR p _ x _).hv o6)
      clear o6
      rw [Rf.at_eq] at ham hal hst
      repeat' (first | refine go ?_ | intro _ | refine ⟨sb, ?_⟩ | refine ⟨sd, ?_⟩ | (refine ⟨fun h1 => ?_, fun h1 => ?_⟩ <;> first | exact ab h1 | ((try rw [h1]); (try simp only [bl] at h1))) | dsimp only)
      · refine ⟨⟨j + 1, _, rfl, rfl, hlt, ?_⟩, by simp; omega⟩
        rw [hst]
        exact Sub.hv (subRow (by simp) (by simp) (subRow rfl rfl (subRefR ⟨rfl, rfl, rfl, rfl, rfl, rfl⟩ rfl rfl rfl rfl rfl rfl subEnd)))
      · exfalso; omega
    · rw [List.take_of_length_le (by omega)] at o6
      repeat' (first | refine go ?_ | intro _ | refine ⟨sb, ?_⟩ | refine ⟨sd, ?_⟩ | (refine ⟨fun h1 => ?_, fun h1 => ?_⟩ <;> first | exact ab h1 | ((try rw [h1]); (try simp only [bl] at h1))) | dsimp only)
      · exfalso; omega
      · exact h _ _ (Sub.hv (subRow rfl rfl (subK rfl subEnd)))⟩
end
end Go.Proofs.YtliknfpdgppjkaaGreatDoor

