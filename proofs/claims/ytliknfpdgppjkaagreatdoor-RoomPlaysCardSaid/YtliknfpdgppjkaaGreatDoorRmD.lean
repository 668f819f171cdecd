import Derived.Test.YtliknfpdgppjkaaGreatDoorRmC
set_option linter.all false
namespace Go.Proofs.YtliknfpdgppjkaaGreatDoor
open Go.Vx Go.Lib
/-! what is done to a room -/
section
set_option linter.unusedSectionVars false
variable {α : Type} [Inhabited α] {f : α → Int} {l : List α} {y : Int}
theorem del_same (h : hasBy f l y = false) : delBy f l y = l := List.filter_eq_self.2 fun x hx => by simpa using List.any_eq_false.1 h x hx
theorem rank_find (h : Ris f l) (hy : hasBy f l y = true) : l.find? (fun a => decide (f a = y)) = some (l.getD (rankBy f l y) default) := by
  obtain ⟨z, hz, hd, _⟩ := rank_split h hy
  have hlt : rankBy f l y < l.length := by
    rcases Nat.lt_or_ge (rankBy f l y) l.length with h | h
    · exact h
    · rw [List.drop_of_length_le h] at hd; cases hd
  have e : l.getD (rankBy f l y) default = z := (List.cons.inj ((drop_gen hlt).symm.trans hd)).1
  rw [e]
  conv => lhs; rw [← List.take_append_drop (rankBy f l y) l, hd]
  rw [List.find?_append, List.find?_eq_none.2, List.find?_cons, decide_eq_true hz]; rfl
  intro x hx
  rw [(rank_take h y).1] at hx
  have := of_decide_eq_true (List.mem_filter.1 hx).2
  simp; omega
theorem has_lt (h : Ris f l) (hy : hasBy f l y = true) : rankBy f l y < l.length := by
  obtain ⟨z, hz, hd, _⟩ := rank_split h hy
  rcases Nat.lt_or_ge (rankBy f l y) l.length with h | h
  · exact h
  · rw [List.drop_of_length_le h] at hd; cases hd
theorem find_no (hy : hasBy f l y = false) : l.find? (fun a => decide (f a = y)) = none := List.find?_eq_none.2 fun x hx => List.any_eq_false.1 hy x hx
end
def Rm.has (x : Rm) (id : Int) : Bool := hasBy mid x.mem id
def Rm.at (x : Rm) (id : Int) : Mem := (x.mem.find? fun m => decide (mid m = id)).getD (0, false, false)
def Rm.add (x : Rm) (id : Int) (op : Bool) : Rm := if hasBy mid x.mem id then x else { x with mem := insBy mid x.mem (id, op, false), inv := delBy nid x.inv id }
def Rm.drop (x : Rm) (id : Int) : Rm := { x with mem := delBy mid x.mem id }
def Rm.setTopic (x : Rm) (s : List UInt8) : Rm := { x with topic := (cleanS s).take 200 }
def Rm.invite (x : Rm) (id : Int) : Rm := { x with inv := addI x.inv id }
theorem Rm.ok.add {x : Rm} (h : x.ok) (id : Int) (op : Bool) (hh : hasBy mid x.mem id = false) : Rm.ok { x with mem := insBy mid x.mem (id, op, false), inv := delBy nid x.inv id } := ⟨h.ris.ins hh, h.flg, h.lim, h.key, h.ban, h.sz⟩
theorem Rm.ok.drop {x : Rm} (h : x.ok) (id : Int) : (x.drop id).ok := ⟨h.ris.del id, h.flg, h.lim, h.key, h.ban, h.sz⟩
section
set_option maxRecDepth 20000
set_option synthInstance.maxSize 100000
set_option synthInstance.maxHeartbeats 4000000
variable {K : Value → St → Prop} {w0 w : World} {H R : List SL} {ds : List Deferred} {p : Nat} {x : Rm} {id now : Int}
instance radd_ok {op : Bool} [o : Hv w0 H w] [i : InK roomR p H x R] : Step (Cl P 27 #[.pointer (some ⟨p, 0, none⟩), .int .i64 id, .bool op] K ⟨w, ds⟩) (x.fit ∧ ∀ w', Hv w0 (roomR p (x.add id op) :: R) w' → K (.tuple #[]) ⟨w', ds⟩) := ⟨fun ⟨hf, h⟩ => by
  have o0 := i.hv o
  clear o
  refine s27 ?_
  unfold D27
  repeat (first | refine go ?_ | intro _ | refine ⟨sb, ?_⟩ | refine ⟨sd, ?_⟩ | dsimp only)
  rename_i w1 o1
  obtain ⟨vm, vb, s, ok, o2⟩ := room_open o1
  clear o0 o1
  obtain ⟨f1, f2, f3⟩ := hf
  have hr := ok.ris
  have rle := rank_le mid x.mem id
  have hin := rank_ins hr (id, op, false)
  repeat' (first | refine go ?_ | intro _ | refine ⟨sb, ?_⟩ | refine ⟨sd, ?_⟩ | (refine ⟨fun h1 => ?_, fun h1 => ?_⟩ <;> first | exact ab h1 | ((try rw [h1]); (try simp only [bl] at h1))) | dsimp only)
  · have e : x.add id op = x := by unfold Rm.add; rw [h1.resolve_left (by simp)]; rfl
    rw [e] at h
    exact h _ (Sub.hv (subRoom ok ⟨rfl, rfl, rfl, rfl, rfl, rfl⟩ rfl rfl rfl rfl rfl subEnd))
  · have e : x.add id op = { x with mem := insBy mid x.mem (id, op, false), inv := delBy nid x.inv id } := by unfold Rm.add; rw [h1.2]; rfl
    rw [e] at h
    refine h _ (Sub.hv (subRoom (ok.add id op h1.2) ⟨rfl, rfl, rfl, rfl, rfl, rfl⟩ ?_ ?_ rfl rfl rfl subEnd))
    · rw [← hin]; simp; omega
    · rw [← hin]⟩
instance rmember_ok [o : Hv w0 H w] [i : InK roomR p H x R] : Step (Cl P 14 #[.pointer (some ⟨p, 0, none⟩), .int .i64 id] K ⟨w, ds⟩) (x.fit ∧ ∀ w', Hv w0 (roomR p x :: R) w' → K (.tuple #[memV (x.at id), .bool (x.has id)]) ⟨w', ds⟩) := ⟨fun ⟨hf, h⟩ => by
  have o0 := i.hv o
  clear o
  refine s14 ?_
  unfold D14
  repeat (first | refine go ?_ | intro _ | refine ⟨sb, ?_⟩ | refine ⟨sd, ?_⟩ | dsimp only)
  rename_i w1 o1
  obtain ⟨vm, vb, s, ok, o2⟩ := room_open o1
  clear o0 o1
  obtain ⟨f1, f2, f3⟩ := hf
  have hr := ok.ris
  have rle := rank_le mid x.mem id
  cases hy : hasBy mid x.mem id with
  | true =>
    have hlt := has_lt hr hy
    have e : x.at id = x.mem.getD (rankBy mid x.mem id) default := by unfold Rm.at; rw [rank_find hr hy]; rfl
    rw [e, show x.has id = true from hy] at h
    repeat' (first | refine go ?_ | intro _ | refine ⟨sb, ?_⟩ | refine ⟨sd, ?_⟩ | (refine ⟨fun h1 => ?_, fun h1 => ?_⟩ <;> first | exact ab h1 | ((try rw [h1]); (try simp only [bl] at h1))) | dsimp only)
    exact h _ (Sub.hv (subRoom ok ⟨rfl, rfl, rfl, rfl, rfl, rfl⟩ rfl rfl rfl rfl rfl subEnd))
  | false =>
    have e : x.at id = (0, false, false) := by unfold Rm.at; rw [find_no hy]; rfl
    rw [e, show x.has id = false from hy] at h
    repeat' (first | refine go ?_ | intro _ | refine ⟨sb, ?_⟩ | refine ⟨sd, ?_⟩ | (refine ⟨fun h1 => ?_, fun h1 => ?_⟩ <;> first | exact ab h1 | ((try rw [h1]); (try simp only [bl] at h1))) | dsimp only)
    exact h _ (Sub.hv (subRoom ok ⟨rfl, rfl, rfl, rfl, rfl, rfl⟩ rfl rfl rfl rfl rfl subEnd))⟩
theorem room_same {y : Rm} (h : Hv w0 (roomR p x :: R) w) (e : x = y) : Hv w0 (roomR p y :: R) w := e ▸ h
instance rdrop_ok [o : Hv w0 H w] [i : InK roomR p H x R] : Step (Cl P 30 #[.pointer (some ⟨p, 0, none⟩), .int .i64 id] K ⟨w, ds⟩) (x.fit ∧ ∀ w', Hv w0 (roomR p (x.drop id) :: R) w' → K (.bool (x.has id)) ⟨w', ds⟩) := ⟨fun ⟨hf, h⟩ => by
  have o0 := i.hv o
  clear o
  refine s30 ?_
  unfold D30
  repeat (first | refine go ?_ | intro _ | refine ⟨sb, ?_⟩ | refine ⟨sd, ?_⟩ | dsimp only)
  rename_i w1 o1
  obtain ⟨vm, vb, s, ok, o2⟩ := room_open o1
  clear o0 o1
  obtain ⟨f1, f2, f3⟩ := hf
  have hr := ok.ris
  have rle := rank_le mid x.mem id
  unfold Rm.has at h
  cases hy : hasBy mid x.mem id with
  | true =>
    have hlt := has_lt hr hy
    have hdl := rank_del hr hy
    rw [hy] at h
    repeat' (first | refine go ?_ | intro _ | refine ⟨sb, ?_⟩ | refine ⟨sd, ?_⟩ | (refine ⟨fun h1 => ?_, fun h1 => ?_⟩ <;> first | exact ab h1 | ((try rw [h1]); (try simp only [bl] at h1))) | dsimp only)
    · refine h _ (Sub.hv (subRoom (ok.drop id) ⟨rfl, rfl, rfl, rfl, rfl, rfl⟩ ?_ ?_ rfl rfl rfl subEnd))
      · show _ = (delBy mid x.mem id).length
        rw [← hdl, List.length_append, List.length_take, List.length_drop]; omega
      · show _ = (delBy mid x.mem id).flatMap encM
        rw [← hdl]
  | false =>
    have e : x.drop id = x := by unfold Rm.drop; rw [del_same hy]
    rw [hy, e] at h
    repeat' (first | refine go ?_ | intro _ | refine ⟨sb, ?_⟩ | refine ⟨sd, ?_⟩ | (refine ⟨fun h1 => ?_, fun h1 => ?_⟩ <;> first | exact ab h1 | ((try rw [h1]); (try simp only [bl] at h1))) | dsimp only)
    exact h _ (Sub.hv (subRoom ok ⟨rfl, rfl, rfl, rfl, rfl, rfl⟩ rfl rfl rfl rfl rfl subEnd))⟩
instance rlen_ok [o : Hv w0 H w] [i : InK roomR p H x R] : Step (Cl P 46 #[.pointer (some ⟨p, 0, none⟩)] K ⟨w, ds⟩) (∀ w', Hv w0 (roomR p x :: R) w' → K (.int .i64 (x.mem.length : Nat)) ⟨w', ds⟩) := ⟨fun h => by
  obtain ⟨vm, vb, s, ok, o1⟩ := room_open (i.hv o)
  clear o
  refine s46 ?_
  unfold D46
  repeat' (first | refine go ?_ | intro _ | refine ⟨sb, ?_⟩ | refine ⟨sd, ?_⟩ | (refine ⟨fun h1 => ?_, fun h1 => ?_⟩ <;> first | exact ab h1 | ((try rw [h1]); (try simp only [bl] at h1))) | dsimp only)
  exact h _ (Sub.hv (subRoom ok ⟨rfl, rfl, rfl, rfl, rfl, rfl⟩ rfl rfl rfl rfl rfl subEnd))⟩
instance rname_ok [o : Hv w0 H w] [i : InK roomR p H x R] : Step (Cl P 20 #[.pointer (some ⟨p, 0, none⟩)] K ⟨w, ds⟩) (∀ w', Hv w0 (roomR p x :: R) w' → K (str x.name) ⟨w', ds⟩) := ⟨fun h => by
  obtain ⟨vm, vb, s, ok, o1⟩ := room_open (i.hv o)
  clear o
  refine s20 ?_
  unfold D20
  repeat' (first | refine go ?_ | intro _ | refine ⟨sb, ?_⟩ | refine ⟨sd, ?_⟩ | (refine ⟨fun h1 => ?_, fun h1 => ?_⟩ <;> first | exact ab h1 | ((try rw [h1]); (try simp only [bl] at h1))) | dsimp only)
  exact h _ (Sub.hv (subRoom ok ⟨rfl, rfl, rfl, rfl, rfl, rfl⟩ rfl rfl rfl rfl rfl subEnd))⟩
instance rtopic_ok [o : Hv w0 H w] [i : InK roomR p H x R] : Step (Cl P 21 #[.pointer (some ⟨p, 0, none⟩)] K ⟨w, ds⟩) (∀ w', Hv w0 (roomR p x :: R) w' → K (str x.topic) ⟨w', ds⟩) := ⟨fun h => by
  obtain ⟨vm, vb, s, ok, o1⟩ := room_open (i.hv o)
  clear o
  refine s21 ?_
  unfold D21
  repeat' (first | refine go ?_ | intro _ | refine ⟨sb, ?_⟩ | refine ⟨sd, ?_⟩ | (refine ⟨fun h1 => ?_, fun h1 => ?_⟩ <;> first | exact ab h1 | ((try rw [h1]); (try simp only [bl] at h1))) | dsimp only)
  exact h _ (Sub.hv (subRoom ok ⟨rfl, rfl, rfl, rfl, rfl, rfl⟩ rfl rfl rfl rfl rfl subEnd))⟩
instance clean200_ok {l : List UInt8} [o : Hv w0 H w] : Step (Cl P 54 #[str l, .int .i64 200] K ⟨w, ds⟩) (l.length ≤ 1000000 ∧ ∀ w', Hv w0 H w' → K (str ((cleanS l).take 200)) ⟨w', ds⟩) := ⟨fun ⟨hl, h⟩ => clean_ok (m := 200) hl h⟩
theorem Rm.ok.topic {x : Rm} (h : x.ok) (s : List UInt8) : (x.setTopic s).ok := ⟨h.ris, h.flg, h.lim, h.key, h.ban, by simp [Rm.setTopic]; omega⟩
instance rsetTopic_ok {l : List UInt8} [o : Hv w0 H w] [i : InK roomR p H x R] : Step (Cl P 28 #[.pointer (some ⟨p, 0, none⟩), str l] K ⟨w, ds⟩) (l.length ≤ 1000000 ∧ ∀ w', Hv w0 (roomR p (x.setTopic l) :: R) w' → K (.tuple #[]) ⟨w', ds⟩) := ⟨fun ⟨hl, h⟩ => by
  obtain ⟨vm, vb, s, ok, o1⟩ := room_open (i.hv o)
  clear o
  refine s28 ?_
  unfold D28
  repeat' (first | refine go ?_ | intro _ | refine ⟨sb, ?_⟩ | refine ⟨sd, ?_⟩ | (refine ⟨fun h1 => ?_, fun h1 => ?_⟩ <;> first | exact ab h1 | ((try rw [h1]); (try simp only [bl] at h1))) | dsimp only)
  exact h _ (Sub.hv (subRoom (ok.topic l) ⟨rfl, rfl, rfl, rfl, rfl, rfl⟩ rfl rfl rfl rfl rfl subEnd))⟩
theorem Rm.ok.invite {x : Rm} (h : x.ok) (id : Int) : (x.invite id).ok := ⟨h.ris, h.flg, h.lim, h.key, h.ban, h.sz⟩
instance rinvite_ok [o : Hv w0 H w] [i : InK roomR p H x R] : Step (Cl P 29 #[.pointer (some ⟨p, 0, none⟩), .int .i64 id] K ⟨w, ds⟩) (x.fit ∧ ∀ w', Hv w0 (roomR p (x.invite id) :: R) w' → K (.tuple #[]) ⟨w', ds⟩) := ⟨fun ⟨⟨f1, f2, f3⟩, h⟩ => by
  obtain ⟨vm, vb, s, ok, o1⟩ := room_open (i.hv o)
  clear o
  refine s29 ?_
  unfold D29
  repeat' (first | refine go ?_ | intro _ | refine ⟨sb, ?_⟩ | refine ⟨sd, ?_⟩ | (refine ⟨fun h1 => ?_, fun h1 => ?_⟩ <;> first | exact ab h1 | ((try rw [h1]); (try simp only [bl] at h1))) | dsimp only)
  exact h _ (Sub.hv (subRoom (ok.invite id) ⟨rfl, rfl, rfl, rfl, rfl, rfl⟩ rfl rfl rfl rfl rfl subEnd))⟩
def Rm.flag (x : Rm) (c : UInt8) : Bool := decide (x.flags.toNat &&& bitN c ≠ 0)
instance rFlag_ok {c : UInt8} [o : Hv w0 H w] [i : InK roomR p H x R] : Step (Cl P 23 #[.pointer (some ⟨p, 0, none⟩), byteV c] K ⟨w, ds⟩) (∀ w', Hv w0 (roomR p x :: R) w' → K (.bool (x.flag c)) ⟨w', ds⟩) := ⟨fun h => by
  obtain ⟨vm, vb, s, ok, o1⟩ := room_open (i.hv o)
  clear o
  have fl := ok.flg
  have bl := bitN_lt c
  refine s23 ?_
  unfold D23
  repeat' (first | refine go ?_ | intro _ | refine ⟨sb, ?_⟩ | refine ⟨sd, ?_⟩ | (refine ⟨fun h1 => ?_, fun h1 => ?_⟩ <;> first | exact ab h1 | ((try rw [h1]); (try simp only [bl] at h1))) | dsimp only)
  refine cast (congrArg (fun b => K (.bool b) _) ?_) (h _ (Sub.hv (subRoom ok ⟨rfl, rfl, rfl, rfl, rfl, rfl⟩ rfl rfl rfl rfl rfl subEnd)))
  unfold Rm.flag
  rw [Bool.eq_iff_iff]; simp⟩
end
end Go.Proofs.YtliknfpdgppjkaaGreatDoor

