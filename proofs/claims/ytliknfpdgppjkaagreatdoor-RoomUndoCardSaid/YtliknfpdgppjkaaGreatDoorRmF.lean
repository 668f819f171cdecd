import Derived.Test.YtliknfpdgppjkaaGreatDoorRmE
set_option linter.all false
namespace Go.Proofs.YtliknfpdgppjkaaGreatDoor
open Go.Vx Go.Lib
/-! changes of a room -/
abbrev Chg := Bool × UInt8 × List UInt8
abbrev chV (c : Chg) : Value := .agg #[.bool c.1, byteV c.2.1, str c.2.2]
abbrev noC : Chg := (false, 0, [])
def flagF (f : Nat) (on : Bool) (le : UInt8) : Nat := if on then (f &&& (31 - bitN le)) ||| bitN le else f &&& (31 - bitN le)
theorem flagF_lt {f : Nat} (h : f < 32) (on : Bool) (le : UInt8) : flagF f on le < 32 := by
  have h1 : f &&& (31 - bitN le) < 2 ^ 5 := Nat.lt_of_le_of_lt Nat.and_le_left h
  unfold flagF; split
  · exact Nat.or_lt_two_pow (n := 5) h1 (bitN_lt le)
  · exact h1
def Rm.setFlag (x : Rm) (on : Bool) (le : UInt8) : Rm := { x with flags := (flagF x.flags.toNat on le : Nat) }
def Rm.flagC (x : Rm) (on : Bool) (le : UInt8) : Chg := if flagF x.flags.toNat on le = x.flags.toNat then noC else (on, le, [])
theorem Rm.ok.setFlag {x : Rm} (h : x.ok) (on : Bool) (le : UInt8) : (x.setFlag on le).ok := ⟨h.ris, ⟨by simp [Rm.setFlag], by have := @flagF_lt x.flags.toNat (by have := h.flg; omega) on le; simp only [Rm.setFlag]; omega⟩, h.lim, h.key, h.ban, h.sz⟩
def memC (m : Mem) (le : UInt8) : Bool := if le = 118 then m.2.2 else m.2.1
def memS (m : Mem) (le : UInt8) (on : Bool) : Mem := if le = 118 then (m.1, m.2.1, on) else (m.1, on, m.2.2)
def Rm.setRank (x : Rm) (id : Int) (le : UInt8) (on : Bool) : Rm := if hasBy mid x.mem id then { x with mem := x.mem.set (rankBy mid x.mem id) (memS (x.at id) le on) } else x
def Rm.rankC (x : Rm) (id : Int) (c : Chg) : Chg × Int := if hasBy mid x.mem id then (if memC (x.at id) c.2.1 = c.1 then noC else c, 0) else (noC, 441)
theorem set_id {α : Type} [Inhabited α] {l : List α} {i : Nat} (h : i < l.length) : l.set i (l.getD i default) = l := by
  refine List.ext_getElem (by simp) fun j h1 h2 => ?_
  rw [List.getElem_set]; split
  · subst_vars; simp [h]
  · rfl
theorem Ris.set {l : List Mem} {i : Nat} {m : Mem} (h : Ris mid l) (hi : i < l.length) (e : m.1 = (l.getD i default).1) : Ris mid (l.set i m) := by
  have h := List.pairwise_iff_getElem.1 h
  refine List.pairwise_iff_getElem.2 ?_
  intro a b ha hb hab
  simp only [List.length_set] at ha hb
  have := h a b ha hb hab
  simp only [List.getElem_set]
  simp only [List.getD_eq_getElem?_getD, hi, List.getElem?_eq_getElem, Option.getD_some] at e
  split <;> split <;> simp_all
theorem Rm.ok.setRank {x : Rm} (h : x.ok) (id : Int) (le : UInt8) (on : Bool) : (x.setRank id le on).ok := by
  unfold Rm.setRank
  split
  · rename_i hy
    have hlt := has_lt h.ris hy
    refine ⟨h.ris.set hlt ?_, h.flg, h.lim, h.key, h.ban, h.sz⟩
    unfold Rm.at memS; rw [rank_find h.ris hy]
    split <;> rfl
  · exact h
section
set_option maxRecDepth 20000
set_option synthInstance.maxSize 100000
set_option synthInstance.maxHeartbeats 4000000
variable {K : Value → St → Prop} {w0 w : World} {H R : List SL} {ds : List Deferred} {p : Nat} {x : Rm} {id now : Int} {on : Bool} {le : UInt8} {arg : List UInt8}
instance rflag_ok [o : Hv w0 H w] [i : InK roomR p H x R] : Step (Cl P 40 #[.pointer (some ⟨p, 0, none⟩), .agg #[.bool on, byteV le, str arg]] K ⟨w, ds⟩) (∀ w', Hv w0 (roomR p (x.setFlag on le) :: R) w' → K (chV (x.flagC on le)) ⟨w', ds⟩) := ⟨fun h => by
  obtain ⟨vm, vb, s, ok, o1⟩ := room_open (i.hv o)
  clear o
  have fl := ok.flg
  have bl := bitN_lt le
  have ok2 := ok.setFlag on le
  have a1 : x.flags.toNat &&& (31 - bitN le) < 32 := Nat.lt_of_le_of_lt Nat.and_le_left (by omega)
  have a2 : (x.flags.toNat &&& (31 - bitN le)) ||| bitN le < 32 := Nat.or_lt_two_pow (n := 5) a1 bl
  refine s40 ?_
  unfold D40
  repeat' (first | refine go ?_ | intro _ | refine ⟨sb, ?_⟩ | refine ⟨sd, ?_⟩ | (refine ⟨fun h1 => ?_, fun h1 => ?_⟩ <;> first | exact ab h1 | ((try rw [h1]); (try simp only [bl] at h1))) | dsimp only)
  · have hq := h1
    have h0 : on = true := by assumption
    subst h0
    have q : x.flagC true le = noC := by unfold Rm.flagC; rw [if_pos]; have := of_decide_eq_true hq; simp only [flagF, if_true]; omega
    rw [q] at h
    exact h _ (Sub.hv (subRoom ok2 ⟨rfl, rfl, rfl, rfl, rfl, rfl⟩ rfl rfl rfl rfl rfl subEnd))
  · have hq := h1
    have h0 : on = true := by assumption
    subst h0
    have q : x.flagC true le = (true, le, []) := by unfold Rm.flagC; rw [if_neg]; have := of_decide_eq_false hq; simp only [flagF, if_true]; omega
    rw [q] at h
    exact h _ (Sub.hv (subRoom ok2 ⟨rfl, rfl, rfl, rfl, rfl, rfl⟩ rfl rfl rfl rfl rfl subEnd))
  · have hq := h1
    have h0 : on = false := by assumption
    subst h0
    have q : x.flagC false le = noC := by unfold Rm.flagC; rw [if_pos]; have := of_decide_eq_true hq; simp only [flagF]; rw [if_neg (by simp)]; omega
    rw [q] at h
    exact h _ (Sub.hv (subRoom ok2 ⟨rfl, rfl, rfl, rfl, rfl, rfl⟩ rfl rfl rfl rfl rfl subEnd))
  · have hq := h1
    have h0 : on = false := by assumption
    subst h0
    have q : x.flagC false le = (false, le, []) := by unfold Rm.flagC; rw [if_neg]; have := of_decide_eq_false hq; simp only [flagF]; rw [if_neg (by simp)]; omega
    rw [q] at h
    exact h _ (Sub.hv (subRoom ok2 ⟨rfl, rfl, rfl, rfl, rfl, rfl⟩ rfl rfl rfl rfl rfl subEnd))⟩
instance rrank_ok [o : Hv w0 H w] [i : InK roomR p H x R] : Step (Cl P 41 #[.pointer (some ⟨p, 0, none⟩), .agg #[.bool on, byteV le, str arg], .int .i64 id] K ⟨w, ds⟩) (x.fit ∧ ∀ w', Hv w0 (roomR p (x.setRank id le on) :: R) w' → K (.tuple #[chV (x.rankC id (on, le, arg)).1, .int .i64 (x.rankC id (on, le, arg)).2]) ⟨w', ds⟩) := ⟨fun ⟨hf, h⟩ => by
  have o0 := i.hv o
  clear o
  refine s41 ?_
  unfold D41
  repeat (first | refine go ?_ | intro _ | refine ⟨sb, ?_⟩ | refine ⟨sd, ?_⟩ | dsimp only)
  rename_i w1 o1
  obtain ⟨vm, vb, s, ok, o2⟩ := room_open ((inferInstance : InK roomR p _ x _).hv o1)
  clear o0 o1
  obtain ⟨f1, f2, f3⟩ := hf
  have hr := ok.ris
  have rle := rank_le mid x.mem id
  cases hy : hasBy mid x.mem id with
  | true =>
    have hlt := has_lt hr hy
    have e : x.at id = x.mem.getD (rankBy mid x.mem id) default := by unfold Rm.at; rw [rank_find hr hy]; rfl
    have ok2 := ok.setRank id le on
    have hs : x.setRank id le on = { x with mem := x.mem.set (rankBy mid x.mem id) (memS (x.at id) le on) } := by unfold Rm.setRank; rw [hy]; rfl
    have hc : x.rankC id (on, le, arg) = (if memC (x.at id) le = on then noC else (on, le, arg), 0) := by unfold Rm.rankC; rw [hy]; rfl
    have hi : x.mem[rankBy mid x.mem id]? = some (x.at id) := by rw [e]; simp [hlt]
    have fin : ∀ xs : List Value, xs = (x.mem.set (rankBy mid x.mem id) (memS (x.at id) le on)).flatMap encM → xs = (x.setRank id le on).mem.flatMap encM := fun xs hx => by rw [hs]; exact hx
    have fln : x.mem.length = (x.setRank id le on).mem.length := by rw [hs]; simp
    have fsm : memC (x.at id) le = on → x.mem.flatMap encM = (x.setRank id le on).mem.flatMap encM := fun hq => by
      rw [hs]
      have : memS (x.at id) le on = x.at id := by subst hq; unfold memS memC; split <;> rfl
      rw [this, e]
      show _ = (x.mem.set _ _).flatMap encM
      rw [show x.mem.set (rankBy mid x.mem id) (x.mem.getD (rankBy mid x.mem id) default) = x.mem from set_id hlt]
    repeat' (first | refine go ?_ | intro _ | refine ⟨sb, ?_⟩ | refine ⟨sd, ?_⟩ | (refine ⟨fun h1 => ?_, fun h1 => ?_⟩ <;> first | exact ab h1 | ((try rw [h1]); (try simp only [bl] at h1))) | dsimp only)
    · have h0 : le = 118 := by assumption
      have hq : memC (x.at id) le = on := by rw [e]; unfold memC; rw [if_pos h0]; exact eq_of_beq h1
      rw [hc, if_pos hq] at h
      exact h _ (Sub.hv (subRoom ok2 ⟨by rw [hs], by rw [hs], by rw [hs], by rw [hs], by rw [hs], by rw [hs]⟩ fln (fsm hq) (by rw [hs]) (by rw [hs]) (by rw [hs]) subEnd))
    · have h0 : le = 118 := by assumption
      have hq : ¬ memC (x.at id) le = on := by rw [e]; unfold memC; rw [if_pos h0]; intro hh; rw [hh] at h1; simp at h1
      rw [hc, if_neg hq] at h
      refine h _ (Sub.hv (subRoom ok2 ⟨by rw [hs], by rw [hs], by rw [hs], by rw [hs], by rw [hs], by rw [hs]⟩ fln (fin _ ?_) (by rw [hs]) (by rw [hs]) (by rw [hs]) subEnd))
      exact flat_setf (s := 3) (fun _ => rfl) (by omega) (y := x.at id) (by unfold memS; rw [if_pos h0]; rfl) _ _ hi
    · have h0 : ¬ le = 118 := by assumption
      have hq : memC (x.at id) le = on := by rw [e]; unfold memC; rw [if_neg h0]; exact eq_of_beq h1
      rw [hc, if_pos hq] at h
      exact h _ (Sub.hv (subRoom ok2 ⟨by rw [hs], by rw [hs], by rw [hs], by rw [hs], by rw [hs], by rw [hs]⟩ fln (fsm hq) (by rw [hs]) (by rw [hs]) (by rw [hs]) subEnd))
    · have h0 : ¬ le = 118 := by assumption
      have hq : ¬ memC (x.at id) le = on := by rw [e]; unfold memC; rw [if_neg h0]; intro hh; rw [hh] at h1; simp at h1
      rw [hc, if_neg hq] at h
      refine h _ (Sub.hv (subRoom ok2 ⟨by rw [hs], by rw [hs], by rw [hs], by rw [hs], by rw [hs], by rw [hs]⟩ fln (fin _ ?_) (by rw [hs]) (by rw [hs]) (by rw [hs]) subEnd))
      exact flat_setf (s := 3) (fun _ => rfl) (by omega) (y := x.at id) (by unfold memS; rw [if_neg h0]; rfl) _ _ hi
  | false =>
    have e : x.setRank id le on = x := by unfold Rm.setRank; rw [hy]; rfl
    have e2 : x.rankC id (on, le, arg) = (noC, 441) := by unfold Rm.rankC; rw [hy]; rfl
    rw [e, e2] at h
    repeat' (first | refine go ?_ | intro _ | refine ⟨sb, ?_⟩ | refine ⟨sd, ?_⟩ | (refine ⟨fun h1 => ?_, fun h1 => ?_⟩ <;> first | exact ab h1 | ((try rw [h1]); (try simp only [bl] at h1))) | dsimp only)
    exact h _ (Sub.hv (subRoom ok ⟨rfl, rfl, rfl, rfl, rfl, rfl⟩ rfl rfl rfl rfl rfl subEnd))⟩
def Rm.lockC (x : Rm) (c : Chg) : Rm × Chg × Int :=
  if c.1 = true ∧ (keyB c.2.2 = false ∨ x.key ≠ []) then (x, noC, 475) else if c.1 = true then ({ x with key := c.2.2 }, c, 0) else if x.key = [] then (x, noC, 0) else ({ x with key := [] }, (c.1, c.2.1, [42]), 0)
def Rm.limC (x : Rm) (c : Chg) : Rm × Chg :=
  if c.1 = true then (if numS c.2.2 = 0 ∨ (numS c.2.2 : Int) = x.limit then (x, noC) else ({ x with limit := numS c.2.2 }, c)) else if x.limit = 0 then (x, noC) else ({ x with limit := 0 }, (c.1, c.2.1, []))
theorem keyB_len {l : List UInt8} (h : keyB l = true) : l.length ≤ 23 := by
  simp only [keyB, Bool.and_eq_true, decide_eq_true_eq] at h; exact h.1.1.2
theorem Rm.ok.key' {x : Rm} (h : x.ok) {k : List UInt8} (hk : k.length ≤ 23) : Rm.ok { x with key := k } := ⟨h.ris, h.flg, h.lim, hk, h.ban, h.sz⟩
theorem Rm.ok.lim' {x : Rm} (h : x.ok) {k : Int} (hk : 0 ≤ k ∧ k ≤ 9999) : Rm.ok { x with limit := k } := ⟨h.ris, h.flg, hk, h.key, h.ban, h.sz⟩
instance rlocked_ok [o : Hv w0 H w] [i : InK roomR p H x R] : Step (Cl P 42 #[.pointer (some ⟨p, 0, none⟩), .agg #[.bool on, byteV le, str arg]] K ⟨w, ds⟩) (arg.length ≤ 100000 ∧ ∀ w', Hv w0 (roomR p (x.lockC (on, le, arg)).1 :: R) w' → K (.tuple #[chV (x.lockC (on, le, arg)).2.1, .int .i64 (x.lockC (on, le, arg)).2.2]) ⟨w', ds⟩) := ⟨fun ⟨hl, h⟩ => by
  obtain ⟨vm, vb, s, ok, o1⟩ := room_open (i.hv o)
  clear o
  refine s42 ?_
  unfold D42
  repeat' (first | refine go ?_ | intro _ | refine ⟨sb, ?_⟩ | refine ⟨sd, ?_⟩ | (refine ⟨fun h1 => ?_, fun h1 => ?_⟩ <;> first | exact ab h1 | ((try rw [h1]); (try simp only [bl] at h1))) | dsimp only)
  all_goals first
    | (have e : x.lockC (on, le, arg) = (x, noC, 475) := by unfold Rm.lockC; clear h; grind
       rw [e] at h
       exact h _ (Sub.hv (subRoom ok ⟨rfl, rfl, rfl, rfl, rfl, rfl⟩ rfl rfl rfl rfl rfl subEnd)))
    | (have e : x.lockC (on, le, arg) = ({ x with key := arg }, (on, le, arg), 0) := by unfold Rm.lockC; clear h; grind
       rw [e] at h
       exact h _ (Sub.hv (subRoom (ok.key' (keyB_len (by assumption))) ⟨rfl, rfl, rfl, rfl, rfl, rfl⟩ rfl rfl rfl rfl rfl subEnd)))
    | (have e : x.lockC (on, le, arg) = (x, noC, 0) := by unfold Rm.lockC; clear h; grind
       rw [e] at h
       exact h _ (Sub.hv (subRoom ok ⟨rfl, rfl, rfl, rfl, rfl, rfl⟩ rfl rfl rfl rfl rfl subEnd)))
    | (have e : x.lockC (on, le, arg) = ({ x with key := [] }, (on, le, [42]), 0) := by unfold Rm.lockC; clear h; grind
       rw [e] at h
       exact h _ (Sub.hv (subRoom (ok.key' (by simp)) ⟨rfl, rfl, rfl, rfl, rfl, rfl⟩ rfl rfl rfl rfl rfl subEnd)))
    | (exfalso; clear h; simp_all)⟩
instance rlimited_ok [o : Hv w0 H w] [i : InK roomR p H x R] : Step (Cl P 43 #[.pointer (some ⟨p, 0, none⟩), .agg #[.bool on, byteV le, str arg]] K ⟨w, ds⟩) (arg.length ≤ 100000 ∧ ∀ w', Hv w0 (roomR p (x.limC (on, le, arg)).1 :: R) w' → K (chV (x.limC (on, le, arg)).2) ⟨w', ds⟩) := ⟨fun ⟨hl, h⟩ => by
  obtain ⟨vm, vb, s, ok, o1⟩ := room_open (i.hv o)
  clear o
  refine s43 ?_
  unfold D43
  have hn := numS_lt arg
  repeat' (first | refine go ?_ | intro _ | refine ⟨sb, ?_⟩ | refine ⟨sd, ?_⟩ | (refine ⟨fun h1 => ?_, fun h1 => ?_⟩ <;> first | exact ab h1 | ((try rw [h1]); (try simp only [bl] at h1))) | dsimp only)
  all_goals first
    | (have e : x.limC (on, le, arg) = (x, noC) := by unfold Rm.limC; clear h; grind
       rw [e] at h
       exact h _ (Sub.hv (subRoom ok ⟨rfl, rfl, rfl, rfl, rfl, rfl⟩ rfl rfl rfl rfl rfl subEnd)))
    | (have e : x.limC (on, le, arg) = ({ x with limit := 0 }, (on, le, [])) := by unfold Rm.limC; clear h; grind
       rw [e] at h
       exact h _ (Sub.hv (subRoom (ok.lim' (by omega)) ⟨rfl, rfl, rfl, rfl, rfl, rfl⟩ rfl rfl rfl rfl rfl subEnd)))
    | (have e : x.limC (on, le, arg) = ({ x with limit := numS arg }, (on, le, arg)) := by unfold Rm.limC; clear h; grind
       rw [e] at h
       exact h _ (Sub.hv (subRoom (ok.lim' (by omega)) ⟨rfl, rfl, rfl, rfl, rfl, rfl⟩ rfl rfl rfl rfl rfl subEnd)))
    | skip⟩
def Rm.banC (x : Rm) (c : Chg) : Rm × Chg × Int :=
  if c.2.2 = [] ∨ 100 < (completeS (cleanS c.2.2)).length ∨ (completeS (cleanS c.2.2)).contains 32 = true then (x, noC, 0)
  else if c.1 = decide (0 ≤ idxP (fun s => decide (foldS s = foldS (completeS (cleanS c.2.2)))) x.bans) then (x, noC, 0)
  else if c.1 = true then (if x.mb ≤ x.bans.length then (x, noC, 478) else ({ x with bans := x.bans ++ [completeS (cleanS c.2.2)] }, (c.1, c.2.1, completeS (cleanS c.2.2)), 0))
  else ({ x with bans := x.bans.take (idxP (fun s => decide (foldS s = foldS (completeS (cleanS c.2.2)))) x.bans).toNat ++ x.bans.drop ((idxP (fun s => decide (foldS s = foldS (completeS (cleanS c.2.2)))) x.bans).toNat + 1) },
    (c.1, c.2.1, x.bans.getD (idxP (fun s => decide (foldS s = foldS (completeS (cleanS c.2.2)))) x.bans).toNat default), 0)
instance : OneTy 9 (List UInt8) str := ⟨fun _ => rfl⟩
class Ln (l : List UInt8) : Prop where le : l.length ≤ 1000000
instance {b : Nat} [ln : Ln arg] [bi : BoxIn H b 24 [.bool on, byteV le, str arg] R] : PredH w0 H (.func (.func 74) #[] #[.pointer (some ⟨b, 0, none⟩)]) (fun s => decide (foldS s = foldS arg)) := ⟨fun {K w ds l} o hl h => by
  refine go ?_
  have hln := ln.le
  refine s74 ?_
  unfold D74
  repeat' (first | refine go ?_ | intro _ | refine ⟨sb, ?_⟩ | refine ⟨sd, ?_⟩ | (refine ⟨fun h1 => ?_, fun h1 => ?_⟩ <;> first | exact ab h1 | ((try rw [h1]); (try simp only [bl] at h1))) | dsimp only)
  exact h _ (Sub.hv subEnd)⟩
theorem idxP_le (p : List UInt8 → Bool) (ps : List (List UInt8)) : idxP p ps < ps.length ∧ -1 ≤ idxP p ps := by
  unfold idxP
  cases h : ps.findIdx? p with
  | none => dsimp only; omega
  | some i => have := (List.findIdx?_eq_some_iff_getElem.1 h).1; dsimp only; omega
theorem complete_len (l : List UInt8) : (completeS l).length ≤ 3 * l.length + 6 := by
  unfold completeS
  have a1 := starS_len (nickR l).1
  have a2 := starS_len (cutB (nickR l).2 64).1
  have a3 := starS_len (cutB (nickR l).2 64).2.1
  have a4 := cutB_len (nickR l).2 64
  have a5 : (nickR l).1.length ≤ l.length ∧ (nickR l).2.length ≤ l.length := by unfold nickR; split <;> (try split) <;> simp <;> omega
  simp only [List.length_append, List.length_cons]; omega
theorem Rm.ok.ban_add {x : Rm} (h : x.ok) {k : List UInt8} (hk : k.length ≤ 100) : Rm.ok { x with bans := x.bans ++ [k] } := ⟨h.ris, h.flg, h.lim, h.key, fun b hb => by
  rcases List.mem_append.1 hb with hb | hb
  · exact h.ban b hb
  · rw [List.mem_singleton.1 hb]; exact hk, h.sz⟩
theorem Rm.ok.ban_del {x : Rm} (h : x.ok) (i : Nat) : Rm.ok { x with bans := x.bans.take i ++ x.bans.drop (i + 1) } := ⟨h.ris, h.flg, h.lim, h.key, fun b hb => by
  rcases List.mem_append.1 hb with hb | hb
  · exact h.ban b (List.mem_of_mem_take hb)
  · exact h.ban b (List.mem_of_mem_drop hb), h.sz⟩
instance rban_ok [o : Hv w0 H w] [i : InK roomR p H x R] : Step (Cl P 44 #[.pointer (some ⟨p, 0, none⟩), .agg #[.bool on, byteV le, str arg]] K ⟨w, ds⟩) ((x.fit ∧ arg.length ≤ 100000) ∧ ∀ w', Hv w0 (roomR p (x.banC (on, le, arg)).1 :: R) w' → K (.tuple #[chV (x.banC (on, le, arg)).2.1, .int .i64 (x.banC (on, le, arg)).2.2]) ⟨w', ds⟩) := ⟨fun ⟨⟨hf, hl⟩, h⟩ => by
  obtain ⟨vm, vb, s, ok, o1⟩ := room_open (i.hv o)
  clear o
  obtain ⟨f1, f2, f3⟩ := hf
  have c1 := clean_len arg
  have c2 := complete_len (cleanS arg)
  have hbl : ∀ m ∈ x.bans, m.length ≤ 1000000 := fun m hm => Nat.le_trans (ok.ban m hm) (by omega)
  have : Ln (completeS (cleanS arg)) := ⟨by omega⟩
  have hzl := idxP_le (fun s => decide (foldS s = foldS (completeS (cleanS arg)))) x.bans
  refine s44 ?_
  unfold D44
  rcases Int.lt_or_le (idxP (fun s => decide (foldS s = foldS (completeS (cleanS arg)))) x.bans) 0 with hz0 | hz0
  · repeat' (first | refine go ?_ | intro _ | refine ⟨sb, ?_⟩ | refine ⟨sd, ?_⟩ | (refine ⟨fun h1 => ?_, fun h1 => ?_⟩ <;> first | exact ab h1 | ((try rw [h1]); (try simp only [bl] at h1))) | dsimp only)
    all_goals first
      | (have e : x.banC (on, le, arg) = (x, noC, 0) := by unfold Rm.banC; clear h; grind
         rw [e] at h
         exact h _ (Sub.hv (subRoom ok ⟨rfl, rfl, rfl, rfl, rfl, rfl⟩ rfl rfl rfl rfl rfl subEnd)))
      | (have e : x.banC (on, le, arg) = (x, noC, 478) := by unfold Rm.banC; clear h; grind
         rw [e] at h
         exact h _ (Sub.hv (subRoom ok ⟨rfl, rfl, rfl, rfl, rfl, rfl⟩ rfl rfl rfl rfl rfl subEnd)))
      | (have e : x.banC (on, le, arg) = ({ x with bans := x.bans ++ [completeS (cleanS arg)] }, (on, le, completeS (cleanS arg)), 0) := by unfold Rm.banC; clear h; grind
         rw [e] at h
         exact h _ (Sub.hv (subRoom (ok.ban_add (by omega)) ⟨rfl, rfl, rfl, rfl, rfl, rfl⟩ rfl rfl (by simp) (by simp) rfl subEnd)))
      | (exfalso; clear h; simp_all; done)
      | (exfalso; clear h; grind)
      | trace_state
  · repeat' (first | refine go ?_ | intro _ | refine ⟨sb, ?_⟩ | refine ⟨sd, ?_⟩ | (refine ⟨fun h1 => ?_, fun h1 => ?_⟩ <;> first | exact ab h1 | ((try rw [h1]); (try simp only [bl] at h1))) | dsimp only)
    all_goals first
      | (have e : x.banC (on, le, arg) = (x, noC, 0) := by unfold Rm.banC; clear h; grind
         rw [e] at h
         exact h _ (Sub.hv (subRoom ok ⟨rfl, rfl, rfl, rfl, rfl, rfl⟩ rfl rfl rfl rfl rfl subEnd)))
      | (have e : x.banC (on, le, arg) = ({ x with bans := x.bans.take (idxP (fun s => decide (foldS s = foldS (completeS (cleanS arg)))) x.bans).toNat ++ x.bans.drop ((idxP (fun s => decide (foldS s = foldS (completeS (cleanS arg)))) x.bans).toNat + 1) }, (on, le, x.bans.getD (idxP (fun s => decide (foldS s = foldS (completeS (cleanS arg)))) x.bans).toNat default), 0) := by unfold Rm.banC; clear h; grind
         rw [e] at h
         exact h _ (Sub.hv (subRoom (ok.ban_del _) ⟨rfl, rfl, rfl, rfl, rfl, rfl⟩ rfl rfl (by rw [List.length_append, List.length_take, List.length_drop]; omega) (by rw [show ∀ z : Int, 0 ≤ z → (z + 1).toNat = z.toNat + 1 from fun z hz => by omega] <;> first | assumption | simp) rfl subEnd)))
      | (exfalso; clear h; simp_all; done)
      | (exfalso; clear h; grind)
      | trace_state⟩
end
end Go.Proofs.YtliknfpdgppjkaaGreatDoor

