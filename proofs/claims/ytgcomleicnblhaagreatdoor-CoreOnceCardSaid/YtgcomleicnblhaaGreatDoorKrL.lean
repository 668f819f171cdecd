import Derived.Test.YtgcomleicnblhaaGreatDoorKrK
set_option linter.all false
namespace Go.Proofs.YtgcomleicnblhaaGreatDoor
open Go.Vx Go.Lib
/-! lines told -/
structure Qu.fine (x : Qu) : Prop where
  b : x.b.length ≤ 65536
  m : x.most ≤ 65536
  t : 0 ≤ x.torn ∧ x.torn ≤ 1000000
  s : 0 ≤ x.sent ∧ x.sent ≤ 1000000000
theorem Qu.fine.ok {x : Qu} (h : x.fine) : x.ok := ⟨by have := h.b; omega, h.t, by have := h.s; omega⟩
theorem Qu.fine.push {x : Qu} (h : x.fine) (l : List UInt8) : (x.push l).1.fine := by
  unfold Qu.push
  split
  · exact h
  split
  · exact ⟨h.b, h.m, h.t, h.s⟩
  · have := h.m
    exact ⟨by simp; omega, h.m, h.t, h.s⟩
def Cs.tell1 (x : Cs) (id : Int) (l : List UInt8) : Cs := match x.live id with
  | none => x
  | some y => if y.2.q.over then x else { x.set id y.1 { y.2 with q := (y.2.q.push l).1 } with dying := if (y.2.q.push l).1.over then x.dying ++ [id] else x.dying }
def Cs.tell (x : Cs) (id : Int) (ls : List (List UInt8)) : Cs := ls.foldl (fun x l => x.tell1 id l) x
structure Cs.fine (x : Cs) : Prop where
  q : ∀ id y, x.conns id = some y → y.2.q.fine
theorem Cs.fine.tell1 {x : Cs} (h : x.fine) (id : Int) (l : List UInt8) : (x.tell1 id l).fine := by
  unfold Cs.tell1
  cases hl : x.live id with
  | none => exact h
  | some y =>
    dsimp only
    split
    · exact h
    · refine ⟨fun k u hu => ?_⟩
      dsimp only [Cs.set] at hu
      by_cases q : k = id
      · subst q
        rw [updF_at] at hu
        obtain rfl := Option.some.inj hu
        exact (h.q _ _ (live_at hl).1).push l
      · rw [updF_ne _ q] at hu
        exact h.q _ _ hu
theorem Cs.fine.tell {x : Cs} (h : x.fine) (id : Int) (ls : List (List UInt8)) : (x.tell id ls).fine := by
  unfold Cs.tell
  induction ls generalizing x with
  | nil => exact h
  | cons l ls ih => exact ih (h.tell1 id l)
theorem tell1_dying (x : Cs) (id : Int) (l : List UInt8) : (x.tell1 id l).dying.length ≤ x.dying.length + 1 := by
  unfold Cs.tell1
  split
  · omega
  split
  · omega
  · dsimp only; split
    · simp
    · omega
theorem tell_dying (x : Cs) (id : Int) (ls : List (List UInt8)) : (x.tell id ls).dying.length ≤ x.dying.length + ls.length := by
  unfold Cs.tell
  induction ls generalizing x with
  | nil => exact Nat.le_refl _
  | cons l ls ih => have := ih (x.tell1 id l); have := tell1_dying x id l; simp only [List.foldl_cons, List.length_cons]; omega
theorem tell_stop {x : Cs} {id : Int} (h : x.live id = none ∨ ∃ y, x.live id = some y ∧ y.2.q.over = true) (ls : List (List UInt8)) : x.tell id ls = x := by
  have h1 : ∀ l, x.tell1 id l = x := fun l => by
    unfold Cs.tell1
    rcases h with h | ⟨y, h, ho⟩
    · rw [h]
    · rw [h]; dsimp only; rw [if_pos ho]
  unfold Cs.tell
  induction ls with
  | nil => rfl
  | cons l ls ih => rw [List.foldl_cons, h1]; exact ih
theorem tell_split (x : Cs) (id : Int) (ls : List (List UInt8)) (i : Nat) : x.tell id ls = (x.tell id (ls.take i)).tell id (ls.drop i) := by
  unfold Cs.tell
  rw [← List.foldl_append, List.take_append_drop]
section
set_option maxRecDepth 20000
set_option synthInstance.maxSize 100000
set_option synthInstance.maxHeartbeats 4000000
variable {K : Value → St → Prop} {w0 w : World} {H R : List SL} {ds : List Deferred} {p n : Nat} {v : Value} {l : List UInt8} {z id : Int} {x : Cs} {y : Nat × Cn}
instance Tell_ok {xs : List Value} {ls : List (List UInt8)} [o : Hv w0 H w] [i : InK coreR p H x R] [r : RdsF w0 R v 1 n xs] [e : Maps str xs ls] : Step (Cl P 40 #[.pointer (some ⟨p, 0, none⟩), .int .i64 id, v] K ⟨w, ds⟩)
    (((x.fine ∧ ∀ l ∈ ls, l.length ≤ 1000000) ∧ x.dying.length + n ≤ 1000000) ∧ ∀ w', Hv w0 (coreR p (x.tell id ls) :: R) w' → K (.tuple #[]) ⟨w', ds⟩) := ⟨fun ⟨⟨⟨hf, hl⟩, hd⟩, h⟩ => by
  have o0 := i.hv o
  clear o
  obtain rfl := e.eq
  have rl := r.loc
  obtain rfl : n = ls.length := by have := (r.rd w o0.tail).len; simpa using this.symm
  refine s40 ?_
  unfold D40
  repeat (first | refine go ?_ | intro _ | refine ⟨sb, ?_⟩ | refine ⟨sd, ?_⟩ | dsimp only)
  refine ⟨fun q s => ∃ (i : Nat) (w' : World), q = .int .i64 i ∧ s = ⟨w', []⟩ ∧ i ≤ ls.length ∧ Hv w0 (coreR p (x.tell id (ls.take i)) :: R) w',
    fun q s => match q with | .int _ z => ls.length - z.toNat | _ => 0, ⟨0, w, rfl, rfl, Nat.zero_le _, o0⟩, ?_⟩
  rintro q s ⟨i, w1, rfl, rfl, hi, o1⟩
  clear o0
  rcases Nat.lt_or_ge i ls.length with hlt | hge
  · have hs : x.tell id (ls.take (i + 1)) = (x.tell id (ls.take i)).tell1 id (ls.getD i default) := by unfold Cs.tell; rw [take_snoc hlt, List.foldl_append]; rfl
    have hsp := tell_split x id ls i
    have hfx := hf.tell id (ls.take i)
    have hdx := tell_dying x id (ls.take i)
    rw [List.length_take] at hdx
    have hll := hl _ (getD_mem hlt)
    generalize hx : x.tell id (ls.take i) = x1 at *
    cases hv : x1.live id with
    | none =>
      have a1 : AtN x1.live id := ⟨hv⟩
      have e1 := tell_stop (.inl hv) (ls.drop i)
      rw [e1] at hsp
      rw [hsp] at h
      repeat' (first | refine go ?_ | intro _ | refine ⟨sb, ?_⟩ | refine ⟨sd, ?_⟩ | (refine ⟨fun h1 => ?_, fun h1 => ?_⟩ <;> first | exact ab h1 | ((try rw [h1]); (try simp only [bl] at h1))) | dsimp only)
      · exact h _ (Sub.hv (subK rfl subEnd))
      · exfalso; omega
    | some y =>
      have a1 : AtS x1.live id y := ⟨hv⟩
      have hy := (live_at hv).1
      have hqf := (hfx.q _ _ hy).ok
      have e1 : y.2.q.over = true → x1.tell id (ls.drop i) = x1 := fun hq => tell_stop (.inr ⟨y, hv, hq⟩) _
      unfold Cs.tell1 at hs
      rw [hv] at hs
      dsimp only at hs
      repeat' (first | refine go ?_ | intro _ | refine ⟨sb, ?_⟩ | refine ⟨sd, ?_⟩ | (refine ⟨fun h1 => ?_, fun h1 => ?_⟩ <;> first | exact ab h1 | ((try rw [h1]); (try simp only [bl] at h1))) | dsimp only)
      · rename_i w2 o2
        obtain ⟨q, g, M, qq, ff, ag, o3, c1, c2⟩ := core_at ((inferInstance : InK coreR p _ x1 _).hv o2) hy
        clear o1 o2
        repeat' (first | refine go ?_ | intro _ | refine ⟨sb, ?_⟩ | refine ⟨sd, ?_⟩ | (refine ⟨fun h1 => ?_, fun h1 => ?_⟩ <;> first | exact ab h1 | ((try rw [h1]); (try simp only [bl] at h1))) | dsimp only)
        · rw [e1 h1] at hsp
          rw [hsp] at h
          exact h _ (core_back hy c1 (Sub.hv (subBox rfl (subMpn rfl rfl (subConn rfl rfl rfl rfl (subT (subTail rfl rfl rfl rfl rfl rfl rfl rfl subEnd)))))))
        all_goals
          have ho : ¬ y.2.q.over = true := by simp [*]
          refine ⟨⟨i + 1, _, rfl, rfl, hlt, ?_⟩, by simp; omega⟩
          rw [hs, if_neg ho]
        · rename_i vn w5 o5 w6 o6
          exact core_put (q := { q with vd := vn }) c1 (Sub.hv (subBox rfl (subMpn rfl rfl (subConn rfl rfl rfl rfl (subT (subTail rfl rfl rfl rfl rfl rfl (by dsimp only; rw [if_pos h1]; simp) (by dsimp only; rw [if_pos h1]; simp) subEnd))))))
        · exact core_put c1 (Sub.hv (subBox rfl (subMpn rfl rfl (subConn rfl rfl rfl rfl (subT (subTail rfl rfl rfl rfl rfl rfl (by dsimp only; rw [h1]; simp) (by dsimp only; rw [h1]; simp) subEnd))))))
      · exfalso; omega
  · rw [List.take_of_length_le hge] at o1
    repeat' (first | refine go ?_ | intro _ | refine ⟨sb, ?_⟩ | refine ⟨sd, ?_⟩ | (refine ⟨fun h1 => ?_, fun h1 => ?_⟩ <;> first | exact ab h1 | ((try rw [h1]); (try simp only [bl] at h1))) | dsimp only)
    · exfalso; omega
    · exact h _ (Sub.hv (subK rfl subEnd))⟩
end
end Go.Proofs.YtgcomleicnblhaaGreatDoor

