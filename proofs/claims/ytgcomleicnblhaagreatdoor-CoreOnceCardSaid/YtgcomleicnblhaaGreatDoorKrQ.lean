import Derived.Test.YtgcomleicnblhaaGreatDoorKrP
set_option linter.all false
namespace Go.Proofs.YtgcomleicnblhaaGreatDoor
open Go.Vx Go.Lib
/-! what waits is drained; who is gone, and for whom nothing waits, is forgotten -/
def Cs.forget (x : Cs) (id : Int) : Cs := { x with conns := updF x.conns id none, n := x.n - 1 }
def Cs.done (x : Cs) (id : Int) : Cs := match x.conns id with | some y => if y.2.gone = true ∧ y.2.q.b = [] then x.forget id else x | none => x
def Cs.dr0 (x : Cs) (id z : Int) (y : Nat × Cn) : Cs := x.set id y.1 { y.2 with q := y.2.q.drain z }
def Cs.drain (x : Cs) (id z : Int) : Cs × List UInt8 := match x.conns id with | some y => ((x.dr0 id z y).done id, y.2.q.b.take (y.2.q.many z)) | none => (x, [])
section
set_option maxRecDepth 20000
set_option synthInstance.maxSize 100000
set_option synthInstance.maxHeartbeats 4000000
variable {K : Value → St → Prop} {w0 w : World} {H R R2 : List SL} {ds : List Deferred} {p n : Nat} {v : Value} {l : List UInt8} {z id : Int} {x : Cs} {y : Nat × Cn} {q : Ptrs} {code : Nat} {nick : List UInt8} {xs : List Value} {ps : List (List UInt8)} {u : Per}
theorem core_less {q : Ptrs} {g : Int → Option Value} {M : SL} {n' : Nat} (c : Wnd w0 [mpn q.m intV g n', M] [mapO q.m intV connR x.conns x.n]) (h : Hv w0 (coreB p x.cf x.now q :: mpn q.m intV g n' :: M :: bookR q.h x.hold :: roomsR q.r x.rooms :: wishR q.mo x.mon :: wishR q.wa x.watch :: wasR q.pa x.past :: Pl.pulR q.pu x.pulse :: row 3 1 q.vd x.dying.length (x.dying.map intV) :: R) w) : Hv w0 (coreR p x :: R) w :=
  core_shut (q := q) (Hv.pm (List.Perm.swap ..) (c.go (H := coreB p x.cf x.now q :: bookR q.h x.hold :: roomsR q.r x.rooms :: wishR q.mo x.mon :: wishR q.wa x.watch :: wasR q.pa x.past :: Pl.pulR q.pu x.pulse :: row 3 1 q.vd x.dying.length (x.dying.map intV) :: R) (Hv.pm rot3 h)))
instance done_ok [o : Hv w0 H w] [i : InK coreR p H x R] : Step (Cl P 65 #[.pointer (some ⟨p, 0, none⟩), .int .i64 id] K ⟨w, ds⟩) (∀ w', Hv w0 (coreR p (x.done id) :: R) w' → K (.tuple #[]) ⟨w', ds⟩) := ⟨fun h => by
  have o0 := i.hv o
  clear o
  unfold Cs.done at h
  cases hc : x.conns id with
  | none =>
    have a1 : AtN x.conns id := ⟨hc⟩
    rw [hc] at h
    refine s65 ?_
    unfold D65
    repeat' (first | refine go ?_ | intro _ | refine ⟨sb, ?_⟩ | refine ⟨sd, ?_⟩ | (refine ⟨fun h1 => ?_, fun h1 => ?_⟩ <;> first | exact ab h1 | ((try rw [h1]); (try simp only [bl] at h1))) | dsimp only)
    exact h _ (Sub.hv (subK rfl subEnd))
  | some y =>
    have a1 : AtS x.conns id y := ⟨hc⟩
    rw [hc] at h
    dsimp only at h
    refine s65 ?_
    unfold D65
    repeat (first | refine go ?_ | intro _ | refine ⟨sb, ?_⟩ | refine ⟨sd, ?_⟩ | dsimp only)
    rename_i w1 o1
    obtain ⟨q, g, M, qq, ff, ag, o2, c1, c2⟩ := core_at ((inferInstance : InK coreR p _ x _).hv o1) hc
    clear o0 o1
    repeat' (first | refine go ?_ | intro _ | refine ⟨sb, ?_⟩ | refine ⟨sd, ?_⟩ | (refine ⟨fun h1 => ?_, fun h1 => ?_⟩ <;> first | exact ab h1 | ((try rw [h1]); (try simp only [bl] at h1))) | dsimp only)
    · have e : y.2.q.b = [] := List.eq_nil_of_length_eq_zero (by omega)
      rw [if_pos ⟨‹y.2.gone = true›, e⟩] at h
      exact h _ (core_less (x := x.forget id) c2 (Sub.hv (subBox rfl (subMpn rfl (by rw [ag.eq]; rfl) (subT (subTail rfl rfl rfl rfl rfl rfl rfl rfl subEnd))))))
    · rw [if_neg (fun hq => by rw [hq.2] at h1; exact h1 rfl)] at h
      exact h _ (core_back hc c1 (Sub.hv (subBox rfl (subMpn rfl rfl (subConn rfl rfl rfl rfl (subT (subTail rfl rfl rfl rfl rfl rfl rfl rfl subEnd)))))))
    · rw [if_neg (fun hq => by rw [hq.1] at h1; cases h1)] at h
      exact h _ (core_back hc c1 (Sub.hv (subBox rfl (subMpn rfl rfl (subConn rfl rfl rfl rfl (subT (subTail rfl rfl rfl rfl rfl rfl rfl rfl subEnd)))))))⟩
instance done_cd {K : World → Prop} [o : Hv w0 H w] [i : InK coreR p H x R] : Step (Cd P 65 #[.pointer (some ⟨p, 0, none⟩), .int .i64 id] K w) (∀ w', Hv w0 (coreR p (x.done id) :: R) w' → K w') := ⟨fun h => by
  have o0 := i.hv o
  clear o
  unfold Cs.done at h
  cases hc : x.conns id with
  | none =>
    have a1 : AtN x.conns id := ⟨hc⟩
    rw [hc] at h
    refine sd65 ?_
    unfold DD65
    repeat' (first | refine go ?_ | intro _ | refine ⟨sb, ?_⟩ | refine ⟨sd, ?_⟩ | (refine ⟨fun h1 => ?_, fun h1 => ?_⟩ <;> first | exact ab h1 | ((try rw [h1]); (try simp only [bl] at h1))) | dsimp only)
    exact h _ (Sub.hv (subK rfl subEnd))
  | some y =>
    have a1 : AtS x.conns id y := ⟨hc⟩
    rw [hc] at h
    dsimp only at h
    refine sd65 ?_
    unfold DD65
    repeat (first | refine go ?_ | intro _ | refine ⟨sb, ?_⟩ | refine ⟨sd, ?_⟩ | dsimp only)
    rename_i w1 o1
    obtain ⟨q, g, M, qq, ff, ag, o2, c1, c2⟩ := core_at ((inferInstance : InK coreR p _ x _).hv o1) hc
    clear o0 o1
    repeat' (first | refine go ?_ | intro _ | refine ⟨sb, ?_⟩ | refine ⟨sd, ?_⟩ | (refine ⟨fun h1 => ?_, fun h1 => ?_⟩ <;> first | exact ab h1 | ((try rw [h1]); (try simp only [bl] at h1))) | dsimp only)
    · have e : y.2.q.b = [] := List.eq_nil_of_length_eq_zero (by omega)
      rw [if_pos ⟨‹y.2.gone = true›, e⟩] at h
      exact h _ (core_less (x := x.forget id) c2 (Sub.hv (subBox rfl (subMpn rfl (by rw [ag.eq]; rfl) (subT (subTail rfl rfl rfl rfl rfl rfl rfl rfl subEnd))))))
    · rw [if_neg (fun hq => by rw [hq.2] at h1; exact h1 rfl)] at h
      exact h _ (core_back hc c1 (Sub.hv (subBox rfl (subMpn rfl rfl (subConn rfl rfl rfl rfl (subT (subTail rfl rfl rfl rfl rfl rfl rfl rfl subEnd)))))))
    · rw [if_neg (fun hq => by rw [hq.1] at h1; cases h1)] at h
      exact h _ (core_back hc c1 (Sub.hv (subBox rfl (subMpn rfl rfl (subConn rfl rfl rfl rfl (subT (subTail rfl rfl rfl rfl rfl rfl rfl rfl subEnd)))))))⟩
instance Drain_ok [o : Hv w0 H w] [i : InK coreR p H x R] : Step (Cl P 16 #[.pointer (some ⟨p, 0, none⟩), .int .i64 id, .int .i64 z] K ⟨w, ds⟩) (x.fine ∧ ∀ v n w', Hv w0 (row 5 1 v n ((x.drain id z).2.map byteV) :: coreR p (x.drain id z).1 :: R) w' → K v ⟨w', ds⟩) := ⟨fun ⟨hf, h⟩ => by
  have o0 := i.hv o
  clear o
  unfold Cs.drain at h
  cases hc : x.conns id with
  | none =>
    have a1 : AtN x.conns id := ⟨hc⟩
    rw [hc] at h
    refine s16 ?_
    unfold D16
    repeat' (first | refine go ?_ | intro _ | refine ⟨sb, ?_⟩ | refine ⟨sd, ?_⟩ | (refine ⟨fun h1 => ?_, fun h1 => ?_⟩ <;> first | exact ab h1 | ((try rw [h1]); (try simp only [bl] at h1))) | dsimp only)
    rename_i w1 o1
    exact h _ 0 _ (Hv.nilRow 5 1 (Sub.hv (o := o1) (subK rfl subEnd)))
  | some y =>
    have a1 : AtS x.conns id y := ⟨hc⟩
    rw [hc] at h
    dsimp only at h
    have hqf := (hf.q _ _ hc).ok
    refine s16 ?_
    unfold D16
    repeat (first | refine go ?_ | intro _ | refine ⟨sb, ?_⟩ | refine ⟨sd, ?_⟩ | dsimp only)
    rename_i w1 o1
    obtain ⟨q, g, M, qq, ff, ag, o2, c1, c2⟩ := core_at ((inferInstance : InK coreR p _ x _).hv o1) hc
    clear o0 o1
    repeat' (first | refine go ?_ | intro _ | refine ⟨sb, ?_⟩ | refine ⟨sd, ?_⟩ | (refine ⟨fun h1 => ?_, fun h1 => ?_⟩ <;> first | exact ab h1 | ((try rw [h1]); (try simp only [bl] at h1))) | dsimp only)
    rename_i vv w5 o5
    have o6 : Hv w0 (coreR p (x.dr0 id z y) :: row 5 1 vv (y.2.q.many z) ((y.2.q.b.take (y.2.q.many z)).map byteV) :: R) w5 := core_put c1 (Sub.hv (subBox rfl (subMpn rfl rfl (subConn rfl rfl rfl rfl (subT (subTail rfl rfl rfl rfl rfl rfl rfl rfl (subRow rfl rfl subEnd)))))))
    clear o2 o5
    refine go ?_
    intro w6 o7
    repeat' (first | refine go ?_ | intro _ | refine ⟨sb, ?_⟩ | refine ⟨sd, ?_⟩ | (refine ⟨fun h1 => ?_, fun h1 => ?_⟩ <;> first | exact ab h1 | ((try rw [h1]); (try simp only [bl] at h1))) | dsimp only)
    exact h _ _ _ (Sub.hv (subRow rfl rfl (subK rfl subEnd)))⟩
instance Monitor_ok [o : Hv w0 H w] [i : InK coreR p H x R] : Step (Cl P 13 #[.pointer (some ⟨p, 0, none⟩)] K ⟨w, ds⟩) (∀ q w', Hv w0 (coreB p x.cf x.now q :: mapO q.m intV connR x.conns x.n :: bookR q.h x.hold :: roomsR q.r x.rooms :: wishR q.mo x.mon :: wishR q.wa x.watch :: wasR q.pa x.past :: Pl.pulR q.pu x.pulse :: row 3 1 q.vd x.dying.length (x.dying.map intV) :: R) w' → K (ptrV q.mo) ⟨w', ds⟩) := ⟨fun h => by
  obtain ⟨q, o1⟩ := core_open (i.hv o)
  clear o
  refine s13 ?_
  unfold D13
  repeat' (first | refine go ?_ | intro _ | refine ⟨sb, ?_⟩ | refine ⟨sd, ?_⟩ | (refine ⟨fun h1 => ?_, fun h1 => ?_⟩ <;> first | exact ab h1 | ((try rw [h1]); (try simp only [bl] at h1))) | dsimp only)
  exact h q _ (Sub.hv (subBox rfl (subT (subTail rfl rfl rfl rfl rfl rfl rfl rfl subEnd))))⟩
instance Watch_ok [o : Hv w0 H w] [i : InK coreR p H x R] : Step (Cl P 38 #[.pointer (some ⟨p, 0, none⟩)] K ⟨w, ds⟩) (∀ q w', Hv w0 (coreB p x.cf x.now q :: mapO q.m intV connR x.conns x.n :: bookR q.h x.hold :: roomsR q.r x.rooms :: wishR q.mo x.mon :: wishR q.wa x.watch :: wasR q.pa x.past :: Pl.pulR q.pu x.pulse :: row 3 1 q.vd x.dying.length (x.dying.map intV) :: R) w' → K (ptrV q.wa) ⟨w', ds⟩) := ⟨fun h => by
  obtain ⟨q, o1⟩ := core_open (i.hv o)
  clear o
  refine s38 ?_
  unfold D38
  repeat' (first | refine go ?_ | intro _ | refine ⟨sb, ?_⟩ | refine ⟨sd, ?_⟩ | (refine ⟨fun h1 => ?_, fun h1 => ?_⟩ <;> first | exact ab h1 | ((try rw [h1]); (try simp only [bl] at h1))) | dsimp only)
  exact h q _ (Sub.hv (subBox rfl (subT (subTail rfl rfl rfl rfl rfl rfl rfl rfl subEnd))))⟩
end
end Go.Proofs.YtgcomleicnblhaaGreatDoor

