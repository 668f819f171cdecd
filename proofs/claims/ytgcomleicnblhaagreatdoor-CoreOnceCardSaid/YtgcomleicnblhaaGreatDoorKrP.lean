import Derived.Test.YtgcomleicnblhaaGreatDoorKrO
set_option linter.all false
namespace Go.Proofs.YtgcomleicnblhaaGreatDoor
open Go.Vx Go.Lib
/-! a connection registered, put in, drained -/
abbrev Cn.regd (y : Cn) (now : Int) : Cn := { y with s := { y.s with done := true, talk := false }, p := { y.p with sig := now, spo := now } }
def Cs.reg0 (x : Cs) (id : Int) (y : Nat × Cn) : Cs := { x with pulse := x.pulse.reg1 id x.now }.set id y.1 (y.2.regd x.now)
def Cs.register (x : Cs) (id : Int) : Cs × Bool :=
  match x.live id with
  | none => (x, false)
  | some y => if y.2.s.done = true ∨ y.2.s.nick = [] ∨ y.2.s.user = [] then (x, false) else ((x.reg0 id y).online (y.2.regd x.now).whole, true)
structure Cs.timed (x : Cs) : Prop where
  p : x.pulse.fit
  n : 0 ≤ x.now ∧ x.now ≤ 1000000000000
def hostOf (l : List UInt8) : List UInt8 := if hostS l = true then l else [117, 110, 107, 110, 111, 119, 110]
def Cn.first (send id : Int) (host : List UInt8) : Cn := ⟨⟨id, [], [], hostOf host, [], [], false, false, 0, 0⟩, .none, .new send, ([], false), false⟩
def Cs.connect (x : Cs) (b : Nat) (id : Int) (host : List UInt8) : Cs := { x with conns := updF x.conns id (some (b, .first x.cf.send id host)), n := x.n + 1, pulse := x.pulse.join id x.now }
def Cs.mayConnect (x : Cs) (id : Int) : Prop := 0 ≤ id ∧ x.conns id = none ∧ (x.n : Int) < x.cf.conns
theorem Cs.calm.putP {x : Cs} (h : x.calm) {y : Cn} {b : Nat} {id : Int} {pp : Pl.Pst} (hq : y.q.fine) (hn : y.s.nick.length ≤ 999) : ({ x with pulse := pp }.set id b y).calm := by
  have h1 : ({ x with hold := x.hold }.set id b y).calm := h.put hq hn
  exact ⟨⟨⟨h1.f.f.q⟩, h.f.n, h1.f.k⟩, h.m, h.w, h.mb, h.wb, h.now⟩
section
set_option maxRecDepth 20000
set_option synthInstance.maxSize 100000
set_option synthInstance.maxHeartbeats 4000000
variable {K : Value → St → Prop} {w0 w : World} {H R R2 : List SL} {ds : List Deferred} {p n : Nat} {v : Value} {l : List UInt8} {z id : Int} {x : Cs} {y : Nat × Cn} {q : Ptrs} {code : Nat} {nick : List UInt8} {xs : List Value} {ps : List (List UInt8)} {u : Per}
instance {b n t ty : Nat} {kt e : Nat} {d : TypeDesc} {g : Int → Option Value} {cs : Array Bool} [o : Hv w0 H w] [m : MpnIn H b intV g n R] [u : TyMap P t kt e d] : VT (Bi P .len #[t] ty cs #[.map (some b)]) w (.int .i64 n) := ⟨fun k => by
  obtain ⟨es, ⟨h1, h2, h5⟩, o1⟩ := (Hv.perm m.perm o).mpnOpen
  obtain ⟨bs, clock, k1, k2, k3, k4⟩ := o1.mpIn
  refine bi_ok (m := Builtin.len_ #[t] ty #[.map (some b)]) rfl (w' := w) (v := .int .i64 n) ?_ k
  have hl : (mkE intV es bs).length = n := by simp [mkE, k1, h5]
  simp [Builtin.len_, Sem.run_bind, run_underlying u.u, getObj_run k4, hl, goInt]⟩
instance Register_ok [o : Hv w0 H w] [i : InK coreR p H x R] [tb : PowT w0] : Step (Cl P 12 #[.pointer (some ⟨p, 0, none⟩), .int .i64 id] K ⟨w, ds⟩)
    (((x.calm ∧ x.known) ∧ x.timed ∧ x.dying.length ≤ 800000) ∧ ∀ w', Hv w0 (coreR p (x.register id).1 :: R) w' → K (.bool (x.register id).2) ⟨w', ds⟩) := ⟨fun ⟨⟨⟨hc, hk⟩, ht, hd⟩, h⟩ => by
  have o0 := i.hv o
  clear o
  unfold Cs.register at h
  have t1 := ht.p
  have t2 := ht.n
  cases hl : x.live id with
  | none =>
    have a1 : AtN x.live id := ⟨hl⟩
    rw [hl] at h
    refine s12 ?_
    unfold D12
    repeat' (first | refine go ?_ | intro _ | refine ⟨sb, ?_⟩ | refine ⟨sd, ?_⟩ | (refine ⟨fun h1 => ?_, fun h1 => ?_⟩ <;> first | exact ab h1 | ((try rw [h1]); (try simp only [bl] at h1))) | dsimp only)
    exact h _ (Sub.hv (subK rfl subEnd))
  | some y =>
    have a1 : AtS x.live id y := ⟨hl⟩
    rw [hl] at h
    dsimp only at h
    have hy := (live_at hl).1
    have k2 := hk.p id y hy
    have n1 : y.2.s.nick.length ≤ 300 := k2.a
    have cl : (x.reg0 id y).calm := hc.putP (hc.f.f.q _ _ hy) (by show y.2.s.nick.length ≤ 999; omega)
    have kn : (y.2.regd x.now).whole.fits := ⟨k2.a, k2.b, k2.c, hc.now⟩
    have e9 : (x.reg0 id y).dying = x.dying := rfl
    refine s12 ?_
    unfold D12
    repeat (first | refine go ?_ | intro _ | refine ⟨sb, ?_⟩ | refine ⟨sd, ?_⟩ | dsimp only)
    rename_i w1 o1
    have o2 := (show InK coreR p _ x _ from inferInstance).hv o1
    obtain ⟨q, g, M, qq, ff, ag, o3, c4, c5⟩ := core_at o2 hy
    clear o0 o1 o2
    by_cases c1 : y.2.s.done = true ∨ y.2.s.nick = [] ∨ y.2.s.user = []
    · rw [if_pos c1] at h
      repeat' (first | refine go ?_ | intro _ | refine ⟨sb, ?_⟩ | refine ⟨sd, ?_⟩ | (refine ⟨fun h1 => ?_, fun h1 => ?_⟩ <;> first | exact ab h1 | ((try rw [h1]); (try simp only [bl] at h1))) | dsimp only)
      all_goals first
        | exact h _ (core_back hy c4 (Sub.hv (subBox rfl (subMpn rfl rfl (subConn rfl rfl rfl rfl (subT (subTail rfl rfl rfl rfl rfl rfl rfl rfl subEnd)))))))
        | (exfalso; grind)
    rw [if_neg c1] at h
    repeat' (first | refine go ?_ | intro _ | refine ⟨sb, ?_⟩ | refine ⟨sd, ?_⟩ | (refine ⟨fun h1 => ?_, fun h1 => ?_⟩ <;> first | exact ab h1 | ((try rw [h1]); (try simp only [bl] at h1))) | dsimp only)
    · exfalso; grind
    refine (whole_ok (y := y.2.regd x.now) (qq := qq) (ff := ff)).prf ?_
    intro w5 o5
    have o6 : Hv w0 (coreR p (x.reg0 id y) :: R) w5 := core_put c4 (Sub.hv (subBox rfl (subMpn rfl rfl (subConn rfl rfl rfl rfl (subT (subTail rfl rfl rfl rfl rfl rfl rfl rfl subEnd))))))
    refine (online_ok (u := (y.2.regd x.now).whole)).prf (And.intro ⟨cl, kn, by rw [e9]; omega⟩ ?_)
    intro w6 o7
    repeat' (first | refine go ?_ | intro _ | refine ⟨sb, ?_⟩ | refine ⟨sd, ?_⟩ | (refine ⟨fun h1 => ?_, fun h1 => ?_⟩ <;> first | exact ab h1 | ((try rw [h1]); (try simp only [bl] at h1))) | dsimp only)
    exact h _ o7⟩
instance Connect_ok {host : List UInt8} [o : Hv w0 H w] [i : InK coreR p H x R] : Step (Cl P 8 #[.pointer (some ⟨p, 0, none⟩), .int .i64 id, str host] K ⟨w, ds⟩)
    ((x.timed ∧ (host.length ≤ 1000000 ∧ x.n ≤ 1000000) ∧ 512 ≤ x.cf.send ∧ x.cf.send ≤ 65536) ∧ (¬ x.mayConnect id → ∀ w', Hv w0 (coreR p x :: R) w' → K (.bool false) ⟨w', ds⟩) ∧ (x.mayConnect id → ∀ b w', Hv w0 (coreR p (x.connect b id host) :: R) w' → K (.bool true) ⟨w', ds⟩)) := ⟨fun ⟨⟨ht, ⟨hn, hm⟩, hs⟩, hA, hB⟩ => by
  have o0 := i.hv o
  clear o
  have t1 := ht.p
  have t2 := ht.n
  refine s8 ?_
  unfold D8
  repeat' (first | refine go ?_ | intro _ | refine ⟨sb, ?_⟩ | refine ⟨sd, ?_⟩ | (refine ⟨fun h1 => ?_, fun h1 => ?_⟩ <;> first | exact ab h1 | ((try rw [h1]); (try simp only [bl] at h1))) | dsimp only)
  · rename_i hid w1 o1
    have hc : x.conns id = none := by simpa using h1
    obtain ⟨q, o2⟩ := core_open o1
    clear o0 o1 h1
    obtain ⟨g, M, ag, o3, c1, c2⟩ := (Hv.pm (List.Perm.swap ..) o2).mapNo hc
    clear o2
    repeat' (first | refine go ?_ | intro _ | refine ⟨sb, ?_⟩ | refine ⟨sd, ?_⟩ | (refine ⟨fun h1 => ?_, fun h1 => ?_⟩ <;> first | exact ab h1 | ((try rw [h1]); (try simp only [bl] at h1))) | dsimp only)
    · exact hA (fun hq => by have := hq.2.2; omega) _ (core_shut (q := q) (Hv.pm (List.Perm.swap ..) (c1.shut (A := [_, _]) (subMpn rfl rfl (subT (subBox rfl (subTail rfl rfl rfl rfl rfl rfl rfl rfl subEnd)))))))
    · rename_i p1 _ _ _ _ f1 _ _ bn _ _ _ _ _ _ _ _ _
      refine hB ⟨hid, hc, ‹(x.n : Int) < x.cf.conns›⟩ bn _ (core_shut (x := x.connect bn id host) (q := q) (R := R) (Hv.pm (List.Perm.swap ..) (Wnd.shut (A := [_, _, _]) (c2 (b := bn) (n' := x.n + 1) (y := (bn, Cn.first x.cf.send id host))) (subMpn rfl (by rw [ag.eq]; rfl) (subConn (q := p1) (f := f1) (y := (bn, Cn.first x.cf.send id host)) rfl ?_ rfl rfl (subT (subBox rfl (subTail rfl rfl rfl rfl rfl rfl rfl rfl subEnd))))))))
      unfold Cn.first hostOf
      rw [if_neg (by simp [‹hostS host = false›])]; rfl
    · rename_i p1 _ _ _ _ f1 _ _ bn _ _ _ _ _ _ _ _ _
      refine hB ⟨hid, hc, ‹(x.n : Int) < x.cf.conns›⟩ bn _ (core_shut (x := x.connect bn id host) (q := q) (R := R) (Hv.pm (List.Perm.swap ..) (Wnd.shut (A := [_, _, _]) (c2 (b := bn) (n' := x.n + 1) (y := (bn, Cn.first x.cf.send id host))) (subMpn rfl (by rw [ag.eq]; rfl) (subConn (q := p1) (f := f1) (y := (bn, Cn.first x.cf.send id host)) rfl ?_ rfl rfl (subT (subBox rfl (subTail rfl rfl rfl rfl rfl rfl rfl rfl subEnd))))))))
      unfold Cn.first hostOf
      rw [if_pos ‹hostS host = true›]; rfl
  · exact hA (fun hq => by rw [hq.2.1] at h1; cases h1) _ ‹_›
  · exact hA (fun hq => by have := hq.1; omega) _ ‹_›⟩
end
end Go.Proofs.YtgcomleicnblhaaGreatDoor

