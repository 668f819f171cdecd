import Derived.Test.YtgcomleicnblhaaGreatDoorKrG
import Derived.Test.YtgcomleicnblhaaGreatDoorQPulB
import Derived.Test.YtgcomleicnblhaaGreatDoorRmC
set_option linter.all false
namespace Go.Proofs.YtgcomleicnblhaaGreatDoor
open Go.Vx Go.Lib
/-! the server's state, in memory -/
structure Per where
  id : Int
  (nick user host real away : List UInt8)
  (oper hid : Bool)
  (sig spo : Int)
deriving Inhabited
abbrev encP (x : Per) : List Value := [.int .i64 x.id, str x.nick, str x.user, str x.host, str x.real, str x.away, .bool x.oper, .bool x.hid, .int .i64 x.sig, .int .i64 x.spo]
structure Sgn where
  caps : Int
  talk : Bool
  (pass nick user real : List UInt8)
  done : Bool
abbrev encS (x : Sgn) : List Value := [.int .i64 x.caps, .bool x.talk, str x.pass, str x.nick, str x.user, str x.real, .bool x.done]
structure Cfg where
  (name pass opn opp : List UInt8)
  (conns send joined rooms bans watch mon was ping grace reg : Int)
abbrev encCf (x : Cfg) : List Value := [str x.name, str x.pass, str x.opn, str x.opp, .int .i64 x.conns, .int .i64 x.send, .int .i64 x.joined, .int .i64 x.rooms, .int .i64 x.bans, .int .i64 x.watch, .int .i64 x.mon, .int .i64 x.was, .int .i64 x.ping, .int .i64 x.grace, .int .i64 x.reg]
structure Cn where
  p : Per
  s : Sgn
  q : Qu
  f : Fst
  gone : Bool
abbrev Thg := List UInt8 × Per
abbrev encT (x : Thg) : List Value := str x.1 :: encP x.2
structure Wst where
  (most next : Int)
  l : List Thg
abbrev EntR := List UInt8 × Nat × Rm
abbrev encER (x : EntR) : List Value := [str x.1, ptrV x.2.1]
structure Rs where
  cf : Cfg
  most : Int
  l : List EntR
  on : Rl
section
set_option maxRecDepth 20000
set_option synthInstance.maxSize 100000
set_option synthInstance.maxHeartbeats 4000000
def wasA (p : Nat) (x : Wst) (v : Value) : SL := many [box p 151 [.int .i64 x.most, v, .int .i64 x.next], row 253 11 v x.l.length (x.l.flatMap encT)]
def wasR (p : Nat) (x : Wst) : SL := any (wasA p x)
def roomsA (p : Nat) (x : Rs) (q : Nat × Nat × Value) : SL := many [box p 154 [str x.cf.name, str x.cf.pass, str x.cf.opn, str x.cf.opp, .int .i64 x.cf.conns, .int .i64 x.cf.send, .int .i64 x.cf.joined, .int .i64 x.cf.rooms, .int .i64 x.cf.bans, .int .i64 x.cf.watch, .int .i64 x.cf.mon, .int .i64 x.cf.was, .int .i64 x.cf.ping, .int .i64 x.cf.grace, .int .i64 x.cf.reg, ptrV q.1, ptrV q.2.1],
  box q.1 230 [.int .i64 x.most, q.2.2], row 341 2 q.2.2 x.l.length (x.l.flatMap encER), relR q.2.1 x.on, many (x.l.map fun e => roomR e.2.1 e.2.2)]
def roomsR (p : Nat) (x : Rs) : SL := any (roomsA p x)
def connA (b : Nat) (x : Cn) (q : Nat × Nat) : SL := many [box b 99 [.int .i64 x.p.id, str x.p.nick, str x.p.user, str x.p.host, str x.p.real, str x.p.away, .bool x.p.oper, .bool x.p.hid, .int .i64 x.p.sig, .int .i64 x.p.spo,
  .int .i64 x.s.caps, .bool x.s.talk, str x.s.pass, str x.s.nick, str x.s.user, str x.s.real, .bool x.s.done, ptrV q.1, ptrV q.2, .bool x.gone], queueR q.1 x.q, framer q.2 x.f]
def connR (b : Nat) (y : Nat × Cn) : SL := many [lift (b = y.1), any (connA b y.2)]
structure Cs where
  cf : Cfg
  now : Int
  conns : Int → Option (Nat × Cn)
  n : Nat
  hold : Bk
  rooms : Rs
  mon : Ws
  watch : Ws
  past : Wst
  pulse : Pl.Pst
  dying : List Int
structure Ptrs where
  (m h r mo wa pa pu : Nat)
  vd : Value
def coreA (p : Nat) (x : Cs) (q : Ptrs) : SL := many [box p 90 [str x.cf.name, str x.cf.pass, str x.cf.opn, str x.cf.opp, .int .i64 x.cf.conns, .int .i64 x.cf.send, .int .i64 x.cf.joined, .int .i64 x.cf.rooms, .int .i64 x.cf.bans, .int .i64 x.cf.watch, .int .i64 x.cf.mon, .int .i64 x.cf.was, .int .i64 x.cf.ping, .int .i64 x.cf.grace, .int .i64 x.cf.reg,
    .int .i64 x.now, .map (some q.m), ptrV q.h, ptrV q.r, ptrV q.mo, ptrV q.wa, ptrV q.pa, ptrV q.pu, q.vd],
  mapO q.m intV connR x.conns x.n, bookR q.h x.hold, roomsR q.r x.rooms, wishR q.mo x.mon, wishR q.wa x.watch, wasR q.pa x.past, Pl.pulR q.pu x.pulse, row 3 1 q.vd x.dying.length (x.dying.map intV)]
def coreR (p : Nat) (x : Cs) : SL := any (coreA p x)
variable {K : Value → St → Prop} {w0 w : World} {H R : List SL} {ds : List Deferred} {p n : Nat} {v : Value} {l : List UInt8} {z id : Int}
theorem subRest (R : List SL) : Sub R R := ⟨fun h => ⟨_, fun _ hb => hb, h⟩⟩
/-- the core's box -/
abbrev coreB (p : Nat) (cf : Cfg) (now : Int) (q : Ptrs) : SL := box p 90 [str cf.name, str cf.pass, str cf.opn, str cf.opp, .int .i64 cf.conns, .int .i64 cf.send, .int .i64 cf.joined, .int .i64 cf.rooms, .int .i64 cf.bans, .int .i64 cf.watch, .int .i64 cf.mon, .int .i64 cf.was, .int .i64 cf.ping, .int .i64 cf.grace, .int .i64 cf.reg,
    .int .i64 now, .map (some q.m), ptrV q.h, ptrV q.r, ptrV q.mo, ptrV q.wa, ptrV q.pa, ptrV q.pu, q.vd]
theorem core_open {x : Cs} (h : Hv w0 (coreR p x :: R) w) : ∃ q : Ptrs, Hv w0 (coreB p x.cf x.now q ::
    mapO q.m intV connR x.conns x.n :: bookR q.h x.hold :: roomsR q.r x.rooms :: wishR q.mo x.mon :: wishR q.wa x.watch :: wasR q.pa x.past :: Pl.pulR q.pu x.pulse :: row 3 1 q.vd x.dying.length (x.dying.map intV) :: R) w := by
  obtain ⟨q, h1⟩ := h.pick
  exact ⟨q, h1.opens⟩
theorem core_shut {x : Cs} {q : Ptrs} (h : Hv w0 (coreB p x.cf x.now q ::
    mapO q.m intV connR x.conns x.n :: bookR q.h x.hold :: roomsR q.r x.rooms :: wishR q.mo x.mon :: wishR q.wa x.watch :: wasR q.pa x.past :: Pl.pulR q.pu x.pulse :: row 3 1 q.vd x.dying.length (x.dying.map intV) :: R) w) : Hv w0 (coreR p x :: R) w :=
  Hv.give (A := coreA p x) q (Hv.closes (H := [_, _, _, _, _, _, _, _, _]) h)
theorem conn_open {b : Nat} {y : Nat × Cn} (h : Hv w0 (connR b y :: R) w) : b = y.1 ∧ ∃ q f, Hv w0 (box b 99 [.int .i64 y.2.p.id, str y.2.p.nick, str y.2.p.user, str y.2.p.host, str y.2.p.real, str y.2.p.away, .bool y.2.p.oper, .bool y.2.p.hid, .int .i64 y.2.p.sig, .int .i64 y.2.p.spo,
  .int .i64 y.2.s.caps, .bool y.2.s.talk, str y.2.s.pass, str y.2.s.nick, str y.2.s.user, str y.2.s.real, .bool y.2.s.done, ptrV q, ptrV f, .bool y.2.gone] :: queueR q y.2.q :: framer f y.2.f :: R) w := by
  have h1 : Hv w0 (lift (b = y.1) :: any (connA b y.2) :: R) w := h.opens
  obtain ⟨⟨q, f⟩, h2⟩ := h1.tail.pick
  exact ⟨h1.lifted, q, f, h2.opens⟩
theorem subConn {H' R1 R2 R3 G : List SL} {b q f : Nat} {y : Nat × Cn} {xs : List Value} {qu : Qu} {fs : Fst} [i : BoxIn H' b 99 xs R1] [j : InK queueR q R1 qu R2] [k : InK framer f R2 fs R3] (e0 : b = y.1)
    (e1 : xs = [.int .i64 y.2.p.id, str y.2.p.nick, str y.2.p.user, str y.2.p.host, str y.2.p.real, str y.2.p.away, .bool y.2.p.oper, .bool y.2.p.hid, .int .i64 y.2.p.sig, .int .i64 y.2.p.spo,
  .int .i64 y.2.s.caps, .bool y.2.s.talk, str y.2.s.pass, str y.2.s.nick, str y.2.s.user, str y.2.s.real, .bool y.2.s.done, ptrV q, ptrV f, .bool y.2.gone]) (e2 : qu = y.2.q) (e3 : fs = y.2.f) (g : Sub R3 G) : Sub H' (connR b y :: G) := by
  subst e1
  exact Sub.many (Sub.lift e0 (Sub.any (A := connA b y.2) (q, f) (Sub.many (subBox rfl (subK e2 (subK e3 g))))))
def Cs.live (x : Cs) (id : Int) : Option (Nat × Cn) := match x.conns id with | some y => if y.2.gone then none else some y | none => none
/-- A place in the map laid open. -/
theorem core_at {x : Cs} {y : Nat × Cn} (h : Hv w0 (coreR p x :: R) w) (hy : x.conns id = some y) : ∃ (q : Ptrs) (g : Int → Option Value) (M : SL) (qq ff : Nat), AtS g id (ptrV y.1) ∧ Hv w0 (coreB p x.cf x.now q :: mpn q.m intV g x.n ::
      box y.1 99 [.int .i64 y.2.p.id, str y.2.p.nick, str y.2.p.user, str y.2.p.host, str y.2.p.real, str y.2.p.away, .bool y.2.p.oper, .bool y.2.p.hid, .int .i64 y.2.p.sig, .int .i64 y.2.p.spo,
  .int .i64 y.2.s.caps, .bool y.2.s.talk, str y.2.s.pass, str y.2.s.nick, str y.2.s.user, str y.2.s.real, .bool y.2.s.done, ptrV qq, ptrV ff, .bool y.2.gone] :: queueR qq y.2.q :: framer ff y.2.f :: M :: bookR q.h x.hold :: roomsR q.r x.rooms :: wishR q.mo x.mon :: wishR q.wa x.watch :: wasR q.pa x.past :: Pl.pulR q.pu x.pulse :: row 3 1 q.vd x.dying.length (x.dying.map intV) :: R) w ∧
    (∀ {y' : Cn}, Wnd w0 [mpn q.m intV g x.n, connR y.1 (y.1, y'), M] [mapO q.m intV connR (updF x.conns id (some (y.1, y'))) x.n]) ∧
    (∀ {n' : Nat}, Wnd w0 [mpn q.m intV (updF g id none) n', M] [mapO q.m intV connR (updF x.conns id none) n']) := by
  obtain ⟨q, h1⟩ := core_open h
  obtain ⟨b, g, M, ha, h2, c1, c2, c3⟩ := (Hv.pm (List.Perm.swap ..) h1).mapAt hy
  have h3 : Hv w0 (connR b y :: mpn q.m intV g x.n :: M :: _) w := Hv.pm (List.Perm.swap ..) h2
  obtain ⟨rfl, qq, ff, h4⟩ := conn_open h3
  refine ⟨q, g, M, qq, ff, ha, ?_, c2, c3⟩
  exact Sub.hv (o := h4) (subBox rfl (subMpn rfl rfl (subBox rfl (subK rfl (subK rfl (subT (subK rfl (subK rfl (subK rfl (subK rfl (subK rfl (subK rfl (subRow rfl rfl (subRest _))))))))))))))
end
end Go.Proofs.YtgcomleicnblhaaGreatDoor

