import Derived.Test.YtgcomleicnblhaaGreatDoorKrJ
set_option linter.all false
namespace Go.Proofs.YtgcomleicnblhaaGreatDoor
open Go.Vx Go.Lib
/-! connections, found and changed -/
section
set_option maxRecDepth 20000
set_option synthInstance.maxSize 100000
set_option synthInstance.maxHeartbeats 4000000
variable {K : Value → St → Prop} {w0 w : World} {H R : List SL} {ds : List Deferred} {p n : Nat} {v : Value} {l : List UInt8} {z id : Int} {x : Cs} {y : Nat × Cn}
theorem subTail {H0 H1 H2 H3 H4 H5 H6 H7 G : List SL} {q : Ptrs} {x : Cs} {a : Bk} {b : Rs} {c d : Ws} {e : Wst} {f : Pl.Pst} {n : Nat} {xs : List Value} [i1 : InK bookR q.h H0 a H1] [i2 : InK roomsR q.r H1 b H2] [i3 : InK wishR q.mo H2 c H3] [i4 : InK wishR q.wa H3 d H4] [i5 : InK wasR q.pa H4 e H5] [i6 : InK Pl.pulR q.pu H5 f H6] [i7 : RowIn H6 q.vd 3 1 n xs H7]
    (h1 : a = x.hold) (h2 : b = x.rooms) (h3 : c = x.mon) (h4 : d = x.watch) (h5 : e = x.past) (h6 : f = x.pulse) (h7 : n = x.dying.length) (h8 : xs = x.dying.map intV) (k : Sub H7 G) :
    Sub H0 (bookR q.h x.hold :: roomsR q.r x.rooms :: wishR q.mo x.mon :: wishR q.wa x.watch :: wasR q.pa x.past :: Pl.pulR q.pu x.pulse :: row 3 1 q.vd x.dying.length (x.dying.map intV) :: G) :=
  subK h1 (subK h2 (subK h3 (subK h4 (subK h5 (subK h6 (subRow h7 h8 k))))))
theorem core_put {q : Ptrs} {g : Int → Option Value} {M : SL} {b n' : Nat} {y' : Cn} (c : Wnd w0 [mpn q.m intV g n', connR b (b, y'), M] [mapO q.m intV connR x.conns x.n]) (h : Hv w0 (coreB p x.cf x.now q :: mpn q.m intV g n' :: connR b (b, y') :: M :: bookR q.h x.hold :: roomsR q.r x.rooms :: wishR q.mo x.mon :: wishR q.wa x.watch :: wasR q.pa x.past :: Pl.pulR q.pu x.pulse :: row 3 1 q.vd x.dying.length (x.dying.map intV) :: R) w) : Hv w0 (coreR p x :: R) w := by
  have h1 : Hv w0 ([mpn q.m intV g n', connR b (b, y'), M] ++ (coreB p x.cf x.now q :: bookR q.h x.hold :: roomsR q.r x.rooms :: wishR q.mo x.mon :: wishR q.wa x.watch :: wasR q.pa x.past :: Pl.pulR q.pu x.pulse :: row 3 1 q.vd x.dying.length (x.dying.map intV) :: R)) w :=
    Hv.pm ((rot3).trans (((List.Perm.swap _ _ _)).cons _ |>.cons _)) h
  exact core_shut (Hv.pm (List.Perm.swap ..) (c.go h1))
theorem same_conns (hy : x.conns id = some y) : updF x.conns id (some (y.1, y.2)) = x.conns := funext fun k => by
  by_cases q : k = id
  · subst q; rw [updF_at, hy]
  · rw [updF_ne _ q]
/-- nothing changed -/
theorem core_back {q : Ptrs} {g : Int → Option Value} {M : SL} (hy : x.conns id = some y) (c : Wnd w0 [mpn q.m intV g x.n, connR y.1 (y.1, y.2), M] [mapO q.m intV connR (updF x.conns id (some (y.1, y.2))) x.n]) (h : Hv w0 (coreB p x.cf x.now q :: mpn q.m intV g x.n :: connR y.1 (y.1, y.2) :: M :: bookR q.h x.hold :: roomsR q.r x.rooms :: wishR q.mo x.mon :: wishR q.wa x.watch :: wasR q.pa x.past :: Pl.pulR q.pu x.pulse :: row 3 1 q.vd x.dying.length (x.dying.map intV) :: R) w) : Hv w0 (coreR p x :: R) w := by
  rw [same_conns hy] at c
  exact core_put c h
instance at_some [o : Hv w0 H w] [i : InK coreR p H x R] [a : AtS x.conns id y] : Step (Cl P 64 #[.pointer (some ⟨p, 0, none⟩), .int .i64 id] K ⟨w, ds⟩) (∀ w', Hv w0 (coreR p x :: R) w' → K (ptrV y.1) ⟨w', ds⟩) := ⟨fun h => by
  obtain ⟨q, g, M, qq, ff, ag, o1, c1, c2⟩ := core_at (i.hv o) a.eq
  clear o
  refine s64 ?_
  unfold D64
  repeat' (first | refine go ?_ | intro _ | refine ⟨sb, ?_⟩ | refine ⟨sd, ?_⟩ | (refine ⟨fun h1 => ?_, fun h1 => ?_⟩ <;> first | exact ab h1 | ((try rw [h1]); (try simp only [bl] at h1))) | dsimp only)
  exact h _ (core_back a.eq c1 (Sub.hv (subBox rfl (subMpn rfl rfl (subConn rfl rfl rfl rfl (subT (subTail rfl rfl rfl rfl rfl rfl rfl rfl subEnd)))))))⟩
instance at_none [o : Hv w0 H w] [i : InK coreR p H x R] [a : AtN x.conns id] : Step (Cl P 64 #[.pointer (some ⟨p, 0, none⟩), .int .i64 id] K ⟨w, ds⟩) (∀ w', Hv w0 (coreR p x :: R) w' → K (.pointer none) ⟨w', ds⟩) := ⟨fun h => by
  obtain ⟨q, o1⟩ := core_open (i.hv o)
  obtain ⟨g, M, ag, o2, c1, c2⟩ := (Hv.pm (List.Perm.swap ..) o1).mapNo a.eq
  clear o o1 c2
  refine s64 ?_
  unfold D64
  repeat' (first | refine go ?_ | intro _ | refine ⟨sb, ?_⟩ | refine ⟨sd, ?_⟩ | (refine ⟨fun h1 => ?_, fun h1 => ?_⟩ <;> first | exact ab h1 | ((try rw [h1]); (try simp only [bl] at h1))) | dsimp only)
  refine h _ (core_shut (q := q) (Hv.pm (List.Perm.swap ..) (c1.shut (A := [_, _]) (subMpn rfl rfl (subT (subBox rfl (subTail rfl rfl rfl rfl rfl rfl rfl rfl subEnd)))))))⟩
theorem live_at (h : x.live id = some y) : x.conns id = some y ∧ y.2.gone = false := by
  unfold Cs.live at h
  cases hc : x.conns id with
  | none => rw [hc] at h; cases h
  | some u =>
    rw [hc] at h
    dsimp only at h
    split at h
    · cases h
    · rename_i hg
      obtain rfl := Option.some.inj h
      exact ⟨rfl, by simpa using hg⟩
theorem live_no (h : x.live id = none) : x.conns id = none ∨ ∃ u, x.conns id = some u ∧ u.2.gone = true := by
  unfold Cs.live at h
  cases hc : x.conns id with
  | none => exact .inl rfl
  | some u =>
    rw [hc] at h
    dsimp only at h
    split at h
    · rename_i hg; exact .inr ⟨u, rfl, hg⟩
    · cases h
instance live_some [o : Hv w0 H w] [i : InK coreR p H x R] [a : AtS x.live id y] : Step (Cl P 52 #[.pointer (some ⟨p, 0, none⟩), .int .i64 id] K ⟨w, ds⟩) (∀ w', Hv w0 (coreR p x :: R) w' → K (ptrV y.1) ⟨w', ds⟩) := ⟨fun h => by
  obtain ⟨hy, hg⟩ := live_at a.eq
  have a1 : AtS x.conns id y := ⟨hy⟩
  have o0 := i.hv o
  clear o
  refine s52 ?_
  unfold D52
  repeat (first | refine go ?_ | intro _ | refine ⟨sb, ?_⟩ | refine ⟨sd, ?_⟩ | dsimp only)
  rename_i w1 o1
  obtain ⟨q, g, M, qq, ff, ag, o2, c1, c2⟩ := core_at o1 hy
  clear o0 o1
  repeat' (first | refine go ?_ | intro _ | refine ⟨sb, ?_⟩ | refine ⟨sd, ?_⟩ | (refine ⟨fun h1 => ?_, fun h1 => ?_⟩ <;> first | exact ab h1 | ((try rw [h1]); (try simp only [bl] at h1))) | dsimp only)
  all_goals first
    | exact h _ (core_back hy c1 (Sub.hv (subBox rfl (subMpn rfl rfl (subConn rfl rfl rfl rfl (subT (subTail rfl rfl rfl rfl rfl rfl rfl rfl subEnd)))))))
    | (exfalso; rw [hg] at h1; simp at h1; done)⟩
instance live_none [o : Hv w0 H w] [i : InK coreR p H x R] [a : AtN x.live id] : Step (Cl P 52 #[.pointer (some ⟨p, 0, none⟩), .int .i64 id] K ⟨w, ds⟩) (∀ w', Hv w0 (coreR p x :: R) w' → K (.pointer none) ⟨w', ds⟩) := ⟨fun h => by
  have o0 := i.hv o
  clear o
  rcases live_no a.eq with hn | ⟨u, hy, hg⟩
  · have a1 : AtN x.conns id := ⟨hn⟩
    refine s52 ?_
    unfold D52
    repeat' (first | refine go ?_ | intro _ | refine ⟨sb, ?_⟩ | refine ⟨sd, ?_⟩ | (refine ⟨fun h1 => ?_, fun h1 => ?_⟩ <;> first | exact ab h1 | ((try rw [h1]); (try simp only [bl] at h1))) | dsimp only)
    exact h _ (Sub.hv (subK rfl subEnd))
  · have a1 : AtS x.conns id u := ⟨hy⟩
    refine s52 ?_
    unfold D52
    repeat (first | refine go ?_ | intro _ | refine ⟨sb, ?_⟩ | refine ⟨sd, ?_⟩ | dsimp only)
    rename_i w1 o1
    obtain ⟨q, g, M, qq, ff, ag, o2, c1, c2⟩ := core_at o1 hy
    clear o0 o1
    repeat' (first | refine go ?_ | intro _ | refine ⟨sb, ?_⟩ | refine ⟨sd, ?_⟩ | (refine ⟨fun h1 => ?_, fun h1 => ?_⟩ <;> first | exact ab h1 | ((try rw [h1]); (try simp only [bl] at h1))) | dsimp only)
    all_goals first
      | exact h _ (core_back hy c1 (Sub.hv (subBox rfl (subMpn rfl rfl (subConn rfl rfl rfl rfl (subT (subTail rfl rfl rfl rfl rfl rfl rfl rfl subEnd)))))))
      | (exfalso; rw [hg] at h1; simp at h1; done)⟩
instance Live_ok [o : Hv w0 H w] [i : InK coreR p H x R] : Step (Cl P 22 #[.pointer (some ⟨p, 0, none⟩), .int .i64 id] K ⟨w, ds⟩) (∀ w', Hv w0 (coreR p x :: R) w' → K (.bool (x.live id).isSome) ⟨w', ds⟩) := ⟨fun h => by
  have o0 := i.hv o
  clear o
  cases hl : x.live id with
  | none =>
    have a : AtN x.live id := ⟨hl⟩
    rw [hl] at h
    refine s22 ?_
    unfold D22
    repeat' (first | refine go ?_ | intro _ | refine ⟨sb, ?_⟩ | refine ⟨sd, ?_⟩ | (refine ⟨fun h1 => ?_, fun h1 => ?_⟩ <;> first | exact ab h1 | ((try rw [h1]); (try simp only [bl] at h1))) | dsimp only)
    exact h _ (Sub.hv (subK rfl subEnd))
  | some y =>
    have a : AtS x.live id y := ⟨hl⟩
    rw [hl] at h
    refine s22 ?_
    unfold D22
    repeat' (first | refine go ?_ | intro _ | refine ⟨sb, ?_⟩ | refine ⟨sd, ?_⟩ | (refine ⟨fun h1 => ?_, fun h1 => ?_⟩ <;> first | exact ab h1 | ((try rw [h1]); (try simp only [bl] at h1))) | dsimp only)
    exact h _ (Sub.hv (subK rfl subEnd))⟩
instance There_ok [o : Hv w0 H w] [i : InK coreR p H x R] : Step (Cl P 47 #[.pointer (some ⟨p, 0, none⟩), .int .i64 id] K ⟨w, ds⟩) (∀ w', Hv w0 (coreR p x :: R) w' → K (.bool (x.conns id).isSome) ⟨w', ds⟩) := ⟨fun h => by
  have o0 := i.hv o
  clear o
  cases hl : x.conns id with
  | none =>
    have a : AtN x.conns id := ⟨hl⟩
    rw [hl] at h
    refine s47 ?_
    unfold D47
    repeat' (first | refine go ?_ | intro _ | refine ⟨sb, ?_⟩ | refine ⟨sd, ?_⟩ | (refine ⟨fun h1 => ?_, fun h1 => ?_⟩ <;> first | exact ab h1 | ((try rw [h1]); (try simp only [bl] at h1))) | dsimp only)
    exact h _ (Sub.hv (subK rfl subEnd))
  | some y =>
    have a : AtS x.conns id y := ⟨hl⟩
    rw [hl] at h
    refine s47 ?_
    unfold D47
    repeat' (first | refine go ?_ | intro _ | refine ⟨sb, ?_⟩ | refine ⟨sd, ?_⟩ | (refine ⟨fun h1 => ?_, fun h1 => ?_⟩ <;> first | exact ab h1 | ((try rw [h1]); (try simp only [bl] at h1))) | dsimp only)
    exact h _ (Sub.hv (subK rfl subEnd))⟩
instance Holder_ok [o : Hv w0 H w] [i : InK coreR p H x R] : Step (Cl P 15 #[.pointer (some ⟨p, 0, none⟩), str l] K ⟨w, ds⟩) ((x.hold.l.length ≤ 1000000 ∧ l.length ≤ 1000000) ∧ ∀ w', Hv w0 (coreR p x :: R) w' → K (.tuple #[.int .i64 (x.hold.get l), .bool (x.hold.has l)]) ⟨w', ds⟩) := ⟨fun ⟨⟨h1, h2⟩, h⟩ => by
  obtain ⟨q, o1⟩ := core_open (i.hv o)
  clear o
  refine s15 ?_
  unfold D15
  repeat' (first | refine go ?_ | intro _ | refine ⟨sb, ?_⟩ | refine ⟨sd, ?_⟩ | (refine ⟨fun h1 => ?_, fun h1 => ?_⟩ <;> first | exact ab h1 | ((try rw [h1]); (try simp only [bl] at h1))) | dsimp only)
  exact h _ (core_shut (Sub.hv (subBox rfl (subT (subTail rfl rfl rfl rfl rfl rfl rfl rfl subEnd)))))⟩
def Cn.whole (x : Cn) : Per := { x.p with nick := x.s.nick, user := x.s.user, real := x.s.real }
/-- the person that a connection is, laid open -/
instance whole_ok {b qq ff : Nat} {y : Cn} [o : Hv w0 H w] [i : BoxIn H b 99 [.int .i64 y.p.id, str y.p.nick, str y.p.user, str y.p.host, str y.p.real, str y.p.away, .bool y.p.oper, .bool y.p.hid, .int .i64 y.p.sig, .int .i64 y.p.spo,
  .int .i64 y.s.caps, .bool y.s.talk, str y.s.pass, str y.s.nick, str y.s.user, str y.s.real, .bool y.s.done, ptrV qq, ptrV ff, .bool y.gone] R] : Step (Cl P 59 #[.pointer (some ⟨b, 0, none⟩)] K ⟨w, ds⟩) (∀ w', Hv w0 H w' → K (.agg #[.int .i64 y.p.id, str y.s.nick, str y.s.user, str y.p.host, str y.s.real, str y.p.away, .bool y.p.oper, .bool y.p.hid, .int .i64 y.p.sig, .int .i64 y.p.spo]) ⟨w', ds⟩) := ⟨fun h => by
  have o1 := Hv.perm i.perm.1 o
  have back : ∀ w', Hv w0 (box b 99 [.int .i64 y.p.id, str y.p.nick, str y.p.user, str y.p.host, str y.p.real, str y.p.away, .bool y.p.oper, .bool y.p.hid, .int .i64 y.p.sig, .int .i64 y.p.spo,
  .int .i64 y.s.caps, .bool y.s.talk, str y.s.pass, str y.s.nick, str y.s.user, str y.s.real, .bool y.s.done, ptrV qq, ptrV ff, .bool y.gone] :: R) w' → Hv w0 H w' := fun w' o => Hv.perm i.perm.2 o
  clear o
  refine s59 ?_
  unfold D59
  repeat' (first | refine go ?_ | intro _ | refine ⟨sb, ?_⟩ | refine ⟨sd, ?_⟩ | (refine ⟨fun h1 => ?_, fun h1 => ?_⟩ <;> first | exact ab h1 | ((try rw [h1]); (try simp only [bl] at h1))) | dsimp only)
  exact h _ (back _ (Sub.hv (subBox rfl subEnd)))⟩
def Cs.person (x : Cs) (id : Int) : Option Per := match x.live id with | some y => if y.2.s.done then some y.2.whole else none | none => none
def Sgn.none : Sgn := ⟨0, false, [], [], [], [], false⟩
def Cs.sign (x : Cs) (id : Int) : Sgn := match x.live id with | some y => y.2.s | none => .none
def Cs.set (x : Cs) (id : Int) (b : Nat) (y : Cn) : Cs := { x with conns := updF x.conns id (some (b, y)) }
abbrev perV (x : Per) : Value := .agg #[.int .i64 x.id, str x.nick, str x.user, str x.host, str x.real, str x.away, .bool x.oper, .bool x.hid, .int .i64 x.sig, .int .i64 x.spo]
abbrev per0 : Per := ⟨0, [], [], [], [], [], false, false, 0, 0⟩
abbrev sgnV (x : Sgn) : Value := .agg #[.int .i64 x.caps, .bool x.talk, str x.pass, str x.nick, str x.user, str x.real, .bool x.done]
instance Person_some {u : Per} [o : Hv w0 H w] [i : InK coreR p H x R] [a : AtS x.person id u] : Step (Cl P 30 #[.pointer (some ⟨p, 0, none⟩), .int .i64 id] K ⟨w, ds⟩) (∀ w', Hv w0 (coreR p x :: R) w' → K (.tuple #[perV u, .bool true]) ⟨w', ds⟩) := ⟨fun h => by
  have ha := a.eq
  unfold Cs.person at ha
  cases hl : x.live id with
  | none => rw [hl] at ha; cases ha
  | some y =>
    rw [hl] at ha
    dsimp only at ha
    split at ha
    · rename_i hd
      obtain rfl := Option.some.inj ha
      have hy := (live_at hl).1
      have a1 : AtS x.live id y := ⟨hl⟩
      have o0 := i.hv o
      clear o
      refine s30 ?_
      unfold D30
      repeat (first | refine go ?_ | intro _ | refine ⟨sb, ?_⟩ | refine ⟨sd, ?_⟩ | dsimp only)
      rename_i w1 o1
      obtain ⟨q, g, M, qq, ff, ag, o2, c1, c2⟩ := core_at ((inferInstance : InK coreR p _ x _).hv o1) hy
      clear o0 o1
      repeat' (first | refine go ?_ | intro _ | refine ⟨sb, ?_⟩ | refine ⟨sd, ?_⟩ | (refine ⟨fun h1 => ?_, fun h1 => ?_⟩ <;> first | exact ab h1 | ((try rw [h1]); (try simp only [bl] at h1))) | dsimp only)
      · exfalso; rw [hd] at h1; cases h1
      · exact h _ (core_back hy c1 (Sub.hv (subBox rfl (subMpn rfl rfl (subConn rfl rfl rfl rfl (subT (subTail rfl rfl rfl rfl rfl rfl rfl rfl subEnd)))))))
    · cases ha⟩
theorem zp : (Value.string ⟨#[]⟩ : Value) = str [] := rfl
instance Person_none [o : Hv w0 H w] [i : InK coreR p H x R] [a : AtN x.person id] : Step (Cl P 30 #[.pointer (some ⟨p, 0, none⟩), .int .i64 id] K ⟨w, ds⟩) (∀ w', Hv w0 (coreR p x :: R) w' → K (.tuple #[perV per0, .bool false]) ⟨w', ds⟩) := ⟨fun h => by
  have ha := a.eq
  unfold Cs.person at ha
  have o0 := i.hv o
  clear o
  cases hl : x.live id with
  | none =>
    have a1 : AtN x.live id := ⟨hl⟩
    refine s30 ?_
    unfold D30
    repeat' (first | refine go ?_ | intro _ | refine ⟨sb, ?_⟩ | refine ⟨sd, ?_⟩ | (refine ⟨fun h1 => ?_, fun h1 => ?_⟩ <;> first | exact ab h1 | ((try rw [h1]); (try simp only [bl] at h1))) | dsimp only)
    exact h _ (Sub.hv (subK rfl subEnd))
  | some y =>
    rw [hl] at ha
    dsimp only at ha
    split at ha
    · cases ha
    · rename_i hd
      have hd : y.2.s.done = false := by simpa using hd
      have hy := (live_at hl).1
      have a1 : AtS x.live id y := ⟨hl⟩
      refine s30 ?_
      unfold D30
      repeat (first | refine go ?_ | intro _ | refine ⟨sb, ?_⟩ | refine ⟨sd, ?_⟩ | dsimp only)
      rename_i w1 o1
      obtain ⟨q, g, M, qq, ff, ag, o2, c1, c2⟩ := core_at ((inferInstance : InK coreR p _ x _).hv o1) hy
      clear o0 o1
      repeat' (first | refine go ?_ | intro _ | refine ⟨sb, ?_⟩ | refine ⟨sd, ?_⟩ | (refine ⟨fun h1 => ?_, fun h1 => ?_⟩ <;> first | exact ab h1 | ((try rw [h1]); (try simp only [bl] at h1))) | dsimp only)
      · exact h _ (core_back hy c1 (Sub.hv (subBox rfl (subMpn rfl rfl (subConn rfl rfl rfl rfl (subT (subTail rfl rfl rfl rfl rfl rfl rfl rfl subEnd)))))))
      · exfalso; rw [hd] at h1; cases h1⟩
instance Sign_ok [o : Hv w0 H w] [i : InK coreR p H x R] : Step (Cl P 72 #[.pointer (some ⟨p, 0, none⟩), .int .i64 id] K ⟨w, ds⟩) (∀ w', Hv w0 (coreR p x :: R) w' → K (sgnV (x.sign id)) ⟨w', ds⟩) := ⟨fun h => by
  have o0 := i.hv o
  clear o
  unfold Cs.sign at h
  cases hl : x.live id with
  | none =>
    have a1 : AtN x.live id := ⟨hl⟩
    rw [hl] at h
    refine s72 ?_
    unfold D72
    repeat' (first | refine go ?_ | intro _ | refine ⟨sb, ?_⟩ | refine ⟨sd, ?_⟩ | (refine ⟨fun h1 => ?_, fun h1 => ?_⟩ <;> first | exact ab h1 | ((try rw [h1]); (try simp only [bl] at h1))) | dsimp only)
    exact h _ (Sub.hv (subK rfl subEnd))
  | some y =>
    rw [hl] at h
    have hy := (live_at hl).1
    have a1 : AtS x.live id y := ⟨hl⟩
    refine s72 ?_
    unfold D72
    repeat (first | refine go ?_ | intro _ | refine ⟨sb, ?_⟩ | refine ⟨sd, ?_⟩ | dsimp only)
    rename_i w1 o1
    obtain ⟨q, g, M, qq, ff, ag, o2, c1, c2⟩ := core_at ((inferInstance : InK coreR p _ x _).hv o1) hy
    clear o0 o1
    repeat' (first | refine go ?_ | intro _ | refine ⟨sb, ?_⟩ | refine ⟨sd, ?_⟩ | (refine ⟨fun h1 => ?_, fun h1 => ?_⟩ <;> first | exact ab h1 | ((try rw [h1]); (try simp only [bl] at h1))) | dsimp only)
    exact h _ (core_back hy c1 (Sub.hv (subBox rfl (subMpn rfl rfl (subConn rfl rfl rfl rfl (subT (subTail rfl rfl rfl rfl rfl rfl rfl rfl subEnd)))))))⟩
def Cs.setSign (x : Cs) (id : Int) (s : Sgn) : Cs := match x.live id with | some y => x.set id y.1 { y.2 with s := { s with nick := y.2.s.nick, done := y.2.s.done } } | none => x
instance SetSign_ok {s : Sgn} [o : Hv w0 H w] [i : InK coreR p H x R] : Step (Cl P 11 #[.pointer (some ⟨p, 0, none⟩), .int .i64 id, .agg #[.int .i64 s.caps, .bool s.talk, str s.pass, str s.nick, str s.user, str s.real, .bool s.done]] K ⟨w, ds⟩) (∀ w', Hv w0 (coreR p (x.setSign id s) :: R) w' → K (.tuple #[]) ⟨w', ds⟩) := ⟨fun h => by
  have o0 := i.hv o
  clear o
  unfold Cs.setSign at h
  cases hl : x.live id with
  | none =>
    have a1 : AtN x.live id := ⟨hl⟩
    rw [hl] at h
    refine s11 ?_
    unfold D11
    repeat' (first | refine go ?_ | intro _ | refine ⟨sb, ?_⟩ | refine ⟨sd, ?_⟩ | (refine ⟨fun h1 => ?_, fun h1 => ?_⟩ <;> first | exact ab h1 | ((try rw [h1]); (try simp only [bl] at h1))) | dsimp only)
    exact h _ (Sub.hv (subK rfl subEnd))
  | some y =>
    rw [hl] at h
    have hy := (live_at hl).1
    have a1 : AtS x.live id y := ⟨hl⟩
    refine s11 ?_
    unfold D11
    repeat (first | refine go ?_ | intro _ | refine ⟨sb, ?_⟩ | refine ⟨sd, ?_⟩ | dsimp only)
    rename_i w1 o1
    obtain ⟨q, g, M, qq, ff, ag, o2, c1, c2⟩ := core_at ((inferInstance : InK coreR p _ x _).hv o1) hy
    clear o0 o1
    repeat' (first | refine go ?_ | intro _ | refine ⟨sb, ?_⟩ | refine ⟨sd, ?_⟩ | (refine ⟨fun h1 => ?_, fun h1 => ?_⟩ <;> first | exact ab h1 | ((try rw [h1]); (try simp only [bl] at h1))) | dsimp only)
    exact h _ (core_put c1 (Sub.hv (subBox rfl (subMpn rfl rfl (subConn rfl rfl rfl rfl (subT (subTail rfl rfl rfl rfl rfl rfl rfl rfl subEnd)))))))⟩
end
end Go.Proofs.YtgcomleicnblhaaGreatDoor

