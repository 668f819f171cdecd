import Derived.Test.YtgcomleicnblhaaGreatDoorKrN
set_option linter.all false
namespace Go.Proofs.YtgcomleicnblhaaGreatDoor
open Go.Vx Go.Lib
/-! a nickname claimed -/
def nickS (l : List UInt8) : Bool := (lenS l 1 16 && allK 2 l) && (lenS (l.take 1) 1 1 && allK 1 (l.take 1))
theorem nickS_len {l : List UInt8} (h : nickS l = true) : 0 < l.length ∧ l.length ≤ 16 := by
  simp [nickS, lenS] at h; omega
theorem nickS_yes {l : List UInt8} (h : (1 ≤ (l.length : Int) ∧ (l.length : Int) ≤ 16) ∧ allK 2 l = true) : nickS l = (!(decide (((l.take 1).length : Int) < 1) || decide (1 < ((l.take 1).length : Int))) && allK 1 (l.take 1)) := by
  have e : (lenS l 1 16 && allK 2 l) = true := by simp [lenS, h.2]; omega
  unfold nickS
  rw [e]; rfl
theorem nickS_no {l : List UInt8} (h : 1 ≤ (l.length : Int) ∧ (l.length : Int) ≤ 16 → allK 2 l = false) : nickS l = false := by
  have e : (lenS l 1 16 && allK 2 l) = false := by
    by_cases q : 1 ≤ (l.length : Int) ∧ (l.length : Int) ≤ 16
    · rw [h q, Bool.and_false]
    · have : lenS l 1 16 = false := by simp [lenS]; omega
      rw [this]; rfl
  unfold nickS
  rw [e]; rfl
def Cn.nicked (y : Cn) (nick : List UInt8) : Cn := { y with s := { y.s with nick := nick } }
def Cs.claim0 (x : Cs) (id : Int) (nick : List UInt8) (y : Nat × Cn) : Cs := { x with hold := ((if y.2.s.nick = [] then x.hold else x.hold.del y.2.s.nick).put nick id).1 }.set id y.1 (y.2.nicked nick)
def Cs.claim (x : Cs) (id : Int) (nick : List UInt8) : Cs × Bool :=
  match x.live id with
  | none => (x, false)
  | some y =>
    if nickS nick = false then (x, false) else if x.hold.has nick = true ∧ x.hold.get nick ≠ id then (x, false) else
    if y.2.s.done = true ∧ foldS y.2.s.nick ≠ foldS nick then (((x.claim0 id nick y).offline y.2.whole).online (y.2.nicked nick).whole, true) else (x.claim0 id nick y, true)
structure Cs.known (x : Cs) : Prop where
  p : ∀ id y, x.conns id = some y → y.2.whole.fits
  h : x.hold.l.length ≤ 100000 ∧ x.hold.most ≤ 100000
theorem set_live (x : Cs) (id : Int) (b : Nat) (y : Cn) (k : Int) : (x.set id b y).live k = if k = id then (if y.gone then none else some (b, y)) else x.live k := by
  unfold Cs.live Cs.set
  dsimp only
  by_cases e : k = id
  · subst e; rw [updF_at, if_pos rfl]
  · rw [updF_ne _ e, if_neg e]
theorem Cs.calm.put {x : Cs} (h : x.calm) {y : Cn} {b : Nat} {id : Int} {hh : Bk} (hq : y.q.fine) (hn : y.s.nick.length ≤ 999) : ({ x with hold := hh }.set id b y).calm := by
  refine ⟨⟨⟨fun k u hu => ?_⟩, h.f.n, fun k => ?_⟩, h.m, h.w, h.mb, h.wb, h.now⟩
  · dsimp only [Cs.set] at hu
    by_cases e : k = id
    · subst e; rw [updF_at] at hu; obtain rfl := Option.some.inj hu; exact hq
    · rw [updF_ne _ e] at hu; exact h.f.f.q _ _ hu
  · have h1 := h.f.k k
    unfold Cs.sign at h1 ⊢
    rw [set_live]
    split
    · rename_i e u hu
      split at hu
      · split at hu
        · cases hu
        · obtain rfl := Option.some.inj hu; exact hn
      · have hu : x.live k = some u := hu
        rw [hu] at h1; exact h1
    · exact Nat.zero_le _
theorem map_two (o : Option (Nat × Cn)) (g g' : Qu → Qu) : (o.map fun y => (y.1, { y.2 with q := g y.2.q })).map (fun y => (y.1, { y.2 with q := g' y.2.q })) = o.map fun y => (y.1, { y.2 with q := g' (g y.2.q) }) := by cases o <;> rfl
theorem watchers_live (x : Cs) (ids : List Int) (code : Nat) (ps : List (List UInt8)) (k : Int) : ∃ g : Qu → Qu, (x.watchers ids code ps).live k = (x.live k).map fun y => (y.1, { y.2 with q := g y.2.q }) := by
  unfold Cs.watchers
  induction ids generalizing x with
  | nil => exact ⟨fun q => q, by show x.live k = _; cases x.live k <;> rfl⟩
  | cons id ids ih =>
    obtain ⟨g, hg⟩ := tell1_live x id (Mk.numS x.cf.name code (x.sign id).nick ps) k
    obtain ⟨g', hg'⟩ := ih (x.watch1 code ps id)
    refine ⟨fun q => g' (g q), ?_⟩
    rw [List.foldl_cons, hg']
    unfold Cs.watch1
    rw [hg, map_two]
theorem offline_live (x : Cs) (u : Per) (k : Int) : ∃ g : Qu → Qu, (x.offline u).live k = (x.live k).map fun y => (y.1, { y.2 with q := g y.2.q }) := by
  unfold Cs.offline
  obtain ⟨g, hg⟩ := watchers_live x (x.mon.rel.byS (foldS u.nick)) 731 [u.nick] k
  obtain ⟨g', hg'⟩ := watchers_live (x.watchers (x.mon.rel.byS (foldS u.nick)) 731 [u.nick]) (x.watch.rel.byS (foldS u.nick)) 601 [u.nick, u.user, u.host, itoa x.now, offW] k
  exact ⟨fun q => g' (g q), by rw [hg', hg, map_two]⟩
theorem online_live (x : Cs) (u : Per) (k : Int) : ∃ g : Qu → Qu, (x.online u).live k = (x.live k).map fun y => (y.1, { y.2 with q := g y.2.q }) := by
  unfold Cs.online
  obtain ⟨g, hg⟩ := watchers_live x (x.mon.rel.byS (foldS u.nick)) 730 [whoS u] k
  obtain ⟨g', hg'⟩ := watchers_live (x.watchers (x.mon.rel.byS (foldS u.nick)) 730 [whoS u]) (x.watch.rel.byS (foldS u.nick)) 600 [u.nick, u.user, u.host, itoa u.sig, onW] k
  exact ⟨fun q => g' (g q), by rw [hg', hg, map_two]⟩
section
set_option maxRecDepth 20000
set_option synthInstance.maxSize 100000
set_option synthInstance.maxHeartbeats 4000000
variable {K : Value → St → Prop} {w0 w : World} {H R R2 : List SL} {ds : List Deferred} {p n : Nat} {v : Value} {l : List UInt8} {z id : Int} {x : Cs} {y : Nat × Cn} {q : Ptrs} {code : Nat} {nick : List UInt8} {xs : List Value} {ps : List (List UInt8)} {u : Per}
instance nick_ok [o : Hv w0 H w] : Step (Cl P 53 #[str l] K ⟨w, ds⟩) (l.length ≤ 1000000000 ∧ ∀ w', Hv w0 H w' → K (.bool (nickS l)) ⟨w', ds⟩) := ⟨fun ⟨hl, h⟩ => by
  have hp : (lenS l 1 16 && allK 2 l) = true → 1 ≤ l.length := fun hq => by simp [lenS] at hq; omega
  refine s53 ?_
  unfold D53
  repeat' (first | refine go ?_ | intro _ | refine ⟨sb, ?_⟩ | refine ⟨sd, ?_⟩ | (refine ⟨fun h1 => ?_, fun h1 => ?_⟩ <;> first | exact ab h1 | ((try rw [h1]); (try simp only [bl] at h1))) | dsimp only)
  · exact cast (congrArg (fun b => K (.bool b) _) (nickS_yes h1)) (h _ ‹_›)
  · exact cast (congrArg (fun b => K (.bool b) _) (nickS_no h1)) (h _ ‹_›)⟩
theorem claim_tail {K' : St → Prop} {T : List SL} {b : Nat} {y' : Cn} [tb : PowT w0] (o : Hv w0 (coreR p x :: T) w) (hc : x.calm) (lv : x.live id = some (b, y')) (hu : u.fits) (hy : y'.whole.fits) (hd : x.dying.length ≤ 800000)
    (h : ∀ w', Hv w0 (coreR p ((x.offline u).online y'.whole) :: T) w' → K' ⟨w', []⟩) :
    Cl P 57 #[.pointer (some ⟨p, 0, none⟩), perV u] (fun _ s => Cl P 59 #[ptrV b] (fun v s => Cl P 58 #[.pointer (some ⟨p, 0, none⟩), v] (fun _ s => K' s) s) s) ⟨w, []⟩ := by
  have hd2 := hc.offD u
  have hc2 := hc.offline u
  obtain ⟨g, hg⟩ := offline_live x u id
  rw [lv] at hg
  refine go (And.intro ⟨hc, hu, by omega⟩ ?_)
  intro w1 o1
  clear o
  generalize x.offline u = x2 at *
  have hl2 : x2.live id = some (b, { y' with q := g y'.q }) := hg
  have hy2 := (live_at hl2).1
  obtain ⟨q, g2, M, qq, ff, ag, o2, c4, c5⟩ := core_at o1 hy2
  clear o1
  dsimp only at o2 c4 c5
  repeat' (first | refine go ?_ | intro _ | refine ⟨sb, ?_⟩ | refine ⟨sd, ?_⟩ | (refine ⟨fun h1 => ?_, fun h1 => ?_⟩ <;> first | exact ab h1 | ((try rw [h1]); (try simp only [bl] at h1))) | dsimp only)
  rename_i w2 o3
  have o4 : Hv w0 (coreR p x2 :: T) w2 := core_back hy2 c4 (Sub.hv (subBox rfl (subMpn rfl rfl (subConn rfl rfl rfl rfl (subT (subTail rfl rfl rfl rfl rfl rfl rfl rfl (subRest _)))))))
  clear o2 o3
  refine (online_ok (u := y'.whole)).prf (And.intro ⟨hc2, hy, by omega⟩ ?_)
  intro w3 o5
  exact h _ o5
instance Claim_ok [o : Hv w0 H w] [i : InK coreR p H x R] [tb : PowT w0] : Step (Cl P 9 #[.pointer (some ⟨p, 0, none⟩), .int .i64 id, str nick] K ⟨w, ds⟩)
    (((x.calm ∧ x.known) ∧ nick.length ≤ 1000000 ∧ x.dying.length ≤ 800000) ∧ ∀ w', Hv w0 (coreR p (x.claim id nick).1 :: R) w' → K (.bool (x.claim id nick).2) ⟨w', ds⟩) := ⟨fun ⟨⟨⟨hc, hk⟩, hn, hd⟩, h⟩ => by
  have o0 := i.hv o
  clear o
  unfold Cs.claim at h
  cases hl : x.live id with
  | none =>
    have a1 : AtN x.live id := ⟨hl⟩
    rw [hl] at h
    refine s9 ?_
    unfold D9
    repeat' (first | refine go ?_ | intro _ | refine ⟨sb, ?_⟩ | refine ⟨sd, ?_⟩ | (refine ⟨fun h1 => ?_, fun h1 => ?_⟩ <;> first | exact ab h1 | ((try rw [h1]); (try simp only [bl] at h1))) | dsimp only)
    exact h _ (Sub.hv (subK rfl subEnd))
  | some y =>
    have a1 : AtS x.live id y := ⟨hl⟩
    rw [hl] at h
    dsimp only at h
    have hy := (live_at hl).1
    have k1 := hk.h.1
    have k2 := hk.p id y hy
    have n1 : y.2.s.nick.length ≤ 300 := k2.a
    have n2 : y.2.whole.nick.length ≤ 300 := k2.a
    have k3 : (x.hold.del y.2.s.nick).l.length ≤ 1000000 := Nat.le_trans (delT_len ..) (by omega)
    have cl : nickS nick = true → (x.claim0 id nick y).calm := fun h => hc.put (hc.f.f.q _ _ hy) (by have := nickS_len h; show nick.length ≤ 999; omega)
    have kn : nickS nick = true → (y.2.nicked nick).whole.fits := fun h => ⟨by have := nickS_len h; show nick.length ≤ 300; omega, k2.b, k2.c, k2.d⟩
    have e9 : (x.claim0 id nick y).dying = x.dying := rfl
    have lv : (x.claim0 id nick y).live id = some (y.1, y.2.nicked nick) := by
      unfold Cs.claim0
      rw [set_live, if_pos rfl, if_neg (by show ¬ y.2.gone = true; rw [(live_at hl).2]; decide)]
    by_cases c1 : nickS nick = false
    · rw [if_pos c1] at h
      refine s9 ?_
      unfold D9
      repeat' (first | refine go ?_ | intro _ | refine ⟨sb, ?_⟩ | refine ⟨sd, ?_⟩ | (refine ⟨fun h1 => ?_, fun h1 => ?_⟩ <;> first | exact ab h1 | ((try rw [h1]); (try simp only [bl] at h1))) | dsimp only)
      all_goals first
        | exact h _ (Sub.hv (subK rfl subEnd))
        | (exfalso; grind)
    rw [if_neg c1] at h
    have c1 : nickS nick = true := by simpa using c1
    have nl := nickS_len c1
    by_cases c2 : x.hold.has nick = true ∧ x.hold.get nick ≠ id
    · rw [if_pos c2] at h
      refine s9 ?_
      unfold D9
      repeat' (first | refine go ?_ | intro _ | refine ⟨sb, ?_⟩ | refine ⟨sd, ?_⟩ | (refine ⟨fun h1 => ?_, fun h1 => ?_⟩ <;> first | exact ab h1 | ((try rw [h1]); (try simp only [bl] at h1))) | dsimp only)
      all_goals first
        | exact h _ (Sub.hv (subK rfl subEnd))
        | (exfalso; grind)
      all_goals skip
    rw [if_neg c2] at h
    by_cases c3 : y.2.s.done = true
    · have a2 : AtS x.person id y.2.whole := ⟨by unfold Cs.person; rw [hl]; dsimp only; rw [if_pos c3]⟩
      refine s9 ?_
      unfold D9
      repeat' (first | refine go ?_ | intro _ | refine ⟨sb, ?_⟩ | refine ⟨sd, ?_⟩ | (refine ⟨fun h1 => ?_, fun h1 => ?_⟩ <;> first | exact ab h1 | ((try rw [h1]); (try simp only [bl] at h1))) | dsimp only)
      · exfalso; grind
      · exfalso; grind
      rename_i w5 o5
      have o6 := (show InK coreR p _ x _ from inferInstance).hv o5
      clear o0 o5
      obtain ⟨q, g, M, qq, ff, ag, o7, c4, c5⟩ := core_at o6 hy
      clear o6
      repeat' (first | refine go ?_ | intro _ | refine ⟨sb, ?_⟩ | refine ⟨sd, ?_⟩ | (refine ⟨fun h1 => ?_, fun h1 => ?_⟩ <;> first | exact ab h1 | ((try rw [h1]); (try simp only [bl] at h1))) | dsimp only)
      · have e0 : x.claim0 id nick y = { x with hold := ((x.hold.del y.2.s.nick).put nick id).1 }.set id y.1 (y.2.nicked nick) := by unfold Cs.claim0; rw [if_neg ‹¬ y.2.s.nick = []›]
        rw [if_pos ⟨c3, h1⟩] at h
        refine claim_tail (w0 := w0) (x := x.claim0 id nick y) (u := y.2.whole) (y' := y.2.nicked nick) (T := R) ?_ (cl c1) lv k2 (kn c1) (by rw [e9]; exact hd) ?_
        · rw [e0]
          exact (core_put c4 (Sub.hv (subBox rfl (subMpn rfl rfl (subConn rfl rfl rfl rfl (subT (subTail rfl rfl rfl rfl rfl rfl rfl rfl subEnd)))))))
        intro w9 o9
        repeat' (first | refine go ?_ | intro _ | refine ⟨sb, ?_⟩ | refine ⟨sd, ?_⟩ | (refine ⟨fun h1 => ?_, fun h1 => ?_⟩ <;> first | exact ab h1 | ((try rw [h1]); (try simp only [bl] at h1))) | dsimp only)
        exact h _ o9
      · have e0 : x.claim0 id nick y = { x with hold := ((x.hold.del y.2.s.nick).put nick id).1 }.set id y.1 (y.2.nicked nick) := by unfold Cs.claim0; rw [if_neg ‹¬ y.2.s.nick = []›]
        rw [if_neg (fun hq => hq.2 h1), e0] at h
        exact h _ (core_put c4 (Sub.hv (subBox rfl (subMpn rfl rfl (subConn rfl rfl rfl rfl (subT (subTail rfl rfl rfl rfl rfl rfl rfl rfl subEnd)))))))
      · have e0 : x.claim0 id nick y = { x with hold := (x.hold.put nick id).1 }.set id y.1 (y.2.nicked nick) := by unfold Cs.claim0; rw [if_pos ‹y.2.s.nick = []›]
        rw [if_pos ⟨c3, h1⟩] at h
        refine claim_tail (w0 := w0) (x := x.claim0 id nick y) (u := y.2.whole) (y' := y.2.nicked nick) (T := R) ?_ (cl c1) lv k2 (kn c1) (by rw [e9]; exact hd) ?_
        · rw [e0]
          exact (core_put c4 (Sub.hv (subBox rfl (subMpn rfl rfl (subConn rfl rfl rfl rfl (subT (subTail rfl rfl rfl rfl rfl rfl rfl rfl subEnd)))))))
        intro w9 o9
        repeat' (first | refine go ?_ | intro _ | refine ⟨sb, ?_⟩ | refine ⟨sd, ?_⟩ | (refine ⟨fun h1 => ?_, fun h1 => ?_⟩ <;> first | exact ab h1 | ((try rw [h1]); (try simp only [bl] at h1))) | dsimp only)
        exact h _ o9
      · have e0 : x.claim0 id nick y = { x with hold := (x.hold.put nick id).1 }.set id y.1 (y.2.nicked nick) := by unfold Cs.claim0; rw [if_pos ‹y.2.s.nick = []›]
        rw [if_neg (fun hq => hq.2 h1), e0] at h
        exact h _ (core_put c4 (Sub.hv (subBox rfl (subMpn rfl rfl (subConn rfl rfl rfl rfl (subT (subTail rfl rfl rfl rfl rfl rfl rfl rfl subEnd)))))))
    · have a2 : AtN x.person id := ⟨by unfold Cs.person; rw [hl]; dsimp only; rw [if_neg c3]⟩
      have c3' : y.2.s.done = false := by simpa using c3
      refine s9 ?_
      unfold D9
      repeat' (first | refine go ?_ | intro _ | refine ⟨sb, ?_⟩ | refine ⟨sd, ?_⟩ | (refine ⟨fun h1 => ?_, fun h1 => ?_⟩ <;> first | exact ab h1 | ((try rw [h1]); (try simp only [bl] at h1))) | dsimp only)
      · exfalso; grind
      · exfalso; grind
      rename_i w5 o5
      have o6 := (show InK coreR p _ x _ from inferInstance).hv o5
      clear o0 o5
      obtain ⟨q, g, M, qq, ff, ag, o7, c4, c5⟩ := core_at o6 hy
      clear o6
      repeat' (first | refine go ?_ | intro _ | refine ⟨sb, ?_⟩ | refine ⟨sd, ?_⟩ | (refine ⟨fun h1 => ?_, fun h1 => ?_⟩ <;> first | exact ab h1 | ((try rw [h1]); (try simp only [bl] at h1))) | dsimp only)
      · have e0 : x.claim0 id nick y = { x with hold := ((x.hold.del y.2.s.nick).put nick id).1 }.set id y.1 (y.2.nicked nick) := by unfold Cs.claim0; rw [if_neg ‹¬ y.2.s.nick = []›]
        rw [if_neg (fun hq => c3 hq.1), e0] at h
        exact h _ (core_put c4 (Sub.hv (subBox rfl (subMpn rfl rfl (subConn rfl rfl rfl rfl (subT (subTail rfl rfl rfl rfl rfl rfl rfl rfl subEnd)))))))
      · have e0 : x.claim0 id nick y = { x with hold := (x.hold.put nick id).1 }.set id y.1 (y.2.nicked nick) := by unfold Cs.claim0; rw [if_pos ‹y.2.s.nick = []›]
        rw [if_neg (fun hq => c3 hq.1), e0] at h
        exact h _ (core_put c4 (Sub.hv (subBox rfl (subMpn rfl rfl (subConn rfl rfl rfl rfl (subT (subTail rfl rfl rfl rfl rfl rfl rfl rfl subEnd)))))))⟩
end
end Go.Proofs.YtgcomleicnblhaaGreatDoor

