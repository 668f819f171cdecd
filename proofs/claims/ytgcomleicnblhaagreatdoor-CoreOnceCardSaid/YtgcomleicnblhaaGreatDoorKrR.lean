import Derived.Test.YtgcomleicnblhaaGreatDoorKrQ
set_option linter.all false
namespace Go.Proofs.YtgcomleicnblhaaGreatDoor
open Go.Vx Go.Lib
/-! numbers stay as they may be -/
structure Cs.good (x : Cs) (D N : Nat) : Prop where
  c : ∀ id y, x.conns id = some y → y.2.q.fine ∧ y.2.whole.fits
  nm : x.cf.name.length ≤ 10000
  now : 0 ≤ x.now ∧ x.now ≤ 1000000
  m : x.mon.rel.fit ∧ ∀ l, (x.mon.rel.byS l).length ≤ 1000
  w : x.watch.rel.fit ∧ ∀ l, (x.watch.rel.byS l).length ≤ 1000
  h : x.hold.l.length ≤ N ∧ x.hold.most ≤ 100000
  p : x.pulse.late.1 ≤ N ∧ x.pulse.ask.1 ≤ N ∧ x.pulse.dead.1 ≤ N
  b : 0 ≤ x.pulse.ping ∧ x.pulse.ping ≤ 1000000 ∧ 0 ≤ x.pulse.grace ∧ x.pulse.grace ≤ 1000000 ∧ 0 ≤ x.pulse.reg ∧ x.pulse.reg ≤ 1000000
  d : x.dying.length ≤ D
variable {x : Cs} {D N : Nat}
theorem Cs.good.live (g : x.good D N) {id : Int} {y : Nat × Cn} (h : x.live id = some y) : y.2.q.fine ∧ y.2.whole.fits := g.c _ _ (live_at h).1
theorem Cs.good.sign (g : x.good D N) (id : Int) : (x.sign id).nick.length ≤ 300 := by
  unfold Cs.sign
  cases h : x.live id with
  | none => exact Nat.zero_le _
  | some y => exact (g.live h).2.a
theorem Cs.good.fine (g : x.good D N) : x.fine := ⟨fun id y h => (g.c id y h).1⟩
theorem Cs.good.calm (g : x.good D N) : x.calm := ⟨⟨g.fine, g.nm, fun k => Nat.le_trans (g.sign k) (by decide)⟩, g.m.1, g.w.1, g.m.2, g.w.2, ⟨by have := g.now.1; omega, by have := g.now.2; omega⟩⟩
theorem Cs.good.known (g : x.good D N) (h : N ≤ 100000) : x.known := ⟨fun id y h => (g.c id y h).2, Nat.le_trans g.h.1 h, g.h.2⟩
theorem Cs.good.timed (g : x.good D N) (h : N ≤ 100000) : x.timed := ⟨⟨by have := g.p; omega, by have := g.b; omega⟩, by have := g.now; omega⟩
theorem Cs.good.mono (g : x.good D N) {D' N' : Nat} (h1 : D ≤ D') (h2 : N ≤ N') : x.good D' N' := ⟨g.c, g.nm, g.now, g.m, g.w, ⟨Nat.le_trans g.h.1 h2, g.h.2⟩, by have := g.p; omega, g.b, Nat.le_trans g.d h1⟩
theorem Cs.good.put (g : x.good D N) {id : Int} {b : Nat} {y : Cn} {hh : Bk} {pp : Pl.Pst} {n : Nat} {dd : List Int} {N' D' : Nat} (h1 : y.q.fine) (h2 : y.whole.fits) (h3 : hh.l.length ≤ N' ∧ hh.most ≤ 100000) (h4 : pp.late.1 ≤ N' ∧ pp.ask.1 ≤ N' ∧ pp.dead.1 ≤ N') (h5 : pp.ping = x.pulse.ping ∧ pp.grace = x.pulse.grace ∧ pp.reg = x.pulse.reg) (h6 : dd.length ≤ D') :
    ({ x with conns := updF x.conns id (some (b, y)), n := n, hold := hh, pulse := pp, dying := dd } : Cs).good D' N' := by
  refine ⟨fun k u hu => ?_, g.nm, g.now, g.m, g.w, h3, h4, ?_, h6⟩
  · have hu : updF x.conns id (some (b, y)) k = some u := hu
    by_cases e : k = id
    · subst e; rw [updF_at] at hu; obtain rfl := Option.some.inj hu; exact ⟨h1, h2⟩
    · rw [updF_ne _ e] at hu; exact g.c _ _ hu
  · obtain ⟨e1, e2, e3⟩ := h5
    have := g.b
    rw [← e1, ← e2, ← e3] at this; exact this
theorem Cs.good.tell1 (g : x.good D N) (id : Int) (l : List UInt8) : (x.tell1 id l).good (D + 1) N := by
  have g' := g.mono (Nat.le_succ D) (Nat.le_refl N)
  unfold Cs.tell1
  cases h : x.live id with
  | none => exact g'
  | some y =>
    dsimp only
    split
    · exact g'
    · have hy := g.live h
      refine g.put (n := x.n) (hy.1.push l) hy.2 g.h g.p ⟨rfl, rfl, rfl⟩ ?_
      have := g.d
      split
      · rw [List.length_append]; simp; exact this
      · omega
theorem Cs.good.watchers (ids : List Int) (code : Nat) (ps : List (List UInt8)) : ∀ {x : Cs} {D : Nat}, x.good D N → (x.watchers ids code ps).good (D + ids.length) N := by
  unfold Cs.watchers
  induction ids with
  | nil => exact fun g => g
  | cons id ids ih =>
    intro x D g
    have := ih (g.tell1 id (Mk.numS x.cf.name code (x.sign id).nick ps))
    refine this.mono ?_ (Nat.le_refl _)
    simp only [List.length_cons]; omega
theorem Cs.good.online (g : x.good D N) (u : Per) : (x.online u).good (D + 2000) N := by
  unfold Cs.online
  have h1 := g.m.2 (foldS u.nick)
  have h2 := g.w.2 (foldS u.nick)
  exact ((g.watchers _ _ _).watchers _ _ _).mono (by omega) (Nat.le_refl _)
theorem Cs.good.offline (g : x.good D N) (u : Per) : (x.offline u).good (D + 2000) N := by
  unfold Cs.offline
  have h1 := g.m.2 (foldS u.nick)
  have h2 := g.w.2 (foldS u.nick)
  exact ((g.watchers _ _ _).watchers _ _ _).mono (by omega) (Nat.le_refl _)
theorem bdel_len (h : Bk) (n : List UInt8) : (h.del n).l.length ≤ h.l.length ∧ (h.del n).most = h.most := ⟨delT_len .., rfl⟩
theorem bput_len (h : Bk) (n : List UInt8) (z : Int) : (h.put n z).1.l.length ≤ h.l.length + 1 ∧ (h.put n z).1.most = h.most := by
  unfold Bk.put
  split
  · exact ⟨by simp, rfl⟩
  split
  · exact ⟨by dsimp only; omega, rfl⟩
  · exact ⟨by dsimp only; rw [insT_len]; exact Nat.le_refl _, rfl⟩
theorem Cs.good.claim0 (g : x.good D N) {id : Int} {nick : List UInt8} {y : Nat × Cn} (hl : x.live id = some y) (hn : nickS nick = true) : (x.claim0 id nick y).good D (N + 1) := by
  have hy := g.live hl
  have nl := nickS_len hn
  unfold Cs.claim0
  have hp := g.p
  refine g.put (n := x.n) (pp := x.pulse) (dd := x.dying) (hh := (if y.2.s.nick = [] then x.hold else x.hold.del y.2.s.nick).put nick id |>.1) hy.1 ⟨by show nick.length ≤ 300; omega, hy.2.b, hy.2.c, hy.2.d⟩ ?_ ⟨by omega, by omega, by omega⟩ ⟨rfl, rfl, rfl⟩ g.d
  have h1 := bput_len (if y.2.s.nick = [] then x.hold else x.hold.del y.2.s.nick) nick id
  have h2 := g.h
  split at h1
  · rename_i e; rw [if_pos e]; exact ⟨by omega, by rw [h1.2]; exact h2.2⟩
  · rename_i e; rw [if_neg e]; have h3 := bdel_len x.hold y.2.s.nick; exact ⟨by omega, by rw [h1.2, h3.2]; exact h2.2⟩
theorem Cs.good.claim (g : x.good D N) (id : Int) (nick : List UInt8) : (x.claim id nick).1.good (D + 4000) (N + 1) := by
  have g' := g.mono (show D ≤ D + 4000 by omega) (show N ≤ N + 1 by omega)
  unfold Cs.claim
  cases hl : x.live id with
  | none => exact g'
  | some y =>
    dsimp only
    split
    · exact g'
    split
    · exact g'
    rename_i hn _
    have hn : nickS nick = true := by simpa using hn
    have g0 := g.claim0 hl hn
    split
    · exact ((g0.offline _).online _).mono (by omega) (Nat.le_refl _)
    · exact g0.mono (by omega) (Nat.le_refl _)
theorem Cs.good.register (g : x.good D N) (id : Int) : (x.register id).1.good (D + 4000) (N + 1) := by
  have g' := g.mono (show D ≤ D + 4000 by omega) (show N ≤ N + 1 by omega)
  unfold Cs.register
  cases hl : x.live id with
  | none => exact g'
  | some y =>
    dsimp only
    split
    · exact g'
    have hy := g.live hl
    have g0 : (x.reg0 id y).good D (N + 1) := by
      unfold Cs.reg0
      have hp := g.p
      have hi : InR x.now := ⟨by have := g.now.1; omega, by have := g.now.2; omega⟩
      refine g.put (n := x.n) (hh := x.hold) (dd := x.dying) hy.1 ⟨hy.2.a, hy.2.b, hy.2.c, hi⟩ ⟨by have := g.h.1; omega, g.h.2⟩ ?_ ?_ g.d
      · unfold Pl.Pst.reg1; split
        · refine ⟨?_, ?_, ?_⟩ <;> (dsimp only [Pl.Tst.set, Pl.Tst.stop]; omega)
        · dsimp only at hp ⊢; omega
      · unfold Pl.Pst.reg1; split <;> exact ⟨rfl, rfl, rfl⟩
    exact (g0.online _).mono (by omega) (Nat.le_refl _)
theorem Cs.good.setSign (g : x.good D N) (id : Int) {s : Sgn} (h : s.user.length ≤ 300) : (x.setSign id s).good D N := by
  unfold Cs.setSign
  cases hl : x.live id with
  | none => exact g
  | some y =>
    have hy := g.live hl
    exact g.put (n := x.n) (hh := x.hold) (pp := x.pulse) (dd := x.dying) hy.1 ⟨hy.2.a, h, hy.2.c, hy.2.d⟩ g.h g.p ⟨rfl, rfl, rfl⟩ g.d
theorem host_len (l : List UInt8) : (hostOf l).length ≤ 300 := by
  unfold hostOf
  split
  · rename_i h; simp [hostS, lenS] at h; omega
  · decide
theorem new_fine {z : Int} (h : z ≤ 65536) : (Qu.new z).fine := ⟨by simp [Qu.new], h, by simp [Qu.new], by simp [Qu.new]⟩
theorem Cs.good.connect (g : x.good D N) (b : Nat) (id : Int) (host : List UInt8) (h : x.cf.send ≤ 65536) : (x.connect b id host).good D (N + 1) := by
  have hp := g.p
  unfold Cs.connect
  refine g.put (n := x.n + 1) (hh := x.hold) (dd := x.dying) (new_fine h) ⟨Nat.zero_le _, Nat.zero_le _, host_len host, (show InR 0 from ⟨by decide, by decide⟩)⟩ ⟨by have := g.h.1; omega, g.h.2⟩ ?_ ⟨rfl, rfl, rfl⟩ g.d
  refine ⟨?_, ?_, ?_⟩ <;> (simp only [Pl.Pst.join, Pl.Pst.leave, Pl.Tst.set, Pl.Tst.stop]; omega)
end Go.Proofs.YtgcomleicnblhaaGreatDoor

