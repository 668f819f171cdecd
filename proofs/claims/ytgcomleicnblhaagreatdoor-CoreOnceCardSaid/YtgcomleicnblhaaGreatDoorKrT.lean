import Derived.Test.YtgcomleicnblhaaGreatDoorKrS
set_option linter.all false
namespace Go.Proofs.YtgcomleicnblhaaGreatDoor
open Go.Vx Go.Lib
/-! one holder at most: the plain law -/
theorem claim_new {x : Cs} {id : Int} {nick : List UInt8} {y : Nat × Cn} (hl : x.live id = some y) (h1 : nickS nick = true) (h2 : x.hold.has nick = true → x.hold.get nick = id) (h3 : ¬ (y.2.s.done = true ∧ foldS y.2.s.nick ≠ foldS nick)) : x.claim id nick = (x.claim0 id nick y, true) := by
  unfold Cs.claim
  rw [hl]
  dsimp only
  rw [if_neg (by simp [h1]), if_neg (fun h => h.2 (h2 h.1)), if_neg h3]
theorem claim_other {x : Cs} {id : Int} {nick : List UInt8} {y : Nat × Cn} (hl : x.live id = some y) (h2 : x.hold.has nick = true) (h3 : x.hold.get nick ≠ id) : x.claim id nick = (x, false) := by
  unfold Cs.claim
  rw [hl]
  dsimp only
  split
  · rfl
  · rw [if_pos ⟨h2, h3⟩]
theorem claim_chg {x : Cs} {id : Int} {nick : List UInt8} {y : Nat × Cn} (hl : x.live id = some y) (h1 : nickS nick = true) (h2 : x.hold.has nick = true → x.hold.get nick = id) (h3 : y.2.s.done = true ∧ foldS y.2.s.nick ≠ foldS nick) : x.claim id nick = (((x.claim0 id nick y).offline y.2.whole).online (y.2.nicked nick).whole, true) := by
  unfold Cs.claim
  rw [hl]
  dsimp only
  rw [if_neg (by simp [h1]), if_neg (fun h => h.2 (h2 h.1)), if_pos h3]
theorem register_one {x : Cs} {id : Int} {y : Nat × Cn} (hl : x.live id = some y) (h : ¬ (y.2.s.done = true ∨ y.2.s.nick = [] ∨ y.2.s.user = [])) : x.register id = ((x.reg0 id y).online (y.2.regd x.now).whole, true) := by
  unfold Cs.register
  rw [hl]
  dsimp only
  rw [if_neg h]
theorem online_quiet {x : Cs} {u : Per} (h1 : x.mon.rel.byS (foldS u.nick) = []) (h2 : x.watch.rel.byS (foldS u.nick) = []) : x.online u = x := by unfold Cs.online; rw [h1, h2]; rfl
theorem offline_quiet {x : Cs} {u : Per} (h1 : x.mon.rel.byS (foldS u.nick) = []) (h2 : x.watch.rel.byS (foldS u.nick) = []) : x.offline u = x := by unfold Cs.offline; rw [h1, h2]; rfl
theorem live_of {x : Cs} {id : Int} {y : Nat × Cn} (h : x.conns id = some y) (hg : y.2.gone = false) : x.live id = some y := by
  unfold Cs.live; rw [h]; dsimp only; rw [if_neg (by simp [hg])]
def c9 : Cfg := ⟨ircx, [], [], [], 9, 65536, 1, 1, 1, 5, 5, 0, 9, 9, 9⟩
def nN (j : Int) : List UInt8 := [110, UInt8.ofNat (48 + j.toNat)]
def cnO (j : Int) (nick : List UInt8) (q : Qu) : Cn := ⟨⟨j, [], [], [104], [], [], false, false, 0, 0⟩, ⟨0, false, [], nick, [117], [], true⟩, q, ([], false), false⟩
def hA (m : Int) : Bk := ⟨1000, if m = 1 then [] else if m = 2 then [(nN 1, 1)] else if m = 3 then [(nN 1, 1), (nN 2, 2)] else [(nN 1, 1), (nN 2, 2), (nN 3, 3)]⟩
abbrev sgO : Sgn := ⟨0, false, [], [], [117], [], false⟩
structure Up (x : Cs) (m : Int) : Prop where
  cf : x.cf = c9
  now : x.now = 0
  a : ∀ j, 1 ≤ j → j < m → ∃ b, x.conns j = some (b, cnO j (nN j) (.new 65536))
  z : ∀ j, ¬ (1 ≤ j ∧ j < m) → x.conns j = none
  n : (x.n : Int) = m - 1
  hold : x.hold = hA m
  mon : x.mon = .new 5
  watch : x.watch = .new 5
  d : x.dying = []
def upS (x : Cs) (b : Nat) (m : Int) : Cs := ((((x.connect b m [104]).claim m (nN m)).1.setSign m sgO).register m).1
theorem Up.step {x : Cs} {m : Int} (u : Up x m) (hm : m = 1 ∨ m = 2 ∨ m = 3) (b : Nat) : Up (upS x b m) (m + 1) := by
  have hn : nickS (nN m) = true := by rcases hm with rfl | rfl | rfl <;> decide +kernel
  have hp : ((x.hold.put (nN m) m).1) = hA (m + 1) := by rw [u.hold]; rcases hm with rfl | rfl | rfl <;> rfl
  have hh : x.hold.has (nN m) = false := by rw [u.hold]; rcases hm with rfl | rfl | rfl <;> decide +kernel
  have hf : hostOf [104] = [104] := by decide +kernel
  have l1 : (x.connect b m [104]).live m = some (b, .first x.cf.send m [104]) := live_of (show updF _ _ _ _ = _ from updF_at ..) rfl
  have e1 : (x.connect b m [104]).claim m (nN m) = ((x.connect b m [104]).claim0 m (nN m) (b, .first x.cf.send m [104]), true) := claim_new l1 hn (fun h => by have h : x.hold.has (nN m) = true := h; rw [hh] at h; cases h) (fun h => by cases h.1)
  have l2 : ((x.connect b m [104]).claim0 m (nN m) (b, .first x.cf.send m [104])).live m = some (b, (Cn.first x.cf.send m [104]).nicked (nN m)) := live_of (show updF _ _ _ _ = _ from updF_at ..) rfl
  have e2 : ((x.connect b m [104]).claim0 m (nN m) (b, .first x.cf.send m [104])).setSign m sgO = ((x.connect b m [104]).claim0 m (nN m) (b, .first x.cf.send m [104])).set m b { (Cn.first x.cf.send m [104]).nicked (nN m) with s := { sgO with nick := nN m, done := false } } := by
    unfold Cs.setSign; rw [l2]; rfl
  have l3 : (((x.connect b m [104]).claim0 m (nN m) (b, .first x.cf.send m [104])).set m b { (Cn.first x.cf.send m [104]).nicked (nN m) with s := { sgO with nick := nN m, done := false } }).live m = some (b, { (Cn.first x.cf.send m [104]).nicked (nN m) with s := { sgO with nick := nN m, done := false } }) := live_of (show updF _ _ _ _ = _ from updF_at ..) rfl
  have e3 := register_one l3 (by rintro (h | h | h) <;> cases h)
  have qm : ∀ l, x.mon.rel.byS l = [] := fun l => by rw [u.mon]; rfl
  have qw : ∀ l, x.watch.rel.byS l = [] := fun l => by rw [u.watch]; rfl
  have e : upS x b m = { x with conns := updF (updF (updF (updF x.conns m (some (b, .first x.cf.send m [104]))) m (some (b, (Cn.first x.cf.send m [104]).nicked (nN m)))) m (some (b, { (Cn.first x.cf.send m [104]).nicked (nN m) with s := { sgO with nick := nN m, done := false } }))) m (some (b, Cn.regd { (Cn.first x.cf.send m [104]).nicked (nN m) with s := { sgO with nick := nN m, done := false } } x.now)), n := x.n + 1, hold := (x.hold.put (nN m) m).1, pulse := (x.pulse.join m x.now).reg1 m x.now } := by
    unfold upS
    rw [e1, e2, e3]
    refine Eq.trans (online_quiet ?_ ?_) rfl
    · exact qm _
    · exact qw _
  rw [e]
  refine ⟨u.cf, u.now, fun j h1 h2 => ?_, fun j h => ?_, by have := u.n; show ((x.n + 1 : Nat) : Int) = _; omega, hp, u.mon, u.watch, u.d⟩
  · by_cases q : j = m
    · subst q
      refine ⟨b, (updF_at ..).trans ?_⟩
      unfold Cn.first cnO Cn.nicked Cn.regd
      rw [hf, u.cf, u.now]; rfl
    · obtain ⟨b', hb⟩ := u.a j h1 (by omega)
      refine ⟨b', ?_⟩
      dsimp only
      rw [updF_ne _ q, updF_ne _ q, updF_ne _ q, updF_ne _ q, hb]
  · have q : j ≠ m := by rcases hm with rfl | rfl | rfl <;> omega
    dsimp only
    rw [updF_ne _ q, updF_ne _ q, updF_ne _ q, updF_ne _ q]
    exact u.z j (by omega)
theorem Up.new : Up (Cs.new c9) 1 := ⟨rfl, rfl, fun j h1 h2 => by omega, fun _ _ => rfl, rfl, rfl, rfl, rfl, rfl⟩
def crlf : List UInt8 := [13, 10]
def upL : List UInt8 := [58, 105, 114, 99, 46, 120, 32, 55, 51, 48, 32, 110, 49, 32, 120, 33, 117, 64, 104]
def dnL : List UInt8 := [58, 105, 114, 99, 46, 120, 32, 55, 51, 49, 32, 110, 49, 32, 120]
def msgs : Nat → List UInt8
  | 0 => []
  | k + 1 => msgs k ++ (if k % 2 = 0 then upL else dnL) ++ crlf
theorem msgs_len (k : Nat) : (msgs k).length ≤ 21 * k := by
  induction k with
  | zero => exact Nat.le_refl _
  | succ k ih =>
    rw [msgs, List.length_append, List.length_append]
    have h1 : crlf.length = 2 := rfl
    have h2 : upL.length = 19 := rfl
    have h3 : dnL.length = 15 := rfl
    split <;> omega
def qk (k : Nat) : Qu := ⟨65536, 0, 0, msgs k, false⟩
def nk (h j : Int) : List UInt8 := if h = j then [120] else nN j
def hB (h : Int) : Bk := ⟨1000, if h = 2 then [(nN 1, 1), (nN 3, 3), ([120], 2)] else if h = 3 then [(nN 1, 1), (nN 2, 2), ([120], 3)] else [(nN 1, 1), (nN 2, 2), (nN 3, 3)]⟩
def m1 : Ws := ((Ws.new 5).add 1 [88]).1
structure On (x : Cs) (k : Nat) (h : Int) : Prop where
  cf : x.cf = c9
  a : ∃ b, x.conns 1 = some (b, cnO 1 (nN 1) (qk k))
  c : ∀ j, j = 2 ∨ j = 3 → ∃ b, x.conns j = some (b, cnO j (nk h j) (.new 65536))
  hold : x.hold = hB h
  hh : h = 0 ∨ h = 2 ∨ h = 3
  mon : x.mon = m1
  watch : x.watch = .new 5
  d : x.dying = []
theorem Up.on {x : Cs} (u : Up x 4) : On { x with mon := (x.mon.add 1 [88]).1 } 0 0 := by
  obtain ⟨b, hb⟩ := u.a 1 (by omega) (by omega)
  exact ⟨u.cf, ⟨b, hb⟩, (fun j hj => by rw [show nk 0 j = nN j from if_neg (by omega)]; exact u.a j (by omega) (by omega)), u.hold, .inl rfl, by dsimp only; rw [u.mon]; rfl, u.watch, u.d⟩
theorem up_line (j : Int) (q : Qu) : Mk.numS ircx 730 (nN 1) [whoS (cnO j [120] q).whole] = upL := by
  have e : whoS (cnO j [120] q).whole = [120, 33, 117, 64, 104] := rfl
  rw [e]; decide +kernel
theorem dn_line : Mk.numS ircx 731 (nN 1) [[120]] = dnL := by decide +kernel
/-- The one who monitors is told a line. -/
theorem told {x : Cs} {k : Nat} {h : Int} (o : On x k h) (hk : k ≤ 1000) {code : Nat} {ps : List (List UInt8)} (hl : Mk.numS ircx code (nN 1) ps = if k % 2 = 0 then upL else dnL) :
    ∃ b, x.conns 1 = some (b, cnO 1 (nN 1) (qk k)) ∧ x.watchers [1] code ps = x.set 1 b (cnO 1 (nN 1) (qk (k + 1))) := by
  obtain ⟨b, hb⟩ := o.a
  have hv : x.live 1 = some (b, cnO 1 (nN 1) (qk k)) := live_of hb rfl
  refine ⟨b, hb, ?_⟩
  have hs : (x.sign 1).nick = nN 1 := by unfold Cs.sign; rw [hv]; rfl
  have hlen := msgs_len k
  have hp : (qk k).push (if k % 2 = 0 then upL else dnL) = (qk (k + 1), true) := by
    unfold Qu.push
    rw [if_neg, if_neg]
    · simp only [qk, msgs]; rfl
    · show ¬ ((65536 : Int) < ((msgs k).length : Int) + _ + 2)
      have h2 : upL.length = 19 := rfl
      have h3 : dnL.length = 15 := rfl
      split <;> omega
    · have : (qk k).over = false := rfl
      rw [this]; split <;> decide +kernel
  show x.watch1 code ps 1 = _
  unfold Cs.watch1
  rw [o.cf, hs]
  show x.tell1 1 (Mk.numS ircx code (nN 1) ps) = _
  rw [hl]
  unfold Cs.tell1
  rw [hv]
  dsimp only
  rw [if_neg (by show ¬ false = true; decide)]
  have hp : (cnO 1 (nN 1) (qk k)).q.push (if k % 2 = 0 then upL else dnL) = (qk (k + 1), true) := hp
  rw [hp]
  rfl
theorem On.tell {x : Cs} {k : Nat} {h : Int} (o : On x k h) {b : Nat} : On (x.set 1 b (cnO 1 (nN 1) (qk (k + 1)))) (k + 1) h :=
  ⟨o.cf, ⟨b, by show updF x.conns 1 (some (b, cnO 1 (nN 1) (qk (k + 1)))) 1 = _; rw [updF_at]⟩, fun j hj => by obtain ⟨b', hb'⟩ := o.c j hj; exact ⟨b', (updF_ne _ (show j ≠ 1 by omega) _).trans hb'⟩, o.hold, o.hh, o.mon, o.watch, o.d⟩
theorem On.claim0 {x : Cs} {k : Nat} {h : Int} (o : On x k h) {j : Int} (hj : j = 2 ∨ j = 3) {b : Nat} {nick : List UInt8} {h' : Int} (hh' : h' = 0 ∨ h' = 2 ∨ h' = 3) (e1 : nk h' j = nick) (e2 : ∀ i, i = 2 ∨ i = 3 → i ≠ j → nk h' i = nk h i)
    (e3 : ((if nk h j = [] then hB h else (hB h).del (nk h j)).put nick j).1 = hB h') : On (x.claim0 j nick (b, cnO j (nk h j) (.new 65536))) k h' := by
  obtain ⟨b1, hb1⟩ := o.a
  refine ⟨o.cf, ⟨b1, (updF_ne _ (show (1 : Int) ≠ j by omega) _).trans hb1⟩, fun i hi => ?_, ?_, hh', o.mon, o.watch, o.d⟩
  · by_cases q : i = j
    · subst q; exact ⟨b, by rw [e1]; exact (show updF _ _ _ _ = _ from updF_at ..)⟩
    · obtain ⟨b', hb'⟩ := o.c i hi
      exact ⟨b', (updF_ne _ q _).trans (by rw [e2 i hi q]; exact hb')⟩
  · rw [← e3, ← o.hold]; rfl
theorem mon_x : m1.rel.byS (foldS [120]) = [1] := by decide +kernel
theorem mon_n {j : Int} (hj : j = 2 ∨ j = 3) : m1.rel.byS (foldS (nN j)) = [] := by rcases hj with rfl | rfl <;> decide +kernel
theorem wat_n (l : List UInt8) : (Ws.new 5).rel.byS l = [] := rfl
def par (k : Nat) (h : Int) : Prop := k % 2 = if h = 0 then 0 else 1
theorem nick_x : nickS [120] = true := by decide +kernel
theorem nick_n {j : Int} (hj : j = 2 ∨ j = 3) : nickS (nN j) = true := by rcases hj with rfl | rfl <;> decide +kernel
theorem On.claimX {x : Cs} {k : Nat} {h : Int} (o : On x k h) (p : par k h) (hk : k ≤ 999) {j : Int} (hj : j = 2 ∨ j = 3) : ∃ k' h', On (x.claim j [120]).1 k' h' ∧ par k' h' ∧ k' ≤ k + 1 := by
  obtain ⟨b, hb⟩ := o.c j hj
  have hl : x.live j = some (b, cnO j (nk h j) (.new 65536)) := live_of hb rfl
  by_cases c1 : h = j
  · subst c1
    have e : nk h h = [120] := if_pos rfl
    refine ⟨k, h, ?_, p, by omega⟩
    rw [claim_new hl nick_x (fun _ => by rw [o.hold]; rcases hj with rfl | rfl <;> decide +kernel) (fun q => q.2 (by show foldS (nk h h) = _; rw [e]))]
    exact o.claim0 hj o.hh e (fun i _ _ => rfl) (by rcases hj with rfl | rfl <;> rfl)
  by_cases c2 : h = 0
  · subst c2
    have e : nk 0 j = nN j := if_neg c1
    have o1 : On (x.claim0 j [120] (b, cnO j (nk 0 j) (.new 65536))) k j := o.claim0 hj (.inr hj) (if_pos rfl) (fun i hi q => by unfold nk; rw [if_neg (fun h => q h.symm), if_neg (by omega)]) (by rcases hj with rfl | rfl <;> rfl)
    rw [claim_chg hl nick_x (fun q => by rw [o.hold] at q; exact absurd q (by decide +kernel)) ⟨rfl, by show foldS (nk 0 j) ≠ _; rw [e]; rcases hj with rfl | rfl <;> decide +kernel⟩]
    obtain ⟨b1, hb1, ht⟩ := told o1 (by omega) (code := 730) (ps := [whoS (cnO j [120] (.new 65536)).whole]) (by rw [up_line, if_pos (show k % 2 = 0 from p)])
    refine ⟨k + 1, j, ?_, by unfold par at p ⊢; rw [if_pos rfl] at p; rw [if_neg (by omega)]; omega, Nat.le_refl _⟩
    have q1 : (x.claim0 j [120] (b, cnO j (nk 0 j) (.new 65536))).offline (cnO j (nk 0 j) (.new 65536)).whole = x.claim0 j [120] (b, cnO j (nk 0 j) (.new 65536)) := offline_quiet (by rw [o1.mon]; show m1.rel.byS (foldS (nk 0 j)) = []; rw [e]; exact mon_n hj) (by rw [o1.watch]; rfl)
    show On (((x.claim0 j [120] (b, cnO j (nk 0 j) (.new 65536))).offline (cnO j (nk 0 j) (.new 65536)).whole).online (cnO j [120] (.new 65536)).whole) _ _
    rw [q1]
    have q2 : (x.claim0 j [120] (b, cnO j (nk 0 j) (.new 65536))).online (cnO j [120] (.new 65536)).whole = (x.claim0 j [120] (b, cnO j (nk 0 j) (.new 65536))).watchers [1] 730 [whoS (cnO j [120] (.new 65536)).whole] := by
      unfold Cs.online
      have w1 : (x.claim0 j [120] (b, cnO j (nk 0 j) (.new 65536))).mon.rel.byS (foldS (cnO j [120] (.new 65536)).whole.nick) = [1] := by rw [o1.mon]; exact mon_x
      have w2 : (x.claim0 j [120] (b, cnO j (nk 0 j) (.new 65536))).watch.rel.byS (foldS (cnO j [120] (.new 65536)).whole.nick) = [] := by rw [o1.watch]; rfl
      rw [w1, w2]; rfl
    rw [q2, ht]
    exact o1.tell
  · refine ⟨k, h, ?_, p, by omega⟩
    have := o.hh
    rw [claim_other hl (by rw [o.hold]; rcases this with rfl | rfl | rfl <;> first | exact absurd rfl c2 | decide +kernel) (by rw [o.hold]; rcases hj with rfl | rfl <;> rcases this with rfl | rfl | rfl <;> first | exact absurd rfl c2 | exact absurd rfl c1 | decide +kernel)]
    exact o
theorem On.claimN {x : Cs} {k : Nat} {h : Int} (o : On x k h) (p : par k h) (hk : k ≤ 999) {j : Int} (hj : j = 2 ∨ j = 3) : ∃ k' h', On (x.claim j (nN j)).1 k' h' ∧ par k' h' ∧ k' ≤ k + 1 := by
  obtain ⟨b, hb⟩ := o.c j hj
  have hl : x.live j = some (b, cnO j (nk h j) (.new 65536)) := live_of hb rfl
  by_cases c1 : h = j
  · subst c1
    have e : nk h h = [120] := if_pos rfl
    have o1 : On (x.claim0 h (nN h) (b, cnO h (nk h h) (.new 65536))) k 0 := o.claim0 hj (.inl rfl) (if_neg (by omega)) (fun i hi q => by unfold nk; rw [if_neg (by omega), if_neg (fun h => q h.symm)]) (by rcases hj with rfl | rfl <;> rfl)
    rw [claim_chg hl (nick_n hj) (fun q => by rw [o.hold] at q; exact absurd q (by rcases hj with rfl | rfl <;> decide +kernel)) ⟨rfl, by show foldS (nk h h) ≠ _; rw [e]; rcases hj with rfl | rfl <;> decide +kernel⟩]
    have hp : k % 2 = 1 := by unfold par at p; rw [if_neg (by omega)] at p; exact p
    obtain ⟨b1, hb1, ht⟩ := told o1 (by omega) (code := 731) (ps := [[120]]) (by rw [dn_line, if_neg (by omega)])
    refine ⟨k + 1, 0, ?_, by unfold par; rw [if_pos rfl]; omega, Nat.le_refl _⟩
    have o2 := o1.tell (b := b1)
    have q1 : (x.claim0 h (nN h) (b, cnO h (nk h h) (.new 65536))).offline (cnO h (nk h h) (.new 65536)).whole = (x.claim0 h (nN h) (b, cnO h (nk h h) (.new 65536))).watchers [1] 731 [[120]] := by
      unfold Cs.offline
      have w0 : (cnO h (nk h h) (.new 65536)).whole.nick = [120] := e
      have w1 : (x.claim0 h (nN h) (b, cnO h (nk h h) (.new 65536))).mon.rel.byS (foldS [120]) = [1] := by rw [o1.mon]; exact mon_x
      have w2 : (x.claim0 h (nN h) (b, cnO h (nk h h) (.new 65536))).watch.rel.byS (foldS [120]) = [] := by rw [o1.watch]; rfl
      rw [w0, w1, w2]; rfl
    show On (((x.claim0 h (nN h) (b, cnO h (nk h h) (.new 65536))).offline (cnO h (nk h h) (.new 65536)).whole).online (cnO h (nN h) (.new 65536)).whole) _ _
    rw [q1, ht, online_quiet (by rw [o2.mon]; exact mon_n hj) (by rw [o2.watch]; rfl)]
    exact o2
  · have e : nk h j = nN j := if_neg c1
    refine ⟨k, h, ?_, p, by omega⟩
    have hh := o.hh
    rw [claim_new hl (nick_n hj) (fun _ => by rw [o.hold]; rcases hj with rfl | rfl <;> rcases hh with rfl | rfl | rfl <;> first | exact absurd rfl c1 | decide +kernel) (fun q => q.2 (by show foldS (nk h j) = _; rw [e]))]
    exact o.claim0 hj o.hh e (fun i _ _ => rfl) (by rcases hj with rfl | rfl <;> rcases hh with rfl | rfl | rfl <;> first | exact absurd rfl c1 | rfl)
end Go.Proofs.YtgcomleicnblhaaGreatDoor

