import Derived.Test.YtgcomleicnblhaaGreatDoorKrM
import Derived.Lib.ItoaLen
set_option linter.all false
namespace Go.Proofs.YtgcomleicnblhaaGreatDoor
open Go.Vx Go.Lib
/-! a nickname is held, or isn't any more -/
def whoS (u : Per) : List UInt8 := u.nick ++ [33] ++ u.user ++ [64] ++ u.host
structure Per.fits (u : Per) : Prop where
  a : u.nick.length ≤ 300
  b : u.user.length ≤ 300
  c : u.host.length ≤ 300
  d : InR u.sig
structure Cs.calm (x : Cs) : Prop where
  f : x.fits
  m : x.mon.rel.fit
  w : x.watch.rel.fit
  mb : ∀ l, (x.mon.rel.byS l).length ≤ 1000
  wb : ∀ l, (x.watch.rel.byS l).length ≤ 1000
  now : InR x.now
theorem Cs.calm.watchers {x : Cs} (h : x.calm) (ids : List Int) (code : Nat) (ps : List (List UInt8)) : (x.watchers ids code ps).calm := by
  obtain ⟨h1, h2, h3, h4, h5, h6, h7, h8, h9⟩ := watchers_rest x ids code ps
  exact ⟨h.f.watchers ids code ps, h6 ▸ h.m, h7 ▸ h.w, h6 ▸ h.mb, h7 ▸ h.wb, h2 ▸ h.now⟩
def onW : List UInt8 := [108, 111, 103, 103, 101, 100, 32, 111, 110, 108, 105, 110, 101]
def offW : List UInt8 := [108, 111, 103, 103, 101, 100, 32, 111, 102, 102, 108, 105, 110, 101]
def Cs.online (x : Cs) (u : Per) : Cs := (x.watchers (x.mon.rel.byS (foldS u.nick)) 730 [whoS u]).watchers (x.watch.rel.byS (foldS u.nick)) 600 [u.nick, u.user, u.host, itoa u.sig, onW]
def Cs.offline (x : Cs) (u : Per) : Cs := (x.watchers (x.mon.rel.byS (foldS u.nick)) 731 [u.nick]).watchers (x.watch.rel.byS (foldS u.nick)) 601 [u.nick, u.user, u.host, itoa x.now, offW]
theorem Cs.calm.online {x : Cs} (h : x.calm) (u : Per) : (x.online u).calm := (h.watchers _ _ _).watchers _ _ _
theorem Cs.calm.offline {x : Cs} (h : x.calm) (u : Per) : (x.offline u).calm := (h.watchers _ _ _).watchers _ _ _
theorem Cs.calm.onD {x : Cs} (h : x.calm) (u : Per) : (x.online u).dying.length ≤ x.dying.length + 2000 := by
  have h1 := watchers_dying x (x.mon.rel.byS (foldS u.nick)) 730 [whoS u]
  have h2 := watchers_dying (x.watchers (x.mon.rel.byS (foldS u.nick)) 730 [whoS u]) (x.watch.rel.byS (foldS u.nick)) 600 [u.nick, u.user, u.host, itoa u.sig, onW]
  have h3 := h.mb (foldS u.nick)
  have h4 := h.wb (foldS u.nick)
  unfold Cs.online; omega
theorem Cs.calm.offD {x : Cs} (h : x.calm) (u : Per) : (x.offline u).dying.length ≤ x.dying.length + 2000 := by
  have h1 := watchers_dying x (x.mon.rel.byS (foldS u.nick)) 731 [u.nick]
  have h2 := watchers_dying (x.watchers (x.mon.rel.byS (foldS u.nick)) 731 [u.nick]) (x.watch.rel.byS (foldS u.nick)) 601 [u.nick, u.user, u.host, itoa x.now, offW]
  have h3 := h.mb (foldS u.nick)
  have h4 := h.wb (foldS u.nick)
  unfold Cs.offline; omega
theorem itoa_len (n : Int) (h : InR n) : (itoa n).length ≤ 100 := by
  have := itoa_length_le n h.1 h.2
  omega
section
set_option maxRecDepth 20000
set_option synthInstance.maxSize 100000
set_option synthInstance.maxHeartbeats 4000000
variable {K : Value → St → Prop} {w0 w : World} {H R R2 : List SL} {ds : List Deferred} {p n : Nat} {v : Value} {l : List UInt8} {z id : Int} {x : Cs} {y : Nat × Cn} {q : Ptrs} {code : Nat} {nick : List UInt8} {xs : List Value} {ps : List (List UInt8)} {u : Per}
instance pwho_ok [o : Hv w0 H w] : Step (Cl P 108 #[perV u] K ⟨w, ds⟩) ((u.nick.length ≤ 100000 ∧ u.user.length ≤ 100000 ∧ u.host.length ≤ 100000) ∧ ∀ w', Hv w0 H w' → K (str (whoS u)) ⟨w', ds⟩) := ⟨fun ⟨⟨h1, h2, h3⟩, h⟩ => by
  refine s108 ?_
  unfold D108
  repeat' (first | refine go ?_ | intro _ | refine ⟨sb, ?_⟩ | refine ⟨sd, ?_⟩ | (refine ⟨fun h1 => ?_, fun h1 => ?_⟩ <;> first | exact ab h1 | ((try rw [h1]); (try simp only [bl] at h1))) | dsimp only)
  exact h _ (Sub.hv subEnd)⟩
instance online_ok [o : Hv w0 H w] [i : InK coreR p H x R] [tb : PowT w0] : Step (Cl P 58 #[.pointer (some ⟨p, 0, none⟩), perV u] K ⟨w, ds⟩)
    ((x.calm ∧ u.fits ∧ x.dying.length ≤ 900000) ∧ ∀ w', Hv w0 (coreR p (x.online u) :: R) w' → K (.tuple #[]) ⟨w', ds⟩) := ⟨fun ⟨⟨hc, hu, hd⟩, h⟩ => by
  have o0 := i.hv o
  obtain ⟨q, o1⟩ := core_open o0
  clear o o0
  have u1 := hu.a
  have u2 := hu.b
  have u3 := hu.c
  have u4 := hu.d
  refine s58 ?_
  unfold D58
  repeat' (first | refine go ?_ | intro _ | refine ⟨sb, ?_⟩ | refine ⟨sd, ?_⟩ | (refine ⟨fun h1 => ?_, fun h1 => ?_⟩ <;> first | exact ab h1 | ((try rw [h1]); (try simp only [bl] at h1))) | dsimp only)
  rename_i b1 w1 o2 wx ox wy oy va w2 o3
  clear o1 o2 ox oy
  have lw : (whoS u).length ≤ 902 := by unfold whoS; simp; omega
  refine watchM_ok (x := x) (q := q) (R := row 9 1 va 1 [str (whoS u)] :: box b1 58 (encP u) :: R) (ps := [whoS u]) (code := 730) (Sub.hv (subBox rfl (subT (subTail rfl rfl rfl rfl rfl rfl rfl rfl (subRow rfl rfl (subBox rfl subEnd)))))) ⟨⟨⟨hc.f, hc.m⟩, ?_⟩, ⟨by omega, by decide, by decide⟩, by simp, fun t ht => ?_⟩ ?_
  · have := hc.mb (foldS u.nick); omega
  · rw [List.mem_singleton.1 ht]; omega
  intro w3 o4
  clear o3
  have hc1 := hc.watchers (x.mon.rel.byS (foldS u.nick)) 730 [whoS u]
  have hd1 := watchers_dying x (x.mon.rel.byS (foldS u.nick)) 730 [whoS u]
  have hm1 := hc.mb (foldS u.nick)
  have ew := (watchers_rest x (x.mon.rel.byS (foldS u.nick)) 730 [whoS u]).2.2.2.2.2.2.1
  unfold Cs.online at h
  generalize x.watchers (x.mon.rel.byS (foldS u.nick)) 730 [whoS u] = x1 at *
  rw [← ew] at h
  obtain ⟨q1, o5⟩ := core_open o4
  clear o4
  repeat' (first | refine go ?_ | intro _ | refine ⟨sb, ?_⟩ | refine ⟨sd, ?_⟩ | (refine ⟨fun h1 => ?_, fun h1 => ?_⟩ <;> first | exact ab h1 | ((try rw [h1]); (try simp only [bl] at h1))) | dsimp only)
  rename_i w4 o6 vb w5 o7
  clear o5 o6
  have li := itoa_len u.sig u4
  refine watchW_ok (x := x1) (q := q1) (R := row 9 1 vb 5 [str u.nick, str u.user, str u.host, str (itoa u.sig), str onW] :: box b1 58 (encP u) :: R) (ps := [u.nick, u.user, u.host, itoa u.sig, onW]) (code := 600) (Sub.hv (subBox rfl (subT (subTail rfl rfl rfl rfl rfl rfl rfl rfl (subRow rfl rfl (subBox rfl subEnd)))))) ⟨⟨⟨hc1.f, hc1.w⟩, ?_⟩, ⟨by omega, by decide, by decide⟩, by simp, fun t ht => ?_⟩ ?_
  · have := hc1.wb (foldS u.nick); omega
  · simp only [List.mem_cons, List.not_mem_nil, or_false] at ht
    rcases ht with rfl | rfl | rfl | rfl | rfl
    all_goals first | omega | decide
  intro w6 o8
  clear o7
  repeat' (first | refine go ?_ | intro _ | refine ⟨sb, ?_⟩ | refine ⟨sd, ?_⟩ | (refine ⟨fun h1 => ?_, fun h1 => ?_⟩ <;> first | exact ab h1 | ((try rw [h1]); (try simp only [bl] at h1))) | dsimp only)
  exact h _ (Sub.hv (subK rfl subEnd))⟩
instance offline_ok [o : Hv w0 H w] [i : InK coreR p H x R] [tb : PowT w0] : Step (Cl P 57 #[.pointer (some ⟨p, 0, none⟩), perV u] K ⟨w, ds⟩)
    ((x.calm ∧ u.fits ∧ x.dying.length ≤ 900000) ∧ ∀ w', Hv w0 (coreR p (x.offline u) :: R) w' → K (.tuple #[]) ⟨w', ds⟩) := ⟨fun ⟨⟨hc, hu, hd⟩, h⟩ => by
  have o0 := i.hv o
  obtain ⟨q, o1⟩ := core_open o0
  clear o o0
  have u1 := hu.a
  have u2 := hu.b
  have u3 := hu.c
  have u4 := hu.d
  refine s57 ?_
  unfold D57
  repeat' (first | refine go ?_ | intro _ | refine ⟨sb, ?_⟩ | refine ⟨sd, ?_⟩ | (refine ⟨fun h1 => ?_, fun h1 => ?_⟩ <;> first | exact ab h1 | ((try rw [h1]); (try simp only [bl] at h1))) | dsimp only)
  rename_i b1 w1 o2 wx ox va w2 o3
  clear o1 o2 ox
  refine watchM_ok (x := x) (q := q) (R := row 9 1 va 1 [str (u.nick)] :: box b1 58 (encP u) :: R) (ps := [u.nick]) (code := 731) (Sub.hv (subBox rfl (subT (subTail rfl rfl rfl rfl rfl rfl rfl rfl (subRow rfl rfl (subBox rfl subEnd)))))) ⟨⟨⟨hc.f, hc.m⟩, ?_⟩, ⟨by omega, by decide, by decide⟩, by simp, fun t ht => ?_⟩ ?_
  · have := hc.mb (foldS u.nick); omega
  · rw [List.mem_singleton.1 ht]; omega
  intro w3 o4
  clear o3
  have hc1 := hc.watchers (x.mon.rel.byS (foldS u.nick)) 731 [u.nick]
  have hd1 := watchers_dying x (x.mon.rel.byS (foldS u.nick)) 731 [u.nick]
  have hm1 := hc.mb (foldS u.nick)
  have ew := (watchers_rest x (x.mon.rel.byS (foldS u.nick)) 731 [u.nick]).2.2.2.2.2.2.1
  unfold Cs.offline at h
  have en := (watchers_rest x (x.mon.rel.byS (foldS u.nick)) 731 [u.nick]).2.1
  have hnow := hc1.now
  generalize x.watchers (x.mon.rel.byS (foldS u.nick)) 731 [u.nick] = x1 at *
  rw [← ew, ← en] at h
  obtain ⟨q1, o5⟩ := core_open o4
  clear o4
  repeat' (first | refine go ?_ | intro _ | refine ⟨sb, ?_⟩ | refine ⟨sd, ?_⟩ | (refine ⟨fun h1 => ?_, fun h1 => ?_⟩ <;> first | exact ab h1 | ((try rw [h1]); (try simp only [bl] at h1))) | dsimp only)
  rename_i w4 o6 vb w5 o7
  clear o5 o6
  have li := itoa_len x1.now hc1.now
  refine watchW_ok (x := x1) (q := q1) (R := row 9 1 vb 5 [str u.nick, str u.user, str u.host, str (itoa x1.now), str offW] :: box b1 58 (encP u) :: R) (ps := [u.nick, u.user, u.host, itoa x1.now, offW]) (code := 601) (Sub.hv (subBox rfl (subT (subTail rfl rfl rfl rfl rfl rfl rfl rfl (subRow rfl rfl (subBox rfl subEnd)))))) ⟨⟨⟨hc1.f, hc1.w⟩, ?_⟩, ⟨by omega, by decide, by decide⟩, by simp, fun t ht => ?_⟩ ?_
  · have := hc1.wb (foldS u.nick); omega
  · simp only [List.mem_cons, List.not_mem_nil, or_false] at ht
    rcases ht with rfl | rfl | rfl | rfl | rfl
    all_goals first | omega | decide
  intro w6 o8
  clear o7
  repeat' (first | refine go ?_ | intro _ | refine ⟨sb, ?_⟩ | refine ⟨sd, ?_⟩ | (refine ⟨fun h1 => ?_, fun h1 => ?_⟩ <;> first | exact ab h1 | ((try rw [h1]); (try simp only [bl] at h1))) | dsimp only)
  exact h _ (Sub.hv (subK rfl subEnd))⟩
end
end Go.Proofs.YtgcomleicnblhaaGreatDoor

