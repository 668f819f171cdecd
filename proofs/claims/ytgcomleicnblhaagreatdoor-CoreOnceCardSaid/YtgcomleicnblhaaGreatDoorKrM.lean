import Derived.Test.YtgcomleicnblhaaGreatDoorKrL
import Derived.Test.YtgcomleicnblhaaGreatDoorMkE
set_option linter.all false
namespace Go.Proofs.YtgcomleicnblhaaGreatDoor
open Go.Vx Go.Lib
/-! those who watch a nickname are told -/
structure Cs.fits (x : Cs) : Prop where
  f : x.fine
  n : x.cf.name.length ≤ 10000
  k : ∀ id, (x.sign id).nick.length ≤ 999
theorem tell1_live (x : Cs) (id : Int) (l : List UInt8) (k : Int) : ∃ g : Qu → Qu, (x.tell1 id l).live k = (x.live k).map fun y => (y.1, { y.2 with q := g y.2.q }) := by
  have same : ∃ g : Qu → Qu, x.live k = (x.live k).map fun y => (y.1, { y.2 with q := g y.2.q }) := ⟨fun q => q, by cases x.live k <;> rfl⟩
  unfold Cs.tell1
  cases hl : x.live id with
  | none => exact same
  | some y =>
    dsimp only
    split
    · exact same
    · by_cases hk : k = id
      · subst hk
        refine ⟨fun q => (q.push l).1, ?_⟩
        have hg := (live_at hl).2
        rw [hl]
        unfold Cs.live Cs.set
        dsimp only
        rw [updF_at]
        dsimp only
        rw [if_neg (by rw [hg]; decide)]; rfl
      · obtain ⟨g, e⟩ := same
        refine ⟨g, Eq.trans ?_ e⟩
        unfold Cs.live Cs.set
        dsimp only
        rw [updF_ne _ hk]
theorem tell1_sign (x : Cs) (id : Int) (l : List UInt8) (k : Int) : (x.tell1 id l).sign k = x.sign k := by
  obtain ⟨g, hg⟩ := tell1_live x id l k
  unfold Cs.sign
  rw [hg]
  cases x.live k <;> rfl
theorem tell1_cf (x : Cs) (id : Int) (l : List UInt8) : (x.tell1 id l).cf = x.cf := by
  unfold Cs.tell1
  split
  · rfl
  split <;> rfl
theorem tell1_rest (x : Cs) (id : Int) (l : List UInt8) : (x.tell1 id l).cf = x.cf ∧ (x.tell1 id l).now = x.now ∧ (x.tell1 id l).n = x.n ∧ (x.tell1 id l).hold = x.hold ∧ (x.tell1 id l).rooms = x.rooms ∧ (x.tell1 id l).mon = x.mon ∧ (x.tell1 id l).watch = x.watch ∧ (x.tell1 id l).past = x.past ∧ (x.tell1 id l).pulse = x.pulse := by
  unfold Cs.tell1
  split
  · exact ⟨rfl, rfl, rfl, rfl, rfl, rfl, rfl, rfl, rfl⟩
  split <;> exact ⟨rfl, rfl, rfl, rfl, rfl, rfl, rfl, rfl, rfl⟩
theorem Cs.fits.tell1 {x : Cs} (h : x.fits) (id : Int) (l : List UInt8) : (x.tell1 id l).fits := ⟨h.f.tell1 id l, by rw [tell1_cf]; exact h.n, fun k => by rw [tell1_sign]; exact h.k k⟩
def Cs.watch1 (x : Cs) (code : Nat) (ps : List (List UInt8)) (id : Int) : Cs := x.tell1 id (Mk.numS x.cf.name code (x.sign id).nick ps)
def Cs.watchers (x : Cs) (ids : List Int) (code : Nat) (ps : List (List UInt8)) : Cs := ids.foldl (fun x id => x.watch1 code ps id) x
theorem Cs.fits.watchers {x : Cs} (h : x.fits) (ids : List Int) (code : Nat) (ps : List (List UInt8)) : (x.watchers ids code ps).fits := by
  unfold Cs.watchers
  induction ids generalizing x with
  | nil => exact h
  | cons id ids ih => exact ih (h.tell1 id _)
theorem watchers_rest (x : Cs) (ids : List Int) (code : Nat) (ps : List (List UInt8)) : (x.watchers ids code ps).cf = x.cf ∧ (x.watchers ids code ps).now = x.now ∧ (x.watchers ids code ps).n = x.n ∧ (x.watchers ids code ps).hold = x.hold ∧ (x.watchers ids code ps).rooms = x.rooms ∧ (x.watchers ids code ps).mon = x.mon ∧ (x.watchers ids code ps).watch = x.watch ∧ (x.watchers ids code ps).past = x.past ∧ (x.watchers ids code ps).pulse = x.pulse := by
  unfold Cs.watchers
  induction ids generalizing x with
  | nil => exact ⟨rfl, rfl, rfl, rfl, rfl, rfl, rfl, rfl, rfl⟩
  | cons id ids ih =>
    have h1 := ih (x.watch1 code ps id)
    have h2 := tell1_rest x id (Mk.numS x.cf.name code (x.sign id).nick ps)
    rw [List.foldl_cons]
    exact ⟨h1.1.trans h2.1, h1.2.1.trans h2.2.1, h1.2.2.1.trans h2.2.2.1, h1.2.2.2.1.trans h2.2.2.2.1, h1.2.2.2.2.1.trans h2.2.2.2.2.1, h1.2.2.2.2.2.1.trans h2.2.2.2.2.2.1, h1.2.2.2.2.2.2.1.trans h2.2.2.2.2.2.2.1, h1.2.2.2.2.2.2.2.1.trans h2.2.2.2.2.2.2.2.1, h1.2.2.2.2.2.2.2.2.trans h2.2.2.2.2.2.2.2.2⟩
theorem watchers_dying (x : Cs) (ids : List Int) (code : Nat) (ps : List (List UInt8)) : (x.watchers ids code ps).dying.length ≤ x.dying.length + ids.length := by
  unfold Cs.watchers
  induction ids generalizing x with
  | nil => exact Nat.le_refl _
  | cons id ids ih =>
    have h1 := ih (x.watch1 code ps id)
    have h2 := tell1_dying x id (Mk.numS x.cf.name code (x.sign id).nick ps)
    unfold Cs.watch1 at h1
    simp only [List.foldl_cons, List.length_cons]; unfold Cs.watch1; omega
theorem makeS_len (a b : List UInt8) (ps : List (List UInt8)) : (Mk.makeS a b ps).length ≤ 510 := by
  unfold Mk.makeS
  split
  · simp
  · rw [List.length_take]; omega
theorem numS_len (a : List UInt8) (n : Nat) (b : List UInt8) (ps : List (List UInt8)) : (Mk.numS a n b ps).length ≤ 510 := by
  unfold Mk.numS
  split
  · simp
  · exact makeS_len ..
section
set_option maxRecDepth 20000
set_option synthInstance.maxSize 100000
set_option synthInstance.maxHeartbeats 4000000
variable {K : Value → St → Prop} {w0 w : World} {H R R2 : List SL} {ds : List Deferred} {p n : Nat} {v : Value} {l : List UInt8} {z id : Int} {x : Cs} {y : Nat × Cn} {q : Ptrs} {code : Nat} {nick : List UInt8} {xs : List Value} {ps : List (List UInt8)}
instance {x : Sgn} {w : World} : VT (Vx.Fd P 34 (sgnV x) 3) w (str x.nick) := VT.of (by kernel_rfl)
theorem watchM_ok [r : RowIn R v 9 1 n xs R2] [e : Strs xs ps]
    (o : Hv w0 (coreB p x.cf x.now q :: mapO q.m intV connR x.conns x.n :: bookR q.h x.hold :: roomsR q.r x.rooms :: wishR q.mo x.mon :: wishR q.wa x.watch :: wasR q.pa x.past :: Pl.pulR q.pu x.pulse :: row 3 1 q.vd x.dying.length (x.dying.map intV) :: R) w)
    (hs : ((x.fits ∧ x.mon.rel.fit) ∧ x.dying.length + (x.mon.rel.byS (foldS nick)).length ≤ 1000000) ∧ (nick.length ≤ 1000000 ∧ 1 ≤ code ∧ code ≤ 999) ∧ ps.length ≤ 1000 ∧ ∀ u ∈ ps, u.length ≤ 999)
    (h : ∀ w', Hv w0 (coreR p (x.watchers (x.mon.rel.byS (foldS nick)) code ps) :: R2) w' → K (.tuple #[]) ⟨w', ds⟩) :
    Cl P 125 #[.pointer (some ⟨p, 0, none⟩), ptrV q.mo, str nick, .int .i64 code, v] K ⟨w, ds⟩ := by
  obtain ⟨⟨⟨hf, hr⟩, hd⟩, ⟨hn, hc⟩, hp1, hp2⟩ := hs
  obtain rfl := e.eq
  refine s125 ?_
  unfold D125
  repeat' (first | refine go ?_ | intro _ | refine ⟨sb, ?_⟩ | refine ⟨sd, ?_⟩ | (refine ⟨fun h1 => ?_, fun h1 => ?_⟩ <;> first | exact ab h1 | ((try rw [h1]); (try simp only [bl] at h1))) | dsimp only)
  rename_i b1 w1 o1 b2 w2 o2 b3 w3 o3 bq vq w4 o4
  clear o o1 o2 o3
  have o5 : Hv w0 (coreR p x :: box b1 24 [.pointer (some ⟨p, 0, none⟩)] :: box b2 3 [.int .i64 code] :: box b3 134 [v] :: row 9 1 v n (ps.map str) :: many R2 :: box bq 64 [vq] :: row 3 1 vq (x.mon.rel.byS (foldS nick)).length ((x.mon.rel.byS (foldS nick)).map intV) :: []) w4 :=
    core_shut (Sub.hv (subBox rfl (subT (subTail rfl rfl rfl rfl rfl rfl rfl rfl (subBox rfl (subBox rfl (subBox rfl (subRow rfl rfl (Sub.rest (subBox rfl (subRow rfl rfl subEnd)))))))))))
  clear o4
  have one1 : One w4 vq := inferInstance
  have one2 : ∀ w, One w vq := fun w => ⟨one1.eq⟩
  generalize hL : x.mon.rel.byS (foldS nick) = L at *
  have rl2 : RdsL w0 (row 3 1 vq L.length (L.map intV) :: []) vq 1 L.length (L.map intV) := RdsF.loc inferInstance
  refine rf_go (w0 := w0) (box bq 64 [vq] :: row 3 1 vq L.length (L.map intV) :: []) (fun i => many [coreR p (x.watchers (L.take i) code ps), box b1 24 [.pointer (some ⟨p, 0, none⟩)], box b2 3 [.int .i64 code], box b3 134 [v], row 9 1 v n (ps.map str), many R2])
    (fun _ => lift False) (fun _ _ => lift False) (valI_seq (ss := L) bq) (fun _ => rfl) ?_ ?_ ?_ (fun b i x w' _ h => h.lifted.elim) (fun b j i x w' _ h => h.lifted.elim)
  · exact Sub.hv (Sub.many (subK rfl (subBox rfl (subBox rfl (subBox rfl (subRow rfl rfl (subA (A := many R2) (subBox rfl (subRow rfl rfl subEnd)))))))))
  · intro b l1 rc R1 F w4 i k hi o6 hn2 hr2 hx2
    have o7 := o6.opens
    simp only [List.cons_append, List.nil_append, List.headD_cons, List.tail_cons] at o7 ⊢
    have hlt := (List.getElem?_eq_some_iff.1 hi).1
    have hk : L.getD i default = k := by rw [List.getD_eq_getElem?_getD, hi]; rfl
    clear o5 o6
    have es : x.watchers (L.take (i + 1)) code ps = (x.watchers (L.take i) code ps).tell k [Mk.numS (x.watchers (L.take i) code ps).cf.name code ((x.watchers (L.take i) code ps).sign k).nick ps] := by
      unfold Cs.watchers
      rw [take_snoc hlt, List.foldl_append, hk]; rfl
    have hfx := hf.watchers (L.take i) code ps
    have hdx := watchers_dying x (L.take i) code ps
    have hcf := (watchers_rest x (L.take i) code ps).1
    rw [List.length_take] at hdx
    rw [es] at hn2
    generalize x.watchers (L.take i) code ps = x1 at *
    have g1 := hfx.n
    have g2 := hfx.k k
    have g3 := hfx.f
    have g4 := numS_len x1.cf.name code (x1.sign k).nick ps
    obtain ⟨q1, oq⟩ := core_open o7
    clear o7
    repeat' (first | refine go ?_ | intro _ | refine ⟨sb, ?_⟩ | refine ⟨sd, ?_⟩ | (refine ⟨fun h1 => ?_, fun h1 => ?_⟩ <;> first | exact ab h1 | ((try rw [h1]); (try simp only [bl] at h1))) | dsimp only)
    rename_i w5 o8
    have o9 : Hv w0 (coreR p x1 :: box b1 24 [.pointer (some ⟨p, 0, none⟩)] :: box b2 3 [.int .i64 code] :: box b3 134 [v] :: row 9 1 v n (ps.map str) :: many R2 :: lpB rc l1 :: dfb b :: F) w5 :=
      core_shut (Sub.hv (subBox rfl (subT (subTail rfl rfl rfl rfl rfl rfl rfl rfl (subBox rfl (subBox rfl (subBox rfl (subRow rfl rfl (subA (A := many R2) (subA (A := lpB rc l1) subEnd))))))))))
    clear o8 oq
    refine go ?_
    intro w6 o10
    obtain ⟨q2, o11⟩ := core_open o10
    clear o9 o10
    repeat' (first | refine go ?_ | intro _ | refine ⟨sb, ?_⟩ | refine ⟨sd, ?_⟩ | (refine ⟨fun h1 => ?_, fun h1 => ?_⟩ <;> first | exact ab h1 | ((try rw [h1]); (try simp only [bl] at h1))) | dsimp only)
    rename_i w7 o12 va w8 o13
    have o14 : Hv w0 (coreR p x1 :: row 9 1 va 1 [str (Mk.numS x1.cf.name code (x1.sign k).nick ps)] :: box b1 24 [.pointer (some ⟨p, 0, none⟩)] :: box b2 3 [.int .i64 code] :: box b3 134 [v] :: row 9 1 v n (ps.map str) :: many R2 :: lpB rc l1 :: dfb b :: F) w8 :=
      core_shut (Sub.hv (subBox rfl (subT (subTail rfl rfl rfl rfl rfl rfl rfl rfl (subRow rfl rfl (subBox rfl (subBox rfl (subBox rfl (subRow rfl rfl (subA (A := many R2) (subA (A := lpB rc l1) subEnd)))))))))))
    clear o11 o12 o13
    refine (Tell_ok (ls := [Mk.numS x1.cf.name code (x1.sign k).nick ps])).prf ⟨⟨⟨g3, fun u hu => ?_⟩, ?_⟩, ?_⟩
    · rw [List.mem_singleton.1 hu]; omega
    · omega
    intro w9 o15
    clear o14
    repeat' (first | refine go ?_ | intro _ | refine ⟨sb, ?_⟩ | refine ⟨sd, ?_⟩ | (refine ⟨fun h1 => ?_, fun h1 => ?_⟩ <;> first | exact ab h1 | ((try rw [h1]); (try simp only [bl] at h1))) | dsimp only)
    exact hn2 _ (Sub.hv (Sub.many (subK rfl (subBox rfl (subBox rfl (subBox rfl (subRow rfl rfl (subA (A := many R2) (subA (A := lpR rc l1) subEnd)))))))))
  · intro b w6 o6
    have o7 := o6.opens
    simp only [List.cons_append, List.nil_append, List.take_length] at o7
    clear o5 o6
    repeat' (first | refine go ?_ | intro _ | refine ⟨sb, ?_⟩ | refine ⟨sd, ?_⟩ | (refine ⟨fun h1 => ?_, fun h1 => ?_⟩ <;> first | exact ab h1 | ((try rw [h1]); (try simp only [bl] at h1))) | dsimp only)
    exact h _ (Sub.hv (Sub.unrest (subK rfl (subA (A := many R2) subEnd))))
theorem watchW_ok [r : RowIn R v 9 1 n xs R2] [e : Strs xs ps]
    (o : Hv w0 (coreB p x.cf x.now q :: mapO q.m intV connR x.conns x.n :: bookR q.h x.hold :: roomsR q.r x.rooms :: wishR q.mo x.mon :: wishR q.wa x.watch :: wasR q.pa x.past :: Pl.pulR q.pu x.pulse :: row 3 1 q.vd x.dying.length (x.dying.map intV) :: R) w)
    (hs : ((x.fits ∧ x.watch.rel.fit) ∧ x.dying.length + (x.watch.rel.byS (foldS nick)).length ≤ 1000000) ∧ (nick.length ≤ 1000000 ∧ 1 ≤ code ∧ code ≤ 999) ∧ ps.length ≤ 1000 ∧ ∀ u ∈ ps, u.length ≤ 999)
    (h : ∀ w', Hv w0 (coreR p (x.watchers (x.watch.rel.byS (foldS nick)) code ps) :: R2) w' → K (.tuple #[]) ⟨w', ds⟩) :
    Cl P 125 #[.pointer (some ⟨p, 0, none⟩), ptrV q.wa, str nick, .int .i64 code, v] K ⟨w, ds⟩ := by
  obtain ⟨⟨⟨hf, hr⟩, hd⟩, ⟨hn, hc⟩, hp1, hp2⟩ := hs
  obtain rfl := e.eq
  refine s125 ?_
  unfold D125
  repeat' (first | refine go ?_ | intro _ | refine ⟨sb, ?_⟩ | refine ⟨sd, ?_⟩ | (refine ⟨fun h1 => ?_, fun h1 => ?_⟩ <;> first | exact ab h1 | ((try rw [h1]); (try simp only [bl] at h1))) | dsimp only)
  rename_i b1 w1 o1 b2 w2 o2 b3 w3 o3 bq vq w4 o4
  clear o o1 o2 o3
  have o5 : Hv w0 (coreR p x :: box b1 24 [.pointer (some ⟨p, 0, none⟩)] :: box b2 3 [.int .i64 code] :: box b3 134 [v] :: row 9 1 v n (ps.map str) :: many R2 :: box bq 64 [vq] :: row 3 1 vq (x.watch.rel.byS (foldS nick)).length ((x.watch.rel.byS (foldS nick)).map intV) :: []) w4 :=
    core_shut (Sub.hv (subBox rfl (subT (subTail rfl rfl rfl rfl rfl rfl rfl rfl (subBox rfl (subBox rfl (subBox rfl (subRow rfl rfl (Sub.rest (subBox rfl (subRow rfl rfl subEnd)))))))))))
  clear o4
  have one1 : One w4 vq := inferInstance
  have one2 : ∀ w, One w vq := fun w => ⟨one1.eq⟩
  generalize hL : x.watch.rel.byS (foldS nick) = L at *
  have rl2 : RdsL w0 (row 3 1 vq L.length (L.map intV) :: []) vq 1 L.length (L.map intV) := RdsF.loc inferInstance
  refine rf_go (w0 := w0) (box bq 64 [vq] :: row 3 1 vq L.length (L.map intV) :: []) (fun i => many [coreR p (x.watchers (L.take i) code ps), box b1 24 [.pointer (some ⟨p, 0, none⟩)], box b2 3 [.int .i64 code], box b3 134 [v], row 9 1 v n (ps.map str), many R2])
    (fun _ => lift False) (fun _ _ => lift False) (valI_seq (ss := L) bq) (fun _ => rfl) ?_ ?_ ?_ (fun b i x w' _ h => h.lifted.elim) (fun b j i x w' _ h => h.lifted.elim)
  · exact Sub.hv (Sub.many (subK rfl (subBox rfl (subBox rfl (subBox rfl (subRow rfl rfl (subA (A := many R2) (subBox rfl (subRow rfl rfl subEnd)))))))))
  · intro b l1 rc R1 F w4 i k hi o6 hn2 hr2 hx2
    have o7 := o6.opens
    simp only [List.cons_append, List.nil_append, List.headD_cons, List.tail_cons] at o7 ⊢
    have hlt := (List.getElem?_eq_some_iff.1 hi).1
    have hk : L.getD i default = k := by rw [List.getD_eq_getElem?_getD, hi]; rfl
    clear o5 o6
    have es : x.watchers (L.take (i + 1)) code ps = (x.watchers (L.take i) code ps).tell k [Mk.numS (x.watchers (L.take i) code ps).cf.name code ((x.watchers (L.take i) code ps).sign k).nick ps] := by
      unfold Cs.watchers
      rw [take_snoc hlt, List.foldl_append, hk]; rfl
    have hfx := hf.watchers (L.take i) code ps
    have hdx := watchers_dying x (L.take i) code ps
    have hcf := (watchers_rest x (L.take i) code ps).1
    rw [List.length_take] at hdx
    rw [es] at hn2
    generalize x.watchers (L.take i) code ps = x1 at *
    have g1 := hfx.n
    have g2 := hfx.k k
    have g3 := hfx.f
    have g4 := numS_len x1.cf.name code (x1.sign k).nick ps
    obtain ⟨q1, oq⟩ := core_open o7
    clear o7
    repeat' (first | refine go ?_ | intro _ | refine ⟨sb, ?_⟩ | refine ⟨sd, ?_⟩ | (refine ⟨fun h1 => ?_, fun h1 => ?_⟩ <;> first | exact ab h1 | ((try rw [h1]); (try simp only [bl] at h1))) | dsimp only)
    rename_i w5 o8
    have o9 : Hv w0 (coreR p x1 :: box b1 24 [.pointer (some ⟨p, 0, none⟩)] :: box b2 3 [.int .i64 code] :: box b3 134 [v] :: row 9 1 v n (ps.map str) :: many R2 :: lpB rc l1 :: dfb b :: F) w5 :=
      core_shut (Sub.hv (subBox rfl (subT (subTail rfl rfl rfl rfl rfl rfl rfl rfl (subBox rfl (subBox rfl (subBox rfl (subRow rfl rfl (subA (A := many R2) (subA (A := lpB rc l1) subEnd))))))))))
    clear o8 oq
    refine go ?_
    intro w6 o10
    obtain ⟨q2, o11⟩ := core_open o10
    clear o9 o10
    repeat' (first | refine go ?_ | intro _ | refine ⟨sb, ?_⟩ | refine ⟨sd, ?_⟩ | (refine ⟨fun h1 => ?_, fun h1 => ?_⟩ <;> first | exact ab h1 | ((try rw [h1]); (try simp only [bl] at h1))) | dsimp only)
    rename_i w7 o12 va w8 o13
    have o14 : Hv w0 (coreR p x1 :: row 9 1 va 1 [str (Mk.numS x1.cf.name code (x1.sign k).nick ps)] :: box b1 24 [.pointer (some ⟨p, 0, none⟩)] :: box b2 3 [.int .i64 code] :: box b3 134 [v] :: row 9 1 v n (ps.map str) :: many R2 :: lpB rc l1 :: dfb b :: F) w8 :=
      core_shut (Sub.hv (subBox rfl (subT (subTail rfl rfl rfl rfl rfl rfl rfl rfl (subRow rfl rfl (subBox rfl (subBox rfl (subBox rfl (subRow rfl rfl (subA (A := many R2) (subA (A := lpB rc l1) subEnd)))))))))))
    clear o11 o12 o13
    refine (Tell_ok (ls := [Mk.numS x1.cf.name code (x1.sign k).nick ps])).prf ⟨⟨⟨g3, fun u hu => ?_⟩, ?_⟩, ?_⟩
    · rw [List.mem_singleton.1 hu]; omega
    · omega
    intro w9 o15
    clear o14
    repeat' (first | refine go ?_ | intro _ | refine ⟨sb, ?_⟩ | refine ⟨sd, ?_⟩ | (refine ⟨fun h1 => ?_, fun h1 => ?_⟩ <;> first | exact ab h1 | ((try rw [h1]); (try simp only [bl] at h1))) | dsimp only)
    exact hn2 _ (Sub.hv (Sub.many (subK rfl (subBox rfl (subBox rfl (subBox rfl (subRow rfl rfl (subA (A := many R2) (subA (A := lpR rc l1) subEnd)))))))))
  · intro b w6 o6
    have o7 := o6.opens
    simp only [List.cons_append, List.nil_append, List.take_length] at o7
    clear o5 o6
    repeat' (first | refine go ?_ | intro _ | refine ⟨sb, ?_⟩ | refine ⟨sd, ?_⟩ | (refine ⟨fun h1 => ?_, fun h1 => ?_⟩ <;> first | exact ab h1 | ((try rw [h1]); (try simp only [bl] at h1))) | dsimp only)
    exact h _ (Sub.hv (Sub.unrest (subK rfl (subA (A := many R2) subEnd))))
end
end Go.Proofs.YtgcomleicnblhaaGreatDoor

