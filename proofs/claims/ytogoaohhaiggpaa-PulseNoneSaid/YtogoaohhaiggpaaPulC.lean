import Derived.Test.YtogoaohhaiggpaaPulB
set_option linter.all false
namespace Go.Proofs.Ytogoaohhaiggpaa
open Go.Vx
/-! what is due, of all -/
def dueB (g : Int → Option Int) (now k : Int) : Bool := match g k with | some a => decide (a ≤ now) | none => false
def putAll {β : Type} (g : Int → Option β) (ks : List Int) (v : β) : Int → Option β := fun k => if k ∈ ks then some v else g k
theorem put_snoc {β : Type} (g : Int → Option β) (ks : List Int) (k : Int) (v : β) : updF (putAll g ks v) k (some v) = putAll g (ks ++ [k]) v := by
  funext z
  show (if z = k then some v else if z ∈ ks then some v else g z) = if z ∈ ks ++ [k] then some v else g z
  by_cases h1 : z = k <;> by_cases h2 : z ∈ ks <;> simp [h1, h2]
theorem tput_snoc (g : Int → Option Int) (ks : List Int) (k v : Int) : updF (tmap (putAll g ks v)) k (some (.int .i64 v)) = tmap (putAll g (ks ++ [k]) v) := by
  rw [← put_snoc, ← tmap_upd]; rfl
def whatF (x : Pst) (now : Int) : Int → Option Int := fun k => if dueB x.dead.2 now k then some 3 else if dueB x.ask.2 now k then some 2 else if dueB x.late.2 now k then some 1 else none
def askF (x : Pst) (now : Int) : Int → Option Int := fun k => if dueB x.dead.2 now k && dueB x.ask.2 now k then some now else takeF x.ask.2 now k
def Pst.due (x : Pst) (now : Int) : Pst := { x with ask := (x.ask.1 + x.dead.1, askF x now) }
theorem DueL.key {l : List It} {g : Int → Option Int} {now k : Int} (h : DueL l g now) : k ∈ l.map (·.1) ↔ dueB g now k = true := by
  rw [List.mem_map]; unfold dueB
  constructor
  · rintro ⟨⟨k', a⟩, h1, rfl⟩
    obtain ⟨h2, h3⟩ := (h.mem _ _).1 h1
    simp only [h2, decide_eq_true_eq]; exact h3
  · intro h1
    cases hg : g k with
    | none => rw [hg] at h1; cases h1
    | some a => rw [hg] at h1; exact ⟨(k, a), (h.mem _ _).2 ⟨hg, of_decide_eq_true h1⟩, rfl⟩
section
set_option maxRecDepth 20000
set_option synthInstance.maxSize 100000
set_option synthInstance.maxHeartbeats 4000000
variable {K : Value → St → Prop} {w0 w : World} {H R : List SL} {ds : List Deferred} {p : Nat} {x : Pst} {id now : Int}
def askL (g g2 : Int → Option Int) (ks : List Int) (now : Int) : Int → Option Int := fun k => if k ∈ ks ∧ g2 k = some 2 then some now else g k
theorem ask_two {g g2 : Int → Option Int} {ks : List Int} {k now : Int} (h : g2 k = some 2) : updF (askL g g2 ks now) k (some now) = askL g g2 (ks ++ [k]) now := by
  funext z
  show (if z = k then some now else if z ∈ ks ∧ g2 z = some 2 then some now else g z) = if z ∈ ks ++ [k] ∧ g2 z = some 2 then some now else g z
  by_cases h1 : z = k
  · subst h1; simp [h]
  · simp [h1]
theorem ask_no {g g2 : Int → Option Int} {ks : List Int} {k now : Int} (h : g2 k ≠ some 2) : askL g g2 ks now = askL g g2 (ks ++ [k]) now := by
  funext z
  show (if z ∈ ks ∧ g2 z = some 2 then some now else g z) = if z ∈ ks ++ [k] ∧ g2 z = some 2 then some now else g z
  by_cases h1 : z = k
  · subst h1; simp [h]
  · simp [h1]
theorem subTab2 {t n1 n2 : Nat} {g1 g2 : Int → Option Int} {H' R G : List SL} [i : InK tabR t H' (n1, g1) R] (h1 : n1 ≤ n2) (h2 : g1 = g2) (k : Sub R G) : Sub H' (tabR t (n2, g2) :: G) := ⟨fun h => by
  subst h2
  refine k.cons.sub (sep_cons id ?_)
  obtain ⟨S1, S2, a1, a2, ⟨q, a3⟩, a4⟩ := i.perm h
  refine ⟨S1, S2, a1, a2, ⟨q, ?_⟩, a4⟩
  obtain ⟨T1, T2, b1, b2, ⟨b3, b4, b5⟩, b6⟩ := a3
  exact ⟨T1, T2, b1, b2, ⟨b3, b4, Nat.le_trans b5 h1⟩, b6⟩⟩
theorem subPul2 {H' R1 R2 R3 R4 R5 G : List SL} {m t1 t2 t3 n2 : Nat} {a b c : Int} {g : Int → Option Value} {l2 d2 : Tst} {g2 : Int → Option Int} {x : Pst} [hb : BoxIn H' p 57 [.int .i64 a, .int .i64 b, .int .i64 c, .map (some m), .pointer (some ⟨t1, 0, none⟩), .pointer (some ⟨t2, 0, none⟩), .pointer (some ⟨t3, 0, none⟩)] R1] [hm : MpfIn R1 m intV g R2]
    [h1 : InK tabR t1 R2 l2 R3] [h2 : InK tabR t2 R3 (n2, g2) R4] [h3 : InK tabR t3 R4 d2 R5] (e1 : a = x.ping ∧ b = x.grace ∧ c = x.reg) (e2 : g = tmap x.last) (e3 : l2 = x.late) (e4 : n2 ≤ x.ask.1) (e4' : g2 = x.ask.2) (e5 : d2 = x.dead) (k : Sub R5 G) : Sub H' (pulR p x :: G) := by
  obtain ⟨rfl, rfl, rfl⟩ := e1
  exact Sub.any (A := pulA p x) (m, t1, t2, t3) (Sub.many (subBox rfl (subMpf e2 (subK e3 (subTab2 e4 e4' (subK e5 k))))))
instance pdue_ok [o : Hv w0 H w] [i : InK pulR p H x R] : Step (Cl P 11 #[.pointer (some ⟨p, 0, none⟩), .int .i64 now] K ⟨w, ds⟩)
    ((x.fit ∧ InR now) ∧ ∀ (b1 b2 wm : Nat) (v : Value) (ks : List Int) (w' : World), ks.Pairwise (· < ·) → (∀ k, k ∈ ks ↔ (whatF x now k).isSome = true) →
      Hv w0 (box b1 61 [v] :: row 3 1 v ks.length (ks.map intV) :: box b2 53 [.map (some wm)] :: mpf wm intV (tmap (whatF x now)) :: pulR p (x.due now) :: R) w' → K (.func (.func 30) #[] #[.pointer (some ⟨b1, 0, none⟩), .pointer (some ⟨b2, 0, none⟩)]) ⟨w', ds⟩) := ⟨fun ⟨⟨hf, hn1⟩, h⟩ => by
  obtain ⟨⟨f1, f2, f3⟩, g1, g2, g3, g4, g5, g6⟩ := hf
  obtain ⟨m, t1, t2, t3, o1⟩ := pul_open (i.hv o)
  clear o
  refine s11 ?_
  unfold D11
  repeat' (first | refine go ?_ | intro _ | refine ⟨sb, ?_⟩ | refine ⟨sd, ?_⟩ | (refine ⟨fun h1 => ?_, fun h1 => ?_⟩ <;> first | exact ab h1 | ((try rw [h1]); (try simp only [bl] at h1))) | dsimp only)
  rename_i bp _ _ bn _ _ wm _ _ bw _ _ _ _ _ _ bd v1 l1 w9 hd1 hl1 o9
  clear o1
  have rl1 : RdsL w0 (row 72 2 v1 l1.length (l1.flatMap encIt) :: tabR t1 x.late :: box bp 24 [.pointer (some ⟨p, 0, none⟩)] :: box bn 3 [.int .i64 now] :: box p 57 [.int .i64 x.ping, .int .i64 x.grace, .int .i64 x.reg, .map (some m), .pointer (some ⟨t1, 0, none⟩), .pointer (some ⟨t2, 0, none⟩), .pointer (some ⟨t3, 0, none⟩)] :: mpf m intV (tmap x.last) :: tabR t2 x.ask :: tabR t3 x.dead :: R) v1 2 l1.length (l1.flatMap encIt) := RdsF.loc inferInstance
  refine rf_go (w0 := w0) (box bd 67 [v1] :: row 72 2 v1 l1.length (l1.flatMap encIt) :: tabR t1 x.late :: box bp 24 [.pointer (some ⟨p, 0, none⟩)] :: box bn 3 [.int .i64 now] :: box p 57 [.int .i64 x.ping, .int .i64 x.grace, .int .i64 x.reg, .map (some m), .pointer (some ⟨t1, 0, none⟩), .pointer (some ⟨t2, 0, none⟩), .pointer (some ⟨t3, 0, none⟩)] :: mpf m intV (tmap x.last) :: tabR t2 x.ask :: tabR t3 x.dead :: R)
    (fun i => many [box bw 53 [.map (some wm)], mpf wm intV (tmap (putAll (fun _ => none) ((l1.take i).map (·.1)) 1))]) (fun _ => lift False) (fun _ _ => lift False) (due_seq (l := l1) bd) (fun _ => rfl) ?_ ?_ ?_ (fun b i x w' _ h => h.lifted.elim) (fun b j i x w' _ h => h.lifted.elim)
  · refine Sub.hv <| Sub.many <| subBox rfl <| subMpf ?_ <| subBox rfl <| subRow rfl rfl <| subK rfl <| subBox rfl <| subBox rfl <| subBox rfl <| subMpf rfl <| subK rfl <| subK rfl subEnd
    funext k; simp [tmap, putAll]
  · intro b l rc R1 F w10 i y hi o10 hn hr hx
    have o11 := o10.opens
    have hlt : i < l1.length := (List.getElem?_eq_some_iff.1 hi).1
    have ey : l1.getD i default = y := by rw [List.getD_eq_getElem?_getD, hi]; rfl
    clear o9 o10
    simp only [List.cons_append, List.nil_append, List.headD_cons, List.tail_cons] at o11 ⊢
    repeat' (first | refine go ?_ | intro _ | refine ⟨sb, ?_⟩ | refine ⟨sd, ?_⟩ | (refine ⟨fun h1 => ?_, fun h1 => ?_⟩ <;> first | exact ab h1 | ((try rw [h1]); (try simp only [bl] at h1))) | dsimp only)
    refine hn _ (Sub.hv <| Sub.many <| subBox rfl <| subMpf ?_ <| subA (A := lpR rc l) subEnd)
    rw [take_snoc hlt, ey, List.map_append]; exact tput_snoc _ _ _ _
  intro bf1 w11 o11
  have o12 := o11.opens
  simp only [List.cons_append, List.nil_append, List.take_length] at o12
  clear o9 o11
  repeat' (first | refine go ?_ | intro _ | refine ⟨sb, ?_⟩ | refine ⟨sd, ?_⟩ | (refine ⟨fun h1 => ?_, fun h1 => ?_⟩ <;> first | exact ab h1 | ((try rw [h1]); (try simp only [bl] at h1))) | dsimp only)
  rename_i _ _ v2 l2 w13 hd2 hl2 o13
  clear o12
  have hk1 := fun k => hd1.key (k := k)
  have hk2 := fun k => hd2.key (k := k)
  have hm1 : (l1.map (·.1)).length = l1.length := List.length_map _
  have hm2 : (l2.map (·.1)).length = l2.length := List.length_map _
  generalize l1.map (·.1) = k1 at o13 hk1 hm1
  rw [← hm2] at o13 hl2 ⊢
  generalize l2.map (·.1) = k2 at o13 hk2 hm2 hl2
  refine ⟨fun z s => ∃ (i : Nat) (w' : World), z = .int .i64 i ∧ s = ⟨w', [mk bf1]⟩ ∧ i ≤ k2.length ∧ Hv w0 (box bw 53 [.map (some wm)] :: mpf wm intV (tmap (putAll (putAll (fun _ => none) k1 1) (k2.take i) 2)) :: row 3 1 v2 k2.length (k2.map intV) :: tabR t2 (x.ask.1, takeF x.ask.2 now) :: dfb bf1 :: tabR t1 x.late :: box bp 24 [.pointer (some ⟨p, 0, none⟩)] :: box bn 3 [.int .i64 now] :: box p 57 [.int .i64 x.ping, .int .i64 x.grace, .int .i64 x.reg, .map (some m), .pointer (some ⟨t1, 0, none⟩), .pointer (some ⟨t2, 0, none⟩), .pointer (some ⟨t3, 0, none⟩)] :: mpf m intV (tmap x.last) :: tabR t3 x.dead :: R) w',
    fun z s => match z with | .int _ z => k2.length - z.toNat | _ => 0, ⟨0, w13, rfl, rfl, Nat.zero_le _, ?_⟩, ?_⟩
  · refine Sub.hv <| subBox rfl <| subMpf ?_ <| subRow rfl rfl <| subK rfl <| subA (A := dfb bf1) <| subK rfl <| subBox rfl <| subBox rfl <| subBox rfl <| subMpf rfl <| subK rfl subEnd
    funext k; simp [tmap, putAll]
  rintro z s ⟨i, w14, rfl, rfl, hi, o14⟩
  clear o13
  rcases Nat.lt_or_ge i k2.length with hlt | hge
  · repeat' (first | refine go ?_ | intro _ | refine ⟨sb, ?_⟩ | refine ⟨sd, ?_⟩ | (refine ⟨fun h1 => ?_, fun h1 => ?_⟩ <;> first | exact ab h1 | ((try rw [h1]); (try simp only [bl] at h1))) | dsimp only)
    · refine ⟨⟨i + 1, _, rfl, rfl, hlt, Sub.hv <| subBox rfl <| subMpf ?_ <| subRow rfl rfl <| subK rfl <| subA (A := dfb bf1) <| subK rfl <| subBox rfl <| subBox rfl <| subBox rfl <| subMpf rfl <| subK rfl subEnd⟩, by simp; omega⟩
      rw [take_snoc hlt]; exact tput_snoc _ _ _ _
    · omega
  obtain rfl : i = k2.length := by omega
  rw [List.take_length] at o14
  repeat' (first | refine go ?_ | intro _ | refine ⟨sb, ?_⟩ | refine ⟨sd, ?_⟩ | (refine ⟨fun h1 => ?_, fun h1 => ?_⟩ <;> first | exact ab h1 | ((try rw [h1]); (try simp only [bl] at h1))) | dsimp only)
  · omega
  rename_i bd3 v3 l3 w15 hd3 hl3 o15
  clear o14
  have hk3 := fun k => hd3.key (k := k)
  have hn3 := hd3.len
  generalize hg2 : putAll (putAll (fun _ => none) k1 (1 : Int)) k2 2 = g2 at o15
  have rl3 : RdsL w0 (row 72 2 v3 l3.length (l3.flatMap encIt) :: tabR t3 x.dead :: dfb bf1 :: tabR t1 x.late :: mpf m intV (tmap x.last) :: R) v3 2 l3.length (l3.flatMap encIt) := RdsF.loc inferInstance
  refine rf_go (w0 := w0) (box bd3 67 [v3] :: row 72 2 v3 l3.length (l3.flatMap encIt) :: tabR t3 x.dead :: dfb bf1 :: tabR t1 x.late :: mpf m intV (tmap x.last) :: R)
    (fun i => many [box bw 53 [.map (some wm)], mpf wm intV (tmap (putAll g2 ((l3.take i).map (·.1)) 3)), box bp 24 [.pointer (some ⟨p, 0, none⟩)], box bn 3 [.int .i64 now], box p 57 [.int .i64 x.ping, .int .i64 x.grace, .int .i64 x.reg, .map (some m), .pointer (some ⟨t1, 0, none⟩), .pointer (some ⟨t2, 0, none⟩), .pointer (some ⟨t3, 0, none⟩)], tabR t2 (x.ask.1 + i, askL (takeF x.ask.2 now) g2 ((l3.take i).map (·.1)) now)]) (fun _ => lift False) (fun _ _ => lift False) (due_seq (l := l3) bd3) (fun _ => rfl) ?_ ?_ ?_ (fun b i x w' _ h => h.lifted.elim) (fun b j i x w' _ h => h.lifted.elim)
  · refine Sub.hv <| Sub.many <| subBox rfl <| subMpf ?_ <| subBox rfl <| subBox rfl <| subBox rfl <| subTab2 (Nat.le_refl _) ?_ <| subBox rfl <| subRow rfl rfl <| subK rfl <| subA (A := dfb bf1) <| subK rfl <| subMpf rfl subEnd
    · funext k; simp [tmap, putAll]
    · funext k; simp [askL]
  · intro b l rc R1 F w16 i y hi o16 hn hr hx
    have o17 := o16.opens
    have hlt : i < l3.length := (List.getElem?_eq_some_iff.1 hi).1
    have ey : l3.getD i default = y := by rw [List.getD_eq_getElem?_getD, hi]; rfl
    have hny : y.1 ∉ (l3.take i).map (·.1) := by
      have h5 : l3 = l3.take i ++ y :: l3.drop (i + 1) := drop_two hi
      rw [h5, List.map_append, List.nodup_append] at hn3
      intro hc
      exact hn3.2.2 _ hc _ (List.mem_map.2 ⟨y, List.mem_cons_self .., rfl⟩) rfl
    have e1 : (l3.take (i + 1)).map (·.1) = (l3.take i).map (·.1) ++ [y.1] := by rw [take_snoc hlt, ey, List.map_append]; rfl
    rw [e1] at hn
    generalize (l3.take i).map (·.1) = ks at o17 hn hny
    have e2 : orZ (tmap (putAll g2 ks 3) y.1) (.int .i64 0) = .int .i64 ((g2 y.1).getD 0) := by
      rw [orZ_int]; simp [putAll, hny]
    clear o15 o16
    simp only [List.cons_append, List.nil_append, List.headD_cons, List.tail_cons] at o17 ⊢
    repeat' (first | refine go ?_ | intro _ | refine ⟨sb, ?_⟩ | refine ⟨sd, ?_⟩ | (refine ⟨fun h1 => ?_, fun h1 => ?_⟩ <;> first | exact ab h1 | ((try rw [h1]); (try simp only [bl] at h1))) | dsimp only)
    rw [e2]
    repeat' (first | refine go ?_ | intro _ | refine ⟨sb, ?_⟩ | refine ⟨sd, ?_⟩ | (refine ⟨fun h1 => ?_, fun h1 => ?_⟩ <;> first | exact ab h1 | ((try rw [h1]); (try simp only [bl] at h1))) | dsimp only)
    · have e3 : g2 y.1 = some 2 := by
        cases hg : g2 y.1 with
        | none => rw [hg] at h1; cases h1
        | some a => rw [hg] at h1; simp at h1; rw [h1]
      refine hn _ (Sub.hv <| Sub.many <| subBox rfl <| subMpf (tput_snoc _ _ _ _) <| subBox rfl <| subBox rfl <| subBox rfl <| subTab2 (by omega) (ask_two e3) <| subA (A := lpR rc l) subEnd)
    · have e3 : g2 y.1 ≠ some 2 := fun e => by rw [e] at h1; exact h1 rfl
      refine hn _ (Sub.hv <| Sub.many <| subBox rfl <| subMpf (tput_snoc _ _ _ _) <| subBox rfl <| subBox rfl <| subBox rfl <| subTab2 (by omega) (ask_no e3) <| subA (A := lpR rc l) subEnd)
  intro bf3 w17 o17
  have o18 := o17.opens
  simp only [List.cons_append, List.nil_append, List.take_length] at o18
  have hm3 : (l3.map (·.1)).length = l3.length := List.length_map _
  generalize l3.map (·.1) = k3 at o18 hk3 hm3
  have ew : putAll g2 k3 3 = whatF x now := by
    funext k
    rw [← hg2]
    show (if k ∈ k3 then some 3 else if k ∈ k2 then some 2 else if k ∈ k1 then some 1 else none) = _
    simp only [hk1, hk2, hk3]; rfl
  have ea : askL (takeF x.ask.2 now) g2 k3 now = askF x now := by
    funext k
    rw [← hg2]
    show (if k ∈ k3 ∧ (if k ∈ k2 then some 2 else if k ∈ k1 then some 1 else none) = some 2 then some now else takeF x.ask.2 now k) = _
    have b1 := hk3 k
    have b2 := hk2 k
    unfold askF
    have c1 : dueB x.dead.2 now k = decide (k ∈ k3) := by rw [Bool.eq_iff_iff, ← b1]; simp
    have c2 : dueB x.ask.2 now k = decide (k ∈ k2) := by rw [Bool.eq_iff_iff, ← b2]; simp
    rw [c1, c2]
    by_cases a1 : k ∈ k3 <;> by_cases a2 : k ∈ k2 <;> by_cases a3 : k ∈ k1 <;> simp [a1, a2, a3]
  rw [ew, ea] at o18
  clear o15 o17
  repeat' (first | refine go ?_ | intro _ | refine ⟨sb, ?_⟩ | refine ⟨sd, ?_⟩ | (refine ⟨fun h1 => ?_, fun h1 => ?_⟩ <;> first | exact ab h1 | ((try rw [h1]); (try simp only [bl] at h1))) | dsimp only)
  refine ⟨⟨(k1 ++ k2 ++ k3).length, fun ks hn hs => hn.length_le_of_subset fun k hk => ?_, by simp; omega⟩, ?_⟩
  · have h2 := hs k hk
    rw [isSome_map] at h2
    rw [List.mem_append, List.mem_append, hk1, hk2, hk3]
    unfold whatF at h2
    cases a1 : dueB x.dead.2 now k <;> cases a2 : dueB x.ask.2 now k <;> cases a3 : dueB x.late.2 now k <;> simp_all
  intro v ks w19 hp hm o19
  clear o18
  repeat' (first | refine go ?_ | intro _ | refine ⟨sb, ?_⟩ | refine ⟨sd, ?_⟩ | (refine ⟨fun h1 => ?_, fun h1 => ?_⟩ <;> first | exact ab h1 | ((try rw [h1]); (try simp only [bl] at h1))) | dsimp only)
  exact h _ _ wm _ ks _ hp (fun k => by rw [hm, isSome_map]) (Sub.hv <| subBox rfl <| subRow rfl rfl <| subBox rfl <| subMpf rfl <| subPul2 (x := x.due now) ⟨rfl, rfl, rfl⟩ rfl rfl (show x.ask.1 + l3.length ≤ x.ask.1 + x.dead.1 by omega) rfl rfl subEnd)⟩
end
end Go.Proofs.Ytogoaohhaiggpaa

