import Derived.Test.YtgcomleicnblhaaGreatDoorKrB
set_option linter.all false
namespace Go.Proofs.YtgcomleicnblhaaGreatDoor
open Go.Vx Go.Lib
/-! numbers told one by one; pairs -/
section
set_option maxRecDepth 20000
set_option synthInstance.maxSize 100000
set_option synthInstance.maxHeartbeats 4000000
variable {K : Value → St → Prop} {w0 w : World} {H R : List SL} {ds : List Deferred} {p m n : Nat} {a : Int} {b y : List UInt8} {v : Value} {xs : List Value}
instance valI_ok [o : Hv w0 H w] [one : One w v] : Step (Cl P 165 #[v] K ⟨w, ds⟩) (∀ b w', Hv w0 (box b 64 [v] :: H) w' → K (.func (.func 242) #[] #[.pointer (some ⟨b, 0, none⟩)]) ⟨w', ds⟩) := ⟨fun h => by
  refine s165 ?_
  unfold D165
  repeat' (first | refine go ?_ | intro _ | refine ⟨sb, ?_⟩ | refine ⟨sd, ?_⟩ | (refine ⟨fun h1 => ?_, fun h1 => ?_⟩ <;> first | exact ab h1 | ((try rw [h1]); (try simp only [bl] at h1))) | dsimp only)
  exact h _ _ (Sub.hv (subBox rfl subEnd))⟩
theorem valI_seq {Tl : List SL} {ss : List Int} [r : RdsL w0 Tl v 1 ss.length (ss.map intV)] [one : ∀ w, One w v] (b : Nat) :
    SeqOf P w0 (.func (.func 242) #[] #[.pointer (some ⟨b, 0, none⟩)]) (box b 64 [v] :: Tl) (fun l => [intV l]) ss := by
  intro y J X w ds K o hy hk hx
  have yy : Yld P w0 y J X (fun l => [intV l]) ss := ⟨hy⟩
  refine go ?_
  refine s242 ?_
  unfold D242
  have hb := (show Rds w v 1 ss.length (ss.map intV) from inferInstance).le
  simp only [maxLen] at hb
  repeat ((fail_if_success (refine l1_ind (fun _ _ => True) ?_ ?_)); (first | refine go ?_ | intro _ | refine ⟨sb, ?_⟩ | refine ⟨sd, ?_⟩ | dsimp only))
  refine ⟨fun z s => ∃ (i : Nat) (w' : World), z = .int .i64 i ∧ s = ⟨w', []⟩ ∧ i ≤ ss.length ∧ Hv w0 (J i :: box b 64 [v] :: Tl) w',
    fun z s => match z with | .int _ z => ss.length - z.toNat | _ => 0, ⟨0, _, rfl, rfl, Nat.zero_le _, o⟩, ?_⟩
  rintro z s ⟨i, w2, rfl, rfl, hi, o2⟩
  clear o
  rcases Nat.lt_or_ge i ss.length with hlt | hge
  · have e3 : ss[i]? = some (ss.getD i default) := getD_at hlt
    repeat' (first | refine go ?_ | intro _ | refine ⟨sb, ?_⟩ | refine ⟨sd, ?_⟩ | (refine ⟨fun h1 => ?_, fun h1 => ?_⟩ <;> first | exact ab h1 | ((try rw [h1]); (try simp only [bl] at h1))) | dsimp only)
    · refine ⟨_, e3, rfl, fun w' o5 => ?_, fun w' o5 => ?_⟩
      · repeat' (first | refine go ?_ | intro _ | refine ⟨sb, ?_⟩ | refine ⟨sd, ?_⟩ | (refine ⟨fun h1 => ?_, fun h1 => ?_⟩ <;> first | exact ab h1 | ((try rw [h1]); (try simp only [bl] at h1))) | dsimp only)
        exact ⟨⟨i + 1, _, rfl, rfl, hlt, o5⟩, by simp; omega⟩
      · repeat' (first | refine go ?_ | intro _ | refine ⟨sb, ?_⟩ | refine ⟨sd, ?_⟩ | (refine ⟨fun h1 => ?_, fun h1 => ?_⟩ <;> first | exact ab h1 | ((try rw [h1]); (try simp only [bl] at h1))) | dsimp only)
        exact hx _ _ _ _ e3 o5
    · exfalso; omega
  · obtain rfl : i = ss.length := by omega
    repeat' (first | refine go ?_ | intro _ | refine ⟨sb, ?_⟩ | refine ⟨sd, ?_⟩ | (refine ⟨fun h1 => ?_, fun h1 => ?_⟩ <;> first | exact ab h1 | ((try rw [h1]); (try simp only [bl] at h1))) | dsimp only)
    · exfalso; omega
    · exact hk _ _ o2
instance sall_ok {l : List Int} [o : Hv w0 H w] [i : InK setR p H l R] : Step (Cl P 332 #[.pointer (some ⟨p, 0, none⟩)] K ⟨w, ds⟩) (l.length ≤ 100000000 ∧ ∀ b v w', Hv w0 (box b 64 [v] :: row 3 1 v l.length (l.map intV) :: setR p l :: R) w' → K (.func (.func 242) #[] #[.pointer (some ⟨b, 0, none⟩)]) ⟨w', ds⟩) := ⟨fun ⟨hl, h⟩ => by
  obtain ⟨v, hs, o1⟩ := set_open (i.hv o)
  clear o
  refine s332 ?_
  unfold D332
  refine s253 ?_
  unfold D253
  repeat' (first | refine go ?_ | intro _ | refine ⟨sb, ?_⟩ | refine ⟨sd, ?_⟩ | (refine ⟨fun h1 => ?_, fun h1 => ?_⟩ <;> first | exact ab h1 | ((try rw [h1]); (try simp only [bl] at h1))) | dsimp only)
  exact h _ _ _ (Sub.hv (subBox rfl (subRow rfl rfl (subSet hs rfl rfl subEnd))))⟩
instance sallN_ok [o : Hv w0 H w] : Step (Cl P 332 #[.pointer none] K ⟨w, ds⟩) (∀ b w', Hv w0 (box b 64 [.slice none 0 0] :: H) w' → K (.func (.func 242) #[] #[.pointer (some ⟨b, 0, none⟩)]) ⟨w', ds⟩) := ⟨fun h => by
  refine s332 ?_
  unfold D332
  refine s253 ?_
  unfold D253
  repeat' (first | refine go ?_ | intro _ | refine ⟨sb, ?_⟩ | refine ⟨sd, ?_⟩ | (refine ⟨fun h1 => ?_, fun h1 => ?_⟩ <;> first | exact ab h1 | ((try rw [h1]); (try simp only [bl] at h1))) | dsimp only)
  all_goals first
    | exact h _ _ (Sub.hv (subBox rfl subEnd))
    | (exfalso; simp at *; done)⟩
def Rl.new (most : Int) : Rl := ⟨most, 0, fun _ => none, fun _ => none⟩
instance relNew_ok {k : Int} [o : Hv w0 H w] : Step (Cl P 117 #[.int .i64 k] K ⟨w, ds⟩) ((0 ≤ k ∧ k ≤ 100000) ∧ ∀ p w', Hv w0 (relR p (.new k) :: H) w' → K (.tuple #[.pointer (some ⟨p, 0, none⟩), .int .i64 0]) ⟨w', ds⟩) := ⟨fun ⟨hk, h⟩ => by
  refine s117 ?_
  unfold D117
  repeat' (first | refine go ?_ | intro _ | refine ⟨sb, ?_⟩ | refine ⟨sd, ?_⟩ | (refine ⟨fun h1 => ?_, fun h1 => ?_⟩ <;> first | exact ab h1 | ((try rw [h1]); (try simp only [bl] at h1))) | dsimp only)
  · exfalso; omega
  rename_i m1 w1 o1 m2 w2 o2 q w3 o3
  have o4 : Hv w0 (mpn m1 intV (fun _ => none) 0 :: mpn m2 (fun l => str l) (fun _ => none) 0 :: box q 193 [.int .i64 k, .int .i64 0, .map (some m1), .map (some m2)] :: H) w3 := Sub.hv (o := o3) (subMpn rfl rfl (subMpn rfl rfl (subBox rfl subEnd)))
  have o5 : Hv w0 (ofM m1 (fun _ => none, 0) :: mpn m2 (fun l => str l) (fun _ => none) 0 :: box q 193 [.int .i64 k, .int .i64 0, .map (some m1), .map (some m2)] :: H) w3 := Hv.mapNew o4
  have o6 : Hv w0 (byM m2 (fun _ => none, 0) :: ofM m1 (fun _ => none, 0) :: box q 193 [.int .i64 k, .int .i64 0, .map (some m1), .map (some m2)] :: H) w3 := Hv.mapNew (Hv.pm (List.Perm.swap ..) o5)
  exact h _ _ (Sub.hv (o := o6) (subRel rfl rfl rfl rfl subEnd))⟩
instance relHas_ok {x : Rl} [o : Hv w0 H w] [i : InK relR p H x R] : Step (Cl P 129 #[.pointer (some ⟨p, 0, none⟩), .int .i64 a, str b] K ⟨w, ds⟩) (x.fit ∧ ∀ w', Hv w0 (relR p x :: R) w' → K (.bool (x.has a b)) ⟨w', ds⟩) := ⟨fun ⟨hf, h⟩ => by
  obtain ⟨m1, m2, n1, n2, o1⟩ := rel_open (i.hv o)
  clear o
  have f1 := hf.of a
  unfold Rl.has Rl.ofS at *
  have o2 : Hv w0 (mapO m1 intV setT x.of n1 :: byM m2 (x.by_, n2) :: box p 193 [.int .i64 x.most, .int .i64 x.n, .map (some m1), .map (some m2)] :: R) w := Hv.pm rot3 o1
  clear o1
  have fin : ∀ w', Hv w0 (mapO m1 intV setT x.of n1 :: byM m2 (x.by_, n2) :: box p 193 [.int .i64 x.most, .int .i64 x.n, .map (some m1), .map (some m2)] :: R) w' → Hv w0 (relR p x :: R) w' := fun w' o => by
    have o' : Hv w0 (ofM m1 (x.of, n1) :: byM m2 (x.by_, n2) :: box p 193 [.int .i64 x.most, .int .i64 x.n, .map (some m1), .map (some m2)] :: R) w' := o
    exact Sub.hv (o := o') (subRel rfl rfl rfl rfl subEnd)
  cases hx : x.of a with
  | none =>
    rw [hx] at h f1
    obtain ⟨g, M, an, o3, c1, c2⟩ := o2.mapNo hx
    clear o2 c2
    refine s129 ?_
    unfold D129
    repeat' (first | refine go ?_ | intro _ | refine ⟨sb, ?_⟩ | refine ⟨sd, ?_⟩ | (refine ⟨fun h1 => ?_, fun h1 => ?_⟩ <;> first | exact ab h1 | ((try rw [h1]); (try simp only [bl] at h1))) | dsimp only)
    all_goals first
      | exact h _ (fin _ (c1.shut (A := [_, _]) (subMpn rfl rfl (subT (subK rfl (subBox rfl subEnd))))))
      | (exfalso; simp at *; done)
  | some s =>
    rw [hx] at h f1
    have f1' : s.length ≤ 1000000000 := Nat.le_trans f1 (by omega)
    obtain ⟨q, g, M, as', o3, c1, c2, c3⟩ := o2.mapAt hx
    clear o2 c2 c3
    refine s129 ?_
    unfold D129
    repeat' (first | refine go ?_ | intro _ | refine ⟨sb, ?_⟩ | refine ⟨sd, ?_⟩ | (refine ⟨fun h1 => ?_, fun h1 => ?_⟩ <;> first | exact ab h1 | ((try rw [h1]); (try simp only [bl] at h1))) | dsimp only)
    all_goals first
      | exact h _ (fin _ (c1.shut (A := [_, _, _]) (subMpn rfl rfl (subK rfl (subT (subK rfl (subBox rfl subEnd)))))))
      | (exfalso; simp at *; done)⟩
theorem rel_fin1 {x : Rl} {m1 m2 n1 n2 : Nat} {w' : World} (o : Hv w0 (mapO m1 intV setT x.of n1 :: byM m2 (x.by_, n2) :: box p 193 [.int .i64 x.most, .int .i64 x.n, .map (some m1), .map (some m2)] :: R) w') : Hv w0 (relR p x :: R) w' := by
  have o' : Hv w0 (ofM m1 (x.of, n1) :: byM m2 (x.by_, n2) :: box p 193 [.int .i64 x.most, .int .i64 x.n, .map (some m1), .map (some m2)] :: R) w' := o
  exact Sub.hv (o := o') (subRel rfl rfl rfl rfl subEnd)
theorem rel_fin2 {x : Rl} {m1 m2 n1 n2 : Nat} {w' : World} (o : Hv w0 (mapO m2 (fun l => str l) setR x.by_ n2 :: ofM m1 (x.of, n1) :: box p 193 [.int .i64 x.most, .int .i64 x.n, .map (some m1), .map (some m2)] :: R) w') : Hv w0 (relR p x :: R) w' := by
  have o' : Hv w0 (byM m2 (x.by_, n2) :: ofM m1 (x.of, n1) :: box p 193 [.int .i64 x.most, .int .i64 x.n, .map (some m1), .map (some m2)] :: R) w' := o
  exact Sub.hv (o := o') (subRel rfl rfl rfl rfl subEnd)
instance relCountB_ok {u z : Int} {v' : Value} {m1 n1 : Nat} {f1 : Int → Option (List (List UInt8))} {R1 : List SL} [o : Hv w0 H w] [i : BoxIn H p 193 [.int .i64 u, .int .i64 z, .map (some m1), v'] R1] [j : InK ofM m1 R1 (f1, n1) R] :
    Step (Cl P 112 #[.pointer (some ⟨p, 0, none⟩), .int .i64 a] K ⟨w, ds⟩) (∀ w', Hv w0 (box p 193 [.int .i64 u, .int .i64 z, .map (some m1), v'] :: ofM m1 (f1, n1) :: R) w' → K (.int .i64 (((f1 a).getD []).length : Nat)) ⟨w', ds⟩) := ⟨fun h => by
  have o1 := Hv.perm i.perm.1 o
  have o2 : Hv w0 (box p 193 [.int .i64 u, .int .i64 z, .map (some m1), v'] :: ofM m1 (f1, n1) :: R) w := Hv.perm (fun h => sep_cons j.perm h) o1
  have o3 : Hv w0 (mapO m1 intV setT f1 n1 :: box p 193 [.int .i64 u, .int .i64 z, .map (some m1), v'] :: R) w := Hv.pm (List.Perm.swap ..) o2
  clear o o1 o2
  have fin : ∀ {w'}, Hv w0 (mapO m1 intV setT f1 n1 :: box p 193 [.int .i64 u, .int .i64 z, .map (some m1), v'] :: R) w' → Hv w0 (box p 193 [.int .i64 u, .int .i64 z, .map (some m1), v'] :: ofM m1 (f1, n1) :: R) w' := fun o => Hv.pm (List.Perm.swap ..) o
  cases hx : f1 a with
  | none =>
    rw [hx] at h
    obtain ⟨g, M, an, o4, c1, c2⟩ := o3.mapNo hx
    clear o3 c2
    refine s112 ?_
    unfold D112
    repeat' (first | refine go ?_ | intro _ | refine ⟨sb, ?_⟩ | refine ⟨sd, ?_⟩ | (refine ⟨fun h1 => ?_, fun h1 => ?_⟩ <;> first | exact ab h1 | ((try rw [h1]); (try simp only [bl] at h1))) | dsimp only)
    exact h _ (fin (c1.shut (A := [_, _]) (subMpn rfl rfl (subT (subBox rfl subEnd)))))
  | some s =>
    rw [hx] at h
    obtain ⟨q, g, M, as', o4, c1, c2, c3⟩ := o3.mapAt hx
    clear o3 c2 c3
    refine s112 ?_
    unfold D112
    repeat' (first | refine go ?_ | intro _ | refine ⟨sb, ?_⟩ | refine ⟨sd, ?_⟩ | (refine ⟨fun h1 => ?_, fun h1 => ?_⟩ <;> first | exact ab h1 | ((try rw [h1]); (try simp only [bl] at h1))) | dsimp only)
    exact h _ (fin (c1.shut (A := [_, _, _]) (subMpn rfl rfl (subK rfl (subT (subBox rfl subEnd))))))⟩
instance relCount_ok {x : Rl} [o : Hv w0 H w] [i : InK relR p H x R] : Step (Cl P 112 #[.pointer (some ⟨p, 0, none⟩), .int .i64 a] K ⟨w, ds⟩) (∀ w', Hv w0 (relR p x :: R) w' → K (.int .i64 ((x.ofS a).length : Nat)) ⟨w', ds⟩) := ⟨fun h => by
  obtain ⟨m1, m2, n1, n2, o1⟩ := rel_open (i.hv o)
  clear o
  refine go ?_
  intro w' o2
  exact h _ (Sub.hv (subRel rfl rfl rfl rfl subEnd))⟩
instance relBy_ok {x : Rl} [o : Hv w0 H w] [i : InK relR p H x R] : Step (Cl P 276 #[.pointer (some ⟨p, 0, none⟩), str b] K ⟨w, ds⟩) (x.fit ∧ ∀ q v w', Hv w0 (box q 64 [v] :: row 3 1 v (x.byS b).length ((x.byS b).map intV) :: relR p x :: R) w' → K (.func (.func 242) #[] #[.pointer (some ⟨q, 0, none⟩)]) ⟨w', ds⟩) := ⟨fun ⟨hf, h⟩ => by
  obtain ⟨m1, m2, n1, n2, o1⟩ := rel_open (i.hv o)
  clear o
  have f1 := hf.by_ b
  unfold Rl.byS at *
  have o2 : Hv w0 (mapO m2 (fun l => str l) setR x.by_ n2 :: ofM m1 (x.of, n1) :: box p 193 [.int .i64 x.most, .int .i64 x.n, .map (some m1), .map (some m2)] :: R) w := Hv.pm (List.Perm.swap ..) (Hv.pm rot3 o1)
  clear o1
  cases hx : x.by_ b with
  | none =>
    rw [hx] at h f1
    obtain ⟨g, M, an, o3, c1, c2⟩ := o2.mapNo hx
    clear o2 c2
    refine s276 ?_
    unfold D276
    repeat' (first | refine go ?_ | intro _ | refine ⟨sb, ?_⟩ | refine ⟨sd, ?_⟩ | (refine ⟨fun h1 => ?_, fun h1 => ?_⟩ <;> first | exact ab h1 | ((try rw [h1]); (try simp only [bl] at h1))) | dsimp only)
    rename_i q wq oq
    have o4 : Hv w0 (relR p x :: box q 64 [.slice none 0 0] :: R) wq := rel_fin2 (m1 := m1) (n1 := n1) (c1.shut (A := [_, _]) (subMpn rfl rfl (subT (subK rfl (subBox rfl (subBox rfl subEnd))))))
    exact h _ _ _ (Sub.hv (o := Hv.nilRow 3 1 o4) (subBox rfl (subRow rfl rfl (subK rfl subEnd))))
  | some s =>
    rw [hx] at h f1
    have f1' : s.length ≤ 100000000 := f1
    obtain ⟨q, g, M, as', o3, c1, c2, c3⟩ := o2.mapAt hx
    clear o2 c2 c3
    refine s276 ?_
    unfold D276
    repeat' (first | refine go ?_ | intro _ | refine ⟨sb, ?_⟩ | refine ⟨sd, ?_⟩ | (refine ⟨fun h1 => ?_, fun h1 => ?_⟩ <;> first | exact ab h1 | ((try rw [h1]); (try simp only [bl] at h1))) | dsimp only)
    rename_i z v wq oq
    have o4 : Hv w0 (relR p x :: box z 64 [v] :: row 3 1 v s.length (s.map intV) :: R) wq := rel_fin2 (m1 := m1) (n1 := n1) (c1.shut (A := [_, _, _]) (subMpn rfl rfl (subK rfl (subT (subK rfl (subBox rfl (subBox rfl (subRow rfl rfl subEnd))))))))
    exact h _ _ _ (Sub.hv (o := o4) (subBox rfl (subRow rfl rfl (subK rfl subEnd))))⟩
instance relAdd_ok {x : Rl} [o : Hv w0 H w] [i : InK relR p H x R] : Step (Cl P 62 #[.pointer (some ⟨p, 0, none⟩), .int .i64 a, str b] K ⟨w, ds⟩) ((x.fit ∧ ∀ b, (x.byS b).length ≤ 10000000) ∧ ∀ w', Hv w0 (relR p (x.add a b).1 :: R) w' → K (.int .i64 (x.add a b).2) ⟨w', ds⟩) := ⟨fun ⟨⟨hf, hb⟩, h⟩ => by
  have o0 := i.hv o
  clear o
  unfold Rl.add at h
  refine s62 ?_
  unfold D62
  repeat' (first | refine go ?_ | intro _ | refine ⟨sb, ?_⟩ | refine ⟨sd, ?_⟩ | (refine ⟨fun h1 => ?_, fun h1 => ?_⟩ <;> first | exact ab h1 | ((try rw [h1]); (try simp only [bl] at h1))) | dsimp only)
  · rw [if_pos h1] at h
    exact h _ (Sub.hv (subK rfl subEnd))
  rename_i w1 o1
  rw [if_neg (by rw [h1]; simp)] at h
  obtain ⟨m1, m2, n1, n2, o2⟩ := rel_open o1
  have fa := hf.of a
  have fb := hb b
  have fn := hf.n
  unfold Rl.ofS Rl.put Rl.byS at *
  clear o1 o0
  repeat' (first | refine go ?_ | intro _ | refine ⟨sb, ?_⟩ | refine ⟨sd, ?_⟩ | (refine ⟨fun h1 => ?_, fun h1 => ?_⟩ <;> first | exact ab h1 | ((try rw [h1]); (try simp only [bl] at h1))) | dsimp only)
  · rw [if_pos (by omega)] at h
    exact h _ (Sub.hv (subRel rfl rfl rfl rfl subEnd))
  · rw [if_neg (by omega)] at h
    exact h _ (Sub.hv (subRel rfl rfl rfl rfl subEnd))⟩
end
end Go.Proofs.YtgcomleicnblhaaGreatDoor

