import Derived.Test.YtgcomleicnblhaaGreatDoorKrD
set_option linter.all false
namespace Go.Proofs.YtgcomleicnblhaaGreatDoor
open Go.Vx Go.Lib
/-! numbers under names -/
abbrev Ent := List UInt8 × Int
abbrev encE (x : Ent) : List Value := [str x.1, .int .i64 x.2]
abbrev entV (x : Ent) : Value := .agg #[str x.1, .int .i64 x.2]
abbrev bkey (x : Ent) : List UInt8 := foldS x.1
instance : UEnc encE 2 := ⟨fun _ => rfl⟩
instance : EncTy 185 Ent encE 2 := ⟨fun _ => rfl⟩
instance {a : List UInt8} {b : Int} : Encs encE [str a, .int .i64 b] [(a, b)] := ⟨rfl⟩
structure Bk where
  most : Int
  l : List Ent
structure Bk.ok (x : Bk) : Prop where
  ris : RisT bkey x.l
  nm : ∀ e ∈ x.l, e.1.length ≤ 1000000
def Bk.has (x : Bk) (n : List UInt8) : Bool := hasT bkey x.l (foldS n)
def Bk.rank (x : Bk) (n : List UInt8) : Nat := rankT bkey x.l (foldS n)
def Bk.get (x : Bk) (n : List UInt8) : Int := if x.has n then (x.l.getD (x.rank n) default).2 else 0
def Bk.put (x : Bk) (n : List UInt8) (v : Int) : Bk × Int := if x.has n then ({ x with l := x.l.set (x.rank n) (n, v) }, 0) else if x.most ≤ x.l.length then (x, 7) else ({ x with l := insT bkey x.l (n, v) }, 0)
def Bk.del (x : Bk) (n : List UInt8) : Bk := { x with l := delT bkey x.l (foldS n) }
theorem Bk.at_lt {x : Bk} (ok : x.ok) {n : List UInt8} (h : x.has n = true) : x.rank n < x.l.length ∧ foldS (x.l.getD (x.rank n) default).1 = foldS n := rankT_at ok.ris h
theorem setT_ris {α : Type} [Inhabited α] {f : α → List UInt8} {l : List α} {i : Nat} {m : α} (h : RisT f l) (hi : i < l.length) (e : f m = f (l.getD i default)) : RisT f (l.set i m) := by
  have h := List.pairwise_iff_getElem.1 h
  refine List.pairwise_iff_getElem.2 ?_
  intro a b ha hb hab
  simp only [List.length_set] at ha hb
  have := h a b ha hb hab
  simp only [List.getElem_set]
  simp only [List.getD_eq_getElem?_getD, hi, List.getElem?_eq_getElem, Option.getD_some] at e
  split <;> split <;> simp_all
theorem Bk.ok.put {x : Bk} (ok : x.ok) {n : List UInt8} (hn : n.length ≤ 1000000) (v : Int) : (x.put n v).1.ok := by
  unfold Bk.put
  split
  · rename_i hh
    have := Bk.at_lt ok hh
    refine ⟨setT_ris ok.ris this.1 (by rw [bkey, bkey, this.2]), fun e he => ?_⟩
    rcases List.mem_or_eq_of_mem_set he with h | h
    · exact ok.nm e h
    · rw [h]; exact hn
  split
  · exact ok
  · rename_i hh _
    refine ⟨ok.ris.ins (by simpa [Bk.has] using hh), fun e he => ?_⟩
    dsimp only at he
    unfold insT at he
    rw [List.mem_append, List.mem_cons] at he
    rcases he with h | h | h
    · exact ok.nm e (List.mem_filter.1 h).1
    · rw [h]; exact hn
    · exact ok.nm e (List.mem_filter.1 h).1
theorem Bk.ok.del {x : Bk} (ok : x.ok) (n : List UInt8) : (x.del n).ok := ⟨ok.ris.del _, fun e he => ok.nm e (List.mem_filter.1 he).1⟩
section
set_option maxRecDepth 20000
set_option synthInstance.maxSize 100000
set_option synthInstance.maxHeartbeats 4000000
def bookA (p : Nat) (x : Bk) (v : Value) : SL := many [lift x.ok, box p 166 [.int .i64 x.most, v], row 185 2 v x.l.length (x.l.flatMap encE)]
def bookR (p : Nat) (x : Bk) : SL := any (bookA p x)
variable {K : Value → St → Prop} {w0 w : World} {H R : List SL} {ds : List Deferred} {p n : Nat} {v : Value} {x : Bk} {y nm : List UInt8} {z : Int}
theorem book_open (h : Hv w0 (bookR p x :: R) w) : ∃ v, x.ok ∧ Hv w0 (box p 166 [.int .i64 x.most, v] :: row 185 2 v x.l.length (x.l.flatMap encE) :: R) w := by
  obtain ⟨v, h1⟩ := h.pick
  have h2 := h1.opens
  exact ⟨v, h2.lifted, h2.tail⟩
theorem subBook {H' R1 R2 G : List SL} {u : Int} {v : Value} {n : Nat} {xs : List Value} [b : BoxIn H' p 166 [.int .i64 u, v] R1] [r : RowIn R1 v 185 2 n xs R2]
    (h1 : x.ok) (e0 : u = x.most) (e1 : n = x.l.length) (e2 : xs = x.l.flatMap encE) (k : Sub R2 G) : Sub H' (bookR p x :: G) := by
  subst e0
  exact Sub.any (A := bookA p x) v (Sub.many (Sub.lift h1 (subBox rfl (subRow e1 e2 k))))
instance bookNew_ok [o : Hv w0 H w] : Step (Cl P 42 #[.int .i64 z] K ⟨w, ds⟩) ((0 ≤ z ∧ z ≤ 100000) ∧ ∀ p w', Hv w0 (bookR p ⟨z, []⟩ :: H) w' → K (.tuple #[.pointer (some ⟨p, 0, none⟩), .int .i64 0]) ⟨w', ds⟩) := ⟨fun ⟨hz, h⟩ => by
  refine s42 ?_
  unfold D42
  repeat' (first | refine go ?_ | intro _ | refine ⟨sb, ?_⟩ | refine ⟨sd, ?_⟩ | (refine ⟨fun h1 => ?_, fun h1 => ?_⟩ <;> first | exact ab h1 | ((try rw [h1]); (try simp only [bl] at h1))) | dsimp only)
  · exfalso; omega
  rename_i q w3 o3
  exact h _ _ (Sub.hv (o := Hv.nilRow 185 2 o3) (subBook (x := ⟨z, []⟩) ⟨List.Pairwise.nil, by simp⟩ rfl rfl rfl subEnd))⟩
instance : BodyOf P 196 := ⟨bodies_ok.2 196 (by kernel_rfl)⟩
instance bat1_ok {a : List UInt8} {b : Int} [o : Hv w0 H w] : Step (Cl P 196 #[.agg #[str a, .int .i64 b], str y] K ⟨w, ds⟩) ((a.length ≤ 1000000000 ∧ y.length ≤ 1000000000) ∧ ∀ w', Hv w0 H w' → K (.int .i64 (cmpS a y)) ⟨w', ds⟩) := ⟨fun ⟨⟨ha, hy⟩, h⟩ => by
  refine s196 ?_
  unfold D196
  repeat' (first | refine go ?_ | intro _ | refine ⟨sb, ?_⟩ | refine ⟨sd, ?_⟩ | (refine ⟨fun h1 => ?_, fun h1 => ?_⟩ <;> first | exact ab h1 | ((try rw [h1]); (try simp only [bl] at h1))) | dsimp only)
  exact h _ (Sub.hv subEnd)⟩
instance bsE_ok {xs : List Value} {l : List Ent} [o : Hv w0 H w] [r : RdsF w0 H v 2 n xs] [e : Encs encE xs l] :
    Step (Cl P 195 #[v, str y, .func (.func 196) #[] #[]] K ⟨w, ds⟩)
      (((n ≤ 1000000000 ∧ y.length ≤ 1000000) ∧ RisT bkey l ∧ ∀ e ∈ l, e.1.length ≤ 1000000) ∧ ∀ w', Hv w0 H w' → K (.tuple #[.int .i64 (rankT bkey l (foldS y) : Nat), .bool (hasT bkey l (foldS y))]) ⟨w', ds⟩) := ⟨fun ⟨⟨⟨hn, hy⟩, hs, hm⟩, h⟩ => by
  have hx := e.eq
  subst hx
  have hl : n = l.length := by
    have := (r.rd w o).len
    rw [flatMap_len (size := 2) fun _ => rfl] at this
    omega
  subst hl
  obtain ⟨tI, tU, u1, u2, hf⟩ := BsgF.run (P := P) (g := 195)
  refine hf _ _ _ _ _ _ (bsgW_ok (tS := 164) (e := 185) (el := fun i => entV (l.getD i default)) (c := fun i => cmpS (l.getD i default).1 y) inferInstance u1 u2 o r ?_ ?_ ?_ hn ?_)
  · intro i a w' hi r' ix; infer_instance
  · intro i w' K' hi o' h'
    have h5 : (l.getD i default).1.length ≤ 1000000000 := Nat.le_trans (hm _ (getD_mem hi)) (by omega)
    have h6 : y.length ≤ 1000000000 := by omega
    repeat' (first | refine go ?_ | intro _ | refine ⟨sb, ?_⟩ | refine ⟨sd, ?_⟩ | (refine ⟨fun h1 => ?_, fun h1 => ?_⟩ <;> first | exact ab h1 | ((try rw [h1]); (try simp only [bl] at h1))) | dsimp only)
    exact h' _ (Sub.hv subEnd)
  · intro i j hij hj hc
    rw [cmpS_lt] at hc ⊢
    rcases Nat.lt_or_ge i j with h1 | h1
    · have := List.pairwise_iff_getElem.1 hs i j (by omega) hj h1
      simp only [List.getD_eq_getElem?_getD, hj, show i < l.length by omega, List.getElem?_eq_getElem, Option.getD_some] at hc ⊢
      exact ltS_tr this hc
    · obtain rfl : i = j := by omega
      exact hc
  · intro i w' hi h1 h2 o'
    obtain rfl := rankT_eq (f := bkey) (y := foldS y) hi (fun k hk => cmpS_lt.1 (h1 k hk)) (fun k h3 h4 => by
      cases hq : ltS (bkey (l.getD k default)) (foldS y) with
      | false => rfl
      | true => exact absurd (cmpS_lt.2 hq) (Int.not_lt.2 (h2 k h3 h4)))
    have e1 := rankT_has hs (foldS y)
    simp only [cmpS_zero]
    rw [e1]
    exact h w' o'⟩
instance bat_ok [o : Hv w0 H w] [i : InK bookR p H x R] : Step (Cl P 121 #[.pointer (some ⟨p, 0, none⟩), str nm] K ⟨w, ds⟩) ((x.l.length ≤ 1000000 ∧ nm.length ≤ 1000000) ∧ ∀ w', Hv w0 (bookR p x :: R) w' → K (.tuple #[.int .i64 (x.rank nm : Nat), .bool (x.has nm)]) ⟨w', ds⟩) := ⟨fun ⟨⟨hl, hn⟩, h⟩ => by
  obtain ⟨v, ok, o1⟩ := book_open (i.hv o)
  clear o
  have hr := ok.ris
  have hm := ok.nm
  refine s121 ?_
  unfold D121
  repeat' (first | refine go ?_ | intro _ | refine ⟨sb, ?_⟩ | refine ⟨sd, ?_⟩ | (refine ⟨fun h1 => ?_, fun h1 => ?_⟩ <;> first | exact ab h1 | ((try rw [h1]); (try simp only [bl] at h1))) | dsimp only)
  exact h _ (Sub.hv (subBook ok rfl rfl rfl subEnd))⟩
instance bget_ok [o : Hv w0 H w] [i : InK bookR p H x R] : Step (Cl P 63 #[.pointer (some ⟨p, 0, none⟩), str nm] K ⟨w, ds⟩) ((x.l.length ≤ 1000000 ∧ nm.length ≤ 1000000) ∧ ∀ w', Hv w0 (bookR p x :: R) w' → K (.tuple #[.int .i64 (x.get nm), .bool (x.has nm)]) ⟨w', ds⟩) := ⟨fun ⟨⟨hl, hn⟩, h⟩ => by
  have o0 := i.hv o
  clear o
  unfold Bk.get at h
  refine s63 ?_
  unfold D63
  repeat' (first | refine go ?_ | intro _ | refine ⟨sb, ?_⟩ | refine ⟨sd, ?_⟩ | (refine ⟨fun h1 => ?_, fun h1 => ?_⟩ <;> first | exact ab h1 | ((try rw [h1]); (try simp only [bl] at h1))) | dsimp only)
  all_goals
    rename_i w1 o1
    obtain ⟨v, ok, o2⟩ := book_open o1
    clear o1 o0
    have hlt := fun q => (Bk.at_lt (n := nm) ok q).1
    first
    | (have hh : x.has nm = true := by simpa using h1
       have hlt := hlt hh
       rw [hh, if_pos rfl] at h
       repeat' (first | refine go ?_ | intro _ | refine ⟨sb, ?_⟩ | refine ⟨sd, ?_⟩ | (refine ⟨fun h1 => ?_, fun h1 => ?_⟩ <;> first | exact ab h1 | ((try rw [h1]); (try simp only [bl] at h1))) | dsimp only)
       exact h _ (Sub.hv (subBook ok rfl rfl rfl subEnd)))
    | (have hh : x.has nm = false := by simpa using h1
       rw [hh, if_neg (by simp)] at h
       repeat' (first | refine go ?_ | intro _ | refine ⟨sb, ?_⟩ | refine ⟨sd, ?_⟩ | (refine ⟨fun h1 => ?_, fun h1 => ?_⟩ <;> first | exact ab h1 | ((try rw [h1]); (try simp only [bl] at h1))) | dsimp only)
       exact h _ (Sub.hv (subBook ok rfl rfl rfl subEnd)))⟩
instance bdel_ok [o : Hv w0 H w] [i : InK bookR p H x R] : Step (Cl P 54 #[.pointer (some ⟨p, 0, none⟩), str nm] K ⟨w, ds⟩) ((x.l.length ≤ 1000000 ∧ nm.length ≤ 1000000) ∧ ∀ w', Hv w0 (bookR p (x.del nm) :: R) w' → K (.bool (x.has nm)) ⟨w', ds⟩) := ⟨fun ⟨⟨hl, hn⟩, h⟩ => by
  have o0 := i.hv o
  clear o
  refine s54 ?_
  unfold D54
  repeat' (first | refine go ?_ | intro _ | refine ⟨sb, ?_⟩ | refine ⟨sd, ?_⟩ | (refine ⟨fun h1 => ?_, fun h1 => ?_⟩ <;> first | exact ab h1 | ((try rw [h1]); (try simp only [bl] at h1))) | dsimp only)
  · rename_i w1 o1
    obtain ⟨v, ok, o2⟩ := book_open o1
    clear o1 o0
    have hlt := (Bk.at_lt ok h1).1
    have hd := rankT_del ok.ris h1
    rw [h1] at h
    repeat' (first | refine go ?_ | intro _ | refine ⟨sb, ?_⟩ | refine ⟨sd, ?_⟩ | (refine ⟨fun h1 => ?_, fun h1 => ?_⟩ <;> first | exact ab h1 | ((try rw [h1]); (try simp only [bl] at h1))) | dsimp only)
    have e : (x.del nm).l = x.l.take (x.rank nm) ++ x.l.drop (x.rank nm + 1) := hd.symm
    exact h _ (Sub.hv (subBook (ok.del nm) rfl (by rw [e]; simp; omega) (by rw [e]) subEnd))
  · rename_i w1 o1
    have e : x.del nm = x := by unfold Bk.del; rw [delT_no h1]
    rw [h1, e] at h
    try rw [h1]
    exact h _ o1⟩
instance bput_ok [o : Hv w0 H w] [i : InK bookR p H x R] : Step (Cl P 55 #[.pointer (some ⟨p, 0, none⟩), str nm, .int .i64 z] K ⟨w, ds⟩) ((x.l.length ≤ 1000000 ∧ nm.length ≤ 1000000) ∧ ∀ w', Hv w0 (bookR p (x.put nm z).1 :: R) w' → K (.int .i64 (x.put nm z).2) ⟨w', ds⟩) := ⟨fun ⟨⟨hl, hn⟩, h⟩ => by
  have o0 := i.hv o
  clear o
  have okp := fun ok : x.ok => ok.put hn z
  unfold Bk.put at h okp
  refine s55 ?_
  unfold D55
  repeat' (first | refine go ?_ | intro _ | refine ⟨sb, ?_⟩ | refine ⟨sd, ?_⟩ | (refine ⟨fun h1 => ?_, fun h1 => ?_⟩ <;> first | exact ab h1 | ((try rw [h1]); (try simp only [bl] at h1))) | dsimp only)
  · rename_i w1 o1
    obtain ⟨v, ok, o2⟩ := book_open o1
    clear o1 o0
    have okp := okp ok
    have hlt := (Bk.at_lt ok h1).1
    rw [h1, if_pos rfl] at h okp
    repeat' (first | refine go ?_ | intro _ | refine ⟨sb, ?_⟩ | refine ⟨sd, ?_⟩ | (refine ⟨fun h1 => ?_, fun h1 => ?_⟩ <;> first | exact ab h1 | ((try rw [h1]); (try simp only [bl] at h1))) | dsimp only)
    exact h _ (Sub.hv (subBook okp rfl (by simp) rfl subEnd))
  · rename_i w1 o1
    obtain ⟨v, ok, o2⟩ := book_open o1
    clear o1 o0
    have okp := okp ok
    rw [h1, if_neg (by simp)] at h okp
    have hin := rankT_ins ok.ris (nm, z)
    have hle := rankT_le bkey x.l (foldS nm)
    repeat' (first | refine go ?_ | intro _ | refine ⟨sb, ?_⟩ | refine ⟨sd, ?_⟩ | (refine ⟨fun h1 => ?_, fun h1 => ?_⟩ <;> first | exact ab h1 | ((try rw [h1]); (try simp only [bl] at h1))) | dsimp only)
    · rw [if_pos (by omega)] at h
      exact h _ (Sub.hv (subBook ok rfl rfl rfl subEnd))
    · rw [if_neg (by omega)] at h okp
      have hle' : x.rank nm ≤ x.l.length := hle
      refine And.intro ⟨by omega, by omega, by omega⟩ ?_
      intro v' w2 o3
      clear o2
      repeat' (first | refine go ?_ | intro _ | refine ⟨sb, ?_⟩ | refine ⟨sd, ?_⟩ | (refine ⟨fun h1 => ?_, fun h1 => ?_⟩ <;> first | exact ab h1 | ((try rw [h1]); (try simp only [bl] at h1))) | dsimp only)
      have e : insT bkey x.l (nm, z) = x.l.take (x.rank nm) ++ [(nm, z)] ++ x.l.drop (x.rank nm) := hin.symm
      exact h _ (Sub.hv (subBook okp rfl (by rw [insT_len]) (by rw [e]) subEnd))⟩
end
end Go.Proofs.YtgcomleicnblhaaGreatDoor

