import Derived.Test.YtgcomleicnblhaaGreatDoorRmB
set_option linter.all false
namespace Go.Proofs.YtgcomleicnblhaaGreatDoor
open Go.Vx Go.Lib
/-! a room, in memory -/
abbrev Mem := Int × Bool × Bool
abbrev encM (x : Mem) : List Value := [.int .i64 x.1, .bool x.2.1, .bool x.2.2]
abbrev memV (x : Mem) : Value := .agg #[.int .i64 x.1, .bool x.2.1, .bool x.2.2]
abbrev mid (x : Mem) : Int := x.1
instance rmc1 : UEnc encM 3 := ⟨fun _ => rfl⟩
instance rmc2 : EncTy 242 Mem encM 3 := ⟨fun _ => rfl⟩
instance rmc3 {a : Int} {b c : Bool} : Encs encM [.int .i64 a, .bool b, .bool c] [(a, b, c)] := ⟨rfl⟩
structure Rm where
  (name topic key : List UInt8)
  (mb flags limit : Int)
  mem : List Mem
  bans : List (List UInt8)
  inv : List Int
structure Rm.ok (x : Rm) : Prop where
  ris : Ris mid x.mem
  flg : 0 ≤ x.flags ∧ x.flags < 32
  lim : 0 ≤ x.limit ∧ x.limit ≤ 9999
  key : x.key.length ≤ 23
  ban : ∀ b ∈ x.bans, b.length ≤ 100
  sz : x.topic.length ≤ 200
structure Rm.fit (x : Rm) : Prop where
  a : x.mem.length ≤ 1000000
  b : x.bans.length ≤ 1000000
  c : x.inv.length ≤ 1000000
section
set_option maxRecDepth 20000
set_option synthInstance.maxSize 100000
set_option synthInstance.maxHeartbeats 4000000
def roomA (p : Nat) (x : Rm) (q : Value × Value × Nat) : SL := many [lift x.ok, box p 313 [str x.name, .int .i64 x.mb, q.1, str x.topic, .int .i64 x.flags, str x.key, .int .i64 x.limit, q.2.1, .pointer (some ⟨q.2.2, 0, none⟩)],
  row 242 3 q.1 x.mem.length (x.mem.flatMap encM), row 9 1 q.2.1 x.bans.length (x.bans.map str), setR q.2.2 x.inv]
def roomR (p : Nat) (x : Rm) : SL := any (roomA p x)
variable {K : Value → St → Prop} {w0 w : World} {H R : List SL} {ds : List Deferred} {p : Nat} {x : Rm} {id now : Int}
theorem room_open (h : Hv w0 (roomR p x :: R) w) : ∃ vm vb s, x.ok ∧ Hv w0 (box p 313 [str x.name, .int .i64 x.mb, vm, str x.topic, .int .i64 x.flags, str x.key, .int .i64 x.limit, vb, .pointer (some ⟨s, 0, none⟩)] ::
    row 242 3 vm x.mem.length (x.mem.flatMap encM) :: row 9 1 vb x.bans.length (x.bans.map str) :: setR s x.inv :: R) w := by
  obtain ⟨⟨vm, vb, s⟩, h1⟩ := h.pick
  have h2 := h1.opens
  exact ⟨vm, vb, s, h2.lifted, h2.tail⟩
theorem subRoom {H' R1 R2 R3 R4 G : List SL} {n t k : List UInt8} {a b c : Int} {vm vb : Value} {s n1 n2 : Nat} {xs ys : List Value} {l : List Int} [hb : BoxIn H' p 313 [str n, .int .i64 a, vm, str t, .int .i64 b, str k, .int .i64 c, vb, .pointer (some ⟨s, 0, none⟩)] R1]
    [h1 : RowIn R1 vm 242 3 n1 xs R2] [h2 : RowIn R2 vb 9 1 n2 ys R3] [h3 : InK setR s R3 l R4] (ok : x.ok) (e0 : n = x.name ∧ t = x.topic ∧ k = x.key ∧ a = x.mb ∧ b = x.flags ∧ c = x.limit)
    (e1 : n1 = x.mem.length) (e2 : xs = x.mem.flatMap encM) (e3 : n2 = x.bans.length) (e4 : ys = x.bans.map str) (e5 : l = x.inv) (g : Sub R4 G) : Sub H' (roomR p x :: G) := by
  obtain ⟨rfl, rfl, rfl, rfl, rfl, rfl⟩ := e0
  exact Sub.any (A := roomA p x) (vm, vb, s) (Sub.many (Sub.lift ok (subBox rfl (subRow e1 e2 (subRow e3 e4 (subK e5 g))))))
def Rm.new (name : List UInt8) (mb : Int) : Rm := ⟨name, [], [], mb, 20, 0, [], [], []⟩
theorem Rm.new_ok (name : List UInt8) (mb : Int) : (Rm.new name mb).ok := ⟨List.Pairwise.nil, by simp [Rm.new], by simp [Rm.new], by simp [Rm.new], by simp [Rm.new], by simp [Rm.new]⟩
instance sof0_ok [o : Hv w0 H w] : Step (Cl P 171 #[.slice none 0 0] K ⟨w, ds⟩) (∀ p w', Hv w0 (setR p [] :: H) w' → K (.pointer (some ⟨p, 0, none⟩)) ⟨w', ds⟩) := ⟨fun h => by
  have o1 := Hv.nilRow 3 1 o
  clear o
  refine go (And.intro (Nat.zero_le _) ?_)
  intro p w' o2
  exact h _ _ (Sub.hv (subK rfl subEnd))⟩
instance rnew_ok {name : List UInt8} {mb : Int} [o : Hv w0 H w] : Step (Cl P 232 #[str name, .int .i64 mb] K ⟨w, ds⟩) (∀ p w', Hv w0 (roomR p (.new name mb) :: H) w' → K (.pointer (some ⟨p, 0, none⟩)) ⟨w', ds⟩) := ⟨fun h => by
  refine s232 ?_
  unfold D232
  repeat' (first | refine go ?_ | intro _ | refine ⟨sb, ?_⟩ | refine ⟨sd, ?_⟩ | (refine ⟨fun h1 => ?_, fun h1 => ?_⟩ <;> first | exact ab h1 | ((try rw [h1]); (try simp only [bl] at h1))) | dsimp only)
  rename_i s w1 o1 b w2 o2
  obtain ⟨vm, em⟩ : ∃ v : Value, v = .slice none 0 0 := ⟨_, rfl⟩
  obtain ⟨vb, eb⟩ : ∃ v : Value, v = .slice none 0 0 := ⟨_, rfl⟩
  have o3 : Hv w0 (row 242 3 vm 0 [] :: box b 313 [str name, .int .i64 mb, vm, str [], .int .i64 20, str [], .int .i64 0, vb, .pointer (some ⟨s, 0, none⟩)] :: setR s [] :: H) w2 := by
    rw [em, eb]; exact Hv.nilRow 242 3 o2
  have o4 : Hv w0 (row 9 1 vb 0 [] :: row 242 3 vm 0 [] :: box b 313 [str name, .int .i64 mb, vm, str [], .int .i64 20, str [], .int .i64 0, vb, .pointer (some ⟨s, 0, none⟩)] :: setR s [] :: H) w2 := by
    rw [eb] at o3 ⊢; exact Hv.nilRow 9 1 o3
  exact h _ _ (Sub.hv (o := o4) (subRoom (Rm.new_ok ..) ⟨rfl, rfl, rfl, rfl, rfl, rfl⟩ rfl rfl rfl rfl rfl subEnd))⟩
instance rmc4 : BodyOf P 350 := ⟨bodies_ok.2 350 (by kernel_rfl)⟩
instance at1_ok {a y : Int} {b c : Bool} [o : Hv w0 H w] : Step (Cl P 350 #[.agg #[.int .i64 a, .bool b, .bool c], .int .i64 y] K ⟨w, ds⟩) (∀ w', Hv w0 H w' → K (.int .i64 (cmpI a y)) ⟨w', ds⟩) := ⟨fun h => by
  refine s350 ?_
  unfold D350
  repeat' (first | refine go ?_ | intro _ | refine ⟨sb, ?_⟩ | refine ⟨sd, ?_⟩ | (refine ⟨fun h1 => ?_, fun h1 => ?_⟩ <;> first | exact ab h1 | ((try rw [h1]); (try simp only [bl] at h1))) | dsimp only)
  exact h _ (Sub.hv subEnd)⟩
instance bsM_ok {v : Value} {n : Nat} {xs : List Value} {l : List Mem} {y : Int} [o : Hv w0 H w] [r : RdsF w0 H v 3 n xs] [e : Encs encM xs l] :
    Step (Cl P 349 #[v, .int .i64 y, .func (.func 350) #[] #[]] K ⟨w, ds⟩)
      ((n ≤ 1000000000 ∧ Ris mid l) ∧ ∀ w', Hv w0 H w' → K (.tuple #[.int .i64 (rankBy mid l y : Nat), .bool (hasBy mid l y)]) ⟨w', ds⟩) := ⟨fun ⟨⟨hn, hs⟩, h⟩ => by
  have hx := e.eq
  subst hx
  have hl : n = l.length := by
    have := (r.rd w o).len
    rw [flatMap_len (size := 3) fun _ => rfl] at this
    omega
  subst hl
  obtain ⟨tI, tU, u1, u2, hf⟩ := BsgF.run (P := P) (g := 349)
  refine hf _ _ _ _ _ _ (bsgW_ok (tS := 284) (e := 242) (el := fun i => memV (l.getD i default)) (c := fun i => cmpI (l.getD i default).1 y) inferInstance u1 u2 o r ?_ ?_ ?_ hn ?_)
  · intro i a w' hi r' ix; infer_instance
  · intro i w' K' hi o' h'
    repeat' (first | refine go ?_ | intro _ | refine ⟨sb, ?_⟩ | refine ⟨sd, ?_⟩ | (refine ⟨fun h1 => ?_, fun h1 => ?_⟩ <;> first | exact ab h1 | ((try rw [h1]); (try simp only [bl] at h1))) | dsimp only)
    exact h' _ (Sub.hv subEnd)
  · intro i j hij hj hc
    rw [cmpI_lt] at hc ⊢
    rcases Nat.lt_or_ge i j with h1 | h1
    · have := List.pairwise_iff_getElem.1 hs i j (by omega) hj h1
      simp only [List.getD_eq_getElem?_getD, hj, show i < l.length by omega, List.getElem?_eq_getElem, Option.getD_some] at hc ⊢
      exact Int.lt_trans this hc
    · obtain rfl : i = j := by omega
      exact hc
  · intro i w' hi h1 h2 o'
    obtain rfl := rank_eq (f := mid) hi (fun k hk => cmpI_lt.1 (h1 k hk)) (fun k h3 h4 hc => absurd (cmpI_lt.2 hc) (Int.not_lt.2 (h2 k h3 h4)))
    have e1 := rank_has hs y
    simp only [cmpI_eq]
    rw [e1]
    exact h w' o'⟩
instance rat_ok [o : Hv w0 H w] [i : InK roomR p H x R] : Step (Cl P 293 #[.pointer (some ⟨p, 0, none⟩), .int .i64 id] K ⟨w, ds⟩) (x.fit ∧ ∀ w', Hv w0 (roomR p x :: R) w' → K (.tuple #[.int .i64 (rankBy mid x.mem id : Nat), .bool (hasBy mid x.mem id)]) ⟨w', ds⟩) := ⟨fun ⟨hf, h⟩ => by
  obtain ⟨vm, vb, s, ok, o1⟩ := room_open (i.hv o)
  clear o
  obtain ⟨f1, f2, f3⟩ := hf
  have hr := ok.ris
  refine s293 ?_
  unfold D293
  repeat' (first | refine go ?_ | intro _ | refine ⟨sb, ?_⟩ | refine ⟨sd, ?_⟩ | (refine ⟨fun h1 => ?_, fun h1 => ?_⟩ <;> first | exact ab h1 | ((try rw [h1]); (try simp only [bl] at h1))) | dsimp only)
  exact h _ (Sub.hv (subRoom ok ⟨rfl, rfl, rfl, rfl, rfl, rfl⟩ rfl rfl rfl rfl rfl subEnd))⟩
end
end Go.Proofs.YtgcomleicnblhaaGreatDoor

