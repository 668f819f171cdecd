import Derived.Test.YtgcomleicnblhaaGreatDoorKrC
set_option linter.all false
namespace Go.Proofs.YtgcomleicnblhaaGreatDoor
open Go.Vx Go.Lib
/-! folded texts; who wants to know of whom -/
section
set_option maxRecDepth 20000
set_option synthInstance.maxSize 100000
set_option synthInstance.maxHeartbeats 4000000
variable {K : Value → St → Prop} {w0 w : World} {H R : List SL} {ds : List Deferred} {p m n : Nat} {a : Int} {b l : List UInt8} {v : Value} {xs : List Value}
instance ftext_ok [o : Hv w0 H w] : Step (Cl P 61 #[str l] K ⟨w, ds⟩) (l.length ≤ 1000000 ∧ ∀ w', Hv w0 H w' → K (str (foldS l)) ⟨w', ds⟩) := ⟨fun ⟨hl, h⟩ => by
  refine s61 ?_
  unfold D61
  repeat (first | refine go ?_ | intro _ | refine ⟨sb, ?_⟩ | refine ⟨sd, ?_⟩ | dsimp only)
  rename_i v w1 o1
  refine ⟨fun x y s => ∃ (i : Nat) (v : Value) (w' : World), x = v ∧ y = .int .i64 i ∧ s = ⟨w', []⟩ ∧ i ≤ l.length ∧ Hv w0 (row 5 1 v i ((foldS (l.take i)).map byteV) :: H) w',
    fun _ y s => match y with | .int _ z => l.length - z.toNat | _ => 0, ⟨0, _, _, rfl, rfl, rfl, Nat.zero_le _, o1⟩, ?_⟩
  rintro x y s ⟨i, v, w2, rfl, rfl, rfl, hi, o2⟩
  clear o1 o
  rcases Nat.lt_or_ge i l.length with hlt | hge
  · have hs : foldS (l.take (i + 1)) = foldS (l.take i) ++ [fb (l.getD i default)] := by rw [take_snoc hlt, foldS, List.map_append]; rfl
    repeat' (first | refine go ?_ | intro _ | refine ⟨sb, ?_⟩ | refine ⟨sd, ?_⟩ | (refine ⟨fun h1 => ?_, fun h1 => ?_⟩ <;> first | exact ab h1 | ((try rw [h1]); (try simp only [bl] at h1))) | dsimp only)
    · exact ⟨⟨i + 1, _, _, rfl, rfl, rfl, hlt, Sub.hv (subRow rfl (by rw [hs, List.map_append]; rfl) subEnd)⟩, by simp; omega⟩
    · exfalso; omega
  · repeat' (first | refine go ?_ | intro _ | refine ⟨sb, ?_⟩ | refine ⟨sd, ?_⟩ | (refine ⟨fun h1 => ?_, fun h1 => ?_⟩ <;> first | exact ab h1 | ((try rw [h1]); (try simp only [bl] at h1))) | dsimp only)
    · exfalso; omega
    · rw [List.take_of_length_le hge]; exact h _ (Sub.hv subEnd)⟩
instance : KeyC P 112 isV := ⟨KeyR.eq (f := isV) Tryz.underlying112 (fun a b w => by
    have h : EqV P 10000 112 (isV a) (isV b) _ := inferInstance
    refine (h.run w).trans ?_
    congr 1
    rw [Bool.eq_iff_iff]
    simp [Prod.ext_iff]) (fun a => bits2_of fun n => by simp [Instr.sameBits, ba_beq]) (fun e k w => chk2_of fun n => by
    have p0 : Part P 3 [.int .i64 k.1, str k.2] 0 _ := inferInstance
    have p1 : Part P 9 [.int .i64 k.1, str k.2] 1 _ := inferInstance
    simp [Instr.checkKey, run_underlying Tryz.underlying112, Sem.run_bind, p0.run, p1.run, run_underlying Tryz.underlying3, run_underlying Tryz.underlying9])⟩
structure Ws where
  rel : Rl
  sp : Int × List UInt8 → Option (List UInt8)
def wishA (p : Nat) (x : Ws) (q : Nat × Nat × Nat) : SL := many [box p 110 [ptrV q.1, .map (some q.2.1)], relR q.1 x.rel, mpn q.2.1 isV (fun k => (x.sp k).map str) q.2.2]
def wishR (p : Nat) (x : Ws) : SL := any (wishA p x)
theorem wish_open {x : Ws} (h : Hv w0 (wishR p x :: R) w) : ∃ r m n, Hv w0 (box p 110 [ptrV r, .map (some m)] :: relR r x.rel :: mpn m isV (fun k => (x.sp k).map str) n :: R) w := by
  obtain ⟨⟨r, m, n⟩, h1⟩ := h.pick
  exact ⟨r, m, n, h1.opens⟩
theorem subWish {H' R1 R2 R3 G : List SL} {x : Ws} {r m n : Nat} {y : Rl} {g : Int × List UInt8 → Option Value} [i : BoxIn H' p 110 [ptrV r, .map (some m)] R1] [j : InK relR r R1 y R2] [k : MpnIn R2 m isV g n R3]
    (e1 : y = x.rel) (e2 : g = fun k => (x.sp k).map str) (s : Sub R3 G) : Sub H' (wishR p x :: G) := by
  subst e1 e2
  exact Sub.any (A := wishA p x) (r, m, n) (Sub.many (subBox rfl (subK rfl (subMpn rfl rfl s))))
def Ws.new (most : Int) : Ws := ⟨.new (max 0 (min most 100000)), fun _ => none⟩
instance wishNew_ok {k : Int} [o : Hv w0 H w] : Step (Cl P 45 #[.int .i64 k] K ⟨w, ds⟩) (∀ p w', Hv w0 (wishR p (.new k) :: H) w' → K (.pointer (some ⟨p, 0, none⟩)) ⟨w', ds⟩) := ⟨fun h => by
  have e1 : 0 ≤ max 0 (min k 100000) ∧ max 0 (min k 100000) ≤ 100000 := by omega
  refine s45 ?_
  unfold D45
  repeat' (first | refine go ?_ | intro _ | refine ⟨sb, ?_⟩ | refine ⟨sd, ?_⟩ | (refine ⟨fun h1 => ?_, fun h1 => ?_⟩ <;> first | exact ab h1 | ((try rw [h1]); (try simp only [bl] at h1))) | dsimp only)
  exact h _ _ (Sub.hv (subWish rfl rfl subEnd))⟩
def Ws.add (x : Ws) (a : Int) (name : List UInt8) : Ws × Int := let r := x.rel.add a (foldS name); if r.2 = 0 then (⟨r.1, updF x.sp (a, foldS name) (some name)⟩, 0) else (⟨r.1, x.sp⟩, r.2)
instance wishAdd_ok {x : Ws} {name : List UInt8} [o : Hv w0 H w] [i : InK wishR p H x R] : Step (Cl P 14 #[.pointer (some ⟨p, 0, none⟩), .int .i64 a, str name] K ⟨w, ds⟩)
    (((x.rel.fit ∧ ∀ b, (x.rel.byS b).length ≤ 10000000) ∧ name.length ≤ 1000000) ∧ ∀ w', Hv w0 (wishR p (x.add a name).1 :: R) w' → K (.int .i64 (x.add a name).2) ⟨w', ds⟩) := ⟨fun ⟨⟨⟨hf, hb⟩, hn⟩, h⟩ => by
  obtain ⟨r, m, n, o1⟩ := wish_open (i.hv o)
  clear o
  unfold Ws.add at h
  dsimp only at h
  refine s14 ?_
  unfold D14
  repeat' (first | refine go ?_ | intro _ | refine ⟨sb, ?_⟩ | refine ⟨sd, ?_⟩ | (refine ⟨fun h1 => ?_, fun h1 => ?_⟩ <;> first | exact ab h1 | ((try rw [h1]); (try simp only [bl] at h1))) | dsimp only)
  · rw [if_pos h1] at h
    rw [h1]
    refine h _ (Sub.hv (subWish rfl (funext fun k => ?_) subEnd))
    dsimp only
    unfold updF
    split <;> rfl
  · rw [if_neg h1] at h
    exact h _ (Sub.hv (subWish rfl rfl subEnd))⟩
instance wishBy_ok {x : Ws} {name : List UInt8} [o : Hv w0 H w] [i : InK wishR p H x R] : Step (Cl P 199 #[.pointer (some ⟨p, 0, none⟩), str name] K ⟨w, ds⟩)
    ((x.rel.fit ∧ name.length ≤ 1000000) ∧ ∀ q v w', Hv w0 (box q 64 [v] :: row 3 1 v (x.rel.byS (foldS name)).length ((x.rel.byS (foldS name)).map intV) :: wishR p x :: R) w' → K (.func (.func 242) #[] #[.pointer (some ⟨q, 0, none⟩)]) ⟨w', ds⟩) := ⟨fun ⟨⟨hf, hn⟩, h⟩ => by
  obtain ⟨r, m, n, o1⟩ := wish_open (i.hv o)
  clear o
  refine s199 ?_
  unfold D199
  repeat' (first | refine go ?_ | intro _ | refine ⟨sb, ?_⟩ | refine ⟨sd, ?_⟩ | (refine ⟨fun h1 => ?_, fun h1 => ?_⟩ <;> first | exact ab h1 | ((try rw [h1]); (try simp only [bl] at h1))) | dsimp only)
  exact h _ _ _ (Sub.hv (subBox rfl (subRow rfl rfl (subWish rfl rfl subEnd))))⟩
end
end Go.Proofs.YtgcomleicnblhaaGreatDoor

