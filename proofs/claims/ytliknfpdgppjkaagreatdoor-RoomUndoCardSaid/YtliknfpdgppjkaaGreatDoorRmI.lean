import Derived.Test.YtliknfpdgppjkaaGreatDoorRmH
set_option linter.all false
namespace Go.Proofs.YtliknfpdgppjkaaGreatDoor
open Go.Vx Go.Lib
/-! the document's room -/
structure Rf where
  (name topic on key : List UInt8)
  (mb limit : Int)
  l : List Mem
  bans : List (List UInt8)
  gs : List Int
structure Rf.fit (x : Rf) : Prop where
  a : x.l.length ≤ 100000
  b : x.bans.length ≤ 100000
  c : x.gs.length ≤ 100000
  d : x.on.length ≤ 100
section
set_option maxRecDepth 20000
set_option synthInstance.maxSize 100000
set_option synthInstance.maxHeartbeats 4000000
def refA (p : Nat) (x : Rf) (q : Value × Value × Value) : SL := many [box p 50 [str x.name, .int .i64 x.mb, q.1, str x.topic, str x.on, str x.key, .int .i64 x.limit, q.2.1, q.2.2],
  row 39 3 q.1 x.l.length (x.l.flatMap encM), row 9 1 q.2.1 x.bans.length (x.bans.map str), row 3 1 q.2.2 x.gs.length (x.gs.map intV)]
def refR (p : Nat) (x : Rf) : SL := any (refA p x)
variable {K : Value → St → Prop} {w0 w : World} {H R : List SL} {ds : List Deferred} {p : Nat} {x : Rf} {id : Int}
theorem ref_open (h : Hv w0 (refR p x :: R) w) : ∃ vm vb vg, Hv w0 (box p 50 [str x.name, .int .i64 x.mb, vm, str x.topic, str x.on, str x.key, .int .i64 x.limit, vb, vg] ::
    row 39 3 vm x.l.length (x.l.flatMap encM) :: row 9 1 vb x.bans.length (x.bans.map str) :: row 3 1 vg x.gs.length (x.gs.map intV) :: R) w := by
  obtain ⟨⟨vm, vb, vg⟩, h1⟩ := h.pick
  exact ⟨vm, vb, vg, h1.opens⟩
theorem subRefR {H' R1 R2 R3 R4 G : List SL} {n t o k : List UInt8} {a c : Int} {vm vb vg : Value} {n1 n2 n3 : Nat} {xs ys zs : List Value} [hb : BoxIn H' p 50 [str n, .int .i64 a, vm, str t, str o, str k, .int .i64 c, vb, vg] R1]
    [h1 : RowIn R1 vm 39 3 n1 xs R2] [h2 : RowIn R2 vb 9 1 n2 ys R3] [h3 : RowIn R3 vg 3 1 n3 zs R4] (e0 : n = x.name ∧ t = x.topic ∧ o = x.on ∧ k = x.key ∧ a = x.mb ∧ c = x.limit)
    (e1 : n1 = x.l.length) (e2 : xs = x.l.flatMap encM) (e3 : n2 = x.bans.length) (e4 : ys = x.bans.map str) (e5 : n3 = x.gs.length) (e6 : zs = x.gs.map intV) (g : Sub R4 G) : Sub H' (refR p x :: G) := by
  obtain ⟨rfl, rfl, rfl, rfl, rfl, rfl⟩ := e0
  exact Sub.any (A := refA p x) (vm, vb, vg) (Sub.many (subBox rfl (subRow e1 e2 (subRow e3 e4 (subRow e5 e6 g)))))
def Rf.new (name : List UInt8) (mb : Int) : Rf := ⟨name, [], [110, 116], [], mb, 0, [], [], []⟩
instance fnew_ok {name : List UInt8} {mb : Int} [o : Hv w0 H w] : Step (Cl P 10 #[str name, .int .i64 mb] K ⟨w, ds⟩) (∀ p w', Hv w0 (refR p (.new name mb) :: H) w' → K (.pointer (some ⟨p, 0, none⟩)) ⟨w', ds⟩) := ⟨fun h => by
  refine s10 ?_
  unfold D10
  repeat' (first | refine go ?_ | intro _ | refine ⟨sb, ?_⟩ | refine ⟨sd, ?_⟩ | (refine ⟨fun h1 => ?_, fun h1 => ?_⟩ <;> first | exact ab h1 | ((try rw [h1]); (try simp only [bl] at h1))) | dsimp only)
  rename_i b w2 o2
  obtain ⟨vm, em⟩ : ∃ v : Value, v = .slice none 0 0 := ⟨_, rfl⟩
  obtain ⟨vb, eb⟩ : ∃ v : Value, v = .slice none 0 0 := ⟨_, rfl⟩
  obtain ⟨vg, eg⟩ : ∃ v : Value, v = .slice none 0 0 := ⟨_, rfl⟩
  have o2' : Hv w0 (box b 50 [str name, .int .i64 mb, vm, str [], str [110, 116], str [], .int .i64 0, vb, vg] :: H) w2 := by
    rw [em, eb, eg]; exact o2
  have o3 : Hv w0 (row 39 3 vm 0 [] :: box b 50 [str name, .int .i64 mb, vm, str [], str [110, 116], str [], .int .i64 0, vb, vg] :: H) w2 := by
    rw [em] at o2' ⊢; exact Hv.nilRow 39 3 o2'
  have o4 : Hv w0 (row 9 1 vb 0 [] :: row 39 3 vm 0 [] :: box b 50 [str name, .int .i64 mb, vm, str [], str [110, 116], str [], .int .i64 0, vb, vg] :: H) w2 := by
    rw [eb] at o3 ⊢; exact Hv.nilRow 9 1 o3
  have o5 : Hv w0 (row 3 1 vg 0 [] :: row 9 1 vb 0 [] :: row 39 3 vm 0 [] :: box b 50 [str name, .int .i64 mb, vm, str [], str [110, 116], str [], .int .i64 0, vb, vg] :: H) w2 := by
    rw [eg] at o4 ⊢; exact Hv.nilRow 3 1 o4
  exact h _ _ (Sub.hv (o := o5) (subRefR ⟨rfl, rfl, rfl, rfl, rfl, rfl⟩ rfl rfl rfl rfl rfl rfl subEnd))⟩
def Rf.at (x : Rf) (id : Int) : Int := match x.l.findIdx? (fun m => decide (mid m = id)) with | some i => i | none => -1
theorem find_k {α : Type} [Inhabited α] {p : α → Bool} {l : List α} {i : Nat} (hi : i < l.length) (h : p (l.getD i default) = true) (hp : ∀ j < i, p (l.getD j default) = false) : l.findIdx? p = some i := by
  rw [List.findIdx?_eq_some_iff_getElem]
  refine ⟨hi, by simpa [hi] using h, fun j hj => ?_⟩
  have := hp j hj
  simpa [show j < l.length by omega] using this
theorem find_n {α : Type} [Inhabited α] {p : α → Bool} {l : List α} (hp : ∀ j < l.length, p (l.getD j default) = false) : l.findIdx? p = none := by
  rw [List.findIdx?_eq_none_iff]
  intro x hx
  obtain ⟨j, hj, rfl⟩ := List.getElem_of_mem hx
  have := hp j hj
  simpa [hj] using this
theorem Rf.at_le (x : Rf) (id : Int) : x.at id < x.l.length ∧ -1 ≤ x.at id := by
  unfold Rf.at
  cases h : x.l.findIdx? (fun m => decide (mid m = id)) with
  | none => dsimp only; omega
  | some i => have := (List.findIdx?_eq_some_iff_getElem.1 h).1; dsimp only; omega
instance fat_ok [o : Hv w0 H w] [i : InK refR p H x R] : Step (Cl P 17 #[.pointer (some ⟨p, 0, none⟩), .int .i64 id] K ⟨w, ds⟩) (x.fit ∧ ∀ w', Hv w0 (refR p x :: R) w' → K (.int .i64 (x.at id)) ⟨w', ds⟩) := ⟨fun ⟨hf, h⟩ => by
  obtain ⟨vm, vb, vg, o1⟩ := ref_open (i.hv o)
  clear o
  obtain ⟨f1, f2, f3, f4⟩ := hf
  refine s17 ?_
  unfold D17
  refine ⟨fun y s => ∃ (i : Nat) (w' : World), y = .int .i64 i ∧ s = ⟨w', []⟩ ∧ i ≤ x.l.length ∧ (∀ j < i, decide (mid (x.l.getD j default) = id) = false) ∧ Hv w0 (box p 50 [str x.name, .int .i64 x.mb, vm, str x.topic, str x.on, str x.key, .int .i64 x.limit, vb, vg] ::
    row 39 3 vm x.l.length (x.l.flatMap encM) :: row 9 1 vb x.bans.length (x.bans.map str) :: row 3 1 vg x.gs.length (x.gs.map intV) :: R) w',
    fun y s => match y with | .int _ z => x.l.length - z.toNat | _ => 0, ⟨0, w, rfl, rfl, Nat.zero_le _, fun j hj => by omega, o1⟩, ?_⟩
  rintro y s ⟨i, w1, rfl, rfl, hi, hp, o2⟩
  clear o1
  rcases Nat.lt_or_ge i x.l.length with hlt | hge
  · repeat' (first | refine go ?_ | intro _ | refine ⟨sb, ?_⟩ | refine ⟨sd, ?_⟩ | (refine ⟨fun h1 => ?_, fun h1 => ?_⟩ <;> first | exact ab h1 | ((try rw [h1]); (try simp only [bl] at h1))) | dsimp only)
    · have e : x.at id = i := by unfold Rf.at; rw [find_k hlt (by simpa using h1) hp]
      rw [e] at h
      exact h _ (Sub.hv (subRefR ⟨rfl, rfl, rfl, rfl, rfl, rfl⟩ rfl rfl rfl rfl rfl rfl subEnd))
    · refine ⟨⟨i + 1, _, rfl, rfl, hlt, fun j hj => ?_, Sub.hv subEnd⟩, by simp; omega⟩
      rcases Nat.lt_or_ge j i with h3 | h3
      · exact hp j h3
      · obtain rfl : j = i := by omega
        simpa using h1
    · exfalso; omega
  · have e : x.at id = -1 := by unfold Rf.at; rw [find_n fun j hj => hp j (by omega)]
    rw [e] at h
    repeat' (first | refine go ?_ | intro _ | refine ⟨sb, ?_⟩ | refine ⟨sd, ?_⟩ | (refine ⟨fun h1 => ?_, fun h1 => ?_⟩ <;> first | exact ab h1 | ((try rw [h1]); (try simp only [bl] at h1))) | dsimp only)
    · exfalso; omega
    · exact h _ (Sub.hv (subRefR ⟨rfl, rfl, rfl, rfl, rfl, rfl⟩ rfl rfl rfl rfl rfl rfl subEnd))⟩
end
end Go.Proofs.YtliknfpdgppjkaaGreatDoor

