import Derived.Test.YtodnbkggkdadkaaDoorCoB
set_option linter.all false
namespace Go.Proofs.YtodnbkggkdadkaaDoor
open Go.Vx
/-! a server's configuration -/
structure Cfg where
  (a b c d : List UInt8)
  (n4 n5 n6 n7 n8 n9 n10 n11 n12 n13 n14 : Int)
abbrev encCfg (c : Cfg) : List Value := [str c.a, str c.b, str c.c, str c.d, .int .i64 c.n4, .int .i64 c.n5, .int .i64 c.n6, .int .i64 c.n7, .int .i64 c.n8, .int .i64 c.n9, .int .i64 c.n10, .int .i64 c.n11, .int .i64 c.n12, .int .i64 c.n13, .int .i64 c.n14]
abbrev cfgV (c : Cfg) : Value := .agg (encCfg c).toArray
abbrev Bnd := Int × Int × Int
abbrev encB (b : Bnd) : List Value := [.int .i64 b.1, .int .i64 b.2.1, .int .i64 b.2.2]
instance : UEnc encB 3 := ⟨fun _ => rfl⟩
def okB (b : Bnd) : Bool := !(decide (b.1 < b.2.1) || decide (b.2.2 < b.1))
def bnds (c : Cfg) : List Bnd := [(c.n4, 1, 1000), (c.n5, 512, 65536), (c.n6, 1, 1000), (c.n7, 1, 1000), (c.n8, 1, 1000), (c.n9, 1, 1000), (c.n10, 1, 1000), (c.n11, 0, 1000), (c.n12, 1, 1000000), (c.n13, 1, 1000000), (c.n14, 1, 1000000)]
def badF (c : Cfg) : Bool := ((((!serverS c.a || !secretS c.b) || !secretS c.c) || !secretS c.d) || (decide (c.c = []) != decide (c.d = [])))
def checkS (c : Cfg) : Int := if badF c then 4 else if (bnds c).all okB then 0 else 2
def small (c : Cfg) : Prop := c.a.length ≤ 1000000000 ∧ c.b.length ≤ 1000000000 ∧ c.c.length ≤ 1000000000 ∧ c.d.length ≤ 1000000000
theorem ball_take {l : List Bnd} {i : Nat} (h : i < l.length) : (l.take (i + 1)).all okB = ((l.take i).all okB && okB (l.getD i default)) := by
  rw [take_snoc h]; simp [-List.getD_eq_getElem?_getD]
theorem ball_at {l : List Bnd} {i : Nat} (h : i < l.length) (hp : okB (l.getD i default) = false) : l.all okB = false := by
  cases h2 : l.all okB with
  | false => rfl
  | true =>
    have := List.all_eq_true.1 h2 (l.getD i default) (by simp [h])
    rw [hp] at this; cases this
set_option maxRecDepth 20000 in
set_option synthInstance.maxSize 100000 in
set_option synthInstance.maxHeartbeats 4000000 in
instance check_ok {K : Value → St → Prop} {w0 w : World} {H : List SL} {ds : List Deferred} {a b c d : List UInt8} {n4 n5 n6 n7 n8 n9 n10 n11 n12 n13 n14 : Int} [o : Hv w0 H w] :
    Step (Cl P 9 #[.agg #[str a, str b, str c, str d, .int .i64 n4, .int .i64 n5, .int .i64 n6, .int .i64 n7, .int .i64 n8, .int .i64 n9, .int .i64 n10, .int .i64 n11, .int .i64 n12, .int .i64 n13, .int .i64 n14]] K ⟨w, ds⟩)
      ((a.length ≤ 1000000000 ∧ b.length ≤ 1000000000 ∧ c.length ≤ 1000000000 ∧ d.length ≤ 1000000000) ∧ ∀ w', Hv w0 H w' → K (.int .i64 (checkS ⟨a, b, c, d, n4, n5, n6, n7, n8, n9, n10, n11, n12, n13, n14⟩)) ⟨w', ds⟩) := ⟨fun ⟨⟨ha, hb, hc, hd⟩, h⟩ => by
  refine cl_ok (c9 (K := fun v w' => K v ⟨w', ds⟩) ?_ fun v w' h => ⟨v, rfl, h⟩)
  unfold D9
  dsimp only
  repeat' (first | refine go ?_ | intro _ | refine And.intro (Sd.mk (by (first | exact fun _ => True.intro | exact And.intro (fun _ => True.intro) (fun _ _ => True.intro) | (intro hq; (first | exact True.intro | omega | (simp only [and_true]; omega) | (simp only [Bool.not_eq_true', Bool.not_eq_false', decide_eq_true_eq, decide_eq_false_iff_not, Bool.and_eq_true, Bool.or_eq_true, Bool.or_eq_false_iff, Bool.and_eq_false_imp, Int.not_lt, Int.not_le, Nat.not_lt, Nat.not_le] at hq; (try simp only [and_true]); omega) | fail)) | exact And.intro (fun hq => by first | exact True.intro | omega | (simp only [and_true]; omega) | (simp only [Bool.not_eq_true', Bool.not_eq_false', decide_eq_true_eq, decide_eq_false_iff_not, Bool.and_eq_true, Bool.or_eq_true, Bool.or_eq_false_iff, Bool.and_eq_false_imp, Int.not_lt, Int.not_le, Nat.not_lt, Nat.not_le] at hq; (try simp only [and_true]); omega) | fail) (fun hq hr => by first | exact True.intro | omega | (simp only [and_true]; omega) | (simp only [Bool.not_eq_true', Bool.not_eq_false', decide_eq_true_eq, decide_eq_false_iff_not, Bool.and_eq_true, Bool.or_eq_true, Bool.or_eq_false_iff, Bool.and_eq_false_imp, Int.not_lt, Int.not_le, Nat.not_lt, Nat.not_le] at hq hr; omega) | (simp only [Bool.not_eq_true', Bool.not_eq_false', decide_eq_true_eq, decide_eq_false_iff_not, Bool.and_eq_true, Bool.or_eq_true, Bool.or_eq_false_iff, Bool.and_eq_false_imp, Int.not_lt, Int.not_le, Nat.not_lt, Nat.not_le] at hr; omega) | fail) | fail))) ?_ | refine And.intro (by (first | omega | (unfold InR; omega) | decide | (simp only [List.length_append, List.length_map, List.length_take, List.length_drop, List.length_replicate, List.length_cons, List.length_nil, List.length_set]; omega))) ?_ | (refine And.intro (fun h1 => ?_) (fun h1 => ?_) <;> first | (exact absurd h1 (by decide)) | ((try rw [h1]); (try simp only [Bool.not_eq_true', Bool.not_eq_false', decide_eq_true_eq, decide_eq_false_iff_not, Bool.and_eq_true, Bool.or_eq_true, Bool.or_eq_false_iff, Bool.and_eq_false_imp, Int.not_lt, Int.not_le, Nat.not_lt, Nat.not_le] at h1))) | dsimp only)
  · have hb : badF ⟨a, b, c, d, n4, n5, n6, n7, n8, n9, n10, n11, n12, n13, n14⟩ = true := by unfold badF; dsimp only; grind
    have e : checkS ⟨a, b, c, d, n4, n5, n6, n7, n8, n9, n10, n11, n12, n13, n14⟩ = 4 := by unfold checkS; rw [if_pos hb]
    rw [e] at h
    exact h _ (Sub.hv subEnd)
  have hb : badF ⟨a, b, c, d, n4, n5, n6, n7, n8, n9, n10, n11, n12, n13, n14⟩ = false := by unfold badF; dsimp only; grind
  have e : checkS ⟨a, b, c, d, n4, n5, n6, n7, n8, n9, n10, n11, n12, n13, n14⟩ = if (bnds ⟨a, b, c, d, n4, n5, n6, n7, n8, n9, n10, n11, n12, n13, n14⟩).all okB then 0 else 2 := by unfold checkS; rw [if_neg (by rw [hb]; decide)]
  rw [e] at h
  clear e
  rename_i v w1 o1
  have o2 : Hv w0 (row 38 3 v 11 ((bnds ⟨a, b, c, d, n4, n5, n6, n7, n8, n9, n10, n11, n12, n13, n14⟩).flatMap encB) :: H) w1 := Sub.hv (subRow rfl rfl subEnd)
  have hlen : (bnds ⟨a, b, c, d, n4, n5, n6, n7, n8, n9, n10, n11, n12, n13, n14⟩).length = 11 := rfl
  clear o1
  generalize bnds ⟨a, b, c, d, n4, n5, n6, n7, n8, n9, n10, n11, n12, n13, n14⟩ = bl at *
  refine ⟨fun y s => ∃ (i : Nat) (w' : World), y = .int .i64 i ∧ s = ⟨w', []⟩ ∧ i ≤ 11 ∧ (bl.take i).all okB = true ∧ Hv w0 (row 38 3 v 11 (bl.flatMap encB) :: H) w',
    fun y s => match y with | .int _ z => 11 - z.toNat | _ => 0, ⟨0, w1, rfl, rfl, Nat.zero_le _, rfl, o2⟩, ?_⟩
  rintro y s ⟨i, w2, rfl, rfl, hi, he, o3⟩
  repeat' (first | refine go ?_ | intro _ | refine And.intro (Sd.mk (by (first | exact fun _ => True.intro | exact And.intro (fun _ => True.intro) (fun _ _ => True.intro) | (intro hq; (first | exact True.intro | omega | (simp only [and_true]; omega) | (simp only [Bool.not_eq_true', Bool.not_eq_false', decide_eq_true_eq, decide_eq_false_iff_not, Bool.and_eq_true, Bool.or_eq_true, Bool.or_eq_false_iff, Bool.and_eq_false_imp, Int.not_lt, Int.not_le, Nat.not_lt, Nat.not_le] at hq; (try simp only [and_true]); omega) | fail)) | exact And.intro (fun hq => by first | exact True.intro | omega | (simp only [and_true]; omega) | (simp only [Bool.not_eq_true', Bool.not_eq_false', decide_eq_true_eq, decide_eq_false_iff_not, Bool.and_eq_true, Bool.or_eq_true, Bool.or_eq_false_iff, Bool.and_eq_false_imp, Int.not_lt, Int.not_le, Nat.not_lt, Nat.not_le] at hq; (try simp only [and_true]); omega) | fail) (fun hq hr => by first | exact True.intro | omega | (simp only [and_true]; omega) | (simp only [Bool.not_eq_true', Bool.not_eq_false', decide_eq_true_eq, decide_eq_false_iff_not, Bool.and_eq_true, Bool.or_eq_true, Bool.or_eq_false_iff, Bool.and_eq_false_imp, Int.not_lt, Int.not_le, Nat.not_lt, Nat.not_le] at hq hr; omega) | (simp only [Bool.not_eq_true', Bool.not_eq_false', decide_eq_true_eq, decide_eq_false_iff_not, Bool.and_eq_true, Bool.or_eq_true, Bool.or_eq_false_iff, Bool.and_eq_false_imp, Int.not_lt, Int.not_le, Nat.not_lt, Nat.not_le] at hr; omega) | fail) | fail))) ?_ | refine And.intro (by (first | omega | (unfold InR; omega) | decide | (simp only [List.length_append, List.length_map, List.length_take, List.length_drop, List.length_replicate, List.length_cons, List.length_nil, List.length_set]; omega))) ?_ | (refine And.intro (fun h1 => ?_) (fun h1 => ?_) <;> first | (exact absurd h1 (by decide)) | ((try rw [h1]); (try simp only [Bool.not_eq_true', Bool.not_eq_false', decide_eq_true_eq, decide_eq_false_iff_not, Bool.and_eq_true, Bool.or_eq_true, Bool.or_eq_false_iff, Bool.and_eq_false_imp, Int.not_lt, Int.not_le, Nat.not_lt, Nat.not_le] at h1))) | dsimp only)
  · have hlt : i < bl.length := by omega
    have hb : okB (bl.getD i default) = false := by unfold okB; grind
    rw [ball_at hlt hb] at h
    exact h _ (Sub.hv subEnd)
  · have hlt : i < bl.length := by omega
    have hb : okB (bl.getD i default) = true := by unfold okB; grind
    exact ⟨⟨i + 1, _, rfl, rfl, by omega, by rw [ball_take hlt, he, hb]; rfl, Sub.hv (subRow rfl rfl subEnd)⟩, by simp; omega⟩
  · rw [List.take_of_length_le (by omega)] at he
    rw [he] at h
    exact h _ (Sub.hv subEnd)⟩
end Go.Proofs.YtodnbkggkdadkaaDoor
