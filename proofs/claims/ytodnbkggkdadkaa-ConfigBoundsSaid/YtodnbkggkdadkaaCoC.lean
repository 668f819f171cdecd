import Derived.Test.YtodnbkggkdadkaaCoB
set_option linter.all false
namespace Go.Proofs.Ytodnbkggkdadkaa
open Go.Vx
/-! a server's configuration -/
structure Cfg where
  (a b c d : List UInt8)
  (n4 n5 n6 n7 n8 n9 n10 n11 n12 n13 n14 : Int)
abbrev encCfg (c : Cfg) : List Value := [str c.a, str c.b, str c.c, str c.d, .int .i64 c.n4, .int .i64 c.n5, .int .i64 c.n6, .int .i64 c.n7, .int .i64 c.n8, .int .i64 c.n9, .int .i64 c.n10, .int .i64 c.n11, .int .i64 c.n12, .int .i64 c.n13, .int .i64 c.n14]
abbrev cfgV (c : Cfg) : Value := .agg (encCfg c).toArray
abbrev Bnd := Int × Int × Int
abbrev encB (b : Bnd) : List Value := [.int .i64 b.1, .int .i64 b.2.1, .int .i64 b.2.2]
instance : UEnc encB 3 := ⟨fun _ => rfl⟩
def okB (b : Bnd) : Bool := !(decide (b.1 < b.2.1) || decide (b.2.2 < b.1))
def bnds (c : Cfg) : List Bnd := [(c.n4, 1, 1000), (c.n5, 512, 65536), (c.n6, 1, 1000), (c.n7, 1, 1000), (c.n8, 1, 1000), (c.n9, 1, 1000), (c.n10, 1, 1000), (c.n11, 0, 1000), (c.n12, 1, 1000000), (c.n13, 1, 1000000), (c.n14, 1, 1000000)]
def badF (c : Cfg) : Bool := ((((!serverS c.a || !secretS c.b) || !secretS c.c) || !secretS c.d) || (decide (c.c = []) != decide (c.d = [])))
def checkS (c : Cfg) : Int := if badF c then 4 else if (bnds c).all okB then 0 else 2
def small (c : Cfg) : Prop := c.a.length ≤ 1000000000 ∧ c.b.length ≤ 1000000000 ∧ c.c.length ≤ 1000000000 ∧ c.d.length ≤ 1000000000
theorem ball_take {l : List Bnd} {i : Nat} (h : i < l.length) : (l.take (i + 1)).all okB = ((l.take i).all okB && okB (l.getD i default)) := by
  rw [take_snoc h]; simp [-List.getD_eq_getElem?_getD]
theorem ball_at {l : List Bnd} {i : Nat} (h : i < l.length) (hp : okB (l.getD i default) = false) : l.all okB = false := by
  cases h2 : l.all okB with
  | false => rfl
  | true =>
    have := List.all_eq_true.1 h2 (l.getD i default) (by simp [h])
    rw [hp] at this; cases this
set_option maxRecDepth 20000 in
set_option synthInstance.maxSize 100000 in
set_option synthInstance.maxHeartbeats 4000000 in
instance check_ok {K : Value → St → Prop} {w0 w : World} {H : List SL} {ds : List Deferred} {a b c d : List UInt8} {n4 n5 n6 n7 n8 n9 n10 n11 n12 n13 n14 : Int} [o : Hv w0 H w] :
    Step (Cl P 33 #[.agg #[str a, str b, str c, str d, .int .i64 n4, .int .i64 n5, .int .i64 n6, .int .i64 n7, .int .i64 n8, .int .i64 n9, .int .i64 n10, .int .i64 n11, .int .i64 n12, .int .i64 n13, .int .i64 n14]] K ⟨w, ds⟩)
      ((a.length ≤ 1000000000 ∧ b.length ≤ 1000000000 ∧ c.length ≤ 1000000000 ∧ d.length ≤ 1000000000) ∧ ∀ w', Hv w0 H w' → K (.int .i64 (checkS ⟨a, b, c, d, n4, n5, n6, n7, n8, n9, n10, n11, n12, n13, n14⟩)) ⟨w', ds⟩) := ⟨fun ⟨⟨ha, hb, hc, hd⟩, h⟩ => by
  refine cl_ok (c33 (K := fun v w' => K v ⟨w', ds⟩) ?_ fun v w' h => ⟨v, rfl, h⟩)
  unfold D33
  dsimp only
  repeat' (first | refine go ?_ | intro _ | refine And.intro (Sd.mk (by (first | exact fun _ => True.intro | exact And.intro (fun _ => True.intro) (fun _ _ => True.intro) | (intro hq; (first | exact True.intro | omega | (simp only [and_true]; omega) | (simp only [Bool.not_eq_true', Bool.not_eq_false', decide_eq_true_eq, decide_eq_false_iff_not, Bool.and_eq_true, Bool.or_eq_true, Bool.or_eq_false_iff, Bool.and_eq_false_imp, Int.not_lt, Int.not_le, Nat.not_lt, Nat.not_le] at hq; (try simp only [and_true]); omega) | fail)) | exact And.intro (fun hq => by first | exact True.intro | omega | (simp only [and_true]; omega) | (simp only [Bool.not_eq_true', Bool.not_eq_false', decide_eq_true_eq, decide_eq_false_iff_not, Bool.and_eq_true, Bool.or_eq_true, Bool.or_eq_false_iff, Bool.and_eq_false_imp, Int.not_lt, Int.not_le, Nat.not_lt, Nat.not_le] at hq; (try simp only [and_true]); omega) | fail) (fun hq hr => by first | exact True.intro | omega | (simp only [and_true]; omega) | (simp only [Bool.not_eq_true', Bool.not_eq_false', decide_eq_true_eq, decide_eq_false_iff_not, Bool.and_eq_true, Bool.or_eq_true, Bool.or_eq_false_iff, Bool.and_eq_false_imp, Int.not_lt, Int.not_le, Nat.not_lt, Nat.not_le] at hq hr; omega) | (simp only [Bool.not_eq_true', Bool.not_eq_false', decide_eq_true_eq, decide_eq_false_iff_not, Bool.and_eq_true, Bool.or_eq_true, Bool.or_eq_false_iff, Bool.and_eq_false_imp, Int.not_lt, Int.not_le, Nat.not_lt, Nat.not_le] at hr; omega) | fail) | fail))) ?_ | refine And.intro (by (first | omega | (unfold InR; omega) | decide | (simp only [List.length_append, List.length_map, List.length_take, List.length_drop, List.length_replicate, List.length_cons, List.length_nil, List.length_set]; omega))) ?_ | (refine And.intro (fun h1 => ?_) (fun h1 => ?_) <;> first | (exact absurd h1 (by decide)) | ((try rw [h1]); (try simp only [Bool.not_eq_true', Bool.not_eq_false', decide_eq_true_eq, decide_eq_false_iff_not, Bool.and_eq_true, Bool.or_eq_true, Bool.or_eq_false_iff, Bool.and_eq_false_imp, Int.not_lt, Int.not_le, Nat.not_lt, Nat.not_le] at h1))) | dsimp only)
  · have hb : badF ⟨a, b, c, d, n4, n5, n6, n7, n8, n9, n10, n11, n12, n13, n14⟩ = true := by unfold badF; dsimp only; grind
    have e : checkS ⟨a, b, c, d, n4, n5, n6, n7, n8, n9, n10, n11, n12, n13, n14⟩ = 4 := by unfold checkS; rw [if_pos hb]
    rw [e] at h
    exact h _ (Sub.hv subEnd)
  have hb : badF ⟨a, b, c, d, n4, n5, n6, n7, n8, n9, n10, n11, n12, n13, n14⟩ = false := by unfold badF; dsimp only; grind
  have e : checkS ⟨a, b, c, d, n4, n5, n6, n7, n8, n9, n10, n11, n12, n13, n14⟩ = if (bnds ⟨a, b, c, d, n4, n5, n6, n7, n8, n9, n10, n11, n12, n13, n14⟩).all okB then 0 else 2 := by unfold checkS; rw [if_neg (by rw [hb]; decide)]
  rw [e] at h
  clear e
  rename_i v w1 o1
  have o2 : Hv w0 (row 77 3 v 11 ((bnds ⟨a, b, c, d, n4, n5, n6, n7, n8, n9, n10, n11, n12, n13, n14⟩).flatMap encB) :: H) w1 := Sub.hv (subRow rfl rfl subEnd)
  have hlen : (bnds ⟨a, b, c, d, n4, n5, n6, n7, n8, n9, n10, n11, n12, n13, n14⟩).length = 11 := rfl
  clear o1
  generalize bnds ⟨a, b, c, d, n4, n5, n6, n7, n8, n9, n10, n11, n12, n13, n14⟩ = bl at *
  refine ⟨fun y s => ∃ (i : Nat) (w' : World), y = .int .i64 i ∧ s = ⟨w', []⟩ ∧ i ≤ 11 ∧ (bl.take i).all okB = true ∧ Hv w0 (row 77 3 v 11 (bl.flatMap encB) :: H) w',
    fun y s => match y with | .int _ z => 11 - z.toNat | _ => 0, ⟨0, w1, rfl, rfl, Nat.zero_le _, rfl, o2⟩, ?_⟩
  rintro y s ⟨i, w2, rfl, rfl, hi, he, o3⟩
  repeat' (first | refine go ?_ | intro _ | refine And.intro (Sd.mk (by (first | exact fun _ => True.intro | exact And.intro (fun _ => True.intro) (fun _ _ => True.intro) | (intro hq; (first | exact True.intro | omega | (simp only [and_true]; omega) | (simp only [Bool.not_eq_true', Bool.not_eq_false', decide_eq_true_eq, decide_eq_false_iff_not, Bool.and_eq_true, Bool.or_eq_true, Bool.or_eq_false_iff, Bool.and_eq_false_imp, Int.not_lt, Int.not_le, Nat.not_lt, Nat.not_le] at hq; (try simp only [and_true]); omega) | fail)) | exact And.intro (fun hq => by first | exact True.intro | omega | (simp only [and_true]; omega) | (simp only [Bool.not_eq_true', Bool.not_eq_false', decide_eq_true_eq, decide_eq_false_iff_not, Bool.and_eq_true, Bool.or_eq_true, Bool.or_eq_false_iff, Bool.and_eq_false_imp, Int.not_lt, Int.not_le, Nat.not_lt, Nat.not_le] at hq; (try simp only [and_true]); omega) | fail) (fun hq hr => by first | exact True.intro | omega | (simp only [and_true]; omega) | (simp only [Bool.not_eq_true', Bool.not_eq_false', decide_eq_true_eq, decide_eq_false_iff_not, Bool.and_eq_true, Bool.or_eq_true, Bool.or_eq_false_iff, Bool.and_eq_false_imp, Int.not_lt, Int.not_le, Nat.not_lt, Nat.not_le] at hq hr; omega) | (simp only [Bool.not_eq_true', Bool.not_eq_false', decide_eq_true_eq, decide_eq_false_iff_not, Bool.and_eq_true, Bool.or_eq_true, Bool.or_eq_false_iff, Bool.and_eq_false_imp, Int.not_lt, Int.not_le, Nat.not_lt, Nat.not_le] at hr; omega) | fail) | fail))) ?_ | refine And.intro (by (first | omega | (unfold InR; omega) | decide | (simp only [List.length_append, List.length_map, List.length_take, List.length_drop, List.length_replicate, List.length_cons, List.length_nil, List.length_set]; omega))) ?_ | (refine And.intro (fun h1 => ?_) (fun h1 => ?_) <;> first | (exact absurd h1 (by decide)) | ((try rw [h1]); (try simp only [Bool.not_eq_true', Bool.not_eq_false', decide_eq_true_eq, decide_eq_false_iff_not, Bool.and_eq_true, Bool.or_eq_true, Bool.or_eq_false_iff, Bool.and_eq_false_imp, Int.not_lt, Int.not_le, Nat.not_lt, Nat.not_le] at h1))) | dsimp only)
  · have hlt : i < bl.length := by omega
    have hb : okB (bl.getD i default) = false := by unfold okB; grind
    rw [ball_at hlt hb] at h
    exact h _ (Sub.hv subEnd)
  · have hlt : i < bl.length := by omega
    have hb : okB (bl.getD i default) = true := by unfold okB; grind
    exact ⟨⟨i + 1, _, rfl, rfl, by omega, by rw [ball_take hlt, he, hb]; rfl, Sub.hv (subRow rfl rfl subEnd)⟩, by simp; omega⟩
  · rw [List.take_of_length_le (by omega)] at he
    rw [he] at h
    exact h _ (Sub.hv subEnd)⟩
def badR1 (c : Cfg) : Bool := ((!serverR c.a || !secretR c.b) || !secretR c.c) || !secretR c.d
def badR2 (c : Cfg) : Bool := (decide (c.c = []) && !decide (c.d = [])) || (!decide (c.c = []) && decide (c.d = []))
def inB (n a b : Int) : Bool := decide (a ≤ n) && decide (n ≤ b)
def rngR1 (c : Cfg) : Bool := ((((((!inB c.n4 1 1000 || !inB c.n5 512 65536) || !inB c.n6 1 1000) || !inB c.n7 1 1000) || !inB c.n8 1 1000) || !inB c.n9 1 1000) || !inB c.n10 1 1000) || !inB c.n11 0 1000
def rngR2 (c : Cfg) : Bool := (!inB c.n12 1 1000000 || !inB c.n13 1 1000000) || !inB c.n14 1 1000000
def checkR (c : Cfg) : Int := if badR1 c then 4 else if badR2 c then 4 else if rngR1 c then 2 else if rngR2 c then 2 else 0
set_option maxRecDepth 20000 in
set_option synthInstance.maxSize 100000 in
set_option synthInstance.maxHeartbeats 4000000 in
instance checkR_ok {K : Value → St → Prop} {w0 w : World} {H : List SL} {ds : List Deferred} {a b c d : List UInt8} {n4 n5 n6 n7 n8 n9 n10 n11 n12 n13 n14 : Int} [o : Hv w0 H w] :
    Step (Cl P 34 #[.agg #[str a, str b, str c, str d, .int .i64 n4, .int .i64 n5, .int .i64 n6, .int .i64 n7, .int .i64 n8, .int .i64 n9, .int .i64 n10, .int .i64 n11, .int .i64 n12, .int .i64 n13, .int .i64 n14]] K ⟨w, ds⟩)
      ((a.length ≤ 1000000000 ∧ b.length ≤ 1000000000 ∧ c.length ≤ 1000000000 ∧ d.length ≤ 1000000000) ∧ ∀ w', Hv w0 H w' → K (.int .i64 (checkR ⟨a, b, c, d, n4, n5, n6, n7, n8, n9, n10, n11, n12, n13, n14⟩)) ⟨w', ds⟩) := ⟨fun ⟨⟨ha, hb, hc, hd⟩, h⟩ => by
  refine cl_ok (c34 (K := fun v w' => K v ⟨w', ds⟩) ?_ fun v w' h => ⟨v, rfl, h⟩)
  unfold D34
  dsimp only
  repeat' (first | refine go ?_ | intro _ | refine And.intro (Sd.mk (by (first | exact fun _ => True.intro | exact And.intro (fun _ => True.intro) (fun _ _ => True.intro) | (intro hq; (first | exact True.intro | omega | (simp only [and_true]; omega) | (simp only [Bool.not_eq_true', Bool.not_eq_false', decide_eq_true_eq, decide_eq_false_iff_not, Bool.and_eq_true, Bool.or_eq_true, Bool.or_eq_false_iff, Bool.and_eq_false_imp, Int.not_lt, Int.not_le, Nat.not_lt, Nat.not_le] at hq; (try simp only [and_true]); omega) | fail)) | exact And.intro (fun hq => by first | exact True.intro | omega | (simp only [and_true]; omega) | (simp only [Bool.not_eq_true', Bool.not_eq_false', decide_eq_true_eq, decide_eq_false_iff_not, Bool.and_eq_true, Bool.or_eq_true, Bool.or_eq_false_iff, Bool.and_eq_false_imp, Int.not_lt, Int.not_le, Nat.not_lt, Nat.not_le] at hq; (try simp only [and_true]); omega) | fail) (fun hq hr => by first | exact True.intro | omega | (simp only [and_true]; omega) | (simp only [Bool.not_eq_true', Bool.not_eq_false', decide_eq_true_eq, decide_eq_false_iff_not, Bool.and_eq_true, Bool.or_eq_true, Bool.or_eq_false_iff, Bool.and_eq_false_imp, Int.not_lt, Int.not_le, Nat.not_lt, Nat.not_le] at hq hr; omega) | (simp only [Bool.not_eq_true', Bool.not_eq_false', decide_eq_true_eq, decide_eq_false_iff_not, Bool.and_eq_true, Bool.or_eq_true, Bool.or_eq_false_iff, Bool.and_eq_false_imp, Int.not_lt, Int.not_le, Nat.not_lt, Nat.not_le] at hr; omega) | fail) | fail))) ?_ | refine And.intro (by (first | omega | (unfold InR; omega) | decide | (simp only [List.length_append, List.length_map, List.length_take, List.length_drop, List.length_replicate, List.length_cons, List.length_nil, List.length_set]; omega))) ?_ | (refine And.intro (fun h1 => ?_) (fun h1 => ?_) <;> first | (exact absurd h1 (by decide)) | ((try rw [h1]); (try simp only [Bool.not_eq_true', Bool.not_eq_false', decide_eq_true_eq, decide_eq_false_iff_not, Bool.and_eq_true, Bool.or_eq_true, Bool.or_eq_false_iff, Bool.and_eq_false_imp, Int.not_lt, Int.not_le, Nat.not_lt, Nat.not_le] at h1))) | dsimp only)
  all_goals
    refine cast (congrArg (fun z => K (.int .i64 z) _) ?_) (h _ (Sub.hv subEnd))
    unfold checkR badR1 badR2 rngR1 rngR2 inB
    dsimp only
    clear h
    grind⟩
/-! the plain law: both answers agree -/
theorem kind16 : ∀ n : Fin 256, ((kindN n.val &&& 16) != 0) = ((letterB (UInt8.ofNat n.val) || digitB (UInt8.ofNat n.val)) || [46, 45, 58].contains (UInt8.ofNat n.val)) := by decide +kernel
theorem kind16B (c : UInt8) : ((kindN c.toNat &&& 16) != 0) = ((letterB c || digitB c) || [46, 45, 58].contains c) := by
  have := kind16 ⟨c.toNat, c.toNat_lt⟩
  simpa using this
theorem letterIB : ∀ n : Fin 256, letterI (n.val : Nat) = letterB (UInt8.ofNat n.val) := by decide +kernel
theorem letterI_eq (c : UInt8) : letterI c.toNat = letterB c := by
  have := letterIB ⟨c.toNat, c.toNat_lt⟩
  simpa using this
theorem range_cons (a : UInt8) (t : List UInt8) (p : UInt8 → Bool → Bool) : (List.range (a :: t).length).all (fun i => p ((a :: t).getD i default) (decide (i = 0))) = (p a true && t.all fun c => p c false) := by
  rw [List.length_cons, List.range_succ_eq_map, List.all_cons, List.all_map]
  congr 1
  have key : ∀ (t : List UInt8), (List.range t.length).all (fun i => p (t.getD i default) false) = t.all fun c => p c false := by
    intro t
    induction t with
    | nil => rfl
    | cons b t ih =>
      rw [List.length_cons, List.range_succ_eq_map, List.all_cons, List.all_map, List.all_cons, ← ih]
      rfl
  rw [← key t]
  refine List.all_congr rfl fun i => ?_
  simp
theorem hcF : ∀ n : Fin 256, hcB (UInt8.ofNat n.val) false = ((kindN n.val &&& 16) != 0) ∧ hcB (UInt8.ofNat n.val) true = (((kindN n.val &&& 16) != 0) && !decide (UInt8.ofNat n.val = 58)) := by decide +kernel
theorem hcB_eq (c : UInt8) : hcB c false = ((kindN c.toNat &&& 16) != 0) ∧ hcB c true = (((kindN c.toNat &&& 16) != 0) && !decide (c = 58)) := by
  have := hcF ⟨c.toNat, c.toNat_lt⟩
  simpa using this
theorem host_eq (l : List UInt8) : hostR l = hostS l := by
  unfold hostR hostS lenS
  cases l with
  | nil => rfl
  | cons a t =>
    rw [range_cons a t hcB, (hcB_eq a).2]
    have : t.all (fun c => hcB c false) = allK 16 t := by
      unfold allK
      exact List.all_congr rfl fun c => (hcB_eq c).1
    rw [this]
    have e2 : allK 16 (a :: t) = (((kindN a.toNat &&& 16) != 0) && allK 16 t) := rfl
    rw [e2, List.getD_cons_zero]
    generalize ((kindN a.toNat &&& 16) != 0) = x
    generalize allK 16 t = y
    generalize decide (a = 58) = z
    have e3 : (decide ((1 : Int) ≤ ((a :: t).length : Int)) && decide (((a :: t).length : Int) ≤ 63)) = !(decide (((a :: t).length : Int) < 1) || decide ((63 : Int) < ((a :: t).length : Int))) := by
      rw [Bool.eq_iff_iff]; simp
    rw [e3]
    generalize (decide (((a :: t).length : Int) < 1) || decide ((63 : Int) < ((a :: t).length : Int))) = u
    cases x <;> cases y <;> cases z <;> cases u <;> rfl
theorem secret_eq (l : List UInt8) : secretR l = secretS l := by
  unfold secretR secretS
  cases l with
  | nil => rfl
  | cons a t =>
    rw [range_cons a t secB]
    have e1 : secB a true = (okc a && !decide (a = 58)) := by unfold secB okc; cases decide (a < 33) <;> cases decide (126 < a) <;> cases decide (a = 58) <;> rfl
    have e2 : (t.all fun c => secB c false) = t.all okc := List.all_congr rfl fun c => by unfold secB okc; cases decide (c < 33) <;> cases decide (126 < c) <;> rfl
    have e3 : decide (((a :: t).length : Int) ≤ 50) = !decide ((50 : Int) < ((a :: t).length : Int)) := by rw [Bool.eq_iff_iff]; simp
    rw [e1, e2, e3, List.all_cons, List.getD_cons_zero]
    have e4 : decide (a :: t = []) = false := rfl
    rw [e4]
    cases okc a <;> cases t.all okc <;> cases decide (a = 58) <;> cases decide ((50 : Int) < ((a :: t).length : Int)) <;> rfl
theorem server_eq (l : List UInt8) : serverR l = serverS l := by
  unfold serverR serverS
  rw [host_eq, letterI_eq]
theorem check_eq (c : Cfg) : checkR c = checkS c := by
  unfold checkR checkS badR1 badR2 badF rngR1 rngR2 bnds inB
  rw [server_eq, secret_eq, secret_eq, secret_eq]
  have hb : ∀ n a b : Int, (decide (a ≤ n) && decide (n ≤ b)) = okB (n, a, b) := fun n a b => by
    unfold okB; rw [Bool.eq_iff_iff]; simp
  simp only [hb, List.all_cons, List.all_nil, Bool.and_true]
  generalize okB (c.n4, 1, 1000) = x4
  generalize okB (c.n5, 512, 65536) = x5
  generalize okB (c.n6, 1, 1000) = x6
  generalize okB (c.n7, 1, 1000) = x7
  generalize okB (c.n8, 1, 1000) = x8
  generalize okB (c.n9, 1, 1000) = x9
  generalize okB (c.n10, 1, 1000) = x10
  generalize okB (c.n11, 0, 1000) = x11
  generalize okB (c.n12, 1, 1000000) = x12
  generalize okB (c.n13, 1, 1000000) = x13
  generalize okB (c.n14, 1, 1000000) = x14
  generalize serverS c.a = y1
  generalize secretS c.b = y2
  generalize secretS c.c = y3
  generalize secretS c.d = y4
  generalize decide (c.c = []) = z1
  generalize decide (c.d = []) = z2
  grind
end Go.Proofs.Ytodnbkggkdadkaa
