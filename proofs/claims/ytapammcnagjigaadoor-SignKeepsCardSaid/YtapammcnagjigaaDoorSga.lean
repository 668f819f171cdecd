import Derived.Test.YtapammcnagjigaaDoorMf
import Derived.Test.YtapammcnagjigaaDoorShM
set_option linter.all false
namespace Go.Proofs.YtapammcnagjigaaDoor
open Go.Vx Go.Lib
/-! what connections tell: words, capabilities -/
def orI (a b : Int) : Int := IntKind.i64.wrap ((BitVec.ofInt 64 a ||| BitVec.ofInt 64 b).toNat : Int)
def andI (a b : Int) : Int := IntKind.i64.wrap ((BitVec.ofInt 64 a &&& BitVec.ofInt 64 b).toNat : Int)
def exI (a b : Int) : Int := IntKind.i64.wrap ((BitVec.ofInt 64 a &&& ~~~ BitVec.ofInt 64 b).toNat : Int)
section
variable {w : World} {t : TypeId} {cx cy : Bool}
instance {a b : Int} : VT (Bo P .or t cx cy (.int .i64 a) (.int .i64 b)) w (.int .i64 (orI a b)) := VT.of (by rw [bo_int, binOp_or]; rfl)
instance {a b : Int} : VT (Bo P .and t cx cy (.int .i64 a) (.int .i64 b)) w (.int .i64 (andI a b)) := VT.of (by rw [bo_int, binOp_and]; rfl)
theorem binOp_ex (t : TypeId) (k : IntKind) (a b : Int) : True := trivial
end
section
set_option maxRecDepth 20000
set_option synthInstance.maxSize 100000
set_option synthInstance.maxHeartbeats 4000000
variable {K : Value → St → Prop} {w0 w : World} {H : List SL} {ds : List Deferred} {l : List UInt8}
instance refused_ok {n : Nat} : Step (Cl P 155 #[.int .i64 n] K ⟨w, ds⟩) ((n = 461 ∨ n = 462 ∨ n = 468) ∧ ∀ s : List UInt8, s.length ≤ 40 → K (str s) ⟨w, ds⟩) := ⟨fun ⟨hn, h⟩ => by
  refine cl_ok (c155 (K := fun v w' => K v ⟨w', ds⟩) ?_ fun v w' h => ⟨v, rfl, h⟩)
  unfold D155
  rcases hn with rfl | rfl | rfl
  all_goals
    repeat first
      | refine And.intro (fun h1 => absurd h1 (by decide)) (fun _ => ?_)
      | refine And.intro (fun _ => ?_) (fun h1 => absurd h1 (by decide))
      | refine go ?_
  · exact h [78, 111, 116, 32, 101, 110, 111, 117, 103, 104, 32, 112, 97, 114, 97, 109, 101, 116, 101, 114, 115] (by decide)
  · exact h [89, 111, 117, 32, 109, 97, 121, 32, 110, 111, 116, 32, 114, 101, 114, 101, 103, 105, 115, 116, 101, 114] (by decide)
  · exact h [73, 110, 118, 97, 108, 105, 100, 32, 117, 115, 101, 114, 110, 97, 109, 101] (by decide)⟩
instance wrong_ok {n : Nat} : Step (Cl P 134 #[.int .i64 n] K ⟨w, ds⟩) ((n = 410 ∨ n = 461 ∨ n = 462 ∨ n = 468) ∧ ∀ s : List UInt8, s.length ≤ 40 → K (str s) ⟨w, ds⟩) := ⟨fun ⟨hn, h⟩ => by
  refine cl_ok (c134 (K := fun v w' => K v ⟨w', ds⟩) ?_ fun v w' h => ⟨v, rfl, h⟩)
  unfold D134
  rcases hn with rfl | rfl | rfl | rfl
  all_goals
    repeat first
      | refine And.intro (fun h1 => absurd h1 (by decide)) (fun _ => ?_)
      | refine And.intro (fun _ => ?_) (fun h1 => absurd h1 (by decide))
      | refine (refused_ok (n := 461)).prf ⟨by decide, fun s hs => ?_⟩
      | refine (refused_ok (n := 462)).prf ⟨by decide, fun s hs => ?_⟩
      | refine (refused_ok (n := 468)).prf ⟨by decide, fun s hs => ?_⟩
      | refine go ?_
  · exact h [73, 110, 118, 97, 108, 105, 100, 32, 67, 65, 80, 32, 99, 111, 109, 109, 97, 110, 100] (by decide)
  all_goals exact h s hs⟩
instance words_ok {n : Nat} : Step (Cl P 106 #[.int .i64 n] K ⟨w, ds⟩) ((n = 410 ∨ n = 461 ∨ n = 462 ∨ n = 468) ∧ ∀ s : List UInt8, s.length ≤ 40 → K (str s) ⟨w, ds⟩) := ⟨fun ⟨hn, h⟩ => by
  refine cl_ok (c106 (K := fun v w' => K v ⟨w', ds⟩) ?_ fun v w' h => ⟨v, rfl, h⟩)
  unfold D106
  rcases hn with rfl | rfl | rfl | rfl
  all_goals
    repeat first
      | refine And.intro (fun h1 => absurd h1 (by decide)) (fun _ => ?_)
      | refine And.intro (fun _ => ?_) (fun h1 => absurd h1 (by decide))
      | refine (wrong_ok (n := 410)).prf ⟨by decide, fun s hs => ?_⟩
      | refine (wrong_ok (n := 461)).prf ⟨by decide, fun s hs => ?_⟩
      | refine (wrong_ok (n := 462)).prf ⟨by decide, fun s hs => ?_⟩
      | refine (wrong_ok (n := 468)).prf ⟨by decide, fun s hs => ?_⟩
      | refine go ?_
  all_goals exact h s hs⟩
variable {xp : Value} {ps : List (List UInt8)} {np : Nat} {zp : List Value} {server tgt : List UInt8}
instance told_ok {n : Nat} [o : Hv w0 H w] [rp : RdsF w0 H xp 1 np zp] [ep : Strs zp ps] :
    Step (Cl P 67 #[str server, .int .i64 n, str tgt, xp] K ⟨w, ds⟩) (((n = 410 ∨ n = 461 ∨ n = 462 ∨ n = 468) ∧ server.length ≤ 10000 ∧ tgt.length ≤ 900 ∧ ps.length ≤ 900 ∧ ∀ p ∈ ps, p.length ≤ 900) ∧ ∀ s w', Hv w0 H w' → K (str s) ⟨w', ds⟩) := ⟨fun ⟨⟨hn, hs, ht, hpl, hpp⟩, h⟩ => by
  refine cl_ok (c67 (K := fun v w' => K v ⟨w', ds⟩) ?_ fun v w' h => ⟨v, rfl, h⟩)
  have lp : RdsL w0 H xp 1 np zp := rp.loc
  have r1 := rp.rd w o
  have em : np = ps.length := by have := r1.len; rw [ep.eq] at this; simpa using this.symm
  obtain rfl := ep.eq
  clear r1 ep
  subst em
  unfold D67
  dsimp only
  have o2 := Hv.nilRow 9 1 o
  clear o
  repeat' (first | refine go ?_ | intro _ | refine And.intro (Sd.mk (by (first | exact fun _ => True.intro | exact And.intro (fun _ => True.intro) (fun _ _ => True.intro) | (intro hq; (first | exact True.intro | omega | (simp only [and_true]; omega) | (simp only [bl] at hq; (try simp only [and_true]); omega) | fail)) | exact And.intro (fun hq => by first | exact True.intro | omega | (simp only [and_true]; omega) | (simp only [bl] at hq; (try simp only [and_true]); omega) | fail) (fun hq hr => by first | exact True.intro | omega | (simp only [and_true]; omega) | (simp only [bl] at hq hr; omega) | (simp only [bl] at hr; omega) | fail) | fail))) ?_ | refine And.intro (by (first | omega | (unfold InR; omega) | decide | (simp only [ll]; omega))) ?_ | (refine And.intro (fun h1 => ?_) (fun h1 => ?_) <;> first | (exact absurd h1 (by decide)) | ((try rw [h1]); (try simp only [bl] at h1))) | dsimp only)
  rename_i sw hsw _ _ _ _ _ _ _ _
  refine And.intro ⟨hs, by omega, by omega, by simp; omega, fun p hp => ?_⟩ fun w5 o5 => ?_
  · simp only [List.nil_append, List.mem_append, List.mem_singleton] at hp
    rcases hp with hp | rfl
    · have := hpp p hp; omega
    · omega
  · exact h _ _ (Sub.hv subEnd)⟩
end
/-! capitals -/
class Tabs (w : World) : Prop where ok : Lib.Utf8Tabs 1 2 w
def upR (z : Int) : Int := if 97 ≤ z ∧ z ≤ 122 then z - 32 else z
def upS (l : List UInt8) : List UInt8 := Lib.mapD upR l
instance {w : World} {t : TypeId} {cx cy : Bool} {a b : Int} : VS (Bo P .sub t cx cy (.int .i32 a) (.int .i32 b)) w (-2147483648 ≤ a - b ∧ a - b ≤ 2147483647) (.int .i32 (a - b)) := VS.of fun h => by
  rw [bo_int, binOp_sub]; simp only [Op.intArith, Sem.run_pure]
  rw [show IntKind.i32.wrap (a - b) = a - b by rw [IntKind.wrap_i32]; omega]
theorem up_calls (W : World) (x : Nat) (hx : x ≤ 1114111) : Calls P 110 #[.int .i32 x] W fun e w' => e = .returned (.int .i32 (upR x)) ∧ Go.RowKit.Below W.heap.size W w' := by
  refine c110 (K := fun v w' => v = .int .i32 (upR x) ∧ Hv W [] w') ?_ fun v w' h => ⟨by rw [h.1], h.2.bel⟩
  have o := Hv.begin W
  unfold D110
  repeat' (first | refine go ?_ | intro _ | refine And.intro (Sd.mk (by (first | exact fun _ => True.intro | exact And.intro (fun _ => True.intro) (fun _ _ => True.intro) | (intro hq; (first | exact True.intro | omega | (simp only [and_true]; omega) | (simp only [bl] at hq; (try simp only [and_true]); omega) | fail)) | exact And.intro (fun hq => by first | exact True.intro | omega | (simp only [and_true]; omega) | (simp only [bl] at hq; (try simp only [and_true]); omega) | fail) (fun hq hr => by first | exact True.intro | omega | (simp only [and_true]; omega) | (simp only [bl] at hq hr; omega) | (simp only [bl] at hr; omega) | fail) | fail))) ?_ | refine And.intro (by (first | omega | (unfold InR; omega) | decide | (simp only [ll]; omega))) ?_ | (refine And.intro (fun h1 => ?_) (fun h1 => ?_) <;> first | (exact absurd h1 (by decide)) | ((try rw [h1]); (try simp only [bl] at h1))) | dsimp only)
  · have e : upR x = (x : Int) - 32 := by unfold upR; rw [if_pos h1]
    rw [e]
    repeat' (first | refine go ?_ | intro _ | refine And.intro (Sd.mk (by (first | exact fun _ => True.intro | exact And.intro (fun _ => True.intro) (fun _ _ => True.intro) | (intro hq; (first | exact True.intro | omega | (simp only [and_true]; omega) | (simp only [bl] at hq; (try simp only [and_true]); omega) | fail)) | exact And.intro (fun hq => by first | exact True.intro | omega | (simp only [and_true]; omega) | (simp only [bl] at hq; (try simp only [and_true]); omega) | fail) (fun hq hr => by first | exact True.intro | omega | (simp only [and_true]; omega) | (simp only [bl] at hq hr; omega) | (simp only [bl] at hr; omega) | fail) | fail))) ?_ | refine And.intro (by (first | omega | (unfold InR; omega) | decide | (simp only [ll]; omega))) ?_ | (refine And.intro (fun h1 => ?_) (fun h1 => ?_) <;> first | (exact absurd h1 (by decide)) | ((try rw [h1]); (try simp only [bl] at h1))) | dsimp only)
    exact ⟨rfl, Sub.hv subEnd⟩
  · have e : upR x = x := by unfold upR; rw [if_neg (fun h => by omega)]
    rw [e]
    exact ⟨rfl, Sub.hv subEnd⟩
section
variable {K : Value → St → Prop} {w0 w : World} {H : List SL} {ds : List Deferred} {l : List UInt8}
instance caps_ok [o : Hv w0 H w] [tb : Tabs w0] : Step (Cl P 70 #[str l] K ⟨w, ds⟩) (l.length ≤ 100000 ∧ ∀ w', Hv w0 H w' → K (str (upS l)) ⟨w', ds⟩) := ⟨fun ⟨hl, h⟩ => by
  refine cl_ok (c70 (K := fun v w' => K v ⟨w', ds⟩) ?_ fun v w' h => ⟨v, rfl, h⟩)
  unfold D70
  have hM := Tryd.strings_Map_grows 110 #[] (fun args w => call_body (by kernel_rfl) args w) upR ⟨l.toArray⟩ w (by show l.toArray.size < _; simp; omega) (fun W x hx _ => (up_calls W x hx)) (fun x hx => by unfold upR; split <;> omega) (Utf8Tabs_below tb.ok o.bel)
  refine cl_ok (hM.mono fun e w' ⟨he, hw⟩ => ?_)
  refine ⟨_, he, ?_⟩
  refine go ?_
  exact h _ (o.call (G := []) ⟨hw, emp, fun _ h => h.elim, fun _ h => h⟩)⟩
theorem up_req : upS [82, 69, 81] = [82, 69, 81] := by decide
end
end Go.Proofs.YtapammcnagjigaaDoor

