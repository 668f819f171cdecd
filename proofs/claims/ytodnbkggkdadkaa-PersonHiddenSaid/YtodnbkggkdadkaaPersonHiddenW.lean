/- The walks of rollcalllaw22.PersonHidden and of what it calls. -/
import Derived.Test.YtodnbkggkdadkaaProg
import Derived.WalkKit
import Derived.KernelRfl
import Derived.Handy
import Derived.WalkLawsBesides
import Derived.WalkSpells
namespace Go.Proofs.Ytodnbkggkdadkaa
open Go.RowKit

set_option maxHeartbeats 1000000 in
theorem seen_a (a b : Int) (oper hidden common : Bool) (w : World) :
  Calls Try.prog 15 #[.agg #[.int .i64 a, .string ⟨#[]⟩, .string ⟨#[]⟩, .string ⟨#[]⟩, .string ⟨#[]⟩, .string ⟨#[]⟩, .bool oper, .bool false, .int .i64 0, .int .i64 0],
    .agg #[.int .i64 b, .string ⟨#[]⟩, .string ⟨#[]⟩, .string ⟨#[]⟩, .string ⟨#[]⟩, .string ⟨#[]⟩, .bool false, .bool hidden, .int .i64 0, .int .i64 0], .bool common] w fun e w' => e = .returned (.bool (!hidden || common || oper || a == b)) ∧ Below w.heap.size w w' := by
  cases hidden <;> cases common <;> cases oper
  all_goals
  go_enter Try.func15, Try.ntmps15
  go_wp2
  go_ret
  exact ⟨rfl, by go_grown⟩

set_option maxHeartbeats 1000000 in
theorem awake22_a (w : World) :
  Calls Try.prog 14 #[] w fun e w' => e = .returned (.bool true) ∧ Below w.heap.size w w' := by
  go_enter Try.func14, Try.ntmps14
  go_wp2
  go_ret
  exact ⟨by kernel_rfl, by go_grown⟩

set_option maxHeartbeats 1000000 in
theorem personHidden_walk (a b : Int) (oper hidden common : Bool) (w : World) :
  Calls Try.prog 3 #[.int .i64 a, .int .i64 b, .bool oper, .bool hidden, .bool common] w fun e w' => e = .returned (.bool true) ∧ Below w.heap.size w w' := by
  by_cases hab : a = b
  · have h1 : (a == b) = true := by simpa using hab
    cases hidden <;> cases common <;> cases oper
    all_goals
    go_enter Try.func3, Try.ntmps3
    go_wp2_with (first | (go_at_call 14; refine (awake22_a _).mono ?_; rintro e w1 ⟨rfl, hb1⟩) | (go_at_call 15; refine (seen_a _ _ _ _ _ _).mono ?_; rintro e w2 ⟨rfl, hb2⟩))
    go_ret
    exact ⟨rfl, hb1.trans (hb2.mono hb1.size)⟩
  · have h1 : (a == b) = false := by simpa using hab
    cases hidden <;> cases common <;> cases oper
    all_goals
    go_enter Try.func3, Try.ntmps3
    go_wp2_with (first | (go_at_call 14; refine (awake22_a _).mono ?_; rintro e w1 ⟨rfl, hb1⟩) | (go_at_call 15; refine (seen_a _ _ _ _ _ _).mono ?_; rintro e w2 ⟨rfl, hb2⟩))
    go_ret
    exact ⟨rfl, hb1.trans (hb2.mono hb1.size)⟩
end Go.Proofs.Ytodnbkggkdadkaa
