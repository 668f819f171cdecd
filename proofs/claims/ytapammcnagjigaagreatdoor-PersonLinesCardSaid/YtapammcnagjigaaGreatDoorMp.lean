import Derived.Test.YtapammcnagjigaaGreatDoorMe
set_option linter.all false
namespace Go.Proofs.YtapammcnagjigaaGreatDoor
open Go.Vx Go.Lib
/-! messages: the plain law -/
/-- What may be ahead of the parameters. -/
def okH (T : List Tag) (pre cmd : List UInt8) : Prop := (T = [] ∨ checkT T = 0) ∧ txtB pre = true ∧ (32 : UInt8) ∉ pre ∧ cmdB cmd = true ∧ capsS cmd = cmd
/-! what is read may be written -/
/-- What a reading gives. -/
def good (l : List UInt8) (m : Msg) : Prop := okH m.1 m.2.1 m.2.2.1 ∧ (∀ p ∈ m.2.2.2, txtB p = true) ∧ m.2.2.2.length ≤ 15 ∧ (∀ p ∈ m.2.2.2.dropLast, spare p = false) ∧ (m.1 = [] → m.2.2.2.length ≠ 15 → (plainM m).length ≤ l.length)
end Go.Proofs.YtapammcnagjigaaGreatDoor

