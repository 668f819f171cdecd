import Derived.Test.YtapammcnagjigaaGreatDoorMj
set_option linter.all false
namespace Go.Proofs.YtapammcnagjigaaGreatDoor
open Go.Vx Go.Lib
/-! whether a message may be written -/
theorem text_len2 {T : List Tag} (h : fits T) (hl : T.length ≤ 20) : (textT T).length ≤ 100000 := by
  unfold textT
  split
  · simp
  · have := join_len (T.map pieceT) fun p hp => by
      obtain ⟨t, ht, rfl⟩ := List.mem_map.1 hp
      exact piece_len (h.2 t ht)
    rw [List.length_map] at this
    omega
/-- How great a message may be here. -/
class okS (m : Msg) : Prop where
  ft : fits m.1
  tl : m.1.length ≤ 20
  pl : m.2.1.length ≤ 100000
  cl : m.2.2.1.length ≤ 100000
  nl : m.2.2.2.length ≤ 100
  al : ∀ p ∈ m.2.2.2, p.length ≤ 1000
section
variable {K : Value → St → Prop} {w0 w : World} {H R : List SL} {ds : List Deferred} {l : List UInt8}
variable {xt xp : Value} {T : List Tag} {ps : List (List UInt8)} {nt np : Nat} {zt zp : List Value} {pre cmd : List UInt8}
end
/-! what is read is small -/
structure szM (m : Msg) : Prop where
  t : m.1 = [] ∨ ∃ s : List UInt8, s.length ≤ 510 ∧ m.1 = (parseT s).1
  p : m.2.1.length ≤ 510
  c : m.2.2.1.length ≤ 510
  a : ∀ p ∈ m.2.2.2, p.length ≤ 510
end Go.Proofs.YtapammcnagjigaaGreatDoor

