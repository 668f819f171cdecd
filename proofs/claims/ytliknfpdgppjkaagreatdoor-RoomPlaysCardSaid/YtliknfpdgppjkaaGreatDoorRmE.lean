import Derived.Test.YtliknfpdgppjkaaGreatDoorRmD
set_option linter.all false
namespace Go.Proofs.YtliknfpdgppjkaaGreatDoor
open Go.Vx Go.Lib
/-! who may join, and speak -/
def Rm.banned (x : Rm) (who : List UInt8) : Bool := x.bans.any fun m => mt m who
def Rm.mayJoin (x : Rm) (id : Int) (who key : List UInt8) : Int :=
  if x.flag 105 = true ∧ hasBy nid x.inv id = false then 473 else if x.key ≠ [] ∧ x.key ≠ key then 475 else if 0 < x.limit ∧ x.limit ≤ x.mem.length then 471 else if hasBy nid x.inv id = false ∧ x.banned who = true then 474 else 0
def Rm.maySpeak (x : Rm) (id : Int) (who : List UInt8) : Bool :=
  (x.at id).2.1 || (x.at id).2.2 || ((x.has id || !x.flag 110) && !x.flag 109 && !x.banned who)
theorem flag_is (x : Rm) (c : UInt8) (n : Nat) (h : bitN c = n) : x.flag c = true ↔ ¬ ((x.flags.toNat &&& n : Nat) : Int) = 0 := by
  unfold Rm.flag; subst h; simp
section
set_option maxRecDepth 20000
set_option synthInstance.maxSize 100000
set_option synthInstance.maxHeartbeats 4000000
variable {K : Value → St → Prop} {w0 w : World} {H R : List SL} {ds : List Deferred} {p : Nat} {x : Rm} {id now : Int} {who key : List UInt8}
instance rjoin_ok [o : Hv w0 H w] [i : InK roomR p H x R] : Step (Cl P 31 #[.pointer (some ⟨p, 0, none⟩), .int .i64 id, str who, str key] K ⟨w, ds⟩) ((x.fit ∧ who.length ≤ 1000000) ∧ ∀ w', Hv w0 (roomR p x :: R) w' → K (.int .i64 (x.mayJoin id who key)) ⟨w', ds⟩) := ⟨fun ⟨⟨hf, hw⟩, h⟩ => by
  obtain ⟨vm, vb, s, ok, o1⟩ := room_open (i.hv o)
  clear o
  obtain ⟨f1, f2, f3⟩ := hf
  have fl := ok.flg
  have hbl : ∀ m ∈ x.bans, m.length ≤ 1000000000 := fun m hm => Nat.le_trans (ok.ban m hm) (by omega)
  have g1 := flag_is x 105 1 rfl
  refine s31 ?_
  unfold D31
  repeat' (first | refine go ?_ | intro _ | refine ⟨sb, ?_⟩ | refine ⟨sd, ?_⟩ | (refine ⟨fun h1 => ?_, fun h1 => ?_⟩ <;> first | exact ab h1 | ((try rw [h1]); (try simp only [bl] at h1))) | dsimp only)
  all_goals
    refine cast (congrArg (fun z => K (.int .i64 z) _) ?_) (h _ (Sub.hv (subRoom ok ⟨rfl, rfl, rfl, rfl, rfl, rfl⟩ rfl rfl rfl rfl rfl subEnd)))
    clear h
    unfold Rm.mayJoin Rm.banned
    grind⟩
instance rspeak_ok [o : Hv w0 H w] [i : InK roomR p H x R] : Step (Cl P 25 #[.pointer (some ⟨p, 0, none⟩), .int .i64 id, str who] K ⟨w, ds⟩) ((x.fit ∧ who.length ≤ 1000000) ∧ ∀ w', Hv w0 (roomR p x :: R) w' → K (.bool (x.maySpeak id who)) ⟨w', ds⟩) := ⟨fun ⟨⟨hf, hw⟩, h⟩ => by
  have o0 := i.hv o
  clear o
  refine s25 ?_
  unfold D25
  repeat (first | refine go ?_ | intro _ | refine ⟨sb, ?_⟩ | refine ⟨sd, ?_⟩ | dsimp only)
  rename_i w1 o1
  obtain ⟨vm, vb, s, ok, o2⟩ := room_open ((inferInstance : InK roomR p _ x _).hv o1)
  clear o0 o1
  obtain ⟨f1, f2, f3⟩ := hf
  have fl := ok.flg
  have hbl : ∀ m ∈ x.bans, m.length ≤ 1000000000 := fun m hm => Nat.le_trans (ok.ban m hm) (by omega)
  have g1 := flag_is x 110 4 rfl
  have g2 := flag_is x 109 2 rfl
  repeat' (first | refine go ?_ | intro _ | refine ⟨sb, ?_⟩ | refine ⟨sd, ?_⟩ | (refine ⟨fun h1 => ?_, fun h1 => ?_⟩ <;> first | exact ab h1 | ((try rw [h1]); (try simp only [bl] at h1))) | dsimp only)
  all_goals
    refine cast (congrArg (fun z => K (.bool z) _) ?_) (h _ (Sub.hv (subRoom ok ⟨rfl, rfl, rfl, rfl, rfl, rfl⟩ rfl rfl rfl rfl rfl subEnd)))
    clear h
    unfold Rm.maySpeak Rm.banned
    first
      | grind
      | trace_state⟩
end
end Go.Proofs.YtliknfpdgppjkaaGreatDoor

