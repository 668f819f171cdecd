import Derived.Test.YtliknfpdgppjkaaGreatDoorRmV
set_option linter.all false
namespace Go.Proofs.YtliknfpdgppjkaaGreatDoor
open Go.Vx Go.Lib
section
set_option maxRecDepth 20000
set_option synthInstance.maxSize 100000
set_option synthInstance.maxHeartbeats 4000000
instance {a : Act} : Encs encA [.int .i64 a.k, .int .i64 a.id, .bool a.op, str a.s, .bool a.on, byteV a.le, str a.arg] [a] := ⟨rfl⟩
theorem room_ok {w0 w : World} {p : Nat} {x : Rm} {R : List SL} (h : Hv w0 (roomR p x :: R) w) : x.ok := by
  obtain ⟨_, _, _, ok, _⟩ := room_open h
  exact ok
theorem rranks_ok {w : World} {v : Value} {acts : List Act} [tb : PowT w] (id : Int) (who : List UInt8) (hp : Arg w v 7 acts.length (acts.flatMap encA)) : Calls P 5 #[v, .int .i64 id, str who] w fun e w' => e = .returned (.bool true) ∧ Hv w [] w' := by
  have o := Hv.begin w
  refine law_of ?_
  refine s5 ?_
  unfold D5
  repeat' (first | refine go ?_ | intro _ | refine ⟨sb, ?_⟩ | refine ⟨sd, ?_⟩ | (refine ⟨fun h1 => ?_, fun h1 => ?_⟩ <;> first | exact ab h1 | ((try rw [h1]); (try simp only [bl] at h1))) | dsimp only)
  · exact ⟨rfl, Sub.hv subEnd⟩
  obtain ⟨hb, hw⟩ := h1
  rename_i b0 w0 gr o0 p w1 o1 q w2 o2
  obtain ⟨ha, ha2⟩ := gr hb
  clear o o0 o1
  refine ⟨fun z s => ∃ (i : Nat) (x : Rm) (y : Rf) (w' : World), z = .int .i64 i ∧ s = ⟨w', []⟩ ∧ i ≤ acts.length ∧ Gr i x y ∧ Hv w [roomR p x, refR q y] w',
      fun z s => match z with | .int _ z => acts.length - z.toNat | _ => 0, ⟨0, _, _, w2, rfl, rfl, Nat.zero_le _, Gr.new .., Sub.hv (subK rfl (subK rfl subEnd))⟩, ?_⟩
  rintro z s ⟨i, x, y, w3, rfl, rfl, hi, hg, o3⟩
  clear o2
  have hft := hg.fit (by omega)
  rcases Nat.lt_or_ge i acts.length with hlt | hge
  · have hs := ha2 _ (getD_mem hlt)
    repeat' (first | refine go ?_ | intro _ | refine ⟨sb, ?_⟩ | refine ⟨sd, ?_⟩ | (refine ⟨fun h1 => ?_, fun h1 => ?_⟩ <;> first | exact ab h1 | ((try rw [h1]); (try simp only [bl] at h1))) | dsimp only)
    · refine And.intro ⟨hft, hs⟩ ?_
      intro w4 o4
      clear o3
      repeat' (first | refine go ?_ | intro _ | refine ⟨sb, ?_⟩ | refine ⟨sd, ?_⟩ | (refine ⟨fun h1 => ?_, fun h1 => ?_⟩ <;> first | exact ab h1 | ((try rw [h1]); (try simp only [bl] at h1))) | dsimp only)
      exact ⟨⟨i + 1, _, _, _, rfl, rfl, hlt, hg.act (acts.getD i default), Sub.hv (subK rfl (subK rfl subEnd))⟩, by simp; omega⟩
    · exfalso; omega
  · have ok := room_ok o3
    have f1 := hft.1
    have hbl : ∀ m ∈ x.bans, m.length ≤ 999999 := fun m hm => Nat.le_trans (ok.ban m hm) (by omega)
    have hbn : x.bans.length ≤ 100 := by have := hg.b; omega
    repeat' (first | refine go ?_ | intro _ | refine ⟨sb, ?_⟩ | refine ⟨sd, ?_⟩ | (refine ⟨fun h1 => ?_, fun h1 => ?_⟩ <;> first | exact ab h1 | ((try rw [h1]); (try simp only [bl] at h1))) | dsimp only)
    · exfalso; omega
    · refine ⟨?_, Sub.hv subEnd⟩
      unfold Rm.maySpeak
      rcases h1 with h1 | h1 <;> simp [h1]
    · rename_i v2 w5 o5
      obtain ⟨n1, n2⟩ := h1
      refine ⟨fun z u s => ∃ (j : Nat) (w' : World), z = .bool ((x.bans.take j).any fun m => mt m who) ∧ u = .int .i64 j ∧ s = ⟨w', []⟩ ∧ j ≤ x.bans.length ∧ Hv w (row 9 1 v2 x.bans.length (x.bans.map str) :: [roomR p x, refR q y]) w',
        fun z u s => match u with | .int _ z => x.bans.length - z.toNat | _ => 0, ⟨0, w5, rfl, rfl, rfl, Nat.zero_le _, Sub.hv (subRow rfl rfl (subK rfl (subK rfl subEnd)))⟩, ?_⟩
      rintro z u s ⟨j, w6, rfl, rfl, rfl, hj, o6⟩
      clear o5 o3
      rcases Nat.lt_or_ge j x.bans.length with hjl | hjg
      · have hm1 := hbl _ (getD_mem hjl)
        have ha3 : (x.bans.take (j + 1)).any (fun m => mt m who) = ((x.bans.take j).any (fun m => mt m who) || mt (x.bans.getD j default) who) := by rw [take_snoc hjl, List.any_append]; simp
        repeat' (first | refine go ?_ | intro _ | refine ⟨sb, ?_⟩ | refine ⟨sd, ?_⟩ | (refine ⟨fun h1 => ?_, fun h1 => ?_⟩ <;> first | exact ab h1 | ((try rw [h1]); (try simp only [bl] at h1))) | dsimp only)
        · exact ⟨⟨j + 1, _, by rw [ha3, h1]; rfl, rfl, rfl, hjl, Sub.hv (subRow rfl rfl (subK rfl (subK rfl subEnd)))⟩, by simp; omega⟩
        · exact ⟨⟨j + 1, _, by rw [ha3, h1]; rfl, rfl, rfl, hjl, Sub.hv (subRow rfl rfl (subK rfl (subK rfl subEnd)))⟩, by simp; omega⟩
        · exfalso; omega
      · rw [List.take_of_length_le hjg]
        repeat' (first | refine go ?_ | intro _ | refine ⟨sb, ?_⟩ | refine ⟨sd, ?_⟩ | (refine ⟨fun h1 => ?_, fun h1 => ?_⟩ <;> first | exact ab h1 | ((try rw [h1]); (try simp only [bl] at h1))) | dsimp only)
        · exfalso; omega
        all_goals
          refine ⟨congrArg Value.bool ?_, Sub.hv subEnd⟩
          unfold Rm.maySpeak Rm.banned
          simp [*]
end
end Go.Proofs.YtliknfpdgppjkaaGreatDoor

