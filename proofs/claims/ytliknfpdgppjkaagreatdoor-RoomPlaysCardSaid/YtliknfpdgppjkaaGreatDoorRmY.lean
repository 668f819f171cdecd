import Derived.Test.YtliknfpdgppjkaaGreatDoorRmX
set_option linter.all false
namespace Go.Proofs.YtliknfpdgppjkaaGreatDoor
open Go.Vx Go.Lib
section
set_option maxRecDepth 20000
set_option synthInstance.maxSize 100000
set_option synthInstance.maxHeartbeats 4000000
theorem subAll (R : List SL) : Sub R R := ⟨fun h => ⟨_, fun _ hb => hb, h⟩⟩
theorem rplays_ok {w : World} {v : Value} {acts : List Act} [tb : PowT w] (mb : Int) (hp : Arg w v 7 acts.length (acts.flatMap encA)) : Calls P 4 #[.int .i64 mb, v] w fun e w' => e = .returned (.bool true) ∧ Hv w [] w' := by
  have o := Hv.begin w
  refine law_of ?_
  refine s4 ?_
  unfold D4
  repeat' (first | refine go ?_ | intro _ | refine ⟨sb, ?_⟩ | refine ⟨sd, ?_⟩ | (refine ⟨fun h1 => ?_, fun h1 => ?_⟩ <;> first | exact ab h1 | ((try rw [h1]); (try simp only [bl] at h1))) | dsimp only)
  · exact ⟨rfl, Sub.hv subEnd⟩
  have hb := h1
  rename_i b0 w0 gr o0 p w1 o1 q w2 o2
  obtain ⟨ha, ha2⟩ := gr hb
  clear o o0 o1
  refine ⟨fun z s => ∃ (i : Nat) (x : Rm) (y : Rf) (w' : World), z = .int .i64 i ∧ s = ⟨w', []⟩ ∧ i ≤ acts.length ∧ Gr i x y ∧ Rel x y ∧ Hv w [roomR p x, refR q y] w',
      fun z s => match z with | .int _ z => acts.length - z.toNat | _ => 0, ⟨0, _, _, w2, rfl, rfl, Nat.zero_le _, Gr.new .., Rel.new mb, Sub.hv (subK rfl (subK rfl subEnd))⟩, ?_⟩
  rintro z s ⟨i, x, y, w3, rfl, rfl, hi, hg, hr, o3⟩
  clear o2
  have hft := hg.fit (by omega)
  rcases Nat.lt_or_ge i acts.length with hlt | hge
  · have hs := ha2 _ (getD_mem hlt)
    have ok := room_ok ((inferInstance : InK roomR p _ x _).hv o3)
    repeat' (first | refine go ?_ | intro _ | refine ⟨sb, ?_⟩ | refine ⟨sd, ?_⟩ | (refine ⟨fun h1 => ?_, fun h1 => ?_⟩ <;> first | exact ab h1 | ((try rw [h1]); (try simp only [bl] at h1))) | dsimp only)
    · refine And.intro ⟨hft, hs⟩ ?_
      intro w4 o4
      clear o3
      obtain ⟨hr2, hab⟩ := hr.act ok (acts.getD i default)
      rw [show actB x y ⟨(acts.getD i default).k, (acts.getD i default).id, (acts.getD i default).op, (acts.getD i default).s, (acts.getD i default).on, (acts.getD i default).le, (acts.getD i default).arg⟩ = true from hab]
      have hg2 := hg.act (acts.getD i default)
      obtain ⟨x2, ex⟩ : ∃ x2, x2 = x.act (acts.getD i default) := ⟨_, rfl⟩
      obtain ⟨y2, ey⟩ : ∃ y2, y2 = y.act (acts.getD i default) := ⟨_, rfl⟩
      have o5 : Hv w [roomR p x2, refR q y2] w4 := by rw [ex, ey]; exact o4
      rw [← ex, ← ey] at hr2 hg2
      clear o4 hg hr hft ok ex ey
      have ok := room_ok ((inferInstance : InK roomR p _ x2 _).hv o5)
      have hft := hg2.fit (by omega)
      have f1 := hft.1
      have f2 := hft.2.1
      have hbn : x2.bans.length ≤ 100 := by have := hg2.b; omega
      repeat' (first | refine go ?_ | intro _ | refine ⟨sb, ?_⟩ | refine ⟨sd, ?_⟩ | (refine ⟨fun h1 => ?_, fun h1 => ?_⟩ <;> first | exact ab h1 | ((try rw [h1]); (try simp only [bl] at h1))) | dsimp only)
      rename_i wA oA
      obtain ⟨vm, vb, vg, oB⟩ := ref_open ((inferInstance : InK refR q _ y2 _).hv oA)
      clear oA
      repeat' (first | refine go ?_ | intro _ | refine ⟨sb, ?_⟩ | refine ⟨sd, ?_⟩ | (refine ⟨fun h1 => ?_, fun h1 => ?_⟩ <;> first | exact ab h1 | ((try rw [h1]); (try simp only [bl] at h1))) | dsimp only)
      · rename_i wC oC
        have oD : Hv w (refR q y2 :: _) wC := Sub.hv (o := oC) (subRefR ⟨rfl, rfl, rfl, rfl, rfl, rfl⟩ rfl rfl rfl rfl rfl rfl (subAll _))
        clear oC oB
        have hmem := hr2.members ok
        have hmo := hr2.modes ok
        have hfl := hr2.fl
        have htp := hr2.top
        have f3 : y2.key.length ≤ 100 := by rw [← hr2.key]; exact Nat.le_trans ok.key (by omega)
        have f4 : 0 ≤ y2.limit ∧ y2.limit ≤ 9999 := by rw [← hr2.lim]; exact ok.lim
        have ml : ∀ (z : Rm) b, (z.modes b).length ≤ 100000 := fun z b => by
          have := mArg_len z b letL
          simp only [Rm.modes, List.length_cons, letL, List.length_nil] at this ⊢; omega
        have ml1 := ml x2 true
        have ml2 := ml x2 false
        have ml3 : (y2.modes true).length ≤ 100000 := by rw [← hmo]; exact ml1
        have ml4 : (y2.modes false).length ≤ 100000 := by rw [← hmo]; exact ml2
        rcases hr2.has (acts.getD i default).id with ⟨hh, hat⟩ | ⟨hh, k, hat, hk, he, hid⟩
        · have hem := Rm.at_not hh
          repeat' (first | refine go ?_ | intro _ | refine ⟨sb, ?_⟩ | refine ⟨sd, ?_⟩ | (refine ⟨fun h1 => ?_, fun h1 => ?_⟩ <;> first | exact ab h1 | ((try rw [h1]); (try simp only [bl] at h1))) | dsimp only)
          · exfalso; rw [hh] at h1; cases h1
          · exfalso; rw [hem] at h1; simp at h1
          · rename_i wE oE
            obtain ⟨vm, vb, vg, oF⟩ := ref_open ((inferInstance : InK refR q _ y2 _).hv oE)
            clear oE
            repeat' (first | refine go ?_ | intro _ | refine ⟨sb, ?_⟩ | refine ⟨sd, ?_⟩ | (refine ⟨fun h1 => ?_, fun h1 => ?_⟩ <;> first | exact ab h1 | ((try rw [h1]); (try simp only [bl] at h1))) | dsimp only)
            · rename_i wG oG
              have oH : Hv w (refR q y2 :: _) wG := Sub.hv (o := oG) (subRefR ⟨rfl, rfl, rfl, rfl, rfl, rfl⟩ rfl rfl rfl rfl rfl rfl (subAll _))
              clear oG oF
              repeat' (first | refine go ?_ | intro _ | refine ⟨sb, ?_⟩ | refine ⟨sd, ?_⟩ | (refine ⟨fun h1 => ?_, fun h1 => ?_⟩ <;> first | exact ab h1 | ((try rw [h1]); (try simp only [bl] at h1))) | dsimp only)
              all_goals first
                | exact absurd (hmo _) h1
                | exact ⟨⟨i + 1, _, _, _, rfl, rfl, hlt, hg2, hr2, Sub.hv (subK rfl (subK rfl subEnd))⟩, by simp; omega⟩
                | (exfalso; rw [hfl] at h1; simp at h1; done)
                | skip
            · exact absurd htp h1
          · exact absurd hr2.nm h1
          · exfalso; rw [hh, hat] at h1; simp at h1
          · exact absurd hmem h1
        · repeat' (first | refine go ?_ | intro _ | refine ⟨sb, ?_⟩ | refine ⟨sd, ?_⟩ | (refine ⟨fun h1 => ?_, fun h1 => ?_⟩ <;> first | exact ab h1 | ((try rw [h1]); (try simp only [bl] at h1))) | dsimp only)
          · rename_i wE oE hz hx
            obtain ⟨vm, vb, vg, oF⟩ := ref_open ((inferInstance : InK refR q _ y2 _).hv oE)
            clear oE
            rw [hat]
            repeat' (first | refine go ?_ | intro _ | refine ⟨sb, ?_⟩ | refine ⟨sd, ?_⟩ | (refine ⟨fun h1 => ?_, fun h1 => ?_⟩ <;> first | exact ab h1 | ((try rw [h1]); (try simp only [bl] at h1))) | dsimp only)
            · rename_i wG oG
              have oH : Hv w (refR q y2 :: _) wG := Sub.hv (o := oG) (subRefR ⟨rfl, rfl, rfl, rfl, rfl, rfl⟩ rfl rfl rfl rfl rfl rfl (subAll _))
              clear oG oF
              repeat' (first | refine go ?_ | intro _ | refine ⟨sb, ?_⟩ | refine ⟨sd, ?_⟩ | (refine ⟨fun h1 => ?_, fun h1 => ?_⟩ <;> first | exact ab h1 | ((try rw [h1]); (try simp only [bl] at h1))) | dsimp only)
              all_goals first
                | exact absurd (hmo _) h1
                | exact ⟨⟨i + 1, _, _, _, rfl, rfl, hlt, hg2, hr2, Sub.hv (subK rfl (subK rfl subEnd))⟩, by simp; omega⟩
                | (exfalso; rw [hfl] at h1; simp at h1; done)
                | skip
            · exact absurd htp h1
            · exact absurd hr2.nm h1
            · exfalso; rw [he] at h1; simp at h1
          · exfalso; have hq : x2.has (acts.getD i default).id = false := by assumption
            rw [hh] at hq; cases hq
          · exfalso; have hq : x2.has (acts.getD i default).id = false := by assumption
            rw [hh] at hq; cases hq
          · exfalso; have hq : x2.has (acts.getD i default).id = false := by assumption
            rw [hh] at hq; cases hq
          · exfalso; rw [hh, hat] at h1; simp at h1
          · exact absurd hmem h1
      · exact absurd hr2.bans h1
    · exfalso; omega
  · repeat' (first | refine go ?_ | intro _ | refine ⟨sb, ?_⟩ | refine ⟨sd, ?_⟩ | (refine ⟨fun h1 => ?_, fun h1 => ?_⟩ <;> first | exact ab h1 | ((try rw [h1]); (try simp only [bl] at h1))) | dsimp only)
    · exfalso; omega
    · exact ⟨rfl, Sub.hv subEnd⟩
end
end Go.Proofs.YtliknfpdgppjkaaGreatDoor

