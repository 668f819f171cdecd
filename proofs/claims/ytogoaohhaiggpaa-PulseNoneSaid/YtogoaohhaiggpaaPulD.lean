import Derived.Test.YtogoaohhaiggpaaPulC
set_option linter.all false
namespace Go.Proofs.Ytogoaohhaiggpaa
open Go.Vx
/-! what is due, told; the document's pulse, in memory -/
section
set_option maxRecDepth 20000
set_option synthInstance.maxSize 100000
set_option synthInstance.maxHeartbeats 4000000
theorem pdue_seq {w0 : World} {T : List SL} {v : Value} {ks : List Int} {g : Int → Option Int} (b1 b2 wm : Nat) :
    SeqOf P w0 (.func (.func 30) #[] #[.pointer (some ⟨b1, 0, none⟩), .pointer (some ⟨b2, 0, none⟩)]) (box b1 61 [v] :: row 3 1 v ks.length (ks.map intV) :: box b2 53 [.map (some wm)] :: mpf wm intV (tmap g) :: T) (fun k => [intV k, intV ((g k).getD 0)]) ks := by
  intro y J X w ds K o hy hk hx
  have yy : Yld P w0 y J X (fun k => [intV k, intV ((g k).getD 0)]) ks := ⟨hy⟩
  have hb := (show Rds w v 1 ks.length (ks.map intV) from inferInstance).le
  simp only [maxLen] at hb
  refine go ?_
  refine s30 ?_
  unfold D30
  repeat (first | refine go ?_ | intro _ | refine ⟨sb, ?_⟩ | refine ⟨sd, ?_⟩ | dsimp only)
  refine ⟨fun z s => ∃ (i : Nat) (w' : World), z = .int .i64 i ∧ s = ⟨w', []⟩ ∧ i ≤ ks.length ∧ Hv w0 (J i :: box b1 61 [v] :: row 3 1 v ks.length (ks.map intV) :: box b2 53 [.map (some wm)] :: mpf wm intV (tmap g) :: T) w',
    fun z s => match z with | .int _ z => ks.length - z.toNat | _ => 0, ⟨0, w, rfl, rfl, Nat.zero_le _, o⟩, ?_⟩
  rintro z s ⟨i, w2, rfl, rfl, hi, o2⟩
  clear o
  rcases Nat.lt_or_ge i ks.length with hlt | hge
  · have e3 : ks[i]? = some (ks.getD i default) := getD_at hlt
    repeat' (first | refine go ?_ | intro _ | refine ⟨sb, ?_⟩ | refine ⟨sd, ?_⟩ | (refine ⟨fun h1 => ?_, fun h1 => ?_⟩ <;> first | exact ab h1 | ((try rw [h1]); (try simp only [bl] at h1))) | dsimp only)
    · rw [orZ_int]
      repeat' (first | refine go ?_ | intro _ | refine ⟨sb, ?_⟩ | refine ⟨sd, ?_⟩ | (refine ⟨fun h1 => ?_, fun h1 => ?_⟩ <;> first | exact ab h1 | ((try rw [h1]); (try simp only [bl] at h1))) | dsimp only)
      refine ⟨_, e3, rfl, fun w' o5 => ?_, fun w' o5 => ?_⟩
      · repeat' (first | refine go ?_ | intro _ | refine ⟨sb, ?_⟩ | refine ⟨sd, ?_⟩ | (refine ⟨fun h1 => ?_, fun h1 => ?_⟩ <;> first | exact ab h1 | ((try rw [h1]); (try simp only [bl] at h1))) | dsimp only)
        exact ⟨⟨i + 1, _, rfl, rfl, hlt, Sub.hv (subJ rfl (subBox rfl (subRow rfl rfl (subBox rfl (subMpf rfl subEnd)))))⟩, by simp; omega⟩
      · repeat' (first | refine go ?_ | intro _ | refine ⟨sb, ?_⟩ | refine ⟨sd, ?_⟩ | (refine ⟨fun h1 => ?_, fun h1 => ?_⟩ <;> first | exact ab h1 | ((try rw [h1]); (try simp only [bl] at h1))) | dsimp only)
        exact hx _ _ _ _ e3 (Sub.hv (subA (subBox rfl (subRow rfl rfl (subBox rfl (subMpf rfl subEnd))))))
    · exfalso; omega
  · obtain rfl : i = ks.length := by omega
    repeat' (first | refine go ?_ | intro _ | refine ⟨sb, ?_⟩ | refine ⟨sd, ?_⟩ | (refine ⟨fun h1 => ?_, fun h1 => ?_⟩ <;> first | exact ab h1 | ((try rw [h1]); (try simp only [bl] at h1))) | dsimp only)
    · exfalso; omega
    · exact hk _ _ o2
end
end Go.Proofs.Ytogoaohhaiggpaa

