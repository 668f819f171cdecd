import Derived.Test.YtapammcnagjigaaGreatDoorMk
set_option linter.all false
namespace Go.Proofs.YtapammcnagjigaaGreatDoor
open Go.Vx Go.Lib
/-! the document's text of a message -/
section
variable {K : Value → St → Prop} {w0 w : World} {H R : List SL} {ds : List Deferred} {l : List UInt8}
variable {xt xp : Value} {T : List Tag} {ps : List (List UInt8)} {nt np : Nat} {zt zp : List Value} {pre cmd : List UInt8}
instance hasR_ok {w : World} {l : List UInt8} {c : UInt8} : VS (Cl P 26 #[str l, byteV c]) w (l.length ≤ 1000000000) (.bool (l.contains c)) := ⟨fun hl {K ds} h => by
  refine cl_ok (c26 (K := fun v w' => K v ⟨w', ds⟩) ?_ fun v w' h => ⟨v, rfl, h⟩)
  unfold D26
  dsimp only
  refine ⟨fun y s => ∃ (i : Nat), y = .int .i64 i ∧ s = ⟨w, []⟩ ∧ i ≤ l.length ∧ (l.take i).all (fun b => !decide (b = c)) = true,
    fun y s => match y with | .int _ z => l.length - z.toNat | _ => 0, ⟨0, rfl, rfl, Nat.zero_le _, rfl⟩, ?_⟩
  rintro y s ⟨i, rfl, rfl, hi, he⟩
  have hc : l.contains c = !l.all (fun b => !decide (b = c)) := by
    rw [Bool.eq_iff_iff]; simp
  rw [hc] at h
  repeat' (first | refine go ?_ | intro _ | refine And.intro (Sd.mk (by (first | exact fun _ => True.intro | exact And.intro (fun _ => True.intro) (fun _ _ => True.intro) | (intro hq; (first | exact True.intro | omega | (simp only [and_true]; omega) | (simp only [bl] at hq; (try simp only [and_true]); omega) | fail)) | exact And.intro (fun hq => by first | exact True.intro | omega | (simp only [and_true]; omega) | (simp only [bl] at hq; (try simp only [and_true]); omega) | fail) (fun hq hr => by first | exact True.intro | omega | (simp only [and_true]; omega) | (simp only [bl] at hq hr; omega) | (simp only [bl] at hr; omega) | fail) | fail))) ?_ | refine And.intro (by (first | omega | (unfold InR; omega) | decide | (simp only [ll]; omega))) ?_ | (refine And.intro (fun h1 => ?_) (fun h1 => ?_) <;> first | (exact absurd h1 (by decide)) | ((try rw [h1]); (try simp only [bl] at h1))) | dsimp only)
  · have hlt : i < l.length := by omega
    rw [all_at hlt (by simpa [-List.getD_eq_getElem?_getD] using h1)] at h
    exact h
  · have hlt : i < l.length := by omega
    exact ⟨⟨i + 1, rfl, rfl, hlt, by rw [all_take hlt, he]; simpa [-List.getD_eq_getElem?_getD] using h1⟩, by simp; omega⟩
  · rw [List.take_of_length_le (by omega)] at he
    rw [he] at h
    exact h⟩
instance plainR_ok [o : Hv w0 H w] [rt : RdsF w0 H xt 2 nt zt] [et : Encs encT zt T] [rp : RdsF w0 H xp 1 np zp] [ep : Strs zp ps] [ok : okS (T, pre, cmd, ps)] :
    Step (Cl P 29 #[.agg #[xt, str pre, str cmd, xp]] K ⟨w, ds⟩) (∀ w', Hv w0 H w' → K (str (plainM (T, pre, cmd, ps))) ⟨w', ds⟩) := ⟨fun h => by
  refine cl_ok (c29 (K := fun v w' => K v ⟨w', ds⟩) ?_ fun v w' h => ⟨v, rfl, h⟩)
  obtain ⟨hf, htl0, hpl, hcl, hps, hpp⟩ := ok
  dsimp only at hf htl0 hpl hcl hps hpp
  have htl := text_len2 hf htl0
  have lt : RdsL w0 H xt 2 nt zt := rt.loc
  have lp : RdsL w0 H xp 1 np zp := rp.loc
  have r0 := rt.rd w o
  have r1 := rp.rd w o
  have en : nt = T.length := et.len r0.len (by decide)
  have em : np = ps.length := by have := r1.len; rw [ep.eq] at this; simpa using this.symm
  have one1 : One w xt := inferInstance
  have one2 : ∀ w, One w xt := fun w => ⟨one1.eq⟩
  have one3 : One w xp := inferInstance
  have one4 : ∀ w, One w xp := fun w => ⟨one3.eq⟩
  obtain rfl := ep.eq
  clear r0 r1 ep
  subst en em
  have hts : (tagP T).length ≤ 100002 := by unfold tagP; split <;> simp; omega
  have hprs : (preP pre).length ≤ 100002 := by unfold preP; split <;> simp; omega
  have hhd : (headM T pre cmd).length ≤ 400000 := by rw [head_eq]; simp; omega
  have e0 : tagP T ++ preP pre ++ cmd = headM T pre cmd := by rw [head_eq]; simp
  unfold D29
  dsimp only
  repeat ((fail_if_success (refine j1_any (fun _ _ => True) ?_ ?_)); (first | refine go ?_ | intro _ | refine And.intro (Sd.mk (by (first | exact fun _ => True.intro | exact And.intro (fun _ => True.intro) (fun _ _ => True.intro) | (intro hq; (first | exact True.intro | omega | (simp only [and_true]; omega) | (simp only [bl] at hq; (try simp only [and_true]); omega) | fail)) | exact And.intro (fun hq => by first | exact True.intro | omega | (simp only [and_true]; omega) | (simp only [bl] at hq; (try simp only [and_true]); omega) | fail) (fun hq hr => by first | exact True.intro | omega | (simp only [and_true]; omega) | (simp only [bl] at hq hr; omega) | (simp only [bl] at hr; omega) | fail) | fail))) ?_ | refine And.intro (by (first | omega | (unfold InR; omega) | decide | (simp only [ll]; omega))) ?_ | dsimp only))
  rename_i b1 w2 o2
  refine j1_hv w0 (box b1 25 [xt, str pre, str cmd, xp] :: H) [] (str (tagP T)) ?_ ?_
  · repeat' (first | refine go ?_ | intro _ | refine And.intro (Sd.mk (by (first | exact fun _ => True.intro | exact And.intro (fun _ => True.intro) (fun _ _ => True.intro) | (intro hq; (first | exact True.intro | omega | (simp only [and_true]; omega) | (simp only [bl] at hq; (try simp only [and_true]); omega) | fail)) | exact And.intro (fun hq => by first | exact True.intro | omega | (simp only [and_true]; omega) | (simp only [bl] at hq; (try simp only [and_true]); omega) | fail) (fun hq hr => by first | exact True.intro | omega | (simp only [and_true]; omega) | (simp only [bl] at hq hr; omega) | (simp only [bl] at hr; omega) | fail) | fail))) ?_ | refine And.intro (by (first | omega | (unfold InR; omega) | decide | (simp only [ll]; omega))) ?_ | (refine And.intro (fun h1 => ?_) (fun h1 => ?_) <;> first | (exact absurd h1 (by decide)) | ((try rw [h1]); (try simp only [bl] at h1))) | dsimp only)
    · refine ⟨?_, _, rfl, Sub.hv (subBox rfl subEnd)⟩
      have hne : T ≠ [] := by intro e; subst e; simp at h1
      unfold tagP; rw [if_neg hne]; rfl
    · refine ⟨?_, _, rfl, Sub.hv (subBox rfl subEnd)⟩
      unfold tagP; rw [if_pos (List.eq_nil_of_length_eq_zero (by omega))]
  intro w3 o3
  clear o2 o
  refine j1_hv w0 (box b1 25 [xt, str pre, str cmd, xp] :: H) [] (str (tagP T ++ preP pre)) ?_ ?_
  · repeat' (first | refine go ?_ | intro _ | refine And.intro (Sd.mk (by (first | exact fun _ => True.intro | exact And.intro (fun _ => True.intro) (fun _ _ => True.intro) | (intro hq; (first | exact True.intro | omega | (simp only [and_true]; omega) | (simp only [bl] at hq; (try simp only [and_true]); omega) | fail)) | exact And.intro (fun hq => by first | exact True.intro | omega | (simp only [and_true]; omega) | (simp only [bl] at hq; (try simp only [and_true]); omega) | fail) (fun hq hr => by first | exact True.intro | omega | (simp only [and_true]; omega) | (simp only [bl] at hq hr; omega) | (simp only [bl] at hr; omega) | fail) | fail))) ?_ | refine And.intro (by (first | omega | (unfold InR; omega) | decide | (simp only [ll]; omega))) ?_ | (refine And.intro (fun h1 => ?_) (fun h1 => ?_) <;> first | (exact absurd h1 (by decide)) | ((try rw [h1]); (try simp only [bl] at h1))) | dsimp only)
    · refine ⟨?_, _, rfl, Sub.hv (subBox rfl subEnd)⟩
      unfold preP; rw [if_neg h1]; simp
    · refine ⟨?_, _, rfl, Sub.hv (subBox rfl subEnd)⟩
      have : pre = [] := by simpa using h1
      unfold preP; rw [if_pos this, List.append_nil]
  intro w4 o4
  clear o3
  repeat (first | refine go ?_ | intro _ | refine And.intro (Sd.mk (by (first | exact fun _ => True.intro | exact And.intro (fun _ => True.intro) (fun _ _ => True.intro) | (intro hq; (first | exact True.intro | omega | (simp only [and_true]; omega) | (simp only [bl] at hq; (try simp only [and_true]); omega) | fail)) | exact And.intro (fun hq => by first | exact True.intro | omega | (simp only [and_true]; omega) | (simp only [bl] at hq; (try simp only [and_true]); omega) | fail) (fun hq hr => by first | exact True.intro | omega | (simp only [and_true]; omega) | (simp only [bl] at hq hr; omega) | (simp only [bl] at hr; omega) | fail) | fail))) ?_ | refine And.intro (by (first | omega | (unfold InR; omega) | decide | (simp only [ll]; omega))) ?_ | dsimp only)
  rw [e0]
  refine ⟨fun x y s => ∃ (i : Nat) (w' : World), x = str (headM T pre cmd ++ parT ps i) ∧ y = .int .i64 i ∧ s = ⟨w', []⟩ ∧ i ≤ ps.length ∧ Hv w0 (box b1 25 [xt, str pre, str cmd, xp] :: H) w',
    fun _ y s => match y with | .int _ z => ps.length - z.toNat | _ => 0, ⟨0, _, by rw [parT_zero, List.append_nil], rfl, rfl, Nat.zero_le _, o4⟩, ?_⟩
  rintro x y s ⟨i, w7, rfl, rfl, rfl, hi, o7⟩
  clear o4
  have hpt := parT_len ps hpp i hi
  rcases Nat.lt_or_ge i ps.length with hlt | hge
  · have hst := parT_step hlt
    have h2 := hpp (ps.getD i default) (getD_mem hlt)
    repeat ((fail_if_success (refine j1_any (fun _ _ => True) ?_ ?_)); (first | refine go ?_ | intro _ | refine And.intro (Sd.mk (by (first | exact fun _ => True.intro | exact And.intro (fun _ => True.intro) (fun _ _ => True.intro) | (intro hq; (first | exact True.intro | omega | (simp only [and_true]; omega) | (simp only [bl] at hq; (try simp only [and_true]); omega) | fail)) | exact And.intro (fun hq => by first | exact True.intro | omega | (simp only [and_true]; omega) | (simp only [bl] at hq; (try simp only [and_true]); omega) | fail) (fun hq hr => by first | exact True.intro | omega | (simp only [and_true]; omega) | (simp only [bl] at hq hr; omega) | (simp only [bl] at hr; omega) | fail) | fail))) ?_ | refine And.intro (by (first | omega | (unfold InR; omega) | decide | (simp only [ll]; omega))) ?_ | dsimp only))
    refine And.intro (fun _ => ?_) (fun h1 => ?_)
    · repeat ((fail_if_success (refine j1_any (fun _ _ => True) ?_ ?_)); (first | refine go ?_ | intro _ | refine And.intro (Sd.mk (by (first | exact fun _ => True.intro | exact And.intro (fun _ => True.intro) (fun _ _ => True.intro) | (intro hq; (first | exact True.intro | omega | (simp only [and_true]; omega) | (simp only [bl] at hq; (try simp only [and_true]); omega) | fail)) | exact And.intro (fun hq => by first | exact True.intro | omega | (simp only [and_true]; omega) | (simp only [bl] at hq; (try simp only [and_true]); omega) | fail) (fun hq hr => by first | exact True.intro | omega | (simp only [and_true]; omega) | (simp only [bl] at hq hr; omega) | (simp only [bl] at hr; omega) | fail) | fail))) ?_ | refine And.intro (by (first | omega | (unfold InR; omega) | decide | (simp only [ll]; omega))) ?_ | dsimp only))
      refine j1_hv w0 (box b1 25 [xt, str pre, str cmd, xp] :: H) [] (str ((if decide ((i : Int) = (ps.length : Int) - 1) && spare (ps.getD i default) then [58] else []) ++ ps.getD i default)) ?_ ?_
      · have hsp := spare_eq (ps.getD i default)
        have hh := hd_drop (l := ps.getD i default) (i := 0) 58
        rw [List.drop_zero] at hh
        repeat' (first | refine go ?_ | intro _ | refine And.intro (Sd.mk (by (first | exact fun _ => True.intro | exact And.intro (fun _ => True.intro) (fun _ _ => True.intro) | (intro hq; (first | exact True.intro | omega | (simp only [and_true]; omega) | (simp only [bl] at hq; (try simp only [and_true]); omega) | fail)) | exact And.intro (fun hq => by first | exact True.intro | omega | (simp only [and_true]; omega) | (simp only [bl] at hq; (try simp only [and_true]); omega) | fail) (fun hq hr => by first | exact True.intro | omega | (simp only [and_true]; omega) | (simp only [bl] at hq hr; omega) | (simp only [bl] at hr; omega) | fail) | fail))) ?_ | refine And.intro (by (first | omega | (unfold InR; omega) | decide | (simp only [ll]; omega))) ?_ | (refine And.intro (fun h1 => ?_) (fun h1 => ?_) <;> first | (exact absurd h1 (by decide)) | ((try rw [h1]); (try simp only [bl] at h1))) | dsimp only)
        · have hpos := List.length_pos_iff.2 h1
          rw [decide_eq_true (show 0 < (ps.getD i default).length from hpos), Bool.true_and] at hh
          have hsp2 : spare (ps.getD i default) = (decide ((ps.getD i default).getD 0 default = 58) || (ps.getD i default).contains 32) := by rw [hsp, decide_eq_false h1, hh]; rfl
          refine And.intro (by omega) ?_
          rw [hsp2]
          repeat' (first | refine go ?_ | intro _ | refine And.intro (Sd.mk (by (first | exact fun _ => True.intro | exact And.intro (fun _ => True.intro) (fun _ _ => True.intro) | (intro hq; (first | exact True.intro | omega | (simp only [and_true]; omega) | (simp only [bl] at hq; (try simp only [and_true]); omega) | fail)) | exact And.intro (fun hq => by first | exact True.intro | omega | (simp only [and_true]; omega) | (simp only [bl] at hq; (try simp only [and_true]); omega) | fail) (fun hq hr => by first | exact True.intro | omega | (simp only [and_true]; omega) | (simp only [bl] at hq hr; omega) | (simp only [bl] at hr; omega) | fail) | fail))) ?_ | refine And.intro (by (first | omega | (unfold InR; omega) | decide | (simp only [ll]; omega))) ?_ | (refine And.intro (fun h1 => ?_) (fun h1 => ?_) <;> first | (exact absurd h1 (by decide)) | ((try rw [h1]); (try simp only [bl] at h1))) | dsimp only)
          · refine ⟨?_, _, rfl, by assumption⟩
            rfl
          · refine ⟨?_, _, rfl, by assumption⟩
            rfl
        · refine ⟨?_, _, rfl, by assumption⟩
          rw [hsp, decide_eq_true ‹ps.getD i default = []›]; rfl
        · exact absurd (h1 True.intro).1 (by decide)
        · refine ⟨?_, _, rfl, by assumption⟩
          rfl
      intro w8 o8
      have hcl2 : (if decide ((i : Int) = (ps.length : Int) - 1) && spare (ps.getD i default) then [58] else ([] : List UInt8)).length ≤ 1 := by split <;> simp
      repeat' (first | refine go ?_ | intro _ | refine And.intro (Sd.mk (by (first | exact fun _ => True.intro | exact And.intro (fun _ => True.intro) (fun _ _ => True.intro) | (intro hq; (first | exact True.intro | omega | (simp only [and_true]; omega) | (simp only [bl] at hq; (try simp only [and_true]); omega) | fail)) | exact And.intro (fun hq => by first | exact True.intro | omega | (simp only [and_true]; omega) | (simp only [bl] at hq; (try simp only [and_true]); omega) | fail) (fun hq hr => by first | exact True.intro | omega | (simp only [and_true]; omega) | (simp only [bl] at hq hr; omega) | (simp only [bl] at hr; omega) | fail) | fail))) ?_ | refine And.intro (by (first | omega | (unfold InR; omega) | decide | (simp only [ll]; omega))) ?_ | (refine And.intro (fun h1 => ?_) (fun h1 => ?_) <;> first | (exact absurd h1 (by decide)) | ((try rw [h1]); (try simp only [bl] at h1))) | dsimp only)
      refine ⟨⟨i + 1, _, ?_, rfl, rfl, hlt, Sub.hv (subBox rfl subEnd)⟩, by simp; omega⟩
      rw [hst]; simp
    · exfalso; simp at h1; omega
  · obtain rfl : i = ps.length := by omega
    repeat' (first | refine go ?_ | intro _ | refine And.intro (Sd.mk (by (first | exact fun _ => True.intro | exact And.intro (fun _ => True.intro) (fun _ _ => True.intro) | (intro hq; (first | exact True.intro | omega | (simp only [and_true]; omega) | (simp only [bl] at hq; (try simp only [and_true]); omega) | fail)) | exact And.intro (fun hq => by first | exact True.intro | omega | (simp only [and_true]; omega) | (simp only [bl] at hq; (try simp only [and_true]); omega) | fail) (fun hq hr => by first | exact True.intro | omega | (simp only [and_true]; omega) | (simp only [bl] at hq hr; omega) | (simp only [bl] at hr; omega) | fail) | fail))) ?_ | refine And.intro (by (first | omega | (unfold InR; omega) | decide | (simp only [ll]; omega))) ?_ | (refine And.intro (fun h1 => ?_) (fun h1 => ?_) <;> first | (exact absurd h1 (by decide)) | ((try rw [h1]); (try simp only [bl] at h1))) | dsimp only)
    · exfalso; omega
    · rw [parT_end]
      exact h _ (Sub.hv subEnd)⟩
end
end Go.Proofs.YtapammcnagjigaaGreatDoor

