import Derived.Test.YtapammcnagjigaaDoorMk
set_option linter.all false
namespace Go.Proofs.YtapammcnagjigaaDoor
open Go.Vx Go.Lib
/-! the document's text of a message -/
section
variable {K : Value → St → Prop} {w0 w : World} {H R : List SL} {ds : List Deferred} {l : List UInt8}
variable {xt xp : Value} {T : List Tag} {ps : List (List UInt8)} {nt np : Nat} {zt zp : List Value} {pre cmd : List UInt8}
instance hasR_ok {w : World} {l : List UInt8} {c : UInt8} : VS (Cl P 52 #[str l, byteV c]) w (l.length ≤ 1000000000) (.bool (l.contains c)) := ⟨fun hl {K ds} h => by
  refine cl_ok (c52 (K := fun v w' => K v ⟨w', ds⟩) ?_ fun v w' h => ⟨v, rfl, h⟩)
  unfold D52
  dsimp only
  refine ⟨fun y s => ∃ (i : Nat), y = .int .i64 i ∧ s = ⟨w, []⟩ ∧ i ≤ l.length ∧ (l.take i).all (fun b => !decide (b = c)) = true,
    fun y s => match y with | .int _ z => l.length - z.toNat | _ => 0, ⟨0, rfl, rfl, Nat.zero_le _, rfl⟩, ?_⟩
  rintro y s ⟨i, rfl, rfl, hi, he⟩
  have hc : l.contains c = !l.all (fun b => !decide (b = c)) := by
    rw [Bool.eq_iff_iff]; simp
  rw [hc] at h
  repeat' (first | refine go ?_ | intro _ | refine And.intro (Sd.mk (by (first | exact fun _ => True.intro | exact And.intro (fun _ => True.intro) (fun _ _ => True.intro) | (intro hq; (first | exact True.intro | omega | (simp only [and_true]; omega) | (simp only [bl] at hq; (try simp only [and_true]); omega) | fail)) | exact And.intro (fun hq => by first | exact True.intro | omega | (simp only [and_true]; omega) | (simp only [bl] at hq; (try simp only [and_true]); omega) | fail) (fun hq hr => by first | exact True.intro | omega | (simp only [and_true]; omega) | (simp only [bl] at hq hr; omega) | (simp only [bl] at hr; omega) | fail) | fail))) ?_ | refine And.intro (by (first | omega | (unfold InR; omega) | decide | (simp only [ll]; omega))) ?_ | (refine And.intro (fun h1 => ?_) (fun h1 => ?_) <;> first | (exact absurd h1 (by decide)) | ((try rw [h1]); (try simp only [bl] at h1))) | dsimp only)
  · have hlt : i < l.length := by omega
    rw [all_at hlt (by simpa [-List.getD_eq_getElem?_getD] using h1)] at h
    exact h
  · have hlt : i < l.length := by omega
    exact ⟨⟨i + 1, rfl, rfl, hlt, by rw [all_take hlt, he]; simpa [-List.getD_eq_getElem?_getD] using h1⟩, by simp; omega⟩
  · rw [List.take_of_length_le (by omega)] at he
    rw [he] at h
    exact h⟩
instance plainR_ok [o : Hv w0 H w] [rt : RdsF w0 H xt 2 nt zt] [et : Encs encT zt T] [rp : RdsF w0 H xp 1 np zp] [ep : Strs zp ps] [ok : okS (T, pre, cmd, ps)] :
    Step (Cl P 53 #[.agg #[xt, str pre, str cmd, xp]] K ⟨w, ds⟩) (∀ w', Hv w0 H w' → K (str (plainM (T, pre, cmd, ps))) ⟨w', ds⟩) := ⟨fun h => by
  refine cl_ok (c53 (K := fun v w' => K v ⟨w', ds⟩) ?_ fun v w' h => ⟨v, rfl, h⟩)
  obtain ⟨hf, htl0, hpl, hcl, hps, hpp⟩ := ok
  dsimp only at hf htl0 hpl hcl hps hpp
  have htl := text_len2 hf htl0
  have lt : RdsL w0 H xt 2 nt zt := rt.loc
  have lp : RdsL w0 H xp 1 np zp := rp.loc
  have r0 := rt.rd w o
  have r1 := rp.rd w o
  have en : nt = T.length := et.len r0.len (by decide)
  have em : np = ps.length := by have := r1.len; rw [ep.eq] at this; simpa using this.symm
  have one1 : One w xt := inferInstance
  have one2 : ∀ w, One w xt := fun w => ⟨one1.eq⟩
  have one3 : One w xp := inferInstance
  have one4 : ∀ w, One w xp := fun w => ⟨one3.eq⟩
  obtain rfl := ep.eq
  clear r0 r1 ep
  subst en em
  have hts : (tagP T).length ≤ 100002 := by unfold tagP; split <;> simp; omega
  have hprs : (preP pre).length ≤ 100002 := by unfold preP; split <;> simp; omega
  have hhd : (headM T pre cmd).length ≤ 400000 := by rw [head_eq]; simp; omega
  have e0 : tagP T ++ preP pre ++ cmd = headM T pre cmd := by rw [head_eq]; simp
  unfold D53
  dsimp only
  repeat ((fail_if_success (refine j1_any (fun _ _ => True) ?_ ?_)); (first | refine go ?_ | intro _ | refine And.intro (Sd.mk (by (first | exact fun _ => True.intro | exact And.intro (fun _ => True.intro) (fun _ _ => True.intro) | (intro hq; (first | exact True.intro | omega | (simp only [and_true]; omega) | (simp only [bl] at hq; (try simp only [and_true]); omega) | fail)) | exact And.intro (fun hq => by first | exact True.intro | omega | (simp only [and_true]; omega) | (simp only [bl] at hq; (try simp only [and_true]); omega) | fail) (fun hq hr => by first | exact True.intro | omega | (simp only [and_true]; omega) | (simp only [bl] at hq hr; omega) | (simp only [bl] at hr; omega) | fail) | fail))) ?_ | refine And.intro (by (first | omega | (unfold InR; omega) | decide | (simp only [ll]; omega))) ?_ | dsimp only))
  rename_i b1 w2 o2
  refine j1_hv w0 (box b1 32 [xt, str pre, str cmd, xp] :: H) [] (str (tagP T)) ?_ ?_
  · repeat' (first | refine go ?_ | intro _ | refine And.intro (Sd.mk (by (first | exact fun _ => True.intro | exact And.intro (fun _ => True.intro) (fun _ _ => True.intro) | (intro hq; (first | exact True.intro | omega | (simp only [and_true]; omega) | (simp only [bl] at hq; (try simp only [and_true]); omega) | fail)) | exact And.intro (fun hq => by first | exact True.intro | omega | (simp only [and_true]; omega) | (simp only [bl] at hq; (try simp only [and_true]); omega) | fail) (fun hq hr => by first | exact True.intro | omega | (simp only [and_true]; omega) | (simp only [bl] at hq hr; omega) | (simp only [bl] at hr; omega) | fail) | fail))) ?_ | refine And.intro (by (first | omega | (unfold InR; omega) | decide | (simp only [ll]; omega))) ?_ | (refine And.intro (fun h1 => ?_) (fun h1 => ?_) <;> first | (exact absurd h1 (by decide)) | ((try rw [h1]); (try simp only [bl] at h1))) | dsimp only)
    · refine ⟨?_, _, rfl, Sub.hv (subBox rfl subEnd)⟩
      have hne : T ≠ [] := by intro e; subst e; simp at h1
      unfold tagP; rw [if_neg hne]; rfl
    · refine ⟨?_, _, rfl, Sub.hv (subBox rfl subEnd)⟩
      unfold tagP; rw [if_pos (List.eq_nil_of_length_eq_zero (by omega))]
  intro w3 o3
  clear o2 o
  refine j1_hv w0 (box b1 32 [xt, str pre, str cmd, xp] :: H) [] (str (tagP T ++ preP pre)) ?_ ?_
  · repeat' (first | refine go ?_ | intro _ | refine And.intro (Sd.mk (by (first | exact fun _ => True.intro | exact And.intro (fun _ => True.intro) (fun _ _ => True.intro) | (intro hq; (first | exact True.intro | omega | (simp only [and_true]; omega) | (simp only [bl] at hq; (try simp only [and_true]); omega) | fail)) | exact And.intro (fun hq => by first | exact True.intro | omega | (simp only [and_true]; omega) | (simp only [bl] at hq; (try simp only [and_true]); omega) | fail) (fun hq hr => by first | exact True.intro | omega | (simp only [and_true]; omega) | (simp only [bl] at hq hr; omega) | (simp only [bl] at hr; omega) | fail) | fail))) ?_ | refine And.intro (by (first | omega | (unfold InR; omega) | decide | (simp only [ll]; omega))) ?_ | (refine And.intro (fun h1 => ?_) (fun h1 => ?_) <;> first | (exact absurd h1 (by decide)) | ((try rw [h1]); (try simp only [bl] at h1))) | dsimp only)
    · refine ⟨?_, _, rfl, Sub.hv (subBox rfl subEnd)⟩
      unfold preP; rw [if_neg h1]; simp
    · refine ⟨?_, _, rfl, Sub.hv (subBox rfl subEnd)⟩
      have : pre = [] := by simpa using h1
      unfold preP; rw [if_pos this, List.append_nil]
  intro w4 o4
  clear o3
  repeat (first | refine go ?_ | intro _ | refine And.intro (Sd.mk (by (first | exact fun _ => True.intro | exact And.intro (fun _ => True.intro) (fun _ _ => True.intro) | (intro hq; (first | exact True.intro | omega | (simp only [and_true]; omega) | (simp only [bl] at hq; (try simp only [and_true]); omega) | fail)) | exact And.intro (fun hq => by first | exact True.intro | omega | (simp only [and_true]; omega) | (simp only [bl] at hq; (try simp only [and_true]); omega) | fail) (fun hq hr => by first | exact True.intro | omega | (simp only [and_true]; omega) | (simp only [bl] at hq hr; omega) | (simp only [bl] at hr; omega) | fail) | fail))) ?_ | refine And.intro (by (first | omega | (unfold InR; omega) | decide | (simp only [ll]; omega))) ?_ | dsimp only)
  rw [e0]
  refine ⟨fun x y s => ∃ (i : Nat) (w' : World), x = str (headM T pre cmd ++ parT ps i) ∧ y = .int .i64 i ∧ s = ⟨w', []⟩ ∧ i ≤ ps.length ∧ Hv w0 (box b1 32 [xt, str pre, str cmd, xp] :: H) w',
    fun _ y s => match y with | .int _ z => ps.length - z.toNat | _ => 0, ⟨0, _, by rw [parT_zero, List.append_nil], rfl, rfl, Nat.zero_le _, o4⟩, ?_⟩
  rintro x y s ⟨i, w7, rfl, rfl, rfl, hi, o7⟩
  clear o4
  have hpt := parT_len ps hpp i hi
  rcases Nat.lt_or_ge i ps.length with hlt | hge
  · have hst := parT_step hlt
    have h2 := hpp (ps.getD i default) (getD_mem hlt)
    repeat ((fail_if_success (refine j1_any (fun _ _ => True) ?_ ?_)); (first | refine go ?_ | intro _ | refine And.intro (Sd.mk (by (first | exact fun _ => True.intro | exact And.intro (fun _ => True.intro) (fun _ _ => True.intro) | (intro hq; (first | exact True.intro | omega | (simp only [and_true]; omega) | (simp only [bl] at hq; (try simp only [and_true]); omega) | fail)) | exact And.intro (fun hq => by first | exact True.intro | omega | (simp only [and_true]; omega) | (simp only [bl] at hq; (try simp only [and_true]); omega) | fail) (fun hq hr => by first | exact True.intro | omega | (simp only [and_true]; omega) | (simp only [bl] at hq hr; omega) | (simp only [bl] at hr; omega) | fail) | fail))) ?_ | refine And.intro (by (first | omega | (unfold InR; omega) | decide | (simp only [ll]; omega))) ?_ | dsimp only))
    refine And.intro (fun _ => ?_) (fun h1 => ?_)
    · repeat ((fail_if_success (refine j1_any (fun _ _ => True) ?_ ?_)); (first | refine go ?_ | intro _ | refine And.intro (Sd.mk (by (first | exact fun _ => True.intro | exact And.intro (fun _ => True.intro) (fun _ _ => True.intro) | (intro hq; (first | exact True.intro | omega | (simp only [and_true]; omega) | (simp only [bl] at hq; (try simp only [and_true]); omega) | fail)) | exact And.intro (fun hq => by first | exact True.intro | omega | (simp only [and_true]; omega) | (simp only [bl] at hq; (try simp only [and_true]); omega) | fail) (fun hq hr => by first | exact True.intro | omega | (simp only [and_true]; omega) | (simp only [bl] at hq hr; omega) | (simp only [bl] at hr; omega) | fail) | fail))) ?_ | refine And.intro (by (first | omega | (unfold InR; omega) | decide | (simp only [ll]; omega))) ?_ | dsimp only))
      refine j1_hv w0 (box b1 32 [xt, str pre, str cmd, xp] :: H) [] (str ((if decide ((i : Int) = (ps.length : Int) - 1) && spare (ps.getD i default) then [58] else []) ++ ps.getD i default)) ?_ ?_
      · have hsp := spare_eq (ps.getD i default)
        have hh := hd_drop (l := ps.getD i default) (i := 0) 58
        rw [List.drop_zero] at hh
        repeat' (first | refine go ?_ | intro _ | refine And.intro (Sd.mk (by (first | exact fun _ => True.intro | exact And.intro (fun _ => True.intro) (fun _ _ => True.intro) | (intro hq; (first | exact True.intro | omega | (simp only [and_true]; omega) | (simp only [bl] at hq; (try simp only [and_true]); omega) | fail)) | exact And.intro (fun hq => by first | exact True.intro | omega | (simp only [and_true]; omega) | (simp only [bl] at hq; (try simp only [and_true]); omega) | fail) (fun hq hr => by first | exact True.intro | omega | (simp only [and_true]; omega) | (simp only [bl] at hq hr; omega) | (simp only [bl] at hr; omega) | fail) | fail))) ?_ | refine And.intro (by (first | omega | (unfold InR; omega) | decide | (simp only [ll]; omega))) ?_ | (refine And.intro (fun h1 => ?_) (fun h1 => ?_) <;> first | (exact absurd h1 (by decide)) | ((try rw [h1]); (try simp only [bl] at h1))) | dsimp only)
        · have hpos := List.length_pos_iff.2 h1
          rw [decide_eq_true (show 0 < (ps.getD i default).length from hpos), Bool.true_and] at hh
          have hsp2 : spare (ps.getD i default) = (decide ((ps.getD i default).getD 0 default = 58) || (ps.getD i default).contains 32) := by rw [hsp, decide_eq_false h1, hh]; rfl
          refine And.intro (by omega) ?_
          rw [hsp2]
          repeat' (first | refine go ?_ | intro _ | refine And.intro (Sd.mk (by (first | exact fun _ => True.intro | exact And.intro (fun _ => True.intro) (fun _ _ => True.intro) | (intro hq; (first | exact True.intro | omega | (simp only [and_true]; omega) | (simp only [bl] at hq; (try simp only [and_true]); omega) | fail)) | exact And.intro (fun hq => by first | exact True.intro | omega | (simp only [and_true]; omega) | (simp only [bl] at hq; (try simp only [and_true]); omega) | fail) (fun hq hr => by first | exact True.intro | omega | (simp only [and_true]; omega) | (simp only [bl] at hq hr; omega) | (simp only [bl] at hr; omega) | fail) | fail))) ?_ | refine And.intro (by (first | omega | (unfold InR; omega) | decide | (simp only [ll]; omega))) ?_ | (refine And.intro (fun h1 => ?_) (fun h1 => ?_) <;> first | (exact absurd h1 (by decide)) | ((try rw [h1]); (try simp only [bl] at h1))) | dsimp only)
          · refine ⟨?_, _, rfl, by assumption⟩
            rfl
          · refine ⟨?_, _, rfl, by assumption⟩
            rfl
        · refine ⟨?_, _, rfl, by assumption⟩
          rw [hsp, decide_eq_true ‹ps.getD i default = []›]; rfl
        · exact absurd (h1 True.intro).1 (by decide)
        · refine ⟨?_, _, rfl, by assumption⟩
          rfl
      intro w8 o8
      have hcl2 : (if decide ((i : Int) = (ps.length : Int) - 1) && spare (ps.getD i default) then [58] else ([] : List UInt8)).length ≤ 1 := by split <;> simp
      repeat' (first | refine go ?_ | intro _ | refine And.intro (Sd.mk (by (first | exact fun _ => True.intro | exact And.intro (fun _ => True.intro) (fun _ _ => True.intro) | (intro hq; (first | exact True.intro | omega | (simp only [and_true]; omega) | (simp only [bl] at hq; (try simp only [and_true]); omega) | fail)) | exact And.intro (fun hq => by first | exact True.intro | omega | (simp only [and_true]; omega) | (simp only [bl] at hq; (try simp only [and_true]); omega) | fail) (fun hq hr => by first | exact True.intro | omega | (simp only [and_true]; omega) | (simp only [bl] at hq hr; omega) | (simp only [bl] at hr; omega) | fail) | fail))) ?_ | refine And.intro (by (first | omega | (unfold InR; omega) | decide | (simp only [ll]; omega))) ?_ | (refine And.intro (fun h1 => ?_) (fun h1 => ?_) <;> first | (exact absurd h1 (by decide)) | ((try rw [h1]); (try simp only [bl] at h1))) | dsimp only)
      refine ⟨⟨i + 1, _, ?_, rfl, rfl, hlt, Sub.hv (subBox rfl subEnd)⟩, by simp; omega⟩
      rw [hst]; simp
    · exfalso; simp at h1; omega
  · obtain rfl : i = ps.length := by omega
    repeat' (first | refine go ?_ | intro _ | refine And.intro (Sd.mk (by (first | exact fun _ => True.intro | exact And.intro (fun _ => True.intro) (fun _ _ => True.intro) | (intro hq; (first | exact True.intro | omega | (simp only [and_true]; omega) | (simp only [bl] at hq; (try simp only [and_true]); omega) | fail)) | exact And.intro (fun hq => by first | exact True.intro | omega | (simp only [and_true]; omega) | (simp only [bl] at hq; (try simp only [and_true]); omega) | fail) (fun hq hr => by first | exact True.intro | omega | (simp only [and_true]; omega) | (simp only [bl] at hq hr; omega) | (simp only [bl] at hr; omega) | fail) | fail))) ?_ | refine And.intro (by (first | omega | (unfold InR; omega) | decide | (simp only [ll]; omega))) ?_ | (refine And.intro (fun h1 => ?_) (fun h1 => ?_) <;> first | (exact absurd h1 (by decide)) | ((try rw [h1]); (try simp only [bl] at h1))) | dsimp only)
    · exfalso; omega
    · rw [parT_end]
      exact h _ (Sub.hv subEnd)⟩
theorem last_get {ps : List (List UInt8)} {i : Nat} (h : i + 1 < ps.length) : ps.dropLast.getD i default = ps.getD i default := by
  rw [List.dropLast_eq_take, List.getD_eq_getElem?_getD, List.getD_eq_getElem?_getD, List.getElem?_take, if_pos (by omega)]
set_option maxRecDepth 10000 in
instance mcheckR_ok [o : Hv w0 H w] [rt : RdsF w0 H xt 2 nt zt] [et : Encs encT zt T] [rp : RdsF w0 H xp 1 np zp] [ep : Strs zp ps] [ok : okS (T, pre, cmd, ps)] :
    Step (Cl P 21 #[.agg #[xt, str pre, str cmd, xp]] K ⟨w, ds⟩) (∀ w', Hv w0 H w' → K (.int .i64 (checkM (T, pre, cmd, ps))) ⟨w', ds⟩) := ⟨fun h => by
  refine cl_ok (c21 (K := fun v w' => K v ⟨w', ds⟩) ?_ fun v w' h => ⟨v, rfl, h⟩)
  have hpl := plain_len ok
  obtain ⟨hf, htl, hprl, hcl, hps, hpp⟩ := ok
  dsimp only at hf htl hprl hcl hps hpp
  have lt : RdsL w0 H xt 2 nt zt := rt.loc
  have lp : RdsL w0 H xp 1 np zp := rp.loc
  have r0 := rt.rd w o
  have r1 := rp.rd w o
  have en : nt = T.length := et.len r0.len (by decide)
  have em : np = ps.length := by have := r1.len; rw [ep.eq] at this; simpa using this.symm
  have one1 : One w xt := inferInstance
  have one2 : ∀ w, One w xt := fun w => ⟨one1.eq⟩
  have one3 : One w xp := inferInstance
  have one4 : ∀ w, One w xp := fun w => ⟨one3.eq⟩
  obtain rfl := ep.eq
  clear r0 r1 ep
  subst en em
  have htt : T.length ≤ 1000 ∧ ∀ t ∈ T, t.1.length ≤ 1000000 ∧ t.2.length ≤ 1000000 := ⟨by omega, fun t ht => by have := hf.2 t ht; omega⟩
  have ok3 : okS (T, pre, cmd, ps) := ⟨hf, htl, hprl, hcl, hps, hpp⟩
  unfold checkM at h
  dsimp only at h
  unfold D21
  repeat ((fail_if_success (refine j0_any (fun _ => True) ?_ ?_)); (first | refine go ?_ | intro _ | refine And.intro (Sd.mk (by (first | exact fun _ => True.intro | exact And.intro (fun _ => True.intro) (fun _ _ => True.intro) | (intro hq; (first | exact True.intro | omega | (simp only [and_true]; omega) | (simp only [bl] at hq; (try simp only [and_true]); omega) | fail)) | exact And.intro (fun hq => by first | exact True.intro | omega | (simp only [and_true]; omega) | (simp only [bl] at hq; (try simp only [and_true]); omega) | fail) (fun hq hr => by first | exact True.intro | omega | (simp only [and_true]; omega) | (simp only [bl] at hq hr; omega) | (simp only [bl] at hr; omega) | fail) | fail))) ?_ | refine And.intro (by (first | omega | (unfold InR; omega) | decide | (simp only [ll]; omega))) ?_ | dsimp only))
  rename_i b1 w1 o1
  refine j0_any (fun s => (T = [] ∨ checkT T = 0) ∧ ∃ w', s = ⟨w', []⟩ ∧ Hv w0 (box b1 32 [xt, str pre, str cmd, xp] :: H) w') ?_ ?_
  · repeat' (first | refine go ?_ | intro _ | refine And.intro (Sd.mk (by (first | exact fun _ => True.intro | exact And.intro (fun _ => True.intro) (fun _ _ => True.intro) | (intro hq; (first | exact True.intro | omega | (simp only [and_true]; omega) | (simp only [bl] at hq; (try simp only [and_true]); omega) | fail)) | exact And.intro (fun hq => by first | exact True.intro | omega | (simp only [and_true]; omega) | (simp only [bl] at hq; (try simp only [and_true]); omega) | fail) (fun hq hr => by first | exact True.intro | omega | (simp only [and_true]; omega) | (simp only [bl] at hq hr; omega) | (simp only [bl] at hr; omega) | fail) | fail))) ?_ | refine And.intro (by (first | omega | (unfold InR; omega) | decide | (simp only [ll]; omega))) ?_ | (refine And.intro (fun h1 => ?_) (fun h1 => ?_) <;> first | (exact absurd h1 (by decide)) | ((try rw [h1]); (try simp only [bl] at h1))) | dsimp only)
    · have hne : T ≠ [] := by intro e; subst e; simp at *
      rw [if_pos ⟨hne, h1⟩] at h
      exact h _ (Sub.hv subEnd)
    · exact ⟨_, rfl, Sub.hv (subBox rfl subEnd)⟩
    · exact ⟨.inl (List.eq_nil_of_length_eq_zero (by omega)), _, rfl, o1⟩
  rintro _ ⟨hT, w2, rfl, o2⟩
  clear o1
  rw [if_neg (fun hc => hc.2 (hT.resolve_left hc.1))] at h
  repeat ((fail_if_success (refine And.intro (fun _ => ?_) (fun _ => ?_))); (first | refine go ?_ | intro _ | refine And.intro (Sd.mk (by (first | exact fun _ => True.intro | exact And.intro (fun _ => True.intro) (fun _ _ => True.intro) | (intro hq; (first | exact True.intro | omega | (simp only [and_true]; omega) | (simp only [bl] at hq; (try simp only [and_true]); omega) | fail)) | exact And.intro (fun hq => by first | exact True.intro | omega | (simp only [and_true]; omega) | (simp only [bl] at hq; (try simp only [and_true]); omega) | fail) (fun hq hr => by first | exact True.intro | omega | (simp only [and_true]; omega) | (simp only [bl] at hq hr; omega) | (simp only [bl] at hr; omega) | fail) | fail))) ?_ | refine And.intro (by (first | omega | (unfold InR; omega) | decide | (simp only [ll]; omega))) ?_ | dsimp only))
  refine And.intro (fun h1 => ?_) (fun h1 => ?_)
  · repeat' (first | refine go ?_ | intro _ | refine And.intro (Sd.mk (by (first | exact fun _ => True.intro | exact And.intro (fun _ => True.intro) (fun _ _ => True.intro) | (intro hq; (first | exact True.intro | omega | (simp only [and_true]; omega) | (simp only [bl] at hq; (try simp only [and_true]); omega) | fail)) | exact And.intro (fun hq => by first | exact True.intro | omega | (simp only [and_true]; omega) | (simp only [bl] at hq; (try simp only [and_true]); omega) | fail) (fun hq hr => by first | exact True.intro | omega | (simp only [and_true]; omega) | (simp only [bl] at hq hr; omega) | (simp only [bl] at hr; omega) | fail) | fail))) ?_ | refine And.intro (by (first | omega | (unfold InR; omega) | decide | (simp only [ll]; omega))) ?_ | (refine And.intro (fun h1 => ?_) (fun h1 => ?_) <;> first | (exact absurd h1 (by decide)) | ((try rw [h1]); (try simp only [bl] at h1))) | dsimp only)
    rw [if_pos (by
      have : (!txtB pre || pre.contains 32) = true := h1
      rw [this]; rfl)] at h
    exact h _ (Sub.hv subEnd)
  have hA : (!txtB pre || pre.contains 32) = false := h1
  rw [hA, Bool.false_or] at h
  refine ⟨fun x s => ∃ (i : Nat), x = .int .i64 i ∧ s = ⟨w2, []⟩ ∧ i ≤ ps.length ∧ (ps.take i).any (fun p => !txtB p) = false,
    fun x s => match x with | .int _ z => ps.length - z.toNat | _ => 0, ⟨0, rfl, rfl, Nat.zero_le _, rfl⟩, ?_⟩
  rintro x s ⟨i, rfl, rfl, hi, hn⟩
  rcases Nat.lt_or_ge i ps.length with hlt | hge
  · have ha := any_take (p := fun p => !txtB p) hlt
    have h2 := hpp _ (getD_mem hlt)
    repeat' (first | refine go ?_ | intro _ | refine And.intro (Sd.mk (by (first | exact fun _ => True.intro | exact And.intro (fun _ => True.intro) (fun _ _ => True.intro) | (intro hq; (first | exact True.intro | omega | (simp only [and_true]; omega) | (simp only [bl] at hq; (try simp only [and_true]); omega) | fail)) | exact And.intro (fun hq => by first | exact True.intro | omega | (simp only [and_true]; omega) | (simp only [bl] at hq; (try simp only [and_true]); omega) | fail) (fun hq hr => by first | exact True.intro | omega | (simp only [and_true]; omega) | (simp only [bl] at hq hr; omega) | (simp only [bl] at hr; omega) | fail) | fail))) ?_ | refine And.intro (by (first | omega | (unfold InR; omega) | decide | (simp only [ll]; omega))) ?_ | (refine And.intro (fun h1 => ?_) (fun h1 => ?_) <;> first | (exact absurd h1 (by decide)) | ((try rw [h1]); (try simp only [bl] at h1))) | dsimp only)
    · rw [if_pos (List.any_eq_true.2 ⟨_, getD_mem hlt, by rw [h1]; rfl⟩)] at h
      exact h _ (Sub.hv subEnd)
    · exact ⟨⟨i + 1, rfl, rfl, hlt, by rw [ha, hn, h1]; rfl⟩, by simp; omega⟩
    all_goals (exfalso; omega)
  clear hi
  rw [List.take_of_length_le hge] at hn
  rw [if_neg (by rw [hn]; decide)] at h
  repeat (first | refine go ?_ | intro _ | refine And.intro (Sd.mk (by (first | exact fun _ => True.intro | exact And.intro (fun _ => True.intro) (fun _ _ => True.intro) | (intro hq; (first | exact True.intro | omega | (simp only [and_true]; omega) | (simp only [bl] at hq; (try simp only [and_true]); omega) | fail)) | exact And.intro (fun hq => by first | exact True.intro | omega | (simp only [and_true]; omega) | (simp only [bl] at hq; (try simp only [and_true]); omega) | fail) (fun hq hr => by first | exact True.intro | omega | (simp only [and_true]; omega) | (simp only [bl] at hq hr; omega) | (simp only [bl] at hr; omega) | fail) | fail))) ?_ | refine And.intro (by (first | omega | (unfold InR; omega) | decide | (simp only [ll]; omega))) ?_ | dsimp only)
  refine And.intro (fun h1 => ?_) (fun _ => ?_)
  · exfalso; simp at h1; omega
  refine j1_hv w0 (box b1 32 [xt, str pre, str cmd, xp] :: H) [] (.bool (!cmdB cmd || !decide (capsS cmd = cmd))) ?_ ?_
  · repeat' (first | refine go ?_ | intro _ | refine And.intro (Sd.mk (by (first | exact fun _ => True.intro | exact And.intro (fun _ => True.intro) (fun _ _ => True.intro) | (intro hq; (first | exact True.intro | omega | (simp only [and_true]; omega) | (simp only [bl] at hq; (try simp only [and_true]); omega) | fail)) | exact And.intro (fun hq => by first | exact True.intro | omega | (simp only [and_true]; omega) | (simp only [bl] at hq; (try simp only [and_true]); omega) | fail) (fun hq hr => by first | exact True.intro | omega | (simp only [and_true]; omega) | (simp only [bl] at hq hr; omega) | (simp only [bl] at hr; omega) | fail) | fail))) ?_ | refine And.intro (by (first | omega | (unfold InR; omega) | decide | (simp only [ll]; omega))) ?_ | (refine And.intro (fun h1 => ?_) (fun h1 => ?_) <;> first | (exact absurd h1 (by decide)) | ((try rw [h1]); (try simp only [bl] at h1))) | dsimp only)
    · exact ⟨rfl, _, rfl, by assumption⟩
    · exact ⟨rfl, _, rfl, by assumption⟩
  intro w3 o3
  clear o2
  repeat ((fail_if_success (refine And.intro (fun _ => ?_) (fun _ => ?_))); (first | refine go ?_ | intro _ | refine And.intro (Sd.mk (by (first | exact fun _ => True.intro | exact And.intro (fun _ => True.intro) (fun _ _ => True.intro) | (intro hq; (first | exact True.intro | omega | (simp only [and_true]; omega) | (simp only [bl] at hq; (try simp only [and_true]); omega) | fail)) | exact And.intro (fun hq => by first | exact True.intro | omega | (simp only [and_true]; omega) | (simp only [bl] at hq; (try simp only [and_true]); omega) | fail) (fun hq hr => by first | exact True.intro | omega | (simp only [and_true]; omega) | (simp only [bl] at hq hr; omega) | (simp only [bl] at hr; omega) | fail) | fail))) ?_ | refine And.intro (by (first | omega | (unfold InR; omega) | decide | (simp only [ll]; omega))) ?_ | dsimp only))
  refine And.intro (fun h1 => ?_) (fun h1 => ?_)
  · repeat' (first | refine go ?_ | intro _ | refine And.intro (Sd.mk (by (first | exact fun _ => True.intro | exact And.intro (fun _ => True.intro) (fun _ _ => True.intro) | (intro hq; (first | exact True.intro | omega | (simp only [and_true]; omega) | (simp only [bl] at hq; (try simp only [and_true]); omega) | fail)) | exact And.intro (fun hq => by first | exact True.intro | omega | (simp only [and_true]; omega) | (simp only [bl] at hq; (try simp only [and_true]); omega) | fail) (fun hq hr => by first | exact True.intro | omega | (simp only [and_true]; omega) | (simp only [bl] at hq hr; omega) | (simp only [bl] at hr; omega) | fail) | fail))) ?_ | refine And.intro (by (first | omega | (unfold InR; omega) | decide | (simp only [ll]; omega))) ?_ | (refine And.intro (fun h1 => ?_) (fun h1 => ?_) <;> first | (exact absurd h1 (by decide)) | ((try rw [h1]); (try simp only [bl] at h1))) | dsimp only)
    rw [if_pos h1] at h
    exact h _ (Sub.hv subEnd)
  rw [h1, if_neg (by decide)] at h
  repeat ((fail_if_success (refine And.intro (fun _ => ?_) (fun _ => ?_))); (first | refine go ?_ | intro _ | refine And.intro (Sd.mk (by (first | exact fun _ => True.intro | exact And.intro (fun _ => True.intro) (fun _ _ => True.intro) | (intro hq; (first | exact True.intro | omega | (simp only [and_true]; omega) | (simp only [bl] at hq; (try simp only [and_true]); omega) | fail)) | exact And.intro (fun hq => by first | exact True.intro | omega | (simp only [and_true]; omega) | (simp only [bl] at hq; (try simp only [and_true]); omega) | fail) (fun hq hr => by first | exact True.intro | omega | (simp only [and_true]; omega) | (simp only [bl] at hq hr; omega) | (simp only [bl] at hr; omega) | fail) | fail))) ?_ | refine And.intro (by (first | omega | (unfold InR; omega) | decide | (simp only [ll]; omega))) ?_ | dsimp only))
  refine And.intro (fun h15 => ?_) (fun h15 => ?_)
  · repeat' (first | refine go ?_ | intro _ | refine And.intro (Sd.mk (by (first | exact fun _ => True.intro | exact And.intro (fun _ => True.intro) (fun _ _ => True.intro) | (intro hq; (first | exact True.intro | omega | (simp only [and_true]; omega) | (simp only [bl] at hq; (try simp only [and_true]); omega) | fail)) | exact And.intro (fun hq => by first | exact True.intro | omega | (simp only [and_true]; omega) | (simp only [bl] at hq; (try simp only [and_true]); omega) | fail) (fun hq hr => by first | exact True.intro | omega | (simp only [and_true]; omega) | (simp only [bl] at hq hr; omega) | (simp only [bl] at hr; omega) | fail) | fail))) ?_ | refine And.intro (by (first | omega | (unfold InR; omega) | decide | (simp only [ll]; omega))) ?_ | (refine And.intro (fun h1 => ?_) (fun h1 => ?_) <;> first | (exact absurd h1 (by decide)) | ((try rw [h1]); (try simp only [bl] at h1))) | dsimp only)
    rw [if_pos (by simp at h15; omega)] at h
    exact h _ (Sub.hv subEnd)
  rw [if_neg (by simp at h15; omega)] at h
  have hdl : ps.dropLast.length = ps.length - 1 := by simp
  refine ⟨fun x s => ∃ (i : Nat), x = .int .i64 i ∧ s = ⟨w3, []⟩ ∧ i ≤ ps.dropLast.length ∧ (ps.dropLast.take i).any (fun p => decide (p = [])) = false,
    fun x s => match x with | .int _ z => ps.length - z.toNat | _ => 0, ⟨0, rfl, rfl, Nat.zero_le _, rfl⟩, ?_⟩
  rintro x s ⟨j, rfl, rfl, hj, hm⟩
  rcases Nat.lt_or_ge j ps.dropLast.length with hlt | hge2
  · have ha := any_take (p := fun p => decide (p = [])) hlt
    have hg := last_get (ps := ps) (i := j) (by omega)
    repeat' (first | refine go ?_ | intro _ | refine And.intro (Sd.mk (by (first | exact fun _ => True.intro | exact And.intro (fun _ => True.intro) (fun _ _ => True.intro) | (intro hq; (first | exact True.intro | omega | (simp only [and_true]; omega) | (simp only [bl] at hq; (try simp only [and_true]); omega) | fail)) | exact And.intro (fun hq => by first | exact True.intro | omega | (simp only [and_true]; omega) | (simp only [bl] at hq; (try simp only [and_true]); omega) | fail) (fun hq hr => by first | exact True.intro | omega | (simp only [and_true]; omega) | (simp only [bl] at hq hr; omega) | (simp only [bl] at hr; omega) | fail) | fail))) ?_ | refine And.intro (by (first | omega | (unfold InR; omega) | decide | (simp only [ll]; omega))) ?_ | (refine And.intro (fun h1 => ?_) (fun h1 => ?_) <;> first | (exact absurd h1 (by decide)) | ((try rw [h1]); (try simp only [bl] at h1))) | dsimp only)
    · rw [if_pos (List.any_eq_true.2 ⟨_, getD_mem hlt, by rw [hg, h1]; rfl⟩)] at h
      exact h _ (Sub.hv subEnd)
    · exact ⟨⟨j + 1, rfl, rfl, hlt, by rw [ha, hm, hg, decide_eq_false h1]; rfl⟩, by simp; omega⟩
    all_goals (exfalso; omega)
  clear hj
  rw [List.take_of_length_le hge2] at hm
  rw [if_neg (by rw [hm]; decide)] at h
  repeat (first | refine go ?_ | intro _ | refine And.intro (Sd.mk (by (first | exact fun _ => True.intro | exact And.intro (fun _ => True.intro) (fun _ _ => True.intro) | (intro hq; (first | exact True.intro | omega | (simp only [and_true]; omega) | (simp only [bl] at hq; (try simp only [and_true]); omega) | fail)) | exact And.intro (fun hq => by first | exact True.intro | omega | (simp only [and_true]; omega) | (simp only [bl] at hq; (try simp only [and_true]); omega) | fail) (fun hq hr => by first | exact True.intro | omega | (simp only [and_true]; omega) | (simp only [bl] at hq hr; omega) | (simp only [bl] at hr; omega) | fail) | fail))) ?_ | refine And.intro (by (first | omega | (unfold InR; omega) | decide | (simp only [ll]; omega))) ?_ | dsimp only)
  refine And.intro (fun h1 => ?_) (fun _ => ?_)
  · exfalso; simp at h1; omega
  refine ⟨fun x s => ∃ (i : Nat), x = .int .i64 i ∧ s = ⟨w3, []⟩ ∧ i ≤ ps.dropLast.length ∧ (ps.dropLast.take i).any spare = false,
    fun x s => match x with | .int _ z => ps.length - z.toNat | _ => 0, ⟨0, rfl, rfl, Nat.zero_le _, rfl⟩, ?_⟩
  rintro x s ⟨k, rfl, rfl, hk, hn2⟩
  rcases Nat.lt_or_ge k ps.dropLast.length with hlt | hge3
  · have ha := any_take (p := spare) hlt
    have hg := last_get (ps := ps) (i := k) (by omega)
    have h2 := hpp (ps.getD k default) (getD_mem (by omega))
    have hne : ps.getD k default ≠ [] := by
      have := List.any_eq_false.1 hm (ps.dropLast.getD k default) (getD_mem hlt)
      rw [hg] at this; simpa [-List.getD_eq_getElem?_getD] using this
    have hpos := List.length_pos_iff.2 hne
    have hh := hd_drop (l := ps.getD k default) (i := 0) 58
    rw [List.drop_zero, decide_eq_true hpos, Bool.true_and] at hh
    have hsp2 : spare (ps.getD k default) = (decide ((ps.getD k default).getD 0 default = 58) || (ps.getD k default).contains 32) := by rw [spare_eq, decide_eq_false hne, hh]; rfl
    have done : spare (ps.getD k default) = true → K (.int .i64 8) ⟨w3, ds⟩ := fun hs => by
      rw [if_pos (List.any_eq_true.2 ⟨_, getD_mem hlt, by rw [hg]; exact hs⟩)] at h
      exact h _ (Sub.hv subEnd)
    repeat' (first | refine go ?_ | intro _ | refine And.intro (Sd.mk (by (first | exact fun _ => True.intro | exact And.intro (fun _ => True.intro) (fun _ _ => True.intro) | (intro hq; (first | exact True.intro | omega | (simp only [and_true]; omega) | (simp only [bl] at hq; (try simp only [and_true]); omega) | fail)) | exact And.intro (fun hq => by first | exact True.intro | omega | (simp only [and_true]; omega) | (simp only [bl] at hq; (try simp only [and_true]); omega) | fail) (fun hq hr => by first | exact True.intro | omega | (simp only [and_true]; omega) | (simp only [bl] at hq hr; omega) | (simp only [bl] at hr; omega) | fail) | fail))) ?_ | refine And.intro (by (first | omega | (unfold InR; omega) | decide | (simp only [ll]; omega))) ?_ | (refine And.intro (fun h1 => ?_) (fun h1 => ?_) <;> first | (exact absurd h1 (by decide)) | ((try rw [h1]); (try simp only [bl] at h1))) | dsimp only)
    · exact done (by rw [hsp2, h1, Bool.or_true])
    · refine ⟨⟨k + 1, rfl, rfl, hlt, ?_⟩, by simp; omega⟩
      rw [ha, hn2, hg, hsp2, h1, decide_eq_false ‹¬ _ = (58 : UInt8)›]; rfl
    · exact done (by rw [hsp2, decide_eq_true h1]; rfl)
    · exfalso; omega
  clear hk
  rw [List.take_of_length_le hge3] at hn2
  rw [if_neg (by rw [hn2]; decide)] at h
  repeat' (first | refine go ?_ | intro _ | refine And.intro (Sd.mk (by (first | exact fun _ => True.intro | exact And.intro (fun _ => True.intro) (fun _ _ => True.intro) | (intro hq; (first | exact True.intro | omega | (simp only [and_true]; omega) | (simp only [bl] at hq; (try simp only [and_true]); omega) | fail)) | exact And.intro (fun hq => by first | exact True.intro | omega | (simp only [and_true]; omega) | (simp only [bl] at hq; (try simp only [and_true]); omega) | fail) (fun hq hr => by first | exact True.intro | omega | (simp only [and_true]; omega) | (simp only [bl] at hq hr; omega) | (simp only [bl] at hr; omega) | fail) | fail))) ?_ | refine And.intro (by (first | omega | (unfold InR; omega) | decide | (simp only [ll]; omega))) ?_ | (refine And.intro (fun h1 => ?_) (fun h1 => ?_) <;> first | (exact absurd h1 (by decide)) | ((try rw [h1]); (try simp only [bl] at h1))) | dsimp only)
  · exfalso; omega
  · rw [if_pos (by omega)] at h
    exact h _ (Sub.hv subEnd)
  · rw [if_neg (by omega)] at h
    exact h _ (Sub.hv subEnd)⟩
instance mTextR_ok [o : Hv w0 H w] [rt : RdsF w0 H xt 2 nt zt] [et : Encs encT zt T] [rp : RdsF w0 H xp 1 np zp] [ep : Strs zp ps] [ok : okS (T, pre, cmd, ps)] :
    Step (Cl P 22 #[.agg #[xt, str pre, str cmd, xp]] K ⟨w, ds⟩) (∀ w', Hv w0 H w' → K (str (mtextM (T, pre, cmd, ps))) ⟨w', ds⟩) := ⟨fun h => by
  refine cl_ok (c22 (K := fun v w' => K v ⟨w', ds⟩) ?_ fun v w' h => ⟨v, rfl, h⟩)
  have lt : RdsL w0 H xt 2 nt zt := rt.loc
  have lp : RdsL w0 H xp 1 np zp := rp.loc
  have r0 := rt.rd w o
  have r1 := rp.rd w o
  have one1 : One w xt := inferInstance
  have one2 : ∀ w, One w xt := fun w => ⟨one1.eq⟩
  have one3 : One w xp := inferInstance
  have one4 : ∀ w, One w xp := fun w => ⟨one3.eq⟩
  unfold D22
  repeat' (first | refine go ?_ | intro _ | refine And.intro (Sd.mk (by (first | exact fun _ => True.intro | exact And.intro (fun _ => True.intro) (fun _ _ => True.intro) | (intro hq; (first | exact True.intro | omega | (simp only [and_true]; omega) | (simp only [bl] at hq; (try simp only [and_true]); omega) | fail)) | exact And.intro (fun hq => by first | exact True.intro | omega | (simp only [and_true]; omega) | (simp only [bl] at hq; (try simp only [and_true]); omega) | fail) (fun hq hr => by first | exact True.intro | omega | (simp only [and_true]; omega) | (simp only [bl] at hq hr; omega) | (simp only [bl] at hr; omega) | fail) | fail))) ?_ | refine And.intro (by (first | omega | (unfold InR; omega) | decide | (simp only [ll]; omega))) ?_ | (refine And.intro (fun h1 => ?_) (fun h1 => ?_) <;> first | (exact absurd h1 (by decide)) | ((try rw [h1]); (try simp only [bl] at h1))) | dsimp only)
  · have e : mtextM (T, pre, cmd, ps) = [] := by unfold mtextM; rw [if_neg h1]
    rw [e] at h
    exact h _ (Sub.hv subEnd)
  · have e : mtextM (T, pre, cmd, ps) = plainM (T, pre, cmd, ps) := by unfold mtextM; rw [if_pos h1]
    rw [e] at h
    exact h _ (Sub.hv subEnd)⟩
end
end Go.Proofs.YtapammcnagjigaaDoor

