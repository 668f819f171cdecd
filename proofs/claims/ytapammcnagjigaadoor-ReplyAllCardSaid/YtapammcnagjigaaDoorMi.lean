import Derived.Test.YtapammcnagjigaaDoorMh
set_option linter.all false
namespace Go.Proofs.YtapammcnagjigaaDoor
open Go.Vx Go.Lib
/-! messages are the same -/
section
variable {K : Value → St → Prop} {w0 w : World} {H R : List SL} {ds : List Deferred} {l : List UInt8}
variable {x y xt yt xp yp : Value} {T U : List Tag} {ps qs : List (List UInt8)} {nt mt np mp : Nat} {zt ut zp up : List Value} {pre cmd pre2 cmd2 : List UInt8}
instance texts_ok [o : Hv w0 H w] [rx : RdsF w0 H x 1 np zp] [ex : Strs zp ps] [ry : RdsF w0 H y 1 mp up] [ey : Strs up qs] :
    Step (Cl P 50 #[x, y] K ⟨w, ds⟩) (ps.length ≤ 100000 ∧ ∀ w', Hv w0 H w' → K (.bool (decide (ps = qs))) ⟨w', ds⟩) := ⟨fun ⟨hl, h⟩ => by
  refine cl_ok (c50 (K := fun v w' => K v ⟨w', ds⟩) ?_ fun v w' h => ⟨v, rfl, h⟩)
  have rlx := rx.loc
  have rly := ry.loc
  have r1 := rx.rd w o
  have r2 := ry.rd w o
  have em : np = ps.length := by have := r1.len; rw [ex.eq] at this; simpa using this.symm
  have en : mp = qs.length := by have := r2.len; rw [ey.eq] at this; simpa using this.symm
  obtain rfl := ex.eq
  obtain rfl := ey.eq
  clear r1 r2 ex ey
  subst em en
  unfold D50
  dsimp only
  repeat' (first | refine go ?_ | intro _ | refine And.intro (Sd.mk (by (first | exact fun _ => True.intro | exact And.intro (fun _ => True.intro) (fun _ _ => True.intro) | (intro hq; (first | exact True.intro | omega | (simp only [and_true]; omega) | (simp only [bl] at hq; (try simp only [and_true]); omega) | fail)) | exact And.intro (fun hq => by first | exact True.intro | omega | (simp only [and_true]; omega) | (simp only [bl] at hq; (try simp only [and_true]); omega) | fail) (fun hq hr => by first | exact True.intro | omega | (simp only [and_true]; omega) | (simp only [bl] at hq hr; omega) | (simp only [bl] at hr; omega) | fail) | fail))) ?_ | refine And.intro (by (first | omega | (unfold InR; omega) | decide | (simp only [ll]; omega))) ?_ | (refine And.intro (fun h1 => ?_) (fun h1 => ?_) <;> first | (exact absurd h1 (by decide)) | ((try rw [h1]); (try simp only [bl] at h1))) | dsimp only)
  · have hne : ps ≠ qs := fun e => h1 (by rw [e])
    simpa [hne] using h _ o
  have hn : ps.length = qs.length := by omega
  refine ⟨fun y s => ∃ (i : Nat) (w' : World), y = .int .i64 i ∧ s = ⟨w', []⟩ ∧ i ≤ ps.length ∧ ps.take i = qs.take i ∧ Hv w0 H w',
    fun y s => match y with | .int _ z => ps.length - z.toNat | _ => 0, ⟨0, w, rfl, rfl, Nat.zero_le _, by simp, o⟩, ?_⟩
  rintro y s ⟨i, w1, rfl, rfl, hi, he, o1⟩
  repeat' (first | refine go ?_ | intro _ | refine And.intro (Sd.mk (by (first | exact fun _ => True.intro | exact And.intro (fun _ => True.intro) (fun _ _ => True.intro) | (intro hq; (first | exact True.intro | omega | (simp only [and_true]; omega) | (simp only [bl] at hq; (try simp only [and_true]); omega) | fail)) | exact And.intro (fun hq => by first | exact True.intro | omega | (simp only [and_true]; omega) | (simp only [bl] at hq; (try simp only [and_true]); omega) | fail) (fun hq hr => by first | exact True.intro | omega | (simp only [and_true]; omega) | (simp only [bl] at hq hr; omega) | (simp only [bl] at hr; omega) | fail) | fail))) ?_ | refine And.intro (by (first | omega | (unfold InR; omega) | decide | (simp only [ll]; omega))) ?_ | (refine And.intro (fun h1 => ?_) (fun h1 => ?_) <;> first | (exact absurd h1 (by decide)) | ((try rw [h1]); (try simp only [bl] at h1))) | dsimp only)
  · have hlt : i < ps.length := by omega
    have hne : ps ≠ qs := fun e => by subst e; exact h1 rfl
    simpa [hne] using h _ (Sub.hv subEnd)
  · have hlt : i < ps.length := by omega
    refine ⟨⟨i + 1, _, rfl, rfl, hlt, ?_, Sub.hv subEnd⟩, by simp; omega⟩
    rw [take_snoc hlt, take_snoc (show i < qs.length by omega), he, h1]
  · have : ps = qs := by rw [← List.take_of_length_le (show ps.length ≤ i by omega), he, List.take_of_length_le (by omega)]
    simpa [this] using h _ (Sub.hv subEnd)⟩
instance sameM_ok [o : Hv w0 H w] [rt : RdsF w0 H xt 2 nt zt] [et : Encs encT zt T] [rp : RdsF w0 H xp 1 np zp] [ep : Strs zp ps] [ru : RdsF w0 H yt 2 mt ut] [eu : Encs encT ut U] [rq : RdsF w0 H yp 1 mp up] [eq : Strs up qs] :
    Step (Cl P 18 #[.agg #[xt, str pre, str cmd, xp], .agg #[yt, str pre2, str cmd2, yp]] K ⟨w, ds⟩) ((T.length ≤ 100000 ∧ ps.length ≤ 100000) ∧ ∀ w', Hv w0 H w' → K (.bool (decide ((T, pre, cmd, ps) = (U, pre2, cmd2, qs)))) ⟨w', ds⟩) := ⟨fun ⟨⟨hl, hl2⟩, h⟩ => by
  refine cl_ok (c18 (K := fun v w' => K v ⟨w', ds⟩) ?_ fun v w' h => ⟨v, rfl, h⟩)
  have lt := rt.loc
  have lp := rp.loc
  have lu := ru.loc
  have lq := rq.loc
  have r1 := rt.rd w o
  have r2 := rp.rd w o
  have r3 := ru.rd w o
  have r4 := rq.rd w o
  have one1 : One w xt := inferInstance
  have one2 : ∀ w, One w xt := fun w => ⟨one1.eq⟩
  have one3 : One w xp := inferInstance
  have one4 : ∀ w, One w xp := fun w => ⟨one3.eq⟩
  have one5 : One w yt := inferInstance
  have one6 : ∀ w, One w yt := fun w => ⟨one5.eq⟩
  have one7 : One w yp := inferInstance
  have one8 : ∀ w, One w yp := fun w => ⟨one7.eq⟩
  clear r1 r2 r3 r4
  have hd : decide ((T, pre, cmd, ps) = (U, pre2, cmd2, qs)) = (decide (T = U) && (decide (pre = pre2) && (decide (cmd = cmd2) && decide (ps = qs)))) := by
    rw [Bool.eq_iff_iff]; simp
  rw [hd] at h
  unfold D18
  repeat' (first | refine go ?_ | intro _ | refine And.intro (Sd.mk (by (first | exact fun _ => True.intro | exact And.intro (fun _ => True.intro) (fun _ _ => True.intro) | (intro hq; (first | exact True.intro | omega | (simp only [and_true]; omega) | (simp only [bl] at hq; (try simp only [and_true]); omega) | fail)) | exact And.intro (fun hq => by first | exact True.intro | omega | (simp only [and_true]; omega) | (simp only [bl] at hq; (try simp only [and_true]); omega) | fail) (fun hq hr => by first | exact True.intro | omega | (simp only [and_true]; omega) | (simp only [bl] at hq hr; omega) | (simp only [bl] at hr; omega) | fail) | fail))) ?_ | refine And.intro (by (first | omega | (unfold InR; omega) | decide | (simp only [ll]; omega))) ?_ | (refine And.intro (fun h1 => ?_) (fun h1 => ?_) <;> first | (exact absurd h1 (by decide)) | ((try rw [h1]); (try simp only [bl] at h1))) | dsimp only)
  · obtain ⟨⟨e1, e2⟩, e3⟩ := h1
    refine cast (congrArg (fun b => K (.bool b) _) ?_) (h _ (Sub.hv subEnd))
    rw [decide_eq_true e1, decide_eq_true e2, decide_eq_true e3]; rfl
  · refine cast (congrArg (fun b => K (.bool b) _) ?_) (h _ (Sub.hv subEnd))
    simp only [Bool.and_eq_false_iff, decide_eq_false_iff_not]
    by_cases e1 : T = U
    · by_cases e2 : pre = pre2
      · exact .inr (.inr (.inl (h1 ⟨e1, e2⟩)))
      · exact .inr (.inl e2)
    · exact .inl e1⟩
instance param_ok {z : Int} {i : Nat} [o : Hv w0 H w] [on : One w xt] [rp : RdsF w0 H xp 1 np zp] [ep : Strs zp ps] [zn : ToN z i] :
    Step (Cl P 19 #[.agg #[xt, str pre, str cmd, xp], .int .i64 z] K ⟨w, ds⟩) (∀ w', Hv w0 H w' → K (str (if 0 ≤ z ∧ z < ps.length then ps.getD i default else [])) ⟨w', ds⟩) := ⟨fun h => by
  refine cl_ok (c19 (K := fun v w' => K v ⟨w', ds⟩) ?_ fun v w' h => ⟨v, rfl, h⟩)
  have lp := rp.loc
  have r2 := rp.rd w o
  have one3 : One w xp := inferInstance
  have one4 : ∀ w, One w xp := fun w => ⟨one3.eq⟩
  have em : np = ps.length := by have := r2.len; rw [ep.eq] at this; simpa using this.symm
  obtain rfl := ep.eq
  clear r2 ep
  subst em
  unfold D19
  repeat' (first | refine go ?_ | intro _ | refine And.intro (Sd.mk (by (first | exact fun _ => True.intro | exact And.intro (fun _ => True.intro) (fun _ _ => True.intro) | (intro hq; (first | exact True.intro | omega | (simp only [and_true]; omega) | (simp only [bl] at hq; (try simp only [and_true]); omega) | fail)) | exact And.intro (fun hq => by first | exact True.intro | omega | (simp only [and_true]; omega) | (simp only [bl] at hq; (try simp only [and_true]); omega) | fail) (fun hq hr => by first | exact True.intro | omega | (simp only [and_true]; omega) | (simp only [bl] at hq hr; omega) | (simp only [bl] at hr; omega) | fail) | fail))) ?_ | refine And.intro (by (first | omega | (unfold InR; omega) | decide | (simp only [ll]; omega))) ?_ | (refine And.intro (fun h1 => ?_) (fun h1 => ?_) <;> first | (exact absurd h1 (by decide)) | ((try rw [h1]); (try simp only [bl] at h1))) | dsimp only)
  · rw [if_neg (by omega)] at h
    exact h _ (Sub.hv subEnd)
  · rw [if_pos (by omega)] at h
    exact h _ (Sub.hv subEnd)⟩
theorem awM : parseM [64, 97, 61, 98, 32, 58, 120, 33, 121, 64, 122, 32, 112, 114, 105, 118, 109, 115, 103, 32, 35, 99, 32, 58, 104, 105, 32, 116, 104, 101, 114, 101] = (([([97], [98])], [120, 33, 121, 64, 122], [80, 82, 73, 86, 77, 83, 71], [[35, 99], [104, 105, 32, 116, 104, 101, 114, 101]]), 0) := by decide +kernel
instance awake07_ok [o : Hv w0 H w] : Step (Cl P 15 #[] K ⟨w, ds⟩) (∀ w', Hv w0 H w' → K (.bool true) ⟨w', ds⟩) := ⟨fun h => by
  refine cl_ok (c15 (K := fun v w' => K v ⟨w', ds⟩) ?_ fun v w' h => ⟨v, rfl, h⟩)
  unfold D15
  dsimp only
  refine (mparse_ok (l := [64, 97, 61, 98, 32, 58, 120, 33, 121, 64, 122, 32, 112, 114, 105, 118, 109, 115, 103, 32, 35, 99, 32, 58, 104, 105, 32, 116, 104, 101, 114, 101]) (o := o)).prf fun tv pv w1 o1 => ?_
  rw [awM] at o1 ⊢
  dsimp only at o1 ⊢
  simp only [List.length_cons, List.length_nil, Nat.zero_add, List.flatMap_cons, List.flatMap_nil, encT, List.map_cons, List.map_nil, List.append_nil] at o1
  repeat' (first | refine go ?_ | intro _ | refine And.intro (Sd.mk (by (first | exact fun _ => True.intro | exact And.intro (fun _ => True.intro) (fun _ _ => True.intro) | (intro hq; (first | exact True.intro | omega | (simp only [and_true]; omega) | (simp only [bl] at hq; (try simp only [and_true]); omega) | fail)) | exact And.intro (fun hq => by first | exact True.intro | omega | (simp only [and_true]; omega) | (simp only [bl] at hq; (try simp only [and_true]); omega) | fail) (fun hq hr => by first | exact True.intro | omega | (simp only [and_true]; omega) | (simp only [bl] at hq hr; omega) | (simp only [bl] at hr; omega) | fail) | fail))) ?_ | refine And.intro (by (first | omega | (unfold InR; omega) | decide | (simp only [ll]; omega))) ?_ | (refine And.intro (fun h1 => ?_) (fun h1 => ?_) <;> first | (exact absurd h1 (by decide)) | ((try rw [h1]); (try simp only [bl] at h1))) | dsimp only)
  all_goals first
    | exact h _ (Sub.hv subEnd)
    | (exfalso; revert h1; decide)⟩
theorem parse_small_m (l : List UInt8) : (parseM l).1.1.length ≤ 16 ∧ (parseM l).1.2.2.2.length ≤ 15 := by
  by_cases h : (parseM l).2 = 0
  · obtain ⟨⟨h1, _⟩, _, h3, _⟩ := parse_good h
    refine ⟨?_, h3⟩
    rcases h1 with h1 | h1
    · rw [h1]; simp
    · exact ((check_zero _).1 h1).2.2.2
  · rw [(parse_err h).1]; simp
set_option maxRecDepth 20000 in
theorem mparses_ok {w : World} (l : List UInt8) : Calls P 5 #[str l] w fun e w' => e = .returned (.bool true) ∧ Hv w [] w' := by
  refine c5 (K := fun v w' => v = .bool true ∧ Hv w [] w') ?_ fun v w' h => ⟨by rw [h.1], h.2⟩
  have o := Hv.begin w
  have hs := parse_small_m l
  unfold D5
  repeat' (first | refine go ?_ | intro _ | refine And.intro (Sd.mk (by (first | exact fun _ => True.intro | exact And.intro (fun _ => True.intro) (fun _ _ => True.intro) | (intro hq; (first | exact True.intro | omega | (simp only [and_true]; omega) | (simp only [bl] at hq; (try simp only [and_true]); omega) | fail)) | exact And.intro (fun hq => by first | exact True.intro | omega | (simp only [and_true]; omega) | (simp only [bl] at hq; (try simp only [and_true]); omega) | fail) (fun hq hr => by first | exact True.intro | omega | (simp only [and_true]; omega) | (simp only [bl] at hq hr; omega) | (simp only [bl] at hr; omega) | fail) | fail))) ?_ | refine And.intro (by (first | omega | (unfold InR; omega) | decide | (simp only [ll]; omega))) ?_ | (refine And.intro (fun h1 => ?_) (fun h1 => ?_) <;> first | (exact absurd h1 (by decide)) | ((try rw [h1]); (try simp only [bl] at h1))) | dsimp only)
  · exact ⟨rfl, Sub.hv subEnd⟩
  · exfalso; revert h1; simp
  rename_i b1 b2 _ _ w1 o1
  refine ⟨fun x s => ∃ (i : Nat) (w' : World), x = .int .i64 ((i : Int) - 1) ∧ s = ⟨w', []⟩ ∧ i ≤ (parseM l).1.2.2.2.length + 2 ∧ Hv w _ w', fun x s => match x with | .int _ z => 1000000 - (z + 1).toNat | _ => 0, ⟨0, w1, rfl, rfl, Nat.zero_le _, o1⟩, ?_⟩
  rintro x s ⟨i, w2, rfl, rfl, hi, o2⟩
  clear o1 o
  repeat' (first | refine go ?_ | intro _ | refine And.intro (Sd.mk (by (first | exact fun _ => True.intro | exact And.intro (fun _ => True.intro) (fun _ _ => True.intro) | (intro hq; (first | exact True.intro | omega | (simp only [and_true]; omega) | (simp only [bl] at hq; (try simp only [and_true]); omega) | fail)) | exact And.intro (fun hq => by first | exact True.intro | omega | (simp only [and_true]; omega) | (simp only [bl] at hq; (try simp only [and_true]); omega) | fail) (fun hq hr => by first | exact True.intro | omega | (simp only [and_true]; omega) | (simp only [bl] at hq hr; omega) | (simp only [bl] at hr; omega) | fail) | fail))) ?_ | refine And.intro (by (first | omega | (unfold InR; omega) | decide | (simp only [ll]; omega))) ?_ | (refine And.intro (fun h1 => ?_) (fun h1 => ?_) <;> first | (exact absurd h1 (by decide)) | ((try rw [h1]); (try simp only [bl] at h1))) | dsimp only)
  · exfalso; apply h1; rw [if_pos (by omega)]
  · exact ⟨⟨i + 1, _, by congr 1; omega, rfl, by omega, by assumption⟩, by omega⟩
  · exfalso; apply h1; rw [if_neg (by omega)]
  · exact ⟨⟨i + 1, _, by congr 1; omega, rfl, by omega, by assumption⟩, by omega⟩
  · exact ⟨rfl, Sub.hv subEnd⟩
end
end Go.Proofs.YtapammcnagjigaaDoor

