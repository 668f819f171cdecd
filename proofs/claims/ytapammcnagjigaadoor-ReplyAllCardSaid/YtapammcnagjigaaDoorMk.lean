import Derived.Test.YtapammcnagjigaaDoorMj
set_option linter.all false
namespace Go.Proofs.YtapammcnagjigaaDoor
open Go.Vx Go.Lib
/-! whether a message may be written -/
theorem text_len2 {T : List Tag} (h : fits T) (hl : T.length ≤ 20) : (textT T).length ≤ 100000 := by
  unfold textT
  split
  · simp
  · have := join_len (T.map pieceT) fun p hp => by
      obtain ⟨t, ht, rfl⟩ := List.mem_map.1 hp
      exact piece_len (h.2 t ht)
    rw [List.length_map] at this
    omega
/-- How great a message may be here. -/
class okS (m : Msg) : Prop where
  ft : fits m.1
  tl : m.1.length ≤ 20
  pl : m.2.1.length ≤ 100000
  cl : m.2.2.1.length ≤ 100000
  nl : m.2.2.2.length ≤ 100
  al : ∀ p ∈ m.2.2.2, p.length ≤ 1000
theorem plain_len {m : Msg} (h : okS m) : (plainM m).length ≤ 1000000 := by
  obtain ⟨T, pre, cmd, ps⟩ := m
  obtain ⟨h1, h2, h3, h4, h5, h6⟩ := h
  dsimp only at *
  have ht := text_len2 h1 h2
  unfold plainM
  rw [List.length_append, head_eq, ← parT_end]
  have h7 := parT_len ps h6 _ (Nat.le_refl _)
  have h8 : (preP pre).length ≤ 100002 := by unfold preP; split <;> simp; omega
  have h9 : (tagP T).length ≤ 100002 := by unfold tagP; split <;> simp; omega
  simp only [List.length_append]
  omega
section
variable {K : Value → St → Prop} {w0 w : World} {H R : List SL} {ds : List Deferred} {l : List UInt8}
variable {xt xp : Value} {T : List Tag} {ps : List (List UInt8)} {nt np : Nat} {zt zp : List Value} {pre cmd : List UInt8}
instance mcheck_ok [o : Hv w0 H w] [rt : RdsF w0 H xt 2 nt zt] [et : Encs encT zt T] [rp : RdsF w0 H xp 1 np zp] [ep : Strs zp ps] [ok : okS (T, pre, cmd, ps)] :
    Step (Cl P 24 #[.agg #[xt, str pre, str cmd, xp]] K ⟨w, ds⟩) (∀ w', Hv w0 H w' → K (.int .i64 (checkM (T, pre, cmd, ps))) ⟨w', ds⟩) := ⟨fun h => by
  refine cl_ok (c24 (K := fun v w' => K v ⟨w', ds⟩) ?_ fun v w' h => ⟨v, rfl, h⟩)
  have hpl := plain_len ok
  obtain ⟨hf, htl, hprl, hcl, hps, hpp⟩ := ok
  dsimp only at hf htl hprl hcl hps hpp
  have lt : RdsL w0 H xt 2 nt zt := rt.loc
  have lp : RdsL w0 H xp 1 np zp := rp.loc
  have r0 := rt.rd w o
  have r1 := rp.rd w o
  have en : nt = T.length := et.len r0.len (by decide)
  have em : np = ps.length := by have := r1.len; rw [ep.eq] at this; simpa using this.symm
  have one1 : One w xt := inferInstance
  have one2 : ∀ w, One w xt := fun w => ⟨one1.eq⟩
  have one3 : One w xp := inferInstance
  have one4 : ∀ w, One w xp := fun w => ⟨one3.eq⟩
  obtain rfl := ep.eq
  clear r0 r1 ep
  subst en em
  have fl : FitL 1000000 ps := ⟨fun p hp => by have := hpp p hp; omega⟩
  have htt : T.length ≤ 1000 ∧ ∀ t ∈ T, t.1.length ≤ 1000000 ∧ t.2.length ≤ 1000000 := ⟨by omega, fun t ht => by have := hf.2 t ht; omega⟩
  unfold checkM at h
  dsimp only at h
  unfold D24
  repeat ((fail_if_success (refine j0_any (fun _ => True) ?_ ?_)); (first | refine go ?_ | intro _ | refine And.intro (Sd.mk (by (first | exact fun _ => True.intro | exact And.intro (fun _ => True.intro) (fun _ _ => True.intro) | (intro hq; (first | exact True.intro | omega | (simp only [and_true]; omega) | (simp only [bl] at hq; (try simp only [and_true]); omega) | fail)) | exact And.intro (fun hq => by first | exact True.intro | omega | (simp only [and_true]; omega) | (simp only [bl] at hq; (try simp only [and_true]); omega) | fail) (fun hq hr => by first | exact True.intro | omega | (simp only [and_true]; omega) | (simp only [bl] at hq hr; omega) | (simp only [bl] at hr; omega) | fail) | fail))) ?_ | refine And.intro (by (first | omega | (unfold InR; omega) | decide | (simp only [ll]; omega))) ?_ | dsimp only))
  rename_i b1 w1 o1
  refine j0_any (fun s => (T = [] ∨ checkT T = 0) ∧ ∃ w', s = ⟨w', []⟩ ∧ Hv w0 (box b1 32 [xt, str pre, str cmd, xp] :: H) w') ?_ ?_
  · repeat' (first | refine go ?_ | intro _ | refine And.intro (Sd.mk (by (first | exact fun _ => True.intro | exact And.intro (fun _ => True.intro) (fun _ _ => True.intro) | (intro hq; (first | exact True.intro | omega | (simp only [and_true]; omega) | (simp only [bl] at hq; (try simp only [and_true]); omega) | fail)) | exact And.intro (fun hq => by first | exact True.intro | omega | (simp only [and_true]; omega) | (simp only [bl] at hq; (try simp only [and_true]); omega) | fail) (fun hq hr => by first | exact True.intro | omega | (simp only [and_true]; omega) | (simp only [bl] at hq hr; omega) | (simp only [bl] at hr; omega) | fail) | fail))) ?_ | refine And.intro (by (first | omega | (unfold InR; omega) | decide | (simp only [ll]; omega))) ?_ | (refine And.intro (fun h1 => ?_) (fun h1 => ?_) <;> first | (exact absurd h1 (by decide)) | ((try rw [h1]); (try simp only [bl] at h1))) | dsimp only)
    · have hne : T ≠ [] := by intro e; subst e; simp at *
      rw [if_pos ⟨hne, h1⟩] at h
      exact h _ (Sub.hv subEnd)
    · exact ⟨_, rfl, Sub.hv (subBox rfl subEnd)⟩
    · exact ⟨.inl (List.eq_nil_of_length_eq_zero (by omega)), _, rfl, o1⟩
  rintro _ ⟨hT, w2, rfl, o2⟩
  clear o1
  rw [if_neg (fun hc => hc.2 (hT.resolve_left hc.1))] at h
  have c2 : (txtB pre = true ∧ pre.contains 32 = false) → (ps.any fun p => !txtB p) = false → ¬ ((!txtB pre || pre.contains 32 || ps.any fun p => !txtB p) = true) := fun a b => by rw [b, a.1, a.2]; decide
  repeat' (first | refine go ?_ | intro _ | refine And.intro (Sd.mk (by (first | exact fun _ => True.intro | exact And.intro (fun _ => True.intro) (fun _ _ => True.intro) | (intro hq; (first | exact True.intro | omega | (simp only [and_true]; omega) | (simp only [bl] at hq; (try simp only [and_true]); omega) | fail)) | exact And.intro (fun hq => by first | exact True.intro | omega | (simp only [and_true]; omega) | (simp only [bl] at hq; (try simp only [and_true]); omega) | fail) (fun hq hr => by first | exact True.intro | omega | (simp only [and_true]; omega) | (simp only [bl] at hq hr; omega) | (simp only [bl] at hr; omega) | fail) | fail))) ?_ | refine And.intro (by (first | omega | (unfold InR; omega) | decide | (simp only [ll]; omega))) ?_ | (refine And.intro (fun h1 => ?_) (fun h1 => ?_) <;> first | (exact absurd h1 (by decide)) | ((try rw [h1]); (try simp only [bl] at h1))) | dsimp only)
  · rw [if_pos (by rw [h1]; simp)] at h
    exact h _ (Sub.hv subEnd)
  · rw [if_neg (c2 ‹_› ‹_›), if_pos (by rw [decide_eq_false h1]; simp)] at h
    exact h _ (Sub.hv subEnd)
  · rw [if_neg (c2 ‹_› ‹_›), if_neg (by rw [‹cmdB cmd = true›, decide_eq_true ‹capsS cmd = cmd›]; decide), if_pos (by omega)] at h
    exact h _ (Sub.hv subEnd)
  · rename_i v2 hs
    have hany : (ps.any fun p => !txtB p) = false := by assumption
    have hpre : txtB pre = true ∧ pre.contains 32 = false := by assumption
    have hcmd : cmdB cmd = true := by assumption
    have hcap : capsS cmd = cmd := by assumption
    rw [if_neg (by rw [hany, hpre.1, hpre.2]; decide), if_neg (by rw [hcmd, hcap]; simp), if_neg (by omega)] at h
    have em : ((max ((ps.length : Int) - 1) 0).toNat - 0) = ps.length - 1 := by omega
    rw [em] at hs
    have ed : ((ps.map str).drop (0 * 1)).take ((ps.length - 1) * 1) = ps.dropLast.map str := by
      rw [List.dropLast_eq_take, List.map_take]; simp
    have el : ps.dropLast.length = ps.length - 1 := by simp
    have r2 : RdsF w0 H v2 1 (ps.length - 1) (((ps.map str).drop (0 * 1)).take ((ps.length - 1) * 1)) := inferInstance
    rw [ed, ← el] at r2
    have l2 := r2.loc
    have fl2 : FitL 1000000 ps.dropLast := ⟨fun p hp => fl.out p (List.dropLast_subset _ hp)⟩
    have hms : fits T ∧ (textT T).length ≤ 100000 ∧ pre.length ≤ 100000 ∧ cmd.length ≤ 100000 ∧ ps.length ≤ 100 ∧ ∀ p ∈ ps, p.length ≤ 1000 := ⟨hf, text_len2 hf htl, hprl, hcl, hps, hpp⟩
    repeat' (first | refine go ?_ | intro _ | refine And.intro (Sd.mk (by (first | exact fun _ => True.intro | exact And.intro (fun _ => True.intro) (fun _ _ => True.intro) | (intro hq; (first | exact True.intro | omega | (simp only [and_true]; omega) | (simp only [bl] at hq; (try simp only [and_true]); omega) | fail)) | exact And.intro (fun hq => by first | exact True.intro | omega | (simp only [and_true]; omega) | (simp only [bl] at hq; (try simp only [and_true]); omega) | fail) (fun hq hr => by first | exact True.intro | omega | (simp only [and_true]; omega) | (simp only [bl] at hq hr; omega) | (simp only [bl] at hr; omega) | fail) | fail))) ?_ | refine And.intro (by (first | omega | (unfold InR; omega) | decide | (simp only [ll]; omega))) ?_ | (refine And.intro (fun h1 => ?_) (fun h1 => ?_) <;> first | (exact absurd h1 (by decide)) | ((try rw [h1]); (try simp only [bl] at h1))) | dsimp only)
    · rw [if_pos h1] at h
      exact h _ (Sub.hv subEnd)
    · rw [if_neg (by rw [‹(ps.dropLast.any fun p => decide (p = [])) = false›]; decide), if_pos h1] at h
      exact h _ (Sub.hv subEnd)
    · rw [if_neg (by rw [‹(ps.dropLast.any fun p => decide (p = [])) = false›]; decide), if_neg (by rw [‹ps.dropLast.any spare = false›]; decide), if_pos (by omega)] at h
      exact h _ (Sub.hv subEnd)
    · rw [if_neg (by rw [‹(ps.dropLast.any fun p => decide (p = [])) = false›]; decide), if_neg (by rw [‹ps.dropLast.any spare = false›]; decide), if_neg (by omega)] at h
      exact h _ (Sub.hv subEnd)
  · rw [if_neg (c2 ‹_› ‹_›), if_pos (by rw [h1]; rfl)] at h
    exact h _ (Sub.hv subEnd)
  · rw [if_pos (by rcases h1 with h1 | h1 <;> rw [h1] <;> simp)] at h
    exact h _ (Sub.hv subEnd)⟩
def mtextM (m : Msg) : List UInt8 := if checkM m = 0 then plainM m else []
instance mText_ok [o : Hv w0 H w] [rt : RdsF w0 H xt 2 nt zt] [et : Encs encT zt T] [rp : RdsF w0 H xp 1 np zp] [ep : Strs zp ps] [ok : okS (T, pre, cmd, ps)] :
    Step (Cl P 25 #[.agg #[xt, str pre, str cmd, xp]] K ⟨w, ds⟩) (∀ w', Hv w0 H w' → K (str (mtextM (T, pre, cmd, ps))) ⟨w', ds⟩) := ⟨fun h => by
  refine cl_ok (c25 (K := fun v w' => K v ⟨w', ds⟩) ?_ fun v w' h => ⟨v, rfl, h⟩)
  have hms : fits T ∧ (textT T).length ≤ 100000 ∧ pre.length ≤ 100000 ∧ cmd.length ≤ 100000 ∧ ps.length ≤ 100 ∧ ∀ p ∈ ps, p.length ≤ 1000 := ⟨ok.ft, text_len2 ok.ft ok.tl, ok.pl, ok.cl, ok.nl, ok.al⟩
  have lt : RdsL w0 H xt 2 nt zt := rt.loc
  have lp : RdsL w0 H xp 1 np zp := rp.loc
  have r0 := rt.rd w o
  have r1 := rp.rd w o
  have one1 : One w xt := inferInstance
  have one2 : ∀ w, One w xt := fun w => ⟨one1.eq⟩
  have one3 : One w xp := inferInstance
  have one4 : ∀ w, One w xp := fun w => ⟨one3.eq⟩
  unfold D25
  repeat' (first | refine go ?_ | intro _ | refine And.intro (Sd.mk (by (first | exact fun _ => True.intro | exact And.intro (fun _ => True.intro) (fun _ _ => True.intro) | (intro hq; (first | exact True.intro | omega | (simp only [and_true]; omega) | (simp only [bl] at hq; (try simp only [and_true]); omega) | fail)) | exact And.intro (fun hq => by first | exact True.intro | omega | (simp only [and_true]; omega) | (simp only [bl] at hq; (try simp only [and_true]); omega) | fail) (fun hq hr => by first | exact True.intro | omega | (simp only [and_true]; omega) | (simp only [bl] at hq hr; omega) | (simp only [bl] at hr; omega) | fail) | fail))) ?_ | refine And.intro (by (first | omega | (unfold InR; omega) | decide | (simp only [ll]; omega))) ?_ | (refine And.intro (fun h1 => ?_) (fun h1 => ?_) <;> first | (exact absurd h1 (by decide)) | ((try rw [h1]); (try simp only [bl] at h1))) | dsimp only)
  · have e : mtextM (T, pre, cmd, ps) = [] := by unfold mtextM; rw [if_neg h1]
    rw [e] at h
    exact h _ (Sub.hv subEnd)
  · have e : mtextM (T, pre, cmd, ps) = plainM (T, pre, cmd, ps) := by unfold mtextM; rw [if_pos h1]
    rw [e] at h
    exact h _ (Sub.hv subEnd)⟩
end
/-! what is read is small -/
theorem pgo_sz (n : Nat) (f : Nat) : ∀ (r : List UInt8) (out : List (List UInt8)), r.length ≤ n → (∀ p ∈ out, p.length ≤ n) → ∀ p ∈ pgo f r out, p.length ≤ n := by
  induction f with
  | zero => intro r out _ ho; exact ho
  | succ f ih =>
    intro r out hr ho
    rw [pgo]
    have add : ∀ q : List UInt8, q.length ≤ n → ∀ p ∈ out ++ [q], p.length ≤ n := fun q hq p hp => by
      rcases List.mem_append.1 hp with h | h
      · exact ho p h
      · rw [List.mem_singleton.1 h]; exact hq
    split
    · exact ho
    · split
      · exact add _ (by simp; omega)
      · split
        · exact add _ hr
        · exact ih _ _ (by have := rest_len r; omega) (add _ (by have := word_len r; omega))
structure szM (m : Msg) : Prop where
  t : m.1 = [] ∨ ∃ s : List UInt8, s.length ≤ 510 ∧ m.1 = (parseT s).1
  p : m.2.1.length ≤ 510
  c : m.2.2.1.length ≤ 510
  a : ∀ p ∈ m.2.2.2, p.length ≤ 510
theorem sz_no : szM noMsg := ⟨.inl rfl, by simp, by simp, by simp⟩
theorem pC_sz {T : List Tag} {pre r : List UInt8} (ht : T = [] ∨ ∃ s : List UInt8, s.length ≤ 510 ∧ T = (parseT s).1) (hp : pre.length ≤ 510) (hr : r.length ≤ 510) : szM (pC T pre r).1 := by
  unfold pC
  split
  · exact sz_no
  · split
    · exact sz_no
    · have h1 := word_len r
      have h2 := rest_len r
      exact ⟨ht, hp, by simp [capsS]; omega, fun p hp => pgo_sz 510 _ _ [] (by omega) (by simp) p hp⟩
theorem pM_sz {T : List Tag} {r : List UInt8} (ht : T = [] ∨ ∃ s : List UInt8, s.length ≤ 510 ∧ T = (parseT s).1) (hr : r.length ≤ 510) : szM (pM T r).1 := by
  unfold pM
  have hd : (r.drop 1).length ≤ r.length := by simp
  have h1 := word_len (r.drop 1)
  have h2 := rest_len (r.drop 1)
  split
  · split
    · exact sz_no
    · exact pC_sz ht (by omega) (by omega)
  · exact pC_sz ht (by simp) hr
theorem parse_sz (l : List UInt8) : szM (parseM l).1 := by
  unfold parseM
  have hd : (l.drop 1).length ≤ l.length := by simp
  have h1 := word_len (l.drop 1)
  have h2 := rest_len (l.drop 1)
  split
  · exact sz_no
  · split
    · exact sz_no
    · split
      · split
        · exact sz_no
        · exact pM_sz (.inr ⟨_, by omega, rfl⟩) (by omega)
      · exact pM_sz (.inl rfl) (by omega)
theorem parse_okS (l : List UInt8) : okS (parseM l).1 := by
  obtain ⟨h1, h2, h3, h4⟩ := parse_sz l
  have hs := parse_small_m l
  refine ⟨?_, by omega, by omega, by omega, by omega, fun p hp => by have := h4 p hp; omega⟩
  rcases h1 with h1 | ⟨s, hs2, h1⟩
  · rw [h1]; exact ⟨by simp, by simp⟩
  · rw [h1]; exact parse_fits (by omega)
set_option maxRecDepth 20000 in
set_option synthInstance.maxSize 100000 in
set_option synthInstance.maxHeartbeats 4000000 in
theorem magain_ok {w : World} (l : List UInt8) : Calls P 7 #[str l] w fun e w' => e = .returned (.bool true) ∧ Hv w [] w' := by
  refine c7 (K := fun v w' => v = .bool true ∧ Hv w [] w') ?_ fun v w' h => ⟨by rw [h.1], h.2⟩
  have o := Hv.begin w
  have hs := parse_small_m l
  have hok := parse_okS l
  have hg := @parse_good l
  have he := @parse_err l
  have nil2 : ∀ H, RdsF w H (.slice none 0 0) 2 0 [] := fun H => ⟨fun w _ => ⟨by simp, by simp, by simp [maxLen], none, 0, rfl, fun _ => rfl, Nat.le_refl _, fun j u h => by simp at h⟩⟩
  have nil1 : ∀ H, RdsF w H (.slice none 0 0) 1 0 [] := fun H => ⟨fun w _ => ⟨by simp, by simp, by simp [maxLen], none, 0, rfl, fun _ => rfl, Nat.le_refl _, fun j u h => by simp at h⟩⟩
  unfold D7
  have ok2 : okS ((parseM l).1.1, (parseM l).1.2.1, (parseM l).1.2.2.1, (parseM l).1.2.2.2) := hok
  have hs2 := parse_small_m (mtextM ((parseM l).1.1, (parseM l).1.2.1, (parseM l).1.2.2.1, (parseM l).1.2.2.2))
  have fin : (parseM l).2 = 0 → ¬ checkM ((parseM l).1.1, (parseM l).1.2.1, (parseM l).1.2.2.1, (parseM l).1.2.2.2) = 3 → checkM ((parseM l).1.1, (parseM l).1.2.1, (parseM l).1.2.2.1, (parseM l).1.2.2.2) = 0 ∧ parseM (mtextM ((parseM l).1.1, (parseM l).1.2.1, (parseM l).1.2.2.1, (parseM l).1.2.2.2)) = ((parseM l).1, 0) := fun h0 h3 => by
    have hc := good_check (hg h0)
    have e0 : checkM (parseM l).1 = 0 := by
      rw [hc]
      split
      · rename_i h5; rw [if_pos h5] at hc; exact absurd hc h3
      · rfl
    refine ⟨e0, ?_⟩
    have e1 : mtextM (parseM l).1 = plainM (parseM l).1 := by unfold mtextM; rw [if_pos e0]
    show parseM (mtextM (parseM l).1) = _
    rw [e1]; exact parse_text e0
  repeat' (first | refine go ?_ | intro _ | refine And.intro (Sd.mk (by (first | exact fun _ => True.intro | exact And.intro (fun _ => True.intro) (fun _ _ => True.intro) | (intro hq; (first | exact True.intro | omega | (simp only [and_true]; omega) | (simp only [bl] at hq; (try simp only [and_true]); omega) | fail)) | exact And.intro (fun hq => by first | exact True.intro | omega | (simp only [and_true]; omega) | (simp only [bl] at hq; (try simp only [and_true]); omega) | fail) (fun hq hr => by first | exact True.intro | omega | (simp only [and_true]; omega) | (simp only [bl] at hq hr; omega) | (simp only [bl] at hr; omega) | fail) | fail))) ?_ | refine And.intro (by (first | omega | (unfold InR; omega) | decide | (simp only [ll]; omega))) ?_ | (refine And.intro (fun h1 => ?_) (fun h1 => ?_) <;> first | (exact absurd h1 (by decide)) | ((try rw [h1]); (try simp only [bl] at h1))) | dsimp only)
  · obtain ⟨h3, h4⟩ := he h1
    refine ⟨?_, Sub.hv subEnd⟩
    rw [h3]
    rcases h4 with h4 | h4
    · rw [decide_eq_true (show (l.length : Int) ≤ 510 by omega)]; simp
    · rw [h4]; simp
  · refine ⟨?_, Sub.hv subEnd⟩
    have hgd := hg ‹(parseM l).2 = 0›
    have hc := good_check hgd
    have h510 : l.length ≤ 510 := by
      rcases Nat.lt_or_ge 510 l.length with q | q
      · exfalso
        have : (parseM l).2 = 3 := by unfold parseM; rw [if_pos q]
        have h0 : (parseM l).2 = 0 := by assumption
        rw [this] at h0; exact absurd h0 (by decide)
      · exact q
    have h5 := hgd.2.2.2.2
    by_cases hT : (parseM l).1.1 = []
    · by_cases hps : (parseM l).1.2.2.2.length = 15
      · have : decide (((parseM l).1.2.2.2.length : Int) = 15) = true := by rw [decide_eq_true_eq]; omega
        rw [this, Bool.or_true]
      · have h6 := h5 hT hps
        rw [if_neg (by omega)] at hc
        have h7 : (3 : Int) = 0 := h1.symm.trans hc
        exact absurd h7 (by decide)
    · have : 0 < (parseM l).1.1.length := List.length_pos_iff.2 hT
      rw [decide_eq_true (show (0 : Int) < ((parseM l).1.1.length : Int) by omega)]; rfl
  · obtain ⟨e0, e1⟩ := fin ‹_› ‹_›
    rw [e1]
    exact ⟨by simp, Sub.hv subEnd⟩
  · obtain ⟨e0, e1⟩ := fin ‹_› ‹_›
    exfalso; apply h1; rw [e1]
  · obtain ⟨e0, e1⟩ := fin ‹_› ‹_›
    exfalso; exact h1 e0 (by rw [e1])
end Go.Proofs.YtapammcnagjigaaDoor

