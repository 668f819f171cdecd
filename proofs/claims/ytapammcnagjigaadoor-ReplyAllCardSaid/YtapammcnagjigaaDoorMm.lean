import Derived.Test.YtapammcnagjigaaDoorMl
set_option linter.all false
namespace Go.Proofs.YtapammcnagjigaaDoor
open Go.Vx Go.Lib
/-! MessageColon -/
def greatM (m : Msg) : Bool := decide (20 < m.1.length) || (decide (20 < m.2.2.2.length) || (decide (200 < m.2.1.length) || (decide (40 < m.2.2.1.length) || (m.1.any (fun t => decide (60 < t.1.length) || decide (60 < t.2.length)) || m.2.2.2.any fun p => decide (200 < p.length)))))
theorem great_ok2 {m : Msg} (h : greatM m = false) : okS m := by
  unfold greatM at h
  simp only [Bool.or_eq_false_iff, decide_eq_false_iff_not, List.any_eq_false, Bool.or_eq_true, decide_eq_true_eq, not_or] at h
  obtain ⟨h1, h2, h3, h4, h5, h6⟩ := h
  exact ⟨⟨by omega, fun t ht => by have := h5 t ht; omega⟩, by omega, by omega, by omega, by omega, fun p hp => by have := h6 p hp; omega⟩
class SzT (T : List Tag) : Prop where out : ∀ t ∈ T, t.1.length ≤ 1000000000000000 ∧ t.2.length ≤ 1000000000000000
section
variable {K : Value → St → Prop} {w0 w : World} {H R : List SL} {ds : List Deferred} {l : List UInt8}
variable {xt xp : Value} {T : List Tag} {ps : List (List UInt8)} {nt np : Nat} {zt zp : List Value} {pre cmd : List UInt8}
theorem anyT_take {T : List Tag} {p : Tag → Bool} {i : Nat} (h : i < T.length) : (T.take (i + 1)).any p = ((T.take i).any p || p (T.getD i default)) := by
  rw [take_snoc h, List.any_append]; simp
instance greatM_ok [o : Hv w0 H w] [rt : RdsF w0 H xt 2 nt zt] [et : Encs encT zt T] [rp : RdsF w0 H xp 1 np zp] [ep : Strs zp ps] [st : SzT T] [fl : FitL 1000000000000000 ps] :
    Step (Cl P 20 #[.agg #[xt, str pre, str cmd, xp]] K ⟨w, ds⟩) (∀ w', Hv w0 H w' → K (.bool (greatM (T, pre, cmd, ps))) ⟨w', ds⟩) := ⟨fun h => by
  refine cl_ok (c20 (K := fun v w' => K v ⟨w', ds⟩) ?_ fun v w' h => ⟨v, rfl, h⟩)
  have lt : RdsL w0 H xt 2 nt zt := rt.loc
  have lp : RdsL w0 H xp 1 np zp := rp.loc
  have r0 := rt.rd w o
  have r1 := rp.rd w o
  have en : nt = T.length := et.len r0.len (by decide)
  have em : np = ps.length := by have := r1.len; rw [ep.eq] at this; simpa using this.symm
  have one1 : One w xt := inferInstance
  have one2 : ∀ w, One w xt := fun w => ⟨one1.eq⟩
  have one3 : One w xp := inferInstance
  have one4 : ∀ w, One w xp := fun w => ⟨one3.eq⟩
  have hb0 := r0.le
  have hb1 := r1.le
  simp only [maxLen] at hb0 hb1
  obtain rfl := ep.eq
  obtain rfl := et.eq
  clear r0 r1 ep et
  subst en em
  have no : greatM (T, pre, cmd, ps) = true → ∀ w', Hv w0 H w' → K (.bool true) ⟨w', ds⟩ := fun e w' o' => by rw [← e]; exact h w' o'
  unfold D20
  repeat ((fail_if_success (refine And.intro (fun _ => ?_) (fun _ => ?_))); (first | refine go ?_ | intro _ | refine And.intro (Sd.mk (by (first | exact fun _ => True.intro | exact And.intro (fun _ => True.intro) (fun _ _ => True.intro) | (intro hq; (first | exact True.intro | omega | (simp only [and_true]; omega) | (simp only [bl] at hq; (try simp only [and_true]); omega) | fail)) | exact And.intro (fun hq => by first | exact True.intro | omega | (simp only [and_true]; omega) | (simp only [bl] at hq; (try simp only [and_true]); omega) | fail) (fun hq hr => by first | exact True.intro | omega | (simp only [and_true]; omega) | (simp only [bl] at hq hr; omega) | (simp only [bl] at hr; omega) | fail) | fail))) ?_ | refine And.intro (by (first | omega | (unfold InR; omega) | decide | (simp only [ll]; omega))) ?_ | dsimp only))
  refine And.intro (fun h1 => ?_) (fun h1 => ?_)
  · repeat' (first | refine go ?_ | intro _ | refine And.intro (Sd.mk (by (first | exact fun _ => True.intro | exact And.intro (fun _ => True.intro) (fun _ _ => True.intro) | (intro hq; (first | exact True.intro | omega | (simp only [and_true]; omega) | (simp only [bl] at hq; (try simp only [and_true]); omega) | fail)) | exact And.intro (fun hq => by first | exact True.intro | omega | (simp only [and_true]; omega) | (simp only [bl] at hq; (try simp only [and_true]); omega) | fail) (fun hq hr => by first | exact True.intro | omega | (simp only [and_true]; omega) | (simp only [bl] at hq hr; omega) | (simp only [bl] at hr; omega) | fail) | fail))) ?_ | refine And.intro (by (first | omega | (unfold InR; omega) | decide | (simp only [ll]; omega))) ?_ | (refine And.intro (fun h1 => ?_) (fun h1 => ?_) <;> first | (exact absurd h1 (by decide)) | ((try rw [h1]); (try simp only [bl] at h1))) | dsimp only)
    refine no ?_ _ (Sub.hv subEnd)
    simp only [bl] at h1
    unfold greatM
    rcases h1 with ((h1 | h1) | h1) | h1
    · rw [decide_eq_true (show 20 < T.length by omega)]; rfl
    · rw [decide_eq_true (show 20 < ps.length by omega)]; simp
    · rw [decide_eq_true (show 200 < pre.length by omega)]; simp
    · rw [decide_eq_true (show 40 < cmd.length by omega)]; simp
  simp only [bl] at h1
  obtain ⟨⟨⟨q1, q2⟩, q3⟩, q4⟩ := h1
  have hg : greatM (T, pre, cmd, ps) = (T.any (fun t => decide (60 < t.1.length) || decide (60 < t.2.length)) || ps.any fun p => decide (200 < p.length)) := by
    unfold greatM
    rw [decide_eq_false (show ¬ 20 < T.length by omega), decide_eq_false (show ¬ 20 < ps.length by omega), decide_eq_false (show ¬ 200 < pre.length by omega), decide_eq_false (show ¬ 40 < cmd.length by omega)]; rfl
  rename_i b1 w2 o2
  refine ⟨fun x s => ∃ (i : Nat), x = .int .i64 i ∧ s = ⟨w2, []⟩ ∧ i ≤ T.length ∧ (T.take i).any (fun t => decide (60 < t.1.length) || decide (60 < t.2.length)) = false,
    fun x s => match x with | .int _ z => T.length - z.toNat | _ => 0, ⟨0, rfl, rfl, Nat.zero_le _, rfl⟩, ?_⟩
  rintro x s ⟨i, rfl, rfl, hi, hn⟩
  rcases Nat.lt_or_ge i T.length with hlt | hge
  · have ha := anyT_take (p := fun t => decide (60 < t.1.length) || decide (60 < t.2.length)) hlt
    obtain ⟨z1, z2⟩ := st.out _ (getD_mem hlt)
    have yes : (decide (60 < (T.getD i default).1.length) || decide (60 < (T.getD i default).2.length)) = true → K (.bool true) ⟨w2, ds⟩ := fun hs => by
      refine no ?_ _ (Sub.hv subEnd)
      rw [hg, List.any_eq_true.2 ⟨_, getD_mem hlt, hs⟩, Bool.true_or]
    repeat' (first | refine go ?_ | intro _ | refine And.intro (Sd.mk (by (first | exact fun _ => True.intro | exact And.intro (fun _ => True.intro) (fun _ _ => True.intro) | (intro hq; (first | exact True.intro | omega | (simp only [and_true]; omega) | (simp only [bl] at hq; (try simp only [and_true]); omega) | fail)) | exact And.intro (fun hq => by first | exact True.intro | omega | (simp only [and_true]; omega) | (simp only [bl] at hq; (try simp only [and_true]); omega) | fail) (fun hq hr => by first | exact True.intro | omega | (simp only [and_true]; omega) | (simp only [bl] at hq hr; omega) | (simp only [bl] at hr; omega) | fail) | fail))) ?_ | refine And.intro (by (first | omega | (unfold InR; omega) | decide | (simp only [ll]; omega))) ?_ | (refine And.intro (fun h1 => ?_) (fun h1 => ?_) <;> first | (exact absurd h1 (by decide)) | ((try rw [h1]); (try simp only [bl] at h1))) | dsimp only)
    · exact yes (by rw [decide_eq_true (show 60 < (T.getD i default).2.length by omega), Bool.or_true])
    · refine ⟨⟨i + 1, rfl, rfl, hlt, ?_⟩, by simp; omega⟩
      rw [ha, hn, decide_eq_false (show ¬ 60 < (T.getD i default).1.length by omega), decide_eq_false (show ¬ 60 < (T.getD i default).2.length by omega)]; rfl
    · exact yes (by rw [decide_eq_true (show 60 < (T.getD i default).1.length by omega), Bool.true_or])
    · exfalso; omega
  clear hi
  rw [List.take_of_length_le hge] at hn
  rw [hn, Bool.false_or] at hg
  repeat (first | refine go ?_ | intro _ | refine And.intro (Sd.mk (by (first | exact fun _ => True.intro | exact And.intro (fun _ => True.intro) (fun _ _ => True.intro) | (intro hq; (first | exact True.intro | omega | (simp only [and_true]; omega) | (simp only [bl] at hq; (try simp only [and_true]); omega) | fail)) | exact And.intro (fun hq => by first | exact True.intro | omega | (simp only [and_true]; omega) | (simp only [bl] at hq; (try simp only [and_true]); omega) | fail) (fun hq hr => by first | exact True.intro | omega | (simp only [and_true]; omega) | (simp only [bl] at hq hr; omega) | (simp only [bl] at hr; omega) | fail) | fail))) ?_ | refine And.intro (by (first | omega | (unfold InR; omega) | decide | (simp only [ll]; omega))) ?_ | dsimp only)
  refine And.intro (fun h1 => ?_) (fun _ => ?_)
  · exfalso; simp at h1; omega
  refine ⟨fun x s => ∃ (i : Nat), x = .int .i64 i ∧ s = ⟨w2, []⟩ ∧ i ≤ ps.length ∧ (ps.take i).any (fun p => decide (200 < p.length)) = false,
    fun x s => match x with | .int _ z => ps.length - z.toNat | _ => 0, ⟨0, rfl, rfl, Nat.zero_le _, rfl⟩, ?_⟩
  rintro x s ⟨j, rfl, rfl, hj, hm⟩
  rcases Nat.lt_or_ge j ps.length with hlt | hge2
  · have ha := any_take (p := fun p => decide (200 < p.length)) hlt
    have z1 := fl.out _ (getD_mem hlt)
    repeat' (first | refine go ?_ | intro _ | refine And.intro (Sd.mk (by (first | exact fun _ => True.intro | exact And.intro (fun _ => True.intro) (fun _ _ => True.intro) | (intro hq; (first | exact True.intro | omega | (simp only [and_true]; omega) | (simp only [bl] at hq; (try simp only [and_true]); omega) | fail)) | exact And.intro (fun hq => by first | exact True.intro | omega | (simp only [and_true]; omega) | (simp only [bl] at hq; (try simp only [and_true]); omega) | fail) (fun hq hr => by first | exact True.intro | omega | (simp only [and_true]; omega) | (simp only [bl] at hq hr; omega) | (simp only [bl] at hr; omega) | fail) | fail))) ?_ | refine And.intro (by (first | omega | (unfold InR; omega) | decide | (simp only [ll]; omega))) ?_ | (refine And.intro (fun h1 => ?_) (fun h1 => ?_) <;> first | (exact absurd h1 (by decide)) | ((try rw [h1]); (try simp only [bl] at h1))) | dsimp only)
    · refine no ?_ _ (Sub.hv subEnd)
      rw [hg]
      exact List.any_eq_true.2 ⟨_, getD_mem hlt, by rw [decide_eq_true_eq]; omega⟩
    · refine ⟨⟨j + 1, rfl, rfl, hlt, ?_⟩, by simp; omega⟩
      rw [ha, hm, decide_eq_false (show ¬ 200 < (ps.getD j default).length by omega)]; rfl
    · exfalso; omega
  rw [List.take_of_length_le hge2] at hm
  rw [hg, hm] at h
  repeat' (first | refine go ?_ | intro _ | refine And.intro (Sd.mk (by (first | exact fun _ => True.intro | exact And.intro (fun _ => True.intro) (fun _ _ => True.intro) | (intro hq; (first | exact True.intro | omega | (simp only [and_true]; omega) | (simp only [bl] at hq; (try simp only [and_true]); omega) | fail)) | exact And.intro (fun hq => by first | exact True.intro | omega | (simp only [and_true]; omega) | (simp only [bl] at hq; (try simp only [and_true]); omega) | fail) (fun hq hr => by first | exact True.intro | omega | (simp only [and_true]; omega) | (simp only [bl] at hq hr; omega) | (simp only [bl] at hr; omega) | fail) | fail))) ?_ | refine And.intro (by (first | omega | (unfold InR; omega) | decide | (simp only [ll]; omega))) ?_ | (refine And.intro (fun h1 => ?_) (fun h1 => ?_) <;> first | (exact absurd h1 (by decide)) | ((try rw [h1]); (try simp only [bl] at h1))) | dsimp only)
  · exfalso; omega
  · exact h _ (Sub.hv subEnd)⟩
end
set_option maxRecDepth 20000 in
set_option synthInstance.maxSize 100000 in
set_option synthInstance.maxHeartbeats 4000000 in
theorem mcolon_ok {w : World} {xt xp : Value} {T : List Tag} {pre cmd : List UInt8} {ps : List (List UInt8)} (hT : Arg w xt 2 T.length (T.flatMap encT)) (hp : Arg w xp 1 ps.length (ps.map str)) (st : SzT T) (fl : FitL 1000000000000000 ps) :
    Calls P 6 #[.agg #[xt, str pre, str cmd, xp]] w fun e w' => e = .returned (.bool true) ∧ Hv w [] w' := by
  refine c6 (K := fun v w' => v = .bool true ∧ Hv w [] w') ?_ fun v w' h => ⟨by rw [h.1], h.2⟩
  have o := Hv.begin w
  have one1 : One w xt := inferInstance
  have one2 : ∀ w, One w xt := fun w => ⟨one1.eq⟩
  have one3 : One w xp := inferInstance
  have one4 : ∀ w, One w xp := fun w => ⟨one3.eq⟩
  unfold D6
  repeat ((fail_if_success (refine And.intro (fun _ => ?_) (fun _ => ?_))); (first | refine go ?_ | intro _ | refine And.intro (Sd.mk (by (first | exact fun _ => True.intro | exact And.intro (fun _ => True.intro) (fun _ _ => True.intro) | (intro hq; (first | exact True.intro | omega | (simp only [and_true]; omega) | (simp only [bl] at hq; (try simp only [and_true]); omega) | fail)) | exact And.intro (fun hq => by first | exact True.intro | omega | (simp only [and_true]; omega) | (simp only [bl] at hq; (try simp only [and_true]); omega) | fail) (fun hq hr => by first | exact True.intro | omega | (simp only [and_true]; omega) | (simp only [bl] at hq hr; omega) | (simp only [bl] at hr; omega) | fail) | fail))) ?_ | refine And.intro (by (first | omega | (unfold InR; omega) | decide | (simp only [ll]; omega))) ?_ | dsimp only))
  refine And.intro (fun h1 => absurd h1 (by decide)) (fun _ => ?_)
  repeat ((fail_if_success (refine j1_any (fun _ _ => True) ?_ ?_)); (first | refine go ?_ | intro _ | refine And.intro (Sd.mk (by (first | exact fun _ => True.intro | exact And.intro (fun _ => True.intro) (fun _ _ => True.intro) | (intro hq; (first | exact True.intro | omega | (simp only [and_true]; omega) | (simp only [bl] at hq; (try simp only [and_true]); omega) | fail)) | exact And.intro (fun hq => by first | exact True.intro | omega | (simp only [and_true]; omega) | (simp only [bl] at hq; (try simp only [and_true]); omega) | fail) (fun hq hr => by first | exact True.intro | omega | (simp only [and_true]; omega) | (simp only [bl] at hq hr; omega) | (simp only [bl] at hr; omega) | fail) | fail))) ?_ | refine And.intro (by (first | omega | (unfold InR; omega) | decide | (simp only [ll]; omega))) ?_ | dsimp only))
  cases hgr : greatM (T, pre, cmd, ps) with
  | true =>
    repeat' (first | refine go ?_ | intro _ | refine And.intro (Sd.mk (by (first | exact fun _ => True.intro | exact And.intro (fun _ => True.intro) (fun _ _ => True.intro) | (intro hq; (first | exact True.intro | omega | (simp only [and_true]; omega) | (simp only [bl] at hq; (try simp only [and_true]); omega) | fail)) | exact And.intro (fun hq => by first | exact True.intro | omega | (simp only [and_true]; omega) | (simp only [bl] at hq; (try simp only [and_true]); omega) | fail) (fun hq hr => by first | exact True.intro | omega | (simp only [and_true]; omega) | (simp only [bl] at hq hr; omega) | (simp only [bl] at hr; omega) | fail) | fail))) ?_ | refine And.intro (by (first | omega | (unfold InR; omega) | decide | (simp only [ll]; omega))) ?_ | (refine And.intro (fun h1 => ?_) (fun h1 => ?_) <;> first | (exact absurd h1 (by decide)) | ((try rw [h1]); (try simp only [bl] at h1))) | dsimp only)
    · exact ⟨rfl, Sub.hv subEnd⟩
    · exact absurd h1.1 (by decide)
  | false =>
    have ok := great_ok2 hgr
    have hn := ok.nl
    have hal := ok.al
    have hpl := plain_len ok
    dsimp only at hn hal
    repeat' (first | refine go ?_ | intro _ | refine And.intro (Sd.mk (by (first | exact fun _ => True.intro | exact And.intro (fun _ => True.intro) (fun _ _ => True.intro) | (intro hq; (first | exact True.intro | omega | (simp only [and_true]; omega) | (simp only [bl] at hq; (try simp only [and_true]); omega) | fail)) | exact And.intro (fun hq => by first | exact True.intro | omega | (simp only [and_true]; omega) | (simp only [bl] at hq; (try simp only [and_true]); omega) | fail) (fun hq hr => by first | exact True.intro | omega | (simp only [and_true]; omega) | (simp only [bl] at hq hr; omega) | (simp only [bl] at hr; omega) | fail) | fail))) ?_ | refine And.intro (by (first | omega | (unfold InR; omega) | decide | (simp only [ll]; omega))) ?_ | (refine And.intro (fun h1 => ?_) (fun h1 => ?_) <;> first | (exact absurd h1 (by decide)) | ((try rw [h1]); (try simp only [bl] at h1))) | dsimp only)
    · exact ⟨rfl, Sub.hv subEnd⟩
    obtain ⟨hck, hne⟩ := h1
    have em : mtextM (T, pre, cmd, ps) = plainM (T, pre, cmd, ps) := by unfold mtextM; rw [if_pos hck]
    have e1 : ((ps.length : Int) - 1).toNat = ps.length - 1 := by omega
    rw [em, e1]
    have hls := hal _ (getD_mem (l := ps) (k := ps.length - 1) (by omega))
    have hsn : ps = ps.dropLast ++ [ps.getD (ps.length - 1) default] := by
      have h1 := take_snoc (l := ps) (i := ps.length - 1) (by omega)
      rw [show ps.length - 1 + 1 = ps.length by omega, List.take_length] at h1
      rw [List.dropLast_eq_take]; exact h1
    generalize hL : ps.getD (ps.length - 1) default = L at hls hsn
    rename_i w4 o4 _ _
    refine ⟨fun x s => ∃ (i : Nat), x = .int .i64 i ∧ s = ⟨w4, []⟩ ∧ i ≤ L.length ∧ (32 : UInt8) ∉ L.take i ∧ (0 < i → hd L 58 = false),
      fun x s => match x with | .int _ z => L.length - z.toNat | _ => 0, ⟨0, rfl, rfl, Nat.zero_le _, by simp, fun h => absurd h (by decide)⟩, ?_⟩
    rintro x s ⟨i, rfl, rfl, hi, hno, hco⟩
    have hh := hd_drop (l := L) (i := 0) 58
    rw [List.drop_zero] at hh
    rcases Nat.lt_or_ge i L.length with hlt | hge
    · rw [decide_eq_true (show 0 < L.length by omega), Bool.true_and] at hh
      repeat' (first | refine go ?_ | intro _ | refine And.intro (Sd.mk (by (first | exact fun _ => True.intro | exact And.intro (fun _ => True.intro) (fun _ _ => True.intro) | (intro hq; (first | exact True.intro | omega | (simp only [and_true]; omega) | (simp only [bl] at hq; (try simp only [and_true]); omega) | fail)) | exact And.intro (fun hq => by first | exact True.intro | omega | (simp only [and_true]; omega) | (simp only [bl] at hq; (try simp only [and_true]); omega) | fail) (fun hq hr => by first | exact True.intro | omega | (simp only [and_true]; omega) | (simp only [bl] at hq hr; omega) | (simp only [bl] at hr; omega) | fail) | fail))) ?_ | refine And.intro (by (first | omega | (unfold InR; omega) | decide | (simp only [ll]; omega))) ?_ | (refine And.intro (fun h1 => ?_) (fun h1 => ?_) <;> first | (exact absurd h1 (by decide)) | ((try rw [h1]); (try simp only [bl] at h1))) | dsimp only)
      · exact ⟨rfl, Sub.hv subEnd⟩
      · refine ⟨⟨i + 1, rfl, rfl, hlt, ?_, fun _ => ?_⟩, by simp; omega⟩
        · rw [take_snoc hlt]
          intro hm
          rcases List.mem_append.1 hm with hm | hm
          · exact hno hm
          · exact h1.1 (List.mem_singleton.1 hm).symm
        · rcases Nat.eq_zero_or_pos i with hz | hz
          · subst hz; rw [hh, decide_eq_false (h1.2 rfl)]
          · exact hco hz
      all_goals (exfalso; omega)
    rw [List.take_of_length_le hge] at hno
    repeat ((fail_if_success (refine And.intro (Sd.mk ?_) ?_)); (first | refine go ?_ | intro _ | refine And.intro (Sd.mk (by (first | exact fun _ => True.intro | exact And.intro (fun _ => True.intro) (fun _ _ => True.intro) | (intro hq; (first | exact True.intro | omega | (simp only [and_true]; omega) | (simp only [bl] at hq; (try simp only [and_true]); omega) | fail)) | exact And.intro (fun hq => by first | exact True.intro | omega | (simp only [and_true]; omega) | (simp only [bl] at hq; (try simp only [and_true]); omega) | fail) (fun hq hr => by first | exact True.intro | omega | (simp only [and_true]; omega) | (simp only [bl] at hq hr; omega) | (simp only [bl] at hr; omega) | fail) | fail))) ?_ | refine And.intro (by (first | omega | (unfold InR; omega) | decide | (simp only [ll]; omega))) ?_ | dsimp only))
    refine And.intro (fun h1 => ?_) (fun _ => ?_)
    · exfalso; simp at h1; omega
    repeat ((fail_if_success (refine And.intro (Sd.mk ?_) ?_)); (first | refine go ?_ | intro _ | refine And.intro (Sd.mk (by (first | exact fun _ => True.intro | exact And.intro (fun _ => True.intro) (fun _ _ => True.intro) | (intro hq; (first | exact True.intro | omega | (simp only [and_true]; omega) | (simp only [bl] at hq; (try simp only [and_true]); omega) | fail)) | exact And.intro (fun hq => by first | exact True.intro | omega | (simp only [and_true]; omega) | (simp only [bl] at hq; (try simp only [and_true]); omega) | fail) (fun hq hr => by first | exact True.intro | omega | (simp only [and_true]; omega) | (simp only [bl] at hq hr; omega) | (simp only [bl] at hr; omega) | fail) | fail))) ?_ | refine And.intro (by (first | omega | (unfold InR; omega) | decide | (simp only [ll]; omega))) ?_ | dsimp only))
    refine And.intro (Sd.mk fun _ => ⟨by unfold InR; omega, True.intro⟩) ?_
    repeat ((fail_if_success (refine And.intro (fun _ => ?_) (fun _ => ?_))); (first | refine go ?_ | intro _ | refine And.intro (Sd.mk (by (first | exact fun _ => True.intro | exact And.intro (fun _ => True.intro) (fun _ _ => True.intro) | (intro hq; (first | exact True.intro | omega | (simp only [and_true]; omega) | (simp only [bl] at hq; (try simp only [and_true]); omega) | fail)) | exact And.intro (fun hq => by first | exact True.intro | omega | (simp only [and_true]; omega) | (simp only [bl] at hq; (try simp only [and_true]); omega) | fail) (fun hq hr => by first | exact True.intro | omega | (simp only [and_true]; omega) | (simp only [bl] at hq hr; omega) | (simp only [bl] at hr; omega) | fail) | fail))) ?_ | refine And.intro (by (first | omega | (unfold InR; omega) | decide | (simp only [ll]; omega))) ?_ | dsimp only))
    refine And.intro (fun h1 => ?_) (fun h1 => ?_)
    · repeat' (first | refine go ?_ | intro _ | refine And.intro (Sd.mk (by (first | exact fun _ => True.intro | exact And.intro (fun _ => True.intro) (fun _ _ => True.intro) | (intro hq; (first | exact True.intro | omega | (simp only [and_true]; omega) | (simp only [bl] at hq; (try simp only [and_true]); omega) | fail)) | exact And.intro (fun hq => by first | exact True.intro | omega | (simp only [and_true]; omega) | (simp only [bl] at hq; (try simp only [and_true]); omega) | fail) (fun hq hr => by first | exact True.intro | omega | (simp only [and_true]; omega) | (simp only [bl] at hq hr; omega) | (simp only [bl] at hr; omega) | fail) | fail))) ?_ | refine And.intro (by (first | omega | (unfold InR; omega) | decide | (simp only [ll]; omega))) ?_ | (refine And.intro (fun h1 => ?_) (fun h1 => ?_) <;> first | (exact absurd h1 (by decide)) | ((try rw [h1]); (try simp only [bl] at h1))) | dsimp only)
      exact ⟨rfl, Sub.hv subEnd⟩
    simp only [bl] at h1
    obtain ⟨hLne, hlen⟩ := h1
    have hLp : 0 < L.length := List.length_pos_iff.2 hLne
    have hsp : spare L = false := by
      rw [spare_eq, decide_eq_false hLne, hco (by omega)]
      simpa using hno
    have hplL : L.length ≤ (plainM (T, pre, cmd, ps)).length := by
      unfold plainM
      dsimp only
      rw [List.length_append, hsn, par_snoc]; simp; omega
    have k1 := colon_parse (m := (T, pre, cmd, ps)) (w := [58]) hck hsn hsp (.inl rfl) (by omega)
    have k2 := colon_parse (m := (T, pre, cmd, ps)) (w := [32]) hck hsn hsp (.inr rfl) (by omega)
    have e2 : (((plainM (T, pre, cmd, ps)).length : Int) - (L.length : Int)).toNat = (plainM (T, pre, cmd, ps)).length - L.length := by omega
    have hTl := ok.tl
    dsimp only at hTl
    rw [← e2] at k1 k2
    have hs1 := parse_small_m ((plainM (T, pre, cmd, ps)).take (((plainM (T, pre, cmd, ps)).length : Int) - (L.length : Int)).toNat ++ [58] ++ L)
    have hs2 := parse_small_m ((plainM (T, pre, cmd, ps)).take (((plainM (T, pre, cmd, ps)).length : Int) - (L.length : Int)).toNat ++ [32] ++ L)
    repeat' (first | refine go ?_ | intro _ | refine And.intro (Sd.mk (by (first | exact fun _ => True.intro | exact And.intro (fun _ => True.intro) (fun _ _ => True.intro) | (intro hq; (first | exact True.intro | omega | (simp only [and_true]; omega) | (simp only [bl] at hq; (try simp only [and_true]); omega) | fail)) | exact And.intro (fun hq => by first | exact True.intro | omega | (simp only [and_true]; omega) | (simp only [bl] at hq; (try simp only [and_true]); omega) | fail) (fun hq hr => by first | exact True.intro | omega | (simp only [and_true]; omega) | (simp only [bl] at hq hr; omega) | (simp only [bl] at hr; omega) | fail) | fail))) ?_ | refine And.intro (by (first | omega | (unfold InR; omega) | decide | (simp only [ll]; omega))) ?_ | (refine And.intro (fun h1 => ?_) (fun h1 => ?_) <;> first | (exact absurd h1 (by decide)) | ((try rw [h1]); (try simp only [bl] at h1))) | dsimp only)
    · rw [k2]
      exact ⟨by simp, Sub.hv subEnd⟩
    · exfalso; apply h1; rw [k1]
    · exfalso; exact h1 (by rw [k1]) (by rw [k2])
end Go.Proofs.YtapammcnagjigaaDoor

