import Derived.Test.YtogoaohhaiggpaaPulJ
set_option linter.all false
namespace Go.Proofs.Ytogoaohhaiggpaa
open Go.Vx
/-! PulseLives -/
section
set_option maxRecDepth 20000
set_option synthInstance.maxSize 100000
set_option synthInstance.maxHeartbeats 4000000
theorem subDfb {b : Nat} {bs : List Nat} {H G : List SL} (h : Sub H (dfb b :: many (bs.map dfb) :: G)) : Sub H (many ((b :: bs).map dfb) :: G) :=
  Sub.many (show Sub H (dfb b :: (bs.map dfb ++ G)) from ⟨fun hs => let ⟨S', a, c⟩ := h.sub hs; ⟨S', a, sep_cons sep_many.1 c⟩⟩)
theorem if_congr' {p q : Prop} [Decidable p] [Decidable q] {a b c d : Int} (h : p ↔ q) (h1 : a = c) (h2 : b = d) : (if p then a else b) = if q then c else d := by
  subst h1 h2; by_cases hp : p
  · rw [if_pos hp, if_pos (h.1 hp)]
  · rw [if_neg hp, if_neg fun hq => hp (h.2 hq)]
theorem plives_ok {w : World} {v : Value} {hs : List Bool} (pg gr : UInt8) (hp : Arg w v 1 hs.length (hs.map .bool)) : Calls P 3 #[byteV pg, byteV gr, v] w fun e w' => e = .returned (.bool true) ∧ Hv w [] w' := by
  have o := Hv.begin w
  have ha : 0 ≤ (pg.toNat : Int).tmod 8 ∧ (pg.toNat : Int).tmod 8 ≤ 7 := ⟨Int.tmod_nonneg _ (by omega), by have := Int.tmod_lt_of_pos (pg.toNat : Int) (show (0 : Int) < 8 by omega); omega⟩
  have hb : 0 ≤ (gr.toNat : Int).tmod 8 ∧ (gr.toNat : Int).tmod 8 ≤ 7 := ⟨Int.tmod_nonneg _ (by omega), by have := Int.tmod_lt_of_pos (gr.toNat : Int) (show (0 : Int) < 8 by omega); omega⟩
  have k0 := ok_new (1 + (pg.toNat : Int).tmod 8) (1 + (gr.toNat : Int).tmod 8) 1 (by omega) (by omega) (by omega)
  have k1 := k0.join (by omega) 3
  have k2 := k1.reg (by omega) 3
  have f0 := k0.fit
  have f1 := k1.fit
  have f2 := k2.fit
  refine law_of ?_
  refine s3 ?_
  unfold D3
  repeat' (first | refine go ?_ | intro _ | refine ⟨sb, ?_⟩ | refine ⟨sd, ?_⟩ | (refine ⟨fun h1 => ?_, fun h1 => ?_⟩ <;> first | exact ab h1 | ((try rw [h1]); (try simp only [bl] at h1))) | dsimp only)
  · exact ⟨rfl, Sub.hv subEnd⟩
  rename_i p w1 o1 _ w2 o2 _ w3 o3
  clear o o1 o2 f0 f1 f2 k0 k1
  have k3 : Ok _ ⟨1 + (pg.toNat : Int).tmod 8, 1 + (gr.toNat : Int).tmod 8, 1, [(3, 0, true, false)]⟩ 0 2 := k2
  clear k2
  generalize hA : 1 + (pg.toNat : Int).tmod 8 = A at *
  generalize hB : 1 + (gr.toNat : Int).tmod 8 = B at *
  refine ⟨fun z u s' s => ∃ (bs : List Nat) (last : Int) (n : Nat) (x : Pst) (w' : World), u = .int .i64 last ∧ s' = .int .i64 ((n : Int) + 1) ∧ s = ⟨w', bs.map mk⟩ ∧ n ≤ hs.length ∧ 0 ≤ last ∧ last ≤ n ∧ Ok x ⟨A, B, 1, [(3, last, true, decide (A ≤ n - last))]⟩ n (2 + 2 * n) ∧ Hv w [pulR p x, many (bs.map dfb)] w',
    fun z u s' s => match s' with | .int _ z => hs.length + 1 - z.toNat | _ => 0, ⟨[], 0, 0, _, w3, rfl, rfl, rfl, Nat.zero_le _, Int.le_refl _, Int.le_refl _, by have := k3; rwa [show decide (A ≤ ((0 : Nat) : Int) - 0) = false by simp; omega], Sub.hv <| subK rfl <| Sub.many (show Sub _ [] from subEnd)⟩, ?_⟩
  rintro z u s' s ⟨bs, last, n, x, w4, rfl, rfl, rfl, hn, hl1, hl2, hk, o4⟩
  clear k3 o3
  have hln : hs.length ≤ 30 := by omega
  repeat (first | refine go ?_ | intro _ | refine ⟨sb, ?_⟩ | refine ⟨sd, ?_⟩ | dsimp only)
  refine ⟨fun h2 => ?_, fun h2 => ?_⟩
  · have hlt : n < hs.length := by have := of_decide_eq_true h2; omega
    have kn := hk.later (now' := (n : Int) + 1) (m := 2 + 2 * n) (by omega) (by omega) (by omega) (by omega)
    have kl := kn.line (by omega) 3
    have fn := kn.fit
    refine j1_any (fun z s => ∃ (last' : Int) (x' : Pst) (w' : World), z = .int .i64 last' ∧ s = ⟨w', bs.map mk⟩ ∧ 0 ≤ last' ∧ last' ≤ (n : Int) + 1 ∧ Ok x' ⟨A, B, 1, [(3, last', true, decide (A ≤ n - last'))]⟩ ((n : Int) + 1) (2 + 2 * n + 1) ∧ Hv w [pulR p x', many (bs.map dfb)] w') ?_ ?_
    · repeat' (first | refine go ?_ | intro _ | refine ⟨sb, ?_⟩ | refine ⟨sd, ?_⟩ | (refine ⟨fun h1 => ?_, fun h1 => ?_⟩ <;> first | exact ab h1 | ((try rw [h1]); (try simp only [bl] at h1))) | dsimp only)
      · refine ⟨(n : Int) + 1, _, _, rfl, rfl, by omega, Int.le_refl _, ?_, Sub.hv (subK rfl (subA (A := many (bs.map dfb)) subEnd))⟩
        have e : decide (A ≤ (n : Int) - (n + 1)) = false := by simp; omega
        rw [e]; exact kl
      · exact ⟨last, x, _, rfl, rfl, hl1, by omega, kn.later (Int.le_refl _) (by omega) (by omega) (by omega), o4⟩
    rintro z s ⟨last', x', w5, rfl, rfl, hl3, hl4, hk5, o5⟩
    clear o4 kl kn hk fn hl1 hl2 h2
    refine j1_hv w [pulR p x', many (bs.map dfb)] (bs.map mk) (.int .i64 (if (n : Int) + 1 - last' = A then 2 else 0)) ?_ ?_
    · repeat' (first | refine go ?_ | intro _ | refine ⟨sb, ?_⟩ | refine ⟨sd, ?_⟩ | (refine ⟨fun h1 => ?_, fun h1 => ?_⟩ <;> first | exact ab h1 | ((try rw [h1]); (try simp only [bl] at h1))) | dsimp only)
      · exact ⟨congrArg (Value.int .i64) (by rw [if_pos h1]), _, rfl, o5⟩
      · exact ⟨congrArg (Value.int .i64) (by rw [if_neg h1]), _, rfl, o5⟩
    intro w6 o6
    refine j1_hv w [pulR p x', many (bs.map dfb)] (bs.map mk) (.int .i64 (if A + B ≤ (n : Int) + 1 - last' then 3 else if (n : Int) + 1 - last' = A then 2 else 0)) ?_ ?_
    · repeat' (first | refine go ?_ | intro _ | refine ⟨sb, ?_⟩ | refine ⟨sd, ?_⟩ | (refine ⟨fun h1 => ?_, fun h1 => ?_⟩ <;> first | exact ab h1 | ((try rw [h1]); (try simp only [bl] at h1))) | dsimp only)
      · exact ⟨congrArg (Value.int .i64) (by rw [if_pos (show A + B ≤ (n : Int) + 1 - last' by omega)]), _, rfl, o6⟩
      · exact ⟨congrArg (Value.int .i64) (by rw [if_neg (show ¬ A + B ≤ (n : Int) + 1 - last' by omega)]), _, rfl, o6⟩
    intro w7 o7
    clear o5 o6
    have f5 := hk5.fit
    have kd := hk5.due (by omega)
    have hin : InR ((n : Int) + 1) := by unfold InR; omega
    repeat' (first | refine go ?_ | intro _ | refine ⟨sb, ?_⟩ | refine ⟨sd, ?_⟩ | (refine ⟨fun h1 => ?_, fun h1 => ?_⟩ <;> first | exact ab h1 | ((try rw [h1]); (try simp only [bl] at h1))) | dsimp only)
    rename_i bq1 bq2 wm vq ks w8 hpw hm o8 bg w9 o9 w10 o10
    clear o7 o8 o9
    have hd := due_one (l := _) hk5.rel rfl (due_ks hpw hm)
    obtain ⟨d, hdd⟩ : ∃ d, d = dueC ⟨A, B, 1, [(3, last', true, decide (A ≤ n - last'))]⟩ ((n : Int) + 1) (3, last', true, decide (A ≤ n - last')) := ⟨_, rfl⟩
    rw [← hdd] at hd
    have hw : d = if A + B ≤ (n : Int) + 1 - last' then 3 else if (n : Int) + 1 - last' = A then 2 else 0 := by
      rw [hdd]; unfold dueC
      simp only [if_true, decide_eq_false_iff_not]
      split
      · rfl
      · refine if_congr' ?_ rfl rfl
        omega
    have hks : (d = 0 ∧ ks = []) ∨ (d ≠ 0 ∧ ks = [3] ∧ (whatF x' ((n : Int) + 1) 3).getD 0 = d) := by
      split at hd
      · rename_i h0; exact .inl ⟨h0, by simpa using hd⟩
      · rename_i h0
        refine .inr ⟨h0, ?_⟩
        cases ks with
        | nil => cases hd
        | cons k ks =>
          cases ks with
          | nil =>
            simp only [List.map_cons, List.map_nil, List.cons.injEq, Prod.mk.injEq, and_true] at hd
            obtain ⟨rfl, h5⟩ := hd
            exact ⟨rfl, h5⟩
          | cons => simp at hd
    refine rf_go (w0 := w) [box bq1 61 [vq], row 3 1 vq ks.length (ks.map intV), box bq2 53 [.map (some wm)], mpf wm intV (tmap (whatF x' ((n : Int) + 1))), pulR p (x'.due ((n : Int) + 1)), many (bs.map dfb)] (fun i => box bg 3 [.int .i64 (if i = 0 then 0 else d)]) (fun _ => lift False) (fun _ _ => lift False) (pdue_seq bq1 bq2 wm) (fun _ => rfl) ?_ ?_ ?_ (fun b i x w' _ h => h.lifted.elim) (fun b j i x w' _ h => h.lifted.elim)
    · exact Sub.hv <| subBox rfl <| subBox rfl <| subRow rfl rfl <| subBox rfl <| subMpf rfl <| subK rfl <| subA (A := many (bs.map dfb)) subEnd
    · intro b l1 rc R1 F w11 i k hi o11 hn2 hr2 hx2
      have h6 : i = 0 ∧ (whatF x' ((n : Int) + 1) k).getD 0 = d := by
        rcases hks with ⟨_, rfl⟩ | ⟨_, rfl, h7⟩
        · simp at hi
        · cases i with
          | zero => simp at hi; subst hi; exact ⟨rfl, h7⟩
          | succ i => simp at hi
      obtain ⟨rfl, h7⟩ := h6
      clear o10
      simp only [List.headD_cons, List.tail_cons, h7]
      repeat' (first | refine go ?_ | intro _ | refine ⟨sb, ?_⟩ | refine ⟨sd, ?_⟩ | (refine ⟨fun h1 => ?_, fun h1 => ?_⟩ <;> first | exact ab h1 | ((try rw [h1]); (try simp only [bl] at h1))) | dsimp only)
      exact hn2 _ (Sub.hv <| subBox rfl <| subA (A := lpR rc l1) subEnd)
    · intro b w11 o11
      have h6 : (if ks.length = 0 then 0 else d) = d := by
        rcases hks with ⟨h0, rfl⟩ | ⟨_, rfl, _⟩
        · simp [h0]
        · simp
      rw [h6] at o11
      clear o10
      repeat' (first | refine go ?_ | intro _ | refine ⟨sb, ?_⟩ | refine ⟨sd, ?_⟩ | (refine ⟨fun h1 => ?_, fun h1 => ?_⟩ <;> first | exact ab h1 | ((try rw [h1]); (try simp only [bl] at h1))) | dsimp only)
      · exact absurd hw h1
      · refine ⟨⟨b :: bs, last', n + 1, _, _, rfl, by congr 1, rfl, hlt, hl3, by omega, ?_, Sub.hv <| subK rfl <| subDfb <| subA (A := dfb b) <| subA (A := many (bs.map dfb)) subEnd⟩, by simp; omega⟩
        have ec : askC ⟨A, B, 1, [(3, last', true, decide (A ≤ n - last'))]⟩ ((n : Int) + 1) (3, last', true, decide (A ≤ n - last')) = (3, last', true, decide (A ≤ ((n : Int) + 1) - last')) := by
          unfold askC
          rw [← hdd, hw]
          by_cases c1 : A + B ≤ (n : Int) + 1 - last'
          · rw [if_pos c1, if_neg (by omega), decide_eq_true (show A ≤ (n : Int) - last' by omega), decide_eq_true (show A ≤ (n : Int) + 1 - last' by omega)]
          · rw [if_neg c1]
            by_cases c2 : (n : Int) + 1 - last' = A
            · rw [if_pos c2, if_pos rfl, decide_eq_true (show A ≤ (n : Int) + 1 - last' by omega)]
            · rw [if_neg c2, if_neg (by omega)]
              have e5 : decide (A ≤ (n : Int) - last') = decide (A ≤ (n : Int) + 1 - last') := by rw [decide_eq_decide]; omega
              rw [e5]
        have kd2 : Ok (x'.due ((n : Int) + 1)) ⟨A, B, 1, [askC ⟨A, B, 1, [(3, last', true, decide (A ≤ n - last'))]⟩ ((n : Int) + 1) (3, last', true, decide (A ≤ n - last'))]⟩ ((n : Int) + 1) (2 + 2 * n + 1 + 1) := kd
        rw [ec] at kd2
        rw [show ((n + 1 : Nat) : Int) = (n : Int) + 1 by omega, show 2 + 2 * (n + 1) = 2 + 2 * n + 1 + 1 by omega]
        exact kd2
  · repeat' (first | refine go ?_ | intro _ | refine ⟨sb, ?_⟩ | refine ⟨sd, ?_⟩ | (refine ⟨fun h1 => ?_, fun h1 => ?_⟩ <;> first | exact ab h1 | ((try rw [h1]); (try simp only [bl] at h1))) | dsimp only)
    exact ret_all bs _ (Sub.hv <| subA (A := many (bs.map dfb)) subEnd) fun w' o' => ⟨rfl, o'⟩
theorem bool_one (b : Bool) : ∀ u ∈ [Value.bool b], u.oneCell' = true := fun u hu => by rw [List.mem_singleton.1 hu]; rfl
theorem bool_each {H : Type} {enc : TypeId × Value → H} {W : World} {sp : Nat → Bool} {held : Bool} {fuel : Nat} {cs : List Value} {x : DataW H × List MemPlace} (h : DataW.trod enc Try.prog W 0 sp held fuel 4 cs = some x) (_ : cs.length = 1) : ∃ y : Bool, cs = [.bool y] := by
  obtain ⟨b, h1, _⟩ := DataW.trod_bool Try.underlying4 h
  exact ⟨b, h1⟩
theorem flat_bool (l : List Bool) : l.flatMap (fun b => [Value.bool b]) = l.map .bool := by induction l <;> simp_all
end
end Go.Proofs.Ytogoaohhaiggpaa

