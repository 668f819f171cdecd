import Derived.Test.YtgcomleicnblhaaGreatDoorKrT
set_option linter.all false
namespace Go.Proofs.YtgcomleicnblhaaGreatDoor
open Go.Vx Go.Lib
/-! one holder at most: the walk -/
theorem m1_of (a : Int) : (m1.rel.ofS a).length ≤ 1 := by
  have e : m1.rel.of = updF (fun _ => none) 1 (some [[120]]) := by
    have : m1.rel.of = updF (fun _ => none) 1 (some (addT [] (foldS [88]))) := rfl
    rw [this]
    exact congrArg (fun l => updF (fun _ => none) 1 (some l)) (by decide +kernel)
  unfold Rl.ofS
  rw [e]
  by_cases q : a = 1
  · subst q; rw [updF_at]; decide
  · rw [updF_ne _ q]; decide
theorem m1_by (l : List UInt8) : (m1.rel.byS l).length ≤ 1 := by
  have e : m1.rel.by_ = updF (fun _ => none) [120] (some [1]) := by
    have : m1.rel.by_ = updF (fun _ => none) (foldS [88]) (some (addI [] 1)) := rfl
    rw [this, show foldS [88] = [120] by decide +kernel, show addI [] 1 = [1] by decide +kernel]
  unfold Rl.byS
  rw [e]
  by_cases q : l = [120]
  · subst q; rw [updF_at]; decide
  · rw [updF_ne _ q]; decide
theorem nN_dec {i : Nat} (h : 1 ≤ i ∧ i ≤ 3) : [110] ++ decDigits ((i : Int).toNat) = nN i := by
  rw [show ((i : Int).toNat) = i by omega, decDigits_one (by omega)]; rfl
theorem nN_dec2 {j : Int} (h : j = 2 ∨ j = 3) : [110] ++ decDigits j.toNat = nN j := by rcases h with rfl | rfl <;> decide +kernel
def rs : Nat → Nat → List UInt8
  | _, 0 => []
  | i, n + 1 => (if i % 2 = 0 then upL else dnL) ++ crlf ++ rs (i + 1) n
theorem rs_snoc (n : Nat) : ∀ i, rs i (n + 1) = rs i n ++ (if (i + n) % 2 = 0 then upL else dnL) ++ crlf := by
  induction n with
  | zero => intro i; simp [rs]
  | succ n ih => intro i; rw [rs, ih (i + 1), rs]; simp [show i + 1 + n = i + (n + 1) by omega]
theorem msgs_rs (k : Nat) : msgs k = rs 0 k := by
  induction k with
  | zero => rfl
  | succ k ih => rw [rs_snoc, msgs, ih, Nat.zero_add]
section
set_option maxRecDepth 20000
set_option synthInstance.maxSize 100000
set_option synthInstance.maxHeartbeats 4000000
variable {K : Value → St → Prop} {w0 w : World} {H R : List SL} {ds : List Deferred} {v : Value} {n : Nat} {xs : List Value} {bs : List UInt8}
instance (priority := high) {t : TypeId} {cx cy : Bool} {a b : UInt8} : VS (Bo P .quo t cx cy (byteV a) (byteV b)) w (b ≠ 0) (byteV (a / b)) := VS.of fun h => by
  rw [bo_int, binOp_quo']
  have hb : ¬ b.toNat = 0 := fun e => h (UInt8.toNat_inj.1 (by simpa using e))
  have e : (a.toNat : Int).tdiv (b.toNat : Int) = ((a / b).toNat : Int) := by rw [UInt8.toNat_div]; rfl
  have h2 := (a / b).toNat_lt
  have hb2 : ¬ (b.toNat : Int) = 0 := by omega
  simp only [Op.intDiv, if_neg hb2, Sem.run_pure, e]
  show _ = Result.ok (Value.int .u8 ((a / b).toNat : Int)) w
  generalize (a / b).toNat = n at *
  have e2 : IntKind.u8.wrap (n : Int) = n := by unfold IntKind.wrap; simp [IntKind.bits, IntKind.signed]; omega
  rw [e2]
theorem once_ok [o : Hv w0 H w] [r : RdsF w0 H v 1 n xs] [e : Bys xs bs] [tb : PowT w0] (h : ∀ w', Hv w0 H w' → K (.bool true) ⟨w', ds⟩) : Cl P 3 #[v] K ⟨w, ds⟩ := by
  have rl := r.loc
  have hx := e.eq
  subst hx
  obtain rfl : n = bs.length := by have := (r.rd w o).len; simpa using this.symm
  refine s3 ?_
  unfold D3
  repeat' (first | refine go ?_ | intro _ | refine ⟨sb, ?_⟩ | refine ⟨sd, ?_⟩ | (refine ⟨fun h1 => ?_, fun h1 => ?_⟩ <;> first | exact ab h1 | ((try rw [h1]); (try simp only [bl] at h1))) | dsimp only)
  · exact h _ (Sub.hv subEnd)
  rename_i p w1 o1
  have o2 : Hv w0 (coreR p (Cs.new c9) :: H) w1 := o1
  clear o o1
  refine ⟨fun q s => ∃ (i : Nat) (x : Cs) (w' : World), q = .int .i64 i ∧ s = ⟨w', []⟩ ∧ (1 ≤ i ∧ i ≤ 4) ∧ Up x i ∧ x.good (8000 * i) (3 * i) ∧ Hv w0 (coreR p x :: H) w',
    fun q s => match q with | .int _ z => 4 - z.toNat | _ => 0, ⟨1, Cs.new c9, w1, rfl, rfl, by omega, Up.new, (new_good (by decide +kernel)).mono (by omega) (by omega), o2⟩, ?_⟩
  rintro q s ⟨i, x, w2, rfl, rfl, hi, u, g, o3⟩
  clear o2
  rcases Nat.lt_or_ge i 4 with hlt | hge
  · have hm : (i : Int) = 1 ∨ (i : Int) = 2 ∨ (i : Int) = 3 := by omega
    have sd0 : x.cf.send = 65536 := by rw [u.cf]; rfl
    have un := u.n
    have g0 := g.timed (by omega)
    repeat' (first | refine go ?_ | intro _ | refine ⟨sb, ?_⟩ | refine ⟨sd, ?_⟩ | (refine ⟨fun h1 => ?_, fun h1 => ?_⟩ <;> first | exact ab h1 | ((try rw [h1]); (try simp only [bl] at h1))) | dsimp only)
    · refine And.intro ⟨g0, ⟨by decide, by omega⟩, by omega, by omega⟩ (And.intro (fun hn => (hn ⟨by omega, u.z _ (by omega), by rw [u.cf]; show _ < (9 : Int); omega⟩).elim) ?_)
      intro _ b w3 o4
      have g1 := g.connect b i [104] (by omega)
      have hdl : (decDigits (i : Int).toNat).length = 1 := by have := congrArg List.length (nN_dec (i := i) (by omega)); simp [nN] at this; simpa using this
      repeat' (first | refine go ?_ | intro _ | refine ⟨sb, ?_⟩ | refine ⟨sd, ?_⟩ | (refine ⟨fun h1 => ?_, fun h1 => ?_⟩ <;> first | exact ab h1 | ((try rw [h1]); (try simp only [bl] at h1))) | dsimp only)
      rw [nN_dec (by omega)]
      have nl : (nN i).length = 2 := rfl
      refine And.intro ⟨⟨g1.calm, g1.known (by omega)⟩, by omega, by have := g1.d; omega⟩ ?_
      intro w4 o5
      have g2 := g1.claim i (nN i)
      repeat' (first | refine go ?_ | intro _ | refine ⟨sb, ?_⟩ | refine ⟨sd, ?_⟩ | (refine ⟨fun h1 => ?_, fun h1 => ?_⟩ <;> first | exact ab h1 | ((try rw [h1]); (try simp only [bl] at h1))) | dsimp only)
      refine (SetSign_ok (s := sgO)).prf ?_
      intro w5 o6
      have g3 := g2.setSign i (s := sgO) (by decide)
      repeat' (first | refine go ?_ | intro _ | refine ⟨sb, ?_⟩ | refine ⟨sd, ?_⟩ | (refine ⟨fun h1 => ?_, fun h1 => ?_⟩ <;> first | exact ab h1 | ((try rw [h1]); (try simp only [bl] at h1))) | dsimp only)
      refine And.intro ⟨⟨g3.calm, g3.known (by omega)⟩, g3.timed (by omega), by have := g3.d; omega⟩ ?_
      intro w6 o7
      have g4 := g3.register i
      repeat' (first | refine go ?_ | intro _ | refine ⟨sb, ?_⟩ | refine ⟨sd, ?_⟩ | (refine ⟨fun h1 => ?_, fun h1 => ?_⟩ <;> first | exact ab h1 | ((try rw [h1]); (try simp only [bl] at h1))) | dsimp only)
      refine ⟨⟨i + 1, upS x b i, _, by simp, rfl, by omega, by have := u.step hm b; simpa using this, g4.mono (by omega) (by omega), o7⟩, by simp; omega⟩
    · exfalso; omega
  · obtain rfl : i = 4 := by omega
    have f5 : ∀ l, (x.mon.rel.byS l).length ≤ 10000000 := fun l => Nat.le_trans (g.m.2 l) (by decide)
    repeat' (first | refine go ?_ | intro _ | refine ⟨sb, ?_⟩ | refine ⟨sd, ?_⟩ | (refine ⟨fun h1 => ?_, fun h1 => ?_⟩ <;> first | exact ab h1 | ((try rw [h1]); (try simp only [bl] at h1))) | dsimp only)
    rename_i q0 w4 o4
    refine And.intro ⟨⟨g.m.1, f5⟩, by decide⟩ ?_
    intro w5 o5
    have o6 : Hv w0 (coreR p { x with mon := (x.mon.add 1 [88]).1 } :: H) w5 := core_shut (q := q0) (Sub.hv (subBox rfl (subT (subTail rfl rfl rfl rfl rfl rfl rfl rfl subEnd))))
    clear o3 o4 o5
    have on := u.on
    have em : (x.mon.add 1 [88]).1 = m1 := by rw [u.mon]; rfl
    have gm : m1.rel.fit ∧ ∀ l, (m1.rel.byS l).length ≤ 1000 := by
      refine ⟨⟨by decide +kernel, fun a => Nat.le_trans (m1_of a) (by decide), fun l => Nat.le_trans (m1_by l) (by decide)⟩, fun l => Nat.le_trans (m1_by l) (by decide)⟩
    have g2 : ({ x with mon := (x.mon.add 1 [88]).1 } : Cs).good 32000 12 := ⟨g.c, g.nm, g.now, by rw [em]; exact gm, g.w, g.h, g.p, g.b, g.d⟩
    generalize ({ x with mon := (x.mon.add 1 [88]).1 } : Cs) = y at *
    clear u g em gm f5
    refine ⟨fun q s => ∃ (i : Nat) (x : Cs) (w' : World) (k : Nat) (hh : Int), q = .int .i64 i ∧ s = ⟨w', []⟩ ∧ i ≤ bs.length ∧ k ≤ i ∧ On x k hh ∧ par k hh ∧ x.good (32000 + 4000 * i) (12 + i) ∧ Hv w0 (coreR p x :: H) w',
      fun q s => match q with | .int _ z => bs.length - z.toNat | _ => 0, ⟨0, y, w5, 0, 0, rfl, rfl, by omega, by omega, on, rfl, g2, o6⟩, ?_⟩
    clear on g2 o6 y
    rintro q s ⟨i, x, w6, k, hh, rfl, rfl, hi, hk, on, pr, g, o7⟩
    have hld := g.h.1
    have hfi := g.fine
    have hj : (2 + ((bs.getD i default / 2).toNat : Int).tmod 2) = 2 ∨ (2 + ((bs.getD i default / 2).toNat : Int).tmod 2) = 3 := by
      rw [Int.tmod_eq_emod_of_nonneg (by omega)]; omega
    have hin : InR (2 + ((bs.getD i default / 2).toNat : Int).tmod 2) := by rcases hj with e | e <;> rw [e] <;> exact ⟨by decide, by decide⟩
    repeat' (first | refine go ?_ | intro _ | refine ⟨sb, ?_⟩ | refine ⟨sd, ?_⟩ | (refine ⟨fun h1 => ?_, fun h1 => ?_⟩ <;> first | exact ab h1 | ((try rw [h1]); (try simp only [bl] at h1))) | dsimp only)
    · refine And.intro ⟨⟨g.calm, g.known (by omega)⟩, by decide, by have := g.d; omega⟩ ?_
      intro w8 o8
      obtain ⟨k', h', on', pr', hk'⟩ := on.claimX pr (by omega) hj
      have g' := g.claim (2 + ((bs.getD i default / 2).toNat : Int).tmod 2) [120]
      repeat' (first | refine go ?_ | intro _ | refine ⟨sb, ?_⟩ | refine ⟨sd, ?_⟩ | (refine ⟨fun h1 => ?_, fun h1 => ?_⟩ <;> first | exact ab h1 | ((try rw [h1]); (try simp only [bl] at h1))) | dsimp only)
      exact ⟨⟨i + 1, _, _, k', h', by simp, rfl, by omega, by omega, on', pr', g'.mono (by omega) (by omega), o8⟩, by simp; omega⟩
    · have hdl : (decDigits (2 + ((bs.getD i default / 2).toNat : Int).tmod 2).toNat).length = 1 := by rcases hj with e | e <;> rw [e] <;> decide +kernel
      refine And.intro (by rw [hdl]; decide) ?_
      rw [nN_dec2 hj]
      repeat' (first | refine go ?_ | intro _ | refine ⟨sb, ?_⟩ | refine ⟨sd, ?_⟩ | (refine ⟨fun h1 => ?_, fun h1 => ?_⟩ <;> first | exact ab h1 | ((try rw [h1]); (try simp only [bl] at h1))) | dsimp only)
      refine And.intro ⟨⟨g.calm, g.known (by omega)⟩, by show 2 ≤ 1000000; decide, by have := g.d; omega⟩ ?_
      intro w8 o8
      obtain ⟨k', h', on', pr', hk'⟩ := on.claimN pr (by omega) hj
      have g' := g.claim (2 + ((bs.getD i default / 2).toNat : Int).tmod 2) (nN (2 + ((bs.getD i default / 2).toNat : Int).tmod 2))
      repeat' (first | refine go ?_ | intro _ | refine ⟨sb, ?_⟩ | refine ⟨sd, ?_⟩ | (refine ⟨fun h1 => ?_, fun h1 => ?_⟩ <;> first | exact ab h1 | ((try rw [h1]); (try simp only [bl] at h1))) | dsimp only)
      exact ⟨⟨i + 1, _, _, k', h', by simp, rfl, by omega, by omega, on', pr', g'.mono (by omega) (by omega), o8⟩, by simp; omega⟩
    · obtain ⟨b1, hb1⟩ := on.a
      have ml := msgs_len k
      have ed : (x.drain 1 65536).2 = rs 0 k := by
        unfold Cs.drain
        rw [hb1]
        dsimp only
        rw [← msgs_rs]
        refine List.take_of_length_le ?_
        show (msgs k).length ≤ (max 0 (min 65536 ((msgs k).length : Int))).toNat
        omega
      have eh : x.hold.has [120] = decide (k % 2 = 1) := by
        rw [on.hold]
        unfold par at pr
        rcases on.hh with rfl | rfl | rfl
        · rw [decide_eq_false (by simp at pr; omega)]; decide +kernel
        · rw [decide_eq_true (by simpa using pr)]; decide +kernel
        · rw [decide_eq_true (by simpa using pr)]; decide +kernel
      rw [ed, eh]
      rename_i w9 o9
      have o10 : Hv w0 H w9 := Sub.hv subEnd
      clear o7 o9
      refine ⟨fun y1 y2 s => ∃ (a m : Nat) (w' : World), y1 = str (rs a m) ∧ y2 = .bool (decide (a % 2 = 1)) ∧ s = ⟨w', []⟩ ∧ a + m = k ∧ Hv w0 H w', fun y1 _ s => match y1 with | .string b => b.size | _ => 0, ⟨0, k, _, rfl, rfl, rfl, by omega, o10⟩, ?_⟩
      clear o10
      rintro y1 y2 s ⟨a, m, w10, rfl, rfl, rfl, ham, o11⟩
      cases m with
      | zero =>
        rw [show rs a 0 = [] from rfl]
        repeat' (first | refine go ?_ | intro _ | refine ⟨sb, ?_⟩ | refine ⟨sd, ?_⟩ | (refine ⟨fun h1 => ?_, fun h1 => ?_⟩ <;> first | exact ab h1 | ((try rw [h1]); (try simp only [bl] at h1))) | dsimp only)
        · have e : (decide (a % 2 = 1) == decide (k % 2 = 1)) = true := by rw [show a = k by omega]; simp
          rw [e]
          exact h _ o11
      | succ m =>
        rcases Nat.mod_two_eq_zero_or_one a with ha | ha
        · have e1 : rs a (m + 1) = upL ++ crlf ++ rs (a + 1) m := by rw [rs, if_pos ha]
          rw [decide_eq_false (show ¬ a % 2 = 1 by omega), e1]
          have hlen : (upL ++ crlf ++ rs (a + 1) m).length = 21 + (rs (a + 1) m).length := by rw [List.length_append]; rfl
          repeat' (first | refine go ?_ | intro _ | refine ⟨sb, ?_⟩ | refine ⟨sd, ?_⟩ | (refine ⟨fun h1 => ?_, fun h1 => ?_⟩ <;> first | exact ab h1 | ((try rw [h1]); (try simp only [bl] at h1))) | dsimp only)
          · refine ⟨⟨a + 1, m, _, congrArg str (rfl : List.drop 21 (upL ++ crlf ++ rs (a + 1) m) = rs (a + 1) m), ?_, rfl, by omega, o11⟩, ?_⟩
            · rw [decide_eq_true (show (a + 1) % 2 = 1 by omega)]; rfl
            · show (List.drop 21 (upL ++ crlf ++ rs (a + 1) m)).length < (upL ++ crlf ++ rs (a + 1) m).length
              rw [List.length_drop, hlen]; omega
          · exact absurd h1.1.1 (by decide)
          · rename_i hq
            exact (hq ⟨trivial, by rw [hlen]; simp; omega⟩ rfl).elim
          · exact absurd h1 (by simp [upL])
        · have e1 : rs a (m + 1) = dnL ++ crlf ++ rs (a + 1) m := by rw [rs, if_neg (by omega)]
          rw [decide_eq_true ha, e1]
          have hlen : (dnL ++ crlf ++ rs (a + 1) m).length = 17 + (rs (a + 1) m).length := by rw [List.length_append]; rfl
          repeat' (first | refine go ?_ | intro _ | refine ⟨sb, ?_⟩ | refine ⟨sd, ?_⟩ | (refine ⟨fun h1 => ?_, fun h1 => ?_⟩ <;> first | exact ab h1 | ((try rw [h1]); (try simp only [bl] at h1))) | dsimp only)
          · exact absurd h1.1.1 (by decide)
          · refine ⟨⟨a + 1, m, _, congrArg str (rfl : List.drop 17 (dnL ++ crlf ++ rs (a + 1) m) = rs (a + 1) m), ?_, rfl, by omega, o11⟩, ?_⟩
            · rw [decide_eq_false (show ¬ (a + 1) % 2 = 1 by omega)]; rfl
            · show (List.drop 17 (dnL ++ crlf ++ rs (a + 1) m)).length < (dnL ++ crlf ++ rs (a + 1) m).length
              rw [List.length_drop, hlen]; omega
          · exact (h1 ⟨trivial, by rw [hlen]; simp; omega⟩ rfl).elim
          · exact absurd h1 (by simp [dnL])
theorem coreOnce_ok {w : World} {v : Value} {bs : List UInt8} [tb : PowT w] (hp : Arg w v 1 bs.length (bs.map byteV)) : Calls P 3 #[v] w fun e w' => e = .returned (.bool true) ∧ Hv w [] w' := by
  have o := Hv.begin w
  refine law_of ?_
  exact once_ok (fun w' o' => ⟨rfl, o'⟩)
end
end Go.Proofs.YtgcomleicnblhaaGreatDoor

