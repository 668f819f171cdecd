import Derived.Test.YtogoaohhaiggpaaPulH
set_option linter.all false
namespace Go.Proofs.Ytogoaohhaiggpaa
open Go.Vx
/-! both side by side -/
structure Ok (x : Pst) (y : Rst) (now : Int) (n : Nat) : Prop where
  rel : Rel x y now
  sz : x.late.1 ≤ n ∧ x.dead.1 ≤ n ∧ x.ask.1 ≤ 1000 * n ∧ n ≤ 1000 ∧ y.cs.length ≤ n
  num : 1 ≤ x.ping ∧ x.ping ≤ 1000000 ∧ x.grace ≤ 1000000 ∧ 1 ≤ x.reg ∧ x.reg ≤ 1000000
  now : 0 ≤ now ∧ now ≤ 1000000000
theorem Ok.fit {x : Pst} {y : Rst} {now : Int} {n : Nat} (h : Ok x y now n) : x.fit := by
  obtain ⟨a, b, c, d, _⟩ := h.sz
  obtain ⟨e, f, g, i, j⟩ := h.num
  have := h.rel.num.2.2.2
  exact ⟨⟨by omega, by omega, by omega⟩, by omega, by omega, by omega, by omega, by omega, by omega⟩
theorem Ok.later {x : Pst} {y : Rst} {now now' : Int} {n m : Nat} (h : Ok x y now n) (h1 : now ≤ now') (h2 : now' ≤ 1000000000) (h3 : n ≤ m) (h4 : m ≤ 1000) : Ok x y now' m := by
  obtain ⟨a, b, c, d, e⟩ := h.sz
  exact ⟨h.rel.later h1, ⟨by omega, by omega, by omega, by omega, by omega⟩, h.num, by have := h.now; omega, h2⟩
theorem leave_len (cs : List Cn) (id : Int) : (leaveC cs id).length ≤ cs.length := by
  unfold leaveC; split
  · simp; omega
  · exact Nat.le_refl _
theorem Ok.leave {x : Pst} {y : Rst} {now : Int} {n : Nat} (h : Ok x y now n) (id : Int) : Ok (x.leave id) { y with cs := leaveC y.cs id } now n :=
  ⟨h.rel.leave id, ⟨h.sz.1, h.sz.2.1, h.sz.2.2.1, h.sz.2.2.2.1, Nat.le_trans (leave_len _ _) h.sz.2.2.2.2⟩, h.num, h.now⟩
theorem Ok.join {x : Pst} {y : Rst} {now : Int} {n : Nat} (h : Ok x y now n) (hn : n < 1000) (id : Int) : Ok (x.join id now) { y with cs := joinC y.cs id now } now (n + 1) := by
  obtain ⟨a, b, c, d, e⟩ := h.sz
  have := leave_len y.cs id
  exact ⟨h.rel.join id h.now.1, ⟨show x.late.1 + 1 ≤ n + 1 by omega, show x.dead.1 ≤ n + 1 by omega, show x.ask.1 ≤ 1000 * (n + 1) by omega, by omega, show (leaveC y.cs id ++ [(id, now, false, false)]).length ≤ n + 1 by simp; omega⟩, h.num, h.now⟩
theorem Ok.reg {x : Pst} {y : Rst} {now : Int} {n : Nat} (h : Ok x y now n) (hn : n < 1000) (id : Int) : Ok (x.reg1 id now) { y with cs := regC y.cs id now } now (n + 1) := by
  obtain ⟨a, b, c, d, e⟩ := h.sz
  have hr := h.rel.reg id h.now.1
  have hl : (regC y.cs id now).length ≤ n + 1 := by
    unfold regC; split
    · simp; omega
    · omega
  unfold Pst.reg1 at hr ⊢
  split
  · rename_i hq
    rw [if_pos hq] at hr
    exact ⟨hr, ⟨show x.late.1 ≤ n + 1 by omega, show x.dead.1 + 1 ≤ n + 1 by omega, show x.ask.1 + 1 ≤ 1000 * (n + 1) by omega, by omega, hl⟩, h.num, h.now⟩
  · rename_i hq
    rw [if_neg hq] at hr
    exact ⟨hr, ⟨by omega, by omega, by omega, by omega, hl⟩, h.num, h.now⟩
theorem Ok.line {x : Pst} {y : Rst} {now : Int} {n : Nat} (h : Ok x y now n) (hn : n < 1000) (id : Int) : Ok (x.line id now) { y with cs := lineC y.cs id now } now (n + 1) := by
  obtain ⟨a, b, c, d, e⟩ := h.sz
  have hr := h.rel.line id h.now.1
  have h1 := h.reg hn id
  have hl : (lineC y.cs id now).length ≤ n + 1 := by
    unfold lineC; split
    · split
      · simp; omega
      · omega
    · omega
  unfold Pst.line at hr ⊢
  split
  · rename_i hq
    rw [if_pos hq] at hr
    exact ⟨hr, ⟨h1.sz.1, h1.sz.2.1, h1.sz.2.2.1, h1.sz.2.2.2.1, hl⟩, h1.num, h.now⟩
  · rename_i hq
    rw [if_neg hq] at hr
    exact ⟨hr, ⟨by omega, by omega, by omega, by omega, hl⟩, h.num, h.now⟩
theorem Ok.due {x : Pst} {y : Rst} {now : Int} {n : Nat} (h : Ok x y now n) (hn : n < 1000) : Ok (x.due now) { y with cs := y.cs.map (askC y now) } now (n + 1) := by
  obtain ⟨a, b, c, d, e⟩ := h.sz
  exact ⟨h.rel.due, ⟨show x.late.1 ≤ n + 1 by omega, show x.dead.1 ≤ n + 1 by omega, show x.ask.1 + x.dead.1 ≤ 1000 * (n + 1) by omega, by omega, by simp; omega⟩, h.num, h.now⟩
theorem Ok.rfit {x : Pst} {y : Rst} {now : Int} {n : Nat} (h : Ok x y now n) : y.fit now := by
  obtain ⟨a, b, c, d, e⟩ := h.sz
  obtain ⟨n1, n2, n3, n4⟩ := h.rel.num
  obtain ⟨f1, f2, f3, f4, f5⟩ := h.num
  refine ⟨by omega, ⟨by unfold InR; omega, fun c hc => ?_⟩, h.rel.nd⟩
  have := (h.rel.ins c hc).tm
  have := h.now
  unfold InR; omega
theorem due_one {x : Pst} {y : Rst} {now : Int} {c : Cn} {l : List It} (h : Rel x y now) (hc : y.cs = [c]) (hd : DueP x now l) : l = if dueC y now c = 0 then [] else [(c.1, dueC y now c)] := by
  refine rows_ext (cs := y.cs) (due_rows h hd) ⟨?_, fun z => ?_⟩
  · split <;> simp
  · rw [hc]; split
    · simp [*]
    · simp [*]
theorem ok_new (a b c : Int) (ha : 1 ≤ a ∧ a ≤ 1000000) (hb : 1 ≤ b ∧ b ≤ 1000000) (hc : 1 ≤ c ∧ c ≤ 1000000) : Ok ⟨max a 1, max b 1, max c 1, fun _ => none, (0, fun _ => none), (0, fun _ => none), (0, fun _ => none)⟩ ⟨a, b, c, []⟩ 0 0 := by
  have e1 : max a 1 = a := by omega
  have e2 : max b 1 = b := by omega
  have e3 : max c 1 = c := by omega
  rw [e1, e2, e3]
  exact ⟨⟨⟨rfl, rfl, rfl, hb.1⟩, List.nodup_nil, fun k _ => ⟨rfl, rfl, rfl, rfl⟩, fun c hc => by cases hc⟩, ⟨Nat.le_refl _, Nat.le_refl _, Nat.le_refl _, by omega, Nat.le_refl _⟩, ⟨ha.1, ha.2, hb.2, hc.1, hc.2⟩, by omega, by omega⟩
section
set_option maxRecDepth 20000
set_option synthInstance.maxSize 100000
set_option synthInstance.maxHeartbeats 4000000
variable {K : Value → St → Prop} {w0 w : World} {H R : List SL} {ds : List Deferred} {p : Nat} {x : Pst} {id now : Int}
instance {w0 : World} {H : List SL} : RdsF w0 H (.slice none 0 0) 2 0 [] := ⟨fun _ _ => ⟨by simp, by simp, by simp [maxLen], none, 0, rfl, fun _ => rfl, Nat.le_refl _, fun j u h => by simp at h⟩⟩
instance awakeU_ok [o : Hv w0 H w] : Step (Cl P 6 #[] K ⟨w, ds⟩) (∀ w', Hv w0 H w' → K (.bool true) ⟨w', ds⟩) := ⟨fun h => by
  have k0 := ok_new 2 1 9 (by omega) (by omega) (by omega)
  have k1 := k0.join (by omega) 7
  have k2 := k1.reg (by omega) 7
  have k3 := (k2.later (now' := 1) (m := 2) (by omega) (by omega) (by omega) (by omega))
  have k4 := k3.due (by omega)
  have k5 := (k4.later (now' := 2) (m := 3) (by omega) (by omega) (by omega) (by omega))
  have k6 := k5.due (by omega)
  have k7 := (k6.later (now' := 3) (m := 4) (by omega) (by omega) (by omega) (by omega))
  have f0 := k0.fit
  have f1 := k1.fit
  have f2 := k2.fit
  have f4 := k4.fit
  have f6 := k6.fit
  have hA := fun l hd => (due_one (c := (7, 0, true, false)) (l := l) k3.rel rfl hd).trans (show _ = [] from rfl)
  have hB := fun l hd => (due_one (c := (7, 0, true, false)) (l := l) k5.rel rfl hd).trans (show _ = [(7, 2)] from rfl)
  have hC := fun l hd => (due_one (c := (7, 0, true, true)) (l := l) k7.rel rfl hd).trans (show _ = [(7, 3)] from rfl)
  clear k0 k1 k2 k3 k4 k5 k6 k7
  refine s6 ?_
  unfold D6
  repeat' (first | refine go ?_ | intro _ | refine ⟨sb, ?_⟩ | refine ⟨sd, ?_⟩ | (refine ⟨fun h1 => ?_, fun h1 => ?_⟩ <;> first | exact ab h1 | ((try rw [h1]); (try simp only [bl] at h1))) | dsimp only)
  · rw [decide_eq_true (hC _ (by assumption))]
    exact h _ (Sub.hv subEnd)
  · exact absurd (hB _ (by assumption)) h1
  · exact absurd (hA _ (by assumption)) h1⟩
end
end Go.Proofs.Ytogoaohhaiggpaa

