import Derived.Test.YtliknfpdgppjkaaGreatDoorRmS
set_option linter.all false
namespace Go.Proofs.YtliknfpdgppjkaaGreatDoor
open Go.Vx Go.Lib
/-! plain: a change that was made is undone by its opposite -/
theorem idxB_at {a t : List UInt8} {c : UInt8} (h : c ∉ a) : idxB (a ++ c :: t) c = a.length := by
  induction a with
  | nil => rw [List.nil_append, idxB_cons, if_pos rfl]; rfl
  | cons x a ih =>
    have h1 : ¬ x = c := fun e => h (by simp [e])
    have h2 : c ∉ a := fun e => h (by simp [e])
    rw [List.cons_append, idxB_cons, if_neg h1, ih h2, if_neg (by omega)]
    simp
theorem idxB_far {a t : List UInt8} {c : UInt8} (h : c ∉ a) : idxB (a ++ t) c < 0 ∨ (a.length : Int) ≤ idxB (a ++ t) c := by
  induction a with
  | nil => simp; omega
  | cons x a ih =>
    have h1 : ¬ x = c := fun e => h (by simp [e])
    have h2 : c ∉ a := fun e => h (by simp [e])
    have := ih h2
    rw [List.cons_append, idxB_cons, if_neg h1]
    simp only [List.length_cons]
    split <;> omega
theorem idxB_not {a : List UInt8} {c : UInt8} (h : idxB a c < 0) : c ∉ a := by
  intro hm
  induction a with
  | nil => simp at hm
  | cons x a ih =>
    rw [idxB_cons] at h
    rcases List.mem_cons.1 hm with e | e
    · rw [if_pos e.symm] at h; omega
    · by_cases hx : x = c
      · rw [if_pos hx] at h; omega
      · rw [if_neg hx] at h
        refine ih ?_ e
        split at h <;> omega
theorem idxB_take {a : List UInt8} {c : UInt8} {n : Nat} (h : idxB a c < 0 ∨ (n : Int) ≤ idxB a c) : c ∉ a.take n := by
  induction a generalizing n with
  | nil => simp
  | cons x a ih =>
    cases n with
    | zero => simp
    | succ n =>
      rw [idxB_cons] at h
      by_cases hx : x = c
      · rw [if_pos hx] at h; omega
      · rw [if_neg hx] at h
        rw [List.take_succ_cons, List.mem_cons, not_or]
        refine ⟨fun e => hx e.symm, ih ?_⟩
        split at h <;> omega
theorem starS_ne (l : List UInt8) : starS l ≠ [] := by unfold starS; split <;> simp_all
theorem starS_id {l : List UInt8} (h : l ≠ []) : starS l = l := if_neg h
theorem starS_mem {l : List UInt8} {c : UInt8} (h : c ≠ 42) (hc : c ∉ l) : c ∉ starS l := by unfold starS; split <;> simp [*]
theorem cut_is (l : List UInt8) (c : UInt8) : cutB l c = if idxB l c < 0 then (l, [], false) else (l.take (idxB l c).toNat, l.drop ((idxB l c).toNat + 1), true) := by
  unfold cutB idxB
  cases l.findIdx? (· == c) with
  | none => rfl
  | some i => dsimp only; rw [if_neg (by omega)]; simp
theorem cut_head (l : List UInt8) (c : UInt8) : c ∉ (cutB l c).1 := by
  rw [cut_is]
  split
  · rename_i h; exact idxB_not h
  · exact idxB_take (.inr (by omega))
theorem nick_head (l : List UInt8) : (33 : UInt8) ∉ (nickR l).1 ∧ (64 : UInt8) ∉ (nickR l).1 := by
  unfold nickR
  split
  · exact ⟨idxB_take (.inr (by omega)), idxB_take (by omega)⟩
  · split
    · simp
    · exact ⟨idxB_not (a := l) (by omega), idxB_not (a := l) (by omega)⟩
theorem complete_shape {a u h : List UInt8} (a0 : a ≠ []) (u0 : u ≠ []) (h0 : h ≠ []) (a1 : (33 : UInt8) ∉ a) (a2 : (64 : UInt8) ∉ a) (u1 : (64 : UInt8) ∉ u) : completeS (a ++ 33 :: (u ++ 64 :: h)) = a ++ 33 :: (u ++ 64 :: h) := by
  have e1 := idxB_at (t := u ++ 64 :: h) a1
  have e2 := idxB_far (t := 33 :: (u ++ 64 :: h)) a2
  have e3 : idxB (a ++ 33 :: (u ++ 64 :: h)) 64 < 0 ∨ idxB (a ++ 33 :: (u ++ 64 :: h)) 33 < idxB (a ++ 33 :: (u ++ 64 :: h)) 64 := by
    have : (64 : UInt8) ∉ a ++ [33] := by simp [a2]
    have := idxB_far (t := u ++ 64 :: h) this
    simp only [List.append_assoc, List.singleton_append, List.length_append, List.length_singleton] at this
    omega
  have en : nickR (a ++ 33 :: (u ++ 64 :: h)) = (a, u ++ 64 :: h) := by
    unfold nickR
    rw [if_pos ⟨by omega, e3⟩, e1]
    simp [show ((a.length : Int) + 1).toNat = a.length + 1 by omega]
  have ec : cutB (u ++ 64 :: h) 64 = (u, h, true) := by
    rw [cut_is, idxB_at u1, if_neg (by omega)]
    simp
  unfold completeS
  rw [en]; dsimp only; rw [ec]
  dsimp only
  rw [starS_id a0, starS_id u0, starS_id h0]
theorem complete_idem (l : List UInt8) : completeS (completeS l) = completeS l := by
  have hn := nick_head l
  exact complete_shape (starS_ne _) (starS_ne _) (starS_ne _) (starS_mem (by decide) hn.1) (starS_mem (by decide) hn.2) (starS_mem (by decide) (cut_head _ _))
theorem starS_all {p : UInt8 → Bool} {l : List UInt8} (h42 : p 42 = true) (h : l.all p = true) : (starS l).all p = true := by unfold starS; split <;> simp_all
theorem take_all {p : UInt8 → Bool} {l : List UInt8} (h : l.all p = true) (n : Nat) : (l.take n).all p = true := List.all_eq_true.2 fun x hx => List.all_eq_true.1 h x (List.mem_of_mem_take hx)
theorem drop_all' {p : UInt8 → Bool} {l : List UInt8} (h : l.all p = true) (n : Nat) : (l.drop n).all p = true := List.all_eq_true.2 fun x hx => List.all_eq_true.1 h x (List.mem_of_mem_drop hx)
theorem complete_all {p : UInt8 → Bool} {l : List UInt8} (h42 : p 42 = true) (h33 : p 33 = true) (h64 : p 64 = true) (h : l.all p = true) : (completeS l).all p = true := by
  have hc : ∀ k : List UInt8, k.all p = true → (cutB k 64).1.all p = true ∧ (cutB k 64).2.1.all p = true := fun k hk => by
    rw [cut_is]; split
    · exact ⟨hk, rfl⟩
    · exact ⟨take_all hk _, drop_all' hk _⟩
  have hn : (nickR l).1.all p = true ∧ (nickR l).2.all p = true := by
    unfold nickR; split
    · exact ⟨take_all h _, drop_all' h _⟩
    · split
      · exact ⟨rfl, h⟩
      · exact ⟨h, rfl⟩
  unfold completeS
  rw [List.all_append, List.all_cons, List.all_append, List.all_cons, starS_all h42 hn.1, starS_all h42 (hc _ hn.2).1, starS_all h42 (hc _ hn.2).2, h33, h64]; rfl
def maskS (l : List UInt8) : List UInt8 := completeS (cleanS l)
theorem mask_idem (l : List UInt8) : maskS (maskS l) = maskS l := by
  have h : (completeS (cleanS l)).all okT = true := complete_all (by decide) (by decide) (by decide) (List.all_eq_true.2 fun x hx => (List.mem_filter.1 hx).2)
  have e : cleanS (completeS (cleanS l)) = completeS (cleanS l) := List.filter_eq_self.2 fun x hx => List.all_eq_true.1 h x hx
  unfold maskS
  rw [e, complete_idem]
theorem complete_ne (l : List UInt8) : completeS l ≠ [] := by unfold completeS; simp
theorem flagF_same : ∀ f : Fin 32, ∀ on : Bool, ∀ le ∈ ([105, 109, 110, 115, 116] : List UInt8), flagF (flagF f.val on le) (!on) le = f.val ∨ flagF f.val on le = f.val := by decide +kernel
theorem Rm.change_no {x : Rm} (ok : x.ok) (c : Chg) (id : Int) (h : (x.change c id).2.1 = noC) : (x.change c id).1 = x := by
  obtain ⟨on, le, arg⟩ := c
  have fl := ok.flg
  have nn : ∀ {b : Bool} {l : UInt8} {a : List UInt8}, l ≠ 0 → ((b, l, a) : Chg) ≠ noC := fun hl e => hl (congrArg (fun c : Chg => c.2.1) e)
  unfold Rm.change at h ⊢
  dsimp only at h ⊢
  split at h
  · rename_i hl
    rw [if_pos hl]
    have l0 : le ≠ 0 := by rintro rfl; revert hl; decide
    unfold Rm.flagC at h
    split at h
    · rename_i e
      unfold Rm.setFlag
      dsimp only
      rw [e]
      have : ((x.flags.toNat : Nat) : Int) = x.flags := by omega
      rw [this]
    · exact absurd h (nn l0)
  rename_i hl
  rw [if_neg hl]
  split at h
  · rename_i h2
    rw [if_pos h2]
    dsimp only at h ⊢
    unfold Rm.rankC at h
    unfold Rm.setRank
    split at h
    · rename_i hh
      rw [if_pos hh]
      dsimp only at h
      split at h
      · rename_i e
        have es : memS (x.at id) le on = x.at id := by
          rw [← e]; unfold memS memC; split <;> rfl
        have ea : x.at id = x.mem.getD (rankBy mid x.mem id) default := by unfold Rm.at; rw [rank_find ok.ris hh]; rfl
        rw [es, ea, set_id (has_lt ok.ris hh)]
      · exact absurd h (nn (by rintro rfl; revert h2; decide))
    · rename_i hh; rw [if_neg hh]
  rename_i h2
  rw [if_neg h2]
  split at h
  · rename_i h3
    rw [if_pos h3]
    unfold Rm.lockC at h ⊢
    dsimp only at h ⊢
    have l0 : le ≠ 0 := by rintro rfl; revert h3; decide
    split at h
    · rename_i e; rw [if_pos e]
    · rename_i e; rw [if_neg e]
      split at h
      · exact absurd h (nn l0)
      · rename_i e2; rw [if_neg e2]
        split at h
        · rename_i e3; rw [if_pos e3]
        · exact absurd h (nn l0)
  rename_i h3
  rw [if_neg h3]
  split at h
  · rename_i h4
    rw [if_pos h4]
    unfold Rm.limC at h ⊢
    dsimp only at h ⊢
    have l0 : le ≠ 0 := by rintro rfl; revert h4; decide
    split at h
    · rename_i e; rw [if_pos e]
      split at h
      · rename_i e2; rw [if_pos e2]
      · exact absurd h (nn l0)
    · rename_i e; rw [if_neg e]
      split at h
      · rename_i e2; rw [if_pos e2]
      · exact absurd h (nn l0)
  rename_i h4
  rw [if_neg h4]
  split at h
  · rename_i h5
    rw [if_pos h5]
    unfold Rm.banC at h ⊢
    dsimp only at h ⊢
    have l0 : le ≠ 0 := by rintro rfl; revert h5; decide
    split at h
    · rename_i e; rw [if_pos e]
    · rename_i e; rw [if_neg e]
      split at h
      · rename_i e2; rw [if_pos e2]
      · rename_i e2; rw [if_neg e2]
        split at h
        · rename_i e3; rw [if_pos e3]
          split at h
          · rename_i e4; rw [if_pos e4]
          · exact absurd h (nn l0)
        · exact absurd h (nn l0)
  · rename_i h5; rw [if_neg h5]
theorem rank_map {α : Type} (f : α → Int) (l : List α) (y : Int) : rankBy f l y = ((l.map f).filter fun a => decide (a < y)).length := by
  unfold rankBy
  rw [List.filter_map, List.length_map]; rfl
theorem has_map {α : Type} (f : α → Int) (l : List α) (y : Int) : hasBy f l y = (l.map f).any fun a => decide (a = y) := by
  unfold hasBy
  rw [List.any_map]; rfl
theorem set_ids {l : List Mem} {i : Nat} {v : Mem} (hi : i < l.length) (h : mid v = mid (l.getD i default)) : (l.set i v).map mid = l.map mid := by
  rw [List.map_set, h]
  have := set_id (l := l.map mid) (i := i) (by simpa using hi)
  rw [← this]
  simp [hi]
theorem mem_back (m : Mem) (le : UInt8) (on : Bool) (h : memC m le ≠ on) : memS (memS m le on) le (!on) = m := by
  obtain ⟨a, b, c⟩ := m
  unfold memS memC at *
  split at h <;> simp_all <;> cases b <;> cases c <;> cases on <;> simp_all
theorem idx_last {p : List UInt8 → Bool} {l : List (List UInt8)} {m : List UInt8} (h : ¬ 0 ≤ idxP p l) (hm : p m = true) : idxP p (l ++ [m]) = l.length := by
  have hn : l.findIdx? p = none := by
    unfold idxP at h
    cases hq : l.findIdx? p with
    | none => rfl
    | some i => rw [hq] at h; dsimp only at h; omega
  rw [List.findIdx?_eq_none_iff] at hn
  refine idxP_some (by simp) (by simp [hm]) ?_
  rw [List.take_left']
  · exact List.any_eq_false.2 fun x hx => by simp [hn x hx]
  · rfl
theorem Rm.at_rank {x : Rm} {id : Int} (h : Ris mid x.mem) (hh : hasBy mid x.mem id = true) : x.at id = x.mem.getD (rankBy mid x.mem id) default := by unfold Rm.at; rw [rank_find h hh]; rfl
theorem Rm.undo {x : Rm} (ok : x.ok) {on : Bool} {le : UInt8} {arg : List UInt8} {id : Int} (hne : (x.change (on, le, arg) id).2.1 ≠ noC) :
    ∃ a, (x.change (on, le, arg) id).2 = ((on, le, a), 0) ∧ (¬ (((le = 107 ∨ le = 108) ∧ (on = false ∨ 1 < (x.modes true).length)) ∨ (le = 98 ∧ on = false)) → a.length ≤ 250 + arg.length ∧
      ((x.change (on, le, arg) id).1.change (!on, le, a) id).2.2 = 0 ∧ ((x.change (on, le, arg) id).1.change (!on, le, a) id).1 = x) := by
  have fl := ok.flg
  by_cases h1 : le = 105 ∨ le = 109 ∨ le = 110 ∨ le = 115 ∨ le = 116
  · have e : ∀ (z : Rm) (o : Bool) (a : List UInt8), z.change (o, le, a) id = (z.setFlag o le, z.flagC o le, 0) := fun z o a => if_pos h1
    rw [e] at hne
    simp only [e]
    unfold Rm.flagC at hne ⊢
    dsimp only at hne ⊢
    by_cases hf : flagF x.flags.toNat on le = x.flags.toNat
    · rw [if_pos hf] at hne; exact absurd rfl hne
    · rw [if_neg hf]
      refine ⟨[], rfl, fun _ => ⟨Nat.zero_le _, by first | rfl | trivial, ?_⟩⟩
      have hq := flagF_same ⟨x.flags.toNat, by omega⟩ on le (by simpa using h1)
      unfold Rm.setFlag
      dsimp only at hq ⊢
      have hq' := hq.resolve_right hf
      have : (((flagF (flagF x.flags.toNat on le : Nat) (!on) le : Nat) : Nat) : Int) = x.flags := by rw [hq']; omega
      simp only [Int.toNat_natCast]
      rw [this]
  by_cases h2 : le = 111 ∨ le = 118
  · have e : ∀ (z : Rm) (o : Bool) (a : List UInt8), z.change (o, le, a) id = (z.setRank id le o, z.rankC id (o, le, a)) := fun z o a => (if_neg h1).trans (if_pos h2)
    rw [e] at hne
    simp only [e]
    unfold Rm.rankC at hne ⊢
    dsimp only at hne ⊢
    by_cases hh : hasBy mid x.mem id = true
    · rw [if_pos hh] at hne ⊢
      by_cases hc : memC (x.at id) le = on
      · rw [if_pos hc] at hne; exact absurd rfl hne
      rw [if_neg hc]
      refine ⟨arg, rfl, fun _ => ?_⟩
      have hlt := has_lt ok.ris hh
      have ea : x.at id = x.mem.getD (rankBy mid x.mem id) default := by unfold Rm.at; rw [rank_find ok.ris hh]; rfl
      have eid : mid (memS (x.at id) le on) = mid (x.mem.getD (rankBy mid x.mem id) default) := by
        rw [← ea]; unfold memS; split <;> rfl
      have es : x.setRank id le on = { x with mem := x.mem.set (rankBy mid x.mem id) (memS (x.at id) le on) } := if_pos hh
      have em := set_ids hlt eid
      have er : rankBy mid (x.mem.set (rankBy mid x.mem id) (memS (x.at id) le on)) id = rankBy mid x.mem id := by rw [rank_map, em, ← rank_map]
      have eh : hasBy mid (x.mem.set (rankBy mid x.mem id) (memS (x.at id) le on)) id = true := by rw [has_map, em, ← has_map]; exact hh
      have e1 : (x.setRank id le on).at id = memS (x.at id) le on := by
        rw [es, Rm.at_rank (x := { x with mem := x.mem.set (rankBy mid x.mem id) (memS (x.at id) le on) }) (Ris.set ok.ris hlt eid) eh]
        dsimp only
        rw [er]
        simp [hlt]
      rw [es] at e1 ⊢
      rw [if_pos eh]
      refine ⟨by omega, rfl, ?_⟩
      unfold Rm.setRank
      dsimp only
      rw [if_pos eh, e1, er, mem_back _ _ _ hc, List.set_set, ea, set_id hlt]
    · rw [if_neg hh] at hne; exact absurd rfl hne
  by_cases h3 : le = 107
  · have e : ∀ (z : Rm) (o : Bool) (a : List UInt8), z.change (o, le, a) id = z.lockC (o, le, a) := fun z o a => (if_neg h1).trans ((if_neg h2).trans (if_pos h3))
    rw [e] at hne
    simp only [e]
    unfold Rm.lockC at hne ⊢
    dsimp only at hne ⊢
    by_cases c1 : on = true ∧ (keyB arg = false ∨ x.key ≠ [])
    · rw [if_pos c1] at hne; exact absurd rfl hne
    rw [if_neg c1] at hne ⊢
    by_cases c2 : on = true
    · rw [if_pos c2]
      refine ⟨arg, rfl, fun _ => ⟨by omega, ?_⟩⟩
      subst c2
      have hk : x.key = [] := Classical.byContradiction fun h => c1 ⟨rfl, .inr h⟩
      dsimp only
      rw [if_neg (by simp), if_neg (by simp)]
      split
      · rename_i ha
        refine ⟨rfl, ?_⟩
        dsimp only
        rw [ha, ← hk]
      · refine ⟨rfl, ?_⟩
        dsimp only
        rw [← hk]
    · rw [if_neg c2] at hne ⊢
      by_cases c3 : x.key = []
      · rw [if_pos c3] at hne; exact absurd rfl hne
      rw [if_neg c3]
      refine ⟨[42], rfl, fun hn => absurd (.inl ⟨.inl h3, .inl (by simpa using c2)⟩) hn⟩
  by_cases h4 : le = 108
  · have e : ∀ (z : Rm) (o : Bool) (a : List UInt8), z.change (o, le, a) id = ((z.limC (o, le, a)).1, (z.limC (o, le, a)).2, 0) := fun z o a => (if_neg h1).trans ((if_neg h2).trans ((if_neg h3).trans (if_pos h4)))
    rw [e] at hne
    simp only [e]
    unfold Rm.limC at hne ⊢
    dsimp only at hne ⊢
    by_cases c2 : on = true
    · rw [if_pos c2] at hne ⊢
      by_cases c3 : numS arg = 0 ∨ (numS arg : Int) = x.limit
      · rw [if_pos c3] at hne; exact absurd rfl hne
      rw [if_neg c3]
      refine ⟨arg, rfl, fun hn => ⟨by omega, by first | rfl | trivial, ?_⟩⟩
      subst c2
      have hm : ¬ 1 < (x.modes true).length := fun h => hn (.inl ⟨.inr h4, .inr h⟩)
      have hz : x.limit = 0 := by
        have ol := ok.lim
        refine Classical.byContradiction fun h => hm ?_
        have hp : 0 < x.limit := by omega
        unfold Rm.modes Rm.mArg letL
        simp only [List.length_cons, List.flatMap_cons, List.length_append]
        have : (x.mArg1 true 108).length = 1 := by
          unfold Rm.mArg1
          rw [if_neg (by simp), if_pos ⟨rfl, hp, rfl⟩]; rfl
        omega
      dsimp only
      rw [if_neg (by simp), if_neg (by omega)]
      dsimp only
      rw [← hz]
    · rw [if_neg c2] at hne ⊢
      by_cases c3 : x.limit = 0
      · rw [if_pos c3] at hne; exact absurd rfl hne
      rw [if_neg c3]
      refine ⟨[], rfl, fun hn => absurd (.inl ⟨.inr h4, .inl (by simpa using c2)⟩) hn⟩
  by_cases h5 : le = 98
  · have e : ∀ (z : Rm) (o : Bool) (a : List UInt8), z.change (o, le, a) id = z.banC (o, le, a) := fun z o a => (if_neg h1).trans ((if_neg h2).trans ((if_neg h3).trans ((if_neg h4).trans (if_pos h5))))
    rw [e] at hne
    simp only [e]
    unfold Rm.banC at hne ⊢
    dsimp only at hne ⊢
    rw [show completeS (cleanS arg) = maskS arg from rfl] at hne ⊢
    by_cases c1 : arg = [] ∨ 100 < (maskS arg).length ∨ (maskS arg).contains 32 = true
    · rw [if_pos c1] at hne; exact absurd rfl hne
    rw [if_neg c1] at hne ⊢
    by_cases c2 : on = decide (0 ≤ idxP (fun s => decide (foldS s = foldS (maskS arg))) x.bans)
    · rw [if_pos c2] at hne; exact absurd rfl hne
    rw [if_neg c2] at hne ⊢
    by_cases c3 : on = true
    · rw [if_pos c3] at hne ⊢
      by_cases c4 : x.mb ≤ x.bans.length
      · rw [if_pos c4] at hne; exact absurd rfl hne
      rw [if_neg c4]
      subst c3
      refine ⟨maskS arg, rfl, fun _ => ?_⟩
      have hi : ¬ 0 ≤ idxP (fun s => decide (foldS s = foldS (maskS arg))) x.bans := fun h => c2 (by simp [h])
      have hl := idx_last (m := maskS arg) hi (by simp)
      dsimp only
      rw [show completeS (cleanS (maskS arg)) = maskS (maskS arg) from rfl, mask_idem, hl]
      rw [if_neg (by
        rintro (h | h)
        · exact complete_ne _ h
        · exact c1 (.inr h)), if_neg (by simp), if_neg (by simp)]
      refine ⟨by omega, rfl, ?_⟩
      dsimp only
      simp
    · rw [if_neg c3]
      refine ⟨_, rfl, fun hn => absurd (.inr ⟨h5, by simpa using c3⟩) hn⟩
  · have e : x.change (on, le, arg) id = (x, noC, 472) := (if_neg h1).trans ((if_neg h2).trans ((if_neg h3).trans ((if_neg h4).trans (if_neg h5))))
    rw [e] at hne
    exact absurd rfl hne
end Go.Proofs.YtliknfpdgppjkaaGreatDoor

