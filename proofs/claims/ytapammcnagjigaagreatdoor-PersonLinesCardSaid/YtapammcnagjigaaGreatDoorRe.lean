import Derived.Test.YtapammcnagjigaaGreatDoorRd
set_option linter.all false
namespace Go.Proofs.YtapammcnagjigaaGreatDoor
open Go.Vx Go.Lib
/-! words on lines, as the reference puts them -/
def irc : List UInt8 := [105, 114, 99, 46, 120]
def ann : List UInt8 := [97, 110, 110]
def longS (nick last : List UInt8) : Nat := 15 + max (cleanS nick).length 1 + 2 + last.length
def lnN (nick : List UInt8) : List UInt8 → List UInt8 := lineS irc 319 ann [nick]
def refStep (nick : List UInt8) (rows : List (List UInt8)) (s : List UInt8) : List (List UInt8) :=
  if bareS s = [] then rows else if rows ≠ [] ∧ longS nick (rows.getLast?.getD [] ++ [32] ++ bareS s) ≤ 510 then rows.dropLast ++ [rows.getLast?.getD [] ++ [32] ++ bareS s] else rows ++ [bareS s]
def rowsS (nick : List UInt8) (ss : List (List UInt8)) : List (List UInt8) := ss.foldl (refStep nick) []
def endR (rows : List (List UInt8)) : List (List UInt8) := if rows = [] then [[]] else rows
def stL (line : List UInt8 → List UInt8) (L : List (List UInt8)) : PkSt := (L.getLast?.getD [], L.dropLast.map line)
theorem stL_snoc (line : List UInt8 → List UInt8) (M : List (List UInt8)) (x : List UInt8) : stL line (M ++ [x]) = (x, M.map line) := by simp [stL]
theorem nil_or_snoc {α : Type} (L : List α) : L = [] ∨ ∃ M x, L = M ++ [x] := by
  cases h : L.reverse with
  | nil => exact .inl (by simpa using h)
  | cons x t => exact .inr ⟨t.reverse, x, by have := congrArg List.reverse h; simpa using this⟩
theorem mid_max (p : List UInt8) : (midS p).length = max p.length 1 := by
  unfold midS
  by_cases h : p = []
  · subst h; rfl
  · rw [if_neg h, unc_len, dash_len]
    have := List.length_pos_iff.2 h
    omega
theorem aw319 : ¬ ((!cmdB (codeS 319) || (!decide (capsS (codeS 319) = codeS 319) || decide (15 < 3))) = true) := by decide +kernel
theorem base_eq {nick : List UInt8} (h : nick.length ≤ 200) : baseS (lnN nick) = 16 + (max (cleanS nick).length 1 : Nat) := by
  have hc := clean_len nick
  have hm := mid_max (cleanS nick)
  have e1 : lnN nick [58] = (plainM ([], dash (cleanS irc), codeS 319, mkTo [ann, nick, [58]] 3)).take 510 := by
    show numS irc 319 ann ([nick] ++ [[58]]) = _
    unfold numS
    rw [if_neg (by simp)]
    show makeS irc (codeS 319) [ann, nick, [58]] = _
    unfold makeS
    rw [if_neg (show ¬ ((!cmdB (codeS 319) || (!decide (capsS (codeS 319) = codeS 319) || decide (15 < [ann, nick, [58]].length))) = true) from aw319)]
    rfl
  have e2 : mkTo [ann, nick, [58]] 3 = [ann, midS (cleanS nick), [58]] := by
    show [midS (cleanS ann), midS (cleanS nick), cleanS [58]] = _
    rw [show midS (cleanS ann) = ann by decide +kernel, show cleanS [58] = [58] by decide +kernel]
  have e3 : (plainM ([], dash (cleanS irc), codeS 319, [ann, midS (cleanS nick), [58]])).length = 18 + (midS (cleanS nick)).length := by
    have : plainM ([], dash (cleanS irc), codeS 319, [ann, midS (cleanS nick), [58]]) = [58, 105, 114, 99, 46, 120, 32, 51, 49, 57, 32, 97, 110, 110, 32] ++ (midS (cleanS nick) ++ [32, 58, 58]) := by
      have e4 : dash (cleanS irc) = irc := by decide +kernel
      rw [e4]
      rfl
    rw [this]; simp; omega
  unfold baseS
  rw [e1, e2, List.length_take, e3]
  omega
theorem step_rel {nick : List UInt8} (h : nick.length ≤ 200) {rows : List (List UInt8)} (hr : ∀ x ∈ rows, x ≠ []) (s : List UInt8) :
    stepP (baseS (lnN nick)) (lnN nick) (stL (lnN nick) rows) s = stL (lnN nick) (refStep nick rows s) ∧ ∀ x ∈ refStep nick rows s, x ≠ [] := by
  unfold stepP refStep
  by_cases hb : bareS s = []
  · rw [if_pos hb, if_pos hb]; exact ⟨rfl, hr⟩
  · rw [if_neg hb, if_neg hb, base_eq h]
    rcases nil_or_snoc rows with rfl | ⟨M, x, rfl⟩
    · refine ⟨?_, fun x hx => by simp at hx; rw [hx]; exact hb⟩
      simp [stL, addS, flushS]
    · have hx : x ≠ [] := hr x (by simp)
      rw [stL_snoc]
      have e1 : (M ++ [x]).getLast?.getD [] = x := by simp
      have e2 : (M ++ [x]).dropLast = M := by simp
      rw [e1, e2]
      have hl : longS nick (x ++ [32] ++ bareS s) = 15 + max (cleanS nick).length 1 + 2 + (x.length + 1 + (bareS s).length) := by unfold longS; simp; omega
      by_cases hc : longS nick (x ++ [32] ++ bareS s) ≤ 510
      · rw [if_pos ⟨by simp, hc⟩, stL_snoc]
        refine ⟨?_, fun y hy => ?_⟩
        · have e3 : flushS (16 + (max (cleanS nick).length 1 : Nat)) (lnN nick) (x, M.map (lnN nick)) (bareS s) = (x, M.map (lnN nick)) := if_neg (fun h => by have := h.2; dsimp only at this; omega)
          unfold addS; rw [e3]; dsimp only; rw [if_neg hx]
        · rcases List.mem_append.1 hy with hy | hy
          · exact hr y (List.mem_append_left _ hy)
          · rw [List.mem_singleton.1 hy]; simp
      · rw [if_neg (fun h => hc h.2), stL_snoc]
        refine ⟨?_, fun y hy => ?_⟩
        · have e3 : flushS (16 + (max (cleanS nick).length 1 : Nat)) (lnN nick) (x, M.map (lnN nick)) (bareS s) = ([], M.map (lnN nick) ++ [lnN nick x]) := if_pos ⟨hx, by dsimp only; omega⟩
          unfold addS; rw [e3]; simp
        · rcases List.mem_append.1 hy with hy | hy
          · exact hr y hy
          · rw [List.mem_singleton.1 hy]; exact hb
theorem fold_rel {nick : List UInt8} (h : nick.length ≤ 200) (ss : List (List UInt8)) : ∀ rows : List (List UInt8), (∀ x ∈ rows, x ≠ []) →
    ss.foldl (stepP (baseS (lnN nick)) (lnN nick)) (stL (lnN nick) rows) = stL (lnN nick) (ss.foldl (refStep nick) rows) ∧ ∀ x ∈ ss.foldl (refStep nick) rows, x ≠ [] := by
  induction ss with
  | nil => intro rows hr; exact ⟨rfl, hr⟩
  | cons s ss ih =>
    intro rows hr
    obtain ⟨e, hr2⟩ := step_rel h hr s
    rw [List.foldl_cons, List.foldl_cons, e]
    exact ih _ hr2
theorem pack_rel {nick : List UInt8} (h : nick.length ≤ 200) (ss : List (List UInt8)) : packS (lnN nick) ss = (endR (rowsS nick ss)).map (lnN nick) := by
  obtain ⟨e, hr⟩ := fold_rel h ss [] (fun x hx => by cases hx)
  have e0 : (([], []) : PkSt) = stL (lnN nick) [] := rfl
  unfold packS
  rw [e0, e]
  unfold rowsS
  rcases nil_or_snoc (ss.foldl (refStep nick) []) with e9 | ⟨M, x, e9⟩
  · rw [e9]; rfl
  · rw [e9] at hr ⊢
    rw [stL_snoc]
    unfold endP endR
    rw [if_pos (.inl (hr x (by simp))), if_neg (by simp)]
    simp
end Go.Proofs.YtapammcnagjigaaGreatDoor

