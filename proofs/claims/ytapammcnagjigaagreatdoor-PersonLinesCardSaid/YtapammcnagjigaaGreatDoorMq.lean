import Derived.Test.YtapammcnagjigaaGreatDoorVal
set_option linter.all false
namespace Go.Proofs.YtapammcnagjigaaGreatDoor
open Go.Vx Go.Lib
/-! messages: what a line says -/
def wordB (s : List UInt8) : List UInt8 := s.takeWhile (· != 32)
def restB (s : List UInt8) : List UInt8 := trimL (s.dropWhile (· != 32)) 32
def cmdB (s : List UInt8) : Bool := (s != [] && s.all letB) || (decide (s.length = 3) && s.all digB)
def upB (b : UInt8) : UInt8 := if decide (97 ≤ b) && decide (b ≤ 122) then b - 32 else b
def capsS (s : List UInt8) : List UInt8 := s.map upB
def txtB (s : List UInt8) : Bool := !s.contains 0 && !s.contains 10 && !s.contains 13
def pgo : Nat → List UInt8 → List (List UInt8) → List (List UInt8)
  | 0, _, out => out
  | f + 1, r, out => if r = [] then out else if hd r 58 then out ++ [r.drop 1] else if out.length = 14 then out ++ [r] else pgo f (restB r) (out ++ [wordB r])
def paramsM (r : List UInt8) : List (List UInt8) := pgo r.length r []
theorem pgo_nil (f : Nat) (out : List (List UInt8)) : pgo f [] out = out := by cases f <;> simp [pgo]
theorem pgo_step {f : Nat} {r : List UInt8} {out : List (List UInt8)} (h1 : r ≠ []) (h2 : hd r 58 = false) (h3 : out.length ≠ 14) : pgo (f + 1) r out = pgo f (restB r) (out ++ [wordB r]) := by
  rw [pgo, if_neg h1, h2, if_neg (by decide), if_neg h3]
theorem pgo_colon {f : Nat} {p : List UInt8} {out : List (List UInt8)} : pgo (f + 1) (58 :: p) out = out ++ [p] := by
  rw [pgo, if_neg (by simp), hd_cons]; simp
theorem pgo_last {f : Nat} {r : List UInt8} {out : List (List UInt8)} (h1 : r ≠ []) (h2 : hd r 58 = false) (h3 : out.length = 14) : pgo (f + 1) r out = out ++ [r] := by
  rw [pgo, if_neg h1, h2, if_neg (by decide), if_pos h3]
abbrev Msg := List Tag × List UInt8 × List UInt8 × List (List UInt8)
abbrev noMsg : Msg := ([], [], [], [])
def pC (T : List Tag) (pre r : List UInt8) : Msg × Int := if r = [] then (noMsg, 11) else if !cmdB (wordB r) then (noMsg, 4) else ((T, pre, capsS (wordB r), paramsM (restB r)), 0)
def pM (T : List Tag) (r : List UInt8) : Msg × Int := if hd r 58 then (if wordB (r.drop 1) = [] then (noMsg, 9) else pC T (wordB (r.drop 1)) (restB (r.drop 1))) else pC T [] r
def parseM (s : List UInt8) : Msg × Int :=
  if 510 < s.length then (noMsg, 3) else if !txtB s then (noMsg, 10)
  else if hd s 64 then (if (parseT (wordB (s.drop 1))).2 ≠ 0 then (noMsg, (parseT (wordB (s.drop 1))).2) else pM (parseT (wordB (s.drop 1))).1 (restB (s.drop 1)))
  else pM [] s
theorem cut_word (l : List UInt8) : (cutB l 32).1 = wordB l ∧ trimL (cutB l 32).2.1 32 = restB l := by
  unfold wordB restB
  induction l with
  | nil => exact ⟨rfl, rfl⟩
  | cons b l ih =>
    unfold cutB at ih ⊢
    rw [List.findIdx?_cons]
    by_cases hb : b = 32
    · subst hb; simp [trimL]
    · have h1 : (b == 32) = false := by simpa using hb
      rw [h1]
      simp only [List.takeWhile_cons, List.dropWhile_cons, bne, h1, Bool.not_false, if_true]
      cases hf : l.findIdx? (· == 32) with
      | none => rw [hf] at ih; simp [bne] at ih ⊢; exact ih
      | some i => rw [hf] at ih; simp [bne] at ih ⊢; exact ih
theorem rest_lt {r : List UInt8} (h : r ≠ []) : (restB r).length < r.length := by
  have h1 : ∀ s : List UInt8, (trimL s 32).length ≤ s.length := fun s => (List.dropWhile_suffix _).length_le
  cases r with
  | nil => exact absurd rfl h
  | cons b r =>
    unfold restB
    by_cases hb : b = 32
    · subst hb
      simp only [List.dropWhile_cons, bne_self_eq_false, Bool.false_eq_true, if_false]
      have : trimL (32 :: r) 32 = trimL r 32 := by simp [trimL]
      rw [this]
      have := h1 r
      simp only [List.length_cons]; omega
    · have : (b != 32) = true := by simpa using hb
      rw [List.dropWhile_cons, if_pos this]
      have := h1 (r.dropWhile (· != 32))
      have h2 : (r.dropWhile (· != 32)).length ≤ r.length := (List.dropWhile_suffix _).length_le
      simp only [List.length_cons]; omega
theorem rest_no32 (r : List UInt8) : ∀ t, restB r ≠ 32 :: t := by
  intro t h
  unfold restB trimL at h
  have := List.head?_dropWhile_not (fun x : UInt8 => x == 32) (r.dropWhile (· != 32))
  rw [h] at this
  simp at this
theorem word_no32 (r : List UInt8) : (32 : UInt8) ∉ wordB r := by
  intro h
  have := List.all_eq_true.1 (List.all_takeWhile (l := r) (p := (· != 32))) 32 h
  simp at this
theorem word_len (r : List UInt8) : (wordB r).length ≤ r.length := (List.takeWhile_prefix _).length_le
theorem rest_len (r : List UInt8) : (restB r).length ≤ r.length := by
  unfold restB trimL
  exact Nat.le_trans (List.dropWhile_suffix _).length_le (List.dropWhile_suffix _).length_le
theorem txt_iff {s : List UInt8} : txtB s = true ↔ ∀ b ∈ s, b ≠ 0 ∧ b ≠ 10 ∧ b ≠ 13 := by
  unfold txtB
  simp only [List.contains_eq_mem, Bool.and_eq_true, Bool.not_eq_true', decide_eq_false_iff_not]
  constructor
  · rintro ⟨⟨h1, h2⟩, h3⟩ b hb
    exact ⟨fun e => h1 (e ▸ hb), fun e => h2 (e ▸ hb), fun e => h3 (e ▸ hb)⟩
  · intro h
    exact ⟨⟨fun hm => (h _ hm).1 rfl, fun hm => (h _ hm).2.1 rfl⟩, fun hm => (h _ hm).2.2 rfl⟩
def spare (p : List UInt8) : Bool := decide (p = []) || (hd p 58 || p.contains 32)
def parS (w : List UInt8) : List (List UInt8) → List UInt8
  | [] => []
  | [p] => 32 :: (w ++ p)
  | p :: q :: r => 32 :: (p ++ parS w (q :: r))
def lastW (ps : List (List UInt8)) : List UInt8 := match ps.getLast? with | some p => if spare p then [58] else [] | none => []
def headM (T : List Tag) (pre cmd : List UInt8) : List UInt8 := (if T = [] then [] else 64 :: (textT T ++ [32])) ++ ((if pre = [] then [] else 58 :: (pre ++ [32])) ++ cmd)
def plainM (m : Msg) : List UInt8 := headM m.1 m.2.1 m.2.2.1 ++ parS (lastW m.2.2.2) m.2.2.2
def checkM (m : Msg) : Int :=
  if m.1 ≠ [] ∧ checkT m.1 ≠ 0 then checkT m.1
  else if !txtB m.2.1 || m.2.1.contains 32 || m.2.2.2.any (fun p => !txtB p) then 10
  else if !cmdB m.2.2.1 || !decide (capsS m.2.2.1 = m.2.2.1) then 4
  else if 15 < m.2.2.2.length then 7
  else if m.2.2.2.dropLast.any (fun p => decide (p = [])) then 9
  else if m.2.2.2.dropLast.any spare then 8
  else if 510 < (plainM m).length then 3 else 0
def parI (ps : List (List UInt8)) : List UInt8 := ps.flatMap fun p => 32 :: p
theorem par_snoc (w p : List UInt8) (ps : List (List UInt8)) : parS w (ps ++ [p]) = parI ps ++ 32 :: (w ++ p) := by
  induction ps with
  | nil => rfl
  | cons q ps ih =>
    have e : parS w ((q :: ps) ++ [p]) = 32 :: (q ++ parS w (ps ++ [p])) := by cases ps <;> rfl
    rw [e, ih]; simp [parI]
end Go.Proofs.YtapammcnagjigaaGreatDoor

