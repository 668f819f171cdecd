import Derived.Test.YtapammcnagjigaaDoorMo
set_option linter.all false
namespace Go.Proofs.YtapammcnagjigaaDoor
open Go.Vx Go.Lib
/-! texts told one by one -/
theorem listed_seq {w0 : World} {Tl : List SL} {v : Value} {ss : List (List UInt8)} [r : RdsL w0 Tl v 1 ss.length (ss.map str)] [one : ∀ w, One w v] (b : Nat) :
    SeqOf P w0 (.func (.func 66) #[] #[.pointer (some ⟨b, 0, none⟩)]) (box b 22 [v] :: Tl) (fun l => [str l]) ss := by
  intro y J X w ds K o hy hk hx
  have yy : Yld P w0 y J X (fun l => [str l]) ss := ⟨hy⟩
  refine go ?_
  refine cl_ok (c66 (K := fun v w' => K v ⟨w', ds⟩) ?_ fun v w' h => ⟨v, rfl, h⟩)
  unfold D66
  dsimp only
  refine ⟨fun z s => ∃ (i : Nat) (w' : World), z = .int .i64 i ∧ s = ⟨w', []⟩ ∧ i ≤ ss.length ∧ Hv w0 (J i :: box b 22 [v] :: Tl) w',
    fun z s => match z with | .int _ z => ss.length - z.toNat | _ => 0, ⟨0, w, rfl, rfl, Nat.zero_le _, o⟩, ?_⟩
  rintro z s ⟨i, w2, rfl, rfl, hi, o2⟩
  have hb := (show Rds w2 v 1 ss.length (ss.map str) from inferInstance).le
  simp only [maxLen] at hb
  clear o
  rcases Nat.lt_or_ge i ss.length with hlt | hge
  · have e3 : ss[i]? = some (ss.getD i default) := getD_at hlt
    repeat' (first | refine go ?_ | intro _ | refine And.intro (Sd.mk (by (first | exact fun _ => True.intro | exact And.intro (fun _ => True.intro) (fun _ _ => True.intro) | (intro hq; (first | exact True.intro | omega | (simp only [and_true]; omega) | (simp only [bl] at hq; (try simp only [and_true]); omega) | fail)) | exact And.intro (fun hq => by first | exact True.intro | omega | (simp only [and_true]; omega) | (simp only [bl] at hq; (try simp only [and_true]); omega) | fail) (fun hq hr => by first | exact True.intro | omega | (simp only [and_true]; omega) | (simp only [bl] at hq hr; omega) | (simp only [bl] at hr; omega) | fail) | fail))) ?_ | refine And.intro (by (first | omega | (unfold InR; omega) | decide | (simp only [ll]; omega))) ?_ | (refine And.intro (fun h1 => ?_) (fun h1 => ?_) <;> first | (exact absurd h1 (by decide)) | ((try rw [h1]); (try simp only [bl] at h1))) | dsimp only)
    · refine ⟨_, e3, rfl, fun w' o5 => ?_, fun w' o5 => ?_⟩
      · repeat' (first | refine go ?_ | intro _ | refine And.intro (Sd.mk (by (first | exact fun _ => True.intro | exact And.intro (fun _ => True.intro) (fun _ _ => True.intro) | (intro hq; (first | exact True.intro | omega | (simp only [and_true]; omega) | (simp only [bl] at hq; (try simp only [and_true]); omega) | fail)) | exact And.intro (fun hq => by first | exact True.intro | omega | (simp only [and_true]; omega) | (simp only [bl] at hq; (try simp only [and_true]); omega) | fail) (fun hq hr => by first | exact True.intro | omega | (simp only [and_true]; omega) | (simp only [bl] at hq hr; omega) | (simp only [bl] at hr; omega) | fail) | fail))) ?_ | refine And.intro (by (first | omega | (unfold InR; omega) | decide | (simp only [ll]; omega))) ?_ | (refine And.intro (fun h1 => ?_) (fun h1 => ?_) <;> first | (exact absurd h1 (by decide)) | ((try rw [h1]); (try simp only [bl] at h1))) | dsimp only)
        exact ⟨⟨i + 1, _, rfl, rfl, hlt, o5⟩, by simp; omega⟩
      · repeat' (first | refine go ?_ | intro _ | refine And.intro (Sd.mk (by (first | exact fun _ => True.intro | exact And.intro (fun _ => True.intro) (fun _ _ => True.intro) | (intro hq; (first | exact True.intro | omega | (simp only [and_true]; omega) | (simp only [bl] at hq; (try simp only [and_true]); omega) | fail)) | exact And.intro (fun hq => by first | exact True.intro | omega | (simp only [and_true]; omega) | (simp only [bl] at hq; (try simp only [and_true]); omega) | fail) (fun hq hr => by first | exact True.intro | omega | (simp only [and_true]; omega) | (simp only [bl] at hq hr; omega) | (simp only [bl] at hr; omega) | fail) | fail))) ?_ | refine And.intro (by (first | omega | (unfold InR; omega) | decide | (simp only [ll]; omega))) ?_ | (refine And.intro (fun h1 => ?_) (fun h1 => ?_) <;> first | (exact absurd h1 (by decide)) | ((try rw [h1]); (try simp only [bl] at h1))) | dsimp only)
        exact hx _ _ _ _ e3 o5
    · exfalso; omega
  · obtain rfl : i = ss.length := by omega
    repeat' (first | refine go ?_ | intro _ | refine And.intro (Sd.mk (by (first | exact fun _ => True.intro | exact And.intro (fun _ => True.intro) (fun _ _ => True.intro) | (intro hq; (first | exact True.intro | omega | (simp only [and_true]; omega) | (simp only [bl] at hq; (try simp only [and_true]); omega) | fail)) | exact And.intro (fun hq => by first | exact True.intro | omega | (simp only [and_true]; omega) | (simp only [bl] at hq; (try simp only [and_true]); omega) | fail) (fun hq hr => by first | exact True.intro | omega | (simp only [and_true]; omega) | (simp only [bl] at hq hr; omega) | (simp only [bl] at hr; omega) | fail) | fail))) ?_ | refine And.intro (by (first | omega | (unfold InR; omega) | decide | (simp only [ll]; omega))) ?_ | (refine And.intro (fun h1 => ?_) (fun h1 => ?_) <;> first | (exact absurd h1 (by decide)) | ((try rw [h1]); (try simp only [bl] at h1))) | dsimp only)
    · exfalso; omega
    · exact hk _ _ o2
instance listed_ok {K : Value → St → Prop} {w0 w : World} {H : List SL} {ds : List Deferred} {v : Value} [o : Hv w0 H w] [one : One w v] :
    Step (Cl P 28 #[v] K ⟨w, ds⟩) (∀ b w', Hv w0 (box b 22 [v] :: H) w' → K (.func (.func 66) #[] #[.pointer (some ⟨b, 0, none⟩)]) ⟨w', ds⟩) := ⟨fun h => by
  refine cl_ok (c28 (K := fun v w' => K v ⟨w', ds⟩) ?_ fun v w' h => ⟨v, rfl, h⟩)
  unfold D28
  repeat' (first | refine go ?_ | intro _ | refine And.intro (Sd.mk (by (first | exact fun _ => True.intro | exact And.intro (fun _ => True.intro) (fun _ _ => True.intro) | (intro hq; (first | exact True.intro | omega | (simp only [and_true]; omega) | (simp only [bl] at hq; (try simp only [and_true]); omega) | fail)) | exact And.intro (fun hq => by first | exact True.intro | omega | (simp only [and_true]; omega) | (simp only [bl] at hq; (try simp only [and_true]); omega) | fail) (fun hq hr => by first | exact True.intro | omega | (simp only [and_true]; omega) | (simp only [bl] at hq hr; omega) | (simp only [bl] at hr; omega) | fail) | fail))) ?_ | refine And.intro (by (first | omega | (unfold InR; omega) | decide | (simp only [ll]; omega))) ?_ | (refine And.intro (fun h1 => ?_) (fun h1 => ?_) <;> first | (exact absurd h1 (by decide)) | ((try rw [h1]); (try simp only [bl] at h1))) | dsimp only)
  exact h _ _ (Sub.hv (subBox rfl subEnd))⟩
/-! the plain law of words on lines -/
def lnA : List UInt8 → List UInt8 := lineS [105, 114, 99, 46, 120] 353 [97, 110, 110] [[61], [35, 99]]
/-- Letters and single blanks. -/
def gdB (b : UInt8) : Bool := decide (97 ≤ b) && decide (b ≤ 122)
structure gdL (x : List UInt8) : Prop where
  a : ∀ b ∈ x, gdB b = true ∨ b = 32
  h : ∃ b t, x = b :: t ∧ gdB b = true
  l : x.length ≤ 489
def msgA (x : List UInt8) : Msg := ([], [105, 114, 99, 46, 120], [51, 53, 51], [[97, 110, 110], [61], [35, 99], x])
theorem gd_byte (b : UInt8) : (!gdB b || (okT b && b != 32 && b != 58)) = true := bytes_all (fun b => !gdB b || (okT b && b != 32 && b != 58)) (by decide +kernel) b
theorem gd_of {b : UInt8} (h : gdB b = true) : okT b = true ∧ b ≠ 32 ∧ b ≠ 58 := by
  have := gd_byte b
  rw [h] at this
  simpa [and_assoc] using this
theorem gd_txt {x : List UInt8} (h : gdL x) : ∀ b ∈ x, okT b = true := fun b hb => (h.a b hb).elim (fun h => (gd_of h).1) fun e => by subst e; rfl
theorem gd_clean {x : List UInt8} (h : gdL x) : cleanS x = x := List.filter_eq_self.2 (gd_txt h)
theorem aw353 : ¬ ((!cmdB [51, 53, 51] || (!decide (capsS [51, 53, 51] = [51, 53, 51]) || decide (15 < 4))) = true) := by decide
theorem gl {A B : List (List UInt8)} {j : Nat} (h : j < A.length) : (A ++ B).getD j default = A.getD j default := by
  rw [List.getD_eq_getElem?_getD, List.getD_eq_getElem?_getD, List.getElem?_append_left h]
theorem gr {A : List (List UInt8)} {x : List UInt8} : (A ++ [x]).getD A.length default = x := by simp
theorem lnA_eq {x : List UInt8} (h : gdL x) : lnA x = plainM (msgA x) ∧ checkM (msgA x) = 0 ∧ (lnA x).length = 20 + (if (32 : UInt8) ∈ x then 1 else 0) + x.length := by
  have hc := gd_clean h
  obtain ⟨b, t, e, hb⟩ := h.h
  have hsp : spare x = decide ((32 : UInt8) ∈ x) := by
    rw [spare_eq, e, hd_cons, decide_eq_false (by simp), decide_eq_false (gd_of hb).2.2]; simp
  have hmk : mkTo [[97, 110, 110], [61], [35, 99], x] 4 = [[97, 110, 110], [61], [35, 99], x] := by
    have : mkTo [[97, 110, 110], [61], [35, 99], x] 4 = [midS (cleanS [97, 110, 110]), midS (cleanS [61]), midS (cleanS [35, 99]), cleanS x] := rfl
    rw [this, hc]; rfl
  have hpl : plainM (msgA x) = [58, 105, 114, 99, 46, 120, 32, 51, 53, 51, 32, 97, 110, 110, 32, 61, 32, 35, 99, 32] ++ ((if (32 : UInt8) ∈ x then [58] else []) ++ x) := by
    have : plainM (msgA x) = [58, 105, 114, 99, 46, 120, 32, 51, 53, 51, 32, 97, 110, 110, 32, 61, 32, 35, 99, 32] ++ ((if spare x then [58] else []) ++ x) := rfl
    rw [this, hsp]; simp
  have hln : (plainM (msgA x)).length = 20 + (if (32 : UInt8) ∈ x then 1 else 0) + x.length := by
    rw [hpl]; split <;> simp <;> omega
  have hl := h.l
  have hle : (plainM (msgA x)).length ≤ 510 := by rw [hln]; split <;> omega
  have e1 : lnA x = plainM (msgA x) := by
    have : lnA x = makeS [105, 114, 99, 46, 120] [51, 53, 51] [[97, 110, 110], [61], [35, 99], x] := rfl
    rw [this]
    unfold makeS
    rw [if_neg (show ¬ ((!cmdB [51, 53, 51] || (!decide (capsS [51, 53, 51] = [51, 53, 51]) || decide (15 < [[97, 110, 110], [61], [35, 99], x].length))) = true) from aw353)]
    show (plainM ([], dash (cleanS [105, 114, 99, 46, 120]), [51, 53, 51], mkTo [[97, 110, 110], [61], [35, 99], x] 4)).take 510 = _
    rw [hmk]
    exact List.take_of_length_le hle
  refine ⟨e1, ?_, by rw [e1, hln]⟩
  have ht : txtB x = true := txt_iff.2 fun b hb => by have := gd_txt h b hb; simpa [okT, and_assoc] using this
  unfold checkM msgA
  dsimp only
  rw [if_neg (by simp), if_neg, if_neg (show ¬ ((!cmdB [51, 53, 51] || !decide (capsS [51, 53, 51] = [51, 53, 51])) = true) by decide), if_neg (by simp), if_neg (show ¬ (([[97, 110, 110], [61], [35, 99], x].dropLast).any (fun p => decide (p = [])) = true) from (show ¬ (([[97, 110, 110], [61], [35, 99]] : List (List UInt8)).any (fun p => decide (p = [])) = true) by decide)), if_neg (show ¬ (([[97, 110, 110], [61], [35, 99], x].dropLast).any spare = true) from (show ¬ (([[97, 110, 110], [61], [35, 99]] : List (List UInt8)).any spare = true) by decide)), if_neg (by
    have : ¬ 510 < (plainM (msgA x)).length := by omega
    exact this)]
  · simp only [List.any_cons, List.any_nil, ht]; decide
theorem lnA_parse {x : List UInt8} (h : gdL x) : parseM (lnA x) = (msgA x, 0) := by
  obtain ⟨h1, h2, _⟩ := lnA_eq h
  rw [h1]; exact parse_text h2
theorem baseA : baseS lnA = 20 := by decide +kernel
/-- A word: letters, at most 60. -/
structure gdW (w : List UInt8) : Prop where
  a : ∀ b ∈ w, gdB b = true
  n : w ≠ []
  l : w.length ≤ 60
theorem gdW.gdL {w : List UInt8} (h : gdW w) : gdL w := by
  refine ⟨fun b hb => .inl (h.a b hb), ?_, by have := h.l; omega⟩
  cases w with
  | nil => exact absurd rfl h.n
  | cons b t => exact ⟨b, t, rfl, h.a b (List.mem_cons_self ..)⟩
theorem gdW.no32 {w : List UInt8} (h : gdW w) : (32 : UInt8) ∉ w := fun hm => (gd_of (h.a _ hm)).2.1 rfl
theorem gdW.bare {w : List UInt8} (h : gdW w) : bareS w = w := by
  unfold bareS; rw [gd_clean h.gdL]; exact repl_no h.no32
def backS (L : List (List UInt8)) : List UInt8 := L.flatMap fun x => x ++ [32]
/-- The lines so far, the last one still open. -/
structure InvP (L ws : List (List UInt8)) : Prop where
  g : ∀ x ∈ L, gdL x
  b : backS L = backS ws
  e : L = [] ↔ ws = []
  c : ∀ j, j + 1 < L.length → 510 ≤ (lnA (L.getD j default)).length + 1 + (wordB (L.getD (j + 1) default)).length
def stP (L : List (List UInt8)) : PkSt := (L.getLast?.getD [], L.dropLast.map lnA)
theorem stP_snoc (M : List (List UInt8)) (x : List UInt8) : stP (M ++ [x]) = (x, M.map lnA) := by simp [stP]
theorem word_self {w : List UInt8} (h : (32 : UInt8) ∉ w) : wordB w = w := by have := (word_app h (.inl rfl : ([] : List UInt8) = [] ∨ _)).1; simpa using this
theorem word_pre {x y : List UInt8} (h : ∃ b t, x = b :: t) : wordB (x ++ 32 :: y) = wordB x := by
  clear h
  induction x with
  | nil => rw [List.nil_append, word_cons, if_pos rfl]; rfl
  | cons b x ih => rw [List.cons_append, word_cons, word_cons, ih]
theorem eq_nil_or_snoc {α : Type} (L : List α) : L = [] ∨ ∃ M x, L = M ++ [x] := by
  cases h : L.reverse with
  | nil => exact .inl (by simpa using h)
  | cons x t => exact .inr ⟨t.reverse, x, by have := congrArg List.reverse h; simpa using this⟩
theorem stepP_inv {L ws : List (List UInt8)} {w : List UInt8} (h : InvP L ws) (hw : gdW w) : ∃ L', stepP (baseS lnA) lnA (stP L) w = stP L' ∧ InvP L' (ws ++ [w]) := by
  have hb : bareS w = w := hw.bare
  have hstep : stepP (baseS lnA) lnA (stP L) w = addS 20 lnA (stP L) w := by unfold stepP; rw [hb, if_neg hw.n, baseA]
  rw [hstep]
  have e1 : backS [w] = w ++ [32] := by simp [backS]
  have ba : ∀ A B : List (List UInt8), backS (A ++ B) = backS A ++ backS B := fun A B => List.flatMap_append ..
  rcases eq_nil_or_snoc L with rfl | ⟨M, x, rfl⟩
  · have hws : ws = [] := h.e.1 rfl
    subst hws
    refine ⟨[w], ?_, ⟨fun y hy => by rw [List.mem_singleton.1 hy]; exact hw.gdL, rfl, by simp, fun j hj => by simp at hj⟩⟩
    have : stP [] = ([], []) := rfl
    rw [this]; simp [addS, flushS, stP]
  · have hx := h.g x (by simp)
    obtain ⟨b, t, ex, hbb⟩ := hx.h
    have hxn : x ≠ [] := by rw [ex]; simp
    have hwl := hw.l
    have hwn : w ≠ [] := hw.n
    rw [stP_snoc]
    by_cases hf : (510 : Int) < 20 + 1 + (x.length : Int) + 1 + (w.length : Int)
    · have e2 : addS 20 lnA (x, M.map lnA) w = (w, (M ++ [x]).map lnA) := by
        have h1 : flushS 20 lnA (x, M.map lnA) w = ([], M.map lnA ++ [lnA x]) := if_pos ⟨hxn, hf⟩
        unfold addS; rw [h1]; simp
      refine ⟨(M ++ [x]) ++ [w], by rw [e2, stP_snoc], ⟨fun y hy => ?_, ?_, ?_, fun j hj => ?_⟩⟩
      · rcases List.mem_append.1 hy with hy | hy
        · exact h.g y hy
        · rw [List.mem_singleton.1 hy]; exact hw.gdL
      · rw [ba, ba ws, h.b]
      · simp
      · simp only [List.length_append, List.length_cons, List.length_nil] at hj
        rcases Nat.lt_or_ge (j + 1) (M.length + 1) with hlt | hge
        · have := h.c j (by simp; omega)
          rw [gl (A := M ++ [x]) (j := j) (by rw [List.length_append]; simp; omega), gl (A := M ++ [x]) (j := j + 1) (by rw [List.length_append]; simp; omega)]
          exact this
        · obtain rfl : j = M.length := by omega
          have g1 : ((M ++ [x]) ++ [w]).getD M.length default = x := by rw [gl (by simp), gr]
          have g2 : ((M ++ [x]) ++ [w]).getD (M.length + 1) default = w := by
            have := gr (A := M ++ [x]) (x := w)
            rwa [List.length_append] at this
          rw [g1, g2, word_self hw.no32, (lnA_eq hx).2.2]
          split <;> omega
    · have e2 : addS 20 lnA (x, M.map lnA) w = (x ++ 32 :: w, M.map lnA) := by
        have h1 : flushS 20 lnA (x, M.map lnA) w = (x, M.map lnA) := if_neg (fun hc => hf hc.2)
        unfold addS; rw [h1]; dsimp only; rw [if_neg hxn]; simp
      refine ⟨M ++ [x ++ 32 :: w], by rw [e2, stP_snoc], ⟨fun y hy => ?_, ?_, ?_, fun j hj => ?_⟩⟩
      · rcases List.mem_append.1 hy with hy | hy
        · exact h.g y (List.mem_append_left _ hy)
        · rw [List.mem_singleton.1 hy]
          refine ⟨fun c hc => ?_, ⟨b, t ++ 32 :: w, by rw [ex]; rfl, hbb⟩, by simp; omega⟩
          rcases List.mem_append.1 hc with hc | hc
          · exact hx.a c hc
          · rcases List.mem_cons.1 hc with rfl | hc
            · exact .inr rfl
            · exact .inl (hw.a c hc)
      · have h3 := h.b
        rw [ba] at h3 ⊢
        rw [ba ws, ← h3]
        simp [backS]
      · simp
      · simp only [List.length_append, List.length_cons, List.length_nil] at hj
        have h4 := h.c j (by simp; omega)
        rcases Nat.lt_or_ge (j + 1) M.length with hlt | hge
        · rw [gl (A := M) (j := j) (by omega), gl (A := M) (j := j + 1) (by omega)] at h4 ⊢
          exact h4
        · have hjm : j + 1 = M.length := by omega
          have g2 : (M ++ [x]).getD (j + 1) default = x := by rw [hjm]; exact gr
          have g3 : (M ++ [x ++ 32 :: w]).getD (j + 1) default = x ++ 32 :: w := by rw [hjm]; exact gr
          have g4 : (M ++ [x ++ 32 :: w]).getD j default = (M ++ [x]).getD j default := by
            rw [gl (by omega), gl (by omega)]
          rw [g2] at h4
          rw [g3, g4, word_pre ⟨b, t, ex⟩]
          exact h4
theorem fold_inv (ws : List (List UInt8)) : ∀ (L ws0 : List (List UInt8)), InvP L ws0 → (∀ w ∈ ws, gdW w) → ∃ L', ws.foldl (stepP (baseS lnA) lnA) (stP L) = stP L' ∧ InvP L' (ws0 ++ ws) := by
  induction ws with
  | nil => intro L ws0 h _; exact ⟨L, rfl, by simpa using h⟩
  | cons w ws ih =>
    intro L ws0 h hg
    obtain ⟨L1, e1, h1⟩ := stepP_inv h (hg w (List.mem_cons_self ..))
    obtain ⟨L2, e2, h2⟩ := ih L1 (ws0 ++ [w]) h1 fun v hv => hg v (List.mem_cons_of_mem _ hv)
    exact ⟨L2, by rw [List.foldl_cons, e1, e2], by simpa using h2⟩
/-- The lines that words make. -/
theorem pack_law {ws : List (List UInt8)} (hne : ws ≠ []) (h : ∀ w ∈ ws, gdW w) : ∃ L, packS lnA ws = L.map lnA ∧ InvP L ws := by
  obtain ⟨L, e, hi⟩ := fold_inv ws [] [] ⟨fun x hx => (by cases hx), rfl, by simp, fun j hj => by simp at hj⟩ h
  rw [List.nil_append] at hi
  have hL : L ≠ [] := fun e => hne (hi.e.1 e)
  refine ⟨L, ?_, hi⟩
  have e0 : ([], []) = stP [] := rfl
  unfold packS
  rw [e0, e]
  rcases eq_nil_or_snoc L with e9 | ⟨M, x, e9⟩
  · exact absurd e9 hL
  · subst e9
    rw [stP_snoc]
    obtain ⟨b, t, ex, _⟩ := (hi.g x (by simp)).h
    unfold endP
    rw [if_pos (.inl (by rw [ex]; simp))]
    simp
end Go.Proofs.YtapammcnagjigaaDoor

