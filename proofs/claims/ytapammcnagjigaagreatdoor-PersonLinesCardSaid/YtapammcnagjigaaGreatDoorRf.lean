import Derived.Test.YtapammcnagjigaaGreatDoorRe
set_option linter.all false
namespace Go.Proofs.YtapammcnagjigaaGreatDoor
open Go.Vx Go.Lib
section
set_option maxRecDepth 20000
set_option synthInstance.maxSize 100000
set_option synthInstance.maxHeartbeats 4000000
variable {K : Value → St → Prop} {w0 w : World} {H : List SL} {ds : List Deferred} {l nick : List UInt8} {xp : Value}
theorem bare_eq (l : List UInt8) : cleanS (l.filter (· != 32)) = bareS l := by
  unfold bareS cleanS replS
  induction l with
  | nil => rfl
  | cons b l ih =>
    by_cases h : b = 32
    · subst h
      simpa [okT] using ih
    · by_cases h2 : okT b = true
      · simp only [List.filter_cons, bne_iff_ne, ne_eq, h, not_false_eq_true, if_true, h2, List.flatMap_cons, if_false] at ih ⊢
        rw [← ih]; simp
      · simp only [List.filter_cons, bne_iff_ne, ne_eq, h, not_false_eq_true, if_true, h2, if_false] at ih ⊢
        exact ih
theorem no32_snoc {l : List UInt8} {i : Nat} (h : i < l.length) : (l.take (i + 1)).filter (· != 32) = (l.take i).filter (· != 32) ++ if l.getD i default = 32 then [] else [l.getD i default] := by
  rw [take_snoc h, List.filter_append]
  congr 1
  by_cases hb : l.getD i default = 32
  · rw [if_pos hb]; simp [hb, -List.getD_eq_getElem?_getD]
  · rw [if_neg hb]; simp [hb, -List.getD_eq_getElem?_getD]
instance bareR_ok [o : Hv w0 H w] : Step (Cl P 94 #[str l] K ⟨w, ds⟩) (l.length ≤ 1000000 ∧ ∀ w', Hv w0 H w' → K (str (bareS l)) ⟨w', ds⟩) := ⟨fun ⟨hl, h⟩ => by
  refine cl_ok (c94 (K := fun v w' => K v ⟨w', ds⟩) ?_ fun v w' h => ⟨v, rfl, h⟩)
  unfold D94
  refine ⟨fun x y s => ∃ (i : Nat) (w' : World), x = str ((l.take i).filter (· != 32)) ∧ y = .int .i64 i ∧ s = ⟨w', []⟩ ∧ i ≤ l.length ∧ Hv w0 H w', fun _ y s => match y with | .int _ z => l.length - z.toNat | _ => 0, ⟨0, w, rfl, rfl, rfl, Nat.zero_le _, o⟩, ?_⟩
  rintro x y s ⟨i, w2, rfl, rfl, rfl, hi, o2⟩
  clear o
  have hfl := List.length_filter_le (· != 32) (l.take i)
  rw [List.length_take] at hfl
  rcases Nat.lt_or_ge i l.length with hlt | hge
  · have hone : (l.take (i + 1)).drop i = [l.getD i default] := one_piece hlt rfl
    have hsn := no32_snoc hlt
    have e1 : ((i : Int) + 1).toNat = i + 1 := by omega
    repeat' (first | refine go ?_ | intro _ | refine And.intro (Sd.mk (by (first | exact fun _ => True.intro | exact And.intro (fun _ => True.intro) (fun _ _ => True.intro) | (intro hq; (first | exact True.intro | omega | (simp only [and_true]; omega) | (simp only [bl] at hq; (try simp only [and_true]); omega) | fail)) | exact And.intro (fun hq => by first | exact True.intro | omega | (simp only [and_true]; omega) | (simp only [bl] at hq; (try simp only [and_true]); omega) | fail) (fun hq hr => by first | exact True.intro | omega | (simp only [and_true]; omega) | (simp only [bl] at hq hr; omega) | (simp only [bl] at hr; omega) | fail) | fail))) ?_ | refine And.intro (by (first | omega | (unfold InR; omega) | decide | (simp only [ll]; omega))) ?_ | (refine And.intro (fun h1 => ?_) (fun h1 => ?_) <;> first | (exact absurd h1 (by decide)) | ((try rw [h1]); (try simp only [bl] at h1))) | dsimp only)
    · rw [if_neg h1] at hsn
      exact ⟨⟨i + 1, _, by rw [e1, hone, hsn], rfl, rfl, hlt, o2⟩, by omega⟩
    · rw [if_pos h1, List.append_nil] at hsn
      exact ⟨⟨i + 1, _, by rw [hsn], rfl, rfl, hlt, o2⟩, by omega⟩
    · exfalso; omega
  · repeat' (first | refine go ?_ | intro _ | refine And.intro (Sd.mk (by (first | exact fun _ => True.intro | exact And.intro (fun _ => True.intro) (fun _ _ => True.intro) | (intro hq; (first | exact True.intro | omega | (simp only [and_true]; omega) | (simp only [bl] at hq; (try simp only [and_true]); omega) | fail)) | exact And.intro (fun hq => by first | exact True.intro | omega | (simp only [and_true]; omega) | (simp only [bl] at hq; (try simp only [and_true]); omega) | fail) (fun hq hr => by first | exact True.intro | omega | (simp only [and_true]; omega) | (simp only [bl] at hq hr; omega) | (simp only [bl] at hr; omega) | fail) | fail))) ?_ | refine And.intro (by (first | omega | (unfold InR; omega) | decide | (simp only [ll]; omega))) ?_ | (refine And.intro (fun h1 => ?_) (fun h1 => ?_) <;> first | (exact absurd h1 (by decide)) | ((try rw [h1]); (try simp only [bl] at h1))) | dsimp only)
    · exfalso; omega
    · rw [List.take_of_length_le hge, bare_eq]; exact h _ (Sub.hv subEnd)⟩
theorem long_ok {last : List UInt8} (hn : nick.length ≤ 200) (hl : last.length ≤ 100000) [rp : RdsF w0 H xp 1 1 [str nick]] [o : Hv w0 H w] (h : ∀ w', Hv w0 H w' → K (.int .i64 (longS nick last : Nat)) ⟨w', ds⟩) :
    Cl P 95 #[str irc, .int .i64 319, str ann, xp, str last] K ⟨w, ds⟩ := by
  refine cl_ok (c95 (K := fun v w' => K v ⟨w', ds⟩) ?_ fun v w' h => ⟨v, rfl, h⟩)
  have lp : RdsL w0 H xp 1 1 [str nick] := rp.loc
  have hc := clean_len nick
  have hci : (cleanS irc).length = 5 := by decide +kernel
  have hcn : cleanS irc ≠ [] := by decide +kernel
  have han : ann ≠ [] := by decide
  unfold D95
  repeat' (first | refine go ?_ | intro _ | refine And.intro (Sd.mk (by (first | exact fun _ => True.intro | exact And.intro (fun _ => True.intro) (fun _ _ => True.intro) | (intro hq; (first | exact True.intro | omega | (simp only [and_true]; omega) | (simp only [bl] at hq; (try simp only [and_true]); omega) | fail)) | exact And.intro (fun hq => by first | exact True.intro | omega | (simp only [and_true]; omega) | (simp only [bl] at hq; (try simp only [and_true]); omega) | fail) (fun hq hr => by first | exact True.intro | omega | (simp only [and_true]; omega) | (simp only [bl] at hq hr; omega) | (simp only [bl] at hr; omega) | fail) | fail))) ?_ | refine And.intro (by (first | omega | (unfold InR; omega) | decide | (simp only [ll]; omega))) ?_ | (refine And.intro (fun h1 => ?_) (fun h1 => ?_) <;> first | (exact absurd h1 (by decide)) | ((try rw [h1]); (try simp only [bl] at h1))) | dsimp only)
  rename_i vr wr orr
  have o3 : Hv w0 (row 9 1 vr 2 ([ann, nick].map str) :: H) wr := orr
  clear orr
  have hM : ∀ i, i < 2 → ∀ n : Nat, (i = 0 → n = 10) → (i = 1 → n = 14) → (i + 1 = 1 → n + 1 + max (cleanS ([ann, nick].getD i default)).length 1 = 14) ∧ (i + 1 = 2 → n + 1 + max (cleanS ([ann, nick].getD i default)).length 1 = 15 + max (cleanS nick).length 1) := fun i hi n h0 h1 => by
    refine ⟨fun h => ?_, fun h => ?_⟩
    · obtain rfl : i = 0 := by omega
      rw [h0 rfl, show (cleanS ([ann, nick].getD 0 default)).length = 3 from by show (cleanS ann).length = 3; decide +kernel]; rfl
    · obtain rfl : i = 1 := by omega
      rw [h1 rfl, show [ann, nick].getD 1 default = nick from rfl]
  refine ⟨fun x y s => ∃ (i n : Nat) (w' : World), x = .int .i64 n ∧ y = .int .i64 i ∧ s = ⟨w', []⟩ ∧ i ≤ 2 ∧ (i = 0 → n = 10) ∧ (i = 1 → n = 14) ∧ (i = 2 → n = 15 + max (cleanS nick).length 1) ∧ n ≤ 1000 ∧ Hv w0 (row 9 1 vr 2 ([ann, nick].map str) :: H) w',
    fun _ y s => match y with | .int _ z => 2 - z.toNat | _ => 0, ⟨0, 10, wr, by rw [hci]; rfl, rfl, rfl, by omega, fun _ => rfl, fun h => by omega, fun h => by omega, by omega, o3⟩, ?_⟩
  rintro x y s ⟨i, n, w2, rfl, rfl, rfl, hi, h0, h1, h2, hnb, o2⟩
  clear o3 o
  rcases Nat.lt_or_ge i 2 with hlt | hge
  · have hq := hM i hlt n h0 h1
    have hle : ([ann, nick].getD i default).length ≤ 200 := by
      rcases Nat.lt_or_ge i 1 with hj | hj
      · obtain rfl : i = 0 := by omega
        exact (by decide : ann.length ≤ 200)
      · obtain rfl : i = 1 := by omega
        exact hn
    have hcl := clean_len ([ann, nick].getD i default)
    have hnn : n ≤ 14 := by
      rcases Nat.lt_or_ge i 1 with hj | hj
      · have := h0 (by omega); omega
      · have := h1 (by omega); omega
    repeat' (first | refine go ?_ | intro _ | refine And.intro (Sd.mk (by (first | exact fun _ => True.intro | exact And.intro (fun _ => True.intro) (fun _ _ => True.intro) | (intro hq; (first | exact True.intro | omega | (simp only [and_true]; omega) | (simp only [bl] at hq; (try simp only [and_true]); omega) | fail)) | exact And.intro (fun hq => by first | exact True.intro | omega | (simp only [and_true]; omega) | (simp only [bl] at hq; (try simp only [and_true]); omega) | fail) (fun hq hr => by first | exact True.intro | omega | (simp only [and_true]; omega) | (simp only [bl] at hq hr; omega) | (simp only [bl] at hr; omega) | fail) | fail))) ?_ | refine And.intro (by (first | omega | (unfold InR; omega) | decide | (simp only [ll]; omega))) ?_ | (refine And.intro (fun h1 => ?_) (fun h1 => ?_) <;> first | (exact absurd h1 (by decide)) | ((try rw [h1]); (try simp only [bl] at h1))) | dsimp only)
    · refine ⟨⟨i + 1, n + 1 + max (cleanS ([ann, nick].getD i default)).length 1, _, ?_, rfl, rfl, by omega, fun h => by omega, fun h => hq.1 h, fun h => hq.2 h, by omega, Sub.hv (subRow rfl rfl subEnd)⟩, by omega⟩
      congr 1
      omega
    · exfalso; omega
  · have hn2 := h2 (by omega)
    repeat' (first | refine go ?_ | intro _ | refine And.intro (Sd.mk (by (first | exact fun _ => True.intro | exact And.intro (fun _ => True.intro) (fun _ _ => True.intro) | (intro hq; (first | exact True.intro | omega | (simp only [and_true]; omega) | (simp only [bl] at hq; (try simp only [and_true]); omega) | fail)) | exact And.intro (fun hq => by first | exact True.intro | omega | (simp only [and_true]; omega) | (simp only [bl] at hq; (try simp only [and_true]); omega) | fail) (fun hq hr => by first | exact True.intro | omega | (simp only [and_true]; omega) | (simp only [bl] at hq hr; omega) | (simp only [bl] at hr; omega) | fail) | fail))) ?_ | refine And.intro (by (first | omega | (unfold InR; omega) | decide | (simp only [ll]; omega))) ?_ | (refine And.intro (fun h1 => ?_) (fun h1 => ?_) <;> first | (exact absurd h1 (by decide)) | ((try rw [h1]); (try simp only [bl] at h1))) | dsimp only)
    · exfalso; omega
    · have e : ((n : Int) + 2 + (last.length : Int)) = ((longS nick last : Nat) : Int) := by unfold longS; omega
      rw [e]
      exact h _ (Sub.hv subEnd)
instance long_in {last : List UInt8} [rp : RdsF w0 H xp 1 1 [str nick]] [o : Hv w0 H w] : Step (Cl P 95 #[str irc, .int .i64 319, str ann, xp, str last] K ⟨w, ds⟩) ((nick.length ≤ 200 ∧ last.length ≤ 100000) ∧ ∀ w', Hv w0 H w' → K (.int .i64 (longS nick last : Nat)) ⟨w', ds⟩) := ⟨fun ⟨⟨hn, hl⟩, h⟩ => long_ok hn hl h⟩
theorem set_last {α : Type} {M : List α} (h : M ≠ []) (y : α) : M.set (M.length - 1) y = M.dropLast ++ [y] := by
  rcases nil_or_snoc M with rfl | ⟨L, x, rfl⟩
  · exact absurd rfl h
  · simp
theorem get_last {M : List (List UInt8)} (h : M ≠ []) : M.getD (M.length - 1) default = M.getLast?.getD [] := by
  rcases nil_or_snoc M with rfl | ⟨L, x, rfl⟩
  · exact absurd rfl h
  · simp
/-- The rows that the reference keeps. -/
theorem rows_small {nick : List UInt8} {ss : List (List UInt8)} (h : ∀ s ∈ ss, s.length ≤ 60) : ∀ i, i ≤ ss.length → (rowsS nick (ss.take i)).length ≤ i ∧ ∀ x ∈ rowsS nick (ss.take i), x.length ≤ 510 := by
  intro i
  induction i with
  | zero => intro _; exact ⟨Nat.le_refl _, fun x hx => by cases hx⟩
  | succ i ih =>
    intro hi
    obtain ⟨h1, h2⟩ := ih (by omega)
    have hb : (bareS (ss.getD i default)).length ≤ 60 := Nat.le_trans (bare_len _) (h _ (getD_mem (by omega)))
    have e : rowsS nick (ss.take (i + 1)) = refStep nick (rowsS nick (ss.take i)) (ss.getD i default) := by
      unfold rowsS; rw [take_snoc (by omega), List.foldl_append]; rfl
    rw [e]
    unfold refStep
    split
    · exact ⟨by omega, h2⟩
    · split
      · rename_i hc
        refine ⟨by simp; omega, fun x hx => ?_⟩
        rcases List.mem_append.1 hx with hx | hx
        · exact h2 x (List.dropLast_subset _ hx)
        · rw [List.mem_singleton.1 hx]
          have := hc.2
          unfold longS at this
          omega
      · refine ⟨by simp; omega, fun x hx => ?_⟩
        rcases List.mem_append.1 hx with hx | hx
        · exact h2 x hx
        · rw [List.mem_singleton.1 hx]; omega
theorem rows_step {nick : List UInt8} {ss : List (List UInt8)} {i : Nat} (hi : i < ss.length) : rowsS nick (ss.take (i + 1)) = refStep nick (rowsS nick (ss.take i)) (ss.getD i default) := by
  unfold rowsS; rw [take_snoc hi, List.foldl_append]; rfl
def mixR (nick : List UInt8) (R : List (List UInt8)) (j : Nat) : List (List UInt8) := (R.take j).map (lnN nick) ++ R.drop j
theorem mix_len {nick : List UInt8} {R : List (List UInt8)} {j : Nat} (h : j ≤ R.length) : (mixR nick R j).length = R.length := by unfold mixR; simp; omega
theorem mix_get {nick : List UInt8} {R : List (List UInt8)} {j : Nat} (h : j < R.length) : (mixR nick R j).getD j default = R.getD j default := by
  unfold mixR
  rw [List.getD_eq_getElem?_getD, List.getElem?_append_right (by simp; omega)]
  simp [Nat.min_eq_left (Nat.le_of_lt h)]
theorem mix_set {nick : List UInt8} {R : List (List UInt8)} {j : Nat} (h : j < R.length) : (mixR nick R j).set j (lnN nick (R.getD j default)) = mixR nick R (j + 1) := by
  have hl : ((R.take j).map (lnN nick)).length = j := by simp; omega
  have hd9 : R.drop j = R.getD j default :: R.drop (j + 1) := by rw [List.drop_eq_getElem_cons h]; congr 1; simp [h]
  unfold mixR
  rw [take_snoc h, List.map_append, hd9, List.set_append_right _ _ (by omega), hl, Nat.sub_self, List.set_cons_zero, List.append_assoc]
  rfl
theorem mix_end (nick : List UInt8) (R : List (List UInt8)) : mixR nick R R.length = R.map (lnN nick) := by unfold mixR; rw [List.take_length, List.drop_length, List.append_nil]
theorem pack_loop {x : Value} {R : List (List UInt8)} (hn : nick.length ≤ 200) (hr : ∀ r ∈ R, r.length ≤ 510) (hl : R.length ≤ 100) [rp : RdsF w0 H xp 1 1 [str nick]] [o : Hv w0 (row 9 1 x R.length (R.map str) :: H) w]
    (h : ∀ w', Hv w0 (row 9 1 x (R.map (lnN nick)).length ((R.map (lnN nick)).map str) :: H) w' → K x ⟨w', ds⟩) :
    L1 (.int .i64 0) ⟨w, []⟩ (fun N47 x48 s => Bi P .len #[23] 3 #[false] #[x] (fun v49 s => Bo P .lss 3 false false x48 v49 (fun v50 s => CondP v50 (J0 (fun A51 => Dw (fun s => Qt (Ia P 23 x x48) s fun v52 => Qt (Ld P 9 v52) s fun v53 => (Bs P 23 0 #[] (fun v54 s => Ck (Ia P 23 x x48) v52 s ∧ Ck (Ld P 9 v52) v53 s ∧ ((Bi P .append #[23, 23] 23 #[false, false] #[v54, xp] (fun v55 s => Ck (Ia P 23 x x48) v52 s ∧ Ck (Ld P 9 v52) v53 s ∧ (Bs P 23 1 #[(0, v53)] (fun v56 s => Bi P .append #[23, 23] 23 #[false, false] #[v55, v56] (fun v57 s => Cl P 50 #[str irc, .int .i64 319, str ann, v57] (fun v58 s => Qt (Ia P 23 x x48) s fun v59 => Sv P 9 v59 v58 (fun _ s => A51 s) s) s) s) s)) s) ∧ (Bs P 23 1 #[(0, v53)] (fun v60 s => Bi P .append #[23, 23] 23 #[false, false] #[v54, xp] (fun v61 s => Bi P .append #[23, 23] 23 #[false, false] #[v61, v60] (fun v62 s => Cl P 50 #[str irc, .int .i64 319, str ann, v62] (fun v63 s => Qt (Ia P 23 x x48) s fun v64 => Sv P 9 v64 v63 (fun _ s => A51 s) s) s) s) s) s))) s) ∧ (Bs P 23 1 #[(0, v53)] (fun v65 s => Bs P 23 0 #[] (fun v66 s => Bi P .append #[23, 23] 23 #[false, false] #[v66, xp] (fun v67 s => Bi P .append #[23, 23] 23 #[false, false] #[v67, v65] (fun v68 s => Cl P 50 #[str irc, .int .i64 319, str ann, v68] (fun v69 s => Qt (Ia P 23 x x48) s fun v70 => Sv P 9 v70 v69 (fun _ s => A51 s) s) s) s) s) s) s)) s) (fun s => Bo P .add 3 false true x48 (.int .i64 1) (fun v71 s => N47 v71 s) s)) (Ret P (fun w => K x ⟨w, ds⟩) s)) s) s) := by
  have lp : RdsL w0 H xp 1 1 [str nick] := rp.loc
  refine ⟨fun z s => ∃ (j : Nat) (w' : World), z = .int .i64 j ∧ s = ⟨w', []⟩ ∧ j ≤ R.length ∧ Hv w0 (row 9 1 x R.length ((mixR nick R j).map str) :: H) w', fun z s => match z with | .int _ z => R.length - z.toNat | _ => 0, ⟨0, w, rfl, rfl, Nat.zero_le _, o⟩, ?_⟩
  rintro z s ⟨j, w2, rfl, rfl, hj, o2⟩
  clear o
  have hml := mix_len (nick := nick) hj
  rcases Nat.lt_or_ge j R.length with hlt | hge
  · have hg := mix_get (nick := nick) hlt
    have hset := mix_set (nick := nick) hlt
    have hrl : (R.getD j default).length ≤ 510 := hr _ (getD_mem hlt)
    repeat' (first | refine go ?_ | intro _ | refine And.intro (Sd.mk (by (first | exact fun _ => True.intro | exact And.intro (fun _ => True.intro) (fun _ _ => True.intro) | (intro hq; (first | exact True.intro | omega | (simp only [and_true]; omega) | (simp only [bl] at hq; (try simp only [and_true]); omega) | fail)) | exact And.intro (fun hq => by first | exact True.intro | omega | (simp only [and_true]; omega) | (simp only [bl] at hq; (try simp only [and_true]); omega) | fail) (fun hq hr => by first | exact True.intro | omega | (simp only [and_true]; omega) | (simp only [bl] at hq hr; omega) | (simp only [bl] at hr; omega) | fail) | fail))) ?_ | refine And.intro (by (first | omega | (unfold InR; omega) | decide | (simp only [ll]; omega))) ?_ | (refine And.intro (fun h1 => ?_) (fun h1 => ?_) <;> first | (exact absurd h1 (by decide)) | ((try rw [h1]); (try simp only [bl] at h1))) | dsimp only)
    · refine And.intro ?_ ?_
      · repeat' (first | refine go ?_ | intro _ | refine And.intro (Sd.mk (by (first | exact fun _ => True.intro | exact And.intro (fun _ => True.intro) (fun _ _ => True.intro) | (intro hq; (first | exact True.intro | omega | (simp only [and_true]; omega) | (simp only [bl] at hq; (try simp only [and_true]); omega) | fail)) | exact And.intro (fun hq => by first | exact True.intro | omega | (simp only [and_true]; omega) | (simp only [bl] at hq; (try simp only [and_true]); omega) | fail) (fun hq hr => by first | exact True.intro | omega | (simp only [and_true]; omega) | (simp only [bl] at hq hr; omega) | (simp only [bl] at hr; omega) | fail) | fail))) ?_ | refine And.intro (by (first | omega | (unfold InR; omega) | decide | (simp only [ll]; omega))) ?_ | (refine And.intro (fun h1 => ?_) (fun h1 => ?_) <;> first | (exact absurd h1 (by decide)) | ((try rw [h1]); (try simp only [bl] at h1))) | dsimp only)
        refine And.intro ?_ ?_
        · repeat' (first | refine go ?_ | intro _ | refine And.intro (Sd.mk (by (first | exact fun _ => True.intro | exact And.intro (fun _ => True.intro) (fun _ _ => True.intro) | (intro hq; (first | exact True.intro | omega | (simp only [and_true]; omega) | (simp only [bl] at hq; (try simp only [and_true]); omega) | fail)) | exact And.intro (fun hq => by first | exact True.intro | omega | (simp only [and_true]; omega) | (simp only [bl] at hq; (try simp only [and_true]); omega) | fail) (fun hq hr => by first | exact True.intro | omega | (simp only [and_true]; omega) | (simp only [bl] at hq hr; omega) | (simp only [bl] at hr; omega) | fail) | fail))) ?_ | refine And.intro (by (first | omega | (unfold InR; omega) | decide | (simp only [ll]; omega))) ?_ | (refine And.intro (fun h1 => ?_) (fun h1 => ?_) <;> first | (exact absurd h1 (by decide)) | ((try rw [h1]); (try simp only [bl] at h1))) | dsimp only)
          simp only [hg]
          refine And.intro ⟨by decide, by decide, by decide, by simp, fun p hp => ?_⟩ fun w5 o5 => ?_
          · simp only [List.nil_append, List.mem_append, List.mem_singleton] at hp
            rcases hp with rfl | rfl <;> omega
          repeat' (first | refine go ?_ | intro _ | refine And.intro (Sd.mk (by (first | exact fun _ => True.intro | exact And.intro (fun _ => True.intro) (fun _ _ => True.intro) | (intro hq; (first | exact True.intro | omega | (simp only [and_true]; omega) | (simp only [bl] at hq; (try simp only [and_true]); omega) | fail)) | exact And.intro (fun hq => by first | exact True.intro | omega | (simp only [and_true]; omega) | (simp only [bl] at hq; (try simp only [and_true]); omega) | fail) (fun hq hr => by first | exact True.intro | omega | (simp only [and_true]; omega) | (simp only [bl] at hq hr; omega) | (simp only [bl] at hr; omega) | fail) | fail))) ?_ | refine And.intro (by (first | omega | (unfold InR; omega) | decide | (simp only [ll]; omega))) ?_ | (refine And.intro (fun h1 => ?_) (fun h1 => ?_) <;> first | (exact absurd h1 (by decide)) | ((try rw [h1]); (try simp only [bl] at h1))) | dsimp only)
          refine ⟨⟨j + 1, _, rfl, rfl, hlt, Sub.hv (subRow rfl ?_ subEnd)⟩, by omega⟩
          rw [← hset, List.map_set]
          rfl
        · repeat' (first | refine go ?_ | intro _ | refine And.intro (Sd.mk (by (first | exact fun _ => True.intro | exact And.intro (fun _ => True.intro) (fun _ _ => True.intro) | (intro hq; (first | exact True.intro | omega | (simp only [and_true]; omega) | (simp only [bl] at hq; (try simp only [and_true]); omega) | fail)) | exact And.intro (fun hq => by first | exact True.intro | omega | (simp only [and_true]; omega) | (simp only [bl] at hq; (try simp only [and_true]); omega) | fail) (fun hq hr => by first | exact True.intro | omega | (simp only [and_true]; omega) | (simp only [bl] at hq hr; omega) | (simp only [bl] at hr; omega) | fail) | fail))) ?_ | refine And.intro (by (first | omega | (unfold InR; omega) | decide | (simp only [ll]; omega))) ?_ | (refine And.intro (fun h1 => ?_) (fun h1 => ?_) <;> first | (exact absurd h1 (by decide)) | ((try rw [h1]); (try simp only [bl] at h1))) | dsimp only)
          simp only [hg]
          refine And.intro ⟨by decide, by decide, by decide, by simp, fun p hp => ?_⟩ fun w5 o5 => ?_
          · simp only [List.nil_append, List.mem_append, List.mem_singleton] at hp
            rcases hp with rfl | rfl <;> omega
          repeat' (first | refine go ?_ | intro _ | refine And.intro (Sd.mk (by (first | exact fun _ => True.intro | exact And.intro (fun _ => True.intro) (fun _ _ => True.intro) | (intro hq; (first | exact True.intro | omega | (simp only [and_true]; omega) | (simp only [bl] at hq; (try simp only [and_true]); omega) | fail)) | exact And.intro (fun hq => by first | exact True.intro | omega | (simp only [and_true]; omega) | (simp only [bl] at hq; (try simp only [and_true]); omega) | fail) (fun hq hr => by first | exact True.intro | omega | (simp only [and_true]; omega) | (simp only [bl] at hq hr; omega) | (simp only [bl] at hr; omega) | fail) | fail))) ?_ | refine And.intro (by (first | omega | (unfold InR; omega) | decide | (simp only [ll]; omega))) ?_ | (refine And.intro (fun h1 => ?_) (fun h1 => ?_) <;> first | (exact absurd h1 (by decide)) | ((try rw [h1]); (try simp only [bl] at h1))) | dsimp only)
          refine ⟨⟨j + 1, _, rfl, rfl, hlt, Sub.hv (subRow rfl ?_ subEnd)⟩, by omega⟩
          rw [← hset, List.map_set]
          rfl
      · repeat' (first | refine go ?_ | intro _ | refine And.intro (Sd.mk (by (first | exact fun _ => True.intro | exact And.intro (fun _ => True.intro) (fun _ _ => True.intro) | (intro hq; (first | exact True.intro | omega | (simp only [and_true]; omega) | (simp only [bl] at hq; (try simp only [and_true]); omega) | fail)) | exact And.intro (fun hq => by first | exact True.intro | omega | (simp only [and_true]; omega) | (simp only [bl] at hq; (try simp only [and_true]); omega) | fail) (fun hq hr => by first | exact True.intro | omega | (simp only [and_true]; omega) | (simp only [bl] at hq hr; omega) | (simp only [bl] at hr; omega) | fail) | fail))) ?_ | refine And.intro (by (first | omega | (unfold InR; omega) | decide | (simp only [ll]; omega))) ?_ | (refine And.intro (fun h1 => ?_) (fun h1 => ?_) <;> first | (exact absurd h1 (by decide)) | ((try rw [h1]); (try simp only [bl] at h1))) | dsimp only)
        simp only [hg]
        refine And.intro ⟨by decide, by decide, by decide, by simp, fun p hp => ?_⟩ fun w5 o5 => ?_
        · simp only [List.nil_append, List.mem_append, List.mem_singleton] at hp
          rcases hp with rfl | rfl <;> omega
        repeat' (first | refine go ?_ | intro _ | refine And.intro (Sd.mk (by (first | exact fun _ => True.intro | exact And.intro (fun _ => True.intro) (fun _ _ => True.intro) | (intro hq; (first | exact True.intro | omega | (simp only [and_true]; omega) | (simp only [bl] at hq; (try simp only [and_true]); omega) | fail)) | exact And.intro (fun hq => by first | exact True.intro | omega | (simp only [and_true]; omega) | (simp only [bl] at hq; (try simp only [and_true]); omega) | fail) (fun hq hr => by first | exact True.intro | omega | (simp only [and_true]; omega) | (simp only [bl] at hq hr; omega) | (simp only [bl] at hr; omega) | fail) | fail))) ?_ | refine And.intro (by (first | omega | (unfold InR; omega) | decide | (simp only [ll]; omega))) ?_ | (refine And.intro (fun h1 => ?_) (fun h1 => ?_) <;> first | (exact absurd h1 (by decide)) | ((try rw [h1]); (try simp only [bl] at h1))) | dsimp only)
        refine ⟨⟨j + 1, _, rfl, rfl, hlt, Sub.hv (subRow rfl ?_ subEnd)⟩, by omega⟩
        rw [← hset, List.map_set]
        rfl
    · exfalso; omega
  · obtain rfl : j = R.length := by omega
    rw [mix_end] at o2
    repeat' (first | refine go ?_ | intro _ | refine And.intro (Sd.mk (by (first | exact fun _ => True.intro | exact And.intro (fun _ => True.intro) (fun _ _ => True.intro) | (intro hq; (first | exact True.intro | omega | (simp only [and_true]; omega) | (simp only [bl] at hq; (try simp only [and_true]); omega) | fail)) | exact And.intro (fun hq => by first | exact True.intro | omega | (simp only [and_true]; omega) | (simp only [bl] at hq; (try simp only [and_true]); omega) | fail) (fun hq hr => by first | exact True.intro | omega | (simp only [and_true]; omega) | (simp only [bl] at hq hr; omega) | (simp only [bl] at hr; omega) | fail) | fail))) ?_ | refine And.intro (by (first | omega | (unfold InR; omega) | decide | (simp only [ll]; omega))) ?_ | (refine And.intro (fun h1 => ?_) (fun h1 => ?_) <;> first | (exact absurd h1 (by decide)) | ((try rw [h1]); (try simp only [bl] at h1))) | dsimp only)
    · exfalso; omega
    · exact h _ (Sub.hv (subRow (by simp) rfl subEnd))
variable {cp : Value} {ss : List (List UInt8)}
theorem packR_ok (hn : nick.length ≤ 200) (hss : ∀ s ∈ ss, s.length ≤ 60) (hsl : ss.length ≤ 40) [rp : RdsF w0 H xp 1 1 [str nick]] [rc : RdsF w0 H cp 1 ss.length (ss.map str)] [o : Hv w0 H w]
    (h : ∀ v w', Hv w0 (row 9 1 v ((endR (rowsS nick ss)).map (lnN nick)).length (((endR (rowsS nick ss)).map (lnN nick)).map str) :: H) w' → K v ⟨w', ds⟩) :
    Cl P 56 #[str irc, .int .i64 319, str ann, xp, cp] K ⟨w, ds⟩ := by
  refine cl_ok (c56 (K := fun v w' => K v ⟨w', ds⟩) ?_ fun v w' h => ⟨v, rfl, h⟩)
  have lp : RdsL w0 H xp 1 1 [str nick] := rp.loc
  have lc : RdsL w0 H cp 1 ss.length (ss.map str) := rc.loc
  unfold D56
  repeat' (first | refine go ?_ | intro _ | refine And.intro (Sd.mk (by (first | exact fun _ => True.intro | exact And.intro (fun _ => True.intro) (fun _ _ => True.intro) | (intro hq; (first | exact True.intro | omega | (simp only [and_true]; omega) | (simp only [bl] at hq; (try simp only [and_true]); omega) | fail)) | exact And.intro (fun hq => by first | exact True.intro | omega | (simp only [and_true]; omega) | (simp only [bl] at hq; (try simp only [and_true]); omega) | fail) (fun hq hr => by first | exact True.intro | omega | (simp only [and_true]; omega) | (simp only [bl] at hq hr; omega) | (simp only [bl] at hr; omega) | fail) | fail))) ?_ | refine And.intro (by (first | omega | (unfold InR; omega) | decide | (simp only [ll]; omega))) ?_ | (refine And.intro (fun h1 => ?_) (fun h1 => ?_) <;> first | (exact absurd h1 (by decide)) | ((try rw [h1]); (try simp only [bl] at h1))) | dsimp only)
  have hsmall := rows_small (nick := nick) hss
  refine ⟨fun x y s => ∃ (i : Nat) (w' : World), y = .int .i64 i ∧ s = ⟨w', []⟩ ∧ i ≤ ss.length ∧ Hv w0 (row 9 1 x (rowsS nick (ss.take i)).length ((rowsS nick (ss.take i)).map str) :: H) w',
    fun _ y s => match y with | .int _ z => ss.length - z.toNat | _ => 0, ⟨0, w, rfl, rfl, Nat.zero_le _, Hv.nilRow 9 1 o⟩, ?_⟩
  rintro x y s ⟨i, w2, rfl, rfl, hi, o2⟩
  clear o
  obtain ⟨hs1, hs2⟩ := hsmall i hi
  rcases Nat.lt_or_ge i ss.length with hlt | hge
  · have hst := rows_step (nick := nick) hlt
    have hbl : (bareS (ss.getD i default)).length ≤ 60 := Nat.le_trans (bare_len _) (hss _ (getD_mem hlt))
    have hsl2 : (ss.getD i default).length ≤ 60 := hss _ (getD_mem hlt)
    generalize rowsS nick (ss.take i) = M at *
    have hgl : (M.getD (M.length - 1) default).length ≤ 510 := by
      rcases Nat.lt_or_ge (M.length - 1) M.length with hj | hj
      · exact hs2 _ (getD_mem hj)
      · rw [List.getD_eq_getElem?_getD, List.getElem?_eq_none hj]; exact Nat.zero_le _
    have hmt : ((M.length : Int) - 1).toNat = M.length - 1 := by omega
    unfold refStep at hst
    repeat' (first | refine go ?_ | intro _ | refine And.intro (Sd.mk (by (first | exact fun _ => True.intro | exact And.intro (fun _ => True.intro) (fun _ _ => True.intro) | (intro hq; (first | exact True.intro | omega | (simp only [and_true]; omega) | (simp only [bl] at hq; (try simp only [and_true]); omega) | fail)) | exact And.intro (fun hq => by first | exact True.intro | omega | (simp only [and_true]; omega) | (simp only [bl] at hq; (try simp only [and_true]); omega) | fail) (fun hq hr => by first | exact True.intro | omega | (simp only [and_true]; omega) | (simp only [bl] at hq hr; omega) | (simp only [bl] at hr; omega) | fail) | fail))) ?_ | refine And.intro (by (first | omega | (unfold InR; omega) | decide | (simp only [ll]; omega))) ?_ | (refine And.intro (fun h1 => ?_) (fun h1 => ?_) <;> first | (exact absurd h1 (by decide)) | ((try rw [h1]); (try simp only [bl] at h1))) | dsimp only)
    · rw [if_pos h1] at hst
      exact ⟨⟨i + 1, _, rfl, rfl, hlt, Sub.hv (subRow (by rw [hst]) (by rw [hst]) subEnd)⟩, by omega⟩
    · rw [if_neg ‹¬ bareS (ss.getD i default) = []›] at hst
      have hMn : M ≠ [] := fun e => by rw [e] at h1; exact absurd h1 (by decide)
      have hgl2 := get_last hMn
      rw [hmt]
      refine And.intro (by simp only [List.length_cons, List.length_nil]; omega) ?_
      repeat' (first | refine go ?_ | intro _ | refine And.intro (Sd.mk (by (first | exact fun _ => True.intro | exact And.intro (fun _ => True.intro) (fun _ _ => True.intro) | (intro hq; (first | exact True.intro | omega | (simp only [and_true]; omega) | (simp only [bl] at hq; (try simp only [and_true]); omega) | fail)) | exact And.intro (fun hq => by first | exact True.intro | omega | (simp only [and_true]; omega) | (simp only [bl] at hq; (try simp only [and_true]); omega) | fail) (fun hq hr => by first | exact True.intro | omega | (simp only [and_true]; omega) | (simp only [bl] at hq hr; omega) | (simp only [bl] at hr; omega) | fail) | fail))) ?_ | refine And.intro (by (first | omega | (unfold InR; omega) | decide | (simp only [ll]; omega))) ?_ | (refine And.intro (fun h1 => ?_) (fun h1 => ?_) <;> first | (exact absurd h1 (by decide)) | ((try rw [h1]); (try simp only [bl] at h1))) | dsimp only)
      · rw [hmt]
        refine And.intro (by simp only [List.length_cons, List.length_nil]; omega) ?_
        repeat' (first | refine go ?_ | intro _ | refine And.intro (Sd.mk (by (first | exact fun _ => True.intro | exact And.intro (fun _ => True.intro) (fun _ _ => True.intro) | (intro hq; (first | exact True.intro | omega | (simp only [and_true]; omega) | (simp only [bl] at hq; (try simp only [and_true]); omega) | fail)) | exact And.intro (fun hq => by first | exact True.intro | omega | (simp only [and_true]; omega) | (simp only [bl] at hq; (try simp only [and_true]); omega) | fail) (fun hq hr => by first | exact True.intro | omega | (simp only [and_true]; omega) | (simp only [bl] at hq hr; omega) | (simp only [bl] at hr; omega) | fail) | fail))) ?_ | refine And.intro (by (first | omega | (unfold InR; omega) | decide | (simp only [ll]; omega))) ?_ | (refine And.intro (fun h1 => ?_) (fun h1 => ?_) <;> first | (exact absurd h1 (by decide)) | ((try rw [h1]); (try simp only [bl] at h1))) | dsimp only)
        rw [hgl2] at h1
        rw [if_pos ⟨hMn, by omega⟩] at hst
        refine ⟨⟨i + 1, _, rfl, rfl, hlt, Sub.hv (subRow (by rw [hst, ← set_last hMn, List.length_set]) (by rw [hst, ← set_last hMn, List.map_set, ← hgl2, hmt]) subEnd)⟩, by omega⟩
      · rw [hgl2] at h1
        rw [if_neg (fun h => by have := h.2; omega)] at hst
        exact ⟨⟨i + 1, _, rfl, rfl, hlt, Sub.hv (subRow (by rw [hst]; simp) (by rw [hst]; simp) subEnd)⟩, by omega⟩
    · rw [if_neg ‹¬ bareS (ss.getD i default) = []›] at hst
      obtain rfl : M = [] := List.eq_nil_of_length_eq_zero (by omega)
      rw [if_neg (fun h => h.1 rfl)] at hst
      exact ⟨⟨i + 1, _, rfl, rfl, hlt, Sub.hv (subRow (by rw [hst]; rfl) (by rw [hst]; rfl) subEnd)⟩, by omega⟩
    · exfalso; omega
  · obtain rfl : i = ss.length := by omega
    rw [List.take_length] at o2 hs1 hs2
    clear hsmall
    generalize rowsS nick ss = M at *
    repeat' (first | refine go ?_ | intro _ | refine And.intro (Sd.mk (by (first | exact fun _ => True.intro | exact And.intro (fun _ => True.intro) (fun _ _ => True.intro) | (intro hq; (first | exact True.intro | omega | (simp only [and_true]; omega) | (simp only [bl] at hq; (try simp only [and_true]); omega) | fail)) | exact And.intro (fun hq => by first | exact True.intro | omega | (simp only [and_true]; omega) | (simp only [bl] at hq; (try simp only [and_true]); omega) | fail) (fun hq hr => by first | exact True.intro | omega | (simp only [and_true]; omega) | (simp only [bl] at hq hr; omega) | (simp only [bl] at hr; omega) | fail) | fail))) ?_ | refine And.intro (by (first | omega | (unfold InR; omega) | decide | (simp only [ll]; omega))) ?_ | (refine And.intro (fun h1 => ?_) (fun h1 => ?_) <;> first | (exact absurd h1 (by decide)) | ((try rw [h1]); (try simp only [bl] at h1))) | dsimp only)
    · exfalso; omega
    · rename_i v3 w3 o3
      obtain rfl : M = [] := List.eq_nil_of_length_eq_zero (by omega)
      have o9 : Hv w0 (row 9 1 v3 ([[]] : List (List UInt8)).length (([[]] : List (List UInt8)).map str) :: H) w3 := Sub.hv (subRow rfl rfl subEnd)
      clear o3 o2
      exact pack_loop (R := [[]]) hn (fun r hr => by rw [List.mem_singleton.1 hr]; exact Nat.zero_le _) (by decide) (fun w' o' => h _ _ o')
    · have hMn : M ≠ [] := fun e => h1 (by rw [e]; rfl)
      rw [show endR M = M from if_neg hMn] at h
      exact pack_loop hn hs2 (by omega) (fun w' o' => h _ _ o')
end
end Go.Proofs.YtapammcnagjigaaGreatDoor

