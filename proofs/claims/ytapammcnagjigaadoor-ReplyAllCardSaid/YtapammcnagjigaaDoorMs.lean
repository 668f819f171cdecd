import Derived.Test.YtapammcnagjigaaDoorMr
set_option linter.all false
namespace Go.Proofs.YtapammcnagjigaaDoor
open Go.Vx Go.Lib
/-! ReplyAll -/
def wordAt (bs : List UInt8) (i : Nat) : List UInt8 := List.replicate ((bs.getD i default).toNat % 60 + 1) (UInt8.ofNat (97 + i % 26))
def wordsOf (bs : List UInt8) (n : Nat) : List (List UInt8) := (List.range n).map (wordAt bs)
theorem words_len (bs : List UInt8) (n : Nat) : (wordsOf bs n).length = n := by simp [wordsOf]
theorem words_snoc (bs : List UInt8) (n : Nat) : wordsOf bs (n + 1) = wordsOf bs n ++ [wordAt bs n] := by simp [wordsOf, List.range_succ]
theorem word_gd (bs : List UInt8) (i : Nat) : gdW (wordAt bs i) := by
  have h : ∀ k, k < 26 → gdB (UInt8.ofNat (97 + k)) = true := by decide
  refine ⟨fun b hb => ?_, ?_, by simp [wordAt]; omega⟩
  · rw [(List.mem_replicate.1 hb).2]; exact h _ (by omega)
  · intro e; have := congrArg List.length e; simp [wordAt] at this
theorem words_gd (bs : List UInt8) (n : Nat) : ∀ w ∈ wordsOf bs n, gdW w := fun w hw => by
  obtain ⟨i, _, rfl⟩ := List.mem_map.1 hw
  exact word_gd bs i
theorem back_snoc (A : List (List UInt8)) (x : List UInt8) : backS (A ++ [x]) = backS A ++ x ++ [32] := by simp [backS]
theorem back_len {A : List (List UInt8)} (h : ∀ x ∈ A, x.length ≤ 489) : (backS A).length ≤ 490 * A.length := by
  induction A with
  | nil => simp [backS]
  | cons x A ih =>
    have h1 := ih fun y hy => h y (List.mem_cons_of_mem _ hy)
    have h2 := h x (List.mem_cons_self ..)
    have : (backS (x :: A)).length = x.length + 1 + (backS A).length := by simp [backS]; omega
    simp only [List.length_cons]; omega
theorem word_at {X : List UInt8} {k : Nat} (hk : k ≤ X.length) (hn : (32 : UInt8) ∉ X.take k) (he : X.length ≤ k ∨ X.getD k default = 32) : (wordB X).length = k := by
  have h1 := (word_app hn (z := X.drop k) (by
    rcases Nat.lt_or_ge k X.length with h | h
    · rcases he with he | he
      · omega
      · exact .inr ⟨X.drop (k + 1), by rw [drop_cons h, he]⟩
    · exact .inl (List.drop_of_length_le h))).1
  rw [List.take_append_drop] at h1
  rw [h1, List.length_take]; omega
set_option maxRecDepth 20000 in
set_option synthInstance.maxSize 100000 in
set_option synthInstance.maxHeartbeats 4000000 in
theorem rall_ok {w : World} {xv : Value} {bs : List UInt8} (hp : Arg w xv 1 bs.length (bs.map byteV)) :
    Calls P 8 #[xv] w fun e w' => e = .returned (.bool true) ∧ Hv w [] w' := by
  refine c8 (K := fun v w' => v = .bool true ∧ Hv w [] w') ?_ fun v w' h => ⟨by rw [h.1], h.2⟩
  have o := Hv.begin w
  have one1 : One w xv := inferInstance
  have one2 : ∀ w, One w xv := fun w => ⟨one1.eq⟩
  unfold D8
  dsimp only
  repeat' (first | refine go ?_ | intro _ | refine And.intro (Sd.mk (by (first | exact fun _ => True.intro | exact And.intro (fun _ => True.intro) (fun _ _ => True.intro) | (intro hq; (first | exact True.intro | omega | (simp only [and_true]; omega) | (simp only [bl] at hq; (try simp only [and_true]); omega) | fail)) | exact And.intro (fun hq => by first | exact True.intro | omega | (simp only [and_true]; omega) | (simp only [bl] at hq; (try simp only [and_true]); omega) | fail) (fun hq hr => by first | exact True.intro | omega | (simp only [and_true]; omega) | (simp only [bl] at hq hr; omega) | (simp only [bl] at hr; omega) | fail) | fail))) ?_ | refine And.intro (by (first | omega | (unfold InR; omega) | decide | (simp only [ll]; omega))) ?_ | (refine And.intro (fun h1 => ?_) (fun h1 => ?_) <;> first | (exact absurd h1 (by decide)) | ((try rw [h1]); (try simp only [bl] at h1))) | dsimp only)
  · exact ⟨rfl, Sub.hv subEnd⟩
  rename_i w2 _ o2
  refine ⟨fun x y z s => ∃ (i : Nat) (w' : World), y = str (backS (wordsOf bs i)) ∧ z = .int .i64 i ∧ s = ⟨w', []⟩ ∧ i ≤ bs.length ∧ Hv w [row 9 1 x (wordsOf bs i).length ((wordsOf bs i).map str)] w',
    fun _ _ z s => match z with | .int _ z => bs.length - z.toNat | _ => 0, ⟨0, w2, rfl, rfl, rfl, Nat.zero_le _, Hv.nilRow 9 1 (Sub.hv subEnd)⟩, ?_⟩
  rintro x y z s ⟨i, w3, rfl, rfl, rfl, hi, o3⟩
  clear o o2
  have hbl : (backS (wordsOf bs i)).length ≤ 490 * (wordsOf bs i).length := back_len fun x hx => (words_gd bs i x hx).gdL.l
  rw [words_len] at hbl
  rcases Nat.lt_or_ge i bs.length with hlt | hge
  · repeat' (first | refine go ?_ | intro _ | refine And.intro (Sd.mk (by (first | exact fun _ => True.intro | exact And.intro (fun _ => True.intro) (fun _ _ => True.intro) | (intro hq; (first | exact True.intro | omega | (simp only [and_true]; omega) | (simp only [bl] at hq; (try simp only [and_true]); omega) | fail)) | exact And.intro (fun hq => by first | exact True.intro | omega | (simp only [and_true]; omega) | (simp only [bl] at hq; (try simp only [and_true]); omega) | fail) (fun hq hr => by first | exact True.intro | omega | (simp only [and_true]; omega) | (simp only [bl] at hq hr; omega) | (simp only [bl] at hr; omega) | fail) | fail))) ?_ | refine And.intro (by (first | omega | (unfold InR; omega) | decide | (simp only [ll]; omega))) ?_ | (refine And.intro (fun h1 => ?_) (fun h1 => ?_) <;> first | (exact absurd h1 (by decide)) | ((try rw [h1]); (try simp only [bl] at h1))) | dsimp only)
    · have hq : ((bs.getD i default).toNat : Int).tmod 60 = (((bs.getD i default).toNat % 60 : Nat) : Int) := by rw [Int.tmod_eq_emod_of_nonneg (by omega)]; omega
      have hq2 : (97 : Int) + (i : Int).tmod 26 = ((97 + i % 26 : Nat) : Int) := by rw [Int.tmod_eq_emod_of_nonneg (by omega)]; omega
      have hwl : (wordAt bs i).length ≤ 60 := (word_gd bs i).l
      refine ⟨fun y z s => ∃ (k : Nat) (w' : World), y = str (List.replicate k (UInt8.ofNat (97 + i % 26))) ∧ z = .int .i64 k ∧ s = ⟨w', []⟩ ∧ k ≤ (bs.getD i default).toNat % 60 + 1 ∧ Hv w [row 9 1 x (wordsOf bs i).length ((wordsOf bs i).map str)] w', fun _ y s => match y with | .int _ z => 61 - z.toNat | _ => 0, ⟨0, w3, rfl, rfl, rfl, by omega, o3⟩, ?_⟩
      rintro y z s ⟨k, w4, rfl, rfl, rfl, hk, o4⟩
      clear o3
      have hrl : (List.replicate k (UInt8.ofNat (97 + i % 26))).length = k := List.length_replicate
      rcases Nat.lt_or_ge k ((bs.getD i default).toNat % 60 + 1) with hlt2 | hge2
      · repeat' (first | refine go ?_ | intro _ | refine And.intro (Sd.mk (by (first | exact fun _ => True.intro | exact And.intro (fun _ => True.intro) (fun _ _ => True.intro) | (intro hq; (first | exact True.intro | omega | (simp only [and_true]; omega) | (simp only [bl] at hq; (try simp only [and_true]); omega) | fail)) | exact And.intro (fun hq => by first | exact True.intro | omega | (simp only [and_true]; omega) | (simp only [bl] at hq; (try simp only [and_true]); omega) | fail) (fun hq hr => by first | exact True.intro | omega | (simp only [and_true]; omega) | (simp only [bl] at hq hr; omega) | (simp only [bl] at hr; omega) | fail) | fail))) ?_ | refine And.intro (by (first | omega | (unfold InR; omega) | decide | (simp only [ll]; omega))) ?_ | (refine And.intro (fun h1 => ?_) (fun h1 => ?_) <;> first | (exact absurd h1 (by decide)) | ((try rw [h1]); (try simp only [bl] at h1))) | dsimp only)
        · refine ⟨⟨k + 1, _, ?_, rfl, rfl, by omega, Sub.hv (subA subEnd)⟩, by omega⟩
          have e5 : ((97 : Int) + (i : Int).tmod 26).toNat = 97 + i % 26 := by omega
          rw [e5, ← List.replicate_succ']
        · exfalso; omega
      · obtain rfl : k = (bs.getD i default).toNat % 60 + 1 := by omega
        have e4 : List.replicate ((bs.getD i default).toNat % 60 + 1) (UInt8.ofNat (97 + i % 26)) = wordAt bs i := rfl
        rw [e4] at hrl ⊢
        repeat' (first | refine go ?_ | intro _ | refine And.intro (Sd.mk (by (first | exact fun _ => True.intro | exact And.intro (fun _ => True.intro) (fun _ _ => True.intro) | (intro hq; (first | exact True.intro | omega | (simp only [and_true]; omega) | (simp only [bl] at hq; (try simp only [and_true]); omega) | fail)) | exact And.intro (fun hq => by first | exact True.intro | omega | (simp only [and_true]; omega) | (simp only [bl] at hq; (try simp only [and_true]); omega) | fail) (fun hq hr => by first | exact True.intro | omega | (simp only [and_true]; omega) | (simp only [bl] at hq hr; omega) | (simp only [bl] at hr; omega) | fail) | fail))) ?_ | refine And.intro (by (first | omega | (unfold InR; omega) | decide | (simp only [ll]; omega))) ?_ | (refine And.intro (fun h1 => ?_) (fun h1 => ?_) <;> first | (exact absurd h1 (by decide)) | ((try rw [h1]); (try simp only [bl] at h1))) | dsimp only)
        · exfalso; omega
        · refine And.intro (by rw [words_len]; omega) ?_
          intro v5 w5 o5
          repeat' (first | refine go ?_ | intro _ | refine And.intro (Sd.mk (by (first | exact fun _ => True.intro | exact And.intro (fun _ => True.intro) (fun _ _ => True.intro) | (intro hq; (first | exact True.intro | omega | (simp only [and_true]; omega) | (simp only [bl] at hq; (try simp only [and_true]); omega) | fail)) | exact And.intro (fun hq => by first | exact True.intro | omega | (simp only [and_true]; omega) | (simp only [bl] at hq; (try simp only [and_true]); omega) | fail) (fun hq hr => by first | exact True.intro | omega | (simp only [and_true]; omega) | (simp only [bl] at hq hr; omega) | (simp only [bl] at hr; omega) | fail) | fail))) ?_ | refine And.intro (by (first | omega | (unfold InR; omega) | decide | (simp only [ll]; omega))) ?_ | (refine And.intro (fun h1 => ?_) (fun h1 => ?_) <;> first | (exact absurd h1 (by decide)) | ((try rw [h1]); (try simp only [bl] at h1))) | dsimp only)
          refine ⟨⟨i + 1, _, ?_, rfl, rfl, by omega, ?_⟩, by omega⟩
          · rw [words_snoc, back_snoc]; simp
          · rw [words_snoc]
            exact Sub.hv (subRow (by simp) (by simp) subEnd)
    · exfalso; omega
  · obtain rfl : i = bs.length := by omega
    repeat' (first | refine go ?_ | intro _ | refine And.intro (Sd.mk (by (first | exact fun _ => True.intro | exact And.intro (fun _ => True.intro) (fun _ _ => True.intro) | (intro hq; (first | exact True.intro | omega | (simp only [and_true]; omega) | (simp only [bl] at hq; (try simp only [and_true]); omega) | fail)) | exact And.intro (fun hq => by first | exact True.intro | omega | (simp only [and_true]; omega) | (simp only [bl] at hq; (try simp only [and_true]); omega) | fail) (fun hq hr => by first | exact True.intro | omega | (simp only [and_true]; omega) | (simp only [bl] at hq hr; omega) | (simp only [bl] at hr; omega) | fail) | fail))) ?_ | refine And.intro (by (first | omega | (unfold InR; omega) | decide | (simp only [ll]; omega))) ?_ | (refine And.intro (fun h1 => ?_) (fun h1 => ?_) <;> first | (exact absurd h1 (by decide)) | ((try rw [h1]); (try simp only [bl] at h1))) | dsimp only)
    · exfalso; omega
    obtain ⟨L, hL, hv⟩ := pack_law (ws := wordsOf bs bs.length) (fun e => by have := congrArg List.length e; rw [words_len, List.length_nil] at this; omega) (words_gd bs bs.length)
    rename_i hd _ o4 b5 w5 o5
    have oh0 : One w5 hd := inferInstance
    have ox0 : One w5 x := inferInstance
    have oh : ∀ w, One w hd := fun w => ⟨oh0.eq⟩
    have ox : ∀ w, One w x := fun w => ⟨ox0.eq⟩
    have lx : RdsL w [row 9 1 x (wordsOf bs bs.length).length ((wordsOf bs bs.length).map str)] x 1 (wordsOf bs bs.length).length ((wordsOf bs bs.length).map str) := ⟨fun w' o' => inferInstance⟩
    have lh : RdsL w [row 9 1 hd 2 [str [61], str [35, 99]]] hd 1 2 [str [61], str [35, 99]] := ⟨fun w' o' => inferInstance⟩
    have hxl : (wordsOf bs bs.length).length = bs.length := words_len _ _
    refine pack_ok (w0 := w) (R := [row 9 1 hd 2 [str [61], str [35, 99]]]) (T := [box b5 22 [x], row 9 1 x (wordsOf bs bs.length).length ((wordsOf bs bs.length).map str)]) (g := 66) (cap := [.pointer (some ⟨b5, 0, none⟩)]) (ss := wordsOf bs bs.length) (server := [105, 114, 99, 46, 120]) (tgt := [97, 110, 110]) (hd := [[61], [35, 99]]) (c := 353) (hv := hd) ?_ ?_ ?_ ?_ ?_ ?_
    · intro b1 b2 b3 b4
      exact ⟨⟨by dsimp only; omega, by dsimp only; omega⟩, (by decide : ([105, 114, 99, 46, 120] : List UInt8).length ≤ 1000), (by decide : ([97, 110, 110] : List UInt8).length ≤ 900), (by decide : ([[61], [35, 99]] : List (List UInt8)).length ≤ 13), (by decide : ∀ p ∈ ([[61], [35, 99]] : List (List UInt8)), p.length ≤ 900), lh, oh⟩
    · intro s hs
      have := (words_gd bs _ s hs).l
      omega
    · rw [words_len]; omega
    · exact listed_seq b5
    · refine Hv.closes ?_
      dsimp only [List.cons_append, List.nil_append]
      exact Sub.hv (subRow rfl rfl (subBox rfl (subRow rfl rfl subEnd)))
    intro v6 w6 o6
    have hL2 : packS (lineS [105, 114, 99, 46, 120] 353 [97, 110, 110] [[61], [35, 99]]) (wordsOf bs bs.length) = L.map lnA := hL
    rw [hL2] at o6
    have hbk : backS L = backS (wordsOf bs bs.length) := hv.b
    have hml : (L.map lnA).length = L.length := List.length_map ..
    have hmg : ∀ j, j < L.length → (L.map lnA).getD j default = lnA (L.getD j default) := fun j hj => by
      rw [List.getD_eq_getElem?_getD, List.getElem?_map, getD_at hj]; rfl
    refine ⟨fun y z s => ∃ (j : Nat) (w' : World), y = str (backS (L.take j)) ∧ z = .int .i64 j ∧ s = ⟨w', []⟩ ∧ j ≤ L.length ∧ Hv w [row 9 1 v6 (L.map lnA).length ((L.map lnA).map str)] w', fun _ z s => match z with | .int _ z => L.length - z.toNat | _ => 0, ⟨0, w6, rfl, rfl, rfl, Nat.zero_le _, Sub.hv (subA subEnd)⟩, ?_⟩
    rintro y z s ⟨j, w7, rfl, rfl, rfl, hj, o7⟩
    have hbt : (backS (L.take j)).length ≤ (backS L).length := by
      conv => rhs; rw [← List.take_append_drop j L]
      unfold backS; rw [List.flatMap_append, List.length_append]; omega
    rw [hbk] at hbt
    clear o5 o6 o4
    rcases Nat.lt_or_ge j L.length with hlt | hge
    · have hx := hv.g _ (getD_mem hlt)
      have hps := lnA_parse hx
      have hlx := (lnA_eq hx).2.2
      have hxl := hx.l
      obtain ⟨b, t, ex, _⟩ := hx.h
      repeat ((fail_if_success (refine j1_any (fun _ _ => True) ?_ ?_)); (first | refine go ?_ | intro _ | refine And.intro (Sd.mk (by (first | exact fun _ => True.intro | exact And.intro (fun _ => True.intro) (fun _ _ => True.intro) | (intro hq; (first | exact True.intro | omega | (simp only [and_true]; omega) | (simp only [bl] at hq; (try simp only [and_true]); omega) | fail)) | exact And.intro (fun hq => by first | exact True.intro | omega | (simp only [and_true]; omega) | (simp only [bl] at hq; (try simp only [and_true]); omega) | fail) (fun hq hr => by first | exact True.intro | omega | (simp only [and_true]; omega) | (simp only [bl] at hq hr; omega) | (simp only [bl] at hr; omega) | fail) | fail))) ?_ | refine And.intro (by (first | omega | (unfold InR; omega) | decide | (simp only [ll]; omega))) ?_ | dsimp only))
      refine And.intro (fun _ => ?_) (fun h1 => ?_)
      · repeat ((fail_if_success (refine j1_any (fun _ _ => True) ?_ ?_)); (first | refine go ?_ | intro _ | refine And.intro (Sd.mk (by (first | exact fun _ => True.intro | exact And.intro (fun _ => True.intro) (fun _ _ => True.intro) | (intro hq; (first | exact True.intro | omega | (simp only [and_true]; omega) | (simp only [bl] at hq; (try simp only [and_true]); omega) | fail)) | exact And.intro (fun hq => by first | exact True.intro | omega | (simp only [and_true]; omega) | (simp only [bl] at hq; (try simp only [and_true]); omega) | fail) (fun hq hr => by first | exact True.intro | omega | (simp only [and_true]; omega) | (simp only [bl] at hq hr; omega) | (simp only [bl] at hr; omega) | fail) | fail))) ?_ | refine And.intro (by (first | omega | (unfold InR; omega) | decide | (simp only [ll]; omega))) ?_ | dsimp only))
        rename_i o8
        rw [hmg j hlt, hps] at o8 ⊢
        dsimp only [msgA] at o8 ⊢
        have hvc := hv.c (j - 1)
        have hLb := (show Rds w7 v6 1 (L.map lnA).length _ from inferInstance).le
        simp only [maxLen] at hLb
        rw [hml] at hLb
        have hme := hmg j hlt
        have hm1 := hmg (j - 1) (by omega)
        have htk : L.take (j + 1) = L.take j ++ [L.getD j default] := take_snoc hlt
        have e3 : ([[97, 110, 110], [61], [35, 99], L.getD j default] : List (List UInt8)).getD 3 default = L.getD j default := rfl
        have hle : (lnA (L.getD j default)).length ≤ 510 := by rw [hlx]; split <;> omega
        have hn0 : L.getD j default ≠ [] := by rw [ex]; simp
        generalize hX : L.getD j default = X at *
        repeat' (first | refine go ?_ | intro _ | refine And.intro (Sd.mk (by (first | exact fun _ => True.intro | exact And.intro (fun _ => True.intro) (fun _ _ => True.intro) | (intro hq; (first | exact True.intro | omega | (simp only [and_true]; omega) | (simp only [bl] at hq; (try simp only [and_true]); omega) | fail)) | exact And.intro (fun hq => by first | exact True.intro | omega | (simp only [and_true]; omega) | (simp only [bl] at hq; (try simp only [and_true]); omega) | fail) (fun hq hr => by first | exact True.intro | omega | (simp only [and_true]; omega) | (simp only [bl] at hq hr; omega) | (simp only [bl] at hr; omega) | fail) | fail))) ?_ | refine And.intro (by (first | omega | (unfold InR; omega) | decide | (simp only [ll]; omega))) ?_ | (refine And.intro (fun h1 => ?_) (fun h1 => ?_) <;> first | (exact absurd h1 (by decide)) | ((try rw [h1]); (try simp only [bl] at h1))) | dsimp only)
        · exfalso; rw [hme] at h1; omega
        · refine ⟨fun y s => ∃ (k : Nat), y = .int .i64 k ∧ s = ⟨_, []⟩ ∧ k ≤ X.length ∧ (32 : UInt8) ∉ X.take k, fun y s => match y with | .int _ z => X.length - z.toNat | _ => 0, ⟨0, rfl, rfl, Nat.zero_le _, by simp⟩, ?_⟩
          rintro y s ⟨k, rfl, rfl, hk, hno⟩
          have e32 : ∀ k, (([[97, 110, 110], [61], [35, 99], X] : List (List UInt8)).getD 3 default).getD k default = X.getD k default := fun _ => rfl
          have e3l : (([[97, 110, 110], [61], [35, 99], X] : List (List UInt8)).getD 3 default).length = X.length := rfl
          repeat' (first | refine go ?_ | intro _ | refine And.intro (Sd.mk (by (first | exact fun _ => True.intro | exact And.intro (fun _ => True.intro) (fun _ _ => True.intro) | (intro hq; (first | exact True.intro | omega | (simp only [and_true]; omega) | (simp only [bl] at hq; (try simp only [and_true]); omega) | fail)) | exact And.intro (fun hq => by first | exact True.intro | omega | (simp only [and_true]; omega) | (simp only [bl] at hq; (try simp only [and_true]); omega) | fail) (fun hq hr => by first | exact True.intro | omega | (simp only [and_true]; omega) | (simp only [bl] at hq hr; omega) | (simp only [bl] at hr; omega) | fail) | fail))) ?_ | refine And.intro (by (first | omega | (unfold InR; omega) | decide | (simp only [ll]; omega))) ?_ | (refine And.intro (fun h1 => ?_) (fun h1 => ?_) <;> first | (exact absurd h1 (by decide)) | ((try rw [h1]); (try simp only [bl] at h1))) | dsimp only)
          · refine ⟨⟨k + 1, rfl, rfl, by omega, ?_⟩, by omega⟩
            rw [take_snoc (by omega)]
            intro hm
            rcases List.mem_append.1 hm with hm | hm
            · exact hno hm
            · exact h1 (List.mem_singleton.1 hm).symm
          · have hwk : (wordB X).length = k := word_at hk hno (by exact .inr h1)
            have hvd : 510 ≤ (lnA (L.getD (j - 1) default)).length + 1 + (wordB (L.getD (j - 1 + 1) default)).length := hvc (by omega)
            rw [show j - 1 + 1 = j by omega, hX, hwk] at hvd
            have hjt : ((j : Int) - 1).toNat = j - 1 := by omega
            have hpl : (lnA (L.getD (j - 1) default)).length ≤ 510 := by
              have h9 := hv.g _ (getD_mem (l := L) (k := j - 1) (by omega))
              rw [(lnA_eq h9).2.2]; have := h9.l; split <;> omega
            rw [hjt, hm1]
            refine And.intro (by unfold InR; omega) ?_
            repeat' (first | refine go ?_ | intro _ | refine And.intro (Sd.mk (by (first | exact fun _ => True.intro | exact And.intro (fun _ => True.intro) (fun _ _ => True.intro) | (intro hq; (first | exact True.intro | omega | (simp only [and_true]; omega) | (simp only [bl] at hq; (try simp only [and_true]); omega) | fail)) | exact And.intro (fun hq => by first | exact True.intro | omega | (simp only [and_true]; omega) | (simp only [bl] at hq; (try simp only [and_true]); omega) | fail) (fun hq hr => by first | exact True.intro | omega | (simp only [and_true]; omega) | (simp only [bl] at hq hr; omega) | (simp only [bl] at hr; omega) | fail) | fail))) ?_ | refine And.intro (by (first | omega | (unfold InR; omega) | decide | (simp only [ll]; omega))) ?_ | (refine And.intro (fun h1 => ?_) (fun h1 => ?_) <;> first | (exact absurd h1 (by decide)) | ((try rw [h1]); (try simp only [bl] at h1))) | dsimp only)
            · exfalso; omega
            · refine ⟨⟨j + 1, _, ?_, rfl, rfl, hlt, Sub.hv (subA subEnd)⟩, by omega⟩
              rw [htk, back_snoc, List.append_assoc]; rfl
          · have hwk : (wordB X).length = k := word_at hk hno (by rw [e3l] at h1; omega)
            have hvd : 510 ≤ (lnA (L.getD (j - 1) default)).length + 1 + (wordB (L.getD (j - 1 + 1) default)).length := hvc (by omega)
            rw [show j - 1 + 1 = j by omega, hX, hwk] at hvd
            have hjt : ((j : Int) - 1).toNat = j - 1 := by omega
            have hpl : (lnA (L.getD (j - 1) default)).length ≤ 510 := by
              have h9 := hv.g _ (getD_mem (l := L) (k := j - 1) (by omega))
              rw [(lnA_eq h9).2.2]; have := h9.l; split <;> omega
            rw [hjt, hm1]
            refine And.intro (by unfold InR; omega) ?_
            repeat' (first | refine go ?_ | intro _ | refine And.intro (Sd.mk (by (first | exact fun _ => True.intro | exact And.intro (fun _ => True.intro) (fun _ _ => True.intro) | (intro hq; (first | exact True.intro | omega | (simp only [and_true]; omega) | (simp only [bl] at hq; (try simp only [and_true]); omega) | fail)) | exact And.intro (fun hq => by first | exact True.intro | omega | (simp only [and_true]; omega) | (simp only [bl] at hq; (try simp only [and_true]); omega) | fail) (fun hq hr => by first | exact True.intro | omega | (simp only [and_true]; omega) | (simp only [bl] at hq hr; omega) | (simp only [bl] at hr; omega) | fail) | fail))) ?_ | refine And.intro (by (first | omega | (unfold InR; omega) | decide | (simp only [ll]; omega))) ?_ | (refine And.intro (fun h1 => ?_) (fun h1 => ?_) <;> first | (exact absurd h1 (by decide)) | ((try rw [h1]); (try simp only [bl] at h1))) | dsimp only)
            · exfalso; omega
            · refine ⟨⟨j + 1, _, ?_, rfl, rfl, hlt, Sub.hv (subA subEnd)⟩, by omega⟩
              rw [htk, back_snoc, List.append_assoc]; rfl
        · rw [e3]
          refine And.intro (by simp; omega) ?_
          repeat' (first | refine go ?_ | intro _ | refine And.intro (Sd.mk (by (first | exact fun _ => True.intro | exact And.intro (fun _ => True.intro) (fun _ _ => True.intro) | (intro hq; (first | exact True.intro | omega | (simp only [and_true]; omega) | (simp only [bl] at hq; (try simp only [and_true]); omega) | fail)) | exact And.intro (fun hq => by first | exact True.intro | omega | (simp only [and_true]; omega) | (simp only [bl] at hq; (try simp only [and_true]); omega) | fail) (fun hq hr => by first | exact True.intro | omega | (simp only [and_true]; omega) | (simp only [bl] at hq hr; omega) | (simp only [bl] at hr; omega) | fail) | fail))) ?_ | refine And.intro (by (first | omega | (unfold InR; omega) | decide | (simp only [ll]; omega))) ?_ | (refine And.intro (fun h1 => ?_) (fun h1 => ?_) <;> first | (exact absurd h1 (by decide)) | ((try rw [h1]); (try simp only [bl] at h1))) | dsimp only)
          refine ⟨⟨j + 1, _, ?_, rfl, rfl, hlt, Sub.hv (subA subEnd)⟩, by omega⟩
          rw [htk, back_snoc, List.append_assoc]
        · exact absurd (e3.symm.trans h1) hn0
        · exfalso; simp at h1
      · exfalso; simp at h1; omega
    · obtain rfl : j = L.length := by omega
      repeat' (first | refine go ?_ | intro _ | refine And.intro (Sd.mk (by (first | exact fun _ => True.intro | exact And.intro (fun _ => True.intro) (fun _ _ => True.intro) | (intro hq; (first | exact True.intro | omega | (simp only [and_true]; omega) | (simp only [bl] at hq; (try simp only [and_true]); omega) | fail)) | exact And.intro (fun hq => by first | exact True.intro | omega | (simp only [and_true]; omega) | (simp only [bl] at hq; (try simp only [and_true]); omega) | fail) (fun hq hr => by first | exact True.intro | omega | (simp only [and_true]; omega) | (simp only [bl] at hq hr; omega) | (simp only [bl] at hr; omega) | fail) | fail))) ?_ | refine And.intro (by (first | omega | (unfold InR; omega) | decide | (simp only [ll]; omega))) ?_ | (refine And.intro (fun h1 => ?_) (fun h1 => ?_) <;> first | (exact absurd h1 (by decide)) | ((try rw [h1]); (try simp only [bl] at h1))) | dsimp only)
      · exfalso; omega
      · rw [List.take_length, hbk]
        exact ⟨by simp, Sub.hv subEnd⟩
end Go.Proofs.YtapammcnagjigaaDoor

