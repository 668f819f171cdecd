import Derived.Test.YtapammcnagjigaaGreatDoorRh
set_option linter.all false
namespace Go.Proofs.YtapammcnagjigaaGreatDoor
open Go.Vx Go.Lib
section
set_option maxRecDepth 20000
set_option synthInstance.maxSize 100000
set_option synthInstance.maxHeartbeats 4000000
variable {K : Value → St → Prop} {w0 w : World} {H T : List SL} {ds : List Deferred} {id sg sp now : Int} {od hid : Bool} {nick user host real away : List UInt8} {cp : Value} {ss : List (List UInt8)}
theorem whoisL_ok {g : Nat} {cap : List Value} (z : SzP nick user host real away) (i1 : InR (now - sp)) (i2 : InR sg) (hl : ss.length ≤ 40) (hp : ∀ s ∈ ss, s.length ≤ 60) (hs : SeqOf P w0 (.func (.func g) #[] cap.toArray) T (fun l => [str l]) ss) [tb : PowT w0] [o : Hv w0 T w] (h : ∀ v w', Hv w0 (row 9 1 v (whoisS nick user host real away od (now - sp) sg ss).length ((whoisS nick user host real away od (now - sp) sg ss).map str) :: T) w' → K v ⟨w', ds⟩) :
    Cl P 19 #[str irc, str ann, .agg #[.int .i64 id, str nick, str user, str host, str real, str away, .bool od, .bool hid, .int .i64 sg, .int .i64 sp], .func (.func g) #[] cap.toArray, .int .i64 now] K ⟨w, ds⟩ := by
  refine cl_ok (c19 (K := fun v w' => K v ⟨w', ds⟩) ?_ fun v w' h => ⟨v, rfl, h⟩)
  obtain ⟨z1, z2, z3, z4, z5⟩ := z
  unfold D19
  have hel : (endR (rowsS nick ss)).length ≤ 41 := by
    have h1 := (rows_small (nick := nick) hp ss.length (Nat.le_refl _)).1
    rw [List.take_length] at h1
    unfold endR
    split
    · simp
    · omega
  obtain ⟨A1, e1⟩ : ∃ A, A = [numS irc 311 ann [nick, user, host, [42], real]] ++ (if ss = [] then [] else (endR (rowsS nick ss)).map (lnN nick)) := ⟨_, rfl⟩
  obtain ⟨A2, e2⟩ : ∃ A, A = A1 ++ [numS irc 312 ann [nick, irc, rollB]] ++ (if away = [] then [] else [numS irc 301 ann [nick, away]]) := ⟨_, rfl⟩
  obtain ⟨A3, e3⟩ : ∃ A, A = A2 ++ (if od = true then [numS irc 313 ann [nick, operB]] else []) := ⟨_, rfl⟩
  have ha1 : A1.length ≤ 42 := by
    rw [e1]; split
    · simp
    · first | (simp; omega) | simp
  have ha2 : A2.length ≤ 44 := by
    rw [e2]; split <;> simp <;> omega
  have ha3 : A3.length ≤ 45 := by
    rw [e3]; split <;> simp <;> omega
  have ew : whoisS nick user host real away od (now - sp) sg ss = A3 ++ [numS irc 317 ann [nick, decDigits (now - sp).toNat, decDigits sg.toNat, secB]] := by rw [e3, e2, e1]; rfl
  rw [ew] at h
  repeat' (first | refine go ?_ | intro _ | refine And.intro (Sd.mk (by (first | exact fun _ => True.intro | exact And.intro (fun _ => True.intro) (fun _ _ => True.intro) | (intro hq; (first | exact True.intro | omega | (simp only [and_true]; omega) | (simp only [bl] at hq; (try simp only [and_true]); omega) | fail)) | exact And.intro (fun hq => by first | exact True.intro | omega | (simp only [and_true]; omega) | (simp only [bl] at hq; (try simp only [and_true]); omega) | fail) (fun hq hr => by first | exact True.intro | omega | (simp only [and_true]; omega) | (simp only [bl] at hq hr; omega) | (simp only [bl] at hr; omega) | fail) | fail))) ?_ | refine And.intro (by (first | omega | (unfold InR; omega) | decide | (simp only [ll]; omega))) ?_ | (refine And.intro (fun h1 => ?_) (fun h1 => ?_) <;> first | (exact absurd h1 (by decide)) | ((try rw [h1]); (try simp only [bl] at h1))) | dsimp only)
  rename_i b1 _ _ v1 w1 o1
  refine And.intro ⟨by decide, by decide, by decide, by simp, fun p hp => ?_⟩ fun w2 o2 => ?_
  · simp only [List.mem_cons, List.not_mem_nil, or_false] at hp
    rcases hp with rfl | rfl | rfl | rfl | rfl <;> first | omega | decide
  repeat ((fail_if_success (refine And.intro (fun _ => ?_) (fun _ => ?_))); (first | refine go ?_ | intro _ | refine And.intro (Sd.mk (by (first | exact fun _ => True.intro | exact And.intro (fun _ => True.intro) (fun _ _ => True.intro) | (intro hq; (first | exact True.intro | omega | (simp only [and_true]; omega) | (simp only [bl] at hq; (try simp only [and_true]); omega) | fail)) | exact And.intro (fun hq => by first | exact True.intro | omega | (simp only [and_true]; omega) | (simp only [bl] at hq; (try simp only [and_true]); omega) | fail) (fun hq hr => by first | exact True.intro | omega | (simp only [and_true]; omega) | (simp only [bl] at hq hr; omega) | (simp only [bl] at hr; omega) | fail) | fail))) ?_ | refine And.intro (by (first | omega | (unfold InR; omega) | decide | (simp only [ll]; omega))) ?_ | dsimp only))
  refine And.intro (fun hq => ?_) (fun h1 => absurd h1 (by decide))
  rename_i v12 _ _ b13 w4 o4
  clear o o1 o2
  have hrs : ∀ i, i ≤ ss.length → (ss.take i).length = i := fun i hi => by rw [List.length_take]; omega
  refine rf_go (w0 := w0) (T := T) (J := fun i => any fun q : Value => many [box b13 23 [q], row 9 1 q (ss.take i).length ((ss.take i).map str), row 9 1 v12 1 [str (numS irc 311 ann [nick, user, host, [42], real])], box b1 36 [.int .i64 id, str nick, str user, str host, str real, str away, .bool od, .bool hid, .int .i64 sg, .int .i64 sp]])
    (XR := fun _ => lift False) (XE := fun _ _ => lift False) hs (fun _ => rfl) ?_ ?_ ?_ (fun b i x w' _ h => h.lifted.elim) (fun b j i x w' _ h => h.lifted.elim)
  · refine Hv.give (.slice none 0 0) (Hv.closes ?_)
    dsimp only [List.cons_append, List.nil_append]
    have o5 := Hv.nilRow 9 1 o4
    exact Sub.hv (subBox rfl (subRow rfl rfl (subRow rfl rfl (subBox rfl subEnd))))
  · intro bd l1 rc R1 F w8 i x hi o8 hnx hr hx
    obtain ⟨q, o9⟩ := o8.pick
    have o10 := o9.opens
    have hlt : i < ss.length := (List.getElem?_eq_some_iff.1 hi).1
    have hxx : ss.getD i default = x := by rw [List.getD_eq_getElem?_getD, hi]; rfl
    have htk : ss.take (i + 1) = ss.take i ++ [x] := by rw [take_snoc hlt, hxx]
    have htl := hrs i (by omega)
    dsimp only [List.cons_append, List.nil_append, List.headD, List.tail] at o10 ⊢
    clear o8 o9 o4
    repeat' (first | refine go ?_ | intro _ | refine And.intro (Sd.mk (by (first | exact fun _ => True.intro | exact And.intro (fun _ => True.intro) (fun _ _ => True.intro) | (intro hq; (first | exact True.intro | omega | (simp only [and_true]; omega) | (simp only [bl] at hq; (try simp only [and_true]); omega) | fail)) | exact And.intro (fun hq => by first | exact True.intro | omega | (simp only [and_true]; omega) | (simp only [bl] at hq; (try simp only [and_true]); omega) | fail) (fun hq hr => by first | exact True.intro | omega | (simp only [and_true]; omega) | (simp only [bl] at hq hr; omega) | (simp only [bl] at hr; omega) | fail) | fail))) ?_ | refine And.intro (by (first | omega | (unfold InR; omega) | decide | (simp only [ll]; omega))) ?_ | (refine And.intro (fun h1 => ?_) (fun h1 => ?_) <;> first | (exact absurd h1 (by decide)) | ((try rw [h1]); (try simp only [bl] at h1))) | dsimp only)
    rename_i q2 _ _ _ _ _ _
    refine hnx _ (Hv.give q2 (Hv.closes ?_))
    dsimp only [List.cons_append, List.nil_append]
    rw [htk]
    exact Sub.hv (subBox rfl (subRow (by simp) (by simp) (subRow rfl rfl (subBox rfl (subA (subA subEnd))))))
  · intro bd w8 o8
    obtain ⟨q, o9⟩ := o8.pick
    have o10 := o9.opens
    rw [List.take_length] at o10
    dsimp only [List.cons_append, List.nil_append] at o10
    clear o8 o9 o4

    refine j1_any (fun x s => ∃ w', s = ⟨w', [mk bd]⟩ ∧ Hv w0 (row 9 1 x (A1).length ((A1).map str) :: box b1 36 [.int .i64 id, str nick, str user, str host, str real, str away, .bool od, .bool hid, .int .i64 sg, .int .i64 sp] :: dfb bd :: T) w') ?_ ?_
    · repeat' (first | refine go ?_ | intro _ | refine And.intro (Sd.mk (by (first | exact fun _ => True.intro | exact And.intro (fun _ => True.intro) (fun _ _ => True.intro) | (intro hq; (first | exact True.intro | omega | (simp only [and_true]; omega) | (simp only [bl] at hq; (try simp only [and_true]); omega) | fail)) | exact And.intro (fun hq => by first | exact True.intro | omega | (simp only [and_true]; omega) | (simp only [bl] at hq; (try simp only [and_true]); omega) | fail) (fun hq hr => by first | exact True.intro | omega | (simp only [and_true]; omega) | (simp only [bl] at hq hr; omega) | (simp only [bl] at hr; omega) | fail) | fail))) ?_ | refine And.intro (by (first | omega | (unfold InR; omega) | decide | (simp only [ll]; omega))) ?_ | (refine And.intro (fun h1 => ?_) (fun h1 => ?_) <;> first | (exact absurd h1 (by decide)) | ((try rw [h1]); (try simp only [bl] at h1))) | dsimp only)
      · rw [e1, if_neg (show ¬ ss = [] from fun e => by rw [e] at h1; exact absurd h1 (by decide))]
        refine And.intro ?_ ?_
        · repeat' (first | refine go ?_ | intro _ | refine And.intro (Sd.mk (by (first | exact fun _ => True.intro | exact And.intro (fun _ => True.intro) (fun _ _ => True.intro) | (intro hq; (first | exact True.intro | omega | (simp only [and_true]; omega) | (simp only [bl] at hq; (try simp only [and_true]); omega) | fail)) | exact And.intro (fun hq => by first | exact True.intro | omega | (simp only [and_true]; omega) | (simp only [bl] at hq; (try simp only [and_true]); omega) | fail) (fun hq hr => by first | exact True.intro | omega | (simp only [and_true]; omega) | (simp only [bl] at hq hr; omega) | (simp only [bl] at hr; omega) | fail) | fail))) ?_ | refine And.intro (by (first | omega | (unfold InR; omega) | decide | (simp only [ll]; omega))) ?_ | (refine And.intro (fun h1 => ?_) (fun h1 => ?_) <;> first | (exact absurd h1 (by decide)) | ((try rw [h1]); (try simp only [bl] at h1))) | dsimp only)
          rename_i hd _ _ b7 w11 o11
          have oh0 : One w11 hd := inferInstance
          have oq0 : One w11 q := inferInstance
          have oh : ∀ w, One w hd := fun w => ⟨oh0.eq⟩
          have oq : ∀ w, One w q := fun w => ⟨oq0.eq⟩
          have lh : RdsL w0 [row 9 1 hd 1 [str nick]] hd 1 1 [str nick] := ⟨fun w' o' => inferInstance⟩
          have lx : RdsL w0 (row 9 1 q ss.length (ss.map str) :: row 9 1 v12 1 [str (numS irc 311 ann [nick, user, host, [42], real])] :: box b1 36 [.int .i64 id, str nick, str user, str host, str real, str away, .bool od, .bool hid, .int .i64 sg, .int .i64 sp] :: dfb bd :: T) q 1 ss.length (ss.map str) := ⟨fun w' o' => inferInstance⟩
          refine pack_ok (w0 := w0) (R := [row 9 1 hd 1 [str nick]]) (T := box b7 23 [q] :: row 9 1 q ss.length (ss.map str) :: row 9 1 v12 1 [str (numS irc 311 ann [nick, user, host, [42], real])] :: box b1 36 [.int .i64 id, str nick, str user, str host, str real, str away, .bool od, .bool hid, .int .i64 sg, .int .i64 sp] :: dfb bd :: T) (g := 92) (cap := [.pointer (some ⟨b7, 0, none⟩)]) (ss := ss) (server := irc) (tgt := ann) (hd := [nick]) (c := 319) (hv := hd) ?_ ?_ ?_ ?_ ?_ ?_
          · intro c1 c2 c3 c4
            exact ⟨⟨by dsimp only; omega, by dsimp only; omega⟩, (by decide : irc.length ≤ 1000), (by decide : ann.length ≤ 900), (by simp : ([nick] : List (List UInt8)).length ≤ 13), (fun p hp => by rw [List.mem_singleton.1 hp]; omega : ∀ p ∈ ([nick] : List (List UInt8)), p.length ≤ 900), lh, oh⟩
          · intro s hs; have := hp s hs; omega
          · omega
          · exact values_seq b7
          · refine Hv.closes ?_
            dsimp only [List.cons_append, List.nil_append]
            exact Sub.hv (subRow rfl rfl (subBox rfl (subRow rfl rfl (subRow rfl rfl (subBox rfl (subA subEnd))))))
          intro v20 w20 o20
          have epk : packS (lineS irc 319 ann [nick]) ss = (endR (rowsS nick ss)).map (lnN nick) := pack_rel z1 ss
          rw [epk] at o20
          clear o10
          repeat' (first | refine go ?_ | intro _ | refine And.intro (Sd.mk (by (first | exact fun _ => True.intro | exact And.intro (fun _ => True.intro) (fun _ _ => True.intro) | (intro hq; (first | exact True.intro | omega | (simp only [and_true]; omega) | (simp only [bl] at hq; (try simp only [and_true]); omega) | fail)) | exact And.intro (fun hq => by first | exact True.intro | omega | (simp only [and_true]; omega) | (simp only [bl] at hq; (try simp only [and_true]); omega) | fail) (fun hq hr => by first | exact True.intro | omega | (simp only [and_true]; omega) | (simp only [bl] at hq hr; omega) | (simp only [bl] at hr; omega) | fail) | fail))) ?_ | refine And.intro (by (first | omega | (unfold InR; omega) | decide | (simp only [ll]; omega))) ?_ | (refine And.intro (fun h1 => ?_) (fun h1 => ?_) <;> first | (exact absurd h1 (by decide)) | ((try rw [h1]); (try simp only [bl] at h1))) | dsimp only)
          exact ⟨_, rfl, Sub.hv (subRow (by simp; omega) (by simp) (subBox rfl (subA subEnd)))⟩
        · repeat' (first | refine go ?_ | intro _ | refine And.intro (Sd.mk (by (first | exact fun _ => True.intro | exact And.intro (fun _ => True.intro) (fun _ _ => True.intro) | (intro hq; (first | exact True.intro | omega | (simp only [and_true]; omega) | (simp only [bl] at hq; (try simp only [and_true]); omega) | fail)) | exact And.intro (fun hq => by first | exact True.intro | omega | (simp only [and_true]; omega) | (simp only [bl] at hq; (try simp only [and_true]); omega) | fail) (fun hq hr => by first | exact True.intro | omega | (simp only [and_true]; omega) | (simp only [bl] at hq hr; omega) | (simp only [bl] at hr; omega) | fail) | fail))) ?_ | refine And.intro (by (first | omega | (unfold InR; omega) | decide | (simp only [ll]; omega))) ?_ | (refine And.intro (fun h1 => ?_) (fun h1 => ?_) <;> first | (exact absurd h1 (by decide)) | ((try rw [h1]); (try simp only [bl] at h1))) | dsimp only)
          rename_i b7 _ _ hd w11 o11
          have oh0 : One w11 hd := inferInstance
          have oq0 : One w11 q := inferInstance
          have oh : ∀ w, One w hd := fun w => ⟨oh0.eq⟩
          have oq : ∀ w, One w q := fun w => ⟨oq0.eq⟩
          have lh : RdsL w0 [row 9 1 hd 1 [str nick]] hd 1 1 [str nick] := ⟨fun w' o' => inferInstance⟩
          have lx : RdsL w0 (row 9 1 q ss.length (ss.map str) :: row 9 1 v12 1 [str (numS irc 311 ann [nick, user, host, [42], real])] :: box b1 36 [.int .i64 id, str nick, str user, str host, str real, str away, .bool od, .bool hid, .int .i64 sg, .int .i64 sp] :: dfb bd :: T) q 1 ss.length (ss.map str) := ⟨fun w' o' => inferInstance⟩
          refine pack_ok (w0 := w0) (R := [row 9 1 hd 1 [str nick]]) (T := box b7 23 [q] :: row 9 1 q ss.length (ss.map str) :: row 9 1 v12 1 [str (numS irc 311 ann [nick, user, host, [42], real])] :: box b1 36 [.int .i64 id, str nick, str user, str host, str real, str away, .bool od, .bool hid, .int .i64 sg, .int .i64 sp] :: dfb bd :: T) (g := 92) (cap := [.pointer (some ⟨b7, 0, none⟩)]) (ss := ss) (server := irc) (tgt := ann) (hd := [nick]) (c := 319) (hv := hd) ?_ ?_ ?_ ?_ ?_ ?_
          · intro c1 c2 c3 c4
            exact ⟨⟨by dsimp only; omega, by dsimp only; omega⟩, (by decide : irc.length ≤ 1000), (by decide : ann.length ≤ 900), (by simp : ([nick] : List (List UInt8)).length ≤ 13), (fun p hp => by rw [List.mem_singleton.1 hp]; omega : ∀ p ∈ ([nick] : List (List UInt8)), p.length ≤ 900), lh, oh⟩
          · intro s hs; have := hp s hs; omega
          · omega
          · exact values_seq b7
          · refine Hv.closes ?_
            dsimp only [List.cons_append, List.nil_append]
            exact Sub.hv (subRow rfl rfl (subBox rfl (subRow rfl rfl (subRow rfl rfl (subBox rfl (subA subEnd))))))
          intro v20 w20 o20
          have epk : packS (lineS irc 319 ann [nick]) ss = (endR (rowsS nick ss)).map (lnN nick) := pack_rel z1 ss
          rw [epk] at o20
          clear o10
          repeat' (first | refine go ?_ | intro _ | refine And.intro (Sd.mk (by (first | exact fun _ => True.intro | exact And.intro (fun _ => True.intro) (fun _ _ => True.intro) | (intro hq; (first | exact True.intro | omega | (simp only [and_true]; omega) | (simp only [bl] at hq; (try simp only [and_true]); omega) | fail)) | exact And.intro (fun hq => by first | exact True.intro | omega | (simp only [and_true]; omega) | (simp only [bl] at hq; (try simp only [and_true]); omega) | fail) (fun hq hr => by first | exact True.intro | omega | (simp only [and_true]; omega) | (simp only [bl] at hq hr; omega) | (simp only [bl] at hr; omega) | fail) | fail))) ?_ | refine And.intro (by (first | omega | (unfold InR; omega) | decide | (simp only [ll]; omega))) ?_ | (refine And.intro (fun h1 => ?_) (fun h1 => ?_) <;> first | (exact absurd h1 (by decide)) | ((try rw [h1]); (try simp only [bl] at h1))) | dsimp only)
          exact ⟨_, rfl, Sub.hv (subRow (by simp; omega) (by simp) (subBox rfl (subA subEnd)))⟩
      · rw [e1, if_pos (show ss = [] from List.eq_nil_of_length_eq_zero (by omega))]
        exact ⟨_, rfl, Sub.hv (subRow (by simp) (by simp) (subBox rfl (subA subEnd)))⟩
    rintro x s ⟨w3, rfl, o3⟩
    repeat' (first | refine go ?_ | intro _ | refine And.intro (Sd.mk (by (first | exact fun _ => True.intro | exact And.intro (fun _ => True.intro) (fun _ _ => True.intro) | (intro hq; (first | exact True.intro | omega | (simp only [and_true]; omega) | (simp only [bl] at hq; (try simp only [and_true]); omega) | fail)) | exact And.intro (fun hq => by first | exact True.intro | omega | (simp only [and_true]; omega) | (simp only [bl] at hq; (try simp only [and_true]); omega) | fail) (fun hq hr => by first | exact True.intro | omega | (simp only [and_true]; omega) | (simp only [bl] at hq hr; omega) | (simp only [bl] at hr; omega) | fail) | fail))) ?_ | refine And.intro (by (first | omega | (unfold InR; omega) | decide | (simp only [ll]; omega))) ?_ | (refine And.intro (fun h1 => ?_) (fun h1 => ?_) <;> first | (exact absurd h1 (by decide)) | ((try rw [h1]); (try simp only [bl] at h1))) | dsimp only)
    refine And.intro ⟨by decide, by decide, by decide, by simp, fun p hp => ?_⟩ fun w4 o4 => ?_
    · simp only [List.mem_cons, List.not_mem_nil, or_false] at hp
      rcases hp with rfl | rfl | rfl <;> first | omega | decide
    repeat ((fail_if_success (refine j1_any (fun _ _ => True) ?_ ?_)); (first | refine go ?_ | intro _ | refine And.intro (Sd.mk (by (first | exact fun _ => True.intro | exact And.intro (fun _ => True.intro) (fun _ _ => True.intro) | (intro hq; (first | exact True.intro | omega | (simp only [and_true]; omega) | (simp only [bl] at hq; (try simp only [and_true]); omega) | fail)) | exact And.intro (fun hq => by first | exact True.intro | omega | (simp only [and_true]; omega) | (simp only [bl] at hq; (try simp only [and_true]); omega) | fail) (fun hq hr => by first | exact True.intro | omega | (simp only [and_true]; omega) | (simp only [bl] at hq hr; omega) | (simp only [bl] at hr; omega) | fail) | fail))) ?_ | refine And.intro (by (first | omega | (unfold InR; omega) | decide | (simp only [ll]; omega))) ?_ | dsimp only))
    clear o3 o4
    refine j1_any (fun x s => ∃ w', s = ⟨w', [mk bd]⟩ ∧ Hv w0 (row 9 1 x (A2).length ((A2).map str) :: box b1 36 [.int .i64 id, str nick, str user, str host, str real, str away, .bool od, .bool hid, .int .i64 sg, .int .i64 sp] :: dfb bd :: T) w') ?_ ?_
    · repeat' (first | refine go ?_ | intro _ | refine And.intro (Sd.mk (by (first | exact fun _ => True.intro | exact And.intro (fun _ => True.intro) (fun _ _ => True.intro) | (intro hq; (first | exact True.intro | omega | (simp only [and_true]; omega) | (simp only [bl] at hq; (try simp only [and_true]); omega) | fail)) | exact And.intro (fun hq => by first | exact True.intro | omega | (simp only [and_true]; omega) | (simp only [bl] at hq; (try simp only [and_true]); omega) | fail) (fun hq hr => by first | exact True.intro | omega | (simp only [and_true]; omega) | (simp only [bl] at hq hr; omega) | (simp only [bl] at hr; omega) | fail) | fail))) ?_ | refine And.intro (by (first | omega | (unfold InR; omega) | decide | (simp only [ll]; omega))) ?_ | (refine And.intro (fun h1 => ?_) (fun h1 => ?_) <;> first | (exact absurd h1 (by decide)) | ((try rw [h1]); (try simp only [bl] at h1))) | dsimp only)
      · rw [e2, if_neg h1]
        refine And.intro ⟨by decide, by decide, by decide, by simp, fun p hp => ?_⟩ fun w8 o8 => ?_
        · simp only [List.mem_cons, List.not_mem_nil, or_false] at hp
          rcases hp with rfl | rfl <;> first | omega | decide
        repeat' (first | refine go ?_ | intro _ | refine And.intro (Sd.mk (by (first | exact fun _ => True.intro | exact And.intro (fun _ => True.intro) (fun _ _ => True.intro) | (intro hq; (first | exact True.intro | omega | (simp only [and_true]; omega) | (simp only [bl] at hq; (try simp only [and_true]); omega) | fail)) | exact And.intro (fun hq => by first | exact True.intro | omega | (simp only [and_true]; omega) | (simp only [bl] at hq; (try simp only [and_true]); omega) | fail) (fun hq hr => by first | exact True.intro | omega | (simp only [and_true]; omega) | (simp only [bl] at hq hr; omega) | (simp only [bl] at hr; omega) | fail) | fail))) ?_ | refine And.intro (by (first | omega | (unfold InR; omega) | decide | (simp only [ll]; omega))) ?_ | (refine And.intro (fun h1 => ?_) (fun h1 => ?_) <;> first | (exact absurd h1 (by decide)) | ((try rw [h1]); (try simp only [bl] at h1))) | dsimp only)
        exact ⟨_, rfl, Sub.hv (subRow (by simp) (by simp [rollB, operB]) (subBox rfl subEnd))⟩
      · rw [e2, if_pos h1]
        exact ⟨_, rfl, Sub.hv (subRow (by simp) (by simp [rollB, operB]) (subBox rfl subEnd))⟩
    rintro x s ⟨w5, rfl, o5⟩
    refine j1_any (fun x s => ∃ w', s = ⟨w', [mk bd]⟩ ∧ Hv w0 (row 9 1 x (A3).length ((A3).map str) :: box b1 36 [.int .i64 id, str nick, str user, str host, str real, str away, .bool od, .bool hid, .int .i64 sg, .int .i64 sp] :: dfb bd :: T) w') ?_ ?_
    · repeat' (first | refine go ?_ | intro _ | refine And.intro (Sd.mk (by (first | exact fun _ => True.intro | exact And.intro (fun _ => True.intro) (fun _ _ => True.intro) | (intro hq; (first | exact True.intro | omega | (simp only [and_true]; omega) | (simp only [bl] at hq; (try simp only [and_true]); omega) | fail)) | exact And.intro (fun hq => by first | exact True.intro | omega | (simp only [and_true]; omega) | (simp only [bl] at hq; (try simp only [and_true]); omega) | fail) (fun hq hr => by first | exact True.intro | omega | (simp only [and_true]; omega) | (simp only [bl] at hq hr; omega) | (simp only [bl] at hr; omega) | fail) | fail))) ?_ | refine And.intro (by (first | omega | (unfold InR; omega) | decide | (simp only [ll]; omega))) ?_ | (refine And.intro (fun h1 => ?_) (fun h1 => ?_) <;> first | (exact absurd h1 (by decide)) | ((try rw [h1]); (try simp only [bl] at h1))) | dsimp only)
      · subst h1
        rw [e3, if_pos rfl]
        refine And.intro ⟨by decide, by decide, by decide, by simp, fun p hp => ?_⟩ fun w8 o8 => ?_
        · simp only [List.mem_cons, List.not_mem_nil, or_false] at hp
          rcases hp with rfl | rfl <;> first | omega | decide
        repeat' (first | refine go ?_ | intro _ | refine And.intro (Sd.mk (by (first | exact fun _ => True.intro | exact And.intro (fun _ => True.intro) (fun _ _ => True.intro) | (intro hq; (first | exact True.intro | omega | (simp only [and_true]; omega) | (simp only [bl] at hq; (try simp only [and_true]); omega) | fail)) | exact And.intro (fun hq => by first | exact True.intro | omega | (simp only [and_true]; omega) | (simp only [bl] at hq; (try simp only [and_true]); omega) | fail) (fun hq hr => by first | exact True.intro | omega | (simp only [and_true]; omega) | (simp only [bl] at hq hr; omega) | (simp only [bl] at hr; omega) | fail) | fail))) ?_ | refine And.intro (by (first | omega | (unfold InR; omega) | decide | (simp only [ll]; omega))) ?_ | (refine And.intro (fun h1 => ?_) (fun h1 => ?_) <;> first | (exact absurd h1 (by decide)) | ((try rw [h1]); (try simp only [bl] at h1))) | dsimp only)
        exact ⟨_, rfl, Sub.hv (subRow (by simp) (by simp [rollB, operB]) (subBox rfl subEnd))⟩
      · subst h1
        rw [e3, if_neg (by decide)]
        exact ⟨_, rfl, Sub.hv (subRow (by simp) (by simp [rollB, operB]) (subBox rfl subEnd))⟩
    rintro x s ⟨w6, rfl, o6⟩
    clear o5
    unfold InR at i1 i2
    have hd1 := dec_len (u := (now - sp).toNat) (by omega)
    have hd2 := dec_len (u := sg.toNat) (by omega)
    have i1' : InR (now - sp) := by unfold InR; omega
    have i2' : InR sg := by unfold InR; omega
    repeat' (first | refine go ?_ | intro _ | refine And.intro (Sd.mk (by (first | exact fun _ => True.intro | exact And.intro (fun _ => True.intro) (fun _ _ => True.intro) | (intro hq; (first | exact True.intro | omega | (simp only [and_true]; omega) | (simp only [bl] at hq; (try simp only [and_true]); omega) | fail)) | exact And.intro (fun hq => by first | exact True.intro | omega | (simp only [and_true]; omega) | (simp only [bl] at hq; (try simp only [and_true]); omega) | fail) (fun hq hr => by first | exact True.intro | omega | (simp only [and_true]; omega) | (simp only [bl] at hq hr; omega) | (simp only [bl] at hr; omega) | fail) | fail))) ?_ | refine And.intro (by (first | omega | (unfold InR; omega) | decide | (simp only [ll]; omega))) ?_ | (refine And.intro (fun h1 => ?_) (fun h1 => ?_) <;> first | (exact absurd h1 (by decide)) | ((try rw [h1]); (try simp only [bl] at h1))) | dsimp only)
    refine And.intro ⟨by decide, by decide, by decide, by simp, fun p hp => ?_⟩ fun w8 o8 => ?_
    · simp only [List.mem_cons, List.not_mem_nil, or_false] at hp
      rcases hp with rfl | rfl | rfl | rfl <;> first | omega | decide
    repeat' (first | refine go ?_ | intro _ | refine And.intro (Sd.mk (by (first | exact fun _ => True.intro | exact And.intro (fun _ => True.intro) (fun _ _ => True.intro) | (intro hq; (first | exact True.intro | omega | (simp only [and_true]; omega) | (simp only [bl] at hq; (try simp only [and_true]); omega) | fail)) | exact And.intro (fun hq => by first | exact True.intro | omega | (simp only [and_true]; omega) | (simp only [bl] at hq; (try simp only [and_true]); omega) | fail) (fun hq hr => by first | exact True.intro | omega | (simp only [and_true]; omega) | (simp only [bl] at hq hr; omega) | (simp only [bl] at hr; omega) | fail) | fail))) ?_ | refine And.intro (by (first | omega | (unfold InR; omega) | decide | (simp only [ll]; omega))) ?_ | (refine And.intro (fun h1 => ?_) (fun h1 => ?_) <;> first | (exact absurd h1 (by decide)) | ((try rw [h1]); (try simp only [bl] at h1))) | dsimp only)
    exact h _ _ (Sub.hv (subRow (by simp) (by simp [secB]) subEnd))
end
end Go.Proofs.YtapammcnagjigaaGreatDoor

