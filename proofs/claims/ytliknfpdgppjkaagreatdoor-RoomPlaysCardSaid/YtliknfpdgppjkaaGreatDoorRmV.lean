import Derived.Test.YtliknfpdgppjkaaGreatDoorRmU
set_option linter.all false
namespace Go.Proofs.YtliknfpdgppjkaaGreatDoor
open Go.Vx Go.Lib
/-! plain: the program's room and the document's -/
theorem id_eq {l : List Mem} (h : l.Pairwise fun a b => mid a ≠ mid b) : ∀ {a b : Mem}, a ∈ l → b ∈ l → mid a = mid b → a = b := by
  induction l with
  | nil => intro a b ha; simp at ha
  | cons x l ih =>
    intro a b ha hb e
    rw [List.pairwise_cons] at h
    rcases List.mem_cons.1 ha with rfl | ha' <;> rcases List.mem_cons.1 hb with rfl | hb'
    · rfl
    · exact absurd e (h.1 _ hb')
    · exact absurd e.symm (h.1 _ ha')
    · exact ih h.2 ha' hb' e
theorem Ris.ne {l : List Mem} (h : Ris mid l) : l.Pairwise fun a b => mid a ≠ mid b := h.imp fun h e => by rw [e] at h; exact Int.lt_irrefl _ h
theorem cut_mem {l : List Mem} (h : l.Pairwise fun a b => mid a ≠ mid b) {i : Nat} (hi : i < l.length) {id : Int} (e : mid (l.getD i default) = id) (m : Mem) : (m ∈ l.take i ∨ m ∈ l.drop (i + 1)) ↔ (m ∈ l ∧ mid m ≠ id) := by
  have hl : l = l.take i ++ l.getD i default :: l.drop (i + 1) := by rw [← drop_gen hi, List.take_append_drop]
  rw [hl, List.pairwise_append, List.pairwise_cons] at h
  obtain ⟨_, ⟨h1, _⟩, h2⟩ := h
  constructor
  · rintro (hm | hm)
    · exact ⟨List.mem_of_mem_take hm, fun e' => h2 m hm _ (List.mem_cons_self ..) (e'.trans e.symm)⟩
    · exact ⟨List.mem_of_mem_drop hm, fun e' => h1 m hm (e.trans e'.symm)⟩
  · rintro ⟨hm, hne⟩
    rw [hl, List.mem_append, List.mem_cons] at hm
    rcases hm with hm | rfl | hm
    · exact .inl hm
    · exact absurd e hne
    · exact .inr hm
theorem set_mem {l : List Mem} (h : l.Pairwise fun a b => mid a ≠ mid b) {i : Nat} (hi : i < l.length) {id : Int} (e : mid (l.getD i default) = id) (v m : Mem) : m ∈ l.set i v ↔ m = v ∨ (m ∈ l ∧ mid m ≠ id) := by
  rw [← cut_mem h hi e m, List.set_eq_take_append_cons_drop, if_pos hi, List.mem_append, List.mem_cons]
  constructor
  · rintro (h | h | h)
    · exact .inr (.inl h)
    · exact .inl h
    · exact .inr (.inr h)
  · rintro (h | h | h)
    · exact .inr (.inl h)
    · exact .inl h
    · exact .inr (.inr h)
theorem ins_mem (l : List Mem) (v m : Mem) : m ∈ insBy mid l v ↔ m ∈ l ∨ m = v := by
  unfold insBy
  rw [List.mem_append, List.mem_cons, List.mem_filter, List.mem_filter]
  constructor
  · rintro (h | h | h)
    · exact .inl h.1
    · exact .inr h
    · exact .inl h.1
  · rintro (h | h)
    · by_cases hm : mid m < mid v
      · exact .inl ⟨h, by simpa using hm⟩
      · exact .inr (.inr ⟨h, by simp only [decide_eq_true_eq]; omega⟩)
    · exact .inr (.inl h)
theorem del_mem (l : List Mem) (id : Int) (m : Mem) : m ∈ delBy mid l id ↔ m ∈ l ∧ mid m ≠ id := by
  unfold delBy
  rw [List.mem_filter]; simp
theorem ris_ext {l l' : List Mem} (h : Ris mid l) (h' : Ris mid l') (e : ∀ m, m ∈ l ↔ m ∈ l') : l = l' := by
  induction l generalizing l' with
  | nil =>
    cases l' with
    | nil => rfl
    | cons b l' => exact absurd ((e b).2 (List.mem_cons_self ..)) (by simp)
  | cons a l ih =>
    cases l' with
    | nil => exact absurd ((e a).1 (List.mem_cons_self ..)) (by simp)
    | cons b l' =>
      rw [Ris, List.pairwise_cons] at h h'
      have ab : a = b := by
        rcases List.mem_cons.1 ((e a).1 (List.mem_cons_self ..)) with q | q
        · exact q
        rcases List.mem_cons.1 ((e b).2 (List.mem_cons_self ..)) with q' | q'
        · exact q'.symm
        have := h'.1 a q
        have := h.1 b q'
        omega
      subst ab
      rw [ih h.2 h'.2]
      intro m
      constructor
      · intro hm
        rcases List.mem_cons.1 ((e m).1 (List.mem_cons_of_mem _ hm)) with q | q
        · subst q; exact absurd (h.1 m hm) (Int.lt_irrefl _)
        · exact q
      · intro hm
        rcases List.mem_cons.1 ((e m).2 (List.mem_cons_of_mem _ hm)) with q | q
        · subst q; exact absurd (h'.1 m hm) (Int.lt_irrefl _)
        · exact q
theorem add_in {l : List Int} {a b : Int} (h : a ∈ l ∨ a = b) : a ∈ addI l b := by
  unfold addI
  split
  · rename_i hh
    rcases h with h | rfl
    · exact h
    · obtain ⟨z, hz, e⟩ := List.any_eq_true.1 hh
      have : z = a := by simpa using e
      exact this ▸ hz
  · unfold insBy
    rw [List.mem_append, List.mem_cons, List.mem_filter, List.mem_filter]
    rcases h with h | h
    · by_cases hm : a < b
      · exact .inl ⟨h, decide_eq_true (show a < b from hm)⟩
      · exact .inr (.inr ⟨h, decide_eq_true (show b ≤ a by omega)⟩)
    · exact .inr (.inl h)
theorem adds_in (xs : List Int) : ∀ {l : List Int} {a : Int}, a ∈ l ∨ a ∈ xs → a ∈ xs.foldl addI l := by
  induction xs with
  | nil => intro l a h; simpa using h
  | cons x xs ih =>
    intro l a h
    rw [List.foldl_cons]
    refine ih ?_
    rcases h with h | h
    · exact .inl (add_in (.inl h))
    · rcases List.mem_cons.1 h with h | h
      · exact .inl (add_in (.inr h))
      · exact .inr h
theorem Rf.at_cases (y : Rf) (id : Int) : (y.at id = -1 ∧ ∀ m ∈ y.l, mid m ≠ id) ∨ ∃ i : Nat, y.at id = i ∧ i < y.l.length ∧ mid (y.l.getD i default) = id := by
  unfold Rf.at
  cases h : y.l.findIdx? (fun m => decide (mid m = id)) with
  | none =>
    rw [List.findIdx?_eq_none_iff] at h
    exact .inl ⟨rfl, fun m hm => by simpa using h m hm⟩
  | some i =>
    rw [List.findIdx?_eq_some_iff_getElem] at h
    obtain ⟨hi, hp, _⟩ := h
    exact .inr ⟨i, rfl, hi, by simpa [hi] using hp⟩
theorem Rm.at_has {x : Rm} {id : Int} (h : x.has id = true) : x.at id ∈ x.mem ∧ mid (x.at id) = id := by
  unfold Rm.at
  cases hf : x.mem.find? (fun m => decide (mid m = id)) with
  | none =>
    rw [List.find?_eq_none] at hf
    obtain ⟨m, hm, e⟩ := List.any_eq_true.1 h
    exact absurd e (hf m hm)
  | some m => exact ⟨List.mem_of_find?_eq_some hf, by simpa using List.find?_some hf⟩
theorem Rm.at_not {x : Rm} {id : Int} (h : x.has id = false) : x.at id = (0, false, false) := by
  unfold Rm.at; rw [find_no h]; rfl
structure Rel (x : Rm) (y : Rf) : Prop where
  mem : ∀ m, m ∈ x.mem ↔ m ∈ y.l
  nd : y.l.Pairwise fun a b => mid a ≠ mid b
  fl : ∀ c, x.flag c = y.flag c
  bans : x.bans = y.bans
  bd : y.bans.Pairwise fun a b => foldS a ≠ foldS b
  top : x.topic = y.topic
  key : x.key = y.key
  lim : x.limit = y.limit
  mb : x.mb = y.mb
  nm : x.name = [35, 97]
theorem Rel.new (mb : Int) : Rel (.new [35, 97] mb) (.new [35, 97] mb) := by
  refine ⟨by simp [Rm.new, Rf.new], List.Pairwise.nil, fun c => ?_, rfl, List.Pairwise.nil, rfl, rfl, rfl, rfl, rfl⟩
  have : ∀ c : UInt8, (Rm.new [35, 97] 0).flag c = (Rf.new [35, 97] 0).flag c := fun c => by
    have := bytes_all (fun c => (Rm.new [35, 97] 0).flag c == (Rf.new [35, 97] 0).flag c) (by decide +kernel) c
    simpa using this
  exact this c
theorem Rel.has {x : Rm} {y : Rf} (r : Rel x y) (id : Int) : (x.has id = false ∧ y.at id = -1) ∨ (x.has id = true ∧ ∃ i : Nat, y.at id = i ∧ i < y.l.length ∧ y.l.getD i default = x.at id ∧ mid (y.l.getD i default) = id) := by
  rcases y.at_cases id with ⟨h1, h2⟩ | ⟨i, h1, h2, h3⟩
  · refine .inl ⟨?_, h1⟩
    refine List.any_eq_false.2 fun m hm => ?_
    simpa using h2 m ((r.mem m).1 hm)
  · have hm : y.l.getD i default ∈ y.l := getD_mem h2
    have hh : x.has id = true := List.any_eq_true.2 ⟨_, (r.mem _).2 hm, by simpa using h3⟩
    have ha := Rm.at_has hh
    exact .inr ⟨hh, i, h1, h2, id_eq r.nd hm ((r.mem _).1 ha.1) (h3.trans ha.2.symm), h3⟩
theorem Rel.members {x : Rm} {y : Rf} (r : Rel x y) (ok : x.ok) : x.mem = y.members := by
  have hat : ∀ id ∈ y.ids, ∃ i : Nat, y.at id = i ∧ i < y.l.length ∧ mid (y.l.getD i default) = id := fun id h => by
    rcases y.at_cases id with ⟨h1, _⟩ | h
    · have := Rf.at_mem h; omega
    · exact h
  refine ris_ext ok.ris ?_ fun m => ?_
  · unfold Rf.members
    rw [Ris, List.pairwise_map]
    have hr : Ris nid y.ids := adds_ris _ List.Pairwise.nil
    refine List.Pairwise.imp_of_mem ?_ hr
    intro a b ha hb hab
    obtain ⟨i, e1, _, e2⟩ := hat a ha
    obtain ⟨j, e3, _, e4⟩ := hat b hb
    rw [e1, e3, Int.toNat_natCast, Int.toNat_natCast, e2, e4]
    exact hab
  · rw [r.mem m]
    unfold Rf.members
    rw [List.mem_map]
    constructor
    · intro hm
      have hid : mid m ∈ y.ids := adds_in _ (.inr (List.mem_map.2 ⟨m, hm, rfl⟩))
      obtain ⟨i, e1, e2, e3⟩ := hat _ hid
      refine ⟨mid m, hid, ?_⟩
      rw [e1, Int.toNat_natCast]
      exact id_eq r.nd (getD_mem e2) hm e3
    · rintro ⟨id, hid, rfl⟩
      obtain ⟨i, e1, e2, e3⟩ := hat _ hid
      rw [e1, Int.toNat_natCast]
      exact getD_mem e2
/-! flags -/
theorem flag_fin : ∀ f : Fin 32, ∀ on : Bool, ∀ le ∈ ([105, 109, 110, 115, 116] : List UInt8), (∀ c ∈ ([105, 109, 110, 115, 116] : List UInt8), decide (flagF f.val on le &&& bitN c ≠ 0) = if c = le then on else decide (f.val &&& bitN c ≠ 0)) ∧ (flagF f.val on le = f.val ↔ decide (f.val &&& bitN le ≠ 0) = on) := by decide +kernel
theorem bit_no {c : UInt8} (h : ¬ isFl c) : bitN c = 0 := by
  unfold isFl at h
  unfold bitN
  grind
theorem isFl_mem {c : UInt8} (h : isFl c) : c ∈ ([105, 109, 110, 115, 116] : List UInt8) := by simpa [isFl] using h
theorem Rm.flag_set {x : Rm} (ok : x.ok) {le : UInt8} (hl : isFl le) (on : Bool) (c : UInt8) : (x.setFlag on le).flag c = if c = le then on else x.flag c := by
  have fl := ok.flg
  have hq := (flag_fin ⟨x.flags.toNat, by omega⟩ on le (isFl_mem hl)).1
  unfold Rm.flag Rm.setFlag
  dsimp only at hq ⊢
  rw [Int.toNat_natCast]
  by_cases hc : isFl c
  · exact hq c (isFl_mem hc)
  · rw [bit_no hc, if_neg (fun e : c = le => hc (e ▸ hl))]; simp
theorem Rm.flag_is {x : Rm} (ok : x.ok) {le : UInt8} (hl : isFl le) (on : Bool) : flagF x.flags.toNat on le = x.flags.toNat ↔ x.flag le = on := by
  have fl := ok.flg
  exact (flag_fin ⟨x.flags.toNat, by omega⟩ on le (isFl_mem hl)).2
theorem lastN_cases (p : List UInt8 → Bool) (l : List (List UInt8)) : ∀ n, (lastN p l n = -1 ∧ ∀ j < n, p (l.getD j default) = false) ∨ ∃ i < n, lastN p l n = i ∧ p (l.getD i default) = true
  | 0 => .inl ⟨rfl, fun j hj => by omega⟩
  | n + 1 => by
    unfold lastN
    split
    · rename_i h; exact .inr ⟨n, by omega, rfl, h⟩
    · rename_i h
      rcases lastN_cases p l n with ⟨h1, h2⟩ | ⟨i, h1, h2, h3⟩
      · refine .inl ⟨h1, fun j hj => ?_⟩
        rcases Nat.lt_or_ge j n with h4 | h4
        · exact h2 j h4
        · obtain rfl : j = n := by omega
          simpa using h
      · exact .inr ⟨i, by omega, h2, h3⟩
theorem idxP_cases (p : List UInt8 → Bool) (l : List (List UInt8)) : (idxP p l = -1 ∧ ∀ j < l.length, p (l.getD j default) = false) ∨ ∃ i < l.length, idxP p l = i ∧ p (l.getD i default) = true := by
  unfold idxP
  cases h : l.findIdx? p with
  | none =>
    rw [List.findIdx?_eq_none_iff] at h
    exact .inl ⟨rfl, fun j hj => h _ (getD_mem hj)⟩
  | some i =>
    rw [List.findIdx?_eq_some_iff_getElem] at h
    obtain ⟨hi, hp, _⟩ := h
    exact .inr ⟨i, hi, rfl, by simpa [hi] using hp⟩
theorem last_first {l : List (List UInt8)} (h : l.Pairwise fun a b => foldS a ≠ foldS b) (m : List UInt8) : lastN (fun s => decide (foldS s = foldS m)) l l.length = idxP (fun s => decide (foldS s = foldS m)) l := by
  rw [List.pairwise_iff_getElem] at h
  rcases lastN_cases (fun s => decide (foldS s = foldS m)) l l.length with ⟨h1, h2⟩ | ⟨i, h1, h2, h3⟩ <;> rcases idxP_cases (fun s => decide (foldS s = foldS m)) l with ⟨k1, k2⟩ | ⟨j, k1, k2, k3⟩
  · rw [h1, k1]
  · rw [h2 j k1] at k3; cases k3
  · rw [k2 i h1] at h3; cases h3
  · rw [h2, k2]
    simp only [decide_eq_true_eq] at h3 k3
    have e : i = j := by
      have hh := fun a b ha hb hab => h a b ha hb hab
      rcases Nat.lt_trichotomy i j with q | q | q
      · have := hh i j h1 k1 q
        simp only [List.getD_eq_getElem?_getD, h1, k1, List.getElem?_eq_getElem, Option.getD_some] at h3 k3
        exact absurd (h3.trans k3.symm) this
      · exact q
      · have := hh j i k1 h1 q
        simp only [List.getD_eq_getElem?_getD, h1, k1, List.getElem?_eq_getElem, Option.getD_some] at h3 k3
        exact absurd (k3.trans h3.symm) this
    rw [e]
theorem idx_far {l : List (List UInt8)} {m : List UInt8} (h : ¬ 0 ≤ idxP (fun s => decide (foldS s = foldS m)) l) : ∀ b ∈ l, foldS b ≠ foldS m := by
  rcases idxP_cases (fun s => decide (foldS s = foldS m)) l with ⟨h1, h2⟩ | ⟨i, h1, h2, h3⟩
  · intro b hb
    obtain ⟨j, hj, rfl⟩ := List.getElem_of_mem hb
    simpa [hj] using h2 j hj
  · omega
theorem Rel.banC {x : Rm} {y : Rf} (r : Rel x y) (on : Bool) (arg : List UInt8) : Rel (x.banC (on, 98, arg)).1 (y.banC (on, 98, arg)).1 ∧ (x.banC (on, 98, arg)).2 = (y.banC (on, 98, arg)).2 := by
  have hb := last_first r.bd (completeS (cleanS arg))
  have ha : y.banAt (completeS (cleanS arg)) = idxP (fun s => decide (foldS s = foldS (completeS (cleanS arg)))) x.bans := by rw [r.bans]; exact hb
  unfold Rm.banC Rf.banC
  dsimp only
  rw [ha]
  by_cases c1 : arg = [] ∨ 100 < (completeS (cleanS arg)).length ∨ (completeS (cleanS arg)).contains 32 = true
  · rw [if_pos c1, if_pos c1]; exact ⟨r, rfl⟩
  rw [if_neg c1, if_neg c1]
  by_cases hi : 0 ≤ idxP (fun s => decide (foldS s = foldS (completeS (cleanS arg)))) x.bans
  · cases on with
    | true => rw [if_pos (by simp [hi]), if_pos rfl, if_pos hi]; exact ⟨r, rfl⟩
    | false =>
      rw [if_neg (by simp [hi]), if_neg (by simp), if_neg (by simp), if_neg (by omega)]
      refine ⟨⟨r.mem, r.nd, r.fl, by dsimp only; rw [r.bans], ?_, r.top, r.key, r.lim, r.mb, r.nm⟩, by dsimp only; rw [r.bans]⟩
      dsimp only
      refine List.Pairwise.sublist ?_ r.bd
      rw [← List.eraseIdx_eq_take_drop_succ]
      exact List.eraseIdx_sublist ..
  · cases on with
    | false => rw [if_pos (by simp; omega), if_neg (by simp), if_pos (by omega)]; exact ⟨r, rfl⟩
    | true =>
      rw [if_neg (by simp; omega), if_pos rfl, if_pos rfl, if_neg hi, r.mb, r.bans]
      by_cases c4 : y.mb ≤ y.bans.length
      · rw [if_pos c4, if_pos c4]; exact ⟨r, rfl⟩
      · rw [if_neg c4, if_neg c4]
        refine ⟨⟨r.mem, r.nd, r.fl, rfl, ?_, r.top, r.key, r.lim, rfl, r.nm⟩, rfl⟩
        dsimp only
        rw [List.pairwise_append]
        refine ⟨r.bd, List.pairwise_singleton .., fun a hm b hb => ?_⟩
        rw [List.mem_singleton.1 hb]
        rw [r.bans] at hi
        exact idx_far hi a hm
theorem Rel.change {x : Rm} {y : Rf} (r : Rel x y) (ok : x.ok) (c : Chg) (id : Int) : Rel (x.change c id).1 (y.change c id).1 ∧ (x.change c id).2 = (y.change c id).2 := by
  obtain ⟨on, le, arg⟩ := c
  unfold Rm.change Rf.change
  dsimp only
  by_cases h1 : isFl le
  · rw [if_pos (show le = 105 ∨ le = 109 ∨ le = 110 ∨ le = 115 ∨ le = 116 from h1), if_pos h1]
    have hq := Rm.flag_is ok h1 on
    unfold Rm.flagC
    by_cases hf : x.flag le = on
    · rw [if_pos (hq.2 hf), if_pos (by rw [← r.fl]; exact hf)]
      have e : x.setFlag on le = x := by
        unfold Rm.setFlag
        rw [hq.2 hf]
        have : ((x.flags.toNat : Nat) : Int) = x.flags := by have := ok.flg; omega
        rw [this]
      dsimp only
      rw [e]
      exact ⟨r, rfl⟩
    · rw [if_neg (fun h => hf (hq.1 h)), if_neg (by rw [← r.fl]; exact hf)]
      refine ⟨⟨r.mem, r.nd, fun c => ?_, r.bans, r.bd, r.top, r.key, r.lim, r.mb, r.nm⟩, rfl⟩
      rw [Rm.flag_set ok h1, r.fl]
      unfold Rf.flag
      dsimp only
      rw [Bool.eq_iff_iff, List.contains_iff_mem, List.mem_append, List.mem_filter]
      by_cases hc : c = le
      · subst hc
        cases on <;> simp
      · rw [if_neg hc, List.contains_iff_mem]
        cases on <;> simp [hc]
  rw [if_neg (show ¬ (le = 105 ∨ le = 109 ∨ le = 110 ∨ le = 115 ∨ le = 116) from h1), if_neg h1]
  by_cases h2 : le = 111 ∨ le = 118
  · rw [if_pos h2, if_pos h2]
    unfold Rm.setRank Rm.rankC
    dsimp only
    rcases r.has id with ⟨hh, ha⟩ | ⟨hh, i, ha, hi, he, hid⟩
    · have hh' : ¬ hasBy mid x.mem id = true := by unfold Rm.has at hh; simp [hh]
      rw [if_neg hh', if_neg hh', if_pos (by omega)]
      exact ⟨r, rfl⟩
    · have hh' : hasBy mid x.mem id = true := hh
      rw [if_pos hh', if_pos hh', if_neg (by omega), ha, Int.toNat_natCast, he]
      have hlt := has_lt ok.ris hh'
      have ea : x.at id = x.mem.getD (rankBy mid x.mem id) default := by unfold Rm.at; rw [rank_find ok.ris hh']; rfl
      by_cases hc : memC (x.at id) le = on
      · rw [if_pos hc, if_pos hc]
        have es : memS (x.at id) le on = x.at id := by rw [← hc]; unfold memS memC; split <;> rfl
        rw [es, ea, set_id hlt]
        exact ⟨r, rfl⟩
      · rw [if_neg hc, if_neg hc]
        refine ⟨⟨fun m => ?_, ?_, r.fl, r.bans, r.bd, r.top, r.key, r.lim, r.mb, r.nm⟩, rfl⟩
        · dsimp only [Rf.setMem]
          rw [ha, Int.toNat_natCast, he]
          rw [set_mem ok.ris.ne hlt (id := id) (by rw [← ea]; exact (Rm.at_has hh).2), set_mem r.nd hi hid, r.mem m]
        · dsimp only [Rf.setMem]
          rw [ha, Int.toNat_natCast, he]
          have em : (y.l.set i (memS (x.at id) le on)).map mid = y.l.map mid := set_ids hi (by rw [he]; unfold memS; split <;> rfl)
          have hn := r.nd
          rw [show (fun a b : Mem => mid a ≠ mid b) = (fun a b => (fun u v : Int => u ≠ v) (mid a) (mid b)) from rfl, ← List.pairwise_map] at hn ⊢
          rw [em]; exact hn
  rw [if_neg h2, if_neg h2]
  by_cases h3 : le = 107
  · subst h3
    rw [if_pos rfl, if_pos rfl]
    unfold Rm.lockC
    dsimp only
    rw [r.key]
    cases on with
    | true =>
      by_cases hk : keyB arg = false ∨ y.key ≠ []
      · rw [if_pos ⟨rfl, hk⟩, if_pos rfl, if_pos hk]; exact ⟨r, rfl⟩
      · rw [if_neg (fun h => hk h.2), if_pos rfl, if_pos rfl, if_neg hk]
        exact ⟨⟨r.mem, r.nd, r.fl, r.bans, r.bd, r.top, rfl, r.lim, r.mb, r.nm⟩, rfl⟩
    | false =>
      rw [if_neg (show ¬ (false = true ∧ (keyB arg = false ∨ y.key ≠ [])) by simp), if_neg Bool.false_ne_true, if_neg Bool.false_ne_true]
      by_cases hk : y.key = []
      · rw [if_pos hk, if_pos hk]; exact ⟨r, rfl⟩
      · rw [if_neg hk, if_neg hk]
        exact ⟨⟨r.mem, r.nd, r.fl, r.bans, r.bd, r.top, rfl, r.lim, r.mb, r.nm⟩, rfl⟩
  rw [if_neg h3, if_neg h3]
  by_cases h4 : le = 108
  · subst h4
    rw [if_pos rfl, if_pos rfl]
    unfold Rm.limC
    dsimp only
    rw [r.lim]
    cases on with
    | true =>
      rw [if_pos rfl, if_pos rfl]
      by_cases hk : numS arg = 0 ∨ (numS arg : Int) = y.limit
      · rw [if_pos hk, if_pos hk]; exact ⟨r, rfl⟩
      · rw [if_neg hk, if_neg hk]
        exact ⟨⟨r.mem, r.nd, r.fl, r.bans, r.bd, r.top, r.key, rfl, r.mb, r.nm⟩, rfl⟩
    | false =>
      rw [if_neg Bool.false_ne_true, if_neg Bool.false_ne_true]
      by_cases hk : y.limit = 0
      · rw [if_pos hk, if_pos hk]; exact ⟨r, rfl⟩
      · rw [if_neg hk, if_neg hk]
        exact ⟨⟨r.mem, r.nd, r.fl, r.bans, r.bd, r.top, r.key, rfl, r.mb, r.nm⟩, rfl⟩
  rw [if_neg h4, if_neg h4]
  by_cases h5 : le = 98
  · subst h5
    rw [if_pos rfl, if_pos rfl]
    exact r.banC on arg
  · rw [if_neg h5, if_neg h5]
    exact ⟨r, rfl⟩
theorem Rel.act {x : Rm} {y : Rf} (r : Rel x y) (ok : x.ok) (a : Act) : Rel (x.act a) (y.act a) ∧ actB x y a = true := by
  unfold Rm.act Rf.act actB
  by_cases h1 : a.k = 1
  · rw [if_pos h1, if_pos h1, if_pos h1]
    unfold Rm.drop Rf.drop
    rcases r.has a.id with ⟨hh, ha⟩ | ⟨hh, i, ha, hi, he, hid⟩
    · rw [if_pos (by omega)]
      refine ⟨⟨fun m => ?_, r.nd, r.fl, r.bans, r.bd, r.top, r.key, r.lim, r.mb, r.nm⟩, by rw [hh, ha]; rfl⟩
      dsimp only
      rw [del_same hh]
      exact r.mem m
    · rw [if_neg (by omega), ha, Int.toNat_natCast]
      refine ⟨⟨fun m => ?_, ?_, r.fl, r.bans, r.bd, r.top, r.key, r.lim, r.mb, r.nm⟩, by rw [hh]; simp⟩
      · dsimp only
        rw [del_mem, List.mem_append, cut_mem r.nd hi hid, r.mem m]
      · dsimp only
        refine List.Pairwise.sublist ?_ r.nd
        rw [← List.eraseIdx_eq_take_drop_succ]
        exact List.eraseIdx_sublist ..
  rw [if_neg h1, if_neg h1, if_neg h1]
  by_cases h2 : a.k = 2
  · rw [if_pos h2, if_pos h2, if_neg (by omega)]
    exact ⟨⟨r.mem, r.nd, r.fl, r.bans, r.bd, rfl, r.key, r.lim, r.mb, r.nm⟩, rfl⟩
  rw [if_neg h2, if_neg h2]
  by_cases h3 : a.k = 3
  · rw [if_pos h3, if_pos h3, if_neg (by omega)]
    exact ⟨⟨r.mem, r.nd, r.fl, r.bans, r.bd, r.top, r.key, r.lim, r.mb, r.nm⟩, rfl⟩
  rw [if_neg h3, if_neg h3]
  by_cases h4 : a.k = 4
  · rw [if_pos h4, if_pos h4, if_pos h4]
    have h := r.change ok a.c a.id
    exact ⟨h.1, by simpa using h.2⟩
  rw [if_neg h4, if_neg h4, if_neg h4]
  refine ⟨?_, rfl⟩
  unfold Rm.add Rf.add
  rcases r.has a.id with ⟨hh, ha⟩ | ⟨hh, i, ha, hi, he, hid⟩
  · have hh' : ¬ hasBy mid x.mem a.id = true := by unfold Rm.has at hh; simp [hh]
    rw [if_neg hh', if_neg (by omega)]
    refine ⟨fun m => ?_, ?_, r.fl, r.bans, r.bd, r.top, r.key, r.lim, r.mb, r.nm⟩
    · dsimp only
      rw [ins_mem, List.mem_append, List.mem_singleton, r.mem m]
    · dsimp only
      rw [List.pairwise_append]
      refine ⟨r.nd, List.pairwise_singleton .., fun u hu b hb => ?_⟩
      rw [List.mem_singleton.1 hb]
      rcases y.at_cases a.id with ⟨_, h⟩ | ⟨i, h, _⟩
      · exact h u hu
      · omega
  · have hh' : hasBy mid x.mem a.id = true := hh
    rw [if_pos hh', if_pos (by omega)]
    exact r
theorem Rel.modes {x : Rm} {y : Rf} (r : Rel x y) (ok : x.ok) (all : Bool) : x.modes all = y.modes all := by
  have hl := ok.lim
  have fz : ∀ c, ¬ isFl c → x.flag c = false := fun c hc => by unfold Rm.flag; rw [bit_no hc]; simp
  have f1 : y.flag 107 = false := by rw [← r.fl]; exact fz _ (by decide)
  have f2 : y.flag 108 = false := by rw [← r.fl]; exact fz _ (by decide)
  have e1 : ∀ c, x.mOn c = y.mOn c := fun c => by
    unfold Rm.mOn Rf.mOn
    rw [r.fl c, r.key, r.lim]
    have : decide (0 < y.limit) = !decide (y.limit = 0) := by
      have := r.lim
      by_cases h : y.limit = 0
      · simp [h]
      · simp [h]; omega
    rw [this]
    cases y.flag c <;> cases decide (c = 107) <;> cases decide (c = 108) <;> cases decide (y.key = []) <;> cases decide (y.limit = 0) <;> rfl
  have e2 : ∀ c, x.mArg1 all c = y.mArg1 all c := fun c => by
    unfold Rm.mArg1 Rf.mArg1
    rw [r.key, r.lim]
    by_cases h1 : c = 107
    · subst h1
      have : y.mOn 107 = !decide (y.key = []) := by unfold Rf.mOn; rw [f1]; simp
      rw [this]
      by_cases hk : y.key = [] <;> simp [hk]
    · rw [if_neg (show ¬ (c = 107 ∧ ¬ y.key = []) from fun h => h1 h.1), if_neg (show ¬ (y.mOn c = true ∧ c = 107) from fun h => h1 h.2)]
      by_cases h2 : c = 108
      · subst h2
        have : y.mOn 108 = !decide (y.limit = 0) := by unfold Rf.mOn; rw [f2]; simp
        rw [this]
        have hp : 0 < y.limit ↔ ¬ y.limit = 0 := by have := r.lim; omega
        by_cases hk : y.limit = 0
        · rw [if_neg (by simp [hk]), if_neg (by simp [hk])]
        · by_cases ha : all = true
          · simp [hk, ha, show 0 < y.limit from hp.2 hk]
          · simp [ha]
      · rw [if_neg (show ¬ (c = 108 ∧ 0 < y.limit ∧ all = true) from fun h => h2 h.1), if_neg (show ¬ (y.mOn c = true ∧ c = 108 ∧ all = true) from fun h => h2 h.2.1)]
  unfold Rm.modes Rf.modes Rm.mRow Rf.mRow Rm.mArg Rf.mArg
  rw [show x.mOn = y.mOn from funext e1, show x.mArg1 all = y.mArg1 all from funext e2]
end Go.Proofs.YtliknfpdgppjkaaGreatDoor

