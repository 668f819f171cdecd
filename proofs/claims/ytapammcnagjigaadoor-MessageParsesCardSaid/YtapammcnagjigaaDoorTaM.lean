import Derived.Test.YtapammcnagjigaaDoorTaL
set_option linter.all false
namespace Go.Proofs.YtapammcnagjigaaDoor
open Go.Vx Go.Lib
theorem join_eq (ss : List (List UInt8)) : Lib.join ss [59] = joinT ss := rfl
section
variable {K : Value → St → Prop} {w0 w : World} {H R : List SL} {ds : List Deferred} {x y : Value} {xs ys : List Tag} {n m : Nat} {zx zy : List Value} {nm : List UInt8} {ss : List (List UInt8)}
instance join_ok [o : Hv w0 H w] [r : RowIn H x 9 1 n zx R] [es : Strs zx ss] :
    Step (Cl P 112 #[x, str [59]] K ⟨w, ds⟩) ((ss.length ≤ 100000 ∧ (joinT ss).length ≤ 1000000) ∧ ∀ w', Hv w0 H w' → K (str (joinT ss)) ⟨w', ds⟩) := ⟨fun ⟨⟨hss, hl⟩, h⟩ => by
  obtain rfl := es.eq
  have o1 := Hv.perm r.perm o
  obtain ⟨S, hS, _, hr, h1⟩ := o1.ok
  have hn : ss.length = n := by have := hr.1; simpa using this
  rcases hr.2 with ⟨rfl, h0⟩ | ⟨g, cap, cur, rfl, hb, hg, hnc, hcm, hcs, ht⟩
  · have e : ss = [] := List.eq_nil_of_length_eq_zero (by omega)
    subst e
    refine cl_ok ((Tryd.strings_Join_none none 0 ⟨#[59]⟩ w).mono fun e w' ⟨he, hw⟩ => ?_)
    subst hw
    exact ⟨_, he, h _ o⟩
  · subst hn
    have hlen : (ss.map fun s => (⟨s.toArray⟩ : ByteArray)).length = ss.length := by simp
    have hmap : (ss.map fun s => (⟨s.toArray⟩ : ByteArray)).map (·.data.toList) = ss := by simp [Function.comp_def]
    have hJ := Tryd.strings_Join g 0 cap (ss.map fun s => ⟨s.toArray⟩) ⟨#[59]⟩ w (fun j x hx => by
      have hj : j < ss.length := by
        have := (List.getElem?_eq_some_iff.1 hx).1; simpa using this
      have hc := hr.cellAt j (by omega)
      rw [Nat.zero_add, hc]
      simp [hj] at hx ⊢
      exact hx) (Array.getElem?_eq_some_iff.1 hg).1 (by rw [hlen]; omega) (by rw [hlen]; omega) (by rw [hmap]; show (joinT ss).length ≤ _; omega)
    rw [hlen, hmap] at hJ
    refine cl_ok (hJ.mono fun e w' ⟨he, hw⟩ => ?_)
    exact ⟨_, he, h _ (o.call (G := []) ⟨hw, emp, fun _ h => h.elim, fun _ h => h⟩)⟩⟩
def fits (l : List Tag) : Prop := l.length ≤ 100 ∧ ∀ t ∈ l, t.1.length ≤ 1000 ∧ t.2.length ≤ 1000
theorem piece_len {t : Tag} (h : t.1.length ≤ 1000 ∧ t.2.length ≤ 1000) : (pieceT t).length ≤ 3001 := by
  have := escS_len t.2
  unfold pieceT; split <;> simp <;> omega
theorem join_len (ps : List (List UInt8)) (h : ∀ p ∈ ps, p.length ≤ 3001) : (joinT ps).length ≤ 3002 * ps.length := by
  induction ps with
  | nil => simp [joinT, List.intercalate]
  | cons p ps ih =>
    have h1 := h p (List.mem_cons_self ..)
    have h2 := ih fun q hq => h q (List.mem_cons_of_mem _ hq)
    cases ps with
    | nil => simp [joinT, List.intercalate]; omega
    | cons q ps =>
      simp only [joinT, List.intercalate, List.intersperse_cons_cons, List.flatten_cons, List.length_append, List.length_cons, List.length_nil] at h2 ⊢
      omega
theorem joinp_len {l : List Tag} (h : fits l) (i : Nat) : (joinT ((l.take i).map pieceT)).length ≤ 310000 := by
  have h1 := join_len ((l.take i).map pieceT) fun p hp => by
    obtain ⟨t, ht, rfl⟩ := List.mem_map.1 hp
    exact piece_len (h.2 t (List.mem_of_mem_take ht))
  have h2 := h.1
  rw [List.length_map, List.length_take] at h1
  omega
theorem fits_at {l : List Tag} (h : fits l) {i : Nat} (hi : i < l.length) : (l.getD i default).1.length ≤ 1000 ∧ (l.getD i default).2.length ≤ 1000 := h.2 _ (getD_mem hi)
set_option maxRecDepth 20000
set_option synthInstance.maxSize 100000
set_option synthInstance.maxHeartbeats 4000000
instance text_ok [o : Hv w0 H w] [rx : RdsF w0 H x 2 n zx] [ex : Encs encT zx xs] :
    Step (Cl P 103 #[x] K ⟨w, ds⟩) (fits xs ∧ ∀ w', Hv w0 H w' → K (str (textT xs)) ⟨w', ds⟩) := ⟨fun ⟨hf, h⟩ => by
  refine cl_ok (c103 (K := fun v w' => K v ⟨w', ds⟩) ?_ fun v w' h => ⟨v, rfl, h⟩)
  obtain rfl : n = xs.length := ex.len (rx.rd w o).len (by decide)
  obtain rfl := ex.eq
  have rlx := rx.loc
  unfold D103
  dsimp only
  refine go (And.intro ⟨by have := hf.1; omega, fun t ht => by have := hf.2 t ht; omega⟩ ?_)
  intro w1 o1
  unfold textT at h
  have hl := hf.1
  repeat' (first | refine go ?_ | intro _ | refine And.intro (Sd.mk (by (first | exact fun _ => True.intro | exact And.intro (fun _ => True.intro) (fun _ _ => True.intro) | (intro hq; (first | exact True.intro | omega | (simp only [and_true]; omega) | (simp only [bl] at hq; (try simp only [and_true]); omega) | fail)) | exact And.intro (fun hq => by first | exact True.intro | omega | (simp only [and_true]; omega) | (simp only [bl] at hq; (try simp only [and_true]); omega) | fail) (fun hq hr => by first | exact True.intro | omega | (simp only [and_true]; omega) | (simp only [bl] at hq hr; omega) | (simp only [bl] at hr; omega) | fail) | fail))) ?_ | refine And.intro (by (first | omega | (unfold InR; omega) | decide | (simp only [ll]; omega))) ?_ | (refine And.intro (fun h1 => ?_) (fun h1 => ?_) <;> first | (exact absurd h1 (by decide)) | ((try rw [h1]); (try simp only [bl] at h1))) | dsimp only)
  · rw [if_pos h1] at h; exact h _ o1
  · rw [if_neg (fun q => q h1)] at h
    refine ⟨fun x y s => ∃ (i : Nat) (w' : World), y = .int .i64 i ∧ s = ⟨w', []⟩ ∧ i ≤ xs.length ∧ Hv w0 (row 9 1 x i (((xs.take i).map pieceT).map str) :: H) w',
      fun _ y s => match y with | .int _ z => xs.length - z.toNat | _ => 0, ⟨0, w1, rfl, rfl, Nat.zero_le _, Hv.nilRow 9 1 o1⟩, ?_⟩
    clear o1
    rintro y z s ⟨i, w2, rfl, rfl, hi, o2⟩
    rcases Nat.lt_or_ge i xs.length with hlt | hge
    · have hfa := fits_at hf hlt
      obtain ⟨m1, m2⟩ := hfa
      have hes := escS_len (xs.getD i default).2
      have ht : (xs.take (i + 1)).map pieceT = (xs.take i).map pieceT ++ [pieceT (xs.getD i default)] := by
        rw [take_snoc hlt, List.map_append]; rfl
      have hpc : pieceT (xs.getD i default) = (xs.getD i default).1 ++ (if (xs.getD i default).2 = [] then [] else [61] ++ escS (xs.getD i default).2) := rfl
      have q1 : ([61] : List UInt8).length = 1 := rfl
      repeat' (first | refine go ?_ | intro _ | refine And.intro (Sd.mk (by (first | exact fun _ => True.intro | exact And.intro (fun _ => True.intro) (fun _ _ => True.intro) | (intro hq; (first | exact True.intro | omega | (simp only [and_true]; omega) | (simp only [bl] at hq; (try simp only [and_true]); omega) | fail)) | exact And.intro (fun hq => by first | exact True.intro | omega | (simp only [and_true]; omega) | (simp only [bl] at hq; (try simp only [and_true]); omega) | fail) (fun hq hr => by first | exact True.intro | omega | (simp only [and_true]; omega) | (simp only [bl] at hq hr; omega) | (simp only [bl] at hr; omega) | fail) | fail))) ?_ | refine And.intro (by (first | omega | (unfold InR; omega) | decide | (simp only [ll]; omega))) ?_ | (refine And.intro (fun h1 => ?_) (fun h1 => ?_) <;> first | (exact absurd h1 (by decide)) | ((try rw [h1]); (try simp only [bl] at h1))) | dsimp only)
      · refine ⟨⟨i + 1, _, rfl, rfl, hlt, Sub.hv (subRow rfl ?_ subEnd)⟩, by simp; omega⟩
        rw [ht, hpc, if_neg h1]; simp
      · refine ⟨⟨i + 1, _, rfl, rfl, hlt, Sub.hv (subRow rfl ?_ subEnd)⟩, by simp; omega⟩
        rw [ht, hpc, if_pos h1]; simp
      · exfalso; omega
    · have hil : ((xs.take i).map pieceT).length ≤ 100000 := by simp; omega
      have hjl := joinp_len hf i
      have hjl2 : (joinT ((xs.take i).map pieceT)).length ≤ 1000000 := by omega
      repeat' (first | refine go ?_ | intro _ | refine And.intro (Sd.mk (by (first | exact fun _ => True.intro | exact And.intro (fun _ => True.intro) (fun _ _ => True.intro) | (intro hq; (first | exact True.intro | omega | (simp only [and_true]; omega) | (simp only [bl] at hq; (try simp only [and_true]); omega) | fail)) | exact And.intro (fun hq => by first | exact True.intro | omega | (simp only [and_true]; omega) | (simp only [bl] at hq; (try simp only [and_true]); omega) | fail) (fun hq hr => by first | exact True.intro | omega | (simp only [and_true]; omega) | (simp only [bl] at hq hr; omega) | (simp only [bl] at hr; omega) | fail) | fail))) ?_ | refine And.intro (by (first | omega | (unfold InR; omega) | decide | (simp only [ll]; omega))) ?_ | (refine And.intro (fun h1 => ?_) (fun h1 => ?_) <;> first | (exact absurd h1 (by decide)) | ((try rw [h1]); (try simp only [bl] at h1))) | dsimp only)
      · exfalso; omega
      · rw [List.take_of_length_le hge]
        exact h _ (Sub.hv subEnd)⟩
instance textR_ok [o : Hv w0 H w] [rx : RdsF w0 H x 2 n zx] [ex : Encs encT zx xs] :
    Step (Cl P 96 #[x] K ⟨w, ds⟩) (fits xs ∧ ∀ w', Hv w0 H w' → K (str (textT xs)) ⟨w', ds⟩) := ⟨fun ⟨hf, h⟩ => by
  refine cl_ok (c96 (K := fun v w' => K v ⟨w', ds⟩) ?_ fun v w' h => ⟨v, rfl, h⟩)
  obtain rfl : n = xs.length := ex.len (rx.rd w o).len (by decide)
  obtain rfl := ex.eq
  have rlx := rx.loc
  unfold D96
  dsimp only
  refine go (And.intro ⟨by have := hf.1; omega, fun t ht => by have := hf.2 t ht; omega⟩ ?_)
  intro w1 o1
  unfold textT at h
  have hl := hf.1
  repeat' (first | refine go ?_ | intro _ | refine And.intro (Sd.mk (by (first | exact fun _ => True.intro | exact And.intro (fun _ => True.intro) (fun _ _ => True.intro) | (intro hq; (first | exact True.intro | omega | (simp only [and_true]; omega) | (simp only [bl] at hq; (try simp only [and_true]); omega) | fail)) | exact And.intro (fun hq => by first | exact True.intro | omega | (simp only [and_true]; omega) | (simp only [bl] at hq; (try simp only [and_true]); omega) | fail) (fun hq hr => by first | exact True.intro | omega | (simp only [and_true]; omega) | (simp only [bl] at hq hr; omega) | (simp only [bl] at hr; omega) | fail) | fail))) ?_ | refine And.intro (by (first | omega | (unfold InR; omega) | decide | (simp only [ll]; omega))) ?_ | (refine And.intro (fun h1 => ?_) (fun h1 => ?_) <;> first | (exact absurd h1 (by decide)) | ((try rw [h1]); (try simp only [bl] at h1))) | dsimp only)
  · rw [if_pos h1] at h; exact h _ o1
  · rw [if_neg (fun q => q h1)] at h
    refine ⟨fun x y s => ∃ (i : Nat) (w' : World), x = str (joinT ((xs.take i).map pieceT)) ∧ y = .int .i64 i ∧ s = ⟨w', []⟩ ∧ i ≤ xs.length ∧ Hv w0 H w',
      fun _ y s => match y with | .int _ z => xs.length - z.toNat | _ => 0, ⟨0, w1, rfl, rfl, rfl, Nat.zero_le _, o1⟩, ?_⟩
    clear o1
    rintro y z s ⟨i, w2, rfl, rfl, rfl, hi, o2⟩
    have hjl := joinp_len hf i
    rcases Nat.lt_or_ge i xs.length with hlt | hge
    · have hfa := fits_at hf hlt
      obtain ⟨m1, m2⟩ := hfa
      have hes := escS_len (xs.getD i default).2
      have ht : joinT ((xs.take (i + 1)).map pieceT) = (if i = 0 then [] else joinT ((xs.take i).map pieceT) ++ [59]) ++ pieceT (xs.getD i default) := by
        rw [take_snoc hlt, List.map_append, List.map_singleton, joinT_snoc]
        congr 1
        cases i with
        | zero => simp
        | succ i => rw [if_neg (by intro e; have := congrArg List.length e; rw [List.length_map, List.length_take, List.length_nil] at this; omega), if_neg (by omega)]
      have hj0 : i = 0 → joinT ((xs.take i).map pieceT) = [] := fun e => by subst e; rfl
      have hpc : pieceT (xs.getD i default) = (xs.getD i default).1 ++ (if (xs.getD i default).2 = [] then [] else [61] ++ escS (xs.getD i default).2) := rfl
      have q1 : ([61] : List UInt8).length = 1 := rfl
      have q2 : ([59] : List UInt8).length = 1 := rfl
      generalize joinT ((xs.take i).map pieceT) = out at *
      repeat' (first | refine go ?_ | intro _ | refine And.intro (Sd.mk (by (first | exact fun _ => True.intro | exact And.intro (fun _ => True.intro) (fun _ _ => True.intro) | (intro hq; (first | exact True.intro | omega | (simp only [and_true]; omega) | (simp only [bl] at hq; (try simp only [and_true]); omega) | fail)) | exact And.intro (fun hq => by first | exact True.intro | omega | (simp only [and_true]; omega) | (simp only [bl] at hq; (try simp only [and_true]); omega) | fail) (fun hq hr => by first | exact True.intro | omega | (simp only [and_true]; omega) | (simp only [bl] at hq hr; omega) | (simp only [bl] at hr; omega) | fail) | fail))) ?_ | refine And.intro (by (first | omega | (unfold InR; omega) | decide | (simp only [ll]; omega))) ?_ | (refine And.intro (fun h1 => ?_) (fun h1 => ?_) <;> first | (exact absurd h1 (by decide)) | ((try rw [h1]); (try simp only [bl] at h1))) | dsimp only)
      all_goals first
        | (exfalso; omega)
        | (refine ⟨⟨i + 1, _, ?_, rfl, rfl, hlt, Sub.hv subEnd⟩, by simp; omega⟩
           rw [ht, hpc]
           first
             | rw [if_neg (show ¬ i = 0 by omega), if_neg h1]; simp
             | rw [if_neg (show ¬ i = 0 by omega), if_pos h1]; simp
             | (have hi0 : i = 0 := by omega
                rw [hj0 hi0, if_pos hi0, if_neg h1]; simp)
             | (have hi0 : i = 0 := by omega
                rw [hj0 hi0, if_pos hi0, if_pos h1]; simp))
    · repeat' (first | refine go ?_ | intro _ | refine And.intro (Sd.mk (by (first | exact fun _ => True.intro | exact And.intro (fun _ => True.intro) (fun _ _ => True.intro) | (intro hq; (first | exact True.intro | omega | (simp only [and_true]; omega) | (simp only [bl] at hq; (try simp only [and_true]); omega) | fail)) | exact And.intro (fun hq => by first | exact True.intro | omega | (simp only [and_true]; omega) | (simp only [bl] at hq; (try simp only [and_true]); omega) | fail) (fun hq hr => by first | exact True.intro | omega | (simp only [and_true]; omega) | (simp only [bl] at hq hr; omega) | (simp only [bl] at hr; omega) | fail) | fail))) ?_ | refine And.intro (by (first | omega | (unfold InR; omega) | decide | (simp only [ll]; omega))) ?_ | (refine And.intro (fun h1 => ?_) (fun h1 => ?_) <;> first | (exact absurd h1 (by decide)) | ((try rw [h1]); (try simp only [bl] at h1))) | dsimp only)
      · exfalso; omega
      · rw [List.take_of_length_le hge]
        exact h _ (Sub.hv subEnd)⟩
end
end Go.Proofs.YtapammcnagjigaaDoor
