import Derived.Test.YtapammcnagjigaaDoorTaK
set_option linter.all false
namespace Go.Proofs.YtapammcnagjigaaDoor
open Go.Vx Go.Lib
instance (priority := low) rdsF_of {w0 : World} {H H' : List SL} {v : Value} {size n : Nat} {xs : List Value} [r : RdsL w0 H v size n xs] [d : DropTo H' H] : RdsF w0 H' v size n xs := ⟨fun w h => r.rd w (Hv.drop h)⟩
/-! may tags be written? -/
def chkGo (seen : List (List UInt8)) : List Tag → Int
  | [] => 0
  | t :: ts => if nameE t.1 ≠ 0 then nameE t.1 else if (0 : UInt8) ∈ t.2 then 10 else if t.1 ∈ seen then 6 else chkGo (seen ++ [t.1]) ts
def checkT (l : List Tag) : Int := if l = [] then 9 else if chkGo [] l ≠ 0 then chkGo [] l else if 16 < l.length then 7 else 0
theorem chk_drop {l : List Tag} {i : Nat} (h : i < l.length) : chkGo (names (l.take i)) (l.drop i) =
    if nameE (l.getD i default).1 ≠ 0 then nameE (l.getD i default).1 else if (0 : UInt8) ∈ (l.getD i default).2 then 10 else if (l.getD i default).1 ∈ names (l.take i) then 6 else chkGo (names (l.take (i + 1))) (l.drop (i + 1)) := by
  have : l.drop i = l.getD i default :: l.drop (i + 1) := by
    rw [List.drop_eq_getElem_cons h]; congr 1; simp [h]
  rw [this, chkGo, take_snoc h]
  simp [names]
theorem names_take (l : List Tag) (i : Nat) : names (l.take i) = (names l).take i := by simp [names, List.map_take]
theorem atS_has {l : List Tag} {n : List UInt8} : 0 ≤ atS l n ↔ n ∈ names l := by
  unfold atS
  cases h : l.findIdx? fun t => decide (t.1 = n) with
  | none => have := findT_none.1 h; simp [this]
  | some i =>
    refine ⟨fun _ => ?_, fun _ => by simp⟩
    apply Classical.byContradiction
    intro hn
    rw [findT_none.2 hn] at h; cases h
theorem getD_mem {α : Type} [Inhabited α] {l : List α} {k : Nat} (h : k < l.length) : l.getD k default ∈ l := by
  rw [List.getD_eq_getElem?_getD, List.getElem?_eq_getElem h]; exact List.getElem_mem h
theorem idx_zero {v : List UInt8} : 0 ≤ idxB v 0 ↔ (0 : UInt8) ∈ v := by
  have := @idxB_neg v 0
  constructor
  · intro h
    apply Classical.byContradiction
    intro hn
    have := this.2 fun x hx e => hn (e ▸ hx)
    omega
  · intro h
    apply Classical.byContradiction
    intro hn
    exact this.1 (by omega) 0 h rfl
section
variable {K : Value → St → Prop} {w0 w : World} {H R : List SL} {ds : List Deferred} {x y : Value} {xs ys : List Tag} {n m : Nat} {zx zy : List Value} {nm : List UInt8}
set_option maxRecDepth 20000
set_option synthInstance.maxSize 100000
set_option synthInstance.maxHeartbeats 4000000
instance check_ok [o : Hv w0 H w] [rx : RdsF w0 H x 2 n zx] [ex : Encs encT zx xs] :
    Step (Cl P 56 #[x] K ⟨w, ds⟩) ((xs.length ≤ 1000 ∧ ∀ t ∈ xs, t.1.length ≤ 1000000 ∧ t.2.length ≤ 1000000) ∧ ∀ w', Hv w0 H w' → K (.int .i64 (checkT xs)) ⟨w', ds⟩) := ⟨fun ⟨⟨hl, hm⟩, h⟩ => by
  refine cl_ok (c56 (K := fun v w' => K v ⟨w', ds⟩) ?_ fun v w' h => ⟨v, rfl, h⟩)
  obtain rfl : n = xs.length := ex.len (rx.rd w o).len (by decide)
  obtain rfl := ex.eq
  have rlx := rx.loc
  unfold D56
  dsimp only
  repeat' (first | refine go ?_ | intro _ | refine And.intro (Sd.mk (by (first | exact fun _ => True.intro | exact And.intro (fun _ => True.intro) (fun _ _ => True.intro) | (intro hq; (first | exact True.intro | omega | (simp only [and_true]; omega) | (simp only [bl] at hq; (try simp only [and_true]); omega) | fail)) | exact And.intro (fun hq => by first | exact True.intro | omega | (simp only [and_true]; omega) | (simp only [bl] at hq; (try simp only [and_true]); omega) | fail) (fun hq hr => by first | exact True.intro | omega | (simp only [and_true]; omega) | (simp only [bl] at hq hr; omega) | (simp only [bl] at hr; omega) | fail) | fail))) ?_ | refine And.intro (by (first | omega | (unfold InR; omega) | decide | (simp only [ll]; omega))) ?_ | (refine And.intro (fun h1 => ?_) (fun h1 => ?_) <;> first | (exact absurd h1 (by decide)) | ((try rw [h1]); (try simp only [bl] at h1))) | dsimp only)
  · have : xs = [] := List.eq_nil_of_length_eq_zero (by omega)
    subst this
    exact h _ o
  have hne : xs ≠ [] := fun e => h1 (by rw [e]; rfl)
  unfold checkT at h
  rw [if_neg hne] at h
  refine ⟨fun y s => ∃ (i : Nat) (w' : World), y = .int .i64 i ∧ s = ⟨w', []⟩ ∧ i ≤ xs.length ∧ chkGo [] xs = chkGo (names (xs.take i)) (xs.drop i) ∧ Hv w0 H w',
    fun y s => match y with | .int _ z => xs.length - z.toNat | _ => 0, ⟨0, w, rfl, rfl, Nat.zero_le _, rfl, o⟩, ?_⟩
  rintro y s ⟨i, w1, rfl, rfl, hi, hp, o1⟩
  rcases Nat.lt_or_ge i xs.length with hlt | hge
  · rw [chk_drop hlt] at hp
    have hmi := hm (xs.getD i default) (by rw [List.getD_eq_getElem?_getD, List.getElem?_eq_getElem hlt]; exact List.getElem_mem hlt)
    obtain ⟨m1, m2⟩ := hmi
    have hz := @idx_zero (xs.getD i default).2
    have hti : (xs.take i).length = i := by simp; omega
    have hgv := getV_has (xs.take i) (xs.getD i default).1
    repeat' (first | refine go ?_ | intro _ | refine And.intro (Sd.mk (by (first | exact fun _ => True.intro | exact And.intro (fun _ => True.intro) (fun _ _ => True.intro) | (intro hq; (first | exact True.intro | omega | (simp only [and_true]; omega) | (simp only [bl] at hq; (try simp only [and_true]); omega) | fail)) | exact And.intro (fun hq => by first | exact True.intro | omega | (simp only [and_true]; omega) | (simp only [bl] at hq; (try simp only [and_true]); omega) | fail) (fun hq hr => by first | exact True.intro | omega | (simp only [and_true]; omega) | (simp only [bl] at hq hr; omega) | (simp only [bl] at hr; omega) | fail) | fail))) ?_ | refine And.intro (by (first | omega | (unfold InR; omega) | decide | (simp only [ll]; omega))) ?_ | (refine And.intro (fun h1 => ?_) (fun h1 => ?_) <;> first | (exact absurd h1 (by decide)) | ((try rw [h1]); (try simp only [bl] at h1))) | dsimp only)
    · rw [if_pos h1] at hp
      rw [hp, if_pos h1] at h
      exact h _ (Sub.hv subEnd)
    · rename_i hn0
      rw [if_neg (fun q => q hn0), if_pos (hz.1 h1)] at hp
      rw [hp] at h
      exact h _ (Sub.hv subEnd)
    · rename_i v2 hsub
      have hn0 : nameE (xs.getD i default).1 = 0 := by assumption
      have hz0 : ¬ (0 : UInt8) ∈ (xs.getD i default).2 := fun q => by have := hz.2 q; omega
      rw [if_neg (fun q => q hn0), if_neg hz0] at hp
      have rf : RdsF w0 H v2 2 (i - 0) ((xs.take i).flatMap encT) := by
        have := RdsF.part (enc := encT) (fun _ => rfl) rx hsub
        simpa using this
      have rlf := rf.loc
      clear hsub
      repeat' (first | refine go ?_ | intro _ | refine And.intro (Sd.mk (by (first | exact fun _ => True.intro | exact And.intro (fun _ => True.intro) (fun _ _ => True.intro) | (intro hq; (first | exact True.intro | omega | (simp only [and_true]; omega) | (simp only [bl] at hq; (try simp only [and_true]); omega) | fail)) | exact And.intro (fun hq => by first | exact True.intro | omega | (simp only [and_true]; omega) | (simp only [bl] at hq; (try simp only [and_true]); omega) | fail) (fun hq hr => by first | exact True.intro | omega | (simp only [and_true]; omega) | (simp only [bl] at hq hr; omega) | (simp only [bl] at hr; omega) | fail) | fail))) ?_ | refine And.intro (by (first | omega | (unfold InR; omega) | decide | (simp only [ll]; omega))) ?_ | (refine And.intro (fun h1 => ?_) (fun h1 => ?_) <;> first | (exact absurd h1 (by decide)) | ((try rw [h1]); (try simp only [bl] at h1))) | dsimp only)
      · rw [if_pos (hgv.1 h1)] at hp
        rw [hp] at h
        exact h _ (Sub.hv subEnd)
      · have hnm : ¬ (xs.getD i default).1 ∈ names (xs.take i) := fun q => by rw [hgv.2 q] at h1; cases h1
        rw [if_neg hnm] at hp
        exact ⟨⟨i + 1, _, rfl, rfl, hlt, hp, Sub.hv subEnd⟩, by simp; omega⟩
    · exfalso; omega
  · rw [List.drop_of_length_le hge, chkGo] at hp
    rw [hp, if_neg (by decide)] at h
    repeat' (first | refine go ?_ | intro _ | refine And.intro (Sd.mk (by (first | exact fun _ => True.intro | exact And.intro (fun _ => True.intro) (fun _ _ => True.intro) | (intro hq; (first | exact True.intro | omega | (simp only [and_true]; omega) | (simp only [bl] at hq; (try simp only [and_true]); omega) | fail)) | exact And.intro (fun hq => by first | exact True.intro | omega | (simp only [and_true]; omega) | (simp only [bl] at hq; (try simp only [and_true]); omega) | fail) (fun hq hr => by first | exact True.intro | omega | (simp only [and_true]; omega) | (simp only [bl] at hq hr; omega) | (simp only [bl] at hr; omega) | fail) | fail))) ?_ | refine And.intro (by (first | omega | (unfold InR; omega) | decide | (simp only [ll]; omega))) ?_ | (refine And.intro (fun h1 => ?_) (fun h1 => ?_) <;> first | (exact absurd h1 (by decide)) | ((try rw [h1]); (try simp only [bl] at h1))) | dsimp only)
    · exfalso; omega
    · rw [if_pos (by omega)] at h
      exact h _ (Sub.hv subEnd)
    · rw [if_neg (by omega)] at h
      exact h _ (Sub.hv subEnd)⟩
instance checkR_ok [o : Hv w0 H w] [rx : RdsF w0 H x 2 n zx] [ex : Encs encT zx xs] :
    Step (Cl P 51 #[x] K ⟨w, ds⟩) ((xs.length ≤ 1000 ∧ ∀ t ∈ xs, t.1.length ≤ 1000000 ∧ t.2.length ≤ 1000000) ∧ ∀ w', Hv w0 H w' → K (.int .i64 (checkT xs)) ⟨w', ds⟩) := ⟨fun ⟨⟨hl, hm⟩, h⟩ => by
  refine cl_ok (c51 (K := fun v w' => K v ⟨w', ds⟩) ?_ fun v w' h => ⟨v, rfl, h⟩)
  obtain rfl : n = xs.length := ex.len (rx.rd w o).len (by decide)
  obtain rfl := ex.eq
  have rlx := rx.loc
  unfold D51
  dsimp only
  repeat' (first | refine go ?_ | intro _ | refine And.intro (Sd.mk (by (first | exact fun _ => True.intro | exact And.intro (fun _ => True.intro) (fun _ _ => True.intro) | (intro hq; (first | exact True.intro | omega | (simp only [and_true]; omega) | (simp only [bl] at hq; (try simp only [and_true]); omega) | fail)) | exact And.intro (fun hq => by first | exact True.intro | omega | (simp only [and_true]; omega) | (simp only [bl] at hq; (try simp only [and_true]); omega) | fail) (fun hq hr => by first | exact True.intro | omega | (simp only [and_true]; omega) | (simp only [bl] at hq hr; omega) | (simp only [bl] at hr; omega) | fail) | fail))) ?_ | refine And.intro (by (first | omega | (unfold InR; omega) | decide | (simp only [ll]; omega))) ?_ | (refine And.intro (fun h1 => ?_) (fun h1 => ?_) <;> first | (exact absurd h1 (by decide)) | ((try rw [h1]); (try simp only [bl] at h1))) | dsimp only)
  · have : xs = [] := List.eq_nil_of_length_eq_zero (by omega)
    subst this
    exact h _ o
  have hne : xs ≠ [] := fun e => h1 (by rw [e]; rfl)
  unfold checkT at h
  rw [if_neg hne] at h
  refine ⟨fun y s => ∃ (i : Nat) (w' : World), y = .int .i64 i ∧ s = ⟨w', []⟩ ∧ i ≤ xs.length ∧ chkGo [] xs = chkGo (names (xs.take i)) (xs.drop i) ∧ Hv w0 H w',
    fun y s => match y with | .int _ z => xs.length - z.toNat | _ => 0, ⟨0, w, rfl, rfl, Nat.zero_le _, rfl, o⟩, ?_⟩
  rintro y s ⟨i, w1, rfl, rfl, hi, hp, o1⟩
  rcases Nat.lt_or_ge i xs.length with hlt | hge
  · rw [chk_drop hlt] at hp
    have hmi := hm (xs.getD i default) (by rw [List.getD_eq_getElem?_getD, List.getElem?_eq_getElem hlt]; exact List.getElem_mem hlt)
    obtain ⟨m1, m2⟩ := hmi
    have hti : (xs.take i).length = i := by simp; omega
    have hat := @atS_has (xs.take i) (xs.getD i default).1
    repeat' (first | refine go ?_ | intro _ | refine And.intro (Sd.mk (by (first | exact fun _ => True.intro | exact And.intro (fun _ => True.intro) (fun _ _ => True.intro) | (intro hq; (first | exact True.intro | omega | (simp only [and_true]; omega) | (simp only [bl] at hq; (try simp only [and_true]); omega) | fail)) | exact And.intro (fun hq => by first | exact True.intro | omega | (simp only [and_true]; omega) | (simp only [bl] at hq; (try simp only [and_true]); omega) | fail) (fun hq hr => by first | exact True.intro | omega | (simp only [and_true]; omega) | (simp only [bl] at hq hr; omega) | (simp only [bl] at hr; omega) | fail) | fail))) ?_ | refine And.intro (by (first | omega | (unfold InR; omega) | decide | (simp only [ll]; omega))) ?_ | (refine And.intro (fun h1 => ?_) (fun h1 => ?_) <;> first | (exact absurd h1 (by decide)) | ((try rw [h1]); (try simp only [bl] at h1))) | dsimp only)
    · rw [if_pos h1] at hp
      rw [hp, if_pos h1] at h
      exact h _ (Sub.hv subEnd)
    · have hn0 := h1
      rw [if_neg (fun q => q hn0)] at hp
      rename_i w2 o2
      refine ⟨fun y s => ∃ (k : Nat), y = .int .i64 k ∧ s = ⟨w2, []⟩ ∧ k ≤ (xs.getD i default).2.length ∧ ∀ j < k, (xs.getD i default).2.getD j default ≠ 0,
        fun y s => match y with | .int _ z => (xs.getD i default).2.length - z.toNat | _ => 0, ⟨0, rfl, rfl, Nat.zero_le _, fun j h => by omega⟩, ?_⟩
      rintro y s ⟨k, rfl, rfl, hk, hno⟩
      have hz0 : (xs.getD i default).2.length ≤ k → ¬ (0 : UInt8) ∈ (xs.getD i default).2 := fun q hm => by
        obtain ⟨j, hj, e⟩ := List.getElem_of_mem hm
        have q2 := q
        refine hno j (Nat.lt_of_lt_of_le hj q2) ?_
        rw [List.getD_eq_getElem?_getD, List.getElem?_eq_getElem hj]; exact e
      repeat' (first | refine go ?_ | intro _ | refine And.intro (Sd.mk (by (first | exact fun _ => True.intro | exact And.intro (fun _ => True.intro) (fun _ _ => True.intro) | (intro hq; (first | exact True.intro | omega | (simp only [and_true]; omega) | (simp only [bl] at hq; (try simp only [and_true]); omega) | fail)) | exact And.intro (fun hq => by first | exact True.intro | omega | (simp only [and_true]; omega) | (simp only [bl] at hq; (try simp only [and_true]); omega) | fail) (fun hq hr => by first | exact True.intro | omega | (simp only [and_true]; omega) | (simp only [bl] at hq hr; omega) | (simp only [bl] at hr; omega) | fail) | fail))) ?_ | refine And.intro (by (first | omega | (unfold InR; omega) | decide | (simp only [ll]; omega))) ?_ | (refine And.intro (fun h1 => ?_) (fun h1 => ?_) <;> first | (exact absurd h1 (by decide)) | ((try rw [h1]); (try simp only [bl] at h1))) | dsimp only)
      · have hz1 : (0 : UInt8) ∈ (xs.getD i default).2 := by
          have := getD_mem (show k < (xs.getD i default).2.length by omega)
          rwa [h1] at this
        rw [if_pos hz1] at hp
        rw [hp] at h
        exact h _ (Sub.hv subEnd)
      · refine ⟨⟨k + 1, rfl, rfl, by omega, fun j hj => ?_⟩, (show (xs.getD i default).2.length - ((k : Int) + 1).toNat < (xs.getD i default).2.length - ((k : Int)).toNat by omega)⟩
        rcases Nat.lt_or_ge j k with q | q
        · exact hno j q
        · obtain rfl : j = k := by omega
          exact h1
      · rename_i v2 hsub _ _
        rw [if_neg (hz0 (by omega))] at hp
        have rf : RdsF w0 H v2 2 (i - 0) ((xs.take i).flatMap encT) := by
          have := RdsF.part (enc := encT) (fun _ => rfl) rx hsub
          simpa using this
        have rlf := rf.loc
        clear hsub
        repeat' (first | refine go ?_ | intro _ | refine And.intro (Sd.mk (by (first | exact fun _ => True.intro | exact And.intro (fun _ => True.intro) (fun _ _ => True.intro) | (intro hq; (first | exact True.intro | omega | (simp only [and_true]; omega) | (simp only [bl] at hq; (try simp only [and_true]); omega) | fail)) | exact And.intro (fun hq => by first | exact True.intro | omega | (simp only [and_true]; omega) | (simp only [bl] at hq; (try simp only [and_true]); omega) | fail) (fun hq hr => by first | exact True.intro | omega | (simp only [and_true]; omega) | (simp only [bl] at hq hr; omega) | (simp only [bl] at hr; omega) | fail) | fail))) ?_ | refine And.intro (by (first | omega | (unfold InR; omega) | decide | (simp only [ll]; omega))) ?_ | (refine And.intro (fun h1 => ?_) (fun h1 => ?_) <;> first | (exact absurd h1 (by decide)) | ((try rw [h1]); (try simp only [bl] at h1))) | dsimp only)
        · rw [if_pos (hat.1 h1)] at hp
          rw [hp] at h
          exact h _ (Sub.hv subEnd)
        · have hnm : ¬ (xs.getD i default).1 ∈ names (xs.take i) := fun q => by have := hat.2 q; omega
          rw [if_neg hnm] at hp
          exact ⟨⟨i + 1, _, rfl, rfl, hlt, hp, Sub.hv subEnd⟩, by simp; omega⟩
    · exfalso; omega
  · rw [List.drop_of_length_le hge, chkGo] at hp
    rw [hp, if_neg (by decide)] at h
    repeat' (first | refine go ?_ | intro _ | refine And.intro (Sd.mk (by (first | exact fun _ => True.intro | exact And.intro (fun _ => True.intro) (fun _ _ => True.intro) | (intro hq; (first | exact True.intro | omega | (simp only [and_true]; omega) | (simp only [bl] at hq; (try simp only [and_true]); omega) | fail)) | exact And.intro (fun hq => by first | exact True.intro | omega | (simp only [and_true]; omega) | (simp only [bl] at hq; (try simp only [and_true]); omega) | fail) (fun hq hr => by first | exact True.intro | omega | (simp only [and_true]; omega) | (simp only [bl] at hq hr; omega) | (simp only [bl] at hr; omega) | fail) | fail))) ?_ | refine And.intro (by (first | omega | (unfold InR; omega) | decide | (simp only [ll]; omega))) ?_ | (refine And.intro (fun h1 => ?_) (fun h1 => ?_) <;> first | (exact absurd h1 (by decide)) | ((try rw [h1]); (try simp only [bl] at h1))) | dsimp only)
    · exfalso; omega
    · rw [if_pos (by omega)] at h
      exact h _ (Sub.hv subEnd)
    · rw [if_neg (by omega)] at h
      exact h _ (Sub.hv subEnd)⟩
/-! the text of tags -/
def pieceT (t : Tag) : List UInt8 := t.1 ++ (if t.2 = [] then [] else [61] ++ escS t.2)
def joinT (ps : List (List UInt8)) : List UInt8 := ([59] : List UInt8).intercalate ps
def textT (l : List Tag) : List UInt8 := if checkT l ≠ 0 then [] else joinT (l.map pieceT)
theorem joinT_snoc (ps : List (List UInt8)) (p : List UInt8) : joinT (ps ++ [p]) = (if ps = [] then [] else joinT ps ++ [59]) ++ p := by
  induction ps with
  | nil => simp [joinT, List.intercalate]
  | cons q ps ih =>
    rw [if_neg (by simp)]
    cases ps with
    | nil => simp [joinT, List.intercalate]
    | cons r ps =>
      rw [if_neg (by simp)] at ih
      simp only [joinT, List.intercalate, List.cons_append] at ih ⊢
      simp only [List.intersperse_cons_cons, List.flatten_cons, List.append_assoc] at ih ⊢
      rw [ih]
end
end Go.Proofs.YtapammcnagjigaaDoor
