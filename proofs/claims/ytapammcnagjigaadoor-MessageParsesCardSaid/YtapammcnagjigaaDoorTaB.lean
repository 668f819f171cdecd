import Derived.Test.YtapammcnagjigaaDoorTaA
set_option linter.all false
namespace Go.Proofs.YtapammcnagjigaaDoor
open Go.Vx Go.Lib
/-! strings: IndexRune, IndexAny -/
instance valid_ok {w : World} {r : Int} : VT (Cl P 161 #[.int .i32 r]) w (.bool (validRune r)) := ⟨fun {K ds} h => by
  refine cl_ok ((Tryd.utf8_ValidRune r w).mono fun e w' ⟨he, hw⟩ => ?_)
  subst hw
  exact ⟨_, he, h⟩⟩
theorem Hv.pos {w0 w : World} {H : List SL} {b pos : Nat} {l : List UInt8} (o : Hv w0 (itr b l pos :: H) w) : w.iterPos b = pos := by
  have := o.at
  simp [World.iterPos, this]
theorem getD_low {l : List UInt8} (ha : ∀ b ∈ l, b.toNat < 128) (i : Nat) : (l.getD i default).toNat < 128 := by
  rcases Nat.lt_or_ge i l.length with h | h
  · rw [List.getD_eq_getElem?_getD, List.getElem?_eq_getElem h]; exact ha _ (List.getElem_mem h)
  · rw [List.getD_eq_getElem?_getD, List.getElem?_eq_none h]; decide
set_option maxRecDepth 200000 in
instance irune_ok {K : Value → St → Prop} {w0 w : World} {H : List SL} {ds : List Deferred} {l : List UInt8} {r : Nat} [o : Hv w0 H w] :
    Step (Cl P 147 #[str l, .int .i32 (r : Int)] K ⟨w, ds⟩) ((r ≤ 1114111 ∧ l.length ≤ 1000 ∧ ∀ b ∈ l, b.toNat < 128) ∧ ∀ w', Hv w0 H w' → K (.int .i64 (if r < 128 then idxB l (UInt8.ofNat r) else -1)) ⟨w', ds⟩) := ⟨fun ⟨⟨hr, hl, ha⟩, h⟩ => by
  refine cl_ok (c147 (K := fun v w' => K v ⟨w', ds⟩) ?_ fun v w' h => ⟨v, rfl, h⟩)
  unfold D147
  dsimp only
  repeat' (first | refine go ?_ | intro _ | refine And.intro (Sd.mk (by (first | exact fun _ => True.intro | exact And.intro (fun _ => True.intro) (fun _ _ => True.intro) | (intro hq; (first | exact True.intro | omega | (simp only [and_true]; omega) | (simp only [bl] at hq; (try simp only [and_true]); omega) | fail)) | exact And.intro (fun hq => by first | exact True.intro | omega | (simp only [and_true]; omega) | (simp only [bl] at hq; (try simp only [and_true]); omega) | fail) (fun hq hr => by first | exact True.intro | omega | (simp only [and_true]; omega) | (simp only [bl] at hq hr; omega) | (simp only [bl] at hr; omega) | fail) | fail))) ?_ | refine And.intro (by (first | omega | (unfold InR; omega) | decide | (simp only [ll]; omega))) ?_ | (refine And.intro (fun h1 => ?_) (fun h1 => ?_) <;> first | (exact absurd h1 (by decide)) | ((try rw [h1]); (try simp only [bl] at h1))) | dsimp only)
  · have e : Value.int .u8 (IntKind.u8.wrap (r : Int)) = byteV (UInt8.ofNat r) := by
      simp [byteV, IntKind.wrap, IntKind.signed, IntKind.bits, UInt8.toNat_ofNat']
    rw [e]
    repeat' (first | refine go ?_ | intro _ | refine And.intro (Sd.mk (by (first | exact fun _ => True.intro | exact And.intro (fun _ => True.intro) (fun _ _ => True.intro) | (intro hq; (first | exact True.intro | omega | (simp only [and_true]; omega) | (simp only [bl] at hq; (try simp only [and_true]); omega) | fail)) | exact And.intro (fun hq => by first | exact True.intro | omega | (simp only [and_true]; omega) | (simp only [bl] at hq; (try simp only [and_true]); omega) | fail) (fun hq hr => by first | exact True.intro | omega | (simp only [and_true]; omega) | (simp only [bl] at hq hr; omega) | (simp only [bl] at hr; omega) | fail) | fail))) ?_ | refine And.intro (by (first | omega | (unfold InR; omega) | decide | (simp only [ll]; omega))) ?_ | (refine And.intro (fun h1 => ?_) (fun h1 => ?_) <;> first | (exact absurd h1 (by decide)) | ((try rw [h1]); (try simp only [bl] at h1))) | dsimp only)
    rw [if_pos (by omega)] at h
    exact h _ o
  · rename_i b w1 o1
    rw [if_neg (by omega)] at h
    refine ⟨fun s => ∃ (pos : Nat) (w' : World), s = ⟨w', []⟩ ∧ Hv w0 (itr b l pos :: H) w', fun s => l.length - s.w.iterPos b, ⟨0, w1, rfl, o1⟩, ?_⟩
    rintro s ⟨pos, w2, rfl, o2⟩
    have hp := Hv.pos o2
    repeat' (first | refine go ?_ | intro _ | refine And.intro (Sd.mk (by (first | exact fun _ => True.intro | exact And.intro (fun _ => True.intro) (fun _ _ => True.intro) | (intro hq; (first | exact True.intro | omega | (simp only [and_true]; omega) | (simp only [bl] at hq; (try simp only [and_true]); omega) | fail)) | exact And.intro (fun hq => by first | exact True.intro | omega | (simp only [and_true]; omega) | (simp only [bl] at hq; (try simp only [and_true]); omega) | fail) (fun hq hr => by first | exact True.intro | omega | (simp only [and_true]; omega) | (simp only [bl] at hq hr; omega) | (simp only [bl] at hr; omega) | fail) | fail))) ?_ | refine And.intro (by (first | omega | (unfold InR; omega) | decide | (simp only [ll]; omega))) ?_ | (refine And.intro (fun h1 => ?_) (fun h1 => ?_) <;> first | (exact absurd h1 (by decide)) | ((try rw [h1]); (try simp only [bl] at h1))) | dsimp only)
    · rename_i hlt c wd w3 hR o3
      exfalso
      have h3 : (l.getD pos 0).toNat < 128 := getD_low ha pos
      have h2 := (hR.low h3).1
      omega
    · rename_i hlt c wd w3 hR o3
      have hp3 := Hv.pos o3
      have := hR.wd1
      refine ⟨⟨_, _, rfl, o3⟩, ?_⟩
      show l.length - w3.iterPos b < l.length - w2.iterPos b
      rw [hp, hp3]; omega
    · exact h _ (Sub.hv subEnd)
  · rw [if_neg (by omega)] at h
    exact h _ o
  · rw [if_neg (by omega)] at h
    obtain ⟨e1, e2, e3⟩ := encR_high (r := (r : Int)) (by omega)
    generalize encR (r : Int) = E at *
    have hE : ∀ i < E.length, 128 ≤ (E.getD i default).toNat := fun i hi => by
      rw [List.getD_eq_getElem?_getD, List.getElem?_eq_getElem hi]; exact e3 _ (List.getElem_mem hi)
    refine And.intro (by unfold InR; omega) ?_
    refine ⟨fun x s => x = .int .i64 ((E.length : Int) - 1) ∧ ∃ w' : World, s = ⟨w', []⟩ ∧ Hv w0 H w', fun _ _ => 0, ⟨rfl, w, rfl, o⟩, ?_⟩
    rintro x s ⟨rfl, w2, rfl, o2⟩
    have h4 := hE ((E.length : Int) - 1).toNat (by omega)
    have h5 := getD_low ha ((E.length : Int) - 1).toNat
    have h6 : ∀ j, idxB (l.drop j) (E.getD ((E.length : Int) - 1).toNat default) < 0 := fun j => idxB_neg.2 fun x hx e => by
      have := ha x (List.mem_of_mem_drop hx)
      rw [e] at this; omega
    have h7 := h6 ((E.length : Int) - 1 + 1).toNat
    repeat' (first | refine go ?_ | intro _ | refine And.intro (Sd.mk (by (first | exact fun _ => True.intro | exact And.intro (fun _ => True.intro) (fun _ _ => True.intro) | (intro hq; (first | exact True.intro | omega | (simp only [and_true]; omega) | (simp only [bl] at hq; (try simp only [and_true]); omega) | fail)) | exact And.intro (fun hq => by first | exact True.intro | omega | (simp only [and_true]; omega) | (simp only [bl] at hq; (try simp only [and_true]); omega) | fail) (fun hq hr => by first | exact True.intro | omega | (simp only [and_true]; omega) | (simp only [bl] at hq hr; omega) | (simp only [bl] at hr; omega) | fail) | fail))) ?_ | refine And.intro (by (first | omega | (unfold InR; omega) | decide | (simp only [ll]; omega))) ?_ | (refine And.intro (fun h1 => ?_) (fun h1 => ?_) <;> first | (exact absurd h1 (by decide)) | ((try rw [h1]); (try simp only [bl] at h1))) | dsimp only)
    all_goals first
      | exact h _ (Sub.hv subEnd)
      | (exfalso; omega)
      | (exfalso; rename_i hq; rw [hq] at h5; omega)
      | (exfalso; rw [h1] at h5; omega)
  · exfalso; omega⟩
theorem zeroSet (w : World) : (zeroValue 126).run Tryd.prog w = .ok (.agg (Array.replicate 256 (.bool false))) w := tyz_of (P := Tryd.prog) (t := 126) (inf_of Tryd.type126) (by kernel_rfl) w
instance useset_ok {w : World} {n : Int} : VT (Cl P 148 #[.int .i64 n]) w (.bool (decide (8 < n))) := ⟨fun {K ds} h => by
  refine cl_ok (c148 (K := fun v w' => K v ⟨w', ds⟩) ?_ fun v w' h => ⟨v, rfl, h⟩)
  unfold D148
  dsimp only
  repeat' (first | refine go ?_ | intro _ | refine And.intro (Sd.mk (by (first | exact fun _ => True.intro | exact And.intro (fun _ => True.intro) (fun _ _ => True.intro) | (intro hq; (first | exact True.intro | omega | (simp only [and_true]; omega) | (simp only [bl] at hq; (try simp only [and_true]); omega) | fail)) | exact And.intro (fun hq => by first | exact True.intro | omega | (simp only [and_true]; omega) | (simp only [bl] at hq; (try simp only [and_true]); omega) | fail) (fun hq hr => by first | exact True.intro | omega | (simp only [and_true]; omega) | (simp only [bl] at hq hr; omega) | (simp only [bl] at hr; omega) | fail) | fail))) ?_ | refine And.intro (by (first | omega | (unfold InR; omega) | decide | (simp only [ll]; omega))) ?_ | (refine And.intro (fun h1 => ?_) (fun h1 => ?_) <;> first | (exact absurd h1 (by decide)) | ((try rw [h1]); (try simp only [bl] at h1))) | dsimp only)
  exact h⟩
theorem any_idx {l cs : List UInt8} {pos : Nat} (h : pos < l.length) (h2 : l.getD pos 0 ∈ cs) : l.any (cs.contains ·) = true := by
  rw [List.any_eq_true]
  refine ⟨l.getD pos 0, ?_, by simpa using h2⟩
  rw [List.getD_eq_getElem?_getD, List.getElem?_eq_getElem h]; exact List.getElem_mem h
theorem any_none {l cs : List UInt8} (h : ∀ j < l.length, l.getD j 0 ∉ cs) : l.any (cs.contains ·) = false := by
  rw [List.any_eq_false]
  intro x hx
  obtain ⟨j, hj, rfl⟩ := List.getElem_of_mem hx
  have := h j hj
  rw [List.getD_eq_getElem?_getD, List.getElem?_eq_getElem hj] at this
  simpa using this
set_option maxRecDepth 200000 in
instance iany_ok {K : Value → St → Prop} {w0 w : World} {H : List SL} {ds : List Deferred} {l cs : List UInt8} [o : Hv w0 H w] :
    Step (Cl P 121 #[str l, str cs] K ⟨w, ds⟩) ((l.length ≤ 1000000 ∧ 2 ≤ cs.length ∧ cs.length ≤ 1000 ∧ ∀ b ∈ cs, b.toNat < 128) ∧ ∀ z w', decide (0 ≤ z) = l.any (cs.contains ·) → Hv w0 H w' → K (.int .i64 z) ⟨w', ds⟩) := ⟨fun ⟨⟨hl, h2, h3, ha⟩, h⟩ => by
  rcases Nat.lt_or_ge 8 l.length with h8 | h8
  · refine cl_ok ((Tryd.strings_IndexAny_long zeroSet ⟨l.toArray⟩ ⟨cs.toArray⟩ w (by simpa [ByteArray.size] using h2) (by simpa [ByteArray.size] using h8) (by simp [ByteArray.size]; omega) (by simp [ByteArray.size]; omega) (fun j b hb => ha b (List.mem_of_getElem? (by simpa using hb)))).mono fun e w' ⟨he, hw⟩ => ?_)
    subst hw
    exact ⟨_, he, h _ _ (by simpa using indexAny_has l cs) ((o.newObj _).newObj _).tail.tail⟩
  refine cl_ok (c121 (K := fun v w' => K v ⟨w', ds⟩) ?_ fun v w' h => ⟨v, rfl, h⟩)
  unfold D121
  dsimp only
  repeat' (first | refine go ?_ | intro _ | refine And.intro (Sd.mk (by (first | exact fun _ => True.intro | exact And.intro (fun _ => True.intro) (fun _ _ => True.intro) | (intro hq; (first | exact True.intro | omega | (simp only [and_true]; omega) | (simp only [bl] at hq; (try simp only [and_true]); omega) | fail)) | exact And.intro (fun hq => by first | exact True.intro | omega | (simp only [and_true]; omega) | (simp only [bl] at hq; (try simp only [and_true]); omega) | fail) (fun hq hr => by first | exact True.intro | omega | (simp only [and_true]; omega) | (simp only [bl] at hq hr; omega) | (simp only [bl] at hr; omega) | fail) | fail))) ?_ | refine And.intro (by (first | omega | (unfold InR; omega) | decide | (simp only [ll]; omega))) ?_ | (refine And.intro (fun h1 => ?_) (fun h1 => ?_) <;> first | (exact absurd h1 (by decide)) | ((try rw [h1]); (try simp only [bl] at h1))) | dsimp only)
  · exfalso; rw [h1] at h2; simp at h2
  · exfalso; omega
  · exfalso; omega
  · rename_i b w1 o1
    refine ⟨fun s => ∃ (pos : Nat) (w' : World), s = ⟨w', []⟩ ∧ pos ≤ l.length ∧ (∀ j < pos, l.getD j 0 ∉ cs) ∧ Hv w0 (itr b l pos :: H) w', fun s => l.length - s.w.iterPos b, ⟨0, w1, rfl, Nat.zero_le _, fun j h => by omega, o1⟩, ?_⟩
    rintro s ⟨pos, w2, rfl, hpl, hno, o2⟩
    have hp := Hv.pos o2
    repeat' (first | refine go ?_ | intro _ | refine And.intro (Sd.mk (by (first | exact fun _ => True.intro | exact And.intro (fun _ => True.intro) (fun _ _ => True.intro) | (intro hq; (first | exact True.intro | omega | (simp only [and_true]; omega) | (simp only [bl] at hq; (try simp only [and_true]); omega) | fail)) | exact And.intro (fun hq => by first | exact True.intro | omega | (simp only [and_true]; omega) | (simp only [bl] at hq; (try simp only [and_true]); omega) | fail) (fun hq hr => by first | exact True.intro | omega | (simp only [and_true]; omega) | (simp only [bl] at hq hr; omega) | (simp only [bl] at hr; omega) | fail) | fail))) ?_ | refine And.intro (by (first | omega | (unfold InR; omega) | decide | (simp only [ll]; omega))) ?_ | (refine And.intro (fun h1 => ?_) (fun h1 => ?_) <;> first | (exact absurd h1 (by decide)) | ((try rw [h1]); (try simp only [bl] at h1))) | dsimp only)
    · rename_i c wd w3 hR o3
      have hlt : pos < l.length := h1
      refine And.intro ⟨hR.top, h3, ha⟩ ?_
      have hf := hR.fits
      have hd := hR.wd1
      repeat' (first | refine go ?_ | intro _ | refine And.intro (Sd.mk (by (first | exact fun _ => True.intro | exact And.intro (fun _ => True.intro) (fun _ _ => True.intro) | (intro hq; (first | exact True.intro | omega | (simp only [and_true]; omega) | (simp only [bl] at hq; (try simp only [and_true]); omega) | fail)) | exact And.intro (fun hq => by first | exact True.intro | omega | (simp only [and_true]; omega) | (simp only [bl] at hq; (try simp only [and_true]); omega) | fail) (fun hq hr => by first | exact True.intro | omega | (simp only [and_true]; omega) | (simp only [bl] at hq hr; omega) | (simp only [bl] at hr; omega) | fail) | fail))) ?_ | refine And.intro (by (first | omega | (unfold InR; omega) | decide | (simp only [ll]; omega))) ?_ | (refine And.intro (fun h1 => ?_) (fun h1 => ?_) <;> first | (exact absurd h1 (by decide)) | ((try rw [h1]); (try simp only [bl] at h1))) | dsimp only)
      · rename_i w4 o4
        refine h _ _ ?_ (Sub.hv subEnd)
        have hlo : (l.getD pos 0).toNat < 128 := by
          apply Classical.byContradiction
          intro hn
          have := (hR.high (by omega)).1
          rw [if_neg (by omega)] at h1
          omega
        have hc := (hR.low hlo).1
        rw [if_pos (by omega)] at h1
        have hm : l.getD pos 0 ∈ cs := by
          apply Classical.byContradiction
          intro hn
          have := idxB_neg.2 fun x hx (e : x = UInt8.ofNat c) => hn (by rw [hc] at e; rw [e] at hx; simpa using hx)
          omega
        rw [any_idx hlt hm]
        simp
      · rename_i w4 o4
        have hp4 := Hv.pos o4
        have h9 := h1
        refine ⟨⟨pos + wd, _, rfl, by omega, fun j hj => ?_, o4⟩, ?_⟩
        · rcases Nat.lt_or_ge j pos with x | x
          · exact hno j x
          · rcases Nat.lt_or_ge (l.getD pos 0).toNat 128 with y | y
            · obtain ⟨hc, hw1⟩ := hR.low y
              obtain rfl : j = pos := by omega
              rw [if_pos (by omega)] at h9
              intro hm
              exact idxB_neg.1 h9 _ hm (by rw [hc]; simp)
            · have h6 := (hR.high y).2 (j - pos) (by omega)
              rw [show pos + (j - pos) = j by omega] at h6
              intro hm
              have := ha _ hm
              omega
        · show l.length - w4.iterPos b < l.length - w2.iterPos b
          rw [hp, hp4]; omega
    · refine h _ _ ?_ (Sub.hv subEnd)
      rw [any_none fun j hj => hno j (by omega)]
      rfl⟩
instance cany_ok {K : Value → St → Prop} {w0 w : World} {H : List SL} {ds : List Deferred} {l cs : List UInt8} [o : Hv w0 H w] :
    Step (Cl P 84 #[str l, str cs] K ⟨w, ds⟩) ((l.length ≤ 1000000 ∧ 2 ≤ cs.length ∧ cs.length ≤ 1000 ∧ ∀ b ∈ cs, b.toNat < 128) ∧ ∀ w', Hv w0 H w' → K (.bool (l.any (cs.contains ·))) ⟨w', ds⟩) := ⟨fun ⟨hc, h⟩ => by
  refine cl_ok (c84 (K := fun v w' => K v ⟨w', ds⟩) ?_ fun v w' h => ⟨v, rfl, h⟩)
  unfold D84
  dsimp only
  refine go (And.intro hc ?_)
  intro z w1 hz o1
  repeat' (first | refine go ?_ | intro _ | refine And.intro (Sd.mk (by (first | exact fun _ => True.intro | exact And.intro (fun _ => True.intro) (fun _ _ => True.intro) | (intro hq; (first | exact True.intro | omega | (simp only [and_true]; omega) | (simp only [bl] at hq; (try simp only [and_true]); omega) | fail)) | exact And.intro (fun hq => by first | exact True.intro | omega | (simp only [and_true]; omega) | (simp only [bl] at hq; (try simp only [and_true]); omega) | fail) (fun hq hr => by first | exact True.intro | omega | (simp only [and_true]; omega) | (simp only [bl] at hq hr; omega) | (simp only [bl] at hr; omega) | fail) | fail))) ?_ | refine And.intro (by (first | omega | (unfold InR; omega) | decide | (simp only [ll]; omega))) ?_ | (refine And.intro (fun h1 => ?_) (fun h1 => ?_) <;> first | (exact absurd h1 (by decide)) | ((try rw [h1]); (try simp only [bl] at h1))) | dsimp only)
  rw [hz]
  exact h _ o1⟩
end Go.Proofs.YtapammcnagjigaaDoor
