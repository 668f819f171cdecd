import Derived.Test.YtapammcnagjigaaGreatDoorMl
set_option linter.all false
namespace Go.Proofs.YtapammcnagjigaaGreatDoor
open Go.Vx Go.Lib
/-! words on lines -/
def bareS (s : List UInt8) : List UInt8 := replS (cleanS s) 32 []
def lineS (server : List UInt8) (code : Nat) (tgt : List UInt8) (hd : List (List UInt8)) (last : List UInt8) : List UInt8 := numS server code tgt (hd ++ [last])
abbrev PkSt := List UInt8 × List (List UInt8)
def flushS (base : Int) (line : List UInt8 → List UInt8) (st : PkSt) (w : List UInt8) : PkSt := if st.1 ≠ [] ∧ 510 < base + 1 + st.1.length + 1 + w.length then ([], st.2 ++ [line st.1]) else st
def addS (base : Int) (line : List UInt8 → List UInt8) (st : PkSt) (w : List UInt8) : PkSt := (if (flushS base line st w).1 = [] then w else (flushS base line st w).1 ++ [32] ++ w, (flushS base line st w).2)
def stepP (base : Int) (line : List UInt8 → List UInt8) (st : PkSt) (s : List UInt8) : PkSt := if bareS s = [] then st else addS base line st (bareS s)
def endP (line : List UInt8 → List UInt8) (st : PkSt) : List (List UInt8) := if st.1 ≠ [] ∨ st.2 = [] then st.2 ++ [line st.1] else st.2
def baseS (line : List UInt8 → List UInt8) : Int := ((line [58]).length : Int) - 2
def packS (line : List UInt8 → List UInt8) (ss : List (List UInt8)) : List (List UInt8) := endP line (ss.foldl (stepP (baseS line) line) ([], []))
theorem bare_len (s : List UInt8) : (bareS s).length ≤ s.length := Nat.le_trans (repl_len _ _ _ (by simp)) (clean_len s)
theorem make_len (pre name : List UInt8) (ps : List (List UInt8)) : (makeS pre name ps).length ≤ 510 := by
  unfold makeS; split
  · simp
  · rw [List.length_take]; omega
theorem line_len (server : List UInt8) (code : Nat) (tgt : List UInt8) (hd : List (List UInt8)) (last : List UInt8) : (lineS server code tgt hd last).length ≤ 510 := by
  unfold lineS numS; split
  · simp
  · exact make_len _ _ _
section
variable {K : Value → St → Prop} {w0 w : World} {H R : List SL} {ds : List Deferred} {l : List UInt8}
instance (priority := high) bareA_ok [o : Hv w0 H w] : Step (Cl P 116 #[str l, .string ⟨#[32]⟩, .string ⟨#[]⟩] K ⟨w, ds⟩) (l.length ≤ 500000 ∧ ∀ w', Hv w0 H w' → K (str (replS l 32 [])) ⟨w', ds⟩) := ⟨fun ⟨hl, h⟩ => replaceAll_ok.prf ⟨⟨hl, by decide, by decide⟩, h⟩⟩
instance word_ok' [o : Hv w0 H w] : Step (Cl P 91 #[str l] K ⟨w, ds⟩) (l.length ≤ 500000 ∧ ∀ w', Hv w0 H w' → K (str (bareS l)) ⟨w', ds⟩) := ⟨fun ⟨hl, h⟩ => by
  refine cl_ok (c91 (K := fun v w' => K v ⟨w', ds⟩) ?_ fun v w' h => ⟨v, rfl, h⟩)
  have := clean_len l
  unfold D91
  repeat' (first | refine go ?_ | intro _ | refine And.intro (Sd.mk (by (first | exact fun _ => True.intro | exact And.intro (fun _ => True.intro) (fun _ _ => True.intro) | (intro hq; (first | exact True.intro | omega | (simp only [and_true]; omega) | (simp only [bl] at hq; (try simp only [and_true]); omega) | fail)) | exact And.intro (fun hq => by first | exact True.intro | omega | (simp only [and_true]; omega) | (simp only [bl] at hq; (try simp only [and_true]); omega) | fail) (fun hq hr => by first | exact True.intro | omega | (simp only [and_true]; omega) | (simp only [bl] at hq hr; omega) | (simp only [bl] at hr; omega) | fail) | fail))) ?_ | refine And.intro (by (first | omega | (unfold InR; omega) | decide | (simp only [ll]; omega))) ?_ | (refine And.intro (fun h1 => ?_) (fun h1 => ?_) <;> first | (exact absurd h1 (by decide)) | ((try rw [h1]); (try simp only [bl] at h1))) | dsimp only)
  exact h _ (Sub.hv subEnd)⟩
/-- What a line is made of. -/
structure Ln where
  server : List UInt8
  code : Nat
  tgt : List UInt8
  hd : List (List UInt8)
  hv : Value
  b1 : Nat
  b2 : Nat
  b3 : Nat
  b4 : Nat
abbrev Ln.f (n : Ln) : List UInt8 → List UInt8 := lineS n.server n.code n.tgt n.hd
structure Ln.ok (n : Ln) (w0 : World) (Tl : List SL) : Prop where
  c : 1 ≤ n.code ∧ n.code ≤ 999
  s : n.server.length ≤ 1000
  t : n.tgt.length ≤ 900
  l : n.hd.length ≤ 13
  h : ∀ p ∈ n.hd, p.length ≤ 900
  r : RdsL w0 Tl n.hv 1 n.hd.length (n.hd.map str)
  o : ∀ w, One w n.hv
abbrev Ln.bs (n : Ln) : List SL := [box n.b1 9 [str n.server], box n.b2 3 [.int .i64 n.code], box n.b3 9 [str n.tgt], box n.b4 23 [n.hv]]
theorem line_ok {n : Ln} {Tl : List SL} (hn : n.ok w0 Tl) (hl : l.length ≤ 900) [d : DropTo H Tl] (o : Hv w0 (n.bs ++ H) w) (h : ∀ w', Hv w0 (n.bs ++ H) w' → K (str (n.f l)) ⟨w', ds⟩) :
    Cl P 89 #[str l, .pointer (some ⟨n.b1, 0, none⟩), .pointer (some ⟨n.b2, 0, none⟩), .pointer (some ⟨n.b3, 0, none⟩), .pointer (some ⟨n.b4, 0, none⟩)] K ⟨w, ds⟩ := by
  refine cl_ok (c89 (K := fun v w' => K v ⟨w', ds⟩) ?_ fun v w' h => ⟨v, rfl, h⟩)
  have lr := hn.r
  have on := hn.o
  obtain ⟨hc, hs, ht, hlh, hh, _, _⟩ := hn
  dsimp only [Ln.bs, List.cons_append, List.nil_append] at o h
  unfold D89
  dsimp only
  refine go ?_
  refine go ?_
  intro w1 o1
  have o2 := Hv.nilRow 9 1 o1
  clear o1 o
  have hpp : ∀ p ∈ n.hd ++ [l], p.length ≤ 999 := fun p hp => by
    rcases List.mem_append.1 hp with hp | hp
    · have := hh p hp; omega
    · rw [List.mem_singleton.1 hp]; omega
  have hln : (n.hd ++ [l]).length ≤ 1000 := by simp; omega
  refine go ?_
  refine go ?_
  refine go ?_
  refine go ?_
  refine And.intro ?_ ?_
  all_goals
    repeat' (first | refine go ?_ | intro _ | refine And.intro (Sd.mk (by (first | exact fun _ => True.intro | exact And.intro (fun _ => True.intro) (fun _ _ => True.intro) | (intro hq; (first | exact True.intro | omega | (simp only [and_true]; omega) | (simp only [bl] at hq; (try simp only [and_true]); omega) | fail)) | exact And.intro (fun hq => by first | exact True.intro | omega | (simp only [and_true]; omega) | (simp only [bl] at hq; (try simp only [and_true]); omega) | fail) (fun hq hr => by first | exact True.intro | omega | (simp only [and_true]; omega) | (simp only [bl] at hq hr; omega) | (simp only [bl] at hr; omega) | fail) | fail))) ?_ | refine And.intro (by (first | omega | (unfold InR; omega) | decide | (simp only [ll]; omega))) ?_ | (refine And.intro (fun h1 => ?_) (fun h1 => ?_) <;> first | (exact absurd h1 (by decide)) | ((try rw [h1]); (try simp only [bl] at h1))) | dsimp only)
  all_goals
    simp only [List.nil_append]
    refine And.intro ⟨by omega, hc, by omega, hln, hpp⟩ ?_
    intro w3 o3
    repeat' (first | refine go ?_ | intro _ | refine And.intro (Sd.mk (by (first | exact fun _ => True.intro | exact And.intro (fun _ => True.intro) (fun _ _ => True.intro) | (intro hq; (first | exact True.intro | omega | (simp only [and_true]; omega) | (simp only [bl] at hq; (try simp only [and_true]); omega) | fail)) | exact And.intro (fun hq => by first | exact True.intro | omega | (simp only [and_true]; omega) | (simp only [bl] at hq; (try simp only [and_true]); omega) | fail) (fun hq hr => by first | exact True.intro | omega | (simp only [and_true]; omega) | (simp only [bl] at hq hr; omega) | (simp only [bl] at hr; omega) | fail) | fail))) ?_ | refine And.intro (by (first | omega | (unfold InR; omega) | decide | (simp only [ll]; omega))) ?_ | (refine And.intro (fun h1 => ?_) (fun h1 => ?_) <;> first | (exact absurd h1 (by decide)) | ((try rw [h1]); (try simp only [bl] at h1))) | dsimp only)
    exact h _ (Sub.hv (subBox rfl (subBox rfl (subBox rfl (subBox rfl subEnd)))))
abbrev Ln.clo (n : Ln) : Value := .func (.func 89) #[] #[.pointer (some ⟨n.b1, 0, none⟩), .pointer (some ⟨n.b2, 0, none⟩), .pointer (some ⟨n.b3, 0, none⟩), .pointer (some ⟨n.b4, 0, none⟩)]
abbrev pkL (n : Ln) (bn bb bo bq : Nat) (q : Value) (st : PkSt) : List SL := [box bn 9 [str st.1], box bb 3 [.int .i64 (baseS n.f)], box bo 23 [q], row 9 1 q st.2.length (st.2.map str), box bq 53 [n.clo]] ++ n.bs
theorem addS_now (base : Int) (line : List UInt8 → List UInt8) (st : PkSt) (w : List UInt8) (hb : -2 ≤ base) (h1 : st.1.length ≤ 600) (h2 : w.length ≤ 500) : (addS base line st w).1.length ≤ 600 ∧ (addS base line st w).2.length ≤ st.2.length + 1 := by
  unfold addS flushS
  dsimp only
  split
  · rw [if_pos rfl]
    exact ⟨by omega, by simp⟩
  · rename_i h
    split
    · exact ⟨by omega, by omega⟩
    · rename_i h3
      have : ¬ 510 < base + 1 + st.1.length + 1 + w.length := fun h4 => h ⟨h3, h4⟩
      simp only [List.length_append, List.length_cons, List.length_nil]
      exact ⟨by omega, by omega⟩
theorem add_ok {n : Ln} {Tl : List SL} {bn bb bo bq : Nat} {q : Value} {st : PkSt} (hn : n.ok w0 Tl) (hl : l.length ≤ 500) (hst : st.1.length ≤ 600 ∧ st.2.length ≤ 1000) [d : DropTo H Tl] (o : Hv w0 (pkL n bn bb bo bq q st ++ H) w) (h : ∀ q' w', Hv w0 (pkL n bn bb bo bq q' (addS (baseS n.f) n.f st l) ++ H) w' → K (.tuple #[]) ⟨w', ds⟩) :
    Cl P 90 #[str l, .pointer (some ⟨bn, 0, none⟩), .pointer (some ⟨bb, 0, none⟩), .pointer (some ⟨bo, 0, none⟩), .pointer (some ⟨bq, 0, none⟩)] K ⟨w, ds⟩ := by
  refine cl_ok (c90 (K := fun v w' => K v ⟨w', ds⟩) ?_ fun v w' h => ⟨v, rfl, h⟩)
  have hbase : -2 ≤ baseS n.f ∧ baseS n.f ≤ 510 := by
    have h1 := line_len n.server n.code n.tgt n.hd [58]
    have h2 : baseS n.f = ((lineS n.server n.code n.tgt n.hd [58]).length : Int) - 2 := rfl
    omega
  obtain ⟨now, out⟩ := st
  dsimp only [pkL, Ln.bs, List.cons_append, List.nil_append] at o h hst
  obtain ⟨hs1, hs2⟩ := hst
  unfold D90
  dsimp only
  refine j0_any (fun s => ∃ q' w', s = ⟨w', []⟩ ∧ Hv w0 (pkL n bn bb bo bq q' (flushS (baseS n.f) n.f (now, out) l) ++ H) w') ?_ ?_
  · generalize hB : baseS n.f = B at *
    repeat ((fail_if_success (refine And.intro (Sd.mk ?_) ?_)); (first | refine go ?_ | intro _ | refine And.intro (Sd.mk (by (first | exact fun _ => True.intro | exact And.intro (fun _ => True.intro) (fun _ _ => True.intro) | (intro hq; (first | exact True.intro | omega | (simp only [and_true]; omega) | (simp only [bl] at hq; (try simp only [and_true]); omega) | fail)) | exact And.intro (fun hq => by first | exact True.intro | omega | (simp only [and_true]; omega) | (simp only [bl] at hq; (try simp only [and_true]); omega) | fail) (fun hq hr => by first | exact True.intro | omega | (simp only [and_true]; omega) | (simp only [bl] at hq hr; omega) | (simp only [bl] at hr; omega) | fail) | fail))) ?_ | refine And.intro (by (first | omega | (unfold InR; omega) | decide | (simp only [ll]; omega))) ?_ | dsimp only))
    refine And.intro (Sd.mk fun _ => ⟨by unfold InR; omega, by unfold InR; omega, by unfold InR; omega, by unfold InR; omega, True.intro⟩) ?_
    repeat ((fail_if_success (refine And.intro (fun _ => ?_) (fun _ => ?_))); (first | refine go ?_ | intro _ | refine And.intro (Sd.mk (by (first | exact fun _ => True.intro | exact And.intro (fun _ => True.intro) (fun _ _ => True.intro) | (intro hq; (first | exact True.intro | omega | (simp only [and_true]; omega) | (simp only [bl] at hq; (try simp only [and_true]); omega) | fail)) | exact And.intro (fun hq => by first | exact True.intro | omega | (simp only [and_true]; omega) | (simp only [bl] at hq; (try simp only [and_true]); omega) | fail) (fun hq hr => by first | exact True.intro | omega | (simp only [and_true]; omega) | (simp only [bl] at hq hr; omega) | (simp only [bl] at hr; omega) | fail) | fail))) ?_ | refine And.intro (by (first | omega | (unfold InR; omega) | decide | (simp only [ll]; omega))) ?_ | dsimp only))
    refine And.intro (fun h1 => ?_) (fun h1 => ?_)
    · simp only [bl] at h1
      have hf : flushS B n.f (now, out) l = ([], out ++ [n.f now]) := by unfold flushS; rw [if_pos h1]
      rw [hf]
      repeat ((fail_if_success (refine line_ok (n := n) hn ?_ ?_ ?_)); (first | refine go ?_ | intro _ | refine And.intro (Sd.mk (by (first | exact fun _ => True.intro | exact And.intro (fun _ => True.intro) (fun _ _ => True.intro) | (intro hq; (first | exact True.intro | omega | (simp only [and_true]; omega) | (simp only [bl] at hq; (try simp only [and_true]); omega) | fail)) | exact And.intro (fun hq => by first | exact True.intro | omega | (simp only [and_true]; omega) | (simp only [bl] at hq; (try simp only [and_true]); omega) | fail) (fun hq hr => by first | exact True.intro | omega | (simp only [and_true]; omega) | (simp only [bl] at hq hr; omega) | (simp only [bl] at hr; omega) | fail) | fail))) ?_ | refine And.intro (by (first | omega | (unfold InR; omega) | decide | (simp only [ll]; omega))) ?_ | dsimp only))
      refine line_ok (n := n) (H := box bn 9 [str now] :: box bb 3 [.int .i64 B] :: box bo 23 [q] :: row 9 1 q out.length (out.map str) :: box bq 53 [n.clo] :: H) hn (by omega) (by dsimp only [Ln.bs, List.cons_append, List.nil_append]; exact Sub.hv (subBox rfl (subBox rfl (subBox rfl (subBox rfl subEnd))))) ?_
      intro w3 o3
      dsimp only [Ln.bs, List.cons_append, List.nil_append] at o3
      repeat' (first | refine go ?_ | intro _ | refine And.intro (Sd.mk (by (first | exact fun _ => True.intro | exact And.intro (fun _ => True.intro) (fun _ _ => True.intro) | (intro hq; (first | exact True.intro | omega | (simp only [and_true]; omega) | (simp only [bl] at hq; (try simp only [and_true]); omega) | fail)) | exact And.intro (fun hq => by first | exact True.intro | omega | (simp only [and_true]; omega) | (simp only [bl] at hq; (try simp only [and_true]); omega) | fail) (fun hq hr => by first | exact True.intro | omega | (simp only [and_true]; omega) | (simp only [bl] at hq hr; omega) | (simp only [bl] at hr; omega) | fail) | fail))) ?_ | refine And.intro (by (first | omega | (unfold InR; omega) | decide | (simp only [ll]; omega))) ?_ | (refine And.intro (fun h1 => ?_) (fun h1 => ?_) <;> first | (exact absurd h1 (by decide)) | ((try rw [h1]); (try simp only [bl] at h1))) | dsimp only)
      subst hB
      exact ⟨_, _, rfl, by
        dsimp only [pkL, Ln.bs, List.cons_append, List.nil_append]
        exact Sub.hv (subBox rfl (subBox rfl (subBox rfl (subRow (by simp) (by simp) (subBox rfl (subBox rfl (subBox rfl (subBox rfl (subBox rfl subEnd)))))))))⟩
    · have hf : flushS B n.f (now, out) l = (now, out) := by
        unfold flushS; rw [if_neg]
        intro hc
        simp only [bl] at h1
        have h8 := h1 hc.1
        have h9 := hc.2
        dsimp only at h9
        omega
      rw [hf]
      subst hB
      exact ⟨q, _, rfl, o⟩
  rintro s ⟨q', w1, rfl, o1⟩
  clear o
  unfold addS at h
  have hF1 : (flushS (baseS n.f) n.f (now, out) l).1.length ≤ 600 := by unfold flushS; split <;> simp; omega
  generalize hF : flushS (baseS n.f) n.f (now, out) l = F at *
  obtain ⟨now2, out2⟩ := F
  dsimp only [pkL, Ln.bs, List.cons_append, List.nil_append] at o1 h hF1
  repeat' (first | refine go ?_ | intro _ | refine And.intro (Sd.mk (by (first | exact fun _ => True.intro | exact And.intro (fun _ => True.intro) (fun _ _ => True.intro) | (intro hq; (first | exact True.intro | omega | (simp only [and_true]; omega) | (simp only [bl] at hq; (try simp only [and_true]); omega) | fail)) | exact And.intro (fun hq => by first | exact True.intro | omega | (simp only [and_true]; omega) | (simp only [bl] at hq; (try simp only [and_true]); omega) | fail) (fun hq hr => by first | exact True.intro | omega | (simp only [and_true]; omega) | (simp only [bl] at hq hr; omega) | (simp only [bl] at hr; omega) | fail) | fail))) ?_ | refine And.intro (by (first | omega | (unfold InR; omega) | decide | (simp only [ll]; omega))) ?_ | (refine And.intro (fun h1 => ?_) (fun h1 => ?_) <;> first | (exact absurd h1 (by decide)) | ((try rw [h1]); (try simp only [bl] at h1))) | dsimp only)
  · rw [if_neg h1] at h
    exact h _ _ (Sub.hv (subBox rfl (subBox rfl (subBox rfl (subRow rfl rfl (subBox rfl (subBox rfl (subBox rfl (subBox rfl (subBox rfl subEnd))))))))))
  · subst h1
    rw [if_pos rfl] at h
    exact h _ _ (Sub.hv (subBox (by simp) (subBox rfl (subBox rfl (subRow rfl rfl (subBox rfl (subBox rfl (subBox rfl (subBox rfl (subBox rfl subEnd))))))))))
theorem stepP_sz {base : Int} {line : List UInt8 → List UInt8} (hb : -2 ≤ base) {ss : List (List UInt8)} (h : ∀ s ∈ ss, s.length ≤ 500) : ∀ i, i ≤ ss.length → ((ss.take i).foldl (stepP base line) ([], [])).1.length ≤ 600 ∧ ((ss.take i).foldl (stepP base line) ([], [])).2.length ≤ i := by
  intro i
  induction i with
  | zero => intro _; simp
  | succ i ih =>
    intro hi
    obtain ⟨h1, h2⟩ := ih (by omega)
    rw [take_snoc (by omega), List.foldl_append]
    simp only [List.foldl_cons, List.foldl_nil]
    have h3 := h _ (getD_mem (l := ss) (k := i) (by omega))
    have h4 := bare_len (ss.getD i default)
    generalize (ss.take i).foldl (stepP base line) ([], []) = st at h1 h2 ⊢
    unfold stepP
    split
    · exact ⟨h1, by omega⟩
    · have := addS_now base line st (bareS (ss.getD i default)) hb h1 (by omega)
      exact ⟨this.1, by omega⟩
set_option maxRecDepth 20000 in
theorem pack_ok {R T : List SL} {g : Nat} {cap : List Value} {ss : List (List UInt8)} {server tgt : List UInt8} {hd : List (List UInt8)} {c : Nat} {hv : Value}
    (hn : ∀ b1 b2 b3 b4, (Ln.mk server c tgt hd hv b1 b2 b3 b4).ok w0 R) (hss : ∀ s ∈ ss, s.length ≤ 500) (hsl : ss.length ≤ 100)
    (hs : SeqOf P w0 (.func (.func g) #[] cap.toArray) T (fun l => [str l]) ss) (o : Hv w0 (many R :: T) w)
    (h : ∀ v w', Hv w0 (row 9 1 v (packS (lineS server c tgt hd) ss).length ((packS (lineS server c tgt hd) ss).map str) :: many R :: T) w' → K v ⟨w', ds⟩) :
    Cl P 52 #[str server, .int .i64 c, str tgt, hv, .func (.func g) #[] cap.toArray] K ⟨w, ds⟩ := by
  refine cl_ok (c52 (K := fun v w' => K v ⟨w', ds⟩) ?_ fun v w' h => ⟨v, rfl, h⟩)
  have one1 := (hn 0 0 0 0).o
  have hc := (hn 0 0 0 0).c
  have hlh := (hn 0 0 0 0).l
  have lr := (hn 0 0 0 0).r
  dsimp only at one1 hc hlh lr
  unfold D52
  repeat ((fail_if_success (refine And.intro (fun _ => ?_) (fun _ => ?_))); (first | refine go ?_ | intro _ | refine And.intro (Sd.mk (by (first | exact fun _ => True.intro | exact And.intro (fun _ => True.intro) (fun _ _ => True.intro) | (intro hq; (first | exact True.intro | omega | (simp only [and_true]; omega) | (simp only [bl] at hq; (try simp only [and_true]); omega) | fail)) | exact And.intro (fun hq => by first | exact True.intro | omega | (simp only [and_true]; omega) | (simp only [bl] at hq; (try simp only [and_true]); omega) | fail) (fun hq hr => by first | exact True.intro | omega | (simp only [and_true]; omega) | (simp only [bl] at hq hr; omega) | (simp only [bl] at hr; omega) | fail) | fail))) ?_ | refine And.intro (by (first | omega | (unfold InR; omega) | decide | (simp only [ll]; omega))) ?_ | dsimp only))
  refine And.intro (fun h1 => ?_) (fun hq => ?_)
  · exfalso; simp only [bl] at h1; omega
  rename_i b1 _ _ b2 _ _ b3 _ _ b4 w1 o1
  clear o
  have hn := hn b1 b2 b3 b4
  repeat ((fail_if_success (refine line_ok (n := ⟨server, c, tgt, hd, hv, b1, b2, b3, b4⟩) (Tl := R) hn ?_ ?_ ?_)); (first | refine go ?_ | intro _ | refine And.intro (Sd.mk (by (first | exact fun _ => True.intro | exact And.intro (fun _ => True.intro) (fun _ _ => True.intro) | (intro hq; (first | exact True.intro | omega | (simp only [and_true]; omega) | (simp only [bl] at hq; (try simp only [and_true]); omega) | fail)) | exact And.intro (fun hq => by first | exact True.intro | omega | (simp only [and_true]; omega) | (simp only [bl] at hq; (try simp only [and_true]); omega) | fail) (fun hq hr => by first | exact True.intro | omega | (simp only [and_true]; omega) | (simp only [bl] at hq hr; omega) | (simp only [bl] at hr; omega) | fail) | fail))) ?_ | refine And.intro (by (first | omega | (unfold InR; omega) | decide | (simp only [ll]; omega))) ?_ | dsimp only))
  rename_i bq _ _ w2 o2
  have hclo : Ln.clo (⟨server, c, tgt, hd, hv, b1, b2, b3, b4⟩ : Ln) = .func (.func 89) #[] #[.pointer (some ⟨b1, 0, none⟩), .pointer (some ⟨b2, 0, none⟩), .pointer (some ⟨b3, 0, none⟩), .pointer (some ⟨b4, 0, none⟩)] := rfl
  refine line_ok (l := [58]) (n := (⟨server, c, tgt, hd, hv, b1, b2, b3, b4⟩ : Ln)) (Tl := R) (H := box bq 53 [Ln.clo (⟨server, c, tgt, hd, hv, b1, b2, b3, b4⟩ : Ln)] :: many R :: T) hn (by decide) ?_ ?_
  · dsimp only [Ln.bs, List.cons_append, List.nil_append]
    exact Sub.hv (subBox rfl (subBox rfl (subBox rfl (subBox rfl (subBox rfl subEnd)))))
  intro w3 o3
  dsimp only [Ln.bs, List.cons_append, List.nil_append] at o3
  have hl0 : (Ln.f (⟨server, c, tgt, hd, hv, b1, b2, b3, b4⟩ : Ln) [58]).length ≤ 510 := line_len server c tgt hd [58]
  clear o1
  repeat ((fail_if_success (refine j0_any (fun _ => True) ?_ ?_)); (first | refine go ?_ | intro _ | refine And.intro (Sd.mk (by (first | exact fun _ => True.intro | exact And.intro (fun _ => True.intro) (fun _ _ => True.intro) | (intro hq; (first | exact True.intro | omega | (simp only [and_true]; omega) | (simp only [bl] at hq; (try simp only [and_true]); omega) | fail)) | exact And.intro (fun hq => by first | exact True.intro | omega | (simp only [and_true]; omega) | (simp only [bl] at hq; (try simp only [and_true]); omega) | fail) (fun hq hr => by first | exact True.intro | omega | (simp only [and_true]; omega) | (simp only [bl] at hq hr; omega) | (simp only [bl] at hr; omega) | fail) | fail))) ?_ | refine And.intro (by (first | omega | (unfold InR; omega) | decide | (simp only [ll]; omega))) ?_ | dsimp only))
  rename_i bb _ _ _ _ bo _ _ bn _ _ _ _ ba _ _ w4 o4
  clear o2 o3
  have hsz := stepP_sz (base := baseS (Ln.f (⟨server, c, tgt, hd, hv, b1, b2, b3, b4⟩ : Ln))) (line := Ln.f (⟨server, c, tgt, hd, hv, b1, b2, b3, b4⟩ : Ln)) (by unfold baseS; omega) hss
  have hen : ss.take ss.length = ss := List.take_length
  refine j0_any (fun s => ∃ (q : Value) (b : Nat) (w' : World), s = ⟨w', [mk b]⟩ ∧ Hv w0 (pkL (⟨server, c, tgt, hd, hv, b1, b2, b3, b4⟩ : Ln) bn bb bo bq q (ss.foldl (stepP (baseS (Ln.f (⟨server, c, tgt, hd, hv, b1, b2, b3, b4⟩ : Ln))) (Ln.f (⟨server, c, tgt, hd, hv, b1, b2, b3, b4⟩ : Ln))) ([], [])) ++ (many R :: dfb b :: T)) w') ?_ ?_
  · repeat (first | refine go ?_ | intro _ | refine And.intro (Sd.mk (by (first | exact fun _ => True.intro | exact And.intro (fun _ => True.intro) (fun _ _ => True.intro) | (intro hq; (first | exact True.intro | omega | (simp only [and_true]; omega) | (simp only [bl] at hq; (try simp only [and_true]); omega) | fail)) | exact And.intro (fun hq => by first | exact True.intro | omega | (simp only [and_true]; omega) | (simp only [bl] at hq; (try simp only [and_true]); omega) | fail) (fun hq hr => by first | exact True.intro | omega | (simp only [and_true]; omega) | (simp only [bl] at hq hr; omega) | (simp only [bl] at hr; omega) | fail) | fail))) ?_ | refine And.intro (by (first | omega | (unfold InR; omega) | decide | (simp only [ll]; omega))) ?_ | dsimp only)
    refine And.intro (fun _ => ?_) (fun h1 => absurd h1 (by decide))
    refine rf_go (w0 := w0) (T := T) (J := fun i => any fun q : Value => many (pkL (⟨server, c, tgt, hd, hv, b1, b2, b3, b4⟩ : Ln) bn bb bo bq q ((ss.take i).foldl (stepP (baseS (Ln.f (⟨server, c, tgt, hd, hv, b1, b2, b3, b4⟩ : Ln))) (Ln.f (⟨server, c, tgt, hd, hv, b1, b2, b3, b4⟩ : Ln))) ([], [])) ++ [box ba 106 [.func (.func 90) #[] #[.pointer (some ⟨bn, 0, none⟩), .pointer (some ⟨bb, 0, none⟩), .pointer (some ⟨bo, 0, none⟩), .pointer (some ⟨bq, 0, none⟩)]], many R]))
      (XR := fun _ => lift False) (XE := fun _ _ => lift False) hs (fun _ => rfl) ?_ ?_ ?_ (fun b i x w' _ h => h.lifted.elim) (fun b j i x w' _ h => h.lifted.elim)
    · refine Hv.give (.slice none 0 0) (Hv.closes ?_)
      dsimp only [pkL, Ln.bs, List.cons_append, List.nil_append, List.take_zero, List.foldl_nil]
      have o5 := Hv.nilRow 9 1 o4
      exact Sub.hv (subBox rfl (subBox rfl (subBox rfl (subRow rfl rfl (subBox rfl (subBox rfl (subBox rfl (subBox rfl (subBox rfl (subBox rfl subEnd))))))))))
    · intro bd l1 rc R1 F w8 i x hi o8 hnx hr hx
      obtain ⟨q, o9⟩ := o8.pick
      have o10 := o9.opens
      dsimp only [pkL, Ln.bs, List.cons_append, List.nil_append, List.headD] at o10 ⊢
      have hlt : i < ss.length := (List.getElem?_eq_some_iff.1 hi).1
      have hx : ss.getD i default = x := by rw [List.getD_eq_getElem?_getD, hi]; rfl
      have hxl : x.length ≤ 500 := by rw [← hx]; exact hss _ (getD_mem hlt)
      have hbl := bare_len x
      have hst := hsz i (by omega)
      have hstep : (ss.take (i + 1)).foldl (stepP (baseS (Ln.f (⟨server, c, tgt, hd, hv, b1, b2, b3, b4⟩ : Ln))) (Ln.f (⟨server, c, tgt, hd, hv, b1, b2, b3, b4⟩ : Ln))) ([], []) = stepP (baseS (Ln.f (⟨server, c, tgt, hd, hv, b1, b2, b3, b4⟩ : Ln))) (Ln.f (⟨server, c, tgt, hd, hv, b1, b2, b3, b4⟩ : Ln)) ((ss.take i).foldl (stepP (baseS (Ln.f (⟨server, c, tgt, hd, hv, b1, b2, b3, b4⟩ : Ln))) (Ln.f (⟨server, c, tgt, hd, hv, b1, b2, b3, b4⟩ : Ln))) ([], [])) x := by
        rw [take_snoc hlt, List.foldl_append, hx]; rfl
      rw [hstep] at hnx
      generalize (ss.take i).foldl (stepP (baseS (Ln.f (⟨server, c, tgt, hd, hv, b1, b2, b3, b4⟩ : Ln))) (Ln.f (⟨server, c, tgt, hd, hv, b1, b2, b3, b4⟩ : Ln))) ([], []) = st at *
      clear o8 o9 o4
      repeat' (first | refine go ?_ | intro _ | refine And.intro (Sd.mk (by (first | exact fun _ => True.intro | exact And.intro (fun _ => True.intro) (fun _ _ => True.intro) | (intro hq; (first | exact True.intro | omega | (simp only [and_true]; omega) | (simp only [bl] at hq; (try simp only [and_true]); omega) | fail)) | exact And.intro (fun hq => by first | exact True.intro | omega | (simp only [and_true]; omega) | (simp only [bl] at hq; (try simp only [and_true]); omega) | fail) (fun hq hr => by first | exact True.intro | omega | (simp only [and_true]; omega) | (simp only [bl] at hq hr; omega) | (simp only [bl] at hr; omega) | fail) | fail))) ?_ | refine And.intro (by (first | omega | (unfold InR; omega) | decide | (simp only [ll]; omega))) ?_ | (refine And.intro (fun h1 => ?_) (fun h1 => ?_) <;> first | (exact absurd h1 (by decide)) | ((try rw [h1]); (try simp only [bl] at h1))) | dsimp only)
      · have e : stepP (baseS (Ln.f (⟨server, c, tgt, hd, hv, b1, b2, b3, b4⟩ : Ln))) (Ln.f (⟨server, c, tgt, hd, hv, b1, b2, b3, b4⟩ : Ln)) st x = addS (baseS (Ln.f (⟨server, c, tgt, hd, hv, b1, b2, b3, b4⟩ : Ln))) (Ln.f (⟨server, c, tgt, hd, hv, b1, b2, b3, b4⟩ : Ln)) st (bareS x) := by unfold stepP; rw [if_neg h1]
        rw [e] at hnx
        refine add_ok (n := (⟨server, c, tgt, hd, hv, b1, b2, b3, b4⟩ : Ln)) (Tl := R) (q := q) (st := st) (H := box ba 106 [.func (.func 90) #[] #[.pointer (some ⟨bn, 0, none⟩), .pointer (some ⟨bb, 0, none⟩), .pointer (some ⟨bo, 0, none⟩), .pointer (some ⟨bq, 0, none⟩)]] :: many R :: lpB rc l1 :: dfb bd :: F) hn (by omega) (by omega) (by dsimp only [pkL, Ln.bs, List.cons_append, List.nil_append]; exact Sub.hv (subBox rfl (subBox rfl (subBox rfl (subRow rfl rfl (subBox rfl (subBox rfl (subBox rfl (subBox rfl (subBox rfl (subBox rfl (subA (subA (subA subEnd)))))))))))))) ?_
        intro q2 w9 o11
        dsimp only [pkL, Ln.bs, List.cons_append, List.nil_append] at o11
        repeat' (first | refine go ?_ | intro _ | refine And.intro (Sd.mk (by (first | exact fun _ => True.intro | exact And.intro (fun _ => True.intro) (fun _ _ => True.intro) | (intro hq; (first | exact True.intro | omega | (simp only [and_true]; omega) | (simp only [bl] at hq; (try simp only [and_true]); omega) | fail)) | exact And.intro (fun hq => by first | exact True.intro | omega | (simp only [and_true]; omega) | (simp only [bl] at hq; (try simp only [and_true]); omega) | fail) (fun hq hr => by first | exact True.intro | omega | (simp only [and_true]; omega) | (simp only [bl] at hq hr; omega) | (simp only [bl] at hr; omega) | fail) | fail))) ?_ | refine And.intro (by (first | omega | (unfold InR; omega) | decide | (simp only [ll]; omega))) ?_ | (refine And.intro (fun h1 => ?_) (fun h1 => ?_) <;> first | (exact absurd h1 (by decide)) | ((try rw [h1]); (try simp only [bl] at h1))) | dsimp only)
        refine hnx _ (Hv.give q2 (Hv.closes ?_))
        dsimp only [pkL, Ln.bs, List.cons_append, List.nil_append]
        exact Sub.hv (subBox rfl (subBox rfl (subBox rfl (subRow rfl rfl (subBox rfl (subBox rfl (subBox rfl (subBox rfl (subBox rfl (subBox rfl (subA (subA (subA subEnd)))))))))))))
      · have e : stepP (baseS (Ln.f (⟨server, c, tgt, hd, hv, b1, b2, b3, b4⟩ : Ln))) (Ln.f (⟨server, c, tgt, hd, hv, b1, b2, b3, b4⟩ : Ln)) st x = st := by unfold stepP; rw [if_pos h1]
        rw [e] at hnx
        refine hnx _ (Hv.give q (Hv.closes ?_))
        dsimp only [pkL, Ln.bs, List.cons_append, List.nil_append]
        exact Sub.hv (subBox rfl (subBox rfl (subBox rfl (subRow rfl rfl (subBox rfl (subBox rfl (subBox rfl (subBox rfl (subBox rfl (subBox rfl (subA (subA (subA subEnd)))))))))))))
    · intro bd w8 o8
      obtain ⟨q, o9⟩ := o8.pick
      have o10 := o9.opens
      rw [hen] at o10
      dsimp only [pkL, Ln.bs, List.cons_append, List.nil_append] at o10 ⊢
      exact ⟨_, _, _, rfl, Sub.hv (subBox rfl (subBox rfl (subBox rfl (subRow rfl rfl (subBox rfl (subBox rfl (subBox rfl (subBox rfl (subBox rfl subEnd)))))))))⟩
  rintro s ⟨q, b, w5, rfl, o5⟩
  have hst := hsz ss.length (Nat.le_refl _)
  rw [hen] at hst
  have hpk : packS (lineS server c tgt hd) ss = endP (Ln.f (⟨server, c, tgt, hd, hv, b1, b2, b3, b4⟩ : Ln)) (ss.foldl (stepP (baseS (Ln.f (⟨server, c, tgt, hd, hv, b1, b2, b3, b4⟩ : Ln))) (Ln.f (⟨server, c, tgt, hd, hv, b1, b2, b3, b4⟩ : Ln))) ([], [])) := rfl
  rw [hpk] at h
  clear o4
  generalize ss.foldl (stepP (baseS (Ln.f (⟨server, c, tgt, hd, hv, b1, b2, b3, b4⟩ : Ln))) (Ln.f (⟨server, c, tgt, hd, hv, b1, b2, b3, b4⟩ : Ln))) ([], []) = st at *
  obtain ⟨now, out⟩ := st
  dsimp only [pkL, Ln.bs, List.cons_append, List.nil_append] at o5 hst
  repeat' (first | refine go ?_ | intro _ | refine And.intro (Sd.mk (by (first | exact fun _ => True.intro | exact And.intro (fun _ => True.intro) (fun _ _ => True.intro) | (intro hq; (first | exact True.intro | omega | (simp only [and_true]; omega) | (simp only [bl] at hq; (try simp only [and_true]); omega) | fail)) | exact And.intro (fun hq => by first | exact True.intro | omega | (simp only [and_true]; omega) | (simp only [bl] at hq; (try simp only [and_true]); omega) | fail) (fun hq hr => by first | exact True.intro | omega | (simp only [and_true]; omega) | (simp only [bl] at hq hr; omega) | (simp only [bl] at hr; omega) | fail) | fail))) ?_ | refine And.intro (by (first | omega | (unfold InR; omega) | decide | (simp only [ll]; omega))) ?_ | (refine And.intro (fun h1 => ?_) (fun h1 => ?_) <;> first | (exact absurd h1 (by decide)) | ((try rw [h1]); (try simp only [bl] at h1))) | dsimp only)
  · refine line_ok (n := (⟨server, c, tgt, hd, hv, b1, b2, b3, b4⟩ : Ln)) (Tl := R) (H := box bn 9 [str now] :: box bb 3 [.int .i64 (baseS (Ln.f (⟨server, c, tgt, hd, hv, b1, b2, b3, b4⟩ : Ln)))] :: box bo 23 [q] :: row 9 1 q out.length (out.map str) :: box bq 53 [Ln.clo (⟨server, c, tgt, hd, hv, b1, b2, b3, b4⟩ : Ln)] :: many R :: dfb b :: T) hn (by omega) (by dsimp only [Ln.bs, List.cons_append, List.nil_append]; exact Sub.hv (subBox rfl (subBox rfl (subBox rfl (subBox rfl subEnd))))) ?_
    intro w6 o6
    dsimp only [Ln.bs, List.cons_append, List.nil_append] at o6
    have e : endP (Ln.f (⟨server, c, tgt, hd, hv, b1, b2, b3, b4⟩ : Ln)) (now, out) = out ++ [Ln.f (⟨server, c, tgt, hd, hv, b1, b2, b3, b4⟩ : Ln) now] := by
      unfold endP; rw [if_pos]
      rcases h1 with h1 | h1
      · exact .inl h1
      · exact .inr (List.eq_nil_of_length_eq_zero (show out.length = 0 by omega))
    rw [e] at h
    repeat' (first | refine go ?_ | intro _ | refine And.intro (Sd.mk (by (first | exact fun _ => True.intro | exact And.intro (fun _ => True.intro) (fun _ _ => True.intro) | (intro hq; (first | exact True.intro | omega | (simp only [and_true]; omega) | (simp only [bl] at hq; (try simp only [and_true]); omega) | fail)) | exact And.intro (fun hq => by first | exact True.intro | omega | (simp only [and_true]; omega) | (simp only [bl] at hq; (try simp only [and_true]); omega) | fail) (fun hq hr => by first | exact True.intro | omega | (simp only [and_true]; omega) | (simp only [bl] at hq hr; omega) | (simp only [bl] at hr; omega) | fail) | fail))) ?_ | refine And.intro (by (first | omega | (unfold InR; omega) | decide | (simp only [ll]; omega))) ?_ | (refine And.intro (fun h1 => ?_) (fun h1 => ?_) <;> first | (exact absurd h1 (by decide)) | ((try rw [h1]); (try simp only [bl] at h1))) | dsimp only)
    exact h _ _ (Sub.hv (subRow (by simp) (by simp) (subA subEnd)))
  · have e : endP (Ln.f (⟨server, c, tgt, hd, hv, b1, b2, b3, b4⟩ : Ln)) (now, out) = out := by
      unfold endP; rw [if_neg]
      rintro (h2 | h2)
      · exact h2 h1.1
      · apply h1.2; rw [show out = [] from h2]; rfl
    rw [e] at h
    exact h _ _ (Sub.hv (subRow rfl rfl (subA subEnd)))
end
end Go.Proofs.YtapammcnagjigaaGreatDoor

