import Derived.Test.YtapammcnagjigaaDoorSgd
set_option linter.all false
namespace Go.Proofs.YtapammcnagjigaaDoor
open Go.Vx Go.Lib
section
set_option maxRecDepth 20000
set_option synthInstance.maxSize 100000
set_option synthInstance.maxHeartbeats 4000000
variable {K : Value → St → Prop} {w0 w : World} {H : List SL} {ds : List Deferred} {l : List UInt8} {xp : Value} {ps : List (List UInt8)} {np : Nat} {zp : List Value} {server nick pass user real : List UInt8} {z : Int} {tk dn : Bool}
instance parS_ok {c : Int} {k : Nat} [o : Hv w0 H w] [rp : RdsF w0 H xp 1 np zp] [ep : Strs zp ps] [zn : ToN c k] : Step (Cl P 71 #[xp, .int .i64 c] K ⟨w, ds⟩) (0 ≤ c ∧ ∀ w', Hv w0 H w' → K (str (ps.getD k default)) ⟨w', ds⟩) := ⟨fun ⟨hc, h⟩ => by
  obtain rfl : c = (k : Int) := by have := zn.eq hc; omega
  refine cl_ok (c71 (K := fun v w' => K v ⟨w', ds⟩) ?_ fun v w' h => ⟨v, rfl, h⟩)
  have lp : RdsL w0 H xp 1 np zp := rp.loc
  have r1 := rp.rd w o
  have em : np = ps.length := by have := r1.len; rw [ep.eq] at this; simpa using this.symm
  obtain rfl := ep.eq
  clear r1 ep
  subst em
  unfold D71
  repeat' (first | refine go ?_ | intro _ | refine And.intro (Sd.mk (by (first | exact fun _ => True.intro | exact And.intro (fun _ => True.intro) (fun _ _ => True.intro) | (intro hq; (first | exact True.intro | omega | (simp only [and_true]; omega) | (simp only [bl] at hq; (try simp only [and_true]); omega) | fail)) | exact And.intro (fun hq => by first | exact True.intro | omega | (simp only [and_true]; omega) | (simp only [bl] at hq; (try simp only [and_true]); omega) | fail) (fun hq hr => by first | exact True.intro | omega | (simp only [and_true]; omega) | (simp only [bl] at hq hr; omega) | (simp only [bl] at hr; omega) | fail) | fail))) ?_ | refine And.intro (by (first | omega | (unfold InR; omega) | decide | (simp only [ll]; omega))) ?_ | (refine And.intro (fun h1 => ?_) (fun h1 => ?_) <;> first | (exact absurd h1 (by decide)) | ((try rw [h1]); (try simp only [bl] at h1))) | dsimp only)
  · have : ps.getD k default = [] := by rw [List.getD_eq_getElem?_getD, List.getElem?_eq_none (by omega)]; rfl
    rw [this] at h
    exact h _ o
  · exact h _ o⟩
def toS (nick : List UInt8) : List UInt8 := if nick = [] then [42] else nick
abbrev sgV (z : Int) (tk : Bool) (pass nick user real : List UInt8) (dn : Bool) : List Value := [.int .i64 z, .bool tk, str pass, str nick, str user, str real, .bool dn]
instance to_ok [o : Hv w0 H w] : Step (Cl P 73 #[.agg #[.int .i64 z, .bool tk, str pass, str nick, str user, str real, .bool dn]] K ⟨w, ds⟩) (∀ w', Hv w0 H w' → K (str (toS nick)) ⟨w', ds⟩) := ⟨fun h => by
  refine cl_ok (c73 (K := fun v w' => K v ⟨w', ds⟩) ?_ fun v w' h => ⟨v, rfl, h⟩)
  unfold D73
  unfold toS at h
  repeat' (first | refine go ?_ | intro _ | refine And.intro (Sd.mk (by (first | exact fun _ => True.intro | exact And.intro (fun _ => True.intro) (fun _ _ => True.intro) | (intro hq; (first | exact True.intro | omega | (simp only [and_true]; omega) | (simp only [bl] at hq; (try simp only [and_true]); omega) | fail)) | exact And.intro (fun hq => by first | exact True.intro | omega | (simp only [and_true]; omega) | (simp only [bl] at hq; (try simp only [and_true]); omega) | fail) (fun hq hr => by first | exact True.intro | omega | (simp only [and_true]; omega) | (simp only [bl] at hq hr; omega) | (simp only [bl] at hr; omega) | fail) | fail))) ?_ | refine And.intro (by (first | omega | (unfold InR; omega) | decide | (simp only [ll]; omega))) ?_ | (refine And.intro (fun h1 => ?_) (fun h1 => ?_) <;> first | (exact absurd h1 (by decide)) | ((try rw [h1]); (try simp only [bl] at h1))) | dsimp only)
  · rw [if_pos h1] at h; exact h _ (Sub.hv subEnd)
  · rw [if_neg h1] at h; exact h _ (Sub.hv subEnd)⟩
theorem to_len (n : List UInt8) : (toS n).length ≤ n.length + 1 := by unfold toS; split <;> simp
def capB : List UInt8 := [67, 65, 80]
instance said_ok {b1 b2 : Nat} {R1 R2 : List SL} {what text : List UInt8} [o : Hv w0 H w] [i1 : BoxIn H b1 9 [str server] R1] [i2 : BoxIn H b2 52 [.int .i64 z, .bool tk, str pass, str nick, str user, str real, .bool dn] R2] :
    Step (Cl P 72 #[str what, str text, .pointer (some ⟨b1, 0, none⟩), .pointer (some ⟨b2, 0, none⟩)] K ⟨w, ds⟩) ((server.length ≤ 10000 ∧ nick.length ≤ 900 ∧ what.length ≤ 900 ∧ text.length ≤ 900) ∧ ∀ v w', Hv w0 (row 9 1 v 1 [str (makeS server capB [toS nick, what, text])] :: H) w' → K v ⟨w', ds⟩) := ⟨fun ⟨⟨hs, hn, hw, ht⟩, h⟩ => by
  refine cl_ok (c72 (K := fun v w' => K v ⟨w', ds⟩) ?_ fun v w' h => ⟨v, rfl, h⟩)
  unfold D72
  have htl := to_len nick
  repeat' (first | refine go ?_ | intro _ | refine And.intro (Sd.mk (by (first | exact fun _ => True.intro | exact And.intro (fun _ => True.intro) (fun _ _ => True.intro) | (intro hq; (first | exact True.intro | omega | (simp only [and_true]; omega) | (simp only [bl] at hq; (try simp only [and_true]); omega) | fail)) | exact And.intro (fun hq => by first | exact True.intro | omega | (simp only [and_true]; omega) | (simp only [bl] at hq; (try simp only [and_true]); omega) | fail) (fun hq hr => by first | exact True.intro | omega | (simp only [and_true]; omega) | (simp only [bl] at hq hr; omega) | (simp only [bl] at hr; omega) | fail) | fail))) ?_ | refine And.intro (by (first | omega | (unfold InR; omega) | decide | (simp only [ll]; omega))) ?_ | (refine And.intro (fun h1 => ?_) (fun h1 => ?_) <;> first | (exact absurd h1 (by decide)) | ((try rw [h1]); (try simp only [bl] at h1))) | dsimp only)
  refine And.intro ⟨by omega, by decide, by simp, fun p hp => ?_⟩ fun w3 o3 => ?_
  · simp only [List.mem_cons, List.not_mem_nil, or_false] at hp
    rcases hp with rfl | rfl | rfl <;> omega
  · repeat' (first | refine go ?_ | intro _ | refine And.intro (Sd.mk (by (first | exact fun _ => True.intro | exact And.intro (fun _ => True.intro) (fun _ _ => True.intro) | (intro hq; (first | exact True.intro | omega | (simp only [and_true]; omega) | (simp only [bl] at hq; (try simp only [and_true]); omega) | fail)) | exact And.intro (fun hq => by first | exact True.intro | omega | (simp only [and_true]; omega) | (simp only [bl] at hq; (try simp only [and_true]); omega) | fail) (fun hq hr => by first | exact True.intro | omega | (simp only [and_true]; omega) | (simp only [bl] at hq hr; omega) | (simp only [bl] at hr; omega) | fail) | fail))) ?_ | refine And.intro (by (first | omega | (unfold InR; omega) | decide | (simp only [ll]; omega))) ?_ | (refine And.intro (fun h1 => ?_) (fun h1 => ?_) <;> first | (exact absurd h1 (by decide)) | ((try rw [h1]); (try simp only [bl] at h1))) | dsimp only)
    exact h _ _ (Sub.hv (subRow rfl rfl subEnd))⟩
instance userS_ok [o : Hv w0 H w] : Step (Cl P 68 #[str l] K ⟨w, ds⟩) (l.length ≤ 1000000000 ∧ ∀ (b : Bool) w', Hv w0 H w' → K (.bool b) ⟨w', ds⟩) := ⟨fun ⟨hl, h⟩ => by
  refine cl_ok (c68 (K := fun v w' => K v ⟨w', ds⟩) ?_ fun v w' h => ⟨v, rfl, h⟩)
  unfold D68
  repeat' (first | refine go ?_ | intro _ | refine And.intro (Sd.mk (by (first | exact fun _ => True.intro | exact And.intro (fun _ => True.intro) (fun _ _ => True.intro) | (intro hq; (first | exact True.intro | omega | (simp only [and_true]; omega) | (simp only [bl] at hq; (try simp only [and_true]); omega) | fail)) | exact And.intro (fun hq => by first | exact True.intro | omega | (simp only [and_true]; omega) | (simp only [bl] at hq; (try simp only [and_true]); omega) | fail) (fun hq hr => by first | exact True.intro | omega | (simp only [and_true]; omega) | (simp only [bl] at hq hr; omega) | (simp only [bl] at hr; omega) | fail) | fail))) ?_ | refine And.intro (by (first | omega | (unfold InR; omega) | decide | (simp only [ll]; omega))) ?_ | (refine And.intro (fun h1 => ?_) (fun h1 => ?_) <;> first | (exact absurd h1 (by decide)) | ((try rw [h1]); (try simp only [bl] at h1))) | dsimp only)
  exact h _ _ (Sub.hv subEnd)⟩
instance ready_ok [o : Hv w0 H w] : Step (Cl P 34 #[.agg #[.int .i64 z, .bool tk, str pass, str nick, str user, str real, .bool dn]] K ⟨w, ds⟩) (∀ (b : Bool) w', (dn = true → b = false) → Hv w0 H w' → K (.bool b) ⟨w', ds⟩) := ⟨fun h => by
  refine cl_ok (c34 (K := fun v w' => K v ⟨w', ds⟩) ?_ fun v w' h => ⟨v, rfl, h⟩)
  unfold D34
  repeat' (first | refine go ?_ | intro _ | refine And.intro (Sd.mk (by (first | exact fun _ => True.intro | exact And.intro (fun _ => True.intro) (fun _ _ => True.intro) | (intro hq; (first | exact True.intro | omega | (simp only [and_true]; omega) | (simp only [bl] at hq; (try simp only [and_true]); omega) | fail)) | exact And.intro (fun hq => by first | exact True.intro | omega | (simp only [and_true]; omega) | (simp only [bl] at hq; (try simp only [and_true]); omega) | fail) (fun hq hr => by first | exact True.intro | omega | (simp only [and_true]; omega) | (simp only [bl] at hq hr; omega) | (simp only [bl] at hr; omega) | fail) | fail))) ?_ | refine And.intro (by (first | omega | (unfold InR; omega) | decide | (simp only [ll]; omega))) ?_ | (refine And.intro (fun h1 => ?_) (fun h1 => ?_) <;> first | (exact absurd h1 (by decide)) | ((try rw [h1]); (try simp only [bl] at h1))) | dsimp only)
  exact h _ _ (fun hd => by rw [hd]; simp) (Sub.hv subEnd)⟩
end
end Go.Proofs.YtapammcnagjigaaDoor

