import Derived.WalkKit
import Derived.RangeFuncLeaves
import Derived.RangeFuncRecord
import Derived.RangeFuncCalls
import Derived.KernelRfl
import Derived.Orders
import Derived.Deep.Quiet
import Derived.OrdersIn
set_option linter.all false
namespace Go.Vx
structure St where
  w : World
  ds : List Deferred
abbrev Fr := Nat → Value
def Fr.set (f : Fr) (t : Nat) (v : Value) : Fr := fun i => bif Nat.beq i t then v else f i
def Fr.put (n : Nat) (f : Fr) (d : Option Tmp) (v : Value) : Fr :=
  match d with
  | some t => bif Nat.blt t n then f.set t v else f
  | none => f
def Fr.ev (n : Nat) (f : Fr) : Operand → Value
  | .tmp t => bif Nat.blt t n then f t else undef
  | .const v => v
  | .global g => .pointer (some ⟨g, 0, none⟩)
  | .func g => .func (.func g) #[] #[]
theorem blt_t {t n : Nat} (h : t < n) : Nat.blt t n = true := by simpa using h
theorem blt_f {t n : Nat} (h : n ≤ t) : Nat.blt t n = false := by
  cases hb : Nat.blt t n with
  | false => rfl
  | true => exact absurd (show t < n by simpa using hb) (Nat.not_lt.2 h)
theorem beq_f {t i : Nat} (h : i ≠ t) : Nat.beq i t = false := by
  cases hb : Nat.beq i t with
  | false => rfl
  | true => exact absurd (Nat.eq_of_beq_eq_true hb) h
def Agree (n : Nat) (arr : Array Value) (f : Fr) : Prop := arr.size = n ∧ ∀ t, t < n → arr.getD t undef = f t
theorem Fr.set_same (f : Fr) (t : Nat) (v : Value) : f.set t v t = v := by simp [Fr.set]
theorem Fr.set_ne (f : Fr) {t i : Nat} (v : Value) (h : i ≠ t) : f.set t v i = f i := by
  simp [Fr.set, beq_f h]
theorem Agree.ev {n : Nat} {arr : Array Value} {f : Fr} (h : Agree n arr f) (ds : List Deferred) (x : Operand) : (Act.mk arr ds).eval x = f.ev n x := by
  cases x with
  | tmp t =>
    simp only [Act.eval, Fr.ev]
    rcases Nat.lt_or_ge t n with ht | ht
    · have : Nat.blt t n = true := blt_t ht
      simp [this, ← h.2 t ht]
    · have : Nat.blt t n = false := blt_f ht
      have h2 : arr[t]? = none := by have e1 := h.1; simp only [Array.getElem?_eq_none_iff]; omega
      simp [this, h2]
  | const v => rfl
  | global g => rfl
  | func g => rfl
theorem Agree.put {n : Nat} {arr : Array Value} {f : Fr} (h : Agree n arr f) (ds : List Deferred) (d : Option Tmp) (v : Value) :
    Agree n ((Act.mk arr ds).put d v).tmps (f.put n d v) := by
  cases d with
  | none => exact h
  | some t =>
    simp only [Act.put, Fr.put]
    refine ⟨by simp [h.1], fun i hi => ?_⟩
    rcases Nat.lt_or_ge t n with ht | ht
    · have hb : Nat.blt t n = true := blt_t ht
      simp only [hb, cond_true]
      by_cases e : i = t
      · subst e
        rw [Fr.set_same]
        simp [h.1, hi]
      · rw [Fr.set_ne f v e, ← h.2 i hi]
        simp [Ne.symm e]
    · have hb : Nat.blt t n = false := blt_f ht
      simp only [hb, cond_false]
      rw [← h.2 i hi, Array.setIfInBounds_eq_of_size_le (by have e1 := h.1; omega)]
def mo : Operand → Nat | .tmp t => 2 ^ t | _ => 0
def ml : List Operand → Nat | [] => 0 | x :: l => mo x ||| ml l
def mop (op : Op) : Nat := ml op.operands.toList
def bit (n : Nat) : Option Nat → Nat
  | some t => bif Nat.blt t n then 2 ^ t else 0
  | none => 0
def kill (m b : Nat) : Nat := m ^^^ (m &&& b)
def bitsOf (n m : Nat) : List Nat := (List.range n).filter fun i => m.testBit i
theorem testBit_shl (t i : Nat) : (2 ^ t).testBit i = decide (i = t) := by
  rw [Nat.testBit_two_pow]; exact decide_eq_decide.2 eq_comm
theorem testBit_kill (m b i : Nat) : (kill m b).testBit i = (m.testBit i && !b.testBit i) := by
  simp only [kill, Nat.testBit_xor, Nat.testBit_and]
  cases m.testBit i <;> cases b.testBit i <;> rfl
theorem mem_bitsOf {n m i : Nat} : i ∈ bitsOf n m ↔ i < n ∧ m.testBit i = true := by simp [bitsOf]
def Same (n m : Nat) (f g : Fr) : Prop := ∀ i, i < n → m.testBit i = true → f i = g i
def But (n m : Nat) (f g : Fr) : Prop := ∀ i, i < n → m.testBit i = false → f i = g i
theorem ev_same {n m : Nat} {f g : Fr} (h : Same n m f g) (x : Operand) (hx : ∀ i, (mo x).testBit i = true → m.testBit i = true) : f.ev n x = g.ev n x := by
  cases x with
  | tmp t =>
    simp only [Fr.ev]
    rcases Nat.lt_or_ge t n with ht | ht
    · have hb : Nat.blt t n = true := blt_t ht
      simp only [hb, cond_true]
      exact h t ht (hx t (by simp [mo]))
    · have hb : Nat.blt t n = false := blt_f ht
      simp [hb]
  | const v => rfl
  | global g => rfl
  | func g => rfl
theorem ml_mem {l : List Operand} {x : Operand} (hx : x ∈ l) {i : Nat} (hi : (mo x).testBit i = true) : (ml l).testBit i = true := by
  induction l with
  | nil => cases hx
  | cons y l ih =>
    simp only [ml, Nat.testBit_or, Bool.or_eq_true]
    cases hx with
    | head => exact .inl hi
    | tail _ h => exact .inr (ih h)
theorem evs_same {n m : Nat} {f g : Fr} (h : Same n m f g) (op : Op) (hm : ∀ i, (mop op).testBit i = true → m.testBit i = true) : ∀ x ∈ op.operands, f.ev n x = g.ev n x :=
  fun x hx => ev_same h x fun i hi => hm i (ml_mem (by simpa using hx) hi)
theorem put_same {n m : Nat} {f g : Fr} {d : Option Nat} (h : Same n (kill m (bit n d)) f g) (v : Value) : Same n m (f.put n d v) (g.put n d v) := by
  intro i hi hm
  cases d with
  | none => exact h i hi (by simp [testBit_kill, bit, hm])
  | some t =>
    simp only [Fr.put]
    rcases Nat.lt_or_ge t n with ht | ht
    · have hb : Nat.blt t n = true := blt_t ht
      simp only [hb, cond_true]
      by_cases e : i = t
      · subst e; simp [Fr.set_same]
      · rw [Fr.set_ne f v e, Fr.set_ne g v e]
        exact h i hi (by simp [testBit_kill, bit, hb, testBit_shl, hm, e])
    · have hb : Nat.blt t n = false := blt_f ht
      simp only [hb, cond_false]
      exact h i hi (by simp [testBit_kill, bit, hb, hm])
theorem put_but {n : Nat} (f : Fr) (d : Option Nat) (v : Value) : But n (bit n d) f (f.put n d v) := by
  intro i hi hm
  cases d with
  | none => rfl
  | some t =>
    simp only [Fr.put]
    rcases Nat.lt_or_ge t n with ht | ht
    · have hb : Nat.blt t n = true := blt_t ht
      simp only [hb, cond_true]
      simp only [bit, hb, cond_true, testBit_shl, decide_eq_false_iff_not] at hm
      rw [Fr.set_ne f v hm]
    · have hb : Nat.blt t n = false := blt_f ht
      simp [hb]
theorem But.refl (n m : Nat) (f : Fr) : But n m f f := fun _ _ _ => rfl
theorem But.trans {n m m' k : Nat} {f g h : Fr} (a : But n m f g) (b : But n m' g h) (hm : ∀ i, k.testBit i = false → m.testBit i = false ∧ m'.testBit i = false) : But n k f h :=
  fun i hi hk => (a i hi (hm i hk).1).trans (b i hi (hm i hk).2)
theorem But.mono {n m k : Nat} {f g : Fr} (a : But n m f g) (hm : ∀ i, k.testBit i = false → m.testBit i = false) : But n k f g :=
  fun i hi hk => a i hi (hm i hk)
def NextP (P : Program) (K : Value → St → Prop) (ds : List Deferred) : Result Next → Prop
  | .ok (.value v) w => K v ⟨w, ds⟩
  | .ok .skip w => K undef ⟨w, ds⟩
  | .ok (.defer d) w => K undef ⟨w, d :: ds⟩
  | .ok (.enter f args) w => Calls P f args w fun e w' => ∃ v, e = .returned v ∧ K v ⟨w', ds⟩
  | .ok (.row row args) w => Rows P row args w fun v w' => K v ⟨w', ds⟩
  | .ok (.round l f tmps a b) w => RoundIn Fence.wide 0 P l f tmps a b w fun e w' => ∃ v, e = .returned v ∧ K v ⟨w', ds⟩
  | _ => False
structure OpP (P : Program) (sem : Sem Next) (K : Value → St → Prop) (s : St) : Prop where
  out : NextP P K s.ds (sem.run P s.w)
theorem NextP.mono {P : Program} {K K' : Value → St → Prop} {ds : List Deferred} {r : Result Next} (hk : ∀ v s, K v s → K' v s) (h : NextP P K ds r) : NextP P K' ds r := by
  cases r with
  | halt h' w => exact h
  | ok x w =>
    cases x <;> simp only [NextP] at h ⊢ <;> first
      | exact hk _ _ h
      | exact h.mono fun e w' ⟨v, he, hv⟩ => ⟨v, he, hk _ _ hv⟩
      | exact h.mono fun v w' hv => hk _ _ hv
      | exact h
theorem OpP.mono {P : Program} {K K' : Value → St → Prop} {sem : Sem Next} {s : St} (hk : ∀ v s, K v s → K' v s) (h : OpP P sem K s) : OpP P sem K' s := ⟨NextP.mono hk h.out⟩
def isDefer : Op → Bool | .defer _ => true | _ => false
def isSelect : Op → Bool | .select .. => true | _ => false
def isC : Operand → Bool | .const _ => true | _ => false
def binS (op : BinOp) (t : TypeId) (cx cy : Bool) (a b : Value) : Sem Value := do
  eqGuard op t (bif cx then .const .nilIface else .func 0) (bif cy then .const .nilIface else .func 0) a b
  Go.binOp op t a b
def Vl (P : Program) (m : Sem Value) (K : Value → St → Prop) (s : St) : Prop := OpP P (do pure (.value (← m))) K s
structure Cl (P : Program) (g : FuncId) (args : Array Value) (K : Value → St → Prop) (s : St) : Prop where
  out : Calls P g args s.w fun e w' => ∃ v, e = .returned v ∧ K v ⟨w', s.ds⟩
def hasBody (P : Program) (g : Nat) : Bool :=
  match P.funcs[g]? with
  | some fn => !(fn.name == "runtime.NumGoroutine") && fn.body.isSome
  | none => false
def Bodies (P : Program) (b : Nat) : Prop := P.follows .mixedOrders = true ∧ ∀ g, b.testBit g = true → hasBody P g = true
def opw (P : Program) (b n : Nat) (r : Option Nat) (o : Oper) (f : Fr) (K : Value → St → Prop) (s : St) : Prop :=
  match o.op with
  | .move x => K (f.ev n x) s
  | .assign x => K (f.ev n x) s
  | .select .. => False
  | .defer _ => r = none ∧ OpP P (execOp (f.ev n) o) K s
  | .binOp op t x y _ => Vl P (binS op t (isC x) (isC y) (f.ev n x) (f.ev n y)) K s
  | .call { callee := .value (.func g), args, .. } => bif b.testBit g then Cl P g (args.map (f.ev n)) K s else OpP P (execOp (f.ev n) o) K s
  | _ => OpP P (execOp (f.ev n) o) K s
theorem opw_eq {P : Program} {b n : Nat} (hb : Bodies P b) {r : Option Nat} {o : Oper} {f : Fr} {K : Value → St → Prop} {s : St} (h : opw P b n r o f K s) :
    isSelect o.op = false ∧ (isDefer o.op = true → r = none) ∧ OpP P (execOp (f.ev n) o) K s := by
  unfold opw at h
  split at h
  · rename_i x hx
    refine ⟨by simp [hx, isSelect], by simp [hx, isDefer], ?_⟩
    have : (execOp (f.ev n) o).run P s.w = .ok (.value (f.ev n x)) s.w := by unfold execOp; rw [hx]; rfl
    exact ⟨by rw [this]; exact h⟩
  · rename_i x hx
    refine ⟨by simp [hx, isSelect], by simp [hx, isDefer], ?_⟩
    have : (execOp (f.ev n) o).run P s.w = .ok (.value (f.ev n x)) s.w := by unfold execOp; rw [hx]; rfl
    exact ⟨by rw [this]; exact h⟩
  · exact h.elim
  · rename_i c hx
    exact ⟨by simp [hx, isSelect], fun _ => h.1, h.2⟩
  · rename_i op t x y ty hx
    refine ⟨by simp [hx, isSelect], by simp [hx, isDefer], ?_⟩
    have hg : eqGuard op t (bif isC x then .const .nilIface else .func 0) (bif isC y then .const .nilIface else .func 0) (f.ev n x) (f.ev n y) = eqGuard op t x y (f.ev n x) (f.ev n y) := by
      cases x <;> cases y <;> rfl
    have : execOp (f.ev n) o = (do pure (.value (← binS op t (isC x) (isC y) (f.ev n x) (f.ev n y)))) := by
      unfold execOp binS; rw [hx, hg]
    rw [this]; exact h
  · rename_i g args tys hx
    refine ⟨by simp [hx, isSelect], by simp [hx, isDefer], ?_⟩
    cases hbg : b.testBit g with
    | false => simpa [hbg] using h
    | true =>
      simp only [hbg, cond_true] at h
      have hh := hb.2 g hbg
      unfold hasBody at hh
      split at hh
      · rename_i fn hfn
        simp only [Bool.and_eq_true, Bool.not_eq_true'] at hh
        have : (execOp (f.ev n) o).run P s.w = .ok (.enter g (args.map (f.ev n))) s.w := by
          unfold execOp; rw [hx]
          have hn : fn.body ≠ none := by cases hbb : fn.body <;> simp_all
          have hm : fn.name ≠ "runtime.NumGoroutine" := by simpa using hh.1
          simp [resolve, Deferred.ofValue, Fr.ev, invoke, callFunc, program, Sem.run, hfn, hm, hn, Bind.bind, Sem.bind, Pure.pure]
        exact ⟨by rw [this]; exact h.out⟩
      · cases hh
  · rename_i h1 h2 h3 h4 h5 h6
    refine ⟨?_, ?_, h⟩
    · cases ho : o.op <;> simp [isSelect]; exact h3 _ _ ho
    · intro hd; cases ho : o.op <;> simp [ho, isDefer] at hd; exact (h4 _ ho).elim
theorem Vl.mono {P : Program} {m : Sem Value} {K K' : Value → St → Prop} {s : St} (hk : ∀ v s, K v s → K' v s) (h : Vl P m K s) : Vl P m K' s := OpP.mono hk h
theorem Cl.mono {P : Program} {g : FuncId} {args : Array Value} {K K' : Value → St → Prop} {s : St} (hk : ∀ v s, K v s → K' v s) (h : Cl P g args K s) : Cl P g args K' s :=
  ⟨Calls.mono h.out fun _ _ ⟨v, he, hv⟩ => ⟨v, he, hk _ _ hv⟩⟩
theorem opw_mono {P : Program} {b n : Nat} {r : Option Nat} {o : Oper} {f : Fr} {K K' : Value → St → Prop} {s : St} (hk : ∀ v s, K v s → K' v s) (h : opw P b n r o f K s) : opw P b n r o f K' s := by
  unfold opw at *
  split at h
  · exact hk _ _ h
  · exact hk _ _ h
  · exact h.elim
  · exact ⟨h.1, OpP.mono hk h.2⟩
  · exact Vl.mono hk h
  · rename_i g args tys hx
    cases hb : b.testBit g <;> simp only [hb, cond_true, cond_false] at h ⊢
    · exact OpP.mono hk h
    · exact Cl.mono hk h
  · exact OpP.mono hk h
def FW (r : Option Nat) : Fence := { Fence.wide with round := r }
theorem calls_FW {r : Option Nat} {k : Nat} {P : Program} {f : FuncId} {args : Array Value} {w : World} {R : Ending → World → Prop} (h : Calls P f args w R) : CallsIn (FW r) k P f args w R := by
  have h' : CallsIn Fence.wide k P f args w R := callsIn_wide.2 h
  exact h'
theorem calls_of_FW {r : Option Nat} {k : Nat} {P : Program} {f : FuncId} {args : Array Value} {w : World} {R : Ending → World → Prop} (h : CallsIn (FW r) k P f args w R) : Calls P f args w R := by
  have h' : CallsIn Fence.wide k P f args w R := h
  exact callsIn_wide.1 h'
theorem opw_same {P : Program} {b n m : Nat} {r : Option Nat} {o : Oper} {f g : Fr} {K : Value → St → Prop} {s : St} (hs : Same n m f g) (hm : ∀ i, (mop o.op).testBit i = true → m.testBit i = true)
    (h : opw P b n r o f K s) : opw P b n r o g K s := by
  have he := evs_same hs o.op hm
  unfold opw at h
  split at h
  · rename_i x hx
    unfold opw; simp only [hx]
    rwa [he x (by simp [hx, Op.operands])] at h
  · rename_i x hx
    unfold opw; simp only [hx]
    rwa [he x (by simp [hx, Op.operands])] at h
  · exact h.elim
  · rename_i c hx
    unfold opw; simp only [hx]
    refine ⟨h.1, ?_⟩
    rw [← execOp_congr o (by simp [hx]) he]
    exact h.2
  · rename_i op t x y ty hx
    unfold opw; simp only [hx]
    rwa [he x (by simp [hx, Op.operands]), he y (by simp [hx, Op.operands])] at h
  · rename_i q args tys hx
    unfold opw; simp only [hx]
    have ha : args.map (f.ev n) = args.map (g.ev n) := Array.map_congr_left fun x hxm => he x (by simp [hx, Op.operands, Call.operands, hxm])
    rw [← ha, ← execOp_congr o (by simp [hx]) he]
    exact h
  · rename_i h1 h2 h3 h4 h5 h6
    unfold opw
    split
    · rename_i x hx; exact (h1 x hx).elim
    · rename_i x hx; exact (h2 x hx).elim
    · rename_i hx; exact (h3 _ _ hx).elim
    · rename_i x hx; exact (h4 x hx).elim
    · rename_i hx; exact (h5 _ _ _ _ _ hx).elim
    · rename_i hx; exact (h6 _ _ _ hx).elim
    · rw [← execOp_congr o (fun cs b hx => h3 _ _ hx) he]
      exact h
theorem nextP_upon {P : Program} {r : Option Nat} {o : Oper} {arr : Array Value} {K : Value → St → Prop} {ds : List Deferred} {next : Act → World → Prop} {Q : Exit → Act → World → Prop} {res : Result Next}
    (hk : ∀ v s', K v s' → next ((Act.mk arr s'.ds).put o.dst v) s'.w) (h : NextP P K ds res) : o.uponIn (FW r) 0 P ⟨arr, ds⟩ next Q res := by
  cases res with
  | halt x w => exact h.elim
  | ok x w =>
    cases x <;> simp only [NextP] at h <;> simp only [Oper.uponIn]
    case value v => exact hk _ _ h
    case skip => exact hk _ _ h
    case defer d => exact hk _ _ h
    case enter f args =>
      refine ⟨fun hd => by simp [FW, Fence.wide] at hd, (calls_FW (h.mono ?_))⟩
      rintro e w' ⟨v, rfl, hv⟩
      exact hk _ _ hv
    case row row args =>
      refine ⟨fun hd => by simp [FW, Fence.wide] at hd, fun c cs _ => ?_⟩
      obtain ⟨v, w', hv, hst⟩ := h c cs
      exact ⟨v, w', hk _ _ hv, stepsIn_wide.2 hst⟩
    case round l f tmps a b =>
      refine ⟨fun hd => by simp [FW, Fence.wide] at hd, ?_⟩
      have h' : RoundIn (FW r) 0 P l f tmps a b w _ := h
      refine h'.mono ?_
      rintro e w' ⟨v, rfl, hv⟩
      exact hk _ _ hv
theorem op_sound {P : Program} {b n : Nat} (hb : Bodies P b) {r : Option Nat} {o : Oper} {arr : Array Value} {f : Fr} {K : Value → St → Prop} {s : St} {next : Act → World → Prop} {Q : Exit → Act → World → Prop}
    (hA : Agree n arr f) (hk : ∀ v s', K v s' → next ((Act.mk arr s'.ds).put o.dst v) s'.w) (h : opw P b n r o f K s) : o.wpIn (FW r) 0 P ⟨arr, s.ds⟩ s.w next Q := by
  have hev : (Act.mk arr s.ds).eval = f.ev n := funext fun x => hA.ev _ x
  obtain ⟨_, hd, h'⟩ := opw_eq hb h
  refine ⟨fun _ _ => trivial, ?_⟩
  have hsem : o.semAt (FW r).round (Act.mk arr s.ds).eval = execOp (f.ev n) o := by
    rw [hev]
    unfold Oper.semAt
    split
    · rename_i l c hx hop
      have := hd (by rw [hop]; rfl)
      rw [this] at hx; cases hx
    · rfl
  rw [hsem]
  exact nextP_upon hk h'.out
abbrev Gs := List (Option (Nat × Bool) × List Oper)
def geq : Option (Nat × Bool) → Option (Nat × Bool) → Bool
  | none, none => true
  | some (i, a), some (j, b) => Nat.beq i j && (a == b)
  | _, _ => false
theorem geq_eq {a b : Option (Nat × Bool)} (h : geq a b = true) : a = b := by
  cases a with
  | none => cases b <;> simp_all [geq]
  | some x =>
    cases b with
    | none => simp [geq] at h
    | some y =>
      obtain ⟨i, p⟩ := x; obtain ⟨j, q⟩ := y
      simp only [geq, Bool.and_eq_true, beq_iff_eq] at h
      rw [Nat.eq_of_beq_eq_true h.1, h.2]
def grp : List Oper → Gs
  | [] => []
  | o :: r =>
    match grp r with
    | [] => [(o.guard, [o])]
    | (g, os) :: gs => bif geq o.guard g then (g, o :: os) :: gs else (o.guard, [o]) :: (g, os) :: gs
def flat : Gs → List Oper
  | [] => []
  | (_, os) :: gs => os ++ flat gs
theorem flat_grp (l : List Oper) : flat (grp l) = l := by
  induction l with
  | nil => rfl
  | cons o r ih =>
    simp only [grp]
    split
    · rename_i h; rw [h] at ih; simp only [flat] at ih ⊢; simp [← ih]
    · rename_i g os gs h
      rw [h] at ih
      cases geq o.guard g <;> simp only [cond_true, cond_false, flat] at ih ⊢ <;> simp [← ih]
theorem grp_guard (l : List Oper) : ∀ p ∈ grp l, ∀ o ∈ p.2, o.guard = p.1 := by
  induction l with
  | nil => simp [grp]
  | cons o r ih =>
    simp only [grp]
    split
    · simp
    · rename_i g os gs h
      rw [h] at ih
      cases hg : geq o.guard g with
      | false =>
        simp only [cond_false]
        intro p hp
        cases hp with
        | head => simp
        | tail _ hp => exact ih p hp
      | true =>
        simp only [cond_true]
        intro p hp
        cases hp with
        | head =>
          intro o' ho'
          cases ho' with
          | head => exact geq_eq hg
          | tail _ h' => exact ih _ (List.mem_cons_self ..) o' h'
        | tail _ hp => exact ih p (List.mem_cons_of_mem _ hp)
def gslot (ops : List Oper) (j : Nat) : Option Nat := (ops[j]?).bind (·.dst)
def gmask (ops : List Oper) : Option (Nat × Bool) → Nat
  | none => 0
  | some (j, _) => match gslot ops j with | some t => 2 ^ t | none => 0
def lo (n : Nat) (ops : List Oper) : List Oper → Nat → Nat
  | [], m => m
  | o :: r, m => (kill (lo n ops r m) (bit n o.dst) ||| mop o.op) ||| gmask ops o.guard
def dm (n : Nat) : List Oper → Nat
  | [] => 0
  | o :: r => bit n o.dst ||| dm n r
def CurTy : List Nat → Type
  | [] => St → Prop
  | _ :: l => Value → CurTy l
def allC (l : List Nat) (A : CurTy l) (f : Fr) (k : Fr → St → Prop) : Prop :=
  match l, A with
  | [], A => ∀ s, A s → k f s
  | t :: l, A => ∀ v, allC l (A v) (f.set t v) k
def appC (l : List Nat) (A : CurTy l) (f : Fr) (s : St) : Prop :=
  match l, A with
  | [], A => A s
  | t :: l, A => appC l (A (f t)) f s
def Jn (l : List Nat) (f : Fr) (br : (Fr → St → Prop) → Prop) (k : Fr → St → Prop) : Prop :=
  ∃ A : CurTy l, allC l A f k ∧ br (fun f' s' => appC l A f' s')
def Grd (v : Value) (want : Bool) (A B : Prop) : Prop := (v = .bool want → A) ∧ (v ≠ .bool want → B)
def setL (f : Fr) : List Nat → Fr → Fr
  | [], _ => f
  | t :: l, g => setL (f.set t (g t)) l g
theorem allC_app {l : List Nat} : ∀ {A : CurTy l} {f g : Fr} {k : Fr → St → Prop} {s : St}, allC l A f k → appC l A g s → k (setL f l g) s := by
  induction l with
  | nil => exact fun h1 h2 => h1 _ h2
  | cons t l ih => exact fun h1 h2 => ih (h1 _) h2
theorem setL_not {l : List Nat} {i : Nat} (hi : i ∉ l) : ∀ (f g : Fr), setL f l g i = f i := by
  induction l with
  | nil => intro f g; rfl
  | cons t l ih =>
    intro f g
    simp only [List.mem_cons, not_or] at hi
    rw [setL, ih hi.2, Fr.set_ne f _ hi.1]
theorem setL_mem {l : List Nat} {i : Nat} (hi : i ∈ l) : ∀ (f g : Fr), setL f l g i = g i := by
  induction l with
  | nil => cases hi
  | cons t l ih =>
    intro f g
    by_cases h : i ∈ l
    · exact ih h _ _
    · have : i = t := by simpa [h] using hi
      subst this
      rw [setL, setL_not h, Fr.set_same]
theorem appC_same {l : List Nat} : ∀ {A : CurTy l} {f g : Fr} {s : St}, (∀ i ∈ l, f i = g i) → appC l A f s → appC l A g s := by
  induction l with
  | nil => exact fun _ h => h
  | cons t l ih =>
    intro A f g s he h
    simp only [appC] at h ⊢
    rw [← he t (List.mem_cons_self ..)]
    exact ih (fun i hi => he i (List.mem_cons_of_mem _ hi)) h
theorem allC_frame {l : List Nat} {n m : Nat} : ∀ {A : CurTy l} {f g : Fr} {k : Fr → St → Prop}, (∀ f g s, Same n m f g → k f s → k g s) → (∀ i, i < n → m.testBit i = true → i ∈ l ∨ f i = g i) → allC l A f k → allC l A g k := by
  induction l with
  | nil => exact fun hk he h s hs => hk _ _ _ (fun i hi hm => (he i hi hm).resolve_left (by simp)) (h s hs)
  | cons t l ih =>
    intro A f g k hk he h v
    refine ih hk ?_ (h v)
    intro i hi hm
    by_cases e : i = t
    · subst e; right; rw [Fr.set_same, Fr.set_same]
    · rcases he i hi hm with h1 | h1
      · left; simpa [e] using h1
      · right; rw [Fr.set_ne _ _ e, Fr.set_ne _ _ e, h1]
def frc {α : Sort _} (n : Nat) (k : Nat → α) : α := match n with | 0 => k 0 | m + 1 => k (m + 1)
theorem frc_eq {α : Sort _} (n : Nat) (k : Nat → α) : frc n k = k n := by cases n <;> rfl
def frcL {α : Sort _} : List Nat → (List Nat → α) → α
  | [], k => k []
  | x :: l, k => frc x fun y => frcL l fun l' => k (y :: l')
theorem frcL_eq {α : Sort _} (l : List Nat) (k : List Nat → α) : frcL l k = k l := by
  induction l generalizing k with
  | nil => rfl
  | cons x l ih => simp only [frcL, frc_eq, ih]
def runs (P : Program) (bd n : Nat) (r : Option Nat) : List Oper → (Fr → St → Prop) → Fr → St → Prop
  | [], K, f, s => K f s
  | o :: os, K, f, s => opw P bd n r o f (fun v s' => runs P bd n r os K (f.put n o.dst v) s') s
def undefs (n : Nat) : List Oper → Fr → Fr
  | [], f => f
  | o :: os, f => undefs n os (f.put n o.dst undef)
def lg (n : Nat) (ops : List Oper) : Gs → Nat → Nat
  | [], m => m
  | (g, os) :: gs, m => lo n ops os (lg n ops gs m) ||| gmask ops g
def wpg (P : Program) (bd n : Nat) (r : Option Nat) (ops : List Oper) (m : Nat) (K : Fr → St → Prop) : Gs → Fr → St → Prop
  | [], f, s => K f s
  | (none, os) :: gs, f, s => runs P bd n r os (wpg P bd n r ops m K gs) f s
  | (some (j, want), os) :: gs, f, s =>
    match gslot ops j with
    | some t => bif (dm n os).testBit t then False else
        frcL (bitsOf n (lg n ops gs m &&& dm n os)) fun sl => Jn sl f (fun J => Grd (f.ev n (.tmp t)) want (runs P bd n r os J f s) (J (undefs n os f) s)) (wpg P bd n r ops m K gs)
    | none => False
section
variable {P : Program} {bd n : Nat} {r : Option Nat}
theorem or_t {a b : Nat} {i : Nat} : (a ||| b).testBit i = true ↔ a.testBit i = true ∨ b.testBit i = true := by simp [Nat.testBit_or]
theorem or_f {a b : Nat} {i : Nat} : (a ||| b).testBit i = false ↔ a.testBit i = false ∧ b.testBit i = false := by simp [Nat.testBit_or]
theorem kill_t {a b : Nat} {i : Nat} (ha : a.testBit i = true) (hb : b.testBit i = false) : (kill a b).testBit i = true := by simp [testBit_kill, ha, hb]
theorem Same.sub {m m' : Nat} {f g : Fr} (h : Same n m f g) (hm : ∀ i, m'.testBit i = true → m.testBit i = true) : Same n m' f g := fun i hi h' => h i hi (hm i h')
def Dep (n m : Nat) (K : Fr → St → Prop) : Prop := ∀ f g s, Same n m f g → K f s → K g s
theorem lo_ge {ops : List Oper} {os : List Oper} {m i : Nat} (hm : m.testBit i = true) (hd : (dm n os).testBit i = false) : (lo n ops os m).testBit i = true := by
  induction os with
  | nil => exact hm
  | cons o os ih =>
    simp only [dm, or_f] at hd
    exact or_t.2 (.inl (or_t.2 (.inl (kill_t (ih hd.2) hd.1))))
theorem runs_str {os : List Oper} : ∀ {K K' : Fr → St → Prop} {f : Fr} {s : St}, runs P bd n r os K f s → (∀ f' s', But n (dm n os) f f' → K f' s' → K' f' s') → runs P bd n r os K' f s := by
  induction os with
  | nil => exact fun h hk => hk _ _ (But.refl _ _ _) h
  | cons o os ih =>
    intro K K' f s h hk
    refine opw_mono (fun v s' hv => ih hv fun f' s'' hb => hk f' s'' ?_) h
    exact (put_but f o.dst v).trans hb fun i hi => by simpa [dm, or_f] using hi
theorem runs_same {ops : List Oper} {os : List Oper} : ∀ {m : Nat} {K : Fr → St → Prop} {f g : Fr} {s : St}, Dep n m K → Same n (lo n ops os m) f g → runs P bd n r os K f s → runs P bd n r os K g s := by
  induction os with
  | nil => exact fun hk hs h => hk _ _ _ hs h
  | cons o os ih =>
    intro m K f g s hk hs h
    simp only [lo] at hs
    have hs1 : Same n (kill (lo n ops os m) (bit n o.dst)) f g := hs.sub fun i hi => or_t.2 (.inl (or_t.2 (.inl hi)))
    refine opw_same hs (fun i hi => or_t.2 (.inl (or_t.2 (.inr hi)))) ?_
    exact opw_mono (fun v s' hv => ih hk (put_same hs1 v) hv) h
theorem undefs_same {ops : List Oper} {os : List Oper} : ∀ {m : Nat} {f g : Fr}, Same n (lo n ops os m) f g → Same n m (undefs n os f) (undefs n os g) := by
  induction os with
  | nil => exact fun h => h
  | cons o os ih =>
    intro m f g hs
    simp only [lo] at hs
    exact ih (put_same (hs.sub fun i hi => or_t.2 (.inl (or_t.2 (.inl hi)))) undef)
theorem undefs_but {os : List Oper} : ∀ (f : Fr), But n (dm n os) f (undefs n os f) := by
  induction os with
  | nil => exact fun f => But.refl _ _ _
  | cons o os ih => exact fun f => (put_but f o.dst undef).trans (ih _) fun i hi => by simpa [dm, or_f] using hi
theorem allC_str {l : List Nat} : ∀ {A : CurTy l} {f : Fr} {k k' : Fr → St → Prop}, allC l A f k → (∀ g s, (∀ i, i ∉ l → f i = g i) → k g s → k' g s) → allC l A f k' := by
  induction l with
  | nil => exact fun h hk s hs => hk _ _ (fun _ _ => rfl) (h s hs)
  | cons t l ih =>
    intro A f k k' h hk v
    refine ih (h v) fun g s hg hkg => hk g s (fun i hi => ?_) hkg
    simp only [List.mem_cons, not_or] at hi
    rw [← hg i hi.2, Fr.set_ne f v hi.1]
theorem appC_dep {l : List Nat} {A : CurTy l} {m : Nat} (hl : ∀ i ∈ l, i < n ∧ m.testBit i = true) : Dep n m (fun f s => appC l A f s) :=
  fun _ _ _ hs h => appC_same (fun i hi => hs i (hl i hi).1 (hl i hi).2) h
theorem mem_and {n a b i : Nat} : i ∈ bitsOf n (a &&& b) ↔ i < n ∧ a.testBit i = true ∧ b.testBit i = true := by simp [mem_bitsOf, Nat.testBit_and]
theorem wpg_str {ops : List Oper} {m : Nat} {gs : Gs} : ∀ {K K' : Fr → St → Prop} {f : Fr} {s : St}, wpg P bd n r ops m K gs f s →
    (∀ f' s', But n (dm n (flat gs)) f f' → K f' s' → K' f' s') → wpg P bd n r ops m K' gs f s := by
  have dma : ∀ a b : List Oper, ∀ i, (dm n (a ++ b)).testBit i = false → (dm n a).testBit i = false ∧ (dm n b).testBit i = false := by
    intro a b i h
    induction a with
    | nil => exact ⟨by simp [dm], h⟩
    | cons o a ih =>
      simp only [List.cons_append, dm, or_f] at h ⊢
      exact ⟨⟨h.1, (ih h.2).1⟩, (ih h.2).2⟩
  induction gs with
  | nil => exact fun h hk => hk _ _ (But.refl _ _ _) h
  | cons p gs ih =>
    obtain ⟨g, os⟩ := p
    intro K K' f s h hk
    cases g with
    | none =>
      refine runs_str (K := wpg P bd n r ops m K gs) h fun f' s' hb hw => ih hw fun f'' s'' hb' => hk f'' s'' ?_
      exact hb.trans hb' fun i hi => dma _ _ i hi
    | some jw =>
      obtain ⟨j, want⟩ := jw
      simp only [wpg, frcL_eq] at h ⊢
      split at h
      · rename_i t ht
        cases hd : (dm n os).testBit t with
        | true => simp [hd] at h
        | false =>
          simp only [hd, cond_false] at h ⊢
          obtain ⟨A, h1, h2⟩ := h
          refine ⟨A, allC_str h1 fun g s hg hw => ih hw fun f' s' hb => hk f' s' ?_, h2⟩
          have hb0 : But n (dm n os) f g := fun i hi hm => hg i (by simp [mem_and, hm])
          exact hb0.trans hb fun i hi => dma _ _ i hi
      · exact h.elim
theorem wpg_same {ops : List Oper} {m : Nat} {gs : Gs} : ∀ {K : Fr → St → Prop} {f g : Fr} {s : St}, Dep n m K → Same n (lg n ops gs m) f g → wpg P bd n r ops m K gs f s → wpg P bd n r ops m K gs g s := by
  induction gs with
  | nil => exact fun hk hs h => hk _ _ _ hs h
  | cons p gs ih =>
    obtain ⟨gd, os⟩ := p
    intro K f g s hk hs h
    have hdep : Dep n (lg n ops gs m) (wpg P bd n r ops m K gs) := fun f' g' s' hs' h' => ih hk hs' h'
    simp only [lg] at hs
    have hs1 : Same n (lo n ops os (lg n ops gs m)) f g := hs.sub fun i hi => or_t.2 (.inl hi)
    cases gd with
    | none => exact runs_same hdep hs1 h
    | some jw =>
      obtain ⟨j, want⟩ := jw
      simp only [wpg, frcL_eq] at h ⊢
      split at h
      · rename_i t ht
        cases hd : (dm n os).testBit t with
        | true => simp [hd] at h
        | false =>
          simp only [hd, cond_false] at h ⊢
          obtain ⟨A, h1, h2⟩ := h
          have hl : ∀ i ∈ bitsOf n (lg n ops gs m &&& dm n os), i < n ∧ (lg n ops gs m).testBit i = true := fun i hi => by
            rw [mem_and] at hi; exact ⟨hi.1, hi.2.1⟩
          have hv : f.ev n (.tmp t) = g.ev n (.tmp t) := ev_same hs _ fun i hi => or_t.2 (.inr (by simp only [gmask, ht]; exact hi))
          refine ⟨A, allC_frame hdep (fun i hi hm => ?_) h1, ?_⟩
          · by_cases hdi : (dm n os).testBit i = true
            · exact .inl (mem_and.2 ⟨hi, hm, hdi⟩)
            · exact .inr (hs1 i hi (lo_ge hm (by simpa using hdi)))
          · rw [← hv]
            exact ⟨fun e => runs_same (appC_dep hl) hs1 (h2.1 e), fun e => appC_dep hl _ _ _ (undefs_same hs1) (h2.2 e)⟩
      · exact h.elim
theorem wanted_iff {ops : List Oper} {o : Oper} {arr : Array Value} {f : Fr} (hA : Agree n arr f) {j : Nat} {want : Bool} (hg : o.guard = some (j, want)) {t : Nat} (ht : gslot ops j = some t) :
    Region.wanted o (yielded ops.toArray arr) = true ↔ f.ev n (.tmp t) = .bool want := by
  unfold gslot at ht
  simp only [Region.wanted, hg, yielded, List.getElem?_toArray, ht, Option.bind_some]
  have hv : (Act.mk arr []).eval (.tmp t) = f.ev n (.tmp t) := hA.ev [] _
  simp only [Act.eval, Array.getD_eq_getD_getElem?] at hv
  rw [← hv]
  cases hx : arr[t]? with
  | none => simp [undef]
  | some x => cases x <;> simp
theorem runs_list (hB : Bodies P bd) {ops : List Oper} {Q : Exit → Act → World → Prop} {os rest : List Oper} : ∀ {K : Fr → St → Prop} {f : Fr} {s : St} {arr : Array Value}, Agree n arr f →
    (∀ o ∈ os, ∀ arr' f', Agree n arr' f' → But n (dm n os) f f' → Region.wanted o (yielded ops.toArray arr') = true) →
    (∀ arr' f' s', Agree n arr' f' → K f' s' → wpListIn (FW r) 0 P ops.toArray Q rest ⟨arr', s'.ds⟩ s'.w) →
    runs P bd n r os K f s → wpListIn (FW r) 0 P ops.toArray Q (os ++ rest) ⟨arr, s.ds⟩ s.w := by
  induction os with
  | nil => exact fun hA _ hk h => hk _ _ _ hA h
  | cons o os ih =>
    intro K f s arr hA hw hk h
    simp only [List.cons_append, wpListIn]
    rw [if_pos (hw o (List.mem_cons_self ..) arr f hA (But.refl _ _ _))]
    refine op_sound hB hA (fun v s' hv => ?_) h
    have hA' := hA.put s'.ds o.dst v
    have := ih (arr := ((Act.mk arr s'.ds).put o.dst v).tmps) (s := s') hA' (fun o' ho' arr' f' ha hb => hw o' (List.mem_cons_of_mem _ ho') arr' f' ha ((put_but f o.dst v).trans hb fun i hi => by simpa [dm, or_f] using hi)) hk hv
    have e : (Act.mk arr s'.ds).put o.dst v = ⟨((Act.mk arr s'.ds).put o.dst v).tmps, s'.ds⟩ := by
      cases hd : o.dst <;> rfl
    rw [e]; exact this
theorem skips_list {ops : List Oper} {Q : Exit → Act → World → Prop} {os rest : List Oper} : ∀ {f : Fr} {s : St} {arr : Array Value}, Agree n arr f →
    (∀ o ∈ os, ∀ arr' f', Agree n arr' f' → But n (dm n os) f f' → Region.wanted o (yielded ops.toArray arr') = false) →
    (∀ arr', Agree n arr' (undefs n os f) → wpListIn (FW r) 0 P ops.toArray Q rest ⟨arr', s.ds⟩ s.w) →
    wpListIn (FW r) 0 P ops.toArray Q (os ++ rest) ⟨arr, s.ds⟩ s.w := by
  induction os with
  | nil => exact fun hA _ hk => hk _ hA
  | cons o os ih =>
    intro f s arr hA hw hk
    simp only [List.cons_append, wpListIn]
    rw [if_neg (by rw [hw o (List.mem_cons_self ..) arr f hA (But.refl _ _ _)]; simp)]
    refine ⟨fun _ _ => trivial, ?_⟩
    have hA' := hA.put s.ds o.dst undef
    have := ih (arr := ((Act.mk arr s.ds).put o.dst undef).tmps) (s := s) hA' (fun o' ho' arr' f' ha hb => hw o' (List.mem_cons_of_mem _ ho') arr' f' ha ((put_but f o.dst undef).trans hb fun i hi => by simpa [dm, or_f] using hi)) hk
    have e : (Act.mk arr s.ds).put o.dst undef = ⟨((Act.mk arr s.ds).put o.dst undef).tmps, s.ds⟩ := by
      cases hd : o.dst <;> rfl
    rw [e]; exact this
theorem dm_append {a b : List Oper} {i : Nat} (h : (dm n (a ++ b)).testBit i = false) : (dm n a).testBit i = false ∧ (dm n b).testBit i = false := by
  induction a with
  | nil => exact ⟨by simp [dm], h⟩
  | cons o a ih =>
    simp only [List.cons_append, dm, or_f] at h ⊢
    exact ⟨⟨h.1, (ih h.2).1⟩, (ih h.2).2⟩
theorem lg_ge {ops : List Oper} {gs : Gs} {m i : Nat} (hm : m.testBit i = true) (hd : (dm n (flat gs)).testBit i = false) : (lg n ops gs m).testBit i = true := by
  induction gs with
  | nil => exact hm
  | cons p gs ih =>
    obtain ⟨g, os⟩ := p
    have := dm_append hd
    exact or_t.2 (.inl (lo_ge (ih this.2) this.1))
theorem wpg_sound (hB : Bodies P bd) {ops : List Oper} {m : Nat} {gs : Gs} {Q : Exit → Act → World → Prop} : ∀ {K : Fr → St → Prop} {f : Fr} {s : St} {arr : Array Value}, Dep n m K → (∀ p ∈ gs, ∀ o ∈ p.2, o.guard = p.1) → Agree n arr f →
    (∀ arr' f' s', Agree n arr' f' → But n (dm n (flat gs)) f f' → K f' s' → Q .normal ⟨arr', s'.ds⟩ s'.w) → wpg P bd n r ops m K gs f s → wpListIn (FW r) 0 P ops.toArray Q (flat gs) ⟨arr, s.ds⟩ s.w := by
  induction gs with
  | nil => exact fun _ _ hA hk h => hk _ _ _ hA (But.refl _ _ _) h
  | cons p gs ih =>
    obtain ⟨gd, os⟩ := p
    intro K f s arr hd hg hA hk h
    have hg' : ∀ o ∈ os, o.guard = gd := hg _ (List.mem_cons_self ..)
    have hgs : ∀ p ∈ gs, ∀ o ∈ p.2, o.guard = p.1 := fun p hp => hg p (List.mem_cons_of_mem _ hp)
    have hk2 : ∀ f1, But n (dm n os) f f1 → ∀ arr' f' s', Agree n arr' f' → But n (dm n (flat gs)) f1 f' → K f' s' → Q .normal ⟨arr', s'.ds⟩ s'.w :=
      fun f1 hb1 arr' f' s' hA' hb => hk arr' f' s' hA' (hb1.trans hb fun i hi => dm_append hi)
    simp only [flat]
    cases gd with
    | none =>
      refine runs_list hB hA (fun o ho arr' f' _ _ => by simp [Region.wanted, hg' o ho]) (fun arr' f' s' hA' h' => ?_)
        (runs_str (K := wpg P bd n r ops m K gs) (K' := fun f' s' => But n (dm n os) f f' ∧ wpg P bd n r ops m K gs f' s') h fun f' s' hb ha => ⟨hb, ha⟩)
      exact ih hd hgs hA' (hk2 _ h'.1) h'.2
    | some jw =>
      obtain ⟨j, want⟩ := jw
      simp only [wpg, frcL_eq] at h
      split at h
      · rename_i t ht
        cases hdt : (dm n os).testBit t with
        | true => simp [hdt] at h
        | false =>
          simp only [hdt, cond_false] at h
          obtain ⟨A, h1, h2, h3⟩ := h
          have hev : ∀ f', But n (dm n os) f f' → f'.ev n (.tmp t) = f.ev n (.tmp t) := by
            intro f' hb
            simp only [Fr.ev]
            rcases Nat.lt_or_ge t n with hlt | hge
            · simp only [blt_t hlt, cond_true]; exact (hb t hlt hdt).symm
            · simp [blt_f hge]
          have hback : ∀ f' s', But n (dm n os) f f' → appC _ A f' s' → wpg P bd n r ops m K gs f' s' := by
            intro f' s' hb ha
            refine wpg_same hd (fun i hi hm => ?_) (allC_app h1 ha)
            by_cases hdi : (dm n os).testBit i = true
            · exact setL_mem (mem_and.2 ⟨hi, hm, hdi⟩) _ _
            · rw [setL_not (by simp [mem_and, hdi])]; exact hb i hi (by simpa using hdi)
          by_cases hv : f.ev n (.tmp t) = .bool want
          · refine runs_list hB hA (fun o ho arr' f' ha hb => (wanted_iff ha (hg' o ho) ht).2 ((hev f' hb).trans hv)) (fun arr' f' s' hA' h' => ?_)
              (runs_str (h2 hv) (K' := fun f' s' => But n (dm n os) f f' ∧ appC _ A f' s') fun f' s' hb ha => ⟨hb, ha⟩)
            exact ih hd hgs hA' (hk2 _ h'.1) (hback f' s' h'.1 h'.2)
          · refine skips_list hA (fun o ho arr' f' ha hb => ?_) (fun arr' hA' => ?_)
            · cases hw : Region.wanted o (yielded ops.toArray arr') with
              | false => rfl
              | true => exact absurd ((hev f' hb).symm.trans ((wanted_iff ha (hg' o ho) ht).1 hw)) hv
            · exact ih hd hgs hA' (hk2 _ (undefs_but f)) (hback _ _ (undefs_but f) (h3 hv))
      · exact h.elim
end
def quietOp : Op → Bool
  | .move _ | .assign _ | .pick .. | .load .. | .nilCheck _ | .binOp .. | .unOp .. | .convert .. | .makeInterface .. | .slice .. | .fieldAddr .. | .field .. | .indexAddr .. | .index .. | .lookup .. | .typeAssert .. | .extract .. | .build .. => true
  | .call { callee := .builtin .len, .. } | .call { callee := .builtin .cap, .. } | .call { callee := .builtin .max, .. } | .call { callee := .builtin .min, .. } => true
  | _ => false
def sub (a b : Nat) : Bool := Nat.beq (a ||| b) b
def pml : List Edge → Nat
  | [] => 0
  | e :: l => (bif Region.binds .any e then 2 ^ e.on else 0) ||| pml l
def pm (o : Oper) : Nat := pml o.after.toList
def qo (n : Nat) (o : Oper) : Bool := quietOp o.op && (match o.dst with | some t => Nat.blt t n | none => false)
def close (m : Nat) : List Nat → Nat → Nat
  | [], _ => m
  | t :: l, i => (bif m.testBit i then t else 0) ||| close m l (i + 1)
def tps : List Oper → List Nat → List Nat
  | [], acc => acc
  | o :: r, acc => frc (close (pm o) acc 0) fun t => tps r (acc ++ [t])
def dmask (n : Nat) : List Oper → Nat → Nat → Nat
  | [], _, _ => 0
  | o :: l, i, X => (bif X.testBit i then bit n o.dst else 0) ||| dmask n l (i + 1) X
def view (f0 f : Fr) (m : Nat) : Fr := fun t => bif m.testBit t then f t else f0 t
def nth (l : List Nat) (i : Nat) : Nat := l.getD i 0
def fq (n : Nat) : List Oper → Nat → Nat → Option (Nat × Oper)
  | [], _, _ => none
  | o :: l, i, X => bif !X.testBit i && qo n o && sub (pm o) X then some (i, o) else fq n l (i + 1) X
def sigs : List Oper → Nat → Nat → List (Nat × Oper)
  | [], _, _ => []
  | o :: l, i, X => bif !X.testBit i && sub (pm o) X then (i, o) :: sigs l (i + 1) X else sigs l (i + 1) X
def known : List ((Nat × Bool) × Bool) → Nat → Bool → Option Bool
  | [], _, _ => none
  | ((j, w), b) :: l, i, v => bif Nat.beq j i && (w == v) then some b else known l i v
abbrev Kg := List ((Nat × Bool) × Bool)
section
variable (P : Program) (bd n : Nat) (r : Option Nat)
def qt (o : Oper) (f : Fr) (s : St) (C : Value → Prop) : Prop :=
  match o.op with
  | .move x => C (f.ev n x)
  | .assign x => C (f.ev n x)
  | _ => ∃ v, opw P bd n r o f (fun v' s' => v' = v ∧ s' = s) s ∧ C v
def grd (ops : List Oper) (kg : Kg) (f : Fr) (o : Oper) (A : Kg → Prop) (B : Kg → Prop) : Prop :=
  match o.guard with
  | none => A kg
  | some (j, want) =>
    match known kg j want with
    | some true => A kg
    | some false => B kg
    | none => match gslot ops j with
      | some t => Grd (f.ev n (.tmp t)) want (A (((j, want), true) :: kg)) (B (((j, want), false) :: kg))
      | none => False
def isMove : Op → Bool | .move _ | .assign _ => true | _ => false
def again (ops : List Oper) (T : List Nat) (f0 : Fr) (kg : Kg) (X Z : Nat) (f : Fr) (s : St) : List Oper → Nat → Prop → Prop
  | [], _, C => C
  | o :: l, j, C =>
    bif X.testBit j && !Z.testBit j && qo n o && !isMove o.op && (match o.guard with | none => true | some (g, want) => match known kg g want with | some false => false | _ => true) then
      opw P bd n r o (view f0 f (dmask n ops 0 (nth T j))) (fun v' s' => v' = f.ev n (match o.dst with | some t => .tmp t | none => .const undef) ∧ s' = s) s ∧ again ops T f0 kg X Z f s l (j + 1) C
    else again ops T f0 kg X Z f s l (j + 1) C
def alls (A : Nat × Oper → Prop) : List (Nat × Oper) → Prop
  | [] => False
  | [x] => A x
  | x :: l => A x ∧ alls A l
def cn (ops : List Oper) (T : List Nat) (f0 : Fr) (K : Fr → St → Prop) : Nat → Nat → Nat → Kg → Fr → St → Prop
  | 0, X, _, _, f, s => bif Nat.beq X (2 ^ ops.length - 1) then K f s else False
  | k + 1, X, Z, kg, f, s => bif Nat.beq X (2 ^ ops.length - 1) then K f s else
    match fq n ops 0 X with
    | some (i, o) => grd n ops kg f o
        (fun kg => qt P bd n r o f s fun v => frc (X ||| 2 ^ i) fun X' => cn ops T f0 K k X' Z kg (f.put n o.dst v) s)
        (fun kg => frc (X ||| 2 ^ i) fun X' => cn ops T f0 K k X' Z kg (f.put n o.dst undef) s)
    | none => alls (fun p => grd n ops kg f p.2
        (fun kg => frc (Z ||| (nth T p.1 ||| 2 ^ p.1)) fun Z' => frc (X ||| 2 ^ p.1) fun X' => opw P bd n r p.2 f (fun v s' => again P bd n r ops T f0 kg X Z' (f.put n p.2.dst v) s' ops 0
          (cn ops T f0 K k X' Z' kg (f.put n p.2.dst v) s')) s)
        (fun kg => frc (X ||| 2 ^ p.1) fun X' => cn ops T f0 K k X' Z kg (f.put n p.2.dst undef) s)) (sigs ops 0 X)
end
def ixAll (A : Nat → Oper → Bool) : List Oper → Nat → Bool
  | [], _ => true
  | o :: l, i => A i o && ixAll A l (i + 1)
def inOps (o : Oper) (ops : List Oper) (t : Nat) : Bool :=
  (mop o.op ||| gmask ops o.guard).testBit t
def dok (_n : Nat) (ops : List Oper) (T : List Nat) : Bool :=
  ixAll (fun i o => Nat.blt (pm o) (2 ^ i) && sub (nth T i) (close (pm o) T 0) && !isSelect o.op && !isDefer o.op &&
    (match o.guard with | none => true | some (j, _) => (nth T i).testBit j && (match gslot ops j with | some _ => true | none => false)) &&
    ixAll (fun k p => Nat.beq i k || (match p.dst with
      | none => true
      | some t => (match o.dst with | some u => !Nat.beq t u | none => true) && (!inOps o ops t || (nth T i).testBit k || (nth T k).testBit i))) ops 0) ops 0
def lvD (n : Nat) (ops : List Oper) (T : List Nat) : List Oper → Nat → Nat
  | [], _ => 0
  | o :: l, i => kill (mop o.op ||| gmask ops o.guard) (dmask n ops 0 (nth T i)) ||| lvD n ops T l (i + 1)
section
variable {P : Program} {bd n : Nat} {r : Option Nat}
theorem sub_t {a b : Nat} (h : sub a b = true) {i : Nat} (hi : a.testBit i = true) : b.testBit i = true := by
  have e : a ||| b = b := Nat.eq_of_beq_eq_true h
  rw [← e]; exact or_t.2 (.inl hi)
theorem sub_of {a b : Nat} (h : ∀ i, a.testBit i = true → b.testBit i = true) : sub a b = true := by
  have e : a ||| b = b := Nat.eq_of_testBit_eq fun i => by
    rw [Nat.testBit_or]
    cases ha : a.testBit i with
    | false => simp
    | true => simp [h i ha]
  unfold sub; rw [e]; exact Nat.beq_refl b
theorem pow_t {i j : Nat} : (2 ^ i).testBit j = true ↔ j = i := by simp [testBit_shl]
theorem add_t {X i j : Nat} : (X ||| 2 ^ i).testBit j = true ↔ X.testBit j = true ∨ j = i := by rw [or_t, pow_t]
theorem fq_spec {l : List Oper} : ∀ {k X i : Nat} {o : Oper}, fq n l k X = some (i, o) → ∃ j, i = k + j ∧ l[j]? = some o ∧ X.testBit i = false ∧ qo n o = true ∧ sub (pm o) X = true := by
  induction l with
  | nil => intro k X i o h; simp [fq] at h
  | cons p l ih =>
    intro k X i o h
    simp only [fq] at h
    cases hc : (!X.testBit k && qo n p && sub (pm p) X) with
    | true =>
      simp only [hc, cond_true, Option.some.injEq, Prod.mk.injEq] at h
      obtain ⟨rfl, rfl⟩ := h
      simp only [Bool.and_eq_true, Bool.not_eq_true'] at hc
      exact ⟨0, rfl, rfl, hc.1.1, hc.1.2, hc.2⟩
    | false =>
      simp only [hc, cond_false] at h
      obtain ⟨j, e, h1, h2⟩ := ih h
      exact ⟨j + 1, by omega, h1, h2⟩
theorem fq_none {l : List Oper} : ∀ {k X : Nat}, fq n l k X = none → ∀ {j : Nat} {o : Oper}, l[j]? = some o → X.testBit (k + j) = false → sub (pm o) X = true → qo n o = false := by
  induction l with
  | nil => intro k X h j o hj; simp at hj
  | cons p l ih =>
    intro k X h j o hj hx hs
    simp only [fq] at h
    cases hc : (!X.testBit k && qo n p && sub (pm p) X) with
    | true => simp [hc] at h
    | false =>
      simp only [hc, cond_false] at h
      cases j with
      | zero =>
        simp only [List.getElem?_cons_zero, Option.some.injEq] at hj
        subst hj
        rw [show k + 0 = k from rfl] at hx
        simpa [hx, hs] using hc
      | succ j => exact ih h (by simpa using hj) (by rw [show k + 1 + j = k + (j + 1) by omega]; exact hx) hs
theorem sigs_mem {l : List Oper} : ∀ {k X j : Nat} {o : Oper}, l[j]? = some o → X.testBit (k + j) = false → sub (pm o) X = true → (k + j, o) ∈ sigs l k X := by
  induction l with
  | nil => intro k X j o hj; simp at hj
  | cons p l ih =>
    intro k X j o hj hx hs
    cases j with
    | zero =>
      simp only [List.getElem?_cons_zero, Option.some.injEq] at hj
      subst hj
      have hx' : X.testBit k = false := hx
      simp [sigs, hx', hs]
    | succ j =>
      have := ih (k := k + 1) (by simpa using hj) (by rw [show k + 1 + j = k + (j + 1) by omega]; exact hx) hs
      rw [show k + 1 + j = k + (j + 1) by omega] at this
      simp only [sigs]
      cases (!X.testBit k && sub (pm p) X) <;> simp [this]
theorem alls_mem {A : Nat × Oper → Prop} {l : List (Nat × Oper)} {x : Nat × Oper} (hx : x ∈ l) (h : alls A l) : A x := by
  induction l with
  | nil => cases hx
  | cons y l ih =>
    cases l with
    | nil => simp only [List.mem_singleton] at hx; subst hx; exact h
    | cons z l =>
      cases hx with
      | head => exact h.1
      | tail _ hx => exact ih hx h.2
theorem dmask_t {l : List Oper} : ∀ {k X t : Nat}, (dmask n l k X).testBit t = true ↔ ∃ j o, l[j]? = some o ∧ X.testBit (k + j) = true ∧ (bit n o.dst).testBit t = true := by
  induction l with
  | nil => intro k X t; simp [dmask]
  | cons p l ih =>
    intro k X t
    simp only [dmask, or_t, ih]
    constructor
    · rintro (h | ⟨j, o, h1, h2, h3⟩)
      · cases hx : X.testBit k with
        | true => simp only [hx, cond_true] at h; exact ⟨0, p, rfl, hx, h⟩
        | false => simp [hx] at h
      · exact ⟨j + 1, o, by simpa using h1, by rw [show k + (j + 1) = k + 1 + j by omega]; exact h2, h3⟩
    · rintro ⟨j, o, h1, h2, h3⟩
      cases j with
      | zero =>
        simp only [List.getElem?_cons_zero, Option.some.injEq] at h1
        subst h1
        have h2' : X.testBit k = true := h2
        exact .inl (by simp [h2', h3])
      | succ j => exact .inr ⟨j, o, by simpa using h1, by rw [show k + 1 + j = k + (j + 1) by omega]; exact h2, h3⟩
theorem close_t {m : Nat} {l : List Nat} : ∀ {k x : Nat}, (close m l k).testBit x = true → m.testBit x = true ∨ ∃ j, m.testBit (k + j) = true ∧ (nth l j).testBit x = true := by
  induction l with
  | nil => exact fun h => .inl h
  | cons t l ih =>
    intro k x h
    simp only [close, or_t] at h
    rcases h with h | h
    · cases hm : m.testBit k with
      | true => simp only [hm, cond_true] at h; exact .inr ⟨0, hm, h⟩
      | false => simp [hm] at h
    · rcases ih h with h | ⟨j, h1, h2⟩
      · exact .inl h
      · exact .inr ⟨j + 1, by rw [show k + (j + 1) = k + 1 + j by omega]; exact h1, h2⟩
theorem ixAll_t {A : Nat → Oper → Bool} {l : List Oper} : ∀ {k : Nat}, ixAll A l k = true → ∀ {j : Nat} {o : Oper}, l[j]? = some o → A (k + j) o = true := by
  induction l with
  | nil => intro k _ j o h; simp at h
  | cons p l ih =>
    intro k h j o hj
    simp only [ixAll, Bool.and_eq_true] at h
    cases j with
    | zero => simp only [List.getElem?_cons_zero, Option.some.injEq] at hj; subst hj; exact h.1
    | succ j => rw [show k + (j + 1) = k + 1 + j by omega]; exact ih h.2 (by simpa using hj)
structure Dok (n : Nat) (ops : List Oper) (T : List Nat) : Prop where
  back : ∀ {i : Nat} {o : Oper}, ops[i]? = some o → ∀ j, (pm o).testBit j = true → j < i
  tp : ∀ {i : Nat} {o : Oper}, ops[i]? = some o → ∀ x, (nth T i).testBit x = true → (pm o).testBit x = true ∨ ∃ j, (pm o).testBit j = true ∧ (nth T j).testBit x = true
  sel : ∀ {i : Nat} {o : Oper}, ops[i]? = some o → isSelect o.op = false ∧ isDefer o.op = false
  gd : ∀ {i : Nat} {o : Oper} {j : Nat} {w : Bool}, ops[i]? = some o → o.guard = some (j, w) → (nth T i).testBit j = true
  gs : ∀ {i : Nat} {o : Oper} {j : Nat} {w : Bool}, ops[i]? = some o → o.guard = some (j, w) → ∃ t, gslot ops j = some t
  un : ∀ {i : Nat} {o : Oper} {k : Nat} {p : Oper} {t : Nat}, ops[i]? = some o → ops[k]? = some p → i ≠ k → p.dst = some t → o.dst ≠ some t
  od : ∀ {i : Nat} {o : Oper} {k : Nat} {p : Oper} {t : Nat}, ops[i]? = some o → ops[k]? = some p → i ≠ k → p.dst = some t → inOps o ops t = true → (nth T i).testBit k = true ∨ (nth T k).testBit i = true
theorem Dok.of {ops : List Oper} {T : List Nat} (h : dok n ops T = true) : Dok n ops T := by
  have h2 : ∀ {i : Nat} {o : Oper}, ops[i]? = some o → (pm o < 2 ^ i ∧ sub (nth T i) (close (pm o) T 0) = true ∧ isSelect o.op = false ∧ isDefer o.op = false ∧ (match o.guard with | none => true | some (j, _) => (nth T i).testBit j && (match gslot ops j with | some _ => true | none => false)) = true ∧
      ixAll (fun k p => Nat.beq i k || (match p.dst with
      | none => true
      | some t => (match o.dst with | some u => !Nat.beq t u | none => true) && (!inOps o ops t || (nth T i).testBit k || (nth T k).testBit i))) ops 0 = true) := by
    intro i o hi
    have := ixAll_t h hi
    simp only [Nat.zero_add, Bool.and_eq_true, Bool.not_eq_true'] at this
    obtain ⟨⟨⟨⟨⟨a, b⟩, c⟩, d⟩, e⟩, f⟩ := this
    exact ⟨by simpa using a, b, c, d, e, f⟩
  refine ⟨fun {i o} hi j hj => ?_, fun {i o} hi x hx => ?_, fun hi => ⟨(h2 hi).2.2.1, (h2 hi).2.2.2.1⟩, fun {i o j w} hi hg => ?_, fun {i o j w} hi hg => ?_, fun {i o k p t} hi hk hne hp => ?_, fun {i o k p t} hi hk hne hp ho => ?_⟩
  · rcases Nat.lt_or_ge j i with h' | h'
    · exact h'
    · have := Nat.testBit_lt_two_pow (Nat.lt_of_lt_of_le (h2 hi).1 (Nat.pow_le_pow_right (by omega) h'))
      rw [this] at hj; cases hj
  · have := close_t (sub_t (h2 hi).2.1 hx)
    simpa using this
  · have := (h2 hi).2.2.2.2.1
    simp only [hg, Bool.and_eq_true] at this
    exact this.1
  · have := (h2 hi).2.2.2.2.1
    simp only [hg, Bool.and_eq_true] at this
    cases ht : gslot ops j with
    | some t => exact ⟨t, rfl⟩
    | none => have h3 := this.2; rw [ht] at h3; cases h3
  · have := ixAll_t (h2 hi).2.2.2.2.2 hk
    simp only [Nat.zero_add, beq_f hne, Bool.false_or, hp, Bool.and_eq_true] at this
    intro e
    rw [e] at this
    simp at this
  · have := ixAll_t (h2 hi).2.2.2.2.2 hk
    simp only [Nat.zero_add, beq_f hne, Bool.false_or, hp, Bool.and_eq_true, ho, Bool.not_true, Bool.or_eq_true] at this
    simpa using this.2
def Cls (ops : List Oper) (Y : Nat) : Prop := ∀ {i : Nat} {o : Oper}, ops[i]? = some o → Y.testBit i = true → ∀ j, (pm o).testBit j = true → Y.testBit j = true
theorem tp_in {ops : List Oper} {T : List Nat} (hd : Dok n ops T) {Y : Nat} (hc : Cls ops Y) : ∀ (i : Nat) {o : Oper}, ops[i]? = some o → (∀ j, (pm o).testBit j = true → Y.testBit j = true) → ∀ x, (nth T i).testBit x = true → Y.testBit x = true := by
  intro i
  induction i using Nat.strongRecOn with
  | _ i ih =>
    intro o hi hp x hx
    rcases hd.tp hi x hx with h | ⟨j, h1, h2⟩
    · exact hp x h
    · have hj := hd.back hi j h1
      have hlt : i < ops.length := (List.getElem?_eq_some_iff.1 hi).1
      obtain ⟨oj, hoj⟩ : ∃ oj, ops[j]? = some oj := ⟨ops[j]'(by omega), by simp⟩
      exact ih j hj hoj (hc hoj (hp j h1)) x h2
end
section
variable {P : Program} {bd n : Nat} {r : Option Nat}
def dstO (o : Oper) : Operand := match o.dst with | some t => .tmp t | none => .const undef
def Wn (n : Nat) (ops : List Oper) (o : Oper) (h : Fr) : Prop :=
  match o.guard with
  | none => True
  | some (j, w) => ∃ t, gslot ops j = some t ∧ h.ev n (.tmp t) = .bool w
def Pend (P : Program) (bd n : Nat) (r : Option Nat) (ops : List Oper) (T : List Nat) (f0 f : Fr) (s : St) (i : Nat) (o : Oper) : Prop :=
  (Wn n ops o (view f0 f (dmask n ops 0 (nth T i))) → opw P bd n r o (view f0 f (dmask n ops 0 (nth T i))) (fun v' s' => v' = f.ev n (dstO o) ∧ s' = s) s) ∧
  (¬ Wn n ops o (view f0 f (dmask n ops 0 (nth T i))) → f.ev n (dstO o) = undef)
theorem put_apply (f : Fr) (d : Option Nat) (v : Value) (u : Nat) : (f.put n d v) u = if (bit n d).testBit u = true then v else f u := by
  cases d with
  | none => simp [Fr.put, bit]
  | some t =>
    simp only [Fr.put, bit]
    rcases Nat.lt_or_ge t n with ht | ht
    · simp only [blt_t ht, cond_true, testBit_shl, decide_eq_true_eq]
      by_cases e : u = t
      · subst e; simp [Fr.set_same]
      · simp [e, Fr.set_ne f v e]
    · simp [blt_f ht]
theorem bit_t {d : Option Nat} {u : Nat} : (bit n d).testBit u = true ↔ d = some u ∧ u < n := by
  cases d with
  | none => simp [bit]
  | some t =>
    simp only [bit, Option.some.injEq]
    rcases Nat.lt_or_ge t n with ht | ht
    · simp only [blt_t ht, cond_true, testBit_shl, decide_eq_true_eq]
      constructor
      · rintro rfl; exact ⟨rfl, ht⟩
      · rintro ⟨rfl, _⟩; rfl
    · simp only [blt_f ht, cond_false, Nat.zero_testBit, Bool.false_eq_true, false_iff]
      rintro ⟨rfl, h⟩; omega
theorem dmask_add {ops : List Oper} {i : Nat} {o : Oper} (hi : ops[i]? = some o) {X t : Nat} : (dmask n ops 0 (X ||| 2 ^ i)).testBit t = true ↔ (dmask n ops 0 X).testBit t = true ∨ (bit n o.dst).testBit t = true := by
  simp only [dmask_t, Nat.zero_add, add_t]
  constructor
  · rintro ⟨j, p, h1, h2 | h2, h3⟩
    · exact .inl ⟨j, p, h1, h2, h3⟩
    · subst h2; rw [hi] at h1; cases h1; exact .inr h3
  · rintro (⟨j, p, h1, h2, h3⟩ | h)
    · exact ⟨j, p, h1, .inl h2, h3⟩
    · exact ⟨i, o, hi, .inr rfl, h⟩
theorem ev_eq {f g : Fr} (x : Operand) (h : ∀ t, t < n → (mo x).testBit t = true → f t = g t) : f.ev n x = g.ev n x := ev_same (m := mo x) (fun t ht hm => h t ht hm) x fun _ h => h
theorem ev_dst {f g : Fr} (o : Oper) (h : ∀ t, t < n → o.dst = some t → f t = g t) : f.ev n (dstO o) = g.ev n (dstO o) := by
  unfold dstO
  cases hd : o.dst with
  | none => rfl
  | some t => exact ev_eq _ fun u hu hm => by simp only [mo, testBit_shl, decide_eq_true_eq] at hm; subst hm; exact h _ hu hd
theorem ev_dst_put {f : Fr} {o : Oper} {v : Value} (hq : qo n o = true) : (f.put n o.dst v).ev n (dstO o) = v := by
  unfold qo at hq
  unfold dstO
  cases hd : o.dst with
  | none => simp [hd] at hq
  | some t =>
    simp only [hd, Bool.and_eq_true] at hq
    have ht : t < n := by simpa using hq.2
    simp only [Fr.ev, blt_t ht, cond_true, Fr.put, Fr.set_same]
theorem wn_eq {ops : List Oper} {o : Oper} {f g : Fr} (h : ∀ t, t < n → (gmask ops o.guard).testBit t = true → f t = g t) : Wn n ops o f ↔ Wn n ops o g := by
  unfold Wn
  cases hg : o.guard with
  | none => exact Iff.rfl
  | some jw =>
    obtain ⟨j, w⟩ := jw
    simp only []
    cases ht : gslot ops j with
    | none => simp
    | some t =>
      have : f.ev n (.tmp t) = g.ev n (.tmp t) := ev_eq _ fun u hu hm => h u hu (by simp only [hg, gmask, ht]; exact hm)
      simp [this]
structure RI (P : Program) (bd n : Nat) (r : Option Nat) (ops : List Oper) (T : List Nat) (f0 f g : Fr) (X Y Z : Nat) (kg : Kg) (s : St) : Prop where
  dk : Dok n ops T
  yx : ∀ i, Y.testBit i = true → X.testBit i = true
  cx : Cls ops X
  cy : Cls ops Y
  hg : ∀ t, t < n → g t = if (dmask n ops 0 Y).testBit t = true then f t else f0 t
  hf : ∀ t, t < n → (dmask n ops 0 X).testBit t = false → f t = f0 t
  qx : ∀ {i : Nat} {o : Oper}, ops[i]? = some o → X.testBit i = true → Y.testBit i = false → qo n o = true
  pd : ∀ {i : Nat} {o : Oper}, ops[i]? = some o → X.testBit i = true → Y.testBit i = false → Pend P bd n r ops T f0 f s i o
  kk : ∀ {j : Nat} {w b : Bool}, known kg j w = some b → X.testBit j = true ∧ ∃ t, gslot ops j = some t ∧ (b = true ↔ f.ev n (.tmp t) = .bool w)
  zy : ∀ i, Z.testBit i = true → Y.testBit i = true
variable {ops : List Oper} {T : List Nat} {f0 f g : Fr} {X Y Z : Nat} {kg : Kg} {s : St}
theorem canonView (hd : Dok n ops T) (hc : Cls ops X) (hf : ∀ t, t < n → (dmask n ops 0 X).testBit t = false → f t = f0 t) {i : Nat} {o : Oper} (hi : ops[i]? = some o) (hx : X.testBit i = false) :
    ∀ t, t < n → inOps o ops t = true → f t = view f0 f (dmask n ops 0 (nth T i)) t := by
  intro t ht ho
  unfold view
  cases hm : (dmask n ops 0 (nth T i)).testBit t with
  | true => rfl
  | false =>
    simp only [cond_false]
    refine hf t ht ?_
    cases hX : (dmask n ops 0 X).testBit t with
    | false => rfl
    | true =>
      obtain ⟨k, p, hk, hkx, hb⟩ := dmask_t.1 hX
      rw [Nat.zero_add] at hkx
      have hne : i ≠ k := by rintro rfl; rw [hx] at hkx; cases hkx
      rcases hd.od hi hk hne (bit_t.1 hb).1 ho with h | h
      · have : (dmask n ops 0 (nth T i)).testBit t = true := dmask_t.2 ⟨k, p, hk, by rw [Nat.zero_add]; exact h, hb⟩
        rw [this] at hm; cases hm
      · have := tp_in hd hc k hk (hc hk hkx) i h
        rw [hx] at this; cases this
theorem RI.realView (h : RI P bd n r ops T f0 f g X Y Z kg s) {i : Nat} {o : Oper} (hi : ops[i]? = some o) (hp : ∀ j, (pm o).testBit j = true → Y.testBit j = true) (hy : Y.testBit i = false) :
    ∀ t, t < n → inOps o ops t = true → g t = view f0 f (dmask n ops 0 (nth T i)) t := by
  intro t ht ho
  rw [h.hg t ht]
  unfold view
  have hT := tp_in h.dk h.cy i hi hp
  cases hm : (dmask n ops 0 (nth T i)).testBit t with
  | true =>
    obtain ⟨k, p, hk, hkT, hb⟩ := dmask_t.1 hm
    rw [Nat.zero_add] at hkT
    rw [if_pos (dmask_t.2 ⟨k, p, hk, by rw [Nat.zero_add]; exact hT k hkT, hb⟩)]
    rfl
  | false =>
    simp only [cond_false]
    rw [if_neg]
    intro hY
    obtain ⟨k, p, hk, hkx, hb⟩ := dmask_t.1 hY
    rw [Nat.zero_add] at hkx
    have hne : i ≠ k := by rintro rfl; rw [hy] at hkx; cases hkx
    rcases h.dk.od hi hk hne (bit_t.1 hb).1 ho with h' | h'
    · have : (dmask n ops 0 (nth T i)).testBit t = true := dmask_t.2 ⟨k, p, hk, by rw [Nat.zero_add]; exact h', hb⟩
      rw [this] at hm; cases hm
    · have := tp_in h.dk h.cy k hk (h.cy hk hkx) i h'
      rw [hy] at this; cases this
theorem inOps_op {o : Oper} {t : Nat} (h : (mop o.op).testBit t = true) : inOps o ops t = true := or_t.2 (.inl h)
theorem inOps_g {o : Oper} {t : Nat} (h : (gmask ops o.guard).testBit t = true) : inOps o ops t = true := or_t.2 (.inr h)
theorem Pend.put (hd : Dok n ops T) (hc : Cls ops X) {i : Nat} {o : Oper} (hi : ops[i]? = some o) (hx : X.testBit i = false) (v : Value) {j : Nat} {p : Oper} (hj : ops[j]? = some p) (hjx : X.testBit j = true)
    (h : Pend P bd n r ops T f0 f s j p) : Pend P bd n r ops T f0 (f.put n o.dst v) s j p := by
  have hne : i ≠ j := by rintro rfl; rw [hx] at hjx; cases hjx
  have hv : ∀ t, t < n → view f0 f (dmask n ops 0 (nth T j)) t = view f0 (f.put n o.dst v) (dmask n ops 0 (nth T j)) t := by
    intro t ht
    unfold view
    cases hm : (dmask n ops 0 (nth T j)).testBit t with
    | false => rfl
    | true =>
      simp only [cond_true]
      rw [put_apply, if_neg]
      intro hb
      obtain ⟨k, q, hk, hkT, hb'⟩ := dmask_t.1 hm
      rw [Nat.zero_add] at hkT
      have hkX := tp_in hd hc j hj (hc hj hjx) k hkT
      have hki : k ≠ i := by rintro rfl; rw [hx] at hkX; cases hkX
      exact hd.un hk hi hki (bit_t.1 hb).1 (bit_t.1 hb').1
  have he : f.ev n (dstO p) = (f.put n o.dst v).ev n (dstO p) := ev_dst p fun t ht hdst => by
    rw [put_apply, if_neg]
    intro hb
    exact hd.un hj hi (Ne.symm hne) (bit_t.1 hb).1 hdst
  have hw := wn_eq (n := n) (ops := ops) (o := p) (fun t ht _ => hv t ht)
  unfold Pend
  rw [← hw, ← he]
  exact ⟨fun hW => opw_same (m := mop p.op) (fun t ht _ => hv t ht) (fun _ h => h) (h.1 hW), h.2⟩
theorem kk_put (hd : Dok n ops T) {i : Nat} {o : Oper} (hi : ops[i]? = some o) (hx : X.testBit i = false) (v : Value)
    (hk : ∀ {j : Nat} {w b : Bool}, known kg j w = some b → X.testBit j = true ∧ ∃ t, gslot ops j = some t ∧ (b = true ↔ f.ev n (.tmp t) = .bool w)) :
    ∀ {j : Nat} {w b : Bool}, known kg j w = some b → (X ||| 2 ^ i).testBit j = true ∧ ∃ t, gslot ops j = some t ∧ (b = true ↔ (f.put n o.dst v).ev n (.tmp t) = .bool w) := by
  intro j w b h
  obtain ⟨h1, t, h2, h3⟩ := hk h
  refine ⟨add_t.2 (.inl h1), t, h2, ?_⟩
  have : (f.put n o.dst v).ev n (.tmp t) = f.ev n (.tmp t) := by
    refine ev_eq _ fun u hu hm => ?_
    simp only [mo, testBit_shl, decide_eq_true_eq] at hm
    subst hm
    rw [put_apply, if_neg]
    intro hb
    unfold gslot at h2
    cases hj : ops[j]? with
    | none => simp [hj] at h2
    | some p =>
      simp only [hj, Option.bind_some] at h2
      have hne : j ≠ i := by rintro rfl; rw [hx] at h1; cases h1
      exact hd.un hj hi hne (bit_t.1 hb).1 h2
  rw [this]; exact h3
theorem hf_put {i : Nat} {o : Oper} (hi : ops[i]? = some o) (v : Value) (hf : ∀ t, t < n → (dmask n ops 0 X).testBit t = false → f t = f0 t) :
    ∀ t, t < n → (dmask n ops 0 (X ||| 2 ^ i)).testBit t = false → (f.put n o.dst v) t = f0 t := by
  intro t ht hm
  have h1 : ¬ ((dmask n ops 0 X).testBit t = true ∨ (bit n o.dst).testBit t = true) := fun h => by rw [(dmask_add hi).2 h] at hm; cases hm
  rw [put_apply, if_neg fun h => h1 (.inr h)]
  exact hf t ht (by simpa using fun h => h1 (.inl h))
theorem cls_add (hc : Cls ops X) {i : Nat} {o : Oper} (hi : ops[i]? = some o) (hp : ∀ j, (pm o).testBit j = true → X.testBit j = true) : Cls ops (X ||| 2 ^ i) := by
  intro k p hk hkx j hj
  rcases add_t.1 hkx with h | h
  · exact add_t.2 (.inl (hc hk h j hj))
  · subst h; rw [hi] at hk; cases hk; exact add_t.2 (.inl (hp j hj))
theorem grd_cases {o : Oper} {i : Nat} (hi : ops[i]? = some o) (hT : ∀ x, (nth T i).testBit x = true → X.testBit x = true) (hd : Dok n ops T) {A B : Kg → Prop}
    (hk : ∀ {j : Nat} {w b : Bool}, known kg j w = some b → X.testBit j = true ∧ ∃ t, gslot ops j = some t ∧ (b = true ↔ f.ev n (.tmp t) = .bool w)) (h : grd n ops kg f o A B) :
    ∃ kg', (∀ {j : Nat} {w b : Bool}, known kg' j w = some b → X.testBit j = true ∧ ∃ t, gslot ops j = some t ∧ (b = true ↔ f.ev n (.tmp t) = .bool w)) ∧ ((Wn n ops o f ∧ A kg') ∨ (¬ Wn n ops o f ∧ B kg')) := by
  unfold grd at h
  cases hg : o.guard with
  | none => simp only [hg] at h; exact ⟨kg, hk, .inl ⟨by simp [Wn, hg], h⟩⟩
  | some jw =>
    obtain ⟨j, want⟩ := jw
    simp only [hg] at h
    have hjX : X.testBit j = true := hT j (hd.gd hi hg)
    cases hkn : known kg j want with
    | some b =>
      obtain ⟨_, t, ht, hb⟩ := hk hkn
      cases b with
      | true => simp only [hkn] at h; exact ⟨kg, hk, .inl ⟨by simp only [Wn, hg]; exact ⟨t, ht, hb.1 rfl⟩, h⟩⟩
      | false =>
        simp only [hkn] at h
        refine ⟨kg, hk, .inr ⟨?_, h⟩⟩
        simp only [Wn, hg]
        rintro ⟨u, hu, he⟩
        rw [ht] at hu; cases hu
        exact absurd (hb.2 he) (by simp)
    | none =>
      simp only [hkn] at h
      cases ht : gslot ops j with
      | none => simp [ht] at h
      | some t =>
        simp only [ht] at h
        have hk' : ∀ (b : Bool), (b = true ↔ f.ev n (.tmp t) = .bool want) → ∀ {j' : Nat} {w b' : Bool}, known (((j, want), b) :: kg) j' w = some b' → X.testBit j' = true ∧ ∃ t, gslot ops j' = some t ∧ (b' = true ↔ f.ev n (.tmp t) = .bool w) := by
          intro b hb j' w b' hkn'
          simp only [known] at hkn'
          cases hc : (Nat.beq j j' && (want == w)) with
          | true =>
            simp only [hc, cond_true, Option.some.injEq] at hkn'
            simp only [Bool.and_eq_true, beq_iff_eq] at hc
            have e1 := Nat.eq_of_beq_eq_true hc.1
            subst e1; obtain rfl := hc.2; subst hkn'
            exact ⟨hjX, t, ht, hb⟩
          | false => simp only [hc, cond_false] at hkn'; exact hk hkn'
        by_cases hv : f.ev n (.tmp t) = .bool want
        · exact ⟨_, hk' true (by simp [hv]), .inl ⟨by simp only [Wn, hg]; exact ⟨t, ht, hv⟩, h.1 hv⟩⟩
        · refine ⟨_, hk' false (by simp [hv]), .inr ⟨?_, h.2 hv⟩⟩
          simp only [Wn, hg]
          rintro ⟨u, hu, he⟩
          rw [ht] at hu; cases hu; exact hv he
theorem qt_ex {o : Oper} {C : Value → Prop} (h : qt P bd n r o f s C) : ∃ v, opw P bd n r o f (fun v' s' => v' = v ∧ s' = s) s ∧ C v := by
  unfold qt at h
  split at h
  · rename_i x hx; exact ⟨_, by unfold opw; rw [hx]; exact ⟨rfl, rfl⟩, h⟩
  · rename_i x hx; exact ⟨_, by unfold opw; rw [hx]; exact ⟨rfl, rfl⟩, h⟩
  · exact h
theorem bif_and {b : Bool} {A C : Prop} (h : bif b then A ∧ C else C) : C := by
  cases b
  · exact h
  · exact h.2
theorem again_all {l : List Oper} {W : Nat} {C : Prop} : ∀ {k : Nat}, again P bd n r ops T f0 kg X W f s l k C →
    C ∧ ∀ {j : Nat} {p : Oper}, l[j]? = some p → X.testBit (k + j) = true → W.testBit (k + j) = false → qo n p = true → isMove p.op = false → (∀ g w, p.guard = some (g, w) → known kg g w ≠ some false) →
      opw P bd n r p (view f0 f (dmask n ops 0 (nth T (k + j)))) (fun v' s' => v' = f.ev n (dstO p) ∧ s' = s) s := by
  induction l with
  | nil => intro k h; exact ⟨h, fun hj => by simp at hj⟩
  | cons q l ih =>
    intro k h
    simp only [again] at h
    have next : again P bd n r ops T f0 kg X W f s l (k + 1) C := bif_and h
    obtain ⟨hC, hall⟩ := ih next
    refine ⟨hC, fun {j p} hj hX hW hq hm hg => ?_⟩
    cases j with
    | zero =>
      simp only [List.getElem?_cons_zero, Option.some.injEq] at hj
      subst hj
      have hX' : X.testBit k = true := hX
      have hW' : W.testBit k = false := hW
      have hgm : (match q.guard with | none => true | some (g, want) => match known kg g want with | some false => false | _ => true) = true := by
        cases hgd : q.guard with
        | none => rfl
        | some gw =>
          obtain ⟨g', w⟩ := gw
          have hne := hg g' w hgd
          show (match known kg g' w with | some false => false | _ => true) = true
          revert hne
          cases known kg g' w with
          | none => intro _; rfl
          | some b => cases b with
            | false => intro h'; exact absurd rfl h'
            | true => intro _; rfl
      simp only [hX', hW', hq, hm, hgm, Bool.not_false, Bool.and_self, cond_true] at h
      exact h.1
    | succ j =>
      rw [show k + (j + 1) = k + 1 + j by omega] at hX hW ⊢
      exact hall (by simpa using hj) hX hW hq hm hg
end
section
variable {P : Program} {bd n : Nat} {r : Option Nat} {ops : List Oper} {T : List Nat} {f0 f g : Fr} {X Y Z : Nat} {kg : Kg} {s : St}
structure Ls (ops : List Oper) (listed : Array Bool) (Y : Nat) : Prop where
  sz : listed.size = ops.length
  at_ : ∀ i, i < ops.length → listed.getD i true = Y.testBit i
  lt : ∀ i, Y.testBit i = true → i < ops.length
theorem Ls.false_ {listed : Array Bool} (h : Ls ops listed Y) (i : Nat) : listed.getD i false = Y.testBit i := by
  rcases Nat.lt_or_ge i ops.length with hi | hi
  · rw [← h.at_ i hi]
    have hs : i < listed.size := by rw [h.sz]; exact hi
    simp [hs]
  · have h1 : Y.testBit i = false := by
      cases hy : Y.testBit i with
      | false => rfl
      | true => have := h.lt i hy; omega
    have hs : listed.size ≤ i := by rw [h.sz]; exact hi
    rw [h1, Array.getD_eq_getD_getElem?, Array.getElem?_eq_none hs]; rfl
theorem Ls.add {listed : Array Bool} (h : Ls ops listed Y) {i : Nat} (hi : i < ops.length) : Ls ops (listed.setIfInBounds i true) (Y ||| 2 ^ i) := by
  refine ⟨by simp [h.sz], fun j hj => ?_, fun j hj => ?_⟩
  · have hs : j < listed.size := by rw [h.sz]; exact hj
    have h2 := h.at_ j hj
    by_cases e : j = i
    · subst e
      rw [(add_t (X := Y) (i := j) (j := j)).2 (.inr rfl)]
      simp [hs]
    · have h3 : (Y ||| 2 ^ i).testBit j = Y.testBit j := by rw [Nat.testBit_or, testBit_shl]; simp [e]
      rw [h3, ← h2]
      simp [hs, Ne.symm e]
  · rcases add_t.1 hj with h' | h'
    · exact h.lt j h'
    · subst h'; exact hi
theorem Ls.init : Ls ops (Array.replicate ops.toArray.size false) 0 :=
  ⟨by simp, fun i hi => by simp [hi], fun i hi => by simp at hi⟩
theorem pml_t {l : List Edge} {j : Nat} : (pml l).testBit j = true ↔ ∃ e ∈ l, Region.binds .any e = true ∧ e.on = j := by
  induction l with
  | nil => simp [pml]
  | cons e l ih =>
    simp only [pml, or_t, ih, List.mem_cons]
    constructor
    · rintro (h | ⟨e', h1, h2⟩)
      · cases hb : Region.binds .any e with
        | true => simp only [hb, cond_true, pow_t] at h; exact ⟨e, .inl rfl, hb, h.symm⟩
        | false => simp [hb] at h
      · exact ⟨e', .inr h1, h2⟩
    · rintro ⟨e', rfl | h1, h2, h3⟩
      · exact .inl (by simp [h2, h3])
      · exact .inr ⟨e', h1, h2, h3⟩
theorem ready_mem {listed : Array Bool} (h : Ls ops listed Y) {i : Nat} : i ∈ Region.ready .any ops.toArray listed ↔ ∃ o, ops[i]? = some o ∧ Y.testBit i = false ∧ ∀ j, (pm o).testBit j = true → Y.testBit j = true := by
  simp only [Region.ready, List.mem_filter, List.mem_range, List.size_toArray, Bool.and_eq_true, Bool.not_eq_true', List.getElem?_toArray]
  constructor
  · rintro ⟨hi, h1, h2⟩
    have ho : ops[i]? = some ops[i] := List.getElem?_eq_getElem hi
    refine ⟨_, ho, by rw [← h.at_ i hi]; exact h1, fun j hj => ?_⟩
    simp only [ho, Option.map_some, Option.getD_some, Array.all_eq_true_iff_forall_mem, Bool.or_eq_true, Bool.not_eq_true', h.false_] at h2
    obtain ⟨e, he, hb, rfl⟩ := pml_t.1 hj
    rcases h2 e (by simpa using he) with h' | h'
    · rw [hb] at h'; cases h'
    · exact h'
  · rintro ⟨o, ho, h1, h2⟩
    have hi : i < ops.length := (List.getElem?_eq_some_iff.1 ho).1
    refine ⟨hi, by rw [h.at_ i hi]; exact h1, ?_⟩
    simp only [ho, Option.map_some, Option.getD_some, Array.all_eq_true_iff_forall_mem, Bool.or_eq_true, Bool.not_eq_true', h.false_]
    intro e he
    cases hb : Region.binds .any e with
    | false => exact .inl rfl
    | true => exact .inr (h2 _ (pml_t.2 ⟨e, by simpa using he, hb, rfl⟩))
theorem ready_nil {listed : Array Bool} (hd : Dok n ops T) (h : Ls ops listed Y) (he : Region.ready .any ops.toArray listed = []) : ∀ i, i < ops.length → Y.testBit i = true := by
  intro i
  induction i using Nat.strongRecOn with
  | _ i ih =>
    intro hi
    cases hy : Y.testBit i with
    | true => rfl
    | false =>
      have ho : ops[i]? = some ops[i] := List.getElem?_eq_getElem hi
      have : i ∈ Region.ready .any ops.toArray listed := (ready_mem h).2 ⟨_, ho, hy, fun j hj => by
        have := hd.back ho j hj
        exact ih j this (by omega)⟩
      rw [he] at this; cases this
def un : List Oper → Nat → Nat → Nat
  | [], _, _ => 0
  | _ :: l, i, Y => (bif Y.testBit i then 0 else 1) + un l (i + 1) Y
theorem un_hi {l : List Oper} : ∀ {k i : Nat}, i < k → un l k (Y ||| 2 ^ i) = un l k Y := by
  induction l with
  | nil => intro k i _; rfl
  | cons o l ih =>
    intro k i h
    have h3 : (Y ||| 2 ^ i).testBit k = Y.testBit k := by rw [Nat.testBit_or, testBit_shl]; simp [show k ≠ i by omega]
    simp only [un, h3, ih (show i < k + 1 by omega)]
theorem un_add {l : List Oper} : ∀ {k j : Nat}, j < l.length → Y.testBit (k + j) = false → un l k (Y ||| 2 ^ (k + j)) + 1 = un l k Y := by
  induction l with
  | nil => intro k j h; simp at h
  | cons o l ih =>
    intro k j h hy
    cases j with
    | zero =>
      have hy' : Y.testBit k = false := hy
      have h3 : (Y ||| 2 ^ (k + 0)).testBit k = true := add_t.2 (.inr rfl)
      show un (o :: l) k (Y ||| 2 ^ k) + 1 = un (o :: l) k Y
      have h4 : (Y ||| 2 ^ k).testBit k = true := h3
      simp only [un, h4, hy', cond_true, cond_false]
      rw [un_hi (show k < k + 1 by omega)]; omega
    | succ j =>
      have h3 : (Y ||| 2 ^ (k + (j + 1))).testBit k = Y.testBit k := by rw [Nat.testBit_or, testBit_shl]; simp
      have := ih (k := k + 1) (j := j) (by simpa using h) (by rw [show k + 1 + j = k + (j + 1) by omega]; exact hy)
      simp only [un, h3]
      rw [show k + (j + 1) = k + 1 + j by omega]
      omega
theorem un_zero {l : List Oper} : ∀ {k : Nat}, un l k Y = 0 → ∀ j, j < l.length → Y.testBit (k + j) = true := by
  induction l with
  | nil => intro k _ j h; simp at h
  | cons o l ih =>
    intro k h j hj
    simp only [un] at h
    cases j with
    | zero =>
      rw [Nat.add_zero]
      cases hy : Y.testBit k with
      | true => rfl
      | false => simp [hy] at h
    | succ j =>
      rw [show k + (j + 1) = k + 1 + j by omega]
      exact ih (by omega) j (by simpa using hj)
theorem full_eq (h1 : ∀ i, X.testBit i = true → i < ops.length) (h2 : ∀ i, i < ops.length → X.testBit i = true) : X = 2 ^ ops.length - 1 := by
  apply Nat.eq_of_testBit_eq
  intro i
  rw [Nat.testBit_two_pow_sub_one]
  rcases Nat.lt_or_ge i ops.length with h | h
  · rw [h2 i h]; simp [h]
  · have : X.testBit i = false := by
      cases hx : X.testBit i with
      | false => rfl
      | true => have := h1 i hx; omega
    rw [this]; simp; omega
theorem not_full {i : Nat} (hi : i < ops.length) (hx : X.testBit i = false) : Nat.beq X (2 ^ ops.length - 1) = false := by
  refine beq_f ?_
  rintro rfl
  rw [Nat.testBit_two_pow_sub_one] at hx
  simp at hx; omega
theorem cn_full {K : Fr → St → Prop} {k : Nat} (hx : X = 2 ^ ops.length - 1) (h : cn P bd n r ops T f0 K k X Z kg f s) : K f s := by
  subst hx
  cases k <;> simpa [cn] using h
theorem RI.done (h : RI P bd n r ops T f0 f g X Y Z kg s) (hY : ∀ i, i < ops.length → Y.testBit i = true) : ∀ t, t < n → g t = f t := by
  intro t ht
  rw [h.hg t ht]
  cases hm : (dmask n ops 0 Y).testBit t with
  | true => rfl
  | false =>
    have : (dmask n ops 0 X).testBit t = false := by
      cases hX : (dmask n ops 0 X).testBit t with
      | false => rfl
      | true =>
        obtain ⟨j, o, h1, h2, h3⟩ := dmask_t.1 hX
        have : (dmask n ops 0 Y).testBit t = true := dmask_t.2 ⟨j, o, h1, by rw [Nat.zero_add]; exact hY j (List.getElem?_eq_some_iff.1 h1).1, h3⟩
        rw [this] at hm; cases hm
    simp [h.hf t ht this]
theorem RI.late (h : RI P bd n r ops T f0 f g X Y Z kg s) {i : Nat} {o : Oper} (hi : ops[i]? = some o) (hp : ∀ j, (pm o).testBit j = true → Y.testBit j = true) (hx : X.testBit i = true) :
    RI P bd n r ops T f0 f (g.put n o.dst (f.ev n (dstO o))) X (Y ||| 2 ^ i) Z kg s where
  dk := h.dk
  yx := fun j hj => (add_t.1 hj).elim (h.yx j) fun e => e ▸ hx
  cx := h.cx
  cy := cls_add h.cy hi hp
  hg := fun t ht => by
    rw [put_apply]
    by_cases hb : (bit n o.dst).testBit t = true
    · rw [if_pos hb, if_pos ((dmask_add hi).2 (.inr hb))]
      have := bit_t.1 hb
      simp only [dstO, this.1, Fr.ev, blt_t ht, cond_true]
    · rw [if_neg hb, h.hg t ht]
      by_cases hm : (dmask n ops 0 Y).testBit t = true
      · rw [if_pos hm, if_pos ((dmask_add hi).2 (.inl hm))]
      · rw [if_neg hm, if_neg fun h' => ((dmask_add hi).1 h').elim hm hb]
  hf := h.hf
  qx := fun hj hjx hjy => h.qx hj hjx (by
    cases hy : Y.testBit _ with
    | false => rfl
    | true => rw [add_t.2 (.inl hy)] at hjy; cases hjy)
  pd := fun hj hjx hjy => h.pd hj hjx (by
    cases hy : Y.testBit _ with
    | false => rfl
    | true => rw [add_t.2 (.inl hy)] at hjy; cases hjy)
  kk := h.kk
  zy := fun j hj => add_t.2 (.inl (h.zy j hj))
theorem nbit {a b : Nat} {j : Nat} (h : (a ||| 2 ^ b).testBit j = false) : a.testBit j = false ∧ j ≠ b := by
  refine ⟨?_, ?_⟩
  · cases hy : a.testBit j with
    | false => rfl
    | true => rw [add_t.2 (.inl hy)] at h; cases h
  · rintro rfl; rw [add_t.2 (.inr rfl)] at h; cases h
theorem RI.early (h : RI P bd n r ops T f0 f g X Y Z kg s) {i : Nat} {o : Oper} (hi : ops[i]? = some o) (hp : ∀ j, (pm o).testBit j = true → X.testBit j = true) (hx : X.testBit i = false) (hq : qo n o = true) (v : Value) {kg' : Kg}
    (hk : ∀ {j : Nat} {w b : Bool}, known kg' j w = some b → X.testBit j = true ∧ ∃ t, gslot ops j = some t ∧ (b = true ↔ f.ev n (.tmp t) = .bool w))
    (hv : (Wn n ops o f ∧ opw P bd n r o f (fun v' s' => v' = v ∧ s' = s) s) ∨ (¬ Wn n ops o f ∧ v = undef)) :
    RI P bd n r ops T f0 (f.put n o.dst v) g (X ||| 2 ^ i) Y Z kg' s := by
  have hin := tp_in h.dk h.cx i hi hp
  have hcv : ∀ t, t < n → inOps o ops t = true → f t = view f0 (f.put n o.dst v) (dmask n ops 0 (nth T i)) t := by
    intro t ht ho
    rw [canonView h.dk h.cx h.hf hi hx t ht ho]
    unfold view
    cases hm : (dmask n ops 0 (nth T i)).testBit t with
    | false => rfl
    | true =>
      simp only [cond_true]
      rw [put_apply, if_neg]
      intro hb
      obtain ⟨k, q, hk, hkT, hb'⟩ := dmask_t.1 hm
      rw [Nat.zero_add] at hkT
      have hki : k ≠ i := by rintro rfl; rw [hin k hkT] at hx; cases hx
      exact h.dk.un hk hi hki (bit_t.1 hb).1 (bit_t.1 hb').1
  have hw := wn_eq (n := n) (ops := ops) (o := o) (fun t ht hm => hcv t ht (inOps_g hm))
  exact {
    dk := h.dk
    yx := fun j hj => add_t.2 (.inl (h.yx j hj))
    cx := cls_add h.cx hi hp
    cy := h.cy
    hg := fun t ht => by
      rw [h.hg t ht]
      by_cases hm : (dmask n ops 0 Y).testBit t = true
      · rw [if_pos hm, if_pos hm, put_apply, if_neg]
        intro hb
        obtain ⟨k, q, hk, hky, hb'⟩ := dmask_t.1 hm
        rw [Nat.zero_add] at hky
        have hki : k ≠ i := by rintro rfl; rw [h.yx k hky] at hx; cases hx
        exact h.dk.un hk hi hki (bit_t.1 hb).1 (bit_t.1 hb').1
      · rw [if_neg hm, if_neg hm]
    hf := hf_put hi v h.hf
    qx := fun {j p} hj hjx hjy => by
      rcases add_t.1 hjx with h' | h'
      · exact h.qx hj h' hjy
      · subst h'; rw [hi] at hj; cases hj; exact hq
    pd := fun {j p} hj hjx hjy => by
      rcases add_t.1 hjx with h' | h'
      · exact Pend.put h.dk h.cx hi hx v hj h' (h.pd hj h' hjy)
      · subst h'; rw [hi] at hj; cases hj
        refine ⟨fun hW => ?_, fun hW => ?_⟩
        · rcases hv with ⟨_, hv⟩ | ⟨hn, _⟩
          · rw [ev_dst_put hq]
            exact opw_same (m := mop o.op) (fun t ht hm => hcv t ht (inOps_op hm)) (fun _ h => h) hv
          · exact absurd (hw.2 hW) hn
        · rcases hv with ⟨hW', _⟩ | ⟨_, rfl⟩
          · exact absurd (hw.1 hW') hW
          · exact ev_dst_put hq
    kk := kk_put h.dk hi hx v hk
    zy := h.zy }
theorem RI.both (h : RI P bd n r ops T f0 f g X Y Z kg s) {i : Nat} {o : Oper} (hi : ops[i]? = some o) (hpy : ∀ j, (pm o).testBit j = true → Y.testBit j = true) (hx : X.testBit i = false) (v : Value) {kg' : Kg} {s' : St} {Z' : Nat}
    (hk : ∀ {j : Nat} {w b : Bool}, known kg' j w = some b → X.testBit j = true ∧ ∃ t, gslot ops j = some t ∧ (b = true ↔ f.ev n (.tmp t) = .bool w))
    (hz : ∀ j, Z'.testBit j = true → (Y ||| 2 ^ i).testBit j = true)
    (hpd : ∀ {j : Nat} {p : Oper}, ops[j]? = some p → X.testBit j = true → Y.testBit j = false → Pend P bd n r ops T f0 (f.put n o.dst v) s' j p) :
    RI P bd n r ops T f0 (f.put n o.dst v) (g.put n o.dst v) (X ||| 2 ^ i) (Y ||| 2 ^ i) Z' kg' s' where
  dk := h.dk
  yx := fun j hj => (add_t.1 hj).elim (fun h' => add_t.2 (.inl (h.yx j h'))) fun e => add_t.2 (.inr e)
  cx := cls_add h.cx hi fun j hj => h.yx j (hpy j hj)
  cy := cls_add h.cy hi hpy
  hg := fun t ht => by
    rw [put_apply, put_apply]
    by_cases hb : (bit n o.dst).testBit t = true
    · rw [if_pos hb, if_pos hb, if_pos ((dmask_add hi).2 (.inr hb))]
    · rw [if_neg hb, if_neg hb, h.hg t ht]
      by_cases hm : (dmask n ops 0 Y).testBit t = true
      · rw [if_pos hm, if_pos ((dmask_add hi).2 (.inl hm))]
      · rw [if_neg hm, if_neg fun h' => ((dmask_add hi).1 h').elim hm hb]
  hf := hf_put hi v h.hf
  qx := fun {j p} hj hjx hjy => by
    obtain ⟨hy, hne⟩ := nbit hjy
    rcases add_t.1 hjx with h' | h'
    · exact h.qx hj h' hy
    · exact absurd h' hne
  pd := fun {j p} hj hjx hjy => by
    obtain ⟨hy, hne⟩ := nbit hjy
    rcases add_t.1 hjx with h' | h'
    · exact hpd hj h' hy
    · exact absurd h' hne
  kk := kk_put h.dk hi hx v hk
  zy := hz
theorem opw_move {o : Oper} (hm : isMove o.op = true) {v : Value} {s1 s2 : St} (h : opw P bd n r o f (fun v' s' => v' = v ∧ s' = s1) s1) : opw P bd n r o f (fun v' s' => v' = v ∧ s' = s2) s2 := by
  unfold opw at *
  split at h
  · exact ⟨h.1, rfl⟩
  · exact ⟨h.1, rfl⟩
  all_goals simp_all [isMove]
theorem again_pend (h : RI P bd n r ops T f0 f g X Y Z kg s) {i : Nat} {o : Oper} (hi : ops[i]? = some o) (hpy : ∀ j, (pm o).testBit j = true → Y.testBit j = true) (hx : X.testBit i = false) (v : Value) {kg' : Kg} {s' : St} {C : Prop}
    (hk : ∀ {j : Nat} {w b : Bool}, known kg' j w = some b → X.testBit j = true ∧ ∃ t, gslot ops j = some t ∧ (b = true ↔ f.ev n (.tmp t) = .bool w))
    (ha : again P bd n r ops T f0 kg' X (Z ||| (nth T i ||| 2 ^ i)) (f.put n o.dst v) s' ops 0 C) :
    C ∧ ∀ {j : Nat} {p : Oper}, ops[j]? = some p → X.testBit j = true → Y.testBit j = false → Pend P bd n r ops T f0 (f.put n o.dst v) s' j p := by
  obtain ⟨hC, hall⟩ := again_all ha
  refine ⟨hC, fun {j p} hj hjx hjy => ?_⟩
  have hold := Pend.put h.dk h.cx hi hx v hj hjx (h.pd hj hjx hjy)
  refine ⟨fun hW => ?_, hold.2⟩
  cases hmv : isMove p.op with
  | true => exact opw_move hmv (hold.1 hW)
  | false =>
    have hWj : (Z ||| (nth T i ||| 2 ^ i)).testBit (0 + j) = false := by
      rw [Nat.zero_add]
      cases hb : (Z ||| (nth T i ||| 2 ^ i)).testBit j with
      | false => rfl
      | true =>
        rcases or_t.1 hb with h1 | h1
        · rw [h.zy j h1] at hjy; cases hjy
        · rcases add_t.1 h1 with h1 | h1
          · rw [tp_in h.dk h.cy i hi hpy j h1] at hjy; cases hjy
          · subst h1; rw [hx] at hjx; cases hjx
    have := hall hj (by rw [Nat.zero_add]; exact hjx) hWj (h.qx hj hjx hjy) hmv (fun a w hg hkn => ?_)
    · rw [Nat.zero_add] at this; exact this
    · obtain ⟨_, t, ht, hb⟩ := kk_put h.dk hi hx v hk hkn
      have hb' : ¬ (f.put n o.dst v).ev n (.tmp t) = .bool w := fun e => absurd (hb.2 e) (by simp)
      simp only [Wn, hg] at hW
      obtain ⟨u, hu, he⟩ := hW
      rw [ht] at hu; cases hu
      refine hb' (Eq.trans (ev_eq _ fun u hu hm => ?_) he)
      simp only [mo, testBit_shl, decide_eq_true_eq] at hm
      subst hm
      unfold gslot at ht
      cases hja : ops[a]? with
      | none => simp [hja] at ht
      | some q =>
        simp only [hja, Option.bind_some] at ht
        have : (dmask n ops 0 (nth T j)).testBit u = true := dmask_t.2 ⟨a, q, hja, by rw [Nat.zero_add]; exact h.dk.gd hj hg, bit_t.2 ⟨ht, hu⟩⟩
        simp only [view, this, cond_true]
theorem wanted_wn {o : Oper} {arr : Array Value} {h : Fr} (hA : Agree n arr h) (hd : ∀ j w, o.guard = some (j, w) → ∃ t, gslot ops j = some t) : Region.wanted o (yielded ops.toArray arr) = true ↔ Wn n ops o h := by
  unfold Wn
  cases hg : o.guard with
  | none => simp [Region.wanted, hg]
  | some jw =>
    obtain ⟨j, w⟩ := jw
    obtain ⟨t, ht⟩ := hd j w hg
    rw [wanted_iff hA hg ht]
    constructor
    · exact fun h => ⟨t, ht, h⟩
    · rintro ⟨u, hu, h⟩; rw [ht] at hu; cases hu; exact h
theorem cn_any (hB : Bodies P bd) {K : Fr → St → Prop} {Q : Exit → Act → World → Prop} (hK : ∀ arr f s, Agree n arr f → K f s → Q .normal ⟨arr, s.ds⟩ s.w) :
    ∀ (fuel : Nat) {X Y Z k : Nat} {kg : Kg} {f g : Fr} {s : St} {arr : Array Value} {listed : Array Bool}, un ops 0 Y ≤ fuel → Ls ops listed Y → (∀ i, X.testBit i = true → i < ops.length) → RI P bd n r ops T f0 f g X Y Z kg s → Agree n arr g →
      cn P bd n r ops T f0 K k X Z kg f s → wpAnyIn (FW r) 0 P .any ops.toArray Q fuel listed ⟨arr, s.ds⟩ s.w := by
  have fin : ∀ {X Y Z k : Nat} {kg : Kg} {f g : Fr} {s : St} {arr : Array Value} {listed : Array Bool}, Ls ops listed Y → (∀ i, X.testBit i = true → i < ops.length) → RI P bd n r ops T f0 f g X Y Z kg s → Agree n arr g →
      cn P bd n r ops T f0 K k X Z kg f s → (∀ i, i < ops.length → Y.testBit i = true) → Q .normal ⟨arr, s.ds⟩ s.w := by
    intro X Y Z k kg f g s arr listed hl hX hR hA hc hY
    have hx := full_eq hX fun i hi => hR.yx i (hY i hi)
    exact hK _ _ _ ⟨hA.1, fun t ht => (hA.2 t ht).trans (hR.done hY t ht)⟩ (cn_full hx hc)
  intro fuel
  induction fuel with
  | zero =>
    intro X Y Z k kg f g s arr listed hu hl hX hR hA hc
    have hY : ∀ i, i < ops.length → Y.testBit i = true := fun i hi => by
      have := un_zero (l := ops) (k := 0) (Y := Y) (by omega) i hi
      rwa [Nat.zero_add] at this
    refine ⟨?_, fin hl hX hR hA hc hY⟩
    cases he : Region.ready .any ops.toArray listed with
    | nil => rfl
    | cons i l =>
      obtain ⟨o, ho, hy, _⟩ := (ready_mem hl).1 (by rw [he]; exact List.mem_cons_self ..)
      rw [hY i (List.getElem?_eq_some_iff.1 ho).1] at hy; cases hy
  | succ fuel ih =>
    intro X Y Z k kg f g s arr listed hu hl hX hR hA hc
    refine ⟨fun he => fin hl hX hR hA hc (ready_nil hR.dk hl he), ?_⟩
    intro i hi
    obtain ⟨o, ho, hy, hp⟩ := (ready_mem hl).1 hi
    have hlt : i < ops.length := (List.getElem?_eq_some_iff.1 ho).1
    have hl' := hl.add hlt
    have hu' : un ops 0 (Y ||| 2 ^ i) ≤ fuel := by
      have := un_add (l := ops) (k := 0) (j := i) (Y := Y) hlt (by rw [Nat.zero_add]; exact hy)
      rw [Nat.zero_add] at this
      omega
    have eput : ∀ (v : Value) (ds : List Deferred), (Act.mk arr ds).put o.dst v = ⟨((Act.mk arr ds).put o.dst v).tmps, ds⟩ := fun v ds => by cases o.dst <;> rfl
    have hgs : ∀ j w, o.guard = some (j, w) → ∃ t, gslot ops j = some t := fun j w hg => hR.dk.gs ho hg
    have hwn := wanted_wn (ops := ops) (o := o) hA hgs
    clear hi
    induction k generalizing X Z kg f with
    | zero =>
      cases hx : X.testBit i with
      | false => simp [cn, not_full hlt hx] at hc
      | true =>
        have hpd := hR.pd ho hx hy
        have hrv := hR.realView ho hp hy
        have hw := wn_eq (n := n) (ops := ops) (o := o) (fun t ht hm => hrv t ht (inOps_g hm))
        have hN := ih hu' hl' hX (hR.late ho hp hx) (hA.put s.ds o.dst (f.ev n (dstO o))) hc
        rw [← eput] at hN
        simp only [wpOpIn, List.getElem?_toArray, ho]
        by_cases hW : Wn n ops o g
        · rw [if_pos (hwn.2 hW)]
          refine op_sound hB hA (fun v s' hv => ?_) (opw_same (m := mop o.op) (fun t ht hm => (hrv t ht (inOps_op hm)).symm) (fun _ h => h) (hpd.1 (hw.1 hW)))
          obtain ⟨rfl, rfl⟩ := hv
          exact hN
        · rw [if_neg fun h => hW (hwn.1 h)]
          refine ⟨fun _ _ => trivial, ?_⟩
          rw [← hpd.2 fun h => hW (hw.2 h)]
          exact hN
    | succ k ihk =>
      cases hx : X.testBit i with
      | true =>
        have hpd := hR.pd ho hx hy
        have hrv := hR.realView ho hp hy
        have hw := wn_eq (n := n) (ops := ops) (o := o) (fun t ht hm => hrv t ht (inOps_g hm))
        have hN := ih hu' hl' hX (hR.late ho hp hx) (hA.put s.ds o.dst (f.ev n (dstO o))) hc
        rw [← eput] at hN
        simp only [wpOpIn, List.getElem?_toArray, ho]
        by_cases hW : Wn n ops o g
        · rw [if_pos (hwn.2 hW)]
          refine op_sound hB hA (fun v s' hv => ?_) (opw_same (m := mop o.op) (fun t ht hm => (hrv t ht (inOps_op hm)).symm) (fun _ h => h) (hpd.1 (hw.1 hW)))
          obtain ⟨rfl, rfl⟩ := hv
          exact hN
        · rw [if_neg fun h => hW (hwn.1 h)]
          refine ⟨fun _ _ => trivial, ?_⟩
          rw [← hpd.2 fun h => hW (hw.2 h)]
          exact hN
      | false =>
        simp only [cn, not_full hlt hx, cond_false, frc_eq] at hc
        cases hfq : fq n ops 0 X with
        | some io =>
          obtain ⟨i', o'⟩ := io
          simp only [hfq] at hc
          obtain ⟨j, hj, ho', hx', hq', hs'⟩ := fq_spec hfq
          rw [Nat.zero_add] at hj
          subst hj
          have hp' : ∀ j, (pm o').testBit j = true → X.testBit j = true := fun j hj => sub_t hs' hj
          obtain ⟨kg', hk', hh⟩ := grd_cases ho' (tp_in hR.dk hR.cx _ ho' hp') hR.dk hR.kk hc
          have hX' : ∀ j, (X ||| 2 ^ i').testBit j = true → j < ops.length := fun j hj => (add_t.1 hj).elim (hX j) fun e => e ▸ (List.getElem?_eq_some_iff.1 ho').1
          rcases hh with ⟨hW, hh⟩ | ⟨hW, hh⟩
          · obtain ⟨v, hv, hh⟩ := qt_ex hh
            exact ihk hX' (hR.early ho' hp' hx' hq' v hk' (.inl ⟨hW, hv⟩)) hh
          · exact ihk hX' (hR.early ho' hp' hx' hq' undef hk' (.inr ⟨hW, rfl⟩)) hh
        | none =>
          simp only [hfq] at hc
          have hpx : ∀ j, (pm o).testBit j = true → X.testBit j = true := fun j hj => hR.yx j (hp j hj)
          have hmem := sigs_mem (k := 0) (X := X) ho (by rw [Nat.zero_add]; exact hx) (sub_of hpx)
          rw [Nat.zero_add] at hmem
          have hA1 := alls_mem hmem hc
          obtain ⟨kg', hk', hh⟩ := grd_cases ho (tp_in hR.dk hR.cx _ ho hpx) hR.dk hR.kk hA1
          have hX' : ∀ j, (X ||| 2 ^ i).testBit j = true → j < ops.length := fun j hj => (add_t.1 hj).elim (hX j) fun e => e ▸ hlt
          have hsame : ∀ t, t < n → inOps o ops t = true → f t = g t := fun t ht ht' => (canonView hR.dk hR.cx hR.hf ho hx t ht ht').trans (hR.realView ho hp hy t ht ht').symm
          have hw := wn_eq (n := n) (ops := ops) (o := o) (fun t ht hm => hsame t ht (inOps_g hm))
          simp only [wpOpIn, List.getElem?_toArray, ho]
          rcases hh with ⟨hW, hh⟩ | ⟨hW, hh⟩
          · rw [if_pos (hwn.2 (hw.1 hW))]
            refine op_sound hB hA (fun v s' hv => ?_) (opw_same (m := mop o.op) (fun t ht hm => hsame t ht (inOps_op hm)) (fun _ h => h) hh)
            obtain ⟨hC, hpd⟩ := again_pend hR ho hp hx v hk' hv
            have hz : ∀ j, (Z ||| (nth T i ||| 2 ^ i)).testBit j = true → (Y ||| 2 ^ i).testBit j = true := fun j hj => by
              rcases or_t.1 hj with h1 | h1
              · exact add_t.2 (.inl (hR.zy j h1))
              · rcases add_t.1 h1 with h1 | h1
                · exact add_t.2 (.inl (tp_in hR.dk hR.cy i ho hp j h1))
                · exact add_t.2 (.inr h1)
            have hN := ih hu' hl' hX' (hR.both ho hp hx v hk' hz hpd) (hA.put s'.ds o.dst v) hC
            rw [← eput] at hN
            exact hN
          · rw [if_neg fun h => hW (hw.2 (hwn.1 h))]
            refine ⟨fun _ _ => trivial, ?_⟩
            have hN := ih hu' hl' hX' (hR.both (Z' := Z) (s' := s) ho hp hx undef hk' (fun j hj => add_t.2 (.inl (hR.zy j hj))) fun {j p} hj hjx hjy => Pend.put hR.dk hR.cx ho hx undef hj hjx (hR.pd hj hjx hjy)) (hA.put s.ds o.dst undef) hh
            rw [← eput] at hN
            exact hN
theorem cn_region (hm : P.follows .mixedOrders = true) (hB : Bodies P bd) (hd : dok n ops T = true) {K : Fr → St → Prop} {Q : Exit → Act → World → Prop} (hK : ∀ arr f s, Agree n arr f → K f s → Q .normal ⟨arr, s.ds⟩ s.w)
    {id k : Nat} {arr : Array Value} (hA : Agree n arr f0) (h : cn P bd n r ops T f0 K k 0 0 [] f0 ⟨{ s.w with drawn := s.w.drawn + 1 }, s.ds⟩) : (Code.region id ops.toArray true).wpIn (FW r) 0 P Q ⟨arr, s.ds⟩ s.w := by
  refine wpIn_region_any hm (cn_any hB hK ops.toArray.size (X := 0) (Y := 0) (Z := 0) (k := k) (f := f0) (g := f0) (s := ⟨{ s.w with drawn := s.w.drawn + 1 }, s.ds⟩) ?_ Ls.init (fun i h => by simp at h) ?_ hA h)
  · have : ∀ (l : List Oper) (i : Nat), un l i 0 ≤ l.length := by
      intro l
      induction l with
      | nil => exact fun _ => Nat.le_refl _
      | cons o l ih =>
        intro i
        have := ih (i + 1)
        simp only [un, List.length_cons, Nat.zero_testBit, cond_false]; omega
    exact this ops 0
  · have h0 : ∀ t, (dmask n ops 0 0).testBit t = false := fun t => by
      cases hm : (dmask n ops 0 0).testBit t with
      | false => rfl
      | true => obtain ⟨_, _, _, h2, _⟩ := dmask_t.1 hm; simp at h2
    exact ⟨Dok.of hd, fun i h => by simp at h, fun _ h => by simp at h, fun _ h => by simp at h, fun t ht => by simp, fun _ _ _ => rfl, fun _ h => by simp at h, fun _ h => by simp at h, fun h => by simp [known] at h, fun i h => by simp at h⟩
end
def br (n : Nat) (ops : List Oper) : Nat → Nat → Bool
  | 0, _ => false
  | k + 1, X =>
    match fq n ops 0 X with
    | some (i, o) => match o.guard with | some _ => true | none => frc (X ||| 2 ^ i) fun X' => br n ops k X'
    | none => match sigs ops 0 X with
      | [] => false
      | [(i, o)] => match o.guard with | some _ => true | none => frc (X ||| 2 ^ i) fun X' => br n ops k X'
      | _ => true
def Dw (k : St → Prop) (s : St) : Prop := k ⟨s.w.drew, s.ds⟩
def drK (P : Program) (bd n : Nat) (r : Option Nat) (ops : List Oper) (T : List Nat) (m : Nat) (K : Fr → St → Prop) (f : Fr) (s : St) : Prop :=
  frc ops.length fun k => bif br n ops k 0 then frcL (bitsOf n (m &&& dm n ops)) fun sl => Jn sl f (fun J => Dw (fun s => cn P bd n r ops T f J k 0 0 [] f s) s) K
    else Dw (fun s => cn P bd n r ops T f K k 0 0 [] f s) s
def lvDr (n : Nat) (ops : List Oper) (T : List Nat) (m : Nat) : Nat := kill m (dm n ops) ||| lvD n ops T ops 0
section
variable {P : Program} {bd n : Nat} {r : Option Nat} {ops : List Oper} {T : List Nat}
theorem dm_t {l : List Oper} {t : Nat} : (dm n l).testBit t = true ↔ ∃ o ∈ l, (bit n o.dst).testBit t = true := by
  induction l with
  | nil => simp [dm]
  | cons o l ih => simp [dm, ih]
theorem sigs_spec {l : List Oper} : ∀ {k X : Nat} {x : Nat × Oper}, x ∈ sigs l k X → ∃ j, x.1 = k + j ∧ l[j]? = some x.2 ∧ X.testBit x.1 = false ∧ sub (pm x.2) X = true := by
  induction l with
  | nil => intro k X x h; simp [sigs] at h
  | cons p l ih =>
    intro k X x h
    simp only [sigs] at h
    cases hc : (!X.testBit k && sub (pm p) X) with
    | true =>
      simp only [hc, cond_true, List.mem_cons] at h
      rcases h with rfl | h
      · simp only [Bool.and_eq_true, Bool.not_eq_true'] at hc
        exact ⟨0, rfl, rfl, hc.1, hc.2⟩
      · obtain ⟨j, e, h1, h2⟩ := ih h
        exact ⟨j + 1, by omega, by simpa using h1, h2⟩
    | false =>
      simp only [hc, cond_false] at h
      obtain ⟨j, e, h1, h2⟩ := ih h
      exact ⟨j + 1, by omega, by simpa using h1, h2⟩
theorem alls_mono {A A' : Nat × Oper → Prop} {l : List (Nat × Oper)} (hm : ∀ x ∈ l, A x → A' x) (h : alls A l) : alls A' l := by
  induction l with
  | nil => exact h
  | cons y l ih =>
    cases l with
    | nil => exact hm y (List.mem_cons_self ..) h
    | cons z l => exact ⟨hm y (List.mem_cons_self ..) h.1, ih (fun x hx => hm x (List.mem_cons_of_mem _ hx)) h.2⟩
theorem grd_same {kg : Kg} {f g : Fr} {o : Oper} {A A' B B' : Kg → Prop} (he : ∀ t, t < n → (gmask ops o.guard).testBit t = true → f t = g t) (hA : ∀ kg, A kg → A' kg) (hB : ∀ kg, B kg → B' kg) (h : grd n ops kg f o A B) : grd n ops kg g o A' B' := by
  unfold grd at h ⊢
  cases hg : o.guard with
  | none => simp only [hg] at h ⊢; exact hA _ h
  | some jw =>
    obtain ⟨j, want⟩ := jw
    simp only [hg] at h ⊢
    cases hkn : known kg j want with
    | some b => cases b <;> simp only [hkn] at h ⊢ <;> first | exact hA _ h | exact hB _ h
    | none =>
      simp only [hkn] at h ⊢
      cases ht : gslot ops j with
      | none => simp [ht] at h
      | some t =>
        simp only [ht] at h ⊢
        have : f.ev n (.tmp t) = g.ev n (.tmp t) := ev_eq _ fun u hu hm => he u hu (by simp only [hg, gmask, ht]; exact hm)
        rw [← this]
        exact ⟨fun e => hA _ (h.1 e), fun e => hB _ (h.2 e)⟩
theorem qt_same {f g : Fr} {o : Oper} {s : St} {C C' : Value → Prop} (he : ∀ t, t < n → (mop o.op).testBit t = true → f t = g t) (hC : ∀ v, C v → C' v) (h : qt P bd n r o f s C) : qt P bd n r o g s C' := by
  unfold qt at h ⊢
  split at h
  · rename_i x hx
    rw [← ev_eq x fun t ht hm => he t ht (by rw [hx]; exact or_t.2 (.inl hm))]; exact hC _ h
  · rename_i x hx
    rw [← ev_eq x fun t ht hm => he t ht (by rw [hx]; exact or_t.2 (.inl hm))]; exact hC _ h
  · obtain ⟨v, hv, hc⟩ := h
    exact ⟨v, opw_same (m := mop o.op) he (fun _ h => h) hv, hC v hc⟩
theorem bif_map {b : Bool} {A A' B B' : Prop} (hA : b = true → A → A') (hB : B → B') (h : bif b then A ∧ B else B) : bif b then A' ∧ B' else B' := by
  cases b
  · exact hB h
  · exact ⟨hA rfl h.1, hB h.2⟩
theorem again_same {f0 g0 f g : Fr} {kg : Kg} {X Z : Nat} {s : St} {C C' : Prop} (hC : C → C') {l : List Oper} : ∀ {k : Nat},
    (∀ {j : Nat} {p : Oper}, l[j]? = some p → X.testBit (k + j) = true → (∀ t, t < n → (mop p.op).testBit t = true → view f0 f (dmask n ops 0 (nth T (k + j))) t = view g0 g (dmask n ops 0 (nth T (k + j))) t) ∧ f.ev n (dstO p) = g.ev n (dstO p)) →
    again P bd n r ops T f0 kg X Z f s l k C → again P bd n r ops T g0 kg X Z g s l k C' := by
  induction l with
  | nil => exact fun _ h => hC h
  | cons q l ih =>
    intro k he h
    simp only [again] at h ⊢
    have hn := ih (k := k + 1) fun {j p} hj hx => by
      rw [show k + 1 + j = k + (j + 1) by omega] at hx ⊢
      exact he (by simpa using hj) hx
    refine bif_map (fun hb hop => ?_) hn h
    simp only [Bool.and_eq_true] at hb
    obtain ⟨hv, hd⟩ := he (j := 0) rfl hb.1.1.1.1
    have hd' : f.ev n (match q.dst with | some t => .tmp t | none => .const undef) = g.ev n (match q.dst with | some t => .tmp t | none => .const undef) := hd
    rw [← hd']
    exact opw_same (m := mop q.op) hv (fun _ h => h) hop
theorem lvD_t {l : List Oper} : ∀ {k j : Nat} {o : Oper}, l[j]? = some o → ∀ {t : Nat}, inOps o ops t = true → (dmask n ops 0 (nth T (k + j))).testBit t = false → (lvD n ops T l k).testBit t = true := by
  induction l with
  | nil => intro k j o h; simp at h
  | cons q l ih =>
    intro k j o hj t ho hm
    simp only [lvD, or_t]
    cases j with
    | zero =>
      simp only [List.getElem?_cons_zero, Option.some.injEq] at hj
      subst hj
      exact .inl (kill_t ho hm)
    | succ j => exact .inr (ih (k := k + 1) (by simpa using hj) ho (by rw [show k + 1 + j = k + (j + 1) by omega]; exact hm))
theorem dm_full {t : Nat} : (dmask n ops 0 (2 ^ ops.length - 1)).testBit t = (dm n ops).testBit t := by
  have : (dmask n ops 0 (2 ^ ops.length - 1)).testBit t = true ↔ (dm n ops).testBit t = true := by
    rw [dmask_t, dm_t]
    constructor
    · rintro ⟨j, o, h1, _, h3⟩; exact ⟨o, List.mem_of_getElem? h1, h3⟩
    · rintro ⟨o, ho, h⟩
      obtain ⟨j, hj, e⟩ := List.getElem_of_mem ho
      exact ⟨j, o, by rw [List.getElem?_eq_getElem hj, e], by rw [Nat.testBit_two_pow_sub_one]; simpa using hj, h⟩
  cases h1 : (dmask n ops 0 (2 ^ ops.length - 1)).testBit t <;> cases h2 : (dm n ops).testBit t <;> simp_all
theorem cn_str {K K' : Fr → St → Prop} {f0 : Fr} : ∀ {k X Z : Nat} {kg : Kg} {f : Fr} {s : St}, (∀ f' s', But n (dm n ops) f f' → K f' s' → K' f' s') → cn P bd n r ops T f0 K k X Z kg f s → cn P bd n r ops T f0 K' k X Z kg f s := by
  intro k
  have hput : ∀ {f : Fr} {o : Oper} {v : Value}, o ∈ ops → (∀ f' s', But n (dm n ops) f f' → K f' s' → K' f' s') → (∀ f' s', But n (dm n ops) (f.put n o.dst v) f' → K f' s' → K' f' s') := fun {f o v} ho hk f' s' hb =>
    hk f' s' ((put_but f o.dst v).trans hb fun i hi => by
      refine ⟨?_, hi⟩
      cases hbit : (bit n o.dst).testBit i with
      | false => rfl
      | true => rw [dm_t.2 ⟨o, ho, hbit⟩] at hi; cases hi)
  induction k with
  | zero =>
    intro X Z kg f s hk h
    simp only [cn] at h ⊢
    cases hx : Nat.beq X (2 ^ ops.length - 1) with
    | true => simp only [hx, cond_true] at h ⊢; exact hk _ _ (But.refl _ _ _) h
    | false => simp [hx] at h
  | succ k ih =>
    intro X Z kg f s hk h
    simp only [cn, frc_eq] at h ⊢
    cases hx : Nat.beq X (2 ^ ops.length - 1) with
    | true => simp only [hx, cond_true] at h ⊢; exact hk _ _ (But.refl _ _ _) h
    | false =>
      simp only [hx, cond_false] at h ⊢
      cases hfq : fq n ops 0 X with
      | some io =>
        obtain ⟨i, o⟩ := io
        simp only [hfq] at h ⊢
        obtain ⟨j, _, ho, _⟩ := fq_spec hfq
        have hmem := List.mem_of_getElem? ho
        exact grd_same (fun _ _ _ => rfl) (fun kg h => qt_same (fun _ _ _ => rfl) (fun v h => ih (hput hmem hk) h) h) (fun kg h => ih (hput hmem hk) h) h
      | none =>
        simp only [hfq] at h ⊢
        refine alls_mono (fun x hx h => ?_) h
        obtain ⟨j, _, ho, _⟩ := sigs_spec hx
        have hmem := List.mem_of_getElem? ho
        refine grd_same (fun _ _ _ => rfl) (fun kg h => ?_) (fun kg h => ih (hput hmem hk) h) h
        exact opw_mono (fun v s' h => again_same (fun h => ih (hput hmem hk) h) (fun _ _ => ⟨fun _ _ _ => rfl, rfl⟩) h) h
theorem cn_same (hd : Dok n ops T) {m : Nat} {K : Fr → St → Prop} (hK : Dep n m K) {f0 g0 : Fr} (h0 : Same n (lvDr n ops T m) f0 g0) : ∀ {k X Z : Nat} {kg : Kg} {f g : Fr} {s : St}, Cls ops X → Same n (lvDr n ops T m ||| dmask n ops 0 X) f g →
    cn P bd n r ops T f0 K k X Z kg f s → cn P bd n r ops T g0 K k X Z kg g s := by
  have hfin : ∀ {X : Nat} {f g : Fr} {s : St}, Nat.beq X (2 ^ ops.length - 1) = true → Same n (lvDr n ops T m ||| dmask n ops 0 X) f g → K f s → K g s := by
    intro X f g s hx hs h
    have := Nat.eq_of_beq_eq_true hx
    subst this
    refine hK _ _ _ (fun t ht hm => hs t ht ?_) h
    cases hdm : (dm n ops).testBit t with
    | true => exact or_t.2 (.inr (by rw [dm_full]; exact hdm))
    | false => exact or_t.2 (.inl (or_t.2 (.inl (kill_t hm hdm))))
  have hview : ∀ {X : Nat} {f g : Fr} {i : Nat} {o : Oper}, Same n (lvDr n ops T m ||| dmask n ops 0 X) f g → ops[i]? = some o → (∀ x, (nth T i).testBit x = true → X.testBit x = true) → ∀ t, t < n → inOps o ops t = true →
      f t = g t ∧ view f0 f (dmask n ops 0 (nth T i)) t = view g0 g (dmask n ops 0 (nth T i)) t := by
    intro X f g i o hs hi hT t ht ho
    unfold view
    cases hm : (dmask n ops 0 (nth T i)).testBit t with
    | true =>
      have : (dmask n ops 0 X).testBit t = true := by
        obtain ⟨j, p, h1, h2, h3⟩ := dmask_t.1 hm
        rw [Nat.zero_add] at h2
        exact dmask_t.2 ⟨j, p, h1, by rw [Nat.zero_add]; exact hT j h2, h3⟩
      have := hs t ht (or_t.2 (.inr this))
      exact ⟨this, this⟩
    | false =>
      have hlv : (lvDr n ops T m).testBit t = true := or_t.2 (.inr (lvD_t (k := 0) hi ho (by rw [Nat.zero_add]; exact hm)))
      exact ⟨hs t ht (or_t.2 (.inl hlv)), h0 t ht hlv⟩
  have hput : ∀ {X : Nat} {f g : Fr} {i : Nat} {o : Oper} (v : Value), ops[i]? = some o → Same n (lvDr n ops T m ||| dmask n ops 0 X) f g → Same n (lvDr n ops T m ||| dmask n ops 0 (X ||| 2 ^ i)) (f.put n o.dst v) (g.put n o.dst v) := by
    intro X f g i o v hi hs t ht hm
    rw [put_apply, put_apply]
    by_cases hb : (bit n o.dst).testBit t = true
    · rw [if_pos hb, if_pos hb]
    · rw [if_neg hb, if_neg hb]
      refine hs t ht ?_
      rcases or_t.1 hm with h | h
      · exact or_t.2 (.inl h)
      · rcases (dmask_add hi).1 h with h | h
        · exact or_t.2 (.inr h)
        · exact absurd h hb
  intro k
  induction k with
  | zero =>
    intro X Z kg f g s hc hs h
    simp only [cn] at h ⊢
    cases hx : Nat.beq X (2 ^ ops.length - 1) with
    | true => simp only [hx, cond_true] at h ⊢; exact hfin hx hs h
    | false => simp [hx] at h
  | succ k ih =>
    intro X Z kg f g s hc hs h
    simp only [cn, frc_eq] at h ⊢
    cases hx : Nat.beq X (2 ^ ops.length - 1) with
    | true => simp only [hx, cond_true] at h ⊢; exact hfin hx hs h
    | false =>
      simp only [hx, cond_false] at h ⊢
      cases hfq : fq n ops 0 X with
      | some io =>
        obtain ⟨i, o⟩ := io
        simp only [hfq] at h ⊢
        obtain ⟨j, hj, ho, hx', _, hsub⟩ := fq_spec hfq
        rw [Nat.zero_add] at hj; subst hj
        have hp : ∀ j, (pm o).testBit j = true → X.testBit j = true := fun j hj => sub_t hsub hj
        have hv := hview hs ho (tp_in hd hc _ ho hp)
        have hc' : Cls ops (X ||| 2 ^ i) := cls_add hc ho hp
        exact grd_same (fun t ht hm => (hv t ht (inOps_g hm)).1) (fun kg h => qt_same (fun t ht hm => (hv t ht (inOps_op hm)).1) (fun v h => ih hc' (hput v ho hs) h) h) (fun kg h => ih hc' (hput undef ho hs) h) h
      | none =>
        simp only [hfq] at h ⊢
        refine alls_mono (fun x hx h => ?_) h
        obtain ⟨i, o⟩ := x
        obtain ⟨j, hj, ho, hx', hsub⟩ := sigs_spec hx
        simp only [Nat.zero_add] at hj; subst hj
        have hp : ∀ j, (pm o).testBit j = true → X.testBit j = true := fun j hj => sub_t hsub hj
        have hv := hview hs ho (tp_in hd hc _ ho hp)
        have hc' : Cls ops (X ||| 2 ^ i) := cls_add hc ho hp
        refine grd_same (fun t ht hm => (hv t ht (inOps_g hm)).1) (fun kg h => ?_) (fun kg h => ih hc' (hput undef ho hs) h) h
        refine opw_mono (fun v s' h => again_same (fun h => ih hc' (hput v ho hs) h) (fun {j' p} hj' hjx => ?_) h) (opw_same (m := mop o.op) (fun t ht hm => (hv t ht (inOps_op hm)).1) (fun _ h => h) h)
        rw [Nat.zero_add] at hjx ⊢
        have hs' : Same n (lvDr n ops T m ||| dmask n ops 0 X) (f.put n o.dst v) (g.put n o.dst v) := fun t ht hm => by
          rw [put_apply, put_apply, hs t ht hm]
        refine ⟨fun t ht hm => (hview hs' hj' (tp_in hd hc j' hj' (hc hj' hjx)) t ht (inOps_op hm)).2, ev_dst p fun t ht hdst => hs' t ht (or_t.2 (.inr (dmask_t.2 ⟨j', p, hj', by rw [Nat.zero_add]; exact hjx, bit_t.2 ⟨hdst, ht⟩⟩)))⟩
theorem drK_same (hd : Dok n ops T) {m : Nat} {K : Fr → St → Prop} (hK : Dep n m K) {f g : Fr} {s : St} (hs : Same n (lvDr n ops T m) f g) (h : drK P bd n r ops T m K f s) : drK P bd n r ops T m K g s := by
  have hs0 : Same n (lvDr n ops T m ||| dmask n ops 0 0) f g := fun t ht hm => hs t ht (by
    rcases or_t.1 hm with h | h
    · exact h
    · obtain ⟨_, _, _, h2, _⟩ := dmask_t.1 h; simp at h2)
  have hc0 : Cls ops 0 := fun _ h => by simp at h
  simp only [drK, frc_eq, frcL_eq] at h ⊢
  cases hb : br n ops ops.length 0 with
  | false => simp only [hb, cond_false] at h ⊢; exact cn_same hd hK hs hc0 hs0 h
  | true =>
    simp only [hb, cond_true] at h ⊢
    obtain ⟨A, h1, h2⟩ := h
    refine ⟨A, allC_frame hK (fun i hi hm => ?_) h1, ?_⟩
    · by_cases hdi : (dm n ops).testBit i = true
      · exact .inl (mem_and.2 ⟨hi, hm, hdi⟩)
      · exact .inr (hs i hi (or_t.2 (.inl (kill_t hm (by simpa using hdi)))))
    · refine cn_same (m := m) hd (appC_dep fun i hi => ?_) hs hc0 hs0 h2
      rw [mem_and] at hi; exact ⟨hi.1, hi.2.1⟩
theorem drK_sound (hm : P.follows .mixedOrders = true) (hB : Bodies P bd) (hd : dok n ops T = true) {m id : Nat} {K : Fr → St → Prop} (hK : Dep n m K) {Q : Exit → Act → World → Prop} {f : Fr} {s : St} {arr : Array Value} (hA : Agree n arr f)
    (hQ : ∀ arr' f' s', Agree n arr' f' → But n (dm n ops) f f' → K f' s' → Q .normal ⟨arr', s'.ds⟩ s'.w) (h : drK P bd n r ops T m K f s) : (Code.region id ops.toArray true).wpIn (FW r) 0 P Q ⟨arr, s.ds⟩ s.w := by
  simp only [drK, frc_eq, frcL_eq] at h
  cases hb : br n ops ops.length 0 with
  | false =>
    simp only [hb, cond_false] at h
    exact cn_region hm hB hd (K := fun f' s' => But n (dm n ops) f f' ∧ K f' s') (fun arr f s hA h => hQ arr f s hA h.1 h.2) hA (cn_str (fun f' s' hb h => ⟨hb, h⟩) h)
  | true =>
    simp only [hb, cond_true] at h
    obtain ⟨A, h1, h2⟩ := h
    refine cn_region hm hB hd (K := fun f' s' => But n (dm n ops) f f' ∧ appC _ A f' s') (fun arr' f' s' hA' h => hQ arr' f' s' hA' h.1 ?_) hA (cn_str (fun f' s' hb h => ⟨hb, h⟩) h2)
    refine hK _ _ _ (fun i hi hm => ?_) (allC_app h1 h.2)
    by_cases hdi : (dm n ops).testBit i = true
    · exact setL_mem (mem_and.2 ⟨hi, hm, hdi⟩) _ _
    · rw [setL_not (by simp [mem_and, hdi])]; exact h.1 i hi (by simpa using hdi)
end
structure Kt where
  nrm : Fr → St → Prop
  ret : Fr → St → Prop
  ex : Nat → Fr → St → Prop
structure Lm where
  n : Nat
  r : Nat
  e : Nat → Nat
def cm (n : Nat) : Code → Nat
  | .region _ ops _ => dm n ops.toList
  | .seq a b => cm n a ||| cm n b
  | .cond _ a b => cm n a ||| cm n b
  | .block _ a => cm n a
  | .loop a => cm n a
  | .scope a => cm n a
  | _ => 0
def cnt (i : Nat) : List Nat → Nat
  | [] => 0
  | x :: l => (bif Nat.beq x i then 1 else 0) + cnt i l
def outs (i : Nat) : List Nat → List Nat
  | [] => []
  | x :: l => bif Nat.beq x i then outs i l else x :: outs i l
def wy : Code → Nat × List Nat
  | .seq a b => (bif Nat.beq (wy a).1 0 then 0 else (wy b).1, (wy a).2 ++ (bif Nat.beq (wy a).1 0 then [] else (wy b).2))
  | .cond _ a b => ((wy a).1 + (wy b).1, (wy a).2 ++ (wy b).2)
  | .block id a => ((wy a).1 + cnt id (wy a).2, outs id (wy a).2)
  | .loop a => (0, (wy a).2)
  | .scope a => wy a
  | .rangeFunc _ _ _ b => (1, (wy b).2)
  | .exit id => (0, [id])
  | .ret => (0, [])
  | .goto _ => (0, [])
  | .refuse _ => (0, [])
  | _ => (1, [])
def exm (e : Nat → Nat) : List Nat → Nat
  | [] => 0
  | x :: l => e x ||| exm e l
def lvP (n : Nat) : List Tmp → Nat → Nat
  | [], m => m
  | p :: ps, m => kill (lvP n ps m) (bit n (some p))
def putL (n : Nat) (f : Fr) : List Tmp → List Value → Fr
  | [], _ => f
  | p :: ps, as => putL n (f.put n (some p) (as.headD undef)) ps as.tail
def live (n : Nat) : Code → Lm → Nat
  | .skip, L => L.n
  | .label _, L => L.n
  | .region _ ops false, L => lg n ops.toList (grp ops.toList) L.n
  | .region _ ops true, L => frcL (tps ops.toList []) fun T => bif dok n ops.toList T then lvDr n ops.toList T L.n else 2 ^ n - 1
  | .seq a b, L => live n a { L with n := live n b L }
  | .cond c a b, L => mo c ||| (live n a L ||| live n b L)
  | .block id a, L => live n a { L with e := fun i => bif Nat.beq i id then L.n else L.e i }
  | .loop a, L => live n a { L with n := live n a { L with n := 0 } } ||| live n a { L with n := 0 }
  | .scope a, L => live n a L
  | .rangeFunc g ps a b, L => mo g ||| (L.n ||| (L.r ||| (exm L.e (wy b).2 ||| lvP n ps.toList (live n a ⟨live n b ⟨0, 0, fun _ => 0⟩, 0, fun _ => 0⟩))))
  | .exit id, L => L.e id
  | .ret, L => L.r
  | .goto _, _ => 0
  | .refuse _, _ => 0
def CurN : List Nat → Type
  | [] => St → Nat
  | _ :: l => Value → CurN l
def appN (l : List Nat) (A : CurN l) (f : Fr) (s : St) : Nat :=
  match l, A with
  | [], A => A s
  | t :: l, A => appN l (A (f t)) f s
def allL (l : List Nat) (I : CurTy l) (μ : CurN l) (f : Fr) (k : Nat → Fr → St → Prop) : Prop :=
  match l, I, μ with
  | [], I, μ => ∀ s, I s → k (μ s) f s
  | t :: l, I, μ => ∀ v, allL l (I v) (μ v) (f.set t v) k
def Lp (l : List Nat) (f : Fr) (body : (Fr → St → Prop) → Fr → St → Prop) (s : St) : Prop :=
  ∃ (I : CurTy l) (μ : CurN l), appC l I f s ∧ allL l I μ f (fun m f' s' => body (fun f'' s'' => appC l I f'' s'' ∧ appN l μ f'' s'' < m) f' s')
def CondP (v : Value) (A B : Prop) : Prop := (v = .bool true ∧ A) ∨ (v = .bool false ∧ B)
def Kt.q (n : Nat) (K : Kt) : Exit → Act → World → Prop
  | .normal, a, w => ∃ f, Agree n a.tmps f ∧ K.nrm f ⟨w, a.defers⟩
  | .ret, a, w => ∃ f, Agree n a.tmps f ∧ K.ret f ⟨w, a.defers⟩
  | .exit id, a, w => ∃ f, Agree n a.tmps f ∧ K.ex id f ⟨w, a.defers⟩
  | _, _, _ => False
def Kt.but (n m : Nat) (f : Fr) (K : Kt) : Kt :=
  ⟨fun f' s => But n m f f' ∧ K.nrm f' s, fun f' s => But n m f f' ∧ K.ret f' s, fun i f' s => But n m f f' ∧ K.ex i f' s⟩
def RawP (P : Program) (n : Nat) (r : Option Nat) (c : Code) (K : Kt) (f : Fr) (s : St) : Prop :=
  ∀ arr, Agree n arr f → c.wpIn (FW r) 0 P ((K.but n (cm n c) f).q n) ⟨arr, s.ds⟩ s.w
structure Cy (P : Program) (fv : Value) (args : Array Value) (K : Value → St → Prop) (s : St) : Prop where
  out : ∃ d w1 f as w2, (Deferred.ofValue fv args).run P s.w = .ok d w1 ∧ (invoke d.target d.args).run P w1 = .ok (.enter f as) w2 ∧ Calls P f as w2 fun e w' => ∃ v, e = .returned v ∧ K v ⟨w', s.ds⟩
def Bg (P : Program) (l : Nat) (k : St → Prop) (s : St) : Prop := ∃ w2, (Instr.beginRound l).run P s.w = .ok () w2 ∧ k ⟨w2, s.ds⟩
def Er (P : Program) (l : Nat) (j : Option Code) (R : Value → World → Prop) (s : St) : Prop := ∃ v w', (Instr.endRound l j).run P s.w = .ok v w' ∧ R v w'
def Elp (P : Program) (l : Nat) (kn kr : St → Prop) (kx : Nat → St → Prop) (s : St) : Prop :=
  ∃ j w', (Instr.endLoop l).run P s.w = .ok j w' ∧ (match j with | none => kn ⟨w', s.ds⟩ | some .ret => kr ⟨w', s.ds⟩ | some (.exit i) => kx i ⟨w', s.ds⟩ | some _ => False)
abbrev yv (l : Nat) : Value := .func (.yield l) #[] #[]
abbrev Rnd := Nat → List Value → (Value → World → Prop) → St → Prop
def Yl (P : Program) (rc : Loop) (np : Nat) (rnd : Rnd) : Prop :=
  ∀ (l : Nat) (st : LoopState) (pd : Option Code) (args : List Value) (w : World) (ds : List Deferred) (K : Value → St → Prop), args.length = np → w.heap[l]? = some (.loop { rc with state := st, pending := pd }) →
    rnd l args (fun v w' => K v ⟨w', ds⟩) ⟨w, []⟩ → OpP P (do let d ← Deferred.ofValue (yv l) args.toArray; invoke d.target d.args) K ⟨w, ds⟩
def RfB (P : Program) (r : Option Nat) (np : Nat) (gv : Value) (rnd : Rnd) (kn kr : St → Prop) (kx : Nat → St → Prop) (s : St) : Prop :=
  match r with
  | none => ∀ rc : Loop, rc.state = .ready → rc.pending = none → Yl P rc np rnd →
      Cy P gv #[yv (s.w.heap.size + 1)] (fun _ s' => Elp P (s.w.heap.size + 1) kn kr kx s') ⟨(s.w.alloc (.deferred (some []))).alloc (.loop rc), { target := .collected s.w.heap.size, args := #[] } :: s.ds⟩
  | some l0 => ∃ rc0, s.w.heap[l0]? = some (.loop rc0) ∧ ∀ rc : Loop, rc.state = .ready → rc.pending = none → Yl P rc np rnd →
      Cy P gv #[yv s.w.heap.size] (fun _ s' => Elp P s.w.heap.size kn kr kx s') ⟨s.w.alloc (.loop rc), s.ds⟩
structure Rf (P : Program) (r : Option Nat) (np : Nat) (gv : Value) (rnd : Rnd) (kn kr : St → Prop) (kx : Nat → St → Prop) (s : St) : Prop where out : RfB P r np gv rnd kn kr kx s
def exK (ex : Nat → Fr → St → Prop) (f : Fr) : List Nat → Nat → St → Prop
  | [], _, _ => False
  | x :: l, i, s => bif Nat.beq i x then ex x f s else exK ex f l i s
def rdK (P : Program) (l : Nat) (R : Value → World → Prop) : Kt := ⟨fun _ s => Er P l none R s, fun _ s => Er P l (some .ret) R s, fun i _ s => Er P l (some (.exit i)) R s⟩
def noK (k : Fr → St → Prop) : Kt := ⟨k, fun _ _ => False, fun _ _ _ => False⟩
abbrev L0m : Lm := ⟨0, 0, fun _ => 0⟩
abbrev Lnm (m : Nat) : Lm := ⟨m, 0, fun _ => 0⟩
theorem Cy.mono {P : Program} {fv : Value} {args : Array Value} {K K' : Value → St → Prop} {s : St} (hk : ∀ v s, K v s → K' v s) (h : Cy P fv args K s) : Cy P fv args K' s :=
  let ⟨d, w1, f, as, w2, h1, h2, h3⟩ := h.out
  ⟨d, w1, f, as, w2, h1, h2, h3.mono fun _ _ ⟨v, he, hv⟩ => ⟨v, he, hk _ _ hv⟩⟩
theorem Elp.mono {P : Program} {l : Nat} {kn kr kn' kr' : St → Prop} {kx kx' : Nat → St → Prop} {s : St} (h1 : ∀ s, kn s → kn' s) (h2 : ∀ s, kr s → kr' s) (h3 : ∀ i s, kx i s → kx' i s) (h : Elp P l kn kr kx s) : Elp P l kn' kr' kx' s := by
  obtain ⟨j, w', h0, h⟩ := h
  refine ⟨j, w', h0, ?_⟩
  split at h
  · exact h1 _ h
  · exact h2 _ h
  · exact h3 _ _ h
  · exact h.elim
theorem Yl.mono {P : Program} {rc : Loop} {np : Nat} {rnd rnd' : Rnd} (hr : ∀ l as R s, rnd l as R s → rnd' l as R s) (h : Yl P rc np rnd') : Yl P rc np rnd :=
  fun l st pd args w ds K h1 h2 h3 => h l st pd args w ds K h1 h2 (hr _ _ _ _ h3)
theorem Rf.mono {P : Program} {r : Option Nat} {np : Nat} {gv : Value} {rnd rnd' : Rnd} {kn kr kn' kr' : St → Prop} {kx kx' : Nat → St → Prop} {s : St} (hr : ∀ l as R s, rnd l as R s → rnd' l as R s) (h1 : ∀ s, kn s → kn' s) (h2 : ∀ s, kr s → kr' s) (h3 : ∀ i s, kx i s → kx' i s)
    (h : Rf P r np gv rnd kn kr kx s) : Rf P r np gv rnd' kn' kr' kx' s := by
  cases r with
  | none => exact ⟨fun rc a b c => (h.out rc a b (c.mono hr)).mono fun _ _ => Elp.mono h1 h2 h3⟩
  | some l0 => exact let ⟨rc0, h0, h⟩ := h.out; ⟨⟨rc0, h0, fun rc a b c => (h rc a b (c.mono hr)).mono fun _ _ => Elp.mono h1 h2 h3⟩⟩
theorem exK_mono {ex ex' : Nat → Fr → St → Prop} {f g : Fr} {l : List Nat} (hk : ∀ i ∈ l, ∀ s, ex i f s → ex' i g s) : ∀ i s, exK ex f l i s → exK ex' g l i s := by
  induction l with
  | nil => exact fun _ _ h => h
  | cons x l ih =>
    intro i s h
    simp only [exK] at h ⊢
    cases hx : Nat.beq i x with
    | true => simp only [hx, cond_true] at h ⊢; exact hk x (List.mem_cons_self ..) s h
    | false => simp only [hx, cond_false] at h ⊢; exact ih (fun i hi => hk i (List.mem_cons_of_mem _ hi)) i s h
theorem putL_same {n : Nat} {ps : List Tmp} : ∀ {m : Nat} {f g : Fr} {as : List Value}, Same n (lvP n ps m) f g → Same n m (putL n f ps as) (putL n g ps as) := by
  induction ps with
  | nil => exact fun h => h
  | cons p ps ih => exact fun h => ih (put_same h _)
theorem putL_agree {n : Nat} : ∀ (ps : List Tmp) (args : List Value) {arr : Array Value} {f : Fr}, Agree n arr f → args.length = ps.length → Agree n ((ps.zip args).foldl (fun (tmps : Array Value) (p : Tmp × Value) => tmps.setIfInBounds p.1 p.2) arr) (putL n f ps args) := by
  intro ps
  induction ps with
  | nil => intro args arr f hA h; simpa [putL] using hA
  | cons p ps ih =>
    intro args arr f hA h
    cases args with
    | nil => simp at h
    | cons a args => exact ih args (by simpa [Act.put] using hA.put [] (some p) a) (by simpa using h)
theorem exm_mem {e : Nat → Nat} {l : List Nat} {x i : Nat} (hx : x ∈ l) (h : (e x).testBit i = true) : (exm e l).testBit i = true := by
  induction l with
  | nil => cases hx
  | cons y l ih =>
    simp only [exm, Nat.testBit_or, Bool.or_eq_true]
    cases hx with
    | head => exact .inl h
    | tail _ hx => exact .inr (ih hx)
def wpc (P : Program) (bd n : Nat) : Option Nat → Code → Lm → Kt → Fr → St → Prop
  | r, .skip, _, K, f, s => K.nrm f s
  | r, .label _, _, K, f, s => K.nrm f s
  | r, .region _ ops false, L, K, f, s => wpg P bd n r ops.toList L.n K.nrm (grp ops.toList) f s
  | r, .region id ops true, L, K, f, s => frcL (tps ops.toList []) fun T => bif dok n ops.toList T then drK P bd n r ops.toList T L.n K.nrm f s else RawP P n r (.region id ops true) K f s
  | r, .seq a c, L, K, f, s => frc (live n c L) fun Lb =>
    bif Nat.ble (wy a).1 1 then wpc P bd n r a { L with n := Lb } { K with nrm := wpc P bd n r c L K } f s
    else frcL (bitsOf n (Lb &&& cm n a)) fun sl => Jn sl f (fun J => wpc P bd n r a { L with n := Lb } { K with nrm := J } f s) (wpc P bd n r c L K)
  | r, .cond c a d, L, K, f, s => CondP (f.ev n c) (wpc P bd n r a L K f s) (wpc P bd n r d L K f s)
  | r, .block id a, L, K, f, s =>
    wpc P bd n r a { L with e := fun i => bif Nat.beq i id then L.n else L.e i } { K with ex := fun i f s => bif Nat.beq i id then K.nrm f s else K.ex i f s } f s
  | r, .loop a, L, K, f, s => frc (live n a { L with n := 0 }) fun X =>
    bif sub (live n a { L with n := X }) X then
      frcL (bitsOf n (X &&& cm n a)) fun sl => Lp sl f (fun N f' s' => wpc P bd n r a { L with n := X } { K with nrm := N } f' s') s
    else False
  | r, .scope a, L, K, f, s => wpc P bd n r a L K f s
  | r, .exit id, _, K, f, s => K.ex id f s
  | r, .ret, _, K, f, s => K.ret f s
  | r, .rangeFunc g ps a b, L, K, f, s => frc (live n b L0m) fun Lb =>
    Rf P r ps.size (f.ev n g) (fun l as R s => wpc P bd n (some l) a (Lnm Lb) (noK fun f s => Bg P l (wpc P bd n (some l) b L0m (rdK P l R) f) s) (putL n f ps.toList as) s) (K.nrm f) (K.ret f) (exK K.ex f (wy b).2) s
  | r, .refuse _, _, _, _, _ => False
  | r, .goto _, _, _, _, _ => False
structure KDep (n : Nat) (L : Lm) (K : Kt) : Prop where
  kn : Dep n L.n K.nrm
  kr : Dep n L.r K.ret
  ke : ∀ i, Dep n (L.e i) (K.ex i)
section
variable {P : Program} {bd n : Nat} {r : Option Nat}
structure KImp (n m : Nat) (f : Fr) (K K' : Kt) : Prop where
  kn : ∀ f' s, But n m f f' → K.nrm f' s → K'.nrm f' s
  kr : ∀ f' s, But n m f f' → K.ret f' s → K'.ret f' s
  ke : ∀ i f' s, But n m f f' → K.ex i f' s → K'.ex i f' s
theorem RawP.str {c : Code} {K K' : Kt} {f : Fr} {s : St} (h : RawP P n r c K f s) (hk : KImp n (cm n c) f K K') : RawP P n r c K' f s := by
  intro arr hA
  refine wpIn_mono (h arr hA) ?_
  intro e a w h'
  cases e <;> simp only [Kt.q, Kt.but] at h' ⊢
  case normal => exact let ⟨f, hA, hb, hK⟩ := h'; ⟨f, hA, hb, hk.kn _ _ hb hK⟩
  case ret => exact let ⟨f, hA, hb, hK⟩ := h'; ⟨f, hA, hb, hk.kr _ _ hb hK⟩
  case exit => exact let ⟨f, hA, hb, hK⟩ := h'; ⟨f, hA, hb, hk.ke _ _ _ hb hK⟩
theorem allL_frame {l : List Nat} {m : Nat} : ∀ {I : CurTy l} {μ : CurN l} {f g : Fr} {k : Nat → Fr → St → Prop}, (∀ j f g s, Same n m f g → k j f s → k j g s) → (∀ i, i < n → m.testBit i = true → i ∈ l ∨ f i = g i) → allL l I μ f k → allL l I μ g k := by
  induction l with
  | nil => exact fun hk he h s hs => hk _ _ _ _ (fun i hi hm => (he i hi hm).resolve_left (by simp)) (h s hs)
  | cons t l ih =>
    intro I μ f g k hk he h v
    refine ih hk ?_ (h v)
    intro i hi hm
    by_cases e : i = t
    · subst e; right; rw [Fr.set_same, Fr.set_same]
    · rcases he i hi hm with h1 | h1
      · left; simpa [e] using h1
      · right; rw [Fr.set_ne _ _ e, Fr.set_ne _ _ e, h1]
theorem allL_app {l : List Nat} : ∀ {I : CurTy l} {μ : CurN l} {f g : Fr} {k : Nat → Fr → St → Prop} {s : St}, allL l I μ f k → appC l I g s → k (appN l μ g s) (setL f l g) s := by
  induction l with
  | nil => exact fun h1 h2 => h1 _ h2
  | cons t l ih => exact fun h1 h2 => ih (h1 _) h2
theorem appN_same {l : List Nat} : ∀ {A : CurN l} {f g : Fr} {s : St}, (∀ i ∈ l, f i = g i) → appN l A f s = appN l A g s := by
  induction l with
  | nil => exact fun _ => rfl
  | cons t l ih =>
    intro A f g s he
    simp only [appN]
    rw [he t (List.mem_cons_self ..)]
    exact ih (fun i hi => he i (List.mem_cons_of_mem _ hi))
theorem KImp.sub {m m' : Nat} {f g : Fr} {K K' : Kt} (h : KImp n m f K K') (hb : But n m' f g) (hm : ∀ i, m.testBit i = false → m'.testBit i = false) : KImp n m g K K' :=
  ⟨fun f' s b => h.kn f' s (hb.trans b fun i hi => ⟨hm i hi, hi⟩), fun f' s b => h.kr f' s (hb.trans b fun i hi => ⟨hm i hi, hi⟩), fun j f' s b => h.ke j f' s (hb.trans b fun i hi => ⟨hm i hi, hi⟩)⟩
theorem KImp.less {m m' : Nat} {f : Fr} {K K' : Kt} (h : KImp n m f K K') (hm : ∀ i, m.testBit i = false → m'.testBit i = false) : KImp n m' f K K' :=
  ⟨fun f' s b => h.kn f' s (b.mono hm), fun f' s b => h.kr f' s (b.mono hm), fun j f' s b => h.ke j f' s (b.mono hm)⟩
theorem RawP.same {c : Code} {K : Kt} {f g : Fr} {s : St} (hs : Same n (2 ^ n - 1) f g) (h : RawP P n r c K f s) : RawP P n r c K g s := by
  have hall : ∀ i, i < n → f i = g i := fun i hi => hs i hi (by rw [Nat.testBit_two_pow_sub_one]; simpa using hi)
  intro arr hA
  have hb : ∀ f', But n (cm n c) f f' → But n (cm n c) g f' := fun f' b i hi hm => (hall i hi).symm.trans (b i hi hm)
  refine wpIn_mono (h arr ⟨hA.1, fun t ht => (hA.2 t ht).trans (hall t ht).symm⟩) ?_
  intro e a w h'
  cases e <;> simp only [Kt.q, Kt.but] at h' ⊢
  case normal => exact let ⟨f, hA, hb', hK⟩ := h'; ⟨f, hA, hb _ hb', hK⟩
  case ret => exact let ⟨f, hA, hb', hK⟩ := h'; ⟨f, hA, hb _ hb', hK⟩
  case exit => exact let ⟨f, hA, hb', hK⟩ := h'; ⟨f, hA, hb _ hb', hK⟩
theorem cnt_mem {i : Nat} {l : List Nat} (h : cnt i l ≠ 0) : i ∈ l := by
  induction l with
  | nil => simp [cnt] at h
  | cons x l ih =>
    simp only [cnt] at h
    cases hx : Nat.beq x i with
    | true => have := Nat.eq_of_beq_eq_true hx; subst this; exact List.mem_cons_self ..
    | false => simp only [hx, cond_false, Nat.zero_add] at h; exact List.mem_cons_of_mem _ (ih h)
theorem outs_mem {i x : Nat} {l : List Nat} (h : x ∈ outs i l) : x ∈ l ∧ Nat.beq x i = false := by
  induction l with
  | nil => simp [outs] at h
  | cons y l ih =>
    simp only [outs] at h
    cases hy : Nat.beq y i with
    | true => simp only [hy, cond_true] at h; exact ⟨List.mem_cons_of_mem _ (ih h).1, (ih h).2⟩
    | false =>
      simp only [hy, cond_false] at h
      cases h with
      | head => exact ⟨List.mem_cons_self .., hy⟩
      | tail _ h => exact ⟨List.mem_cons_of_mem _ (ih h).1, (ih h).2⟩
theorem all_bits {i : Nat} (hi : i < n) : (2 ^ n - 1).testBit i = true := by rw [Nat.testBit_two_pow_sub_one]; simpa using hi
theorem live_ge (c : Code) : ∀ {L : Lm} {i : Nat}, i < n → (cm n c).testBit i = false →
    ((wy c).1 ≠ 0 → L.n.testBit i = true → (live n c L).testBit i = true) ∧ (∀ id ∈ (wy c).2, (L.e id).testBit i = true → (live n c L).testBit i = true) := by
  induction c with
  | skip => exact fun _ _ => ⟨fun _ h => h, fun _ h => by simp [wy] at h⟩
  | label l => exact fun _ _ => ⟨fun _ h => h, fun _ h => by simp [wy] at h⟩
  | exit id => exact fun _ _ => ⟨fun h => by simp [wy] at h, fun x hx h => by simp [wy] at hx; subst hx; exact h⟩
  | ret => exact fun _ _ => ⟨fun h => by simp [wy] at h, fun _ h => by simp [wy] at h⟩
  | region id ops d =>
    intro L i hi hm
    cases d with
    | true =>
      refine ⟨fun _ h => ?_, fun _ h => by simp [wy] at h⟩
      simp only [live, frcL_eq]
      cases hd : dok n ops.toList (tps ops.toList []) with
      | true => simp only [cond_true]; exact or_t.2 (.inl (kill_t h hm))
      | false => simp only [cond_false]; exact all_bits hi
    | false => exact ⟨fun _ h => lg_ge h (by rw [flat_grp]; exact hm), fun _ h => by simp [wy] at h⟩
  | seq a b iha ihb =>
    intro L i hi hm
    simp only [cm, or_f] at hm
    have hnz : ∀ {k : Nat}, Nat.beq k 0 = false → k ≠ 0 := fun h e => by subst e; simp at h
    refine ⟨fun hw h => ?_, fun id hid h => ?_⟩
    · simp only [wy] at hw
      cases hz : Nat.beq (wy a).1 0 with
      | true => simp [hz] at hw
      | false =>
        simp only [hz, cond_false] at hw
        exact (iha hi hm.1).1 (hnz hz) ((ihb hi hm.2).1 hw h)
    · simp only [wy, List.mem_append] at hid
      rcases hid with hid | hid
      · exact (iha (L := { L with n := live n b L }) hi hm.1).2 id hid h
      · cases hz : Nat.beq (wy a).1 0 with
        | true => simp [hz] at hid
        | false =>
          simp only [hz, cond_false] at hid
          exact (iha hi hm.1).1 (hnz hz) ((ihb hi hm.2).2 id hid h)
  | cond c a b iha ihb =>
    intro L i hi hm
    simp only [cm, or_f] at hm
    refine ⟨fun hw h => ?_, fun id hid h => ?_⟩
    · simp only [wy] at hw
      by_cases hz : (wy a).1 = 0
      · exact or_t.2 (.inr (or_t.2 (.inr ((ihb hi hm.2).1 (by omega) h))))
      · exact or_t.2 (.inr (or_t.2 (.inl ((iha hi hm.1).1 hz h))))
    · simp only [wy, List.mem_append] at hid
      rcases hid with hid | hid
      · exact or_t.2 (.inr (or_t.2 (.inl ((iha hi hm.1).2 id hid h))))
      · exact or_t.2 (.inr (or_t.2 (.inr ((ihb hi hm.2).2 id hid h))))
  | block id a ih =>
    intro L i hi hm
    refine ⟨fun hw h => ?_, fun x hx h => ?_⟩
    · simp only [wy] at hw
      by_cases hz : (wy a).1 = 0
      · exact (ih (L := { L with e := fun i => bif Nat.beq i id then L.n else L.e i }) hi hm).2 id (cnt_mem (by omega)) (by simpa using h)
      · exact (ih (L := { L with e := fun i => bif Nat.beq i id then L.n else L.e i }) hi hm).1 hz h
    · have := outs_mem hx
      exact (ih (L := { L with e := fun i => bif Nat.beq i id then L.n else L.e i }) hi hm).2 x this.1 (by simpa [this.2] using h)
  | loop a ih =>
    intro L i hi hm
    refine ⟨fun hw => by simp [wy] at hw, fun x hx h => ?_⟩
    exact or_t.2 (.inr ((ih (L := { L with n := 0 }) hi hm).2 x hx h))
  | scope a ih => exact fun hi hm => ih hi hm
  | rangeFunc g ps a b iha ihb => exact fun hi _ => ⟨fun _ h => or_t.2 (.inr (or_t.2 (.inl h))), fun x hx h => or_t.2 (.inr (or_t.2 (.inr (or_t.2 (.inr (or_t.2 (.inl (exm_mem hx h))))))))⟩
  | goto l => exact fun hi _ => ⟨fun hw => by simp [wy] at hw, fun x hx => by simp [wy] at hx⟩
  | refuse w => exact fun hi _ => ⟨fun hw => by simp [wy] at hw, fun x hx => by simp [wy] at hx⟩
theorem ble_f {k : Nat} (h : Nat.ble k 1 = false) : k ≠ 0 := by
  intro e; subst e; simp at h
theorem wpc_same (c : Code) : ∀ {r : Option Nat} {L : Lm} {K : Kt} {f g : Fr} {s : St}, KDep n L K → Same n (live n c L) f g → wpc P bd n r c L K f s → wpc P bd n r c L K g s := by
  induction c with
  | skip => exact fun hk hs h => hk.kn _ _ _ hs h
  | label l => exact fun hk hs h => hk.kn _ _ _ hs h
  | exit id => exact fun hk hs h => hk.ke id _ _ _ hs h
  | ret => exact fun hk hs h => hk.kr _ _ _ hs h
  | region id ops d =>
    intro r L K f g s hk hs h
    cases d with
    | true =>
      simp only [wpc, live, frcL_eq] at h hs ⊢
      cases hd : dok n ops.toList (tps ops.toList []) with
      | true => simp only [hd, cond_true] at h hs ⊢; exact drK_same (Dok.of hd) hk.kn hs h
      | false => simp only [hd, cond_false] at h hs ⊢; exact RawP.same hs h
    | false => exact wpg_same hk.kn hs h
  | seq a b iha ihb =>
    intro r L K f g s hk hs h
    simp only [wpc, frc_eq, frcL_eq] at h ⊢
    simp only [live] at hs
    have hdb : Dep n (live n b L) (wpc P bd n r b L K) := fun f' g' s' hs' h' => ihb hk hs' h'
    cases hw : Nat.ble (wy a).1 1 with
    | true =>
      simp only [hw, cond_true] at h ⊢
      exact iha ⟨hdb, hk.kr, hk.ke⟩ hs h
    | false =>
      simp only [hw, cond_false] at h ⊢
      obtain ⟨A, h1, h2⟩ := h
      refine ⟨A, allC_frame hdb (fun i hi hm => ?_) h1, iha ⟨appC_dep fun i hi => ?_, hk.kr, hk.ke⟩ hs h2⟩
      · by_cases hc : (cm n a).testBit i = true
        · exact .inl (mem_and.2 ⟨hi, hm, hc⟩)
        · exact .inr (hs i hi ((live_ge (n := n) a hi (by simpa using hc)).1 (ble_f hw) hm))
      · rw [mem_and] at hi; exact ⟨hi.1, hi.2.1⟩
  | cond c a b iha ihb =>
    intro r L K f g s hk hs h
    simp only [live] at hs
    have hv : f.ev n c = g.ev n c := ev_same hs c fun i hi => or_t.2 (.inl hi)
    simp only [wpc, CondP, hv] at h ⊢
    rcases h with ⟨e, h⟩ | ⟨e, h⟩
    · exact .inl ⟨e, iha hk (hs.sub fun i hi => or_t.2 (.inr (or_t.2 (.inl hi)))) h⟩
    · exact .inr ⟨e, ihb hk (hs.sub fun i hi => or_t.2 (.inr (or_t.2 (.inr hi)))) h⟩
  | block id a ih =>
    intro r L K f g s hk hs h
    refine ih ⟨hk.kn, hk.kr, fun i => ?_⟩ hs h
    show Dep n (bif Nat.beq i id then L.n else L.e i) (fun f s => bif Nat.beq i id then K.nrm f s else K.ex i f s)
    cases hid : Nat.beq i id with
    | true => simp only [cond_true]; exact hk.kn
    | false => simp only [cond_false]; exact hk.ke i
  | loop a ih =>
    intro r L K f g s hk hs h
    simp only [wpc, frc_eq, frcL_eq] at h ⊢
    cases hsb : sub (live n a { L with n := live n a { L with n := 0 } }) (live n a { L with n := 0 }) with
    | false => simp [hsb] at h
    | true =>
      simp only [hsb, cond_true] at h ⊢
      obtain ⟨I, μ, h1, h2⟩ := h
      have hl : ∀ i ∈ bitsOf n (live n a { L with n := 0 } &&& cm n a), i < n ∧ (live n a { L with n := 0 }).testBit i = true := fun i hi => by
        rw [mem_and] at hi; exact ⟨hi.1, hi.2.1⟩
      refine ⟨I, μ, appC_same (fun i hi => hs i (hl i hi).1 (or_t.2 (.inr (hl i hi).2))) h1, allL_frame (m := live n a { L with n := live n a { L with n := 0 } }) (fun j f' g' s' hs' h' => ih ⟨?_, hk.kr, hk.ke⟩ hs' h') (fun i hi hm => .inr (hs i hi (or_t.2 (.inl hm)))) h2⟩
      intro f1 g1 s1 hs1 h1'
      have e1 : ∀ i ∈ bitsOf n (live n a { L with n := 0 } &&& cm n a), f1 i = g1 i := fun i hi => hs1 i (hl i hi).1 (hl i hi).2
      exact ⟨appC_same e1 h1'.1, by rw [← appN_same e1]; exact h1'.2⟩
  | scope a ih => exact fun hk hs h => ih hk hs h
  | rangeFunc g ps a b iha ihb =>
    intro r L K f g' s hk hs h
    simp only [live] at hs
    simp only [wpc, frc_eq] at h ⊢
    have hv : f.ev n g = g'.ev n g := ev_same hs g fun i hi => or_t.2 (.inl hi)
    rw [← hv]
    refine Rf.mono (fun l as R s h => ?_) (fun s h => hk.kn _ _ _ (hs.sub fun i hi => or_t.2 (.inr (or_t.2 (.inl hi)))) h) (fun s h => hk.kr _ _ _ (hs.sub fun i hi => or_t.2 (.inr (or_t.2 (.inr (or_t.2 (.inl hi)))))) h)
      (exK_mono fun i hi s h => hk.ke i _ _ _ (hs.sub fun j hj => or_t.2 (.inr (or_t.2 (.inr (or_t.2 (.inr (or_t.2 (.inl (exm_mem hi hj))))))))) h) h
    refine iha ⟨fun f1 g1 s1 hs1 h1 => ?_, fun _ _ _ _ h => h, fun _ _ _ _ _ h => h⟩ (putL_same (hs.sub fun i hi => or_t.2 (.inr (or_t.2 (.inr (or_t.2 (.inr (or_t.2 (.inr hi))))))))) h
    exact let ⟨w2, e, hb⟩ := h1; ⟨w2, e, ihb ⟨fun _ _ _ _ h => h, fun _ _ _ _ h => h, fun _ _ _ _ _ h => h⟩ hs1 hb⟩
  | goto l => exact fun hk hs h => h.elim
  | refuse w => exact fun hk hs h => h.elim
theorem wpIn_scope_straight {F : Fence} {k : Nat} {c : Code} {Q : Exit → Act → World → Prop} {a : Act} {w : World} (h : c.wpIn F k P (Exit.noGoto Q) a w) : (Code.scope c).wpIn F k P Q a w := by
  intro b k' cs hro hb hr
  obtain ⟨e, a₁, w₁, hq, harr⟩ := h b (.inScope c :: k') cs hro hb hr
  have h0 : (lone (b.atR a (.code (.scope c) :: k')) cs w).fenced P F := fenced_calm hb hr rfl
  have s0 : step P (lone (b.atR a (.code (.scope c) :: k')) cs w) = .next (lone (b.atR a (.code c :: .inScope c :: k')) cs w) :=
    step_lone_go (by simp [stepG, stepG.exec, Frame.atR])
  cases e with
  | normal => exact ⟨.normal, a₁, w₁, hq, .head h0 s0 (StepsIn.trans harr (.one (fenced_calm hb hr rfl) (step_lone_go (by simp [stepG, stepG.exec, Frame.atR]))))⟩
  | exit id => exact ⟨.exit id, a₁, w₁, hq, fun k'' hk => .head h0 s0 (harr.1 k'' (by simp [exitTo, hk])), fun hr' hk => let ⟨k₁, e1, e2⟩ := harr.2 hr' (by simp [exitTo, hk]); ⟨k₁, e1, .head h0 s0 e2⟩⟩
  | goto l => exact hq.elim
  | ret => exact ⟨_, a₁, w₁, hq, .of_steps (.one h0 s0) harr⟩
  | panic ch => exact ⟨_, a₁, w₁, hq, .of_steps (.one h0 s0) harr⟩
  | outgrown => exact ⟨_, a₁, w₁, hq, .of_steps (.one h0 s0) harr⟩
theorem RawP.sound {c : Code} {K K' : Kt} {f : Fr} {s : St} {arr : Array Value} (h : RawP P n r c K f s) (hk : KImp n (cm n c) f K K') (hA : Agree n arr f) : c.wpIn (FW r) 0 P (K'.q n) ⟨arr, s.ds⟩ s.w := by
  refine wpIn_mono (h arr hA) ?_
  intro e a w h'
  cases e <;> simp only [Kt.q, Kt.but] at h' ⊢
  case normal => exact let ⟨f, hA, hb, hK⟩ := h'; ⟨f, hA, hk.kn _ _ hb hK⟩
  case ret => exact let ⟨f, hA, hb, hK⟩ := h'; ⟨f, hA, hk.kr _ _ hb hK⟩
  case exit => exact let ⟨f, hA, hb, hK⟩ := h'; ⟨f, hA, hk.ke _ _ _ hb hK⟩
theorem run_enterLoop_inner {l0 : Nat} {rc0 : Loop} {w : World} (h : w.heap[l0]? = some (.loop rc0)) (fn : FuncId) (tmps : Array Value) (ps : Array Tmp) (assign body : Code) :
    (Instr.enterLoop fn tmps ps assign body (some l0)).run P w =
      .ok (w.heap.size, []) (w.alloc (.loop { state := .ready, pending := none, fn, tmps, params := ps, assign, body, defers := rc0.defers })) := by
  unfold Instr.enterLoop
  simp only [Sem.run_bind, run_getLoop h, run_newObj_alloc, Result.andThen, Sem.run_pure]
theorem yl_ok {g : Operand} {ps : Array Tmp} {a b : Code} {f : Fr} {arr : Array Value} {bw : Nat → (Value → World → Prop) → Fr → St → Prop} {rnd : Rnd}
    (ha : ∀ (l : Nat) (as : List Value) (R : Value → World → Prop) (s' : St) (arr' : Array Value), rnd l as R s' → Agree n arr' (putL n f ps.toList as) →
      a.wpIn (FW (some l)) 0 P ((noK fun f s => Bg P l (bw l R f) s).q n) ⟨arr', s'.ds⟩ s'.w)
    (hb : ∀ (l : Nat) (R : Value → World → Prop) (f' : Fr) (s' : St) (arr' : Array Value), bw l R f' s' → Agree n arr' f' → b.wpIn (FW (some l)) 0 P ((rdK P l R).q n) ⟨arr', s'.ds⟩ s'.w)
    (hA : Agree n arr f) (rc : Loop) (e1 : rc.tmps = arr) (e2 : rc.params = ps) (e3 : rc.assign = a) (e4 : rc.body = b) : Yl P rc ps.size rnd := by
  intro l st pd args w ds K hl hw hr
  refine ⟨?_⟩
  have hy := run_yield (P := P) hw (args := args.toArray) (by simp [e2, hl])
  have hrun : (do let d ← Deferred.ofValue (yv l) args.toArray; invoke d.target d.args : Sem Next).run P w = (Instr.yield l args.toArray).run P w := by
    simp [Deferred.ofValue, invoke, Sem.run_bind, Sem.run_pure, Result.andThen]
  rw [hrun, hy]
  simp only [NextP]
  have hA2 : Agree n ((rc.params.zip args.toArray).foldl (fun tmps (x : Tmp × Value) => match x with | (t, a) => tmps.setIfInBounds t a) rc.tmps) (putL n f ps.toList args) := by
    have := putL_agree ps.toList args (arr := arr) (f := f) hA (by simpa using hl)
    subst e1 e2
    have e : rc.params.zip args.toArray = (rc.params.toList.zip args).toArray := by
      apply Array.toList_inj.1; simp [Array.toList_zip]
    rw [e]
    simpa using this
  refine roundIn_of_wpIn (F := Fence.wide) trivial ?_
  rw [e3, e4]
  refine wpIn_mono (ha l args (fun v w' => K v ⟨w', ds⟩) ⟨w, []⟩ _ hr hA2) ?_
  intro e a' w' h'
  cases e <;> simp only [Kt.q, noK, Exit.then] at h' ⊢
  case normal =>
    obtain ⟨f', hA', w2, hbr, hbw⟩ := h'
    refine ⟨w2, hbr, ?_⟩
    refine wpIn_mono (hb l _ f' ⟨w2, a'.defers⟩ a'.tmps hbw hA') ?_
    intro e a'' w'' h''
    cases e <;> simp only [Kt.q, rdK, roundPost] at h'' ⊢
    case normal => exact let ⟨_, _, v, w3, h1, h2⟩ := h''; ⟨v, w3, h1, _, rfl, h2⟩
    case ret => exact let ⟨_, _, v, w3, h1, h2⟩ := h''; ⟨v, w3, h1, _, rfl, h2⟩
    case exit => exact let ⟨_, _, v, w3, h1, h2⟩ := h''; ⟨v, w3, h1, _, rfl, h2⟩
  all_goals exact let ⟨_, _, h⟩ := h'; h
theorem rf_sound {g : Operand} {ps : Array Tmp} {a b : Code} {f : Fr} {s : St} {arr : Array Value} {K' : Kt} {bw : Nat → (Value → World → Prop) → Fr → St → Prop} {rnd : Rnd} {xs : List Nat}
    (ha : ∀ (l : Nat) (as : List Value) (R : Value → World → Prop) (s' : St) (arr' : Array Value), rnd l as R s' → Agree n arr' (putL n f ps.toList as) →
      a.wpIn (FW (some l)) 0 P ((noK fun f s => Bg P l (bw l R f) s).q n) ⟨arr', s'.ds⟩ s'.w)
    (hb : ∀ (l : Nat) (R : Value → World → Prop) (f' : Fr) (s' : St) (arr' : Array Value), bw l R f' s' → Agree n arr' f' → b.wpIn (FW (some l)) 0 P ((rdK P l R).q n) ⟨arr', s'.ds⟩ s'.w)
    (hA : Agree n arr f) (h : Rf P r ps.size (f.ev n g) rnd (K'.nrm f) (K'.ret f) (exK K'.ex f xs) s) :
    (Code.rangeFunc g ps a b).wpIn (FW r) 0 P (K'.q n) ⟨arr, s.ds⟩ s.w := by
  have hev : (Act.mk arr s.ds).eval g = f.ev n g := hA.ev _ _
  have hex : ∀ (xs : List Nat) (i : Nat) (s : St), exK K'.ex f xs i s → K'.ex i f s := by
    intro xs
    induction xs with
    | nil => exact fun _ _ h => h.elim
    | cons x xs ih =>
      intro i s h
      simp only [exK] at h
      cases hx : Nat.beq i x with
      | true => have := Nat.eq_of_beq_eq_true hx; subst this; simpa [hx] using h
      | false => simp only [hx, cond_false] at h; exact ih i s h
  have hpost : ∀ (l : Nat) (v : Value) (w : World) (ds : List Deferred), Elp P l (K'.nrm f) (K'.ret f) (exK K'.ex f xs) ⟨w, ds⟩ → rangePost (FW r) 0 P l (K'.q n) ⟨arr, ds⟩ (.returned v) w := by
    rintro l v w ds ⟨j, w', h1, h2⟩
    refine ⟨j, w', h1, ?_⟩
    split at h2
    · exact ⟨f, hA, h2⟩
    · exact wpIn_ret ⟨f, hA, h2⟩
    · exact wpIn_exit ⟨f, hA, hex _ _ _ h2⟩
    · exact h2.elim
  have hres : ∀ (l : Nat) (ds : List Deferred) (w : World), (resolve (Act.mk arr ds).eval (rangeCall g l) 0).run P w = (Deferred.ofValue (f.ev n g) #[yv l]).run P w := by
    intro l ds w
    have : (Act.mk arr ds).eval g = f.ev n g := hA.ev _ _
    show (Deferred.ofValue ((Act.mk arr ds).eval g) _).run P w = _
    rw [this]
    congr 2
    simp [Act.eval]
  refine wpIn_rangeFunc fun fn _ => ?_
  cases r with
  | none =>
    have := h.out { state := .ready, pending := none, fn, tmps := arr, params := ps, assign := a, body := b, defers := s.w.heap.size } rfl rfl (yl_ok (g := g) ha hb hA _ rfl rfl rfl rfl)
    obtain ⟨d, w1, f', as, w2, h1, h2, h3⟩ := this.out
    refine ⟨s.w.heap.size + 1, [{ target := .collected s.w.heap.size, args := #[] }], _, d, w1, f', as, w2, run_enterLoop_outer fn arr ps a b, ?_, fun _ _ => trivial, h2, fun hd => by simp [FW, Fence.wide] at hd, calls_FW (h3.mono ?_)⟩
    · rw [hres]; exact h1
    · rintro e w' ⟨v, rfl, hv⟩
      exact hpost _ _ _ _ hv
  | some l0 =>
    obtain ⟨rc0, h0, h⟩ := h.out
    have := h { state := .ready, pending := none, fn, tmps := arr, params := ps, assign := a, body := b, defers := rc0.defers } rfl rfl (yl_ok (g := g) ha hb hA _ rfl rfl rfl rfl)
    obtain ⟨d, w1, f', as, w2, h1, h2, h3⟩ := this.out
    refine ⟨s.w.heap.size, [], _, d, w1, f', as, w2, run_enterLoop_inner h0 fn arr ps a b, ?_, fun _ _ => trivial, h2, fun hd => by simp [FW, Fence.wide] at hd, calls_FW (h3.mono ?_)⟩
    · rw [hres]; exact h1
    · rintro e w' ⟨v, rfl, hv⟩
      exact hpost _ _ _ _ hv
theorem wpc_sound (hB : Bodies P bd) (c : Code) : ∀ {r : Option Nat} {L : Lm} {K K' : Kt} {f : Fr} {s : St} {arr : Array Value}, KDep n L K → wpc P bd n r c L K f s → KImp n (cm n c) f K K' → Agree n arr f → c.wpIn (FW r) 0 P (K'.q n) ⟨arr, s.ds⟩ s.w := by
  induction c with
  | skip => exact fun _ h hi hA => wpIn_skip ⟨_, hA, hi.kn _ _ (But.refl _ _ _) h⟩
  | label l => exact fun _ h hi hA => wpIn_label ⟨_, hA, hi.kn _ _ (But.refl _ _ _) h⟩
  | exit id => exact fun _ h hi hA => wpIn_exit ⟨_, hA, hi.ke _ _ _ (But.refl _ _ _) h⟩
  | ret => exact fun _ h hi hA => wpIn_ret ⟨_, hA, hi.kr _ _ (But.refl _ _ _) h⟩
  | region id ops d =>
    intro r L K K' f s arr hk h hi hA
    cases d with
    | true =>
      simp only [wpc, frcL_eq] at h
      cases hd : dok n ops.toList (tps ops.toList []) with
      | true =>
        simp only [hd, cond_true] at h
        exact drK_sound (id := id) hB.1 hB hd hk.kn hA (fun arr' f' s' hA' hb hK => ⟨f', hA', hi.kn f' s' hb hK⟩) h
      | false => simp only [hd, cond_false] at h; exact RawP.sound (c := .region id ops true) h hi hA
    | false =>
      refine wpIn_region_list ?_
      have := wpg_sound hB (Q := K'.q n) (ops := ops.toList) hk.kn (grp_guard ops.toList) hA (fun arr' f' s' hA' hb hK => ⟨f', hA', hi.kn f' s' (by rw [flat_grp] at hb; exact hb) hK⟩) h
      rw [flat_grp] at this
      simpa using this
  | seq a b iha ihb =>
    intro r L K K' f s arr hk h hi hA
    simp only [wpc, frc_eq, frcL_eq] at h
    simp only [cm] at hi
    refine wpIn_seq ?_
    have hdb : Dep n (live n b L) (wpc P bd n r b L K) := fun f' g' s' hs' h' => wpc_same b hk hs' h'
    have go : ∀ (J : Fr → St → Prop), Dep n (live n b L) J → wpc P bd n r a { L with n := live n b L } { K with nrm := J } f s → (∀ f' s', But n (cm n a) f f' → J f' s' → wpc P bd n r b L K f' s') →
        a.wpIn (FW r) 0 P (Exit.then (b.wpIn (FW r) 0 P (K'.q n)) (K'.q n)) ⟨arr, s.ds⟩ s.w := by
      intro J hJ ha hJb
      refine wpIn_mono (iha (L := { L with n := live n b L }) (K := { K with nrm := J }) (K' := ⟨fun f' s' => But n (cm n a) f f' ∧ J f' s', fun f' s' => But n (cm n a) f f' ∧ K.ret f' s', fun i f' s' => But n (cm n a) f f' ∧ K.ex i f' s'⟩) ⟨hJ, hk.kr, hk.ke⟩ ha ⟨fun _ _ hb h => ⟨hb, h⟩, fun _ _ hb h => ⟨hb, h⟩, fun _ _ _ hb h => ⟨hb, h⟩⟩ hA) ?_
      intro e a' w' h'
      cases e <;> simp only [Kt.q, Exit.then] at h' ⊢
      case normal =>
        obtain ⟨f', hA', hb, hJf⟩ := h'
        have := ihb (s := ⟨w', a'.defers⟩) hk (hJb f' _ hb hJf) ((hi.sub hb fun i hi => by simp only [or_f] at hi; exact hi.1).less fun i hi => by simp only [or_f] at hi; exact hi.2) hA'
        exact this
      case ret => exact let ⟨f', hA', hb, hK⟩ := h'; ⟨f', hA', hi.kr _ _ (hb.mono fun i hi => by simp only [or_f] at hi; exact hi.1) hK⟩
      case exit => exact let ⟨f', hA', hb, hK⟩ := h'; ⟨f', hA', hi.ke _ _ _ (hb.mono fun i hi => by simp only [or_f] at hi; exact hi.1) hK⟩
    cases hw : Nat.ble (wy a).1 1 with
    | true =>
      simp only [hw, cond_true] at h
      exact go _ hdb h fun _ _ _ h => h
    | false =>
      simp only [hw, cond_false] at h
      obtain ⟨A, h1, h2⟩ := h
      refine go _ (appC_dep fun i hi => by rw [mem_and] at hi; exact ⟨hi.1, hi.2.1⟩) h2 fun f' s' hb ha => ?_
      refine wpc_same b hk (fun i hi hm => ?_) (allC_app h1 ha)
      by_cases hdi : (cm n a).testBit i = true
      · exact setL_mem (mem_and.2 ⟨hi, hm, hdi⟩) _ _
      · rw [setL_not (by simp [mem_and, hdi])]; exact hb i hi (by simpa using hdi)
  | cond c a b iha ihb =>
    intro r L K K' f s arr hk h hi hA
    simp only [cm] at hi
    have hv : (Act.mk arr s.ds).eval c = f.ev n c := hA.ev _ _
    rcases h with ⟨e, h⟩ | ⟨e, h⟩
    · exact wpIn_cond_true (hv.trans e) (iha hk h (hi.less fun i hi => by simp only [or_f] at hi; exact hi.1) hA)
    · exact wpIn_cond_false (hv.trans e) (ihb hk h (hi.less fun i hi => by simp only [or_f] at hi; exact hi.2) hA)
  | block id a ih =>
    intro r L K K' f s arr hk h hi hA
    refine wpIn_block ?_
    refine wpIn_mono (ih (L := { L with e := fun i => bif Nat.beq i id then L.n else L.e i }) (K := { K with ex := fun i f s => bif Nat.beq i id then K.nrm f s else K.ex i f s }) (K' := { K' with ex := fun i f s => bif Nat.beq i id then K'.nrm f s else K'.ex i f s }) ⟨hk.kn, hk.kr, fun i => ?_⟩ h ⟨hi.kn, hi.kr, fun i f' s' hb hK => ?_⟩ hA) ?_
    · show Dep n (bif Nat.beq i id then L.n else L.e i) (fun f s => bif Nat.beq i id then K.nrm f s else K.ex i f s)
      cases hid : Nat.beq i id with
      | true => simp only [cond_true]; exact hk.kn
      | false => simp only [cond_false]; exact hk.ke i
    · cases hid : Nat.beq i id with
      | true => simp only [hid, cond_true] at hK ⊢; exact hi.kn _ _ hb hK
      | false => simp only [hid, cond_false] at hK ⊢; exact hi.ke i _ _ hb hK
    · intro e a' w' h'
      cases e <;> simp only [Kt.q, Exit.inBlock] at h' ⊢
      case exit i =>
        obtain ⟨f', hA', hK⟩ := h'
        by_cases hid : i = id
        · subst hid; simp only [Nat.beq_refl, cond_true] at hK; simp only [if_true]; exact ⟨f', hA', hK⟩
        · simp only [beq_f hid, cond_false] at hK; simp only [hid, if_false]; exact ⟨f', hA', hK⟩
      all_goals exact h'
  | loop a ih =>
    intro r L K K' f s arr hk h hi hA
    simp only [wpc, frc_eq, frcL_eq] at h
    simp only [cm] at hi
    cases hsb : sub (live n a { L with n := live n a { L with n := 0 } }) (live n a { L with n := 0 }) with
    | false => simp [hsb] at h
    | true =>
      simp only [hsb, cond_true] at h
      obtain ⟨I, μ, h1, h2⟩ := h
      have hl : ∀ i ∈ bitsOf n (live n a { L with n := 0 } &&& cm n a), i < n ∧ (live n a { L with n := 0 }).testBit i = true := fun i hi => by
        rw [mem_and] at hi; exact ⟨hi.1, hi.2.1⟩
      refine wpIn_loop (fun a' w' => ∃ f', Agree n a'.tmps f' ∧ But n (cm n a) f f' ∧ appC _ I f' ⟨w', a'.defers⟩) (fun a' w' => appN _ μ (fun t => a'.tmps.getD t undef) ⟨w', a'.defers⟩) ⟨f, hA, But.refl _ _ _, h1⟩ ?_
      rintro a' w' ⟨f', hA', hb', hI⟩
      have hN : ∀ {a'' : Act} {f'' : Fr} {st : St}, Agree n a''.tmps f'' → appN _ μ (fun t => a''.tmps.getD t undef) st = appN _ μ f'' st := fun hA'' => appN_same fun i hi => hA''.2 i (hl i hi).1
      have hbody := allL_app h2 hI
      have hbody' := wpc_same a (L := { L with n := live n a { L with n := 0 } }) (K := { K with nrm := fun f'' s'' => appC _ I f'' s'' ∧ appN _ μ f'' s'' < appN _ μ f' ⟨w', a'.defers⟩ }) (g := f') ⟨?_, hk.kr, hk.ke⟩ (fun i hi hm => ?_) hbody
      · have := ih (s := ⟨w', a'.defers⟩) (L := { L with n := live n a { L with n := 0 } }) (K := { K with nrm := fun f'' s'' => appC _ I f'' s'' ∧ appN _ μ f'' s'' < appN _ μ f' ⟨w', a'.defers⟩ }) (K' := ⟨fun f'' s'' => But n (cm n a) f f'' ∧ appC _ I f'' s'' ∧ appN _ μ f'' s'' < appN _ μ f' ⟨w', a'.defers⟩, K'.ret, K'.ex⟩) ⟨?_, hk.kr, hk.ke⟩ hbody'
          ⟨fun f'' s'' hb hN => ⟨hb'.trans hb fun i hi => ⟨hi, hi⟩, hN⟩, fun f'' s'' hb => hi.kr _ _ (hb'.trans hb fun i hi => ⟨hi, hi⟩), fun i f'' s'' hb => hi.ke _ _ _ (hb'.trans hb fun i hi => ⟨hi, hi⟩)⟩ hA'
        · refine wpIn_mono this ?_
          intro e a'' w'' h'
          cases e <;> simp only [Kt.q, Exit.then] at h' ⊢
          case normal =>
            obtain ⟨f'', hA'', hb'', hI'', hlt⟩ := h'
            exact ⟨⟨f'', hA'', hb'', hI''⟩, by rw [hN hA'', hN hA']; exact hlt⟩
          all_goals exact h'
        · intro f1 g1 s1 hs1 h1'
          have e1 : ∀ i ∈ bitsOf n (live n a { L with n := 0 } &&& cm n a), f1 i = g1 i := fun i hi => hs1 i (hl i hi).1 (hl i hi).2
          exact ⟨appC_same e1 h1'.1, by rw [← appN_same e1]; exact h1'.2⟩
      · intro f1 g1 s1 hs1 h1'
        have e1 : ∀ i ∈ bitsOf n (live n a { L with n := 0 } &&& cm n a), f1 i = g1 i := fun i hi => hs1 i (hl i hi).1 (hl i hi).2
        exact ⟨appC_same e1 h1'.1, by rw [← appN_same e1]; exact h1'.2⟩
      · have hX := sub_t hsb hm
        by_cases hdi : (cm n a).testBit i = true
        · exact setL_mem (mem_and.2 ⟨hi, hX, hdi⟩) _ _
        · rw [setL_not (by simp [mem_and, hdi])]; exact hb' i hi (by simpa using hdi)
  | scope a ih =>
    intro r L K K' f s arr hk h hi hA
    refine wpIn_scope_straight (wpIn_mono (ih hk h hi hA) ?_)
    intro e a' w' h'
    cases e <;> first | exact h' | exact h'.elim
  | rangeFunc g ps a b iha ihb =>
    intro r L K K' f s arr hk h hi hA
    simp only [wpc, frc_eq] at h
    exact rf_sound (rnd := fun l as R s => wpc P bd n (some l) a (Lnm (live n b L0m)) (noK fun f s => Bg P l (wpc P bd n (some l) b L0m (rdK P l R) f) s) (putL n f ps.toList as) s) (f := f) (s := s) (K' := K')
      (fun l as R s' arr' h' hA' => iha (K := noK fun f s => Bg P l (wpc P bd n (some l) b L0m (rdK P l R) f) s) (K' := noK fun f s => Bg P l (wpc P bd n (some l) b L0m (rdK P l R) f) s) ⟨fun f1 g1 s1 hs1 h1 => let ⟨w2, e, hb⟩ := h1; ⟨w2, e, wpc_same b ⟨fun _ _ _ _ h => h, fun _ _ _ _ h => h, fun _ _ _ _ _ h => h⟩ hs1 hb⟩, fun _ _ _ _ h => h, fun _ _ _ _ _ h => h⟩ h' ⟨fun _ _ _ h => h, fun _ _ _ h => h, fun _ _ _ _ h => h⟩ hA')
      (fun l R f' s' arr' h' hA' => ihb (K := rdK P l R) (K' := rdK P l R) ⟨fun _ _ _ _ h => h, fun _ _ _ _ h => h, fun _ _ _ _ _ h => h⟩ h' ⟨fun _ _ _ h => h, fun _ _ _ h => h, fun _ _ _ _ h => h⟩ hA')
      hA (Rf.mono (fun _ _ _ _ h => h) (hi.kn f · (But.refl _ _ _)) (hi.kr f · (But.refl _ _ _)) (exK_mono fun i _ s => hi.ke i f s (But.refl _ _ _)) h)
  | goto l => exact fun _ h hi hA => h.elim
  | refuse w => exact fun _ h hi hA => h.elim
end
section
variable {P : Program} {bd n : Nat}
def leave (P : Program) (k : World → Prop) : List Deferred → World → Prop
  | [], w => k w
  | d :: ds, w => (∃ r w', d.target = .collected r ∧ (Instr.takeDeferred r).run P w = .ok [] w' ∧ leave P k ds w') ∨
    ∃ fv cap g as, d.target = .fn fv cap ∧ (invoke d.target d.args).run P w = .ok (.enter g as) w ∧ CallsDIn (FW none) 0 P g as .returning w fun e u w' => u = .returning ∧ ∃ v, e = .returned v ∧ leave P k ds w'
def Ret (P : Program) (k : World → Prop) (s : St) : Prop := leave P k s.ds s.w
def LdR (P : Program) (t : TypeId) (a : Value) (w : World) (k : Value → Prop) : Prop := ∃ v, (do loadVar t (← asAddr a) : Sem Value).run P w = .ok v w ∧ k v
def tup : List Value → Value
  | [v] => v
  | l => .tuple l.toArray
def resK (P : Program) (n : Nat) (f : Fr) (K : Value → World → Prop) : List ResultVar → List Value → World → Prop
  | [], acc, w => K (tup acc) w
  | .tmp t :: rs, acc, w => resK P n f K rs (acc ++ [f.ev n (.tmp t)]) w
  | .cell a t :: rs, acc, w => LdR P t (f.ev n (.tmp a)) w fun v => resK P n f K rs (acc ++ [v]) w
def resM : List ResultVar → Nat
  | [] => 0
  | .tmp t :: rs => mo (.tmp t) ||| resM rs
  | .cell a _ :: rs => mo (.tmp a) ||| resM rs
def retK (P : Program) (n : Nat) (rs : List ResultVar) (K : Value → World → Prop) (f : Fr) (s : St) : Prop := Ret P (resK P n f K rs []) s
def ktOf (P : Program) (n : Nat) (rs : List ResultVar) (K : Value → World → Prop) : Kt := ⟨retK P n rs K, retK P n rs K, fun _ _ _ => False⟩
def lmOf (rs : List ResultVar) : Lm := ⟨resM rs, resM rs, fun _ => 0⟩
def frOf (args : List Value) : Fr := fun i => match args[i]? with | some v => v | none => undef
theorem resK_same {K : Value → World → Prop} {rs : List ResultVar} : ∀ {acc : List Value} {f g : Fr} {w : World}, Same n (resM rs) f g → resK P n f K rs acc w → resK P n g K rs acc w := by
  induction rs with
  | nil => exact fun _ h => h
  | cons x rs ih =>
    intro acc f g w hs h
    cases x with
    | tmp t =>
      simp only [resM] at hs
      have e : f.ev n (.tmp t) = g.ev n (.tmp t) := ev_same hs _ fun i hi => or_t.2 (.inl hi)
      simp only [resK] at h ⊢
      rw [← e]
      exact ih (hs.sub fun i hi => or_t.2 (.inr hi)) h
    | cell a t =>
      simp only [resM] at hs
      have e : f.ev n (.tmp a) = g.ev n (.tmp a) := ev_same hs _ fun i hi => or_t.2 (.inl hi)
      obtain ⟨v, h1, h2⟩ := h
      exact ⟨v, by rw [← e]; exact h1, ih (hs.sub fun i hi => or_t.2 (.inr hi)) h2⟩
theorem leave_mono {k k' : World → Prop} (hk : ∀ w, k w → k' w) {ds : List Deferred} : ∀ {w : World}, leave P k ds w → leave P k' ds w := by
  induction ds with
  | nil => exact fun h => hk _ h
  | cons d ds ih =>
    rintro w (⟨r, w', h1, h2, h3⟩ | ⟨fv, cap, g, as, h1, h2, h3⟩)
    · exact .inl ⟨r, w', h1, h2, ih h3⟩
    · exact .inr ⟨fv, cap, g, as, h1, h2, h3.mono fun e u w' ⟨hu, v, he, h⟩ => ⟨hu, v, he, ih h⟩⟩
theorem kdep_of {rs : List ResultVar} {K : Value → World → Prop} : KDep n (lmOf rs) (ktOf P n rs K) :=
  ⟨fun _ _ _ hs h => leave_mono (fun _ h => resK_same hs h) h, fun _ _ _ hs h => leave_mono (fun _ h => resK_same hs h) h, fun _ _ _ _ _ h => h⟩
def resOne (tmps : Array Value) : ResultVar → Sem Value
  | .tmp t => pure (tmps.getD t undef)
  | .cell a t => do loadVar t (← asAddr (tmps.getD a undef))
theorem resK_run {K : Value → World → Prop} {arr : Array Value} {f : Fr} {w : World} (hA : Agree n arr f) {rs : List ResultVar} : ∀ {acc : List Value}, resK P n f K rs acc w →
    ∃ vs : List Value, (rs.mapM (resOne arr)).run P w = .ok vs w ∧ K (tup (acc ++ vs)) w := by
  have hev : ∀ t, arr.getD t undef = f.ev n (.tmp t) := fun t => by
    have := hA.ev [] (.tmp t)
    simpa [Act.eval] using this
  induction rs with
  | nil => exact fun h => ⟨[], rfl, by simpa [resK] using h⟩
  | cons x rs ih =>
    intro acc h
    cases x with
    | tmp t =>
      obtain ⟨vs, h1, h2⟩ := ih h
      refine ⟨f.ev n (.tmp t) :: vs, ?_, by simpa using h2⟩
      simp only [List.mapM_cons, resOne, Sem.run_bind, Sem.run_pure, Result.andThen_ok, h1, hev]
    | cell a t =>
      obtain ⟨v, h0, h⟩ := h
      obtain ⟨vs, h1, h2⟩ := ih h
      refine ⟨v :: vs, ?_, by simpa using h2⟩
      rw [List.mapM_cons, Sem.run_bind]
      simp only [resOne, hev, h0, Result.andThen_ok, Sem.run_bind, h1, Sem.run_pure]
theorem results_eq (fn : Func) (tmps : Array Value) : results fn tmps = (do let vs ← fn.results.toList.mapM (resOne tmps); pure (tup vs)) := by
  have hm : fn.results.mapM (resOne tmps) = (do let vs ← fn.results.toList.mapM (resOne tmps); pure vs.toArray) := by
    rw [Array.mapM_eq_mapM_toList]; rfl
  have h0 : results fn tmps = (do let vs ← fn.results.mapM (resOne tmps); pure (if h : vs.size = 1 then vs[0] else .tuple vs)) := rfl
  rw [h0, hm]
  simp only [bind_assoc, pure_bind]
  congr 1
  funext vs
  match vs with
  | [] => rfl
  | [v] => rfl
  | a :: b :: l => simp [tup]
theorem leaves_of {fn : Func} {tmps : Array Value} {K : Value → World → Prop} {R : Ending → World → Prop} (hK : ∀ v w, K v w → R (.returned v) w) {f : Fr} (hA : Agree n tmps f) {ds : List Deferred} :
    ∀ {w : World}, leave P (resK P n f K fn.results.toList []) ds w → LeavesInM (FW none) 0 P fn tmps R ds .returning w := by
  induction ds with
  | nil =>
    intro w h
    obtain ⟨vs, h1, h2⟩ := resK_run hA h
    refine ⟨tup vs, ?_, hK _ _ (by simpa using h2)⟩
    rw [results_eq, Sem.run_bind, h1]
    rfl
  | cons d ds ih =>
    rintro w (⟨r, w', h1, h2, h3⟩ | ⟨fv, cap, g, as, h1, h2, h3⟩)
    · exact ⟨by simp, .inl ⟨r, w', h1, h2, ih h3⟩⟩
    · refine ⟨by simp, .inr ⟨fun hd => by simp [FW, Fence.wide] at hd, fv, cap, g, as, h1, h2, fun _ _ => trivial, h3.mono ?_⟩⟩
      rintro e u w' ⟨rfl, v, rfl, h⟩
      exact ih h
theorem agree_init {args : List Value} (h : args.length ≤ n) : Agree n (args.toArray ++ Array.replicate (n - args.toArray.size) undef) (frOf args) := by
  refine ⟨by simp; omega, fun t ht => ?_⟩
  simp only [frOf, Array.getD_eq_getD_getElem?, Array.getElem?_append, List.size_toArray]
  split
  · rename_i hl; simp [hl]
  · rename_i hl
    have : args[t]? = none := by simp; omega
    rw [this]
    have h2 : t - args.length < n - args.length := by omega
    simp [h2]
theorem calls_of_wpc (hB : Bodies P bd) {g : FuncId} {fn : Func} {c : Code} {args : List Value} {w : World} {K : Value → World → Prop} {R : Ending → World → Prop}
    (hf : P.funcs[g]? = some fn) (hb : fn.body = some c) (hn : Nat.ble args.length fn.ntmps = true)
    (h : wpc P bd fn.ntmps none c (lmOf fn.results.toList) (ktOf P fn.ntmps fn.results.toList K) (frOf args) ⟨w, []⟩) (hK : ∀ v w', K v w' → R (.returned v) w') :
    Calls P g args.toArray w R := by
  refine calls_of_FW (r := none) (k := 0) (callsIn_of_wp_marks hf hb trivial ?_)
  have hA : Agree fn.ntmps (args.toArray ++ Array.replicate (fn.ntmps - args.toArray.size) undef) (frOf args) := agree_init (Nat.le_of_ble_eq_true hn)
  refine wpIn_mono (wpc_sound hB (K' := ktOf P fn.ntmps fn.results.toList K) c kdep_of h ⟨fun _ _ _ h => h, fun _ _ _ h => h, fun _ _ _ _ h => h⟩ hA) ?_
  intro e a w' h'
  cases e <;> simp only [Kt.q, bodyPostM] at h' ⊢
  case normal => exact let ⟨f, hA', h⟩ := h'; leaves_of hK hA' h
  case ret => exact let ⟨f, hA', h⟩ := h'; leaves_of hK hA' h
  case exit => exact let ⟨f, hA', h⟩ := h'; h
end
def RetD (k : World → Prop) (s : St) : Prop := s.ds = [] ∧ k s.w
def ktD (P : Program) (n : Nat) (rs : List ResultVar) (K : Value → World → Prop) : Kt := ⟨fun f s => RetD (resK P n f K rs []) s, fun f s => RetD (resK P n f K rs []) s, fun _ _ _ => False⟩
section
variable {P : Program} {bd : Nat}
theorem callsD_of_wpc (hB : Bodies P bd) {g : FuncId} {fn : Func} {c : Code} {args : List Value} {w : World} {u : FrameMode} {K : Value → World → Prop}
    (hf : P.funcs[g]? = some fn) (hb : fn.body = some c) (hn : Nat.ble args.length fn.ntmps = true)
    (h : wpc P bd fn.ntmps none c (lmOf fn.results.toList) (ktD P fn.ntmps fn.results.toList K) (frOf args) ⟨w, []⟩) :
    CallsDIn (FW none) 0 P g args.toArray u w fun e u' w' => u' = u ∧ ∃ v, e = .returned v ∧ K v w' := by
  refine callsDIn_of_wp hf hb trivial ?_
  have hA : Agree fn.ntmps (args.toArray ++ Array.replicate (fn.ntmps - args.toArray.size) undef) (frOf args) := agree_init (Nat.le_of_ble_eq_true hn)
  have kd : KDep fn.ntmps (lmOf fn.results.toList) (ktD P fn.ntmps fn.results.toList K) := ⟨fun _ _ _ hs h => ⟨h.1, resK_same hs h.2⟩, fun _ _ _ hs h => ⟨h.1, resK_same hs h.2⟩, fun _ _ _ _ _ h => h⟩
  have fin : ∀ {a : Act} {w' : World} {f : Fr}, Agree fn.ntmps a.tmps f → RetD (resK P fn.ntmps f K fn.results.toList []) ⟨w', a.defers⟩ → a.defers = [] ∧ ∃ v, (results fn a.tmps).run P w' = .ok v w' ∧ ∃ v', Ending.returned v = .returned v' ∧ K v' w' := fun {a w' f} hA h => by
    obtain ⟨vs, h1, h2⟩ := resK_run hA h.2
    refine ⟨h.1, tup vs, ?_, _, rfl, by simpa using h2⟩
    rw [results_eq, Sem.run_bind, h1]
    rfl
  refine wpIn_mono (wpc_sound hB (K' := ktD P fn.ntmps fn.results.toList K) c kd h ⟨fun _ _ _ h => h, fun _ _ _ h => h, fun _ _ _ _ h => h⟩ hA) ?_
  intro e a w' h'
  cases e <;> simp only [Kt.q, bodyPost] at h' ⊢
  case normal => exact let ⟨f, hA', h⟩ := h'; fin hA' h
  case ret => exact let ⟨f, hA', h⟩ := h'; fin hA' h
  case exit => exact let ⟨f, hA', h⟩ := h'; h
end
section
variable (P : Program)
def Ut (m : Sem Unit) (K : Value → St → Prop) (s : St) : Prop := OpP P (do m; pure .skip) K s
def Ld (t : TypeId) (a : Value) := Vl P (Instr.loadAt t a)
def Sv (t : TypeId) (a x : Value) := Ut P (Instr.storeAt t a x)
def Al (t : TypeId) := Vl P (Instr.alloc t true (.tuple #[]))
def Bx (t : TypeId) (v : Value) := Vl P (Instr.box t v)
def Bd (t : TypeId) (ps : Array (Nat × Value)) := Vl P (Instr.build t ps)
def Bs (t : TypeId) (n : Nat) (ps : Array (Nat × Value)) := Vl P (Instr.buildSlice t n ps)
def ncS (x : Value) : Sem Next :=
    match x with
    | .pointer none | .nilIface | .nilFunc => runtimePanic .nilDeref
    | .func (.method name) first captured =>
      match (first[0]? : Option Value) with
      | some .nilIface => runtimePanic .nilDeref
      | some (.iface t w) => do
        if (← nilAhead ((← program).types.size + Made.depth) t w name) != some false then
          unsupported (.noEntry "op/nilCheck.the method's receiver behind this interface value is a nil pointer, or cannot be seen to be none, and the arguments act or may panic (ledger 612)")
        pure (.value (.func (.method name) first captured))
      | _ => pure (.value (.func (.method name) first captured))
    | x => pure (.value x)
def Nc (x : Value) := OpP P (ncS x)
def Bo (op : BinOp) (t : TypeId) (cx cy : Bool) (a b : Value) := Vl P (binS op t cx cy a b)
def Uo (op : UnOp) (x : Value) := Vl P (Op.unary op x)
def Cv (src dst : TypeId) (x : Value) := Vl P (convert src dst x)
def Mi (t : TypeId) (x : Value) := Vl P (Instr.makeInterface t x)
def Mf (fn : Fn) (first cap : Array Value) := Vl P (Instr.makeFunc fn first cap)
def Mm (t : TypeId) (r : Option Value) := Vl P (Instr.makeMap t r)
def Ms (t : TypeId) (l c : Value) := Vl P (Instr.makeSlice t l c)
def Sl (t : TypeId) (x : Value) (lo hi mx : Option Value) := Vl P (Instr.sliceAt t x lo hi mx)
def Fa (t : TypeId) (x : Value) (f : Nat) := Vl P (Instr.fieldAt t x f)
def Fd (t : TypeId) (x : Value) (f : Nat) := Vl P (Instr.field t x f)
def Ia (t : TypeId) (x i : Value) := Vl P (Instr.indexAt t x i)
def Ix (t : TypeId) (x i : Value) := Vl P (Instr.index t x i)
def Lk (t : TypeId) (x i : Value) (ok : Bool) := Vl P (Instr.lookup t x i ok)
def Mu (t : TypeId) (m k x : Value) := Ut P (Instr.mapUpdate t m k x)
def Ex (t : Value) (i : Nat) := Vl P (Instr.extract t i)
def Pn (x : Value) := Vl P (Instr.panic x)
def Pk (c a b : Value) := OpP P (do pure (.value (if ← asBool c then a else b)))
def Bi (b : Builtin) (tys : Array TypeId) (ty : TypeId) (cs : Array Bool) (args : Array Value) := OpP P (builtin b tys ty cs args)
def Dy (fv : Value) (args : Array Value) := OpP P (do let d ← Deferred.ofValue fv args; invoke d.target d.args)
end
def Qt (C : (Value → St → Prop) → St → Prop) (s : St) (K : Value → Prop) : Prop := ∃ v, C (fun v' s' => v' = v ∧ s' = s) s ∧ K v
def Ck (C : (Value → St → Prop) → St → Prop) (v : Value) (s : St) : Prop := C (fun v' s' => v' = v ∧ s' = s) s
def J0 (br : (St → Prop) → Prop) (k : St → Prop) : Prop := ∃ A : St → Prop, (∀ s, A s → k s) ∧ br A
def J1 (br : (Value → St → Prop) → Prop) (k : Value → St → Prop) : Prop := ∃ A : Value → St → Prop, (∀ x s, A x s → k x s) ∧ br A
def J2 (br : (Value → Value → St → Prop) → Prop) (k : Value → Value → St → Prop) : Prop := ∃ A : Value → Value → St → Prop, (∀ x y s, A x y s → k x y s) ∧ br A
def J3 (br : (Value → Value → Value → St → Prop) → Prop) (k : Value → Value → Value → St → Prop) : Prop := ∃ A : Value → Value → Value → St → Prop, (∀ x y z s, A x y z s → k x y z s) ∧ br A
def L0 (s : St) (body : (St → Prop) → St → Prop) : Prop := ∃ (I : St → Prop) (μ : St → Nat), I s ∧ ∀ s, I s → body (fun s' => I s' ∧ μ s' < μ s) s
def L1 (x : Value) (s : St) (body : (Value → St → Prop) → Value → St → Prop) : Prop :=
  ∃ (I : Value → St → Prop) (μ : Value → St → Nat), I x s ∧ ∀ x s, I x s → body (fun x' s' => I x' s' ∧ μ x' s' < μ x s) x s
def L2 (x y : Value) (s : St) (body : (Value → Value → St → Prop) → Value → Value → St → Prop) : Prop :=
  ∃ (I : Value → Value → St → Prop) (μ : Value → Value → St → Nat), I x y s ∧ ∀ x y s, I x y s → body (fun x' y' s' => I x' y' s' ∧ μ x' y' s' < μ x y s) x y s
def L4 (x y z u : Value) (s : St) (body : (Value → Value → Value → Value → St → Prop) → Value → Value → Value → Value → St → Prop) : Prop :=
  ∃ (I : Value → Value → Value → Value → St → Prop) (μ : Value → Value → Value → Value → St → Nat), I x y z u s ∧ ∀ x y z u s, I x y z u s → body (fun x' y' z' u' s' => I x' y' z' u' s' ∧ μ x' y' z' u' s' < μ x y z u s) x y z u s
theorem calls_of {P : Program} {bd : Nat} (hB : Bodies P bd) {g : FuncId} {fn : Func} (hf : P.funcs[g]? = some fn) (n : Nat) (rs : List ResultVar) {c : Code} {args : List Value} {w : World} {K : Value → World → Prop} {R : Ending → World → Prop} {D : St → Prop}
    (h1 : (fn.ntmps, fn.results.toList, fn.body) = (n, rs, some c)) (hn : Nat.ble args.length n = true)
    (he : wpc P bd n none c (lmOf rs) (ktOf P n rs K) (frOf args) = D) (h : D ⟨w, []⟩) (hK : ∀ v w', K v w' → R (.returned v) w') : Calls P g args.toArray w R := by
  simp only [Prod.mk.injEq] at h1
  obtain ⟨e1, e2, e3⟩ := h1
  subst e1 e2
  rw [← he] at h
  exact calls_of_wpc hB hf e3 hn h hK
theorem bodies_of {P : Program} {bd : Nat} (n : Nat) (hn : bd < 2 ^ n) (hm : P.follows .mixedOrders = true) (h : (List.range n).all (fun g => !bd.testBit g || hasBody P g) = true) : Bodies P bd := by
  refine ⟨hm, fun g hg => ?_⟩
  have hlt : g < n := by
    rcases Nat.lt_or_ge g n with h' | h'
    · exact h'
    · have := Nat.testBit_lt_two_pow (Nat.lt_of_lt_of_le hn (Nat.pow_le_pow_right (by omega) h'))
      rw [this] at hg; cases hg
  have := List.all_eq_true.1 h g (List.mem_range.2 hlt)
  simpa [hg] using this
abbrev str (l : List UInt8) : Value := .string ⟨l.toArray⟩
abbrev byteV (b : UInt8) : Value := .int .u8 b.toNat
theorem cl_ok {P : Program} {g : FuncId} {args : Array Value} {K : Value → St → Prop} {w : World} {ds : List Deferred} (h : Calls P g args w fun e w' => ∃ v, e = .returned v ∧ K v ⟨w', ds⟩) : Cl P g args K ⟨w, ds⟩ := ⟨h⟩
end Go.Vx

