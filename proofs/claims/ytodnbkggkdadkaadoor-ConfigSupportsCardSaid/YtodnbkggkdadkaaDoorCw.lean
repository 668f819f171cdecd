import Derived.Test.YtodnbkggkdadkaaDoorProg
import Derived.Test.YtodnbkggkdadkaaDoorSw
set_option linter.all false
namespace Go.Proofs.YtodnbkggkdadkaaDoor
open Go.Vx
noncomputable abbrev P := Tryd.prog
def bmask : Nat := 288230496410796028
theorem bodies_ok : Bodies P bmask := bodies_of 59 (by decide +kernel) (by kernel_rfl) (by kernel_rfl)

/-- rollcall/rollcalllaw15.ConfigSupports -/
def D3 (a0 : Value) (K : Value → World → Prop) (s : St) : Prop :=
  Bx P 23 a0 (fun v1 s => Al P 4 (fun v2 s => Cl P 4 #[] (fun v3 s => Uo P .not v3 (fun v4 s => CondP v4 (Sv P 4 v2 (.bool false) (fun _ s => Ret P (fun w => LdR P 4 v2 w fun v5 => K v5 w) s) s) (Al P 25 (fun v6 s => Ld P 23 v1 (fun v7 s => Cl P 5 #[v7] (fun v8 s => Bo P .eql 27 false true v8 (.nilFunc) (fun v9 s => CondP v9 (Sv P 4 v2 (.bool false) (fun _ s => Ret P (fun w => LdR P 4 v2 w fun v10 => K v10 w) s) s) (Rf P none 1 v8 (fun l11 as12 R13 s => Bg P l11 (fun s => Ld P 25 v6 (fun v15 s => Bi P .len #[25] 3 #[false] #[v15] (fun v16 s => Bo P .gtr 3 false true v16 (.int .i64 20) (fun v17 s => CondP v17 (Sv P 4 v2 (.bool false) (fun _ s => Er P l11 (some .ret) R13 s) s) (Ld P 25 v6 (fun v18 s => Bs P 25 1 #[(0, as12.headD undef)] (fun v19 s => Bi P .append #[25, 25] 25 #[false, false] #[v18, v19] (fun v20 s => Sv P 25 v6 v20 (fun _ s => Er P l11 none R13 s) s) s) s) s)) s) s) s) s) (fun s => Dw (fun s => Qt (Ld P 25 v6) s fun v21 => Qt (Ld P 23 v1) s fun v22 => Cl P 7 #[v22] (fun v23 s => Ck (Ld P 25 v6) v21 s ∧ (Cl P 6 #[v21, v23] (fun v24 s => Sv P 4 v2 v24 (fun _ s => Ret P (fun w => LdR P 4 v2 w fun v25 => K v25 w) s) s) s)) s) s) (fun s => Ret P (fun w => LdR P 4 v2 w fun v26 => K v26 w) s) (fun i14 s => False) s)) s) s) s) s)) s) s) s) s
noncomputable def b3 : Code := Tryd.f3.body.getD .skip
theorem e3 (a0 : Value) (K : Value → World → Prop) : wpc P bmask 25 none b3 (lmOf [.cell 2 4]) (ktOf P 25 [.cell 2 4] K) (frOf [a0]) = D3 a0 K := by kernel_rfl
theorem c3 {a0 w : _} {K : Value → World → Prop} {R : Ending → World → Prop} (h : D3 a0 K ⟨w, []⟩) (hK : ∀ v w', K v w' → R (.returned v) w') : Calls P 3 #[a0] w R :=
  calls_of bodies_ok Tryd.func3 25 [.cell 2 4] (c := b3) (args := [a0]) (K := K) (by kernel_rfl) rfl (e3 a0 K) h hK

/-- rollcall/rollcalllaw15.awake -/
def D4 (K : Value → World → Prop) (s : St) : Prop :=
  Cl P 8 #[] (fun v1 s => Al P 23 (fun v2 s => Sv P 23 v2 v1 (fun _ s => Ld P 23 v2 (fun v3 s => Cl P 9 #[v3] (fun v4 s => Bo P .eql 33 false true v4 (.int .i64 0) (fun v5 s => J1 (fun A6 => Grd v5 true (Fa P 23 v2 0 (fun v8 s => Ld P 9 v8 (fun v9 s => Bo P .eql 9 false true v9 (.string ⟨#[105, 114, 99, 46, 101, 120, 97, 109, 112, 108, 101]⟩) (fun v10 s => A6 v10 s) s) s) s) (A6 undef s)) (fun x7 s => Pk P v5 x7 (.bool false) (fun v11 s => J1 (fun A12 => Grd v11 true (Fa P 23 v2 4 (fun v14 s => Ld P 3 v14 (fun v15 s => Bo P .eql 3 false true v15 (.int .i64 100) (fun v16 s => A12 v16 s) s) s) s) (A12 undef s)) (fun x13 s => Pk P v11 x13 (.bool false) (fun v17 s => J1 (fun A18 => Grd v17 true (Fa P 23 v2 5 (fun v20 s => Ld P 3 v20 (fun v21 s => Bo P .eql 3 false true v21 (.int .i64 8192) (fun v22 s => A18 v22 s) s) s) s) (A18 undef s)) (fun x19 s => Pk P v17 x19 (.bool false) (fun v23 s => J1 (fun A24 => Grd v23 true (Fa P 23 v2 6 (fun v26 s => Ld P 3 v26 (fun v27 s => Bo P .eql 3 false true v27 (.int .i64 10) (fun v28 s => A24 v28 s) s) s) s) (A24 undef s)) (fun x25 s => Pk P v23 x25 (.bool false) (fun v29 s => J1 (fun A30 => Grd v29 true (Fa P 23 v2 7 (fun v32 s => Ld P 3 v32 (fun v33 s => Bo P .eql 3 false true v33 (.int .i64 100) (fun v34 s => A30 v34 s) s) s) s) (A30 undef s)) (fun x31 s => Pk P v29 x31 (.bool false) (fun v35 s => J1 (fun A36 => Grd v35 true (Fa P 23 v2 8 (fun v38 s => Ld P 3 v38 (fun v39 s => Bo P .eql 3 false true v39 (.int .i64 20) (fun v40 s => A36 v40 s) s) s) s) (A36 undef s)) (fun x37 s => Pk P v35 x37 (.bool false) (fun v41 s => J1 (fun A42 => Grd v41 true (Fa P 23 v2 9 (fun v44 s => Ld P 3 v44 (fun v45 s => Bo P .eql 3 false true v45 (.int .i64 30) (fun v46 s => A42 v46 s) s) s) s) (A42 undef s)) (fun x43 s => Pk P v41 x43 (.bool false) (fun v47 s => J1 (fun A48 => Grd v47 true (Fa P 23 v2 10 (fun v50 s => Ld P 3 v50 (fun v51 s => Bo P .eql 3 false true v51 (.int .i64 30) (fun v52 s => A48 v52 s) s) s) s) (A48 undef s)) (fun x49 s => Pk P v47 x49 (.bool false) (fun v53 s => J1 (fun A54 => Grd v53 true (Fa P 23 v2 11 (fun v56 s => Ld P 3 v56 (fun v57 s => Bo P .eql 3 false true v57 (.int .i64 50) (fun v58 s => A54 v58 s) s) s) s) (A54 undef s)) (fun x55 s => Pk P v53 x55 (.bool false) (fun v59 s => J1 (fun A60 => Grd v59 true (Fa P 23 v2 12 (fun v62 s => Ld P 3 v62 (fun v63 s => Bo P .eql 3 false true v63 (.int .i64 60) (fun v64 s => A60 v64 s) s) s) s) (A60 undef s)) (fun x61 s => Pk P v59 x61 (.bool false) (fun v65 s => J1 (fun A66 => Grd v65 true (Fa P 23 v2 13 (fun v68 s => Ld P 3 v68 (fun v69 s => Bo P .eql 3 false true v69 (.int .i64 30) (fun v70 s => A66 v70 s) s) s) s) (A66 undef s)) (fun x67 s => Pk P v65 x67 (.bool false) (fun v71 s => J1 (fun A72 => Grd v71 true (Fa P 23 v2 14 (fun v74 s => Ld P 3 v74 (fun v75 s => Bo P .eql 3 false true v75 (.int .i64 20) (fun v76 s => A72 v76 s) s) s) s) (A72 undef s)) (fun x73 s => Pk P v71 x73 (.bool false) (fun v77 s => J1 (fun A78 => Grd v77 true (Fa P 23 v2 1 (fun v80 s => Ld P 9 v80 (fun v81 s => Fa P 23 v2 2 (fun v82 s => Ld P 9 v82 (fun v83 s => Bo P .add 9 false false v81 v83 (fun v84 s => Fa P 23 v2 3 (fun v85 s => Ld P 9 v85 (fun v86 s => Bo P .add 9 false false v84 v86 (fun v87 s => Bo P .eql 9 false true v87 (.string ⟨#[]⟩) (fun v88 s => A78 v88 s) s) s) s) s) s) s) s) s) s) (A78 undef s)) (fun x79 s => Pk P v77 x79 (.bool false) (fun v89 s => Ret P (fun w => K v89 w) s) s)) s)) s)) s)) s)) s)) s)) s)) s)) s)) s)) s)) s)) s) s) s) s) s) s
noncomputable def b4 : Code := Tryd.f4.body.getD .skip
theorem e4 (K : Value → World → Prop) : wpc P bmask 77 none b4 (lmOf [.tmp 0]) (ktOf P 77 [.tmp 0] K) (frOf []) = D4 K := by kernel_rfl
theorem c4 {w : _} {K : Value → World → Prop} {R : Ending → World → Prop} (h : D4 K ⟨w, []⟩) (hK : ∀ v w', K v w' → R (.returned v) w') : Calls P 4 #[] w R :=
  calls_of bodies_ok Tryd.func4 77 [.tmp 0] (c := b4) (args := []) (K := K) (by kernel_rfl) rfl (e4 K) h hK

/-- rollcall/config.Support -/
def D5 (a0 : Value) (K : Value → World → Prop) (s : St) : Prop :=
  Bx P 23 a0 (fun v1 s => Mf P (.func 10) #[] #[v1] (fun v2 s => Ret P (fun w => K v2 w) s) s) s
noncomputable def b5 : Code := Tryd.f5.body.getD .skip
theorem e5 (a0 : Value) (K : Value → World → Prop) : wpc P bmask 4 none b5 (lmOf [.tmp 2]) (ktOf P 4 [.tmp 2] K) (frOf [a0]) = D5 a0 K := by kernel_rfl
theorem c5 {a0 w : _} {K : Value → World → Prop} {R : Ending → World → Prop} (h : D5 a0 K ⟨w, []⟩) (hK : ∀ v w', K v w' → R (.returned v) w') : Calls P 5 #[a0] w R :=
  calls_of bodies_ok Tryd.func5 4 [.tmp 2] (c := b5) (args := [a0]) (K := K) (by kernel_rfl) rfl (e5 a0 K) h hK

/-- rollcall/rollcallref01.Texts -/
def D6 (a0 a1 : Value) (K : Value → World → Prop) (s : St) : Prop :=
  Bi P .len #[25] 3 #[false] #[a0] (fun v1 s => Bi P .len #[25] 3 #[false] #[a1] (fun v2 s => Bo P .neq 3 false false v1 v2 (fun v3 s => CondP v3 (Ret P (fun w => K (.bool false) w) s) (L1 (.int .i64 0) s (fun N4 x5 s => Bi P .len #[25] 3 #[false] #[a0] (fun v6 s => Bo P .lss 3 false false x5 v6 (fun v7 s => CondP v7 (Dw (fun s => Qt (Ia P 25 a0 x5) s fun v8 => Qt (Ld P 9 v8) s fun v9 => Qt (Ia P 25 a1 x5) s fun v10 => Qt (Ld P 9 v10) s fun v11 => Qt (Bo P .neq 9 false false v9 v11) s fun v12 => CondP v12 (Ret P (fun w => K (.bool false) w) s) (Bo P .add 3 false true x5 (.int .i64 1) (fun v13 s => N4 v13 s) s)) s) (Ret P (fun w => K (.bool true) w) s)) s) s))) s) s) s
noncomputable def b6 : Code := Tryd.f6.body.getD .skip
theorem e6 (a0 a1 : Value) (K : Value → World → Prop) : wpc P bmask 26 none b6 (lmOf [.tmp 4]) (ktOf P 26 [.tmp 4] K) (frOf [a0, a1]) = D6 a0 a1 K := by kernel_rfl
theorem c6 {a0 a1 w : _} {K : Value → World → Prop} {R : Ending → World → Prop} (h : D6 a0 a1 K ⟨w, []⟩) (hK : ∀ v w', K v w' → R (.returned v) w') : Calls P 6 #[a0, a1] w R :=
  calls_of bodies_ok Tryd.func6 26 [.tmp 4] (c := b6) (args := [a0, a1]) (K := K) (by kernel_rfl) rfl (e6 a0 a1 K) h hK

/-- rollcall/rollcallref15.Support -/
def D7 (a0 : Value) (K : Value → World → Prop) (s : St) : Prop :=
  Bx P 23 a0 (fun v1 s => Dw (fun s => Qt (Fa P 23 v1 6) s fun v2 => Qt (Ld P 3 v2) s fun v3 => Qt (Fa P 23 v1 8) s fun v4 => Qt (Ld P 3 v4) s fun v5 => Qt (Fa P 23 v1 10) s fun v6 => Qt (Ld P 3 v6) s fun v7 => Qt (Fa P 23 v1 9) s fun v8 => Qt (Ld P 3 v8) s fun v9 => Cl P 12 #[v3] (fun v10 s => Ck (Fa P 23 v1 8) v4 s ∧ Ck (Ld P 3 v4) v5 s ∧ Ck (Fa P 23 v1 10) v6 s ∧ Ck (Ld P 3 v6) v7 s ∧ Ck (Fa P 23 v1 9) v8 s ∧ Ck (Ld P 3 v8) v9 s ∧ (Qt (Bo P .add 9 true false (.string ⟨#[67, 72, 65, 78, 76, 73, 77, 73, 84, 61, 35, 58]⟩) v10) s fun v11 => Cl P 12 #[v5] (fun v12 s => Ck (Bo P .add 9 true false (.string ⟨#[67, 72, 65, 78, 76, 73, 77, 73, 84, 61, 35, 58]⟩) v10) v11 s ∧ Ck (Fa P 23 v1 10) v6 s ∧ Ck (Ld P 3 v6) v7 s ∧ Ck (Fa P 23 v1 9) v8 s ∧ Ck (Ld P 3 v8) v9 s ∧ (Qt (Bo P .add 9 true false (.string ⟨#[77, 65, 88, 76, 73, 83, 84, 61, 98, 58]⟩) v12) s fun v13 => Cl P 12 #[v7] (fun v14 s => Ck (Bo P .add 9 true false (.string ⟨#[67, 72, 65, 78, 76, 73, 77, 73, 84, 61, 35, 58]⟩) v10) v11 s ∧ Ck (Bo P .add 9 true false (.string ⟨#[77, 65, 88, 76, 73, 83, 84, 61, 98, 58]⟩) v12) v13 s ∧ Ck (Fa P 23 v1 9) v8 s ∧ Ck (Ld P 3 v8) v9 s ∧ (Qt (Bo P .add 9 true false (.string ⟨#[77, 79, 78, 73, 84, 79, 82, 61]⟩) v14) s fun v15 => Cl P 12 #[v9] (fun v16 s => Ck (Bo P .add 9 true false (.string ⟨#[67, 72, 65, 78, 76, 73, 77, 73, 84, 61, 35, 58]⟩) v10) v11 s ∧ Ck (Bo P .add 9 true false (.string ⟨#[77, 65, 88, 76, 73, 83, 84, 61, 98, 58]⟩) v12) v13 s ∧ Ck (Bo P .add 9 true false (.string ⟨#[77, 79, 78, 73, 84, 79, 82, 61]⟩) v14) v15 s ∧ (Qt (Bo P .add 9 true false (.string ⟨#[87, 65, 84, 67, 72, 61]⟩) v16) s fun v17 => Bs P 25 13 #[(0, .string ⟨#[67, 65, 83, 69, 77, 65, 80, 80, 73, 78, 71, 61, 114, 102, 99, 49, 52, 53, 57]⟩), (1, .string ⟨#[67, 72, 65, 78, 84, 89, 80, 69, 83, 61, 35]⟩), (2, .string ⟨#[80, 82, 69, 70, 73, 88, 61, 40, 111, 118, 41, 64, 43]⟩), (3, .string ⟨#[67, 72, 65, 78, 77, 79, 68, 69, 83, 61, 98, 44, 107, 44, 108, 44, 105, 109, 110, 115, 116]⟩), (4, .string ⟨#[78, 73, 67, 75, 76, 69, 78, 61, 49, 54]⟩), (5, .string ⟨#[67, 72, 65, 78, 78, 69, 76, 76, 69, 78, 61, 53, 48]⟩), (6, .string ⟨#[77, 79, 68, 69, 83, 61, 52]⟩), (7, .string ⟨#[77, 65, 88, 84, 65, 82, 71, 69, 84, 83, 61, 52]⟩), (8, .string ⟨#[84, 79, 80, 73, 67, 76, 69, 78, 61, 50, 48, 48]⟩), (9, v11), (10, v13), (11, v15), (12, v17)] (fun v18 s => Ret P (fun w => K v18 w) s) s)) s)) s)) s)) s) s) s
noncomputable def b7 : Code := Tryd.f7.body.getD .skip
theorem e7 (a0 : Value) (K : Value → World → Prop) : wpc P bmask 20 none b7 (lmOf [.tmp 2]) (ktOf P 20 [.tmp 2] K) (frOf [a0]) = D7 a0 K := by kernel_rfl
theorem c7 {a0 w : _} {K : Value → World → Prop} {R : Ending → World → Prop} (h : D7 a0 K ⟨w, []⟩) (hK : ∀ v w', K v w' → R (.returned v) w') : Calls P 7 #[a0] w R :=
  calls_of bodies_ok Tryd.func7 20 [.tmp 2] (c := b7) (args := [a0]) (K := K) (by kernel_rfl) rfl (e7 a0 K) h hK

/-- rollcall/config.Usual -/
def D8 (K : Value → World → Prop) (s : St) : Prop :=
  Al P 23 (fun v1 s => Bd P 23 #[(0, .string ⟨#[105, 114, 99, 46, 101, 120, 97, 109, 112, 108, 101]⟩), (4, .int .i64 100), (5, .int .i64 8192), (6, .int .i64 10), (7, .int .i64 100), (8, .int .i64 20), (9, .int .i64 30), (10, .int .i64 30), (11, .int .i64 50), (12, .int .i64 60), (13, .int .i64 30), (14, .int .i64 20)] (fun v2 s => Sv P 23 v1 v2 (fun _ s => Ret P (fun w => LdR P 23 v1 w fun v3 => K v3 w) s) s) s) s
noncomputable def b8 : Code := Tryd.f8.body.getD .skip
theorem e8 (K : Value → World → Prop) : wpc P bmask 2 none b8 (lmOf [.cell 0 23]) (ktOf P 2 [.cell 0 23] K) (frOf []) = D8 K := by kernel_rfl
theorem c8 {w : _} {K : Value → World → Prop} {R : Ending → World → Prop} (h : D8 K ⟨w, []⟩) (hK : ∀ v w', K v w' → R (.returned v) w') : Calls P 8 #[] w R :=
  calls_of bodies_ok Tryd.func8 2 [.cell 0 23] (c := b8) (args := []) (K := K) (by kernel_rfl) rfl (e8 K) h hK

/-- rollcall/config.Check -/
def D9 (a0 : Value) (K : Value → World → Prop) (s : St) : Prop :=
  Bx P 23 a0 (fun v1 s => Fa P 23 v1 0 (fun v2 s => Ld P 9 v2 (fun v3 s => Cl P 13 #[v3] (fun v4 s => Uo P .not v4 (fun v5 s => J1 (fun A6 => Grd v5 false (Fa P 23 v1 1 (fun v8 s => Ld P 9 v8 (fun v9 s => Cl P 14 #[v9] (fun v10 s => Uo P .not v10 (fun v11 s => A6 v11 s) s) s) s) s) (A6 undef s)) (fun x7 s => Pk P v5 (.bool true) x7 (fun v12 s => J1 (fun A13 => Grd v12 false (Fa P 23 v1 2 (fun v15 s => Ld P 9 v15 (fun v16 s => Cl P 14 #[v16] (fun v17 s => Uo P .not v17 (fun v18 s => A13 v18 s) s) s) s) s) (A13 undef s)) (fun x14 s => Pk P v12 (.bool true) x14 (fun v19 s => J1 (fun A20 => Grd v19 false (Fa P 23 v1 3 (fun v22 s => Ld P 9 v22 (fun v23 s => Cl P 14 #[v23] (fun v24 s => Uo P .not v24 (fun v25 s => A20 v25 s) s) s) s) s) (A20 undef s)) (fun x21 s => Pk P v19 (.bool true) x21 (fun v26 s => J1 (fun A27 => Grd v26 false (Fa P 23 v1 2 (fun v29 s => Ld P 9 v29 (fun v30 s => Bo P .eql 9 false true v30 (.string ⟨#[]⟩) (fun v31 s => Fa P 23 v1 3 (fun v32 s => Ld P 9 v32 (fun v33 s => Bo P .eql 9 false true v33 (.string ⟨#[]⟩) (fun v34 s => Bo P .neq 4 false false v31 v34 (fun v35 s => A27 v35 s) s) s) s) s) s) s) s) (A27 undef s)) (fun x28 s => Pk P v26 (.bool true) x28 (fun v36 s => CondP v36 (Ret P (fun w => K (.int .i64 4) w) s) (Fa P 23 v1 4 (fun v37 s => Ld P 3 v37 (fun v38 s => Bd P 38 #[(0, v38), (1, .int .i64 1), (2, .int .i64 1000)] (fun v39 s => Fa P 23 v1 5 (fun v40 s => Ld P 3 v40 (fun v41 s => Bd P 38 #[(0, v41), (1, .int .i64 512), (2, .int .i64 65536)] (fun v42 s => Fa P 23 v1 6 (fun v43 s => Ld P 3 v43 (fun v44 s => Bd P 38 #[(0, v44), (1, .int .i64 1), (2, .int .i64 1000)] (fun v45 s => Fa P 23 v1 7 (fun v46 s => Ld P 3 v46 (fun v47 s => Bd P 38 #[(0, v47), (1, .int .i64 1), (2, .int .i64 1000)] (fun v48 s => Fa P 23 v1 8 (fun v49 s => Ld P 3 v49 (fun v50 s => Bd P 38 #[(0, v50), (1, .int .i64 1), (2, .int .i64 1000)] (fun v51 s => Fa P 23 v1 9 (fun v52 s => Ld P 3 v52 (fun v53 s => Bd P 38 #[(0, v53), (1, .int .i64 1), (2, .int .i64 1000)] (fun v54 s => Fa P 23 v1 10 (fun v55 s => Ld P 3 v55 (fun v56 s => Bd P 38 #[(0, v56), (1, .int .i64 1), (2, .int .i64 1000)] (fun v57 s => Fa P 23 v1 11 (fun v58 s => Ld P 3 v58 (fun v59 s => Bd P 38 #[(0, v59), (1, .int .i64 0), (2, .int .i64 1000)] (fun v60 s => Fa P 23 v1 12 (fun v61 s => Ld P 3 v61 (fun v62 s => Bd P 38 #[(0, v62), (1, .int .i64 1), (2, .int .i64 1000000)] (fun v63 s => Fa P 23 v1 13 (fun v64 s => Ld P 3 v64 (fun v65 s => Bd P 38 #[(0, v65), (1, .int .i64 1), (2, .int .i64 1000000)] (fun v66 s => Fa P 23 v1 14 (fun v67 s => Ld P 3 v67 (fun v68 s => Bd P 38 #[(0, v68), (1, .int .i64 1), (2, .int .i64 1000000)] (fun v69 s => Bs P 39 11 #[(0, v39), (1, v42), (2, v45), (3, v48), (4, v51), (5, v54), (6, v57), (7, v60), (8, v63), (9, v66), (10, v69)] (fun v70 s => Bi P .len #[39] 3 #[false] #[v70] (fun v71 s => L1 (.int .i64 0) s (fun N72 x73 s => Bo P .lss 3 false false x73 v71 (fun v74 s => CondP v74 (Ia P 39 v70 x73 (fun v75 s => Ld P 38 v75 (fun v76 s => Al P 38 (fun v77 s => Sv P 38 v77 v76 (fun _ s => Fa P 38 v77 0 (fun v78 s => Ld P 3 v78 (fun v79 s => Fa P 38 v77 1 (fun v80 s => Ld P 3 v80 (fun v81 s => Bo P .lss 3 false false v79 v81 (fun v82 s => J1 (fun A83 => Grd v82 false (Fa P 38 v77 0 (fun v85 s => Ld P 3 v85 (fun v86 s => Fa P 38 v77 2 (fun v87 s => Ld P 3 v87 (fun v88 s => Bo P .gtr 3 false false v86 v88 (fun v89 s => A83 v89 s) s) s) s) s) s) (A83 undef s)) (fun x84 s => Pk P v82 (.bool true) x84 (fun v90 s => CondP v90 (Ret P (fun w => K (.int .i64 2) w) s) (Bo P .add 3 false true x73 (.int .i64 1) (fun v91 s => N72 v91 s) s)) s)) s) s) s) s) s) s) s) s) s) (Ret P (fun w => K (.int .i64 0) w) s)) s)) s) s) s) s) s) s) s) s) s) s) s) s) s) s) s) s) s) s) s) s) s) s) s) s) s) s) s) s) s) s) s) s) s) s) s)) s)) s)) s)) s)) s) s) s) s) s
noncomputable def b9 : Code := Tryd.f9.body.getD .skip
theorem e9 (a0 : Value) (K : Value → World → Prop) : wpc P bmask 88 none b9 (lmOf [.tmp 2]) (ktOf P 88 [.tmp 2] K) (frOf [a0]) = D9 a0 K := by kernel_rfl
theorem c9 {a0 w : _} {K : Value → World → Prop} {R : Ending → World → Prop} (h : D9 a0 K ⟨w, []⟩) (hK : ∀ v w', K v w' → R (.returned v) w') : Calls P 9 #[a0] w R :=
  calls_of bodies_ok Tryd.func9 88 [.tmp 2] (c := b9) (args := [a0]) (K := K) (by kernel_rfl) rfl (e9 a0 K) h hK

/-- rollcall/config.Support$1 -/
def D10 (a0 a1 : Value) (K : Value → World → Prop) (s : St) : Prop :=
  Dw (fun s => Qt (Fa P 23 a1 6) s fun v1 => Qt (Ld P 3 v1) s fun v2 => Qt (Fa P 23 a1 8) s fun v3 => Qt (Ld P 3 v3) s fun v4 => Qt (Fa P 23 a1 10) s fun v5 => Qt (Ld P 3 v5) s fun v6 => Qt (Fa P 23 a1 9) s fun v7 => Qt (Ld P 3 v7) s fun v8 => Cl P 11 #[.int .i64 16] (fun v9 s => Ck (Fa P 23 a1 6) v1 s ∧ Ck (Ld P 3 v1) v2 s ∧ Ck (Fa P 23 a1 8) v3 s ∧ Ck (Ld P 3 v3) v4 s ∧ Ck (Fa P 23 a1 10) v5 s ∧ Ck (Ld P 3 v5) v6 s ∧ Ck (Fa P 23 a1 9) v7 s ∧ Ck (Ld P 3 v7) v8 s ∧ (Qt (Bo P .add 9 true false (.string ⟨#[78, 73, 67, 75, 76, 69, 78, 61]⟩) v9) s fun v10 => Cl P 11 #[.int .i64 50] (fun v11 s => Ck (Bo P .add 9 true false (.string ⟨#[78, 73, 67, 75, 76, 69, 78, 61]⟩) v9) v10 s ∧ Ck (Fa P 23 a1 6) v1 s ∧ Ck (Ld P 3 v1) v2 s ∧ Ck (Fa P 23 a1 8) v3 s ∧ Ck (Ld P 3 v3) v4 s ∧ Ck (Fa P 23 a1 10) v5 s ∧ Ck (Ld P 3 v5) v6 s ∧ Ck (Fa P 23 a1 9) v7 s ∧ Ck (Ld P 3 v7) v8 s ∧ (Qt (Bo P .add 9 true false (.string ⟨#[67, 72, 65, 78, 78, 69, 76, 76, 69, 78, 61]⟩) v11) s fun v12 => Cl P 11 #[v2] (fun v13 s => Ck (Bo P .add 9 true false (.string ⟨#[78, 73, 67, 75, 76, 69, 78, 61]⟩) v9) v10 s ∧ Ck (Bo P .add 9 true false (.string ⟨#[67, 72, 65, 78, 78, 69, 76, 76, 69, 78, 61]⟩) v11) v12 s ∧ Ck (Fa P 23 a1 8) v3 s ∧ Ck (Ld P 3 v3) v4 s ∧ Ck (Fa P 23 a1 10) v5 s ∧ Ck (Ld P 3 v5) v6 s ∧ Ck (Fa P 23 a1 9) v7 s ∧ Ck (Ld P 3 v7) v8 s ∧ (Qt (Bo P .add 9 true false (.string ⟨#[67, 72, 65, 78, 76, 73, 77, 73, 84, 61, 35, 58]⟩) v13) s fun v14 => Cl P 11 #[v4] (fun v15 s => Ck (Bo P .add 9 true false (.string ⟨#[78, 73, 67, 75, 76, 69, 78, 61]⟩) v9) v10 s ∧ Ck (Bo P .add 9 true false (.string ⟨#[67, 72, 65, 78, 78, 69, 76, 76, 69, 78, 61]⟩) v11) v12 s ∧ Ck (Bo P .add 9 true false (.string ⟨#[67, 72, 65, 78, 76, 73, 77, 73, 84, 61, 35, 58]⟩) v13) v14 s ∧ Ck (Fa P 23 a1 10) v5 s ∧ Ck (Ld P 3 v5) v6 s ∧ Ck (Fa P 23 a1 9) v7 s ∧ Ck (Ld P 3 v7) v8 s ∧ (Qt (Bo P .add 9 true false (.string ⟨#[77, 65, 88, 76, 73, 83, 84, 61, 98, 58]⟩) v15) s fun v16 => Cl P 11 #[v6] (fun v17 s => Ck (Bo P .add 9 true false (.string ⟨#[78, 73, 67, 75, 76, 69, 78, 61]⟩) v9) v10 s ∧ Ck (Bo P .add 9 true false (.string ⟨#[67, 72, 65, 78, 78, 69, 76, 76, 69, 78, 61]⟩) v11) v12 s ∧ Ck (Bo P .add 9 true false (.string ⟨#[67, 72, 65, 78, 76, 73, 77, 73, 84, 61, 35, 58]⟩) v13) v14 s ∧ Ck (Bo P .add 9 true false (.string ⟨#[77, 65, 88, 76, 73, 83, 84, 61, 98, 58]⟩) v15) v16 s ∧ Ck (Fa P 23 a1 9) v7 s ∧ Ck (Ld P 3 v7) v8 s ∧ (Qt (Bo P .add 9 true false (.string ⟨#[77, 79, 78, 73, 84, 79, 82, 61]⟩) v17) s fun v18 => Cl P 11 #[v8] (fun v19 s => Ck (Bo P .add 9 true false (.string ⟨#[78, 73, 67, 75, 76, 69, 78, 61]⟩) v9) v10 s ∧ Ck (Bo P .add 9 true false (.string ⟨#[67, 72, 65, 78, 78, 69, 76, 76, 69, 78, 61]⟩) v11) v12 s ∧ Ck (Bo P .add 9 true false (.string ⟨#[67, 72, 65, 78, 76, 73, 77, 73, 84, 61, 35, 58]⟩) v13) v14 s ∧ Ck (Bo P .add 9 true false (.string ⟨#[77, 65, 88, 76, 73, 83, 84, 61, 98, 58]⟩) v15) v16 s ∧ Ck (Bo P .add 9 true false (.string ⟨#[77, 79, 78, 73, 84, 79, 82, 61]⟩) v17) v18 s ∧ (Qt (Bo P .add 9 true false (.string ⟨#[87, 65, 84, 67, 72, 61]⟩) v19) s fun v20 => Bs P 25 13 #[(0, .string ⟨#[67, 65, 83, 69, 77, 65, 80, 80, 73, 78, 71, 61, 114, 102, 99, 49, 52, 53, 57]⟩), (1, .string ⟨#[67, 72, 65, 78, 84, 89, 80, 69, 83, 61, 35]⟩), (2, .string ⟨#[80, 82, 69, 70, 73, 88, 61, 40, 111, 118, 41, 64, 43]⟩), (3, .string ⟨#[67, 72, 65, 78, 77, 79, 68, 69, 83, 61, 98, 44, 107, 44, 108, 44, 105, 109, 110, 115, 116]⟩), (4, v10), (5, v12), (6, .string ⟨#[77, 79, 68, 69, 83, 61, 52]⟩), (7, .string ⟨#[77, 65, 88, 84, 65, 82, 71, 69, 84, 83, 61, 52]⟩), (8, .string ⟨#[84, 79, 80, 73, 67, 76, 69, 78, 61, 50, 48, 48]⟩), (9, v14), (10, v16), (11, v18), (12, v20)] (fun v21 s => Qt (Bi P .len #[25] 3 #[false] #[v21]) s fun v22 => L1 (.int .i64 0) s (fun N23 x24 s => Bo P .lss 3 false false x24 v22 (fun v25 s => CondP v25 (Ia P 25 v21 x24 (fun v26 s => Ld P 9 v26 (fun v27 s => Dy P a0 #[v27] (fun v28 s => Uo P .not v28 (fun v29 s => CondP v29 (Ret P (fun w => K (.tuple #[]) w) s) (Bo P .add 3 false true x24 (.int .i64 1) (fun v30 s => N23 v30 s) s)) s) s) s) s) (Ret P (fun w => K (.tuple #[]) w) s)) s)) s)) s)) s)) s)) s)) s)) s) s
noncomputable def b10 : Code := Tryd.f10.body.getD .skip
theorem e10 (a0 a1 : Value) (K : Value → World → Prop) : wpc P bmask 36 none b10 (lmOf []) (ktOf P 36 [] K) (frOf [a0, a1]) = D10 a0 a1 K := by kernel_rfl
theorem c10 {a0 a1 w : _} {K : Value → World → Prop} {R : Ending → World → Prop} (h : D10 a0 a1 K ⟨w, []⟩) (hK : ∀ v w', K v w' → R (.returned v) w') : Calls P 10 #[a0, a1] w R :=
  calls_of bodies_ok Tryd.func10 36 [] (c := b10) (args := [a0, a1]) (K := K) (by kernel_rfl) rfl (e10 a0 a1 K) h hK

/-- strconv.Itoa -/
def D11 (a0 : Value) (K : Value → World → Prop) (s : St) : Prop :=
  Cl P 15 #[a0] (fun v1 s => Ret P (fun w => K v1 w) s) s
noncomputable def b11 : Code := Tryd.f11.body.getD .skip
theorem e11 (a0 : Value) (K : Value → World → Prop) : wpc P bmask 5 none b11 (lmOf [.tmp 2]) (ktOf P 5 [.tmp 2] K) (frOf [a0]) = D11 a0 K := by kernel_rfl
theorem c11 {a0 w : _} {K : Value → World → Prop} {R : Ending → World → Prop} (h : D11 a0 K ⟨w, []⟩) (hK : ∀ v w', K v w' → R (.returned v) w') : Calls P 11 #[a0] w R :=
  calls_of bodies_ok Tryd.func11 5 [.tmp 2] (c := b11) (args := [a0]) (K := K) (by kernel_rfl) rfl (e11 a0 K) h hK

/-- rollcall/rollcallref01.Num -/
def D12 (a0 : Value) (K : Value → World → Prop) (s : St) : Prop :=
  Bo P .geq 3 false true a0 (.int .i64 0) (fun v1 s => CondP v1 (Cl P 16 #[a0] (fun v2 s => Ret P (fun w => K v2 w) s) s) (Bo P .gtr 3 false true a0 (.int .i64 (-10)) (fun v3 s => CondP v3 (Uo P .neg a0 (fun v4 s => Cl P 16 #[v4] (fun v5 s => Bo P .add 9 true false (.string ⟨#[45]⟩) v5 (fun v6 s => Ret P (fun w => K v6 w) s) s) s) s) (Bo P .quo 3 false true a0 (.int .i64 10) (fun v7 s => Cl P 12 #[v7] (fun v8 s => Bo P .rem 3 false true a0 (.int .i64 10) (fun v9 s => Uo P .neg v9 (fun v10 s => Cl P 16 #[v10] (fun v11 s => Bo P .add 9 false false v8 v11 (fun v12 s => Ret P (fun w => K v12 w) s) s) s) s) s) s) s)) s)) s
noncomputable def b12 : Code := Tryd.f12.body.getD .skip
theorem e12 (a0 : Value) (K : Value → World → Prop) : wpc P bmask 21 none b12 (lmOf [.tmp 2]) (ktOf P 21 [.tmp 2] K) (frOf [a0]) = D12 a0 K := by kernel_rfl
theorem c12 {a0 w : _} {K : Value → World → Prop} {R : Ending → World → Prop} (h : D12 a0 K ⟨w, []⟩) (hK : ∀ v w', K v w' → R (.returned v) w') : Calls P 12 #[a0] w R :=
  calls_of bodies_ok Tryd.func12 21 [.tmp 2] (c := b12) (args := [a0]) (K := K) (by kernel_rfl) rfl (e12 a0 K) h hK

/-- rollcall/valid.Server -/
def D13 (a0 : Value) (K : Value → World → Prop) (s : St) : Prop :=
  Cl P 17 #[a0] (fun v1 s => J1 (fun A2 => Grd v1 true (Ix P 9 a0 (.int .i64 0) (fun v4 s => Cv P 5 3 v4 (fun v5 s => Cl P 18 #[v5] (fun v6 s => A2 v6 s) s) s) s) (A2 undef s)) (fun x3 s => Pk P v1 x3 (.bool false) (fun v7 s => J1 (fun A8 => Grd v7 true (Cl P 19 #[a0, .int .i64 46] (fun v10 s => A8 v10 s) s) (A8 undef s)) (fun x9 s => Pk P v7 x9 (.bool false) (fun v11 s => J1 (fun A12 => Grd v11 true (Cl P 19 #[a0, .int .i64 58] (fun v14 s => Uo P .not v14 (fun v15 s => A12 v15 s) s) s) (A12 undef s)) (fun x13 s => Pk P v11 x13 (.bool false) (fun v16 s => Ret P (fun w => K v16 w) s) s)) s)) s)) s
noncomputable def b13 : Code := Tryd.f13.body.getD .skip
theorem e13 (a0 : Value) (K : Value → World → Prop) : wpc P bmask 20 none b13 (lmOf [.tmp 2]) (ktOf P 20 [.tmp 2] K) (frOf [a0]) = D13 a0 K := by kernel_rfl
theorem c13 {a0 w : _} {K : Value → World → Prop} {R : Ending → World → Prop} (h : D13 a0 K ⟨w, []⟩) (hK : ∀ v w', K v w' → R (.returned v) w') : Calls P 13 #[a0] w R :=
  calls_of bodies_ok Tryd.func13 20 [.tmp 2] (c := b13) (args := [a0]) (K := K) (by kernel_rfl) rfl (e13 a0 K) h hK

/-- rollcall/config.secret -/
def D14 (a0 : Value) (K : Value → World → Prop) (s : St) : Prop :=
  Bi P .len #[9] 3 #[false] #[a0] (fun v1 s => Bo P .gtr 3 false true v1 (.int .i64 50) (fun v2 s => J1 (fun A3 => Grd v2 false (Bo P .neq 9 false true a0 (.string ⟨#[]⟩) (fun v5 s => A3 v5 s) s) (A3 undef s)) (fun x4 s => J1 (fun A6 => Grd x4 true (Ix P 9 a0 (.int .i64 0) (fun v8 s => Bo P .eql 5 false true v8 (byteV 58) (fun v9 s => A6 v9 s) s) s) (A6 undef s)) (fun x7 s => J1 (fun A10 => Grd v2 false (Pk P x4 x7 (.bool false) (fun v12 s => A10 v12 s) s) (A10 undef s)) (fun x11 s => Pk P v2 (.bool true) x11 (fun v13 s => CondP v13 (Ret P (fun w => K (.bool false) w) s) (Bi P .len #[9] 3 #[false] #[a0] (fun v14 s => L1 (.int .i64 0) s (fun N15 x16 s => Bo P .lss 3 false false x16 v14 (fun v17 s => CondP v17 (Ix P 9 a0 x16 (fun v18 s => Bo P .lss 5 false true v18 (byteV 33) (fun v19 s => J1 (fun A20 => Grd v19 false (Ix P 9 a0 x16 (fun v22 s => Bo P .gtr 5 false true v22 (byteV 126) (fun v23 s => A20 v23 s) s) s) (A20 undef s)) (fun x21 s => Pk P v19 (.bool true) x21 (fun v24 s => CondP v24 (Ret P (fun w => K (.bool false) w) s) (Bo P .add 3 false true x16 (.int .i64 1) (fun v25 s => N15 v25 s) s)) s)) s) s) (Ret P (fun w => K (.bool true) w) s)) s)) s)) s)))) s) s
noncomputable def b14 : Code := Tryd.f14.body.getD .skip
theorem e14 (a0 : Value) (K : Value → World → Prop) : wpc P bmask 32 none b14 (lmOf [.tmp 2]) (ktOf P 32 [.tmp 2] K) (frOf [a0]) = D14 a0 K := by kernel_rfl
theorem c14 {a0 w : _} {K : Value → World → Prop} {R : Ending → World → Prop} (h : D14 a0 K ⟨w, []⟩) (hK : ∀ v w', K v w' → R (.returned v) w') : Calls P 14 #[a0] w R :=
  calls_of bodies_ok Tryd.func14 32 [.tmp 2] (c := b14) (args := [a0]) (K := K) (by kernel_rfl) rfl (e14 a0 K) h hK

/-- internal/strconv.Itoa -/
def D15 (a0 : Value) (K : Value → World → Prop) (s : St) : Prop :=
  Cl P 20 #[a0, .int .i64 10] (fun v1 s => Ret P (fun w => K v1 w) s) s
noncomputable def b15 : Code := Tryd.f15.body.getD .skip
theorem e15 (a0 : Value) (K : Value → World → Prop) : wpc P bmask 5 none b15 (lmOf [.tmp 2]) (ktOf P 5 [.tmp 2] K) (frOf [a0]) = D15 a0 K := by kernel_rfl
theorem c15 {a0 w : _} {K : Value → World → Prop} {R : Ending → World → Prop} (h : D15 a0 K ⟨w, []⟩) (hK : ∀ v w', K v w' → R (.returned v) w') : Calls P 15 #[a0] w R :=
  calls_of bodies_ok Tryd.func15 5 [.tmp 2] (c := b15) (args := [a0]) (K := K) (by kernel_rfl) rfl (e15 a0 K) h hK

/-- rollcall/rollcallref01.Digits -/
def D16 (a0 : Value) (K : Value → World → Prop) (s : St) : Prop :=
  Bo P .lss 3 false true a0 (.int .i64 10) (fun v1 s => CondP v1 (Bo P .add 3 true false (.int .i64 48) a0 (fun v2 s => Cv P 3 5 v2 (fun v3 s => Bs P 43 1 #[(0, v3)] (fun v4 s => Cv P 43 9 v4 (fun v5 s => Ret P (fun w => K v5 w) s) s) s) s) s) (J1 (fun A6 => Dw (fun s => Qt (Bo P .quo 3 false true a0 (.int .i64 10)) s fun v8 => Qt (Bo P .rem 3 false true a0 (.int .i64 10)) s fun v9 => Qt (Bo P .add 3 true false (.int .i64 48) v9) s fun v10 => Qt (Cv P 3 5 v10) s fun v11 => (Cl P 16 #[v8] (fun v12 s => Ck (Bo P .rem 3 false true a0 (.int .i64 10)) v9 s ∧ Ck (Bo P .add 3 true false (.int .i64 48) v9) v10 s ∧ Ck (Cv P 3 5 v10) v11 s ∧ (Bs P 43 1 #[(0, v11)] (fun v13 s => Qt (Cv P 43 9 v13) s fun v14 => Qt (Bo P .add 9 false false v12 v14) s fun v15 => A6 v15 s) s)) s) ∧ (Bs P 43 1 #[(0, v11)] (fun v16 s => Ck (Bo P .quo 3 false true a0 (.int .i64 10)) v8 s ∧ (Qt (Cv P 43 9 v16) s fun v17 => Cl P 16 #[v8] (fun v18 s => Ck (Cv P 43 9 v16) v17 s ∧ (Qt (Bo P .add 9 false false v18 v17) s fun v19 => A6 v19 s)) s)) s)) s) (fun x7 s => Ret P (fun w => K x7 w) s))) s
noncomputable def b16 : Code := Tryd.f16.body.getD .skip
theorem e16 (a0 : Value) (K : Value → World → Prop) : wpc P bmask 20 none b16 (lmOf [.tmp 2]) (ktOf P 20 [.tmp 2] K) (frOf [a0]) = D16 a0 K := by kernel_rfl
theorem c16 {a0 w : _} {K : Value → World → Prop} {R : Ending → World → Prop} (h : D16 a0 K ⟨w, []⟩) (hK : ∀ v w', K v w' → R (.returned v) w') : Calls P 16 #[a0] w R :=
  calls_of bodies_ok Tryd.func16 20 [.tmp 2] (c := b16) (args := [a0]) (K := K) (by kernel_rfl) rfl (e16 a0 K) h hK

/-- rollcall/valid.Host -/
def D17 (a0 : Value) (K : Value → World → Prop) (s : St) : Prop :=
  Cl P 21 #[a0, .int .i64 1, .int .i64 63, .int .u16 16] (fun v1 s => J1 (fun A2 => Grd v1 true (Ix P 9 a0 (.int .i64 0) (fun v4 s => Bo P .neq 5 false true v4 (byteV 58) (fun v5 s => A2 v5 s) s) s) (A2 undef s)) (fun x3 s => Pk P v1 x3 (.bool false) (fun v6 s => Ret P (fun w => K v6 w) s) s)) s
noncomputable def b17 : Code := Tryd.f17.body.getD .skip
theorem e17 (a0 : Value) (K : Value → World → Prop) : wpc P bmask 10 none b17 (lmOf [.tmp 2]) (ktOf P 10 [.tmp 2] K) (frOf [a0]) = D17 a0 K := by kernel_rfl
theorem c17 {a0 w : _} {K : Value → World → Prop} {R : Ending → World → Prop} (h : D17 a0 K ⟨w, []⟩) (hK : ∀ v w', K v w' → R (.returned v) w') : Calls P 17 #[a0] w R :=
  calls_of bodies_ok Tryd.func17 10 [.tmp 2] (c := b17) (args := [a0]) (K := K) (by kernel_rfl) rfl (e17 a0 K) h hK

/-- rollcall/valid.letter -/
def D18 (a0 : Value) (K : Value → World → Prop) (s : St) : Prop :=
  Bo P .geq 3 false true a0 (.int .i64 97) (fun v1 s => J1 (fun A2 => Grd v1 true (Bo P .leq 3 false true a0 (.int .i64 122) (fun v4 s => A2 v4 s) s) (A2 undef s)) (fun x3 s => Pk P v1 x3 (.bool false) (fun v5 s => J1 (fun A6 => Grd v5 false (Bo P .geq 3 false true a0 (.int .i64 65) (fun v8 s => A6 v8 s) s) (A6 undef s)) (fun x7 s => J1 (fun A9 => Grd x7 true (Bo P .leq 3 false true a0 (.int .i64 90) (fun v11 s => A9 v11 s) s) (A9 undef s)) (fun x10 s => J1 (fun A12 => Grd v5 false (Pk P x7 x10 (.bool false) (fun v14 s => A12 v14 s) s) (A12 undef s)) (fun x13 s => Pk P v5 (.bool true) x13 (fun v15 s => Ret P (fun w => K v15 w) s) s)))) s)) s
noncomputable def b18 : Code := Tryd.f18.body.getD .skip
theorem e18 (a0 : Value) (K : Value → World → Prop) : wpc P bmask 17 none b18 (lmOf [.tmp 2]) (ktOf P 17 [.tmp 2] K) (frOf [a0]) = D18 a0 K := by kernel_rfl
theorem c18 {a0 w : _} {K : Value → World → Prop} {R : Ending → World → Prop} (h : D18 a0 K ⟨w, []⟩) (hK : ∀ v w', K v w' → R (.returned v) w') : Calls P 18 #[a0] w R :=
  calls_of bodies_ok Tryd.func18 17 [.tmp 2] (c := b18) (args := [a0]) (K := K) (by kernel_rfl) rfl (e18 a0 K) h hK

/-- rollcall/valid.has -/
def D19 (a0 a1 : Value) (K : Value → World → Prop) (s : St) : Prop :=
  Cv P 3 5 a1 (fun v1 s => Cl P 22 #[a0, v1] (fun v2 s => Bo P .geq 3 false true v2 (.int .i64 0) (fun v3 s => Ret P (fun w => K v3 w) s) s) s) s
noncomputable def b19 : Code := Tryd.f19.body.getD .skip
theorem e19 (a0 a1 : Value) (K : Value → World → Prop) : wpc P bmask 10 none b19 (lmOf [.tmp 4]) (ktOf P 10 [.tmp 4] K) (frOf [a0, a1]) = D19 a0 a1 K := by kernel_rfl
theorem c19 {a0 a1 w : _} {K : Value → World → Prop} {R : Ending → World → Prop} (h : D19 a0 a1 K ⟨w, []⟩) (hK : ∀ v w', K v w' → R (.returned v) w') : Calls P 19 #[a0, a1] w R :=
  calls_of bodies_ok Tryd.func19 10 [.tmp 4] (c := b19) (args := [a0, a1]) (K := K) (by kernel_rfl) rfl (e19 a0 a1 K) h hK

/-- rollcall/valid.all -/
def D21 (a0 a1 a2 a3 : Value) (K : Value → World → Prop) (s : St) : Prop :=
  Bi P .len #[9] 3 #[false] #[a0] (fun v1 s => Bo P .lss 3 false false v1 a1 (fun v2 s => J1 (fun A3 => Grd v2 false (Bi P .len #[9] 3 #[false] #[a0] (fun v5 s => Bo P .gtr 3 false false v5 a2 (fun v6 s => A3 v6 s) s) s) (A3 undef s)) (fun x4 s => Pk P v2 (.bool true) x4 (fun v7 s => CondP v7 (Ret P (fun w => K (.bool false) w) s) (Cl P 27 #[] (fun v8 s => Al P 54 (fun v9 s => Sv P 54 v9 v8 (fun _ s => Bi P .len #[9] 3 #[false] #[a0] (fun v10 s => L1 (.int .i64 0) s (fun N11 x12 s => Bo P .lss 3 false false x12 v10 (fun v13 s => CondP v13 (Ix P 9 a0 x12 (fun v14 s => Ia P 54 v9 v14 (fun v15 s => Ld P 46 v15 (fun v16 s => Bo P .and 46 false false v16 a3 (fun v17 s => Bo P .eql 46 false true v17 (.int .u16 0) (fun v18 s => CondP v18 (Ret P (fun w => K (.bool false) w) s) (Bo P .add 3 false true x12 (.int .i64 1) (fun v19 s => N11 v19 s) s)) s) s) s) s) s) (Ret P (fun w => K (.bool true) w) s)) s)) s) s) s) s)) s)) s) s
noncomputable def b21 : Code := Tryd.f21.body.getD .skip
theorem e21 (a0 a1 a2 a3 : Value) (K : Value → World → Prop) : wpc P bmask 36 none b21 (lmOf [.tmp 8]) (ktOf P 36 [.tmp 8] K) (frOf [a0, a1, a2, a3]) = D21 a0 a1 a2 a3 K := by kernel_rfl
theorem c21 {a0 a1 a2 a3 w : _} {K : Value → World → Prop} {R : Ending → World → Prop} (h : D21 a0 a1 a2 a3 K ⟨w, []⟩) (hK : ∀ v w', K v w' → R (.returned v) w') : Calls P 21 #[a0, a1, a2, a3] w R :=
  calls_of bodies_ok Tryd.func21 36 [.tmp 8] (c := b21) (args := [a0, a1, a2, a3]) (K := K) (by kernel_rfl) rfl (e21 a0 a1 a2 a3 K) h hK

/-- strings.IndexByte -/
def D22 (a0 a1 : Value) (K : Value → World → Prop) (s : St) : Prop :=
  Cl P 28 #[a0, a1] (fun v1 s => Ret P (fun w => K v1 w) s) s
noncomputable def b22 : Code := Tryd.f22.body.getD .skip
theorem e22 (a0 a1 : Value) (K : Value → World → Prop) : wpc P bmask 8 none b22 (lmOf [.tmp 4]) (ktOf P 8 [.tmp 4] K) (frOf [a0, a1]) = D22 a0 a1 K := by kernel_rfl
theorem c22 {a0 a1 w : _} {K : Value → World → Prop} {R : Ending → World → Prop} (h : D22 a0 a1 K ⟨w, []⟩) (hK : ∀ v w', K v w' → R (.returned v) w') : Calls P 22 #[a0, a1] w R :=
  calls_of bodies_ok Tryd.func22 8 [.tmp 4] (c := b22) (args := [a0, a1]) (K := K) (by kernel_rfl) rfl (e22 a0 a1 K) h hK

/-- rollcall/valid.kinds -/
def D27 (K : Value → World → Prop) (s : St) : Prop :=
  Al P 54 (fun v1 s => Al P 54 (fun v2 s => L1 (.int .i64 0) s (fun N3 x4 s => Bo P .lss 3 false true x4 (.int .i64 256) (fun v5 s => CondP v5 (J0 (fun A6 => Bo P .geq 3 false true x4 (.int .i64 48) (fun v7 s => J1 (fun A8 => Grd v7 true (Bo P .leq 3 false true x4 (.int .i64 57) (fun v10 s => A8 v10 s) s) (A8 undef s)) (fun x9 s => Pk P v7 x9 (.bool false) (fun v11 s => Bo P .geq 3 false true x4 (.int .i64 33) (fun v12 s => J1 (fun A13 => Grd v12 true (Bo P .leq 3 false true x4 (.int .i64 126) (fun v15 s => A13 v15 s) s) (A13 undef s)) (fun x14 s => Pk P v12 x14 (.bool false) (fun v16 s => J0 (fun A17 => Cl P 18 #[x4] (fun v18 s => J1 (fun A19 => Grd v18 false (Cl P 19 #[.string ⟨#[91, 93, 92, 95, 94, 123, 124, 125, 96]⟩, x4] (fun v21 s => A19 v21 s) s) (A19 undef s)) (fun x20 s => Pk P v18 (.bool true) x20 (fun v22 s => CondP v22 (Ia P 54 v2 x4 (fun v23 s => Ld P 46 v23 (fun v24 s => Bo P .or 46 false true v24 (.int .u16 3) (fun v25 s => Ia P 54 v2 x4 (fun v26 s => Sv P 46 v26 v25 (fun _ s => A17 s) s) s) s) s) s) (A17 s)) s)) s) (fun s => J0 (fun A27 => J1 (fun A28 => Grd v11 false (Bo P .eql 3 false true x4 (.int .i64 45) (fun v30 s => A28 v30 s) s) (A28 undef s)) (fun x29 s => Pk P v11 (.bool true) x29 (fun v31 s => CondP v31 (Ia P 54 v2 x4 (fun v32 s => Ld P 46 v32 (fun v33 s => Bo P .or 46 false true v33 (.int .u16 2) (fun v34 s => Ia P 54 v2 x4 (fun v35 s => Sv P 46 v35 v34 (fun _ s => A27 s) s) s) s) s) s) (A27 s)) s)) (fun s => J0 (fun A36 => Cl P 19 #[.string ⟨#[0, 7, 10, 13, 32, 44, 58]⟩, x4] (fun v37 s => Uo P .not v37 (fun v38 s => CondP v38 (Ia P 54 v2 x4 (fun v39 s => Ld P 46 v39 (fun v40 s => Bo P .or 46 false true v40 (.int .u16 4) (fun v41 s => Ia P 54 v2 x4 (fun v42 s => Sv P 46 v42 v41 (fun _ s => A36 s) s) s) s) s) s) (A36 s)) s) s) (fun s => J0 (fun A43 => J1 (fun A44 => Grd v16 true (Cl P 19 #[.string ⟨#[33, 64, 42, 63, 58]⟩, x4] (fun v46 s => Uo P .not v46 (fun v47 s => A44 v47 s) s) s) (A44 undef s)) (fun x45 s => Pk P v16 x45 (.bool false) (fun v48 s => CondP v48 (Ia P 54 v2 x4 (fun v49 s => Ld P 46 v49 (fun v50 s => Bo P .or 46 false true v50 (.int .u16 8) (fun v51 s => Ia P 54 v2 x4 (fun v52 s => Sv P 46 v52 v51 (fun _ s => A43 s) s) s) s) s) s) (A43 s)) s)) (fun s => J0 (fun A53 => Cl P 18 #[x4] (fun v54 s => J1 (fun A55 => Grd v54 false (A55 v11 s) (A55 undef s)) (fun x56 s => Pk P v54 (.bool true) x56 (fun v57 s => J1 (fun A58 => Grd v57 false (Cl P 19 #[.string ⟨#[46, 45, 58]⟩, x4] (fun v60 s => A58 v60 s) s) (A58 undef s)) (fun x59 s => Pk P v57 (.bool true) x59 (fun v61 s => CondP v61 (Ia P 54 v2 x4 (fun v62 s => Ld P 46 v62 (fun v63 s => Bo P .or 46 false true v63 (.int .u16 16) (fun v64 s => Ia P 54 v2 x4 (fun v65 s => Sv P 46 v65 v64 (fun _ s => A53 s) s) s) s) s) s) (A53 s)) s)) s)) s) (fun s => J0 (fun A66 => J1 (fun A67 => Grd v16 true (Bo P .neq 3 false true x4 (.int .i64 44) (fun v69 s => A67 v69 s) s) (A67 undef s)) (fun x68 s => Pk P v16 x68 (.bool false) (fun v70 s => CondP v70 (Ia P 54 v2 x4 (fun v71 s => Ld P 46 v71 (fun v72 s => Bo P .or 46 false true v72 (.int .u16 32) (fun v73 s => Ia P 54 v2 x4 (fun v74 s => Sv P 46 v74 v73 (fun _ s => A66 s) s) s) s) s) s) (A66 s)) s)) (fun s => Cl P 19 #[.string ⟨#[0, 10, 13]⟩, x4] (fun v75 s => Uo P .not v75 (fun v76 s => CondP v76 (Ia P 54 v2 x4 (fun v77 s => Ld P 46 v77 (fun v78 s => Bo P .or 46 false true v78 (.int .u16 64) (fun v79 s => Ia P 54 v2 x4 (fun v80 s => Sv P 46 v80 v79 (fun _ s => A6 s) s) s) s) s) s) (A6 s)) s) s))))))) s)) s) s)) s) (fun s => Bo P .add 3 false true x4 (.int .i64 1) (fun v81 s => N3 v81 s) s)) (Ld P 54 v2 (fun v82 s => Sv P 54 v1 v82 (fun _ s => Ret P (fun w => LdR P 54 v1 w fun v83 => K v83 w) s) s) s)) s)) s) s
noncomputable def b27 : Code := Tryd.f27.body.getD .skip
theorem e27 (K : Value → World → Prop) : wpc P bmask 94 none b27 (lmOf [.cell 0 54]) (ktOf P 94 [.cell 0 54] K) (frOf []) = D27 K := by kernel_rfl
theorem c27 {w : _} {K : Value → World → Prop} {R : Ending → World → Prop} (h : D27 K ⟨w, []⟩) (hK : ∀ v w', K v w' → R (.returned v) w') : Calls P 27 #[] w R :=
  calls_of bodies_ok Tryd.func27 94 [.cell 0 54] (c := b27) (args := []) (K := K) (by kernel_rfl) rfl (e27 K) h hK

/-- internal/stringslite.IndexByte -/
def D28 (a0 a1 : Value) (K : Value → World → Prop) (s : St) : Prop :=
  Dy P (.func (.func 34) #[] #[]) #[a0, a1] (fun v1 s => Ret P (fun w => K v1 w) s) s
noncomputable def b28 : Code := Tryd.f28.body.getD .skip
theorem e28 (a0 a1 : Value) (K : Value → World → Prop) : wpc P bmask 8 none b28 (lmOf [.tmp 4]) (ktOf P 8 [.tmp 4] K) (frOf [a0, a1]) = D28 a0 a1 K := by kernel_rfl
theorem c28 {a0 a1 w : _} {K : Value → World → Prop} {R : Ending → World → Prop} (h : D28 a0 a1 K ⟨w, []⟩) (hK : ∀ v w', K v w' → R (.returned v) w') : Calls P 28 #[a0, a1] w R :=
  calls_of bodies_ok Tryd.func28 8 [.tmp 4] (c := b28) (args := [a0, a1]) (K := K) (by kernel_rfl) rfl (e28 a0 a1 K) h hK

instance : BodyOf P 10 := ⟨bodies_ok.2 10 (by kernel_rfl)⟩
instance : ExIdx P 34 := ⟨run_callFunc_indexByte Tryd.func34 (by kernel_rfl) (by kernel_rfl) (by kernel_rfl) (by kernel_rfl)⟩
instance : TyU P 2 (.int .i64) := ⟨Tryd.underlying2⟩
instance : TyInf P 2 1 := ⟨⟨_, Tryd.type2, rfl⟩⟩
instance : TyAgg P 2 false := ⟨Tryd.isAgg2⟩
instance : TySize P 2 1 := ⟨Tryd.sizeOf2⟩
instance : TyZ P 2 [.int .i64 0] := ⟨fun w => ⟨_, Tryd.zeroValue2 w, rfl⟩⟩
instance : TyU P 3 (.int .i64) := ⟨Tryd.underlying3⟩
instance : TyInf P 3 1 := ⟨⟨_, Tryd.type3, rfl⟩⟩
instance : TyAgg P 3 false := ⟨Tryd.isAgg3⟩
instance : TySize P 3 1 := ⟨Tryd.sizeOf3⟩
instance : TyZ P 3 [.int .i64 0] := ⟨fun w => ⟨_, Tryd.zeroValue3 w, rfl⟩⟩
instance : TyU P 4 (.bool) := ⟨Tryd.underlying4⟩
instance : TyInf P 4 1 := ⟨⟨_, Tryd.type4, rfl⟩⟩
instance : TyAgg P 4 false := ⟨Tryd.isAgg4⟩
instance : TySize P 4 1 := ⟨Tryd.sizeOf4⟩
instance : TyZ P 4 [.bool false] := ⟨fun w => ⟨_, Tryd.zeroValue4 w, rfl⟩⟩
instance : TyU P 5 (.int .u8) := ⟨Tryd.underlying5⟩
instance : TyInf P 5 1 := ⟨⟨_, Tryd.type5, rfl⟩⟩
instance : TyAgg P 5 false := ⟨Tryd.isAgg5⟩
instance : TySize P 5 1 := ⟨Tryd.sizeOf5⟩
instance : TyZ P 5 [byteV 0] := ⟨fun w => ⟨_, Tryd.zeroValue5 w, rfl⟩⟩
instance : TyU P 9 (.string) := ⟨Tryd.underlying9⟩
instance : TyInf P 9 1 := ⟨⟨_, Tryd.type9, rfl⟩⟩
instance : TyAgg P 9 false := ⟨Tryd.isAgg9⟩
instance : TySize P 9 1 := ⟨Tryd.sizeOf9⟩
instance : TyZ P 9 [.string ⟨#[]⟩] := ⟨fun w => ⟨_, Tryd.zeroValue9 w, rfl⟩⟩
instance : TyInf P 23 15 := ⟨⟨_, Tryd.type23, rfl⟩⟩
instance : TyAgg P 23 true := ⟨Tryd.isAgg23⟩
instance : TySize P 23 15 := ⟨Tryd.sizeOf23⟩
instance : TyZ P 23 [.string ⟨#[]⟩, .string ⟨#[]⟩, .string ⟨#[]⟩, .string ⟨#[]⟩, .int .i64 0, .int .i64 0, .int .i64 0, .int .i64 0, .int .i64 0, .int .i64 0, .int .i64 0, .int .i64 0, .int .i64 0, .int .i64 0, .int .i64 0] := ⟨fun w => ⟨_, Tryd.zeroValue23 w, rfl⟩⟩
instance : TyEq P 23 [(9, 0), (9, 1), (9, 2), (9, 3), (3, 4), (3, 5), (3, 6), (3, 7), (3, 8), (3, 9), (3, 10), (3, 11), (3, 12), (3, 13), (3, 14)] := ⟨⟨_, Tryd.underlying23, rfl, by decide⟩, Tryd.stoodInHeld23, Tryd.eqGuardType23⟩
instance : TyB P 23 [.string ⟨#[]⟩, .string ⟨#[]⟩, .string ⟨#[]⟩, .string ⟨#[]⟩, .int .i64 0, .int .i64 0, .int .i64 0, .int .i64 0, .int .i64 0, .int .i64 0, .int .i64 0, .int .i64 0, .int .i64 0, .int .i64 0, .int .i64 0] [(0, 1), (1, 1), (2, 1), (3, 1), (4, 1), (5, 1), (6, 1), (7, 1), (8, 1), (9, 1), (10, 1), (11, 1), (12, 1), (13, 1), (14, 1)] := ⟨fun ps => by kernel_rfl⟩
instance : TyFld P 23 0 0 := ⟨fun a w => by simp [Instr.fieldAt, Instr.sureAddr, fieldPlace, Sem.run_bind, Tryd.runUnderlying23, Tryd.sizeOf9]⟩
instance : TyFld P 23 1 1 := ⟨fun a w => by simp [Instr.fieldAt, Instr.sureAddr, fieldPlace, Sem.run_bind, Tryd.runUnderlying23, Tryd.sizeOf9]⟩
instance : TyFld P 23 2 2 := ⟨fun a w => by simp [Instr.fieldAt, Instr.sureAddr, fieldPlace, Sem.run_bind, Tryd.runUnderlying23, Tryd.sizeOf9]⟩
instance : TyFld P 23 3 3 := ⟨fun a w => by simp [Instr.fieldAt, Instr.sureAddr, fieldPlace, Sem.run_bind, Tryd.runUnderlying23, Tryd.sizeOf9]⟩
instance : TyFld P 23 4 4 := ⟨fun a w => by simp [Instr.fieldAt, Instr.sureAddr, fieldPlace, Sem.run_bind, Tryd.runUnderlying23, Tryd.sizeOf3]⟩
instance : TyFld P 23 5 5 := ⟨fun a w => by simp [Instr.fieldAt, Instr.sureAddr, fieldPlace, Sem.run_bind, Tryd.runUnderlying23, Tryd.sizeOf3]⟩
instance : TyFld P 23 6 6 := ⟨fun a w => by simp [Instr.fieldAt, Instr.sureAddr, fieldPlace, Sem.run_bind, Tryd.runUnderlying23, Tryd.sizeOf3]⟩
instance : TyFld P 23 7 7 := ⟨fun a w => by simp [Instr.fieldAt, Instr.sureAddr, fieldPlace, Sem.run_bind, Tryd.runUnderlying23, Tryd.sizeOf3]⟩
instance : TyFld P 23 8 8 := ⟨fun a w => by simp [Instr.fieldAt, Instr.sureAddr, fieldPlace, Sem.run_bind, Tryd.runUnderlying23, Tryd.sizeOf3]⟩
instance : TyFld P 23 9 9 := ⟨fun a w => by simp [Instr.fieldAt, Instr.sureAddr, fieldPlace, Sem.run_bind, Tryd.runUnderlying23, Tryd.sizeOf3]⟩
instance : TyFld P 23 10 10 := ⟨fun a w => by simp [Instr.fieldAt, Instr.sureAddr, fieldPlace, Sem.run_bind, Tryd.runUnderlying23, Tryd.sizeOf3]⟩
instance : TyFld P 23 11 11 := ⟨fun a w => by simp [Instr.fieldAt, Instr.sureAddr, fieldPlace, Sem.run_bind, Tryd.runUnderlying23, Tryd.sizeOf3]⟩
instance : TyFld P 23 12 12 := ⟨fun a w => by simp [Instr.fieldAt, Instr.sureAddr, fieldPlace, Sem.run_bind, Tryd.runUnderlying23, Tryd.sizeOf3]⟩
instance : TyFld P 23 13 13 := ⟨fun a w => by simp [Instr.fieldAt, Instr.sureAddr, fieldPlace, Sem.run_bind, Tryd.runUnderlying23, Tryd.sizeOf3]⟩
instance : TyFld P 23 14 14 := ⟨fun a w => by simp [Instr.fieldAt, Instr.sureAddr, fieldPlace, Sem.run_bind, Tryd.runUnderlying23, Tryd.sizeOf3]⟩
instance : TyU P 25 (.slice 9) := ⟨Tryd.underlying25⟩
instance : TyInf P 25 1 := ⟨⟨_, Tryd.type25, rfl⟩⟩
instance : TyAgg P 25 false := ⟨Tryd.isAgg25⟩
instance : TySize P 25 1 := ⟨Tryd.sizeOf25⟩
instance : TyZ P 25 [.slice none 0 0] := ⟨fun w => ⟨_, Tryd.zeroValue25 w, rfl⟩⟩
instance : TySl P 25 9 1 := ⟨Tryd.t9, .string ⟨#[]⟩, Tryd.underlying25, Tryd.type9, rfl, rfl, rfl, by decide, by decide⟩
instance : TyInf P 27 1 := ⟨⟨_, Tryd.type27, rfl⟩⟩
instance : TyFn P 27 := ⟨⟨_, _, _, Tryd.underlying27⟩⟩
instance : TyAgg P 27 false := ⟨Tryd.isAgg27⟩
instance : TySize P 27 1 := ⟨Tryd.sizeOf27⟩
instance : TyZ P 27 [.nilFunc] := ⟨fun w => ⟨_, Tryd.zeroValue27 w, rfl⟩⟩
instance : TyU P 33 (.int .i64) := ⟨Tryd.underlying33⟩
instance : TyInf P 33 1 := ⟨⟨_, Tryd.type33, rfl⟩⟩
instance : TyAgg P 33 false := ⟨Tryd.isAgg33⟩
instance : TySize P 33 1 := ⟨Tryd.sizeOf33⟩
instance : TyZ P 33 [.int .i64 0] := ⟨fun w => ⟨_, Tryd.zeroValue33 w, rfl⟩⟩
instance : TyInf P 38 3 := ⟨⟨_, Tryd.type38, rfl⟩⟩
instance : TyAgg P 38 true := ⟨Tryd.isAgg38⟩
instance : TySize P 38 3 := ⟨Tryd.sizeOf38⟩
instance : TyZ P 38 [.int .i64 0, .int .i64 0, .int .i64 0] := ⟨fun w => ⟨_, Tryd.zeroValue38 w, rfl⟩⟩
instance : TyEq P 38 [(3, 0), (3, 1), (3, 2)] := ⟨⟨_, Tryd.underlying38, rfl, by decide⟩, Tryd.stoodInHeld38, Tryd.eqGuardType38⟩
instance : TyB P 38 [.int .i64 0, .int .i64 0, .int .i64 0] [(0, 1), (1, 1), (2, 1)] := ⟨fun ps => by kernel_rfl⟩
instance : TyFld P 38 0 0 := ⟨fun a w => by simp [Instr.fieldAt, Instr.sureAddr, fieldPlace, Sem.run_bind, Tryd.runUnderlying38, Tryd.sizeOf3]⟩
instance : TyFld P 38 1 1 := ⟨fun a w => by simp [Instr.fieldAt, Instr.sureAddr, fieldPlace, Sem.run_bind, Tryd.runUnderlying38, Tryd.sizeOf3]⟩
instance : TyFld P 38 2 2 := ⟨fun a w => by simp [Instr.fieldAt, Instr.sureAddr, fieldPlace, Sem.run_bind, Tryd.runUnderlying38, Tryd.sizeOf3]⟩
instance : TyU P 39 (.slice 38) := ⟨Tryd.underlying39⟩
instance : TyInf P 39 1 := ⟨⟨_, Tryd.type39, rfl⟩⟩
instance : TyAgg P 39 false := ⟨Tryd.isAgg39⟩
instance : TySize P 39 1 := ⟨Tryd.sizeOf39⟩
instance : TyZ P 39 [.slice none 0 0] := ⟨fun w => ⟨_, Tryd.zeroValue39 w, rfl⟩⟩
instance : TySl P 39 38 3 := ⟨Tryd.t38, .agg #[.int .i64 0, .int .i64 0, .int .i64 0], Tryd.underlying39, Tryd.type38, rfl, rfl, rfl, by decide, by decide⟩
instance : TyU P 43 (.slice 5) := ⟨Tryd.underlying43⟩
instance : TyInf P 43 1 := ⟨⟨_, Tryd.type43, rfl⟩⟩
instance : TyAgg P 43 false := ⟨Tryd.isAgg43⟩
instance : TySize P 43 1 := ⟨Tryd.sizeOf43⟩
instance : TyZ P 43 [.slice none 0 0] := ⟨fun w => ⟨_, Tryd.zeroValue43 w, rfl⟩⟩
instance : TySl P 43 5 1 := ⟨Tryd.t5, byteV 0, Tryd.underlying43, Tryd.type5, rfl, rfl, rfl, by decide, by decide⟩
instance : TyU P 46 (.int .u16) := ⟨Tryd.underlying46⟩
instance : TyInf P 46 1 := ⟨⟨_, Tryd.type46, rfl⟩⟩
instance : TyAgg P 46 false := ⟨Tryd.isAgg46⟩
instance : TySize P 46 1 := ⟨Tryd.sizeOf46⟩
instance : TyZ P 46 [.int .u16 0] := ⟨fun w => ⟨_, Tryd.zeroValue46 w, rfl⟩⟩
instance : TyInf P 54 256 := ⟨⟨_, Tryd.type54, rfl⟩⟩
instance : TyAgg P 54 true := ⟨Tryd.isAgg54⟩
instance : TySize P 54 256 := ⟨Tryd.sizeOf54⟩
instance : TyZ P 54 (List.replicate 256 (.int .u16 0)) := ⟨fun w => ⟨.agg ((List.replicate 256 (.int .u16 0))).toArray, tyz_of (P := P) (t := 54) (i := Tryd.t54) Tryd.type54 (by kernel_rfl) w, rfl⟩⟩
instance : TyArr P 54 256 46 1 := ⟨Tryd.underlying54, Tryd.sizeOf46⟩
end Go.Proofs.YtodnbkggkdadkaaDoor
