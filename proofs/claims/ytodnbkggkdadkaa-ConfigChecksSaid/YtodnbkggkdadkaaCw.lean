import Derived.Test.YtodnbkggkdadkaaProg
import Derived.Test.YtodnbkggkdadkaaSu
set_option linter.all false
namespace Go.Proofs.Ytodnbkggkdadkaa
open Go.Vx
noncomputable abbrev P := Try.prog
def bmask : Nat := 53034389211914960892
theorem bodies_ok : Bodies P bmask := bodies_of 83 (by decide +kernel) (by kernel_rfl) (by kernel_rfl)

/-- rollcall/rollcalllaw15.ConfigChecks -/
def D10 (a0 : Value) (K : Value → World → Prop) (s : St) : Prop :=
  Bx P 58 a0 (fun v1 s => Cl P 31 #[] (fun v2 s => Uo P .not v2 (fun v3 s => CondP v3 (Ret P (fun w => K (.bool false) w) s) (Ld P 58 v1 (fun v4 s => Cl P 32 #[v4] (fun v5 s => CondP v5 (Ret P (fun w => K (.bool true) w) s) (Dw (fun s => Qt (Ld P 58 v1) s fun v6 => Qt (Ld P 58 v1) s fun v7 => Cl P 33 #[v6] (fun v8 s => Ck (Ld P 58 v1) v7 s ∧ (Cl P 34 #[v7] (fun v9 s => Qt (Bo P .eql 3 false false v8 v9) s fun v10 => Ret P (fun w => K v10 w) s) s)) s) s)) s) s)) s) s) s
noncomputable def b10 : Code := Try.f10.body.getD .skip
theorem e10 (a0 : Value) (K : Value → World → Prop) : wpc P bmask 12 none b10 (lmOf [.tmp 2]) (ktOf P 12 [.tmp 2] K) (frOf [a0]) = D10 a0 K := by kernel_rfl
theorem c10 {a0 w : _} {K : Value → World → Prop} {R : Ending → World → Prop} (h : D10 a0 K ⟨w, []⟩) (hK : ∀ v w', K v w' → R (.returned v) w') : Calls P 10 #[a0] w R :=
  calls_of bodies_ok Try.func10 12 [.tmp 2] (c := b10) (args := [a0]) (K := K) (by kernel_rfl) rfl (e10 a0 K) h hK

/-- rollcall/rollcalllaw15.ConfigBounds -/
def D11 (a0 a1 : Value) (K : Value → World → Prop) (s : St) : Prop :=
  Cl P 31 #[] (fun v1 s => Uo P .not v1 (fun v2 s => CondP v2 (Ret P (fun w => K (.bool false) w) s) (Cl P 35 #[] (fun v3 s => Al P 58 (fun v4 s => Sv P 58 v4 v3 (fun _ s => J2 (fun A5 => Bo P .rem 5 false true a0 (byteV 11) (fun v8 s => Bo P .eql 5 false true v8 (byteV 0) (fun v9 s => CondP v9 (Fa P 58 v4 4 (fun v10 s => Sv P 3 v10 a1 (fun _ s => A5 (.int .i64 1) (.int .i64 1000) s) s) s) (Bo P .eql 5 false true v8 (byteV 1) (fun v11 s => CondP v11 (Fa P 58 v4 5 (fun v12 s => Sv P 3 v12 a1 (fun _ s => A5 (.int .i64 512) (.int .i64 65536) s) s) s) (Bo P .eql 5 false true v8 (byteV 2) (fun v13 s => CondP v13 (Fa P 58 v4 6 (fun v14 s => Sv P 3 v14 a1 (fun _ s => A5 (.int .i64 1) (.int .i64 1000) s) s) s) (Bo P .eql 5 false true v8 (byteV 3) (fun v15 s => CondP v15 (Fa P 58 v4 7 (fun v16 s => Sv P 3 v16 a1 (fun _ s => A5 (.int .i64 1) (.int .i64 1000) s) s) s) (Bo P .eql 5 false true v8 (byteV 4) (fun v17 s => CondP v17 (Fa P 58 v4 8 (fun v18 s => Sv P 3 v18 a1 (fun _ s => A5 (.int .i64 1) (.int .i64 1000) s) s) s) (Bo P .eql 5 false true v8 (byteV 5) (fun v19 s => CondP v19 (Fa P 58 v4 9 (fun v20 s => Sv P 3 v20 a1 (fun _ s => A5 (.int .i64 1) (.int .i64 1000) s) s) s) (Bo P .eql 5 false true v8 (byteV 6) (fun v21 s => CondP v21 (Fa P 58 v4 10 (fun v22 s => Sv P 3 v22 a1 (fun _ s => A5 (.int .i64 1) (.int .i64 1000) s) s) s) (Bo P .eql 5 false true v8 (byteV 7) (fun v23 s => CondP v23 (Fa P 58 v4 11 (fun v24 s => Sv P 3 v24 a1 (fun _ s => A5 (.int .i64 0) (.int .i64 1000) s) s) s) (Bo P .eql 5 false true v8 (byteV 8) (fun v25 s => CondP v25 (Fa P 58 v4 12 (fun v26 s => Sv P 3 v26 a1 (fun _ s => A5 (.int .i64 1) (.int .i64 1000000) s) s) s) (Bo P .eql 5 false true v8 (byteV 9) (fun v27 s => CondP v27 (Fa P 58 v4 13 (fun v28 s => Sv P 3 v28 a1 (fun _ s => A5 (.int .i64 1) (.int .i64 1000000) s) s) s) (Fa P 58 v4 14 (fun v29 s => Sv P 3 v29 a1 (fun _ s => A5 (.int .i64 1) (.int .i64 1000000) s) s) s)) s)) s)) s)) s)) s)) s)) s)) s)) s)) s) s) (fun x6 x7 s => Ld P 58 v4 (fun v30 s => Cl P 33 #[v30] (fun v31 s => Bo P .geq 3 false false a1 x6 (fun v32 s => J1 (fun A33 => Grd v32 true (Bo P .leq 3 false false a1 x7 (fun v35 s => A33 v35 s) s) (A33 undef s)) (fun x34 s => Pk P v32 x34 (.bool false) (fun v36 s => J1 (fun A37 => Grd v36 true (Bo P .eql 60 false true v31 (.int .i64 0) (fun v39 s => A37 v39 s) s) (A37 undef s)) (fun x38 s => Pk P v36 x38 (.bool false) (fun v40 s => J1 (fun A41 => Grd v40 false (Bo P .lss 3 false false a1 x6 (fun v43 s => A41 v43 s) s) (A41 undef s)) (fun x42 s => J1 (fun A44 => Grd x42 false (Bo P .gtr 3 false false a1 x7 (fun v46 s => A44 v46 s) s) (A44 undef s)) (fun x45 s => J1 (fun A47 => Grd v40 false (Pk P x42 (.bool true) x45 (fun v49 s => A47 v49 s) s) (A47 undef s)) (fun x48 s => J1 (fun A50 => Grd x48 true (Bo P .eql 60 false true v31 (.int .i64 2) (fun v52 s => A50 v52 s) s) (A50 undef s)) (fun x51 s => J1 (fun A53 => Grd v40 false (Pk P x48 x51 (.bool false) (fun v55 s => A53 v55 s) s) (A53 undef s)) (fun x54 s => Pk P v40 (.bool true) x54 (fun v56 s => Ret P (fun w => K v56 w) s) s)))))) s)) s)) s) s) s)) s) s) s)) s) s
noncomputable def b11 : Code := Try.f11.body.getD .skip
theorem e11 (a0 a1 : Value) (K : Value → World → Prop) : wpc P bmask 84 none b11 (lmOf [.tmp 4]) (ktOf P 84 [.tmp 4] K) (frOf [a0, a1]) = D11 a0 a1 K := by kernel_rfl
theorem c11 {a0 a1 w : _} {K : Value → World → Prop} {R : Ending → World → Prop} (h : D11 a0 a1 K ⟨w, []⟩) (hK : ∀ v w', K v w' → R (.returned v) w') : Calls P 11 #[a0, a1] w R :=
  calls_of bodies_ok Try.func11 84 [.tmp 4] (c := b11) (args := [a0, a1]) (K := K) (by kernel_rfl) rfl (e11 a0 a1 K) h hK

/-- rollcall/rollcalllaw15.awake -/
def D31 (K : Value → World → Prop) (s : St) : Prop :=
  Cl P 35 #[] (fun v1 s => Al P 58 (fun v2 s => Sv P 58 v2 v1 (fun _ s => Ld P 58 v2 (fun v3 s => Cl P 33 #[v3] (fun v4 s => Bo P .eql 60 false true v4 (.int .i64 0) (fun v5 s => J1 (fun A6 => Grd v5 true (Fa P 58 v2 0 (fun v8 s => Ld P 9 v8 (fun v9 s => Bo P .eql 9 false true v9 (.string ⟨#[105, 114, 99, 46, 101, 120, 97, 109, 112, 108, 101]⟩) (fun v10 s => A6 v10 s) s) s) s) (A6 undef s)) (fun x7 s => Pk P v5 x7 (.bool false) (fun v11 s => J1 (fun A12 => Grd v11 true (Fa P 58 v2 4 (fun v14 s => Ld P 3 v14 (fun v15 s => Bo P .eql 3 false true v15 (.int .i64 100) (fun v16 s => A12 v16 s) s) s) s) (A12 undef s)) (fun x13 s => Pk P v11 x13 (.bool false) (fun v17 s => J1 (fun A18 => Grd v17 true (Fa P 58 v2 5 (fun v20 s => Ld P 3 v20 (fun v21 s => Bo P .eql 3 false true v21 (.int .i64 8192) (fun v22 s => A18 v22 s) s) s) s) (A18 undef s)) (fun x19 s => Pk P v17 x19 (.bool false) (fun v23 s => J1 (fun A24 => Grd v23 true (Fa P 58 v2 6 (fun v26 s => Ld P 3 v26 (fun v27 s => Bo P .eql 3 false true v27 (.int .i64 10) (fun v28 s => A24 v28 s) s) s) s) (A24 undef s)) (fun x25 s => Pk P v23 x25 (.bool false) (fun v29 s => J1 (fun A30 => Grd v29 true (Fa P 58 v2 7 (fun v32 s => Ld P 3 v32 (fun v33 s => Bo P .eql 3 false true v33 (.int .i64 100) (fun v34 s => A30 v34 s) s) s) s) (A30 undef s)) (fun x31 s => Pk P v29 x31 (.bool false) (fun v35 s => J1 (fun A36 => Grd v35 true (Fa P 58 v2 8 (fun v38 s => Ld P 3 v38 (fun v39 s => Bo P .eql 3 false true v39 (.int .i64 20) (fun v40 s => A36 v40 s) s) s) s) (A36 undef s)) (fun x37 s => Pk P v35 x37 (.bool false) (fun v41 s => J1 (fun A42 => Grd v41 true (Fa P 58 v2 9 (fun v44 s => Ld P 3 v44 (fun v45 s => Bo P .eql 3 false true v45 (.int .i64 30) (fun v46 s => A42 v46 s) s) s) s) (A42 undef s)) (fun x43 s => Pk P v41 x43 (.bool false) (fun v47 s => J1 (fun A48 => Grd v47 true (Fa P 58 v2 10 (fun v50 s => Ld P 3 v50 (fun v51 s => Bo P .eql 3 false true v51 (.int .i64 30) (fun v52 s => A48 v52 s) s) s) s) (A48 undef s)) (fun x49 s => Pk P v47 x49 (.bool false) (fun v53 s => J1 (fun A54 => Grd v53 true (Fa P 58 v2 11 (fun v56 s => Ld P 3 v56 (fun v57 s => Bo P .eql 3 false true v57 (.int .i64 50) (fun v58 s => A54 v58 s) s) s) s) (A54 undef s)) (fun x55 s => Pk P v53 x55 (.bool false) (fun v59 s => J1 (fun A60 => Grd v59 true (Fa P 58 v2 12 (fun v62 s => Ld P 3 v62 (fun v63 s => Bo P .eql 3 false true v63 (.int .i64 60) (fun v64 s => A60 v64 s) s) s) s) (A60 undef s)) (fun x61 s => Pk P v59 x61 (.bool false) (fun v65 s => J1 (fun A66 => Grd v65 true (Fa P 58 v2 13 (fun v68 s => Ld P 3 v68 (fun v69 s => Bo P .eql 3 false true v69 (.int .i64 30) (fun v70 s => A66 v70 s) s) s) s) (A66 undef s)) (fun x67 s => Pk P v65 x67 (.bool false) (fun v71 s => J1 (fun A72 => Grd v71 true (Fa P 58 v2 14 (fun v74 s => Ld P 3 v74 (fun v75 s => Bo P .eql 3 false true v75 (.int .i64 20) (fun v76 s => A72 v76 s) s) s) s) (A72 undef s)) (fun x73 s => Pk P v71 x73 (.bool false) (fun v77 s => J1 (fun A78 => Grd v77 true (Fa P 58 v2 1 (fun v80 s => Ld P 9 v80 (fun v81 s => Fa P 58 v2 2 (fun v82 s => Ld P 9 v82 (fun v83 s => Bo P .add 9 false false v81 v83 (fun v84 s => Fa P 58 v2 3 (fun v85 s => Ld P 9 v85 (fun v86 s => Bo P .add 9 false false v84 v86 (fun v87 s => Bo P .eql 9 false true v87 (.string ⟨#[]⟩) (fun v88 s => A78 v88 s) s) s) s) s) s) s) s) s) s) (A78 undef s)) (fun x79 s => Pk P v77 x79 (.bool false) (fun v89 s => Ret P (fun w => K v89 w) s) s)) s)) s)) s)) s)) s)) s)) s)) s)) s)) s)) s)) s)) s) s) s) s) s) s
noncomputable def b31 : Code := Try.f31.body.getD .skip
theorem e31 (K : Value → World → Prop) : wpc P bmask 77 none b31 (lmOf [.tmp 0]) (ktOf P 77 [.tmp 0] K) (frOf []) = D31 K := by kernel_rfl
theorem c31 {w : _} {K : Value → World → Prop} {R : Ending → World → Prop} (h : D31 K ⟨w, []⟩) (hK : ∀ v w', K v w' → R (.returned v) w') : Calls P 31 #[] w R :=
  calls_of bodies_ok Try.func31 77 [.tmp 0] (c := b31) (args := []) (K := K) (by kernel_rfl) rfl (e31 K) h hK

/-- rollcall/rollcalllaw15.Great -/
def D32 (a0 : Value) (K : Value → World → Prop) (s : St) : Prop :=
  Bx P 58 a0 (fun v1 s => Fa P 58 v1 0 (fun v2 s => Ld P 9 v2 (fun v3 s => Bi P .len #[9] 3 #[false] #[v3] (fun v4 s => Bo P .gtr 3 false true v4 (.int .i64 100) (fun v5 s => J1 (fun A6 => Grd v5 false (Fa P 58 v1 1 (fun v8 s => Ld P 9 v8 (fun v9 s => Bi P .len #[9] 3 #[false] #[v9] (fun v10 s => Bo P .gtr 3 false true v10 (.int .i64 100) (fun v11 s => A6 v11 s) s) s) s) s) (A6 undef s)) (fun x7 s => Pk P v5 (.bool true) x7 (fun v12 s => J1 (fun A13 => Grd v12 false (Fa P 58 v1 2 (fun v15 s => Ld P 9 v15 (fun v16 s => Bi P .len #[9] 3 #[false] #[v16] (fun v17 s => Bo P .gtr 3 false true v17 (.int .i64 100) (fun v18 s => A13 v18 s) s) s) s) s) (A13 undef s)) (fun x14 s => Pk P v12 (.bool true) x14 (fun v19 s => J1 (fun A20 => Grd v19 false (Fa P 58 v1 3 (fun v22 s => Ld P 9 v22 (fun v23 s => Bi P .len #[9] 3 #[false] #[v23] (fun v24 s => Bo P .gtr 3 false true v24 (.int .i64 100) (fun v25 s => A20 v25 s) s) s) s) s) (A20 undef s)) (fun x21 s => Pk P v19 (.bool true) x21 (fun v26 s => Ret P (fun w => K v26 w) s) s)) s)) s)) s) s) s) s) s
noncomputable def b32 : Code := Try.f32.body.getD .skip
theorem e32 (a0 : Value) (K : Value → World → Prop) : wpc P bmask 25 none b32 (lmOf [.tmp 2]) (ktOf P 25 [.tmp 2] K) (frOf [a0]) = D32 a0 K := by kernel_rfl
theorem c32 {a0 w : _} {K : Value → World → Prop} {R : Ending → World → Prop} (h : D32 a0 K ⟨w, []⟩) (hK : ∀ v w', K v w' → R (.returned v) w') : Calls P 32 #[a0] w R :=
  calls_of bodies_ok Try.func32 25 [.tmp 2] (c := b32) (args := [a0]) (K := K) (by kernel_rfl) rfl (e32 a0 K) h hK

/-- rollcall/config.Check -/
def D33 (a0 : Value) (K : Value → World → Prop) (s : St) : Prop :=
  Bx P 58 a0 (fun v1 s => Fa P 58 v1 0 (fun v2 s => Ld P 9 v2 (fun v3 s => Cl P 46 #[v3] (fun v4 s => Uo P .not v4 (fun v5 s => J1 (fun A6 => Grd v5 false (Fa P 58 v1 1 (fun v8 s => Ld P 9 v8 (fun v9 s => Cl P 47 #[v9] (fun v10 s => Uo P .not v10 (fun v11 s => A6 v11 s) s) s) s) s) (A6 undef s)) (fun x7 s => Pk P v5 (.bool true) x7 (fun v12 s => J1 (fun A13 => Grd v12 false (Fa P 58 v1 2 (fun v15 s => Ld P 9 v15 (fun v16 s => Cl P 47 #[v16] (fun v17 s => Uo P .not v17 (fun v18 s => A13 v18 s) s) s) s) s) (A13 undef s)) (fun x14 s => Pk P v12 (.bool true) x14 (fun v19 s => J1 (fun A20 => Grd v19 false (Fa P 58 v1 3 (fun v22 s => Ld P 9 v22 (fun v23 s => Cl P 47 #[v23] (fun v24 s => Uo P .not v24 (fun v25 s => A20 v25 s) s) s) s) s) (A20 undef s)) (fun x21 s => Pk P v19 (.bool true) x21 (fun v26 s => J1 (fun A27 => Grd v26 false (Fa P 58 v1 2 (fun v29 s => Ld P 9 v29 (fun v30 s => Bo P .eql 9 false true v30 (.string ⟨#[]⟩) (fun v31 s => Fa P 58 v1 3 (fun v32 s => Ld P 9 v32 (fun v33 s => Bo P .eql 9 false true v33 (.string ⟨#[]⟩) (fun v34 s => Bo P .neq 4 false false v31 v34 (fun v35 s => A27 v35 s) s) s) s) s) s) s) s) (A27 undef s)) (fun x28 s => Pk P v26 (.bool true) x28 (fun v36 s => CondP v36 (Ret P (fun w => K (.int .i64 4) w) s) (Fa P 58 v1 4 (fun v37 s => Ld P 3 v37 (fun v38 s => Bd P 77 #[(0, v38), (1, .int .i64 1), (2, .int .i64 1000)] (fun v39 s => Fa P 58 v1 5 (fun v40 s => Ld P 3 v40 (fun v41 s => Bd P 77 #[(0, v41), (1, .int .i64 512), (2, .int .i64 65536)] (fun v42 s => Fa P 58 v1 6 (fun v43 s => Ld P 3 v43 (fun v44 s => Bd P 77 #[(0, v44), (1, .int .i64 1), (2, .int .i64 1000)] (fun v45 s => Fa P 58 v1 7 (fun v46 s => Ld P 3 v46 (fun v47 s => Bd P 77 #[(0, v47), (1, .int .i64 1), (2, .int .i64 1000)] (fun v48 s => Fa P 58 v1 8 (fun v49 s => Ld P 3 v49 (fun v50 s => Bd P 77 #[(0, v50), (1, .int .i64 1), (2, .int .i64 1000)] (fun v51 s => Fa P 58 v1 9 (fun v52 s => Ld P 3 v52 (fun v53 s => Bd P 77 #[(0, v53), (1, .int .i64 1), (2, .int .i64 1000)] (fun v54 s => Fa P 58 v1 10 (fun v55 s => Ld P 3 v55 (fun v56 s => Bd P 77 #[(0, v56), (1, .int .i64 1), (2, .int .i64 1000)] (fun v57 s => Fa P 58 v1 11 (fun v58 s => Ld P 3 v58 (fun v59 s => Bd P 77 #[(0, v59), (1, .int .i64 0), (2, .int .i64 1000)] (fun v60 s => Fa P 58 v1 12 (fun v61 s => Ld P 3 v61 (fun v62 s => Bd P 77 #[(0, v62), (1, .int .i64 1), (2, .int .i64 1000000)] (fun v63 s => Fa P 58 v1 13 (fun v64 s => Ld P 3 v64 (fun v65 s => Bd P 77 #[(0, v65), (1, .int .i64 1), (2, .int .i64 1000000)] (fun v66 s => Fa P 58 v1 14 (fun v67 s => Ld P 3 v67 (fun v68 s => Bd P 77 #[(0, v68), (1, .int .i64 1), (2, .int .i64 1000000)] (fun v69 s => Bs P 78 11 #[(0, v39), (1, v42), (2, v45), (3, v48), (4, v51), (5, v54), (6, v57), (7, v60), (8, v63), (9, v66), (10, v69)] (fun v70 s => Bi P .len #[78] 3 #[false] #[v70] (fun v71 s => L1 (.int .i64 0) s (fun N72 x73 s => Bo P .lss 3 false false x73 v71 (fun v74 s => CondP v74 (Ia P 78 v70 x73 (fun v75 s => Ld P 77 v75 (fun v76 s => Al P 77 (fun v77 s => Sv P 77 v77 v76 (fun _ s => Fa P 77 v77 0 (fun v78 s => Ld P 3 v78 (fun v79 s => Fa P 77 v77 1 (fun v80 s => Ld P 3 v80 (fun v81 s => Bo P .lss 3 false false v79 v81 (fun v82 s => J1 (fun A83 => Grd v82 false (Fa P 77 v77 0 (fun v85 s => Ld P 3 v85 (fun v86 s => Fa P 77 v77 2 (fun v87 s => Ld P 3 v87 (fun v88 s => Bo P .gtr 3 false false v86 v88 (fun v89 s => A83 v89 s) s) s) s) s) s) (A83 undef s)) (fun x84 s => Pk P v82 (.bool true) x84 (fun v90 s => CondP v90 (Ret P (fun w => K (.int .i64 2) w) s) (Bo P .add 3 false true x73 (.int .i64 1) (fun v91 s => N72 v91 s) s)) s)) s) s) s) s) s) s) s) s) s) (Ret P (fun w => K (.int .i64 0) w) s)) s)) s) s) s) s) s) s) s) s) s) s) s) s) s) s) s) s) s) s) s) s) s) s) s) s) s) s) s) s) s) s) s) s) s) s) s)) s)) s)) s)) s)) s) s) s) s) s
noncomputable def b33 : Code := Try.f33.body.getD .skip
theorem e33 (a0 : Value) (K : Value → World → Prop) : wpc P bmask 88 none b33 (lmOf [.tmp 2]) (ktOf P 88 [.tmp 2] K) (frOf [a0]) = D33 a0 K := by kernel_rfl
theorem c33 {a0 w : _} {K : Value → World → Prop} {R : Ending → World → Prop} (h : D33 a0 K ⟨w, []⟩) (hK : ∀ v w', K v w' → R (.returned v) w') : Calls P 33 #[a0] w R :=
  calls_of bodies_ok Try.func33 88 [.tmp 2] (c := b33) (args := [a0]) (K := K) (by kernel_rfl) rfl (e33 a0 K) h hK

/-- rollcall/rollcallref15.Check -/
def D34 (a0 : Value) (K : Value → World → Prop) (s : St) : Prop :=
  Bx P 58 a0 (fun v1 s => Fa P 58 v1 0 (fun v2 s => Ld P 9 v2 (fun v3 s => Cl P 48 #[v3] (fun v4 s => Uo P .not v4 (fun v5 s => J1 (fun A6 => Grd v5 false (Fa P 58 v1 1 (fun v8 s => Ld P 9 v8 (fun v9 s => Cl P 49 #[v9] (fun v10 s => Uo P .not v10 (fun v11 s => A6 v11 s) s) s) s) s) (A6 undef s)) (fun x7 s => Pk P v5 (.bool true) x7 (fun v12 s => J1 (fun A13 => Grd v12 false (Fa P 58 v1 2 (fun v15 s => Ld P 9 v15 (fun v16 s => Cl P 49 #[v16] (fun v17 s => Uo P .not v17 (fun v18 s => A13 v18 s) s) s) s) s) (A13 undef s)) (fun x14 s => Pk P v12 (.bool true) x14 (fun v19 s => J1 (fun A20 => Grd v19 false (Fa P 58 v1 3 (fun v22 s => Ld P 9 v22 (fun v23 s => Cl P 49 #[v23] (fun v24 s => Uo P .not v24 (fun v25 s => A20 v25 s) s) s) s) s) (A20 undef s)) (fun x21 s => Pk P v19 (.bool true) x21 (fun v26 s => CondP v26 (Ret P (fun w => K (.int .i64 4) w) s) (Fa P 58 v1 2 (fun v27 s => Ld P 9 v27 (fun v28 s => Bo P .eql 9 false true v28 (.string ⟨#[]⟩) (fun v29 s => J1 (fun A30 => Grd v29 true (Fa P 58 v1 3 (fun v32 s => Ld P 9 v32 (fun v33 s => Bo P .neq 9 false true v33 (.string ⟨#[]⟩) (fun v34 s => A30 v34 s) s) s) s) (A30 undef s)) (fun x31 s => Pk P v29 x31 (.bool false) (fun v35 s => J1 (fun A36 => Grd v35 false (Fa P 58 v1 2 (fun v38 s => Ld P 9 v38 (fun v39 s => Bo P .neq 9 false true v39 (.string ⟨#[]⟩) (fun v40 s => A36 v40 s) s) s) s) (A36 undef s)) (fun x37 s => J1 (fun A41 => Grd x37 true (Fa P 58 v1 3 (fun v43 s => Ld P 9 v43 (fun v44 s => Bo P .eql 9 false true v44 (.string ⟨#[]⟩) (fun v45 s => A41 v45 s) s) s) s) (A41 undef s)) (fun x42 s => J1 (fun A46 => Grd v35 false (Pk P x37 x42 (.bool false) (fun v48 s => A46 v48 s) s) (A46 undef s)) (fun x47 s => Pk P v35 (.bool true) x47 (fun v49 s => CondP v49 (Ret P (fun w => K (.int .i64 4) w) s) (Fa P 58 v1 4 (fun v50 s => Ld P 3 v50 (fun v51 s => Cl P 50 #[v51, .int .i64 1, .int .i64 1000] (fun v52 s => Uo P .not v52 (fun v53 s => J1 (fun A54 => Grd v53 false (Fa P 58 v1 5 (fun v56 s => Ld P 3 v56 (fun v57 s => Cl P 50 #[v57, .int .i64 512, .int .i64 65536] (fun v58 s => Uo P .not v58 (fun v59 s => A54 v59 s) s) s) s) s) (A54 undef s)) (fun x55 s => Pk P v53 (.bool true) x55 (fun v60 s => J1 (fun A61 => Grd v60 false (Fa P 58 v1 6 (fun v63 s => Ld P 3 v63 (fun v64 s => Cl P 50 #[v64, .int .i64 1, .int .i64 1000] (fun v65 s => Uo P .not v65 (fun v66 s => A61 v66 s) s) s) s) s) (A61 undef s)) (fun x62 s => Pk P v60 (.bool true) x62 (fun v67 s => J1 (fun A68 => Grd v67 false (Fa P 58 v1 7 (fun v70 s => Ld P 3 v70 (fun v71 s => Cl P 50 #[v71, .int .i64 1, .int .i64 1000] (fun v72 s => Uo P .not v72 (fun v73 s => A68 v73 s) s) s) s) s) (A68 undef s)) (fun x69 s => Pk P v67 (.bool true) x69 (fun v74 s => J1 (fun A75 => Grd v74 false (Fa P 58 v1 8 (fun v77 s => Ld P 3 v77 (fun v78 s => Cl P 50 #[v78, .int .i64 1, .int .i64 1000] (fun v79 s => Uo P .not v79 (fun v80 s => A75 v80 s) s) s) s) s) (A75 undef s)) (fun x76 s => Pk P v74 (.bool true) x76 (fun v81 s => J1 (fun A82 => Grd v81 false (Fa P 58 v1 9 (fun v84 s => Ld P 3 v84 (fun v85 s => Cl P 50 #[v85, .int .i64 1, .int .i64 1000] (fun v86 s => Uo P .not v86 (fun v87 s => A82 v87 s) s) s) s) s) (A82 undef s)) (fun x83 s => Pk P v81 (.bool true) x83 (fun v88 s => J1 (fun A89 => Grd v88 false (Fa P 58 v1 10 (fun v91 s => Ld P 3 v91 (fun v92 s => Cl P 50 #[v92, .int .i64 1, .int .i64 1000] (fun v93 s => Uo P .not v93 (fun v94 s => A89 v94 s) s) s) s) s) (A89 undef s)) (fun x90 s => Pk P v88 (.bool true) x90 (fun v95 s => J1 (fun A96 => Grd v95 false (Fa P 58 v1 11 (fun v98 s => Ld P 3 v98 (fun v99 s => Cl P 50 #[v99, .int .i64 0, .int .i64 1000] (fun v100 s => Uo P .not v100 (fun v101 s => A96 v101 s) s) s) s) s) (A96 undef s)) (fun x97 s => Pk P v95 (.bool true) x97 (fun v102 s => CondP v102 (Ret P (fun w => K (.int .i64 2) w) s) (Fa P 58 v1 12 (fun v103 s => Ld P 3 v103 (fun v104 s => Cl P 50 #[v104, .int .i64 1, .int .i64 1000000] (fun v105 s => Uo P .not v105 (fun v106 s => J1 (fun A107 => Grd v106 false (Fa P 58 v1 13 (fun v109 s => Ld P 3 v109 (fun v110 s => Cl P 50 #[v110, .int .i64 1, .int .i64 1000000] (fun v111 s => Uo P .not v111 (fun v112 s => A107 v112 s) s) s) s) s) (A107 undef s)) (fun x108 s => Pk P v106 (.bool true) x108 (fun v113 s => J1 (fun A114 => Grd v113 false (Fa P 58 v1 14 (fun v116 s => Ld P 3 v116 (fun v117 s => Cl P 50 #[v117, .int .i64 1, .int .i64 1000000] (fun v118 s => Uo P .not v118 (fun v119 s => A114 v119 s) s) s) s) s) (A114 undef s)) (fun x115 s => Pk P v113 (.bool true) x115 (fun v120 s => CondP v120 (Ret P (fun w => K (.int .i64 2) w) s) (Ret P (fun w => K (.int .i64 0) w) s)) s)) s)) s) s) s) s)) s)) s)) s)) s)) s)) s)) s)) s) s) s) s)) s)))) s)) s) s) s)) s)) s)) s)) s) s) s) s) s
noncomputable def b34 : Code := Try.f34.body.getD .skip
theorem e34 (a0 : Value) (K : Value → World → Prop) : wpc P bmask 105 none b34 (lmOf [.tmp 2]) (ktOf P 105 [.tmp 2] K) (frOf [a0]) = D34 a0 K := by kernel_rfl
theorem c34 {a0 w : _} {K : Value → World → Prop} {R : Ending → World → Prop} (h : D34 a0 K ⟨w, []⟩) (hK : ∀ v w', K v w' → R (.returned v) w') : Calls P 34 #[a0] w R :=
  calls_of bodies_ok Try.func34 105 [.tmp 2] (c := b34) (args := [a0]) (K := K) (by kernel_rfl) rfl (e34 a0 K) h hK

/-- rollcall/config.Usual -/
def D35 (K : Value → World → Prop) (s : St) : Prop :=
  Al P 58 (fun v1 s => Bd P 58 #[(0, .string ⟨#[105, 114, 99, 46, 101, 120, 97, 109, 112, 108, 101]⟩), (4, .int .i64 100), (5, .int .i64 8192), (6, .int .i64 10), (7, .int .i64 100), (8, .int .i64 20), (9, .int .i64 30), (10, .int .i64 30), (11, .int .i64 50), (12, .int .i64 60), (13, .int .i64 30), (14, .int .i64 20)] (fun v2 s => Sv P 58 v1 v2 (fun _ s => Ret P (fun w => LdR P 58 v1 w fun v3 => K v3 w) s) s) s) s
noncomputable def b35 : Code := Try.f35.body.getD .skip
theorem e35 (K : Value → World → Prop) : wpc P bmask 2 none b35 (lmOf [.cell 0 58]) (ktOf P 2 [.cell 0 58] K) (frOf []) = D35 K := by kernel_rfl
theorem c35 {w : _} {K : Value → World → Prop} {R : Ending → World → Prop} (h : D35 K ⟨w, []⟩) (hK : ∀ v w', K v w' → R (.returned v) w') : Calls P 35 #[] w R :=
  calls_of bodies_ok Try.func35 2 [.cell 0 58] (c := b35) (args := []) (K := K) (by kernel_rfl) rfl (e35 K) h hK

/-- strings.IndexByte -/
def D44 (a0 a1 : Value) (K : Value → World → Prop) (s : St) : Prop :=
  Cl P 53 #[a0, a1] (fun v1 s => Ret P (fun w => K v1 w) s) s
noncomputable def b44 : Code := Try.f44.body.getD .skip
theorem e44 (a0 a1 : Value) (K : Value → World → Prop) : wpc P bmask 8 none b44 (lmOf [.tmp 4]) (ktOf P 8 [.tmp 4] K) (frOf [a0, a1]) = D44 a0 a1 K := by kernel_rfl
theorem c44 {a0 a1 w : _} {K : Value → World → Prop} {R : Ending → World → Prop} (h : D44 a0 a1 K ⟨w, []⟩) (hK : ∀ v w', K v w' → R (.returned v) w') : Calls P 44 #[a0, a1] w R :=
  calls_of bodies_ok Try.func44 8 [.tmp 4] (c := b44) (args := [a0, a1]) (K := K) (by kernel_rfl) rfl (e44 a0 a1 K) h hK

/-- rollcall/valid.Server -/
def D46 (a0 : Value) (K : Value → World → Prop) (s : St) : Prop :=
  Cl P 54 #[a0] (fun v1 s => J1 (fun A2 => Grd v1 true (Ix P 9 a0 (.int .i64 0) (fun v4 s => Cv P 5 3 v4 (fun v5 s => Cl P 55 #[v5] (fun v6 s => A2 v6 s) s) s) s) (A2 undef s)) (fun x3 s => Pk P v1 x3 (.bool false) (fun v7 s => J1 (fun A8 => Grd v7 true (Cl P 56 #[a0, .int .i64 46] (fun v10 s => A8 v10 s) s) (A8 undef s)) (fun x9 s => Pk P v7 x9 (.bool false) (fun v11 s => J1 (fun A12 => Grd v11 true (Cl P 56 #[a0, .int .i64 58] (fun v14 s => Uo P .not v14 (fun v15 s => A12 v15 s) s) s) (A12 undef s)) (fun x13 s => Pk P v11 x13 (.bool false) (fun v16 s => Ret P (fun w => K v16 w) s) s)) s)) s)) s
noncomputable def b46 : Code := Try.f46.body.getD .skip
theorem e46 (a0 : Value) (K : Value → World → Prop) : wpc P bmask 20 none b46 (lmOf [.tmp 2]) (ktOf P 20 [.tmp 2] K) (frOf [a0]) = D46 a0 K := by kernel_rfl
theorem c46 {a0 w : _} {K : Value → World → Prop} {R : Ending → World → Prop} (h : D46 a0 K ⟨w, []⟩) (hK : ∀ v w', K v w' → R (.returned v) w') : Calls P 46 #[a0] w R :=
  calls_of bodies_ok Try.func46 20 [.tmp 2] (c := b46) (args := [a0]) (K := K) (by kernel_rfl) rfl (e46 a0 K) h hK

/-- rollcall/config.secret -/
def D47 (a0 : Value) (K : Value → World → Prop) (s : St) : Prop :=
  Bi P .len #[9] 3 #[false] #[a0] (fun v1 s => Bo P .gtr 3 false true v1 (.int .i64 50) (fun v2 s => J1 (fun A3 => Grd v2 false (Bo P .neq 9 false true a0 (.string ⟨#[]⟩) (fun v5 s => A3 v5 s) s) (A3 undef s)) (fun x4 s => J1 (fun A6 => Grd x4 true (Ix P 9 a0 (.int .i64 0) (fun v8 s => Bo P .eql 5 false true v8 (byteV 58) (fun v9 s => A6 v9 s) s) s) (A6 undef s)) (fun x7 s => J1 (fun A10 => Grd v2 false (Pk P x4 x7 (.bool false) (fun v12 s => A10 v12 s) s) (A10 undef s)) (fun x11 s => Pk P v2 (.bool true) x11 (fun v13 s => CondP v13 (Ret P (fun w => K (.bool false) w) s) (Bi P .len #[9] 3 #[false] #[a0] (fun v14 s => L1 (.int .i64 0) s (fun N15 x16 s => Bo P .lss 3 false false x16 v14 (fun v17 s => CondP v17 (Ix P 9 a0 x16 (fun v18 s => Bo P .lss 5 false true v18 (byteV 33) (fun v19 s => J1 (fun A20 => Grd v19 false (Ix P 9 a0 x16 (fun v22 s => Bo P .gtr 5 false true v22 (byteV 126) (fun v23 s => A20 v23 s) s) s) (A20 undef s)) (fun x21 s => Pk P v19 (.bool true) x21 (fun v24 s => CondP v24 (Ret P (fun w => K (.bool false) w) s) (Bo P .add 3 false true x16 (.int .i64 1) (fun v25 s => N15 v25 s) s)) s)) s) s) (Ret P (fun w => K (.bool true) w) s)) s)) s)) s)))) s) s
noncomputable def b47 : Code := Try.f47.body.getD .skip
theorem e47 (a0 : Value) (K : Value → World → Prop) : wpc P bmask 32 none b47 (lmOf [.tmp 2]) (ktOf P 32 [.tmp 2] K) (frOf [a0]) = D47 a0 K := by kernel_rfl
theorem c47 {a0 w : _} {K : Value → World → Prop} {R : Ending → World → Prop} (h : D47 a0 K ⟨w, []⟩) (hK : ∀ v w', K v w' → R (.returned v) w') : Calls P 47 #[a0] w R :=
  calls_of bodies_ok Try.func47 32 [.tmp 2] (c := b47) (args := [a0]) (K := K) (by kernel_rfl) rfl (e47 a0 K) h hK

/-- rollcall/rollcallref03.Server -/
def D48 (a0 : Value) (K : Value → World → Prop) (s : St) : Prop :=
  Cl P 57 #[a0] (fun v1 s => J1 (fun A2 => Grd v1 true (Ix P 9 a0 (.int .i64 0) (fun v4 s => Cl P 58 #[v4] (fun v5 s => A2 v5 s) s) s) (A2 undef s)) (fun x3 s => Pk P v1 x3 (.bool false) (fun v6 s => J1 (fun A7 => Grd v6 true (Cl P 59 #[a0, byteV 46] (fun v9 s => A7 v9 s) s) (A7 undef s)) (fun x8 s => Pk P v6 x8 (.bool false) (fun v10 s => J1 (fun A11 => Grd v10 true (Cl P 59 #[a0, byteV 58] (fun v13 s => Uo P .not v13 (fun v14 s => A11 v14 s) s) s) (A11 undef s)) (fun x12 s => Pk P v10 x12 (.bool false) (fun v15 s => Ret P (fun w => K v15 w) s) s)) s)) s)) s
noncomputable def b48 : Code := Try.f48.body.getD .skip
theorem e48 (a0 : Value) (K : Value → World → Prop) : wpc P bmask 19 none b48 (lmOf [.tmp 2]) (ktOf P 19 [.tmp 2] K) (frOf [a0]) = D48 a0 K := by kernel_rfl
theorem c48 {a0 w : _} {K : Value → World → Prop} {R : Ending → World → Prop} (h : D48 a0 K ⟨w, []⟩) (hK : ∀ v w', K v w' → R (.returned v) w') : Calls P 48 #[a0] w R :=
  calls_of bodies_ok Try.func48 19 [.tmp 2] (c := b48) (args := [a0]) (K := K) (by kernel_rfl) rfl (e48 a0 K) h hK

/-- rollcall/rollcallref15.secret -/
def D49 (a0 : Value) (K : Value → World → Prop) (s : St) : Prop :=
  L1 (.int .i64 0) s (fun N1 x2 s => Bi P .len #[9] 3 #[false] #[a0] (fun v3 s => Bo P .lss 3 false false x2 v3 (fun v4 s => CondP v4 (Ix P 9 a0 x2 (fun v5 s => Bo P .lss 5 false true v5 (byteV 33) (fun v6 s => J1 (fun A7 => Grd v6 false (Ix P 9 a0 x2 (fun v9 s => Bo P .gtr 5 false true v9 (byteV 126) (fun v10 s => A7 v10 s) s) s) (A7 undef s)) (fun x8 s => Pk P v6 (.bool true) x8 (fun v11 s => J1 (fun A12 => Grd v11 false (Bo P .eql 3 false true x2 (.int .i64 0) (fun v14 s => A12 v14 s) s) (A12 undef s)) (fun x13 s => J1 (fun A15 => Grd x13 true (Ix P 9 a0 x2 (fun v17 s => Bo P .eql 5 false true v17 (byteV 58) (fun v18 s => A15 v18 s) s) s) (A15 undef s)) (fun x16 s => J1 (fun A19 => Grd v11 false (Pk P x13 x16 (.bool false) (fun v21 s => A19 v21 s) s) (A19 undef s)) (fun x20 s => Pk P v11 (.bool true) x20 (fun v22 s => CondP v22 (Ret P (fun w => K (.bool false) w) s) (Bo P .add 3 false true x2 (.int .i64 1) (fun v23 s => N1 v23 s) s)) s)))) s)) s) s) (Bi P .len #[9] 3 #[false] #[a0] (fun v24 s => Bo P .leq 3 false true v24 (.int .i64 50) (fun v25 s => Ret P (fun w => K v25 w) s) s) s)) s) s)
noncomputable def b49 : Code := Try.f49.body.getD .skip
theorem e49 (a0 : Value) (K : Value → World → Prop) : wpc P bmask 33 none b49 (lmOf [.tmp 2]) (ktOf P 33 [.tmp 2] K) (frOf [a0]) = D49 a0 K := by kernel_rfl
theorem c49 {a0 w : _} {K : Value → World → Prop} {R : Ending → World → Prop} (h : D49 a0 K ⟨w, []⟩) (hK : ∀ v w', K v w' → R (.returned v) w') : Calls P 49 #[a0] w R :=
  calls_of bodies_ok Try.func49 33 [.tmp 2] (c := b49) (args := [a0]) (K := K) (by kernel_rfl) rfl (e49 a0 K) h hK

/-- rollcall/rollcallref15.in -/
def D50 (a0 a1 a2 : Value) (K : Value → World → Prop) (s : St) : Prop :=
  Bo P .geq 3 false false a0 a1 (fun v1 s => J1 (fun A2 => Grd v1 true (Bo P .leq 3 false false a0 a2 (fun v4 s => A2 v4 s) s) (A2 undef s)) (fun x3 s => Pk P v1 x3 (.bool false) (fun v5 s => Ret P (fun w => K v5 w) s) s)) s
noncomputable def b50 : Code := Try.f50.body.getD .skip
theorem e50 (a0 a1 a2 : Value) (K : Value → World → Prop) : wpc P bmask 15 none b50 (lmOf [.tmp 6]) (ktOf P 15 [.tmp 6] K) (frOf [a0, a1, a2]) = D50 a0 a1 a2 K := by kernel_rfl
theorem c50 {a0 a1 a2 w : _} {K : Value → World → Prop} {R : Ending → World → Prop} (h : D50 a0 a1 a2 K ⟨w, []⟩) (hK : ∀ v w', K v w' → R (.returned v) w') : Calls P 50 #[a0, a1, a2] w R :=
  calls_of bodies_ok Try.func50 15 [.tmp 6] (c := b50) (args := [a0, a1, a2]) (K := K) (by kernel_rfl) rfl (e50 a0 a1 a2 K) h hK

/-- internal/stringslite.IndexByte -/
def D53 (a0 a1 : Value) (K : Value → World → Prop) (s : St) : Prop :=
  Dy P (.func (.func 61) #[] #[]) #[a0, a1] (fun v1 s => Ret P (fun w => K v1 w) s) s
noncomputable def b53 : Code := Try.f53.body.getD .skip
theorem e53 (a0 a1 : Value) (K : Value → World → Prop) : wpc P bmask 8 none b53 (lmOf [.tmp 4]) (ktOf P 8 [.tmp 4] K) (frOf [a0, a1]) = D53 a0 a1 K := by kernel_rfl
theorem c53 {a0 a1 w : _} {K : Value → World → Prop} {R : Ending → World → Prop} (h : D53 a0 a1 K ⟨w, []⟩) (hK : ∀ v w', K v w' → R (.returned v) w') : Calls P 53 #[a0, a1] w R :=
  calls_of bodies_ok Try.func53 8 [.tmp 4] (c := b53) (args := [a0, a1]) (K := K) (by kernel_rfl) rfl (e53 a0 a1 K) h hK

/-- rollcall/valid.Host -/
def D54 (a0 : Value) (K : Value → World → Prop) (s : St) : Prop :=
  Cl P 62 #[a0, .int .i64 1, .int .i64 63, .int .u16 16] (fun v1 s => J1 (fun A2 => Grd v1 true (Ix P 9 a0 (.int .i64 0) (fun v4 s => Bo P .neq 5 false true v4 (byteV 58) (fun v5 s => A2 v5 s) s) s) (A2 undef s)) (fun x3 s => Pk P v1 x3 (.bool false) (fun v6 s => Ret P (fun w => K v6 w) s) s)) s
noncomputable def b54 : Code := Try.f54.body.getD .skip
theorem e54 (a0 : Value) (K : Value → World → Prop) : wpc P bmask 10 none b54 (lmOf [.tmp 2]) (ktOf P 10 [.tmp 2] K) (frOf [a0]) = D54 a0 K := by kernel_rfl
theorem c54 {a0 w : _} {K : Value → World → Prop} {R : Ending → World → Prop} (h : D54 a0 K ⟨w, []⟩) (hK : ∀ v w', K v w' → R (.returned v) w') : Calls P 54 #[a0] w R :=
  calls_of bodies_ok Try.func54 10 [.tmp 2] (c := b54) (args := [a0]) (K := K) (by kernel_rfl) rfl (e54 a0 K) h hK

/-- rollcall/valid.letter -/
def D55 (a0 : Value) (K : Value → World → Prop) (s : St) : Prop :=
  Bo P .geq 3 false true a0 (.int .i64 97) (fun v1 s => J1 (fun A2 => Grd v1 true (Bo P .leq 3 false true a0 (.int .i64 122) (fun v4 s => A2 v4 s) s) (A2 undef s)) (fun x3 s => Pk P v1 x3 (.bool false) (fun v5 s => J1 (fun A6 => Grd v5 false (Bo P .geq 3 false true a0 (.int .i64 65) (fun v8 s => A6 v8 s) s) (A6 undef s)) (fun x7 s => J1 (fun A9 => Grd x7 true (Bo P .leq 3 false true a0 (.int .i64 90) (fun v11 s => A9 v11 s) s) (A9 undef s)) (fun x10 s => J1 (fun A12 => Grd v5 false (Pk P x7 x10 (.bool false) (fun v14 s => A12 v14 s) s) (A12 undef s)) (fun x13 s => Pk P v5 (.bool true) x13 (fun v15 s => Ret P (fun w => K v15 w) s) s)))) s)) s
noncomputable def b55 : Code := Try.f55.body.getD .skip
theorem e55 (a0 : Value) (K : Value → World → Prop) : wpc P bmask 17 none b55 (lmOf [.tmp 2]) (ktOf P 17 [.tmp 2] K) (frOf [a0]) = D55 a0 K := by kernel_rfl
theorem c55 {a0 w : _} {K : Value → World → Prop} {R : Ending → World → Prop} (h : D55 a0 K ⟨w, []⟩) (hK : ∀ v w', K v w' → R (.returned v) w') : Calls P 55 #[a0] w R :=
  calls_of bodies_ok Try.func55 17 [.tmp 2] (c := b55) (args := [a0]) (K := K) (by kernel_rfl) rfl (e55 a0 K) h hK

/-- rollcall/valid.has -/
def D56 (a0 a1 : Value) (K : Value → World → Prop) (s : St) : Prop :=
  Cv P 3 5 a1 (fun v1 s => Cl P 44 #[a0, v1] (fun v2 s => Bo P .geq 3 false true v2 (.int .i64 0) (fun v3 s => Ret P (fun w => K v3 w) s) s) s) s
noncomputable def b56 : Code := Try.f56.body.getD .skip
theorem e56 (a0 a1 : Value) (K : Value → World → Prop) : wpc P bmask 10 none b56 (lmOf [.tmp 4]) (ktOf P 10 [.tmp 4] K) (frOf [a0, a1]) = D56 a0 a1 K := by kernel_rfl
theorem c56 {a0 a1 w : _} {K : Value → World → Prop} {R : Ending → World → Prop} (h : D56 a0 a1 K ⟨w, []⟩) (hK : ∀ v w', K v w' → R (.returned v) w') : Calls P 56 #[a0, a1] w R :=
  calls_of bodies_ok Try.func56 10 [.tmp 4] (c := b56) (args := [a0, a1]) (K := K) (by kernel_rfl) rfl (e56 a0 a1 K) h hK

/-- rollcall/rollcallref03.Host -/
def D57 (a0 : Value) (K : Value → World → Prop) (s : St) : Prop :=
  L1 (.int .i64 0) s (fun N1 x2 s => Bi P .len #[9] 3 #[false] #[a0] (fun v3 s => Bo P .lss 3 false false x2 v3 (fun v4 s => CondP v4 (Ix P 9 a0 x2 (fun v5 s => Cl P 58 #[v5] (fun v6 s => Uo P .not v6 (fun v7 s => J1 (fun A8 => Grd v7 true (Cl P 63 #[v5] (fun v10 s => Uo P .not v10 (fun v11 s => A8 v11 s) s) s) (A8 undef s)) (fun x9 s => Pk P v7 x9 (.bool false) (fun v12 s => J1 (fun A13 => Grd v12 true (Bo P .neq 5 false true v5 (byteV 46) (fun v15 s => A13 v15 s) s) (A13 undef s)) (fun x14 s => Pk P v12 x14 (.bool false) (fun v16 s => J1 (fun A17 => Grd v16 true (Bo P .neq 5 false true v5 (byteV 45) (fun v19 s => A17 v19 s) s) (A17 undef s)) (fun x18 s => Pk P v16 x18 (.bool false) (fun v20 s => J1 (fun A21 => Grd v20 true (Bo P .neq 5 false true v5 (byteV 58) (fun v23 s => A21 v23 s) s) (A21 undef s)) (fun x22 s => J1 (fun A24 => Grd x22 false (Bo P .eql 3 false true x2 (.int .i64 0) (fun v26 s => A24 v26 s) s) (A24 undef s)) (fun x25 s => J1 (fun A27 => Grd v20 true (Pk P x22 (.bool true) x25 (fun v29 s => A27 v29 s) s) (A27 undef s)) (fun x28 s => Pk P v20 x28 (.bool false) (fun v30 s => CondP v30 (Ret P (fun w => K (.bool false) w) s) (Bo P .add 3 false true x2 (.int .i64 1) (fun v31 s => N1 v31 s) s)) s)))) s)) s)) s)) s) s) s) (Bi P .len #[9] 3 #[false] #[a0] (fun v32 s => Bo P .geq 3 false true v32 (.int .i64 1) (fun v33 s => J1 (fun A34 => Grd v33 true (Bi P .len #[9] 3 #[false] #[a0] (fun v36 s => Bo P .leq 3 false true v36 (.int .i64 63) (fun v37 s => A34 v37 s) s) s) (A34 undef s)) (fun x35 s => Pk P v33 x35 (.bool false) (fun v38 s => Ret P (fun w => K v38 w) s) s)) s) s)) s) s)
noncomputable def b57 : Code := Try.f57.body.getD .skip
theorem e57 (a0 : Value) (K : Value → World → Prop) : wpc P bmask 46 none b57 (lmOf [.tmp 2]) (ktOf P 46 [.tmp 2] K) (frOf [a0]) = D57 a0 K := by kernel_rfl
theorem c57 {a0 w : _} {K : Value → World → Prop} {R : Ending → World → Prop} (h : D57 a0 K ⟨w, []⟩) (hK : ∀ v w', K v w' → R (.returned v) w') : Calls P 57 #[a0] w R :=
  calls_of bodies_ok Try.func57 46 [.tmp 2] (c := b57) (args := [a0]) (K := K) (by kernel_rfl) rfl (e57 a0 K) h hK

/-- rollcall/rollcallref03.Letter -/
def D58 (a0 : Value) (K : Value → World → Prop) (s : St) : Prop :=
  Bo P .geq 5 false true a0 (byteV 65) (fun v1 s => J1 (fun A2 => Grd v1 true (Bo P .leq 5 false true a0 (byteV 90) (fun v4 s => A2 v4 s) s) (A2 undef s)) (fun x3 s => Pk P v1 x3 (.bool false) (fun v5 s => J1 (fun A6 => Grd v5 false (Bo P .geq 5 false true a0 (byteV 97) (fun v8 s => A6 v8 s) s) (A6 undef s)) (fun x7 s => J1 (fun A9 => Grd x7 true (Bo P .leq 5 false true a0 (byteV 122) (fun v11 s => A9 v11 s) s) (A9 undef s)) (fun x10 s => J1 (fun A12 => Grd v5 false (Pk P x7 x10 (.bool false) (fun v14 s => A12 v14 s) s) (A12 undef s)) (fun x13 s => Pk P v5 (.bool true) x13 (fun v15 s => Ret P (fun w => K v15 w) s) s)))) s)) s
noncomputable def b58 : Code := Try.f58.body.getD .skip
theorem e58 (a0 : Value) (K : Value → World → Prop) : wpc P bmask 17 none b58 (lmOf [.tmp 2]) (ktOf P 17 [.tmp 2] K) (frOf [a0]) = D58 a0 K := by kernel_rfl
theorem c58 {a0 w : _} {K : Value → World → Prop} {R : Ending → World → Prop} (h : D58 a0 K ⟨w, []⟩) (hK : ∀ v w', K v w' → R (.returned v) w') : Calls P 58 #[a0] w R :=
  calls_of bodies_ok Try.func58 17 [.tmp 2] (c := b58) (args := [a0]) (K := K) (by kernel_rfl) rfl (e58 a0 K) h hK

/-- rollcall/rollcallref03.in -/
def D59 (a0 a1 : Value) (K : Value → World → Prop) (s : St) : Prop :=
  L1 (.int .i64 0) s (fun N1 x2 s => Bi P .len #[9] 3 #[false] #[a0] (fun v3 s => Bo P .lss 3 false false x2 v3 (fun v4 s => CondP v4 (Ix P 9 a0 x2 (fun v5 s => Bo P .eql 5 false false v5 a1 (fun v6 s => CondP v6 (Ret P (fun w => K (.bool true) w) s) (Bo P .add 3 false true x2 (.int .i64 1) (fun v7 s => N1 v7 s) s)) s) s) (Ret P (fun w => K (.bool false) w) s)) s) s)
noncomputable def b59 : Code := Try.f59.body.getD .skip
theorem e59 (a0 a1 : Value) (K : Value → World → Prop) : wpc P bmask 17 none b59 (lmOf [.tmp 4]) (ktOf P 17 [.tmp 4] K) (frOf [a0, a1]) = D59 a0 a1 K := by kernel_rfl
theorem c59 {a0 a1 w : _} {K : Value → World → Prop} {R : Ending → World → Prop} (h : D59 a0 a1 K ⟨w, []⟩) (hK : ∀ v w', K v w' → R (.returned v) w') : Calls P 59 #[a0, a1] w R :=
  calls_of bodies_ok Try.func59 17 [.tmp 4] (c := b59) (args := [a0, a1]) (K := K) (by kernel_rfl) rfl (e59 a0 a1 K) h hK

/-- rollcall/valid.all -/
def D62 (a0 a1 a2 a3 : Value) (K : Value → World → Prop) (s : St) : Prop :=
  Bi P .len #[9] 3 #[false] #[a0] (fun v1 s => Bo P .lss 3 false false v1 a1 (fun v2 s => J1 (fun A3 => Grd v2 false (Bi P .len #[9] 3 #[false] #[a0] (fun v5 s => Bo P .gtr 3 false false v5 a2 (fun v6 s => A3 v6 s) s) s) (A3 undef s)) (fun x4 s => Pk P v2 (.bool true) x4 (fun v7 s => CondP v7 (Ret P (fun w => K (.bool false) w) s) (Cl P 65 #[] (fun v8 s => Al P 98 (fun v9 s => Sv P 98 v9 v8 (fun _ s => Bi P .len #[9] 3 #[false] #[a0] (fun v10 s => L1 (.int .i64 0) s (fun N11 x12 s => Bo P .lss 3 false false x12 v10 (fun v13 s => CondP v13 (Ix P 9 a0 x12 (fun v14 s => Ia P 98 v9 v14 (fun v15 s => Ld P 95 v15 (fun v16 s => Bo P .and 95 false false v16 a3 (fun v17 s => Bo P .eql 95 false true v17 (.int .u16 0) (fun v18 s => CondP v18 (Ret P (fun w => K (.bool false) w) s) (Bo P .add 3 false true x12 (.int .i64 1) (fun v19 s => N11 v19 s) s)) s) s) s) s) s) (Ret P (fun w => K (.bool true) w) s)) s)) s) s) s) s)) s)) s) s
noncomputable def b62 : Code := Try.f62.body.getD .skip
theorem e62 (a0 a1 a2 a3 : Value) (K : Value → World → Prop) : wpc P bmask 36 none b62 (lmOf [.tmp 8]) (ktOf P 36 [.tmp 8] K) (frOf [a0, a1, a2, a3]) = D62 a0 a1 a2 a3 K := by kernel_rfl
theorem c62 {a0 a1 a2 a3 w : _} {K : Value → World → Prop} {R : Ending → World → Prop} (h : D62 a0 a1 a2 a3 K ⟨w, []⟩) (hK : ∀ v w', K v w' → R (.returned v) w') : Calls P 62 #[a0, a1, a2, a3] w R :=
  calls_of bodies_ok Try.func62 36 [.tmp 8] (c := b62) (args := [a0, a1, a2, a3]) (K := K) (by kernel_rfl) rfl (e62 a0 a1 a2 a3 K) h hK

/-- rollcall/rollcallref03.Digit -/
def D63 (a0 : Value) (K : Value → World → Prop) (s : St) : Prop :=
  Bo P .geq 5 false true a0 (byteV 48) (fun v1 s => J1 (fun A2 => Grd v1 true (Bo P .leq 5 false true a0 (byteV 57) (fun v4 s => A2 v4 s) s) (A2 undef s)) (fun x3 s => Pk P v1 x3 (.bool false) (fun v5 s => Ret P (fun w => K v5 w) s) s)) s
noncomputable def b63 : Code := Try.f63.body.getD .skip
theorem e63 (a0 : Value) (K : Value → World → Prop) : wpc P bmask 9 none b63 (lmOf [.tmp 2]) (ktOf P 9 [.tmp 2] K) (frOf [a0]) = D63 a0 K := by kernel_rfl
theorem c63 {a0 w : _} {K : Value → World → Prop} {R : Ending → World → Prop} (h : D63 a0 K ⟨w, []⟩) (hK : ∀ v w', K v w' → R (.returned v) w') : Calls P 63 #[a0] w R :=
  calls_of bodies_ok Try.func63 9 [.tmp 2] (c := b63) (args := [a0]) (K := K) (by kernel_rfl) rfl (e63 a0 K) h hK

/-- rollcall/valid.kinds -/
def D65 (K : Value → World → Prop) (s : St) : Prop :=
  Al P 98 (fun v1 s => Al P 98 (fun v2 s => L1 (.int .i64 0) s (fun N3 x4 s => Bo P .lss 3 false true x4 (.int .i64 256) (fun v5 s => CondP v5 (J0 (fun A6 => Bo P .geq 3 false true x4 (.int .i64 48) (fun v7 s => J1 (fun A8 => Grd v7 true (Bo P .leq 3 false true x4 (.int .i64 57) (fun v10 s => A8 v10 s) s) (A8 undef s)) (fun x9 s => Pk P v7 x9 (.bool false) (fun v11 s => Bo P .geq 3 false true x4 (.int .i64 33) (fun v12 s => J1 (fun A13 => Grd v12 true (Bo P .leq 3 false true x4 (.int .i64 126) (fun v15 s => A13 v15 s) s) (A13 undef s)) (fun x14 s => Pk P v12 x14 (.bool false) (fun v16 s => J0 (fun A17 => Cl P 55 #[x4] (fun v18 s => J1 (fun A19 => Grd v18 false (Cl P 56 #[.string ⟨#[91, 93, 92, 95, 94, 123, 124, 125, 96]⟩, x4] (fun v21 s => A19 v21 s) s) (A19 undef s)) (fun x20 s => Pk P v18 (.bool true) x20 (fun v22 s => CondP v22 (Ia P 98 v2 x4 (fun v23 s => Ld P 95 v23 (fun v24 s => Bo P .or 95 false true v24 (.int .u16 3) (fun v25 s => Ia P 98 v2 x4 (fun v26 s => Sv P 95 v26 v25 (fun _ s => A17 s) s) s) s) s) s) (A17 s)) s)) s) (fun s => J0 (fun A27 => J1 (fun A28 => Grd v11 false (Bo P .eql 3 false true x4 (.int .i64 45) (fun v30 s => A28 v30 s) s) (A28 undef s)) (fun x29 s => Pk P v11 (.bool true) x29 (fun v31 s => CondP v31 (Ia P 98 v2 x4 (fun v32 s => Ld P 95 v32 (fun v33 s => Bo P .or 95 false true v33 (.int .u16 2) (fun v34 s => Ia P 98 v2 x4 (fun v35 s => Sv P 95 v35 v34 (fun _ s => A27 s) s) s) s) s) s) (A27 s)) s)) (fun s => J0 (fun A36 => Cl P 56 #[.string ⟨#[0, 7, 10, 13, 32, 44, 58]⟩, x4] (fun v37 s => Uo P .not v37 (fun v38 s => CondP v38 (Ia P 98 v2 x4 (fun v39 s => Ld P 95 v39 (fun v40 s => Bo P .or 95 false true v40 (.int .u16 4) (fun v41 s => Ia P 98 v2 x4 (fun v42 s => Sv P 95 v42 v41 (fun _ s => A36 s) s) s) s) s) s) (A36 s)) s) s) (fun s => J0 (fun A43 => J1 (fun A44 => Grd v16 true (Cl P 56 #[.string ⟨#[33, 64, 42, 63, 58]⟩, x4] (fun v46 s => Uo P .not v46 (fun v47 s => A44 v47 s) s) s) (A44 undef s)) (fun x45 s => Pk P v16 x45 (.bool false) (fun v48 s => CondP v48 (Ia P 98 v2 x4 (fun v49 s => Ld P 95 v49 (fun v50 s => Bo P .or 95 false true v50 (.int .u16 8) (fun v51 s => Ia P 98 v2 x4 (fun v52 s => Sv P 95 v52 v51 (fun _ s => A43 s) s) s) s) s) s) (A43 s)) s)) (fun s => J0 (fun A53 => Cl P 55 #[x4] (fun v54 s => J1 (fun A55 => Grd v54 false (A55 v11 s) (A55 undef s)) (fun x56 s => Pk P v54 (.bool true) x56 (fun v57 s => J1 (fun A58 => Grd v57 false (Cl P 56 #[.string ⟨#[46, 45, 58]⟩, x4] (fun v60 s => A58 v60 s) s) (A58 undef s)) (fun x59 s => Pk P v57 (.bool true) x59 (fun v61 s => CondP v61 (Ia P 98 v2 x4 (fun v62 s => Ld P 95 v62 (fun v63 s => Bo P .or 95 false true v63 (.int .u16 16) (fun v64 s => Ia P 98 v2 x4 (fun v65 s => Sv P 95 v65 v64 (fun _ s => A53 s) s) s) s) s) s) (A53 s)) s)) s)) s) (fun s => J0 (fun A66 => J1 (fun A67 => Grd v16 true (Bo P .neq 3 false true x4 (.int .i64 44) (fun v69 s => A67 v69 s) s) (A67 undef s)) (fun x68 s => Pk P v16 x68 (.bool false) (fun v70 s => CondP v70 (Ia P 98 v2 x4 (fun v71 s => Ld P 95 v71 (fun v72 s => Bo P .or 95 false true v72 (.int .u16 32) (fun v73 s => Ia P 98 v2 x4 (fun v74 s => Sv P 95 v74 v73 (fun _ s => A66 s) s) s) s) s) s) (A66 s)) s)) (fun s => Cl P 56 #[.string ⟨#[0, 10, 13]⟩, x4] (fun v75 s => Uo P .not v75 (fun v76 s => CondP v76 (Ia P 98 v2 x4 (fun v77 s => Ld P 95 v77 (fun v78 s => Bo P .or 95 false true v78 (.int .u16 64) (fun v79 s => Ia P 98 v2 x4 (fun v80 s => Sv P 95 v80 v79 (fun _ s => A6 s) s) s) s) s) s) (A6 s)) s) s))))))) s)) s) s)) s) (fun s => Bo P .add 3 false true x4 (.int .i64 1) (fun v81 s => N3 v81 s) s)) (Ld P 98 v2 (fun v82 s => Sv P 98 v1 v82 (fun _ s => Ret P (fun w => LdR P 98 v1 w fun v83 => K v83 w) s) s) s)) s)) s) s
noncomputable def b65 : Code := Try.f65.body.getD .skip
theorem e65 (K : Value → World → Prop) : wpc P bmask 94 none b65 (lmOf [.cell 0 98]) (ktOf P 94 [.cell 0 98] K) (frOf []) = D65 K := by kernel_rfl
theorem c65 {w : _} {K : Value → World → Prop} {R : Ending → World → Prop} (h : D65 K ⟨w, []⟩) (hK : ∀ v w', K v w' → R (.returned v) w') : Calls P 65 #[] w R :=
  calls_of bodies_ok Try.func65 94 [.cell 0 98] (c := b65) (args := []) (K := K) (by kernel_rfl) rfl (e65 K) h hK

instance : ExIdx P 61 := ⟨run_callFunc_indexByte Try.func61 (by kernel_rfl) (by kernel_rfl) (by kernel_rfl) (by kernel_rfl)⟩
instance : TyU P 3 (.int .i64) := ⟨Try.underlying3⟩
instance : TyAgg P 3 false := ⟨Try.isAgg3⟩
instance : TySize P 3 1 := ⟨Try.sizeOf3⟩
instance : TyZ P 3 [.int .i64 0] := ⟨fun w => ⟨_, Try.zeroValue3 w, rfl⟩⟩
instance : TyU P 4 (.bool) := ⟨Try.underlying4⟩
instance : TyAgg P 4 false := ⟨Try.isAgg4⟩
instance : TySize P 4 1 := ⟨Try.sizeOf4⟩
instance : TyZ P 4 [.bool false] := ⟨fun w => ⟨_, Try.zeroValue4 w, rfl⟩⟩
instance : TyU P 5 (.int .u8) := ⟨Try.underlying5⟩
instance : TyAgg P 5 false := ⟨Try.isAgg5⟩
instance : TySize P 5 1 := ⟨Try.sizeOf5⟩
instance : TyZ P 5 [byteV 0] := ⟨fun w => ⟨_, Try.zeroValue5 w, rfl⟩⟩
instance : TyU P 9 (.string) := ⟨Try.underlying9⟩
instance : TyAgg P 9 false := ⟨Try.isAgg9⟩
instance : TySize P 9 1 := ⟨Try.sizeOf9⟩
instance : TyZ P 9 [.string ⟨#[]⟩] := ⟨fun w => ⟨_, Try.zeroValue9 w, rfl⟩⟩
instance : TyAgg P 58 true := ⟨Try.isAgg58⟩
instance : TySize P 58 15 := ⟨Try.sizeOf58⟩
instance : TyZ P 58 [.string ⟨#[]⟩, .string ⟨#[]⟩, .string ⟨#[]⟩, .string ⟨#[]⟩, .int .i64 0, .int .i64 0, .int .i64 0, .int .i64 0, .int .i64 0, .int .i64 0, .int .i64 0, .int .i64 0, .int .i64 0, .int .i64 0, .int .i64 0] := ⟨fun w => ⟨_, Try.zeroValue58 w, rfl⟩⟩
instance : TyEq P 58 [(9, 0), (9, 1), (9, 2), (9, 3), (3, 4), (3, 5), (3, 6), (3, 7), (3, 8), (3, 9), (3, 10), (3, 11), (3, 12), (3, 13), (3, 14)] := ⟨⟨_, Try.underlying58, rfl, by decide⟩, Try.stoodInHeld58, Try.eqGuardType58⟩
instance : TyB P 58 [.string ⟨#[]⟩, .string ⟨#[]⟩, .string ⟨#[]⟩, .string ⟨#[]⟩, .int .i64 0, .int .i64 0, .int .i64 0, .int .i64 0, .int .i64 0, .int .i64 0, .int .i64 0, .int .i64 0, .int .i64 0, .int .i64 0, .int .i64 0] [(0, 1), (1, 1), (2, 1), (3, 1), (4, 1), (5, 1), (6, 1), (7, 1), (8, 1), (9, 1), (10, 1), (11, 1), (12, 1), (13, 1), (14, 1)] := ⟨fun ps => by kernel_rfl⟩
instance : TyFld P 58 0 0 := ⟨fun a w => by simp [Instr.fieldAt, Instr.sureAddr, fieldPlace, Sem.run_bind, Try.runUnderlying58, Try.sizeOf9]⟩
instance : TyFld P 58 1 1 := ⟨fun a w => by simp [Instr.fieldAt, Instr.sureAddr, fieldPlace, Sem.run_bind, Try.runUnderlying58, Try.sizeOf9]⟩
instance : TyFld P 58 2 2 := ⟨fun a w => by simp [Instr.fieldAt, Instr.sureAddr, fieldPlace, Sem.run_bind, Try.runUnderlying58, Try.sizeOf9]⟩
instance : TyFld P 58 3 3 := ⟨fun a w => by simp [Instr.fieldAt, Instr.sureAddr, fieldPlace, Sem.run_bind, Try.runUnderlying58, Try.sizeOf9]⟩
instance : TyFld P 58 4 4 := ⟨fun a w => by simp [Instr.fieldAt, Instr.sureAddr, fieldPlace, Sem.run_bind, Try.runUnderlying58, Try.sizeOf3]⟩
instance : TyFld P 58 5 5 := ⟨fun a w => by simp [Instr.fieldAt, Instr.sureAddr, fieldPlace, Sem.run_bind, Try.runUnderlying58, Try.sizeOf3]⟩
instance : TyFld P 58 6 6 := ⟨fun a w => by simp [Instr.fieldAt, Instr.sureAddr, fieldPlace, Sem.run_bind, Try.runUnderlying58, Try.sizeOf3]⟩
instance : TyFld P 58 7 7 := ⟨fun a w => by simp [Instr.fieldAt, Instr.sureAddr, fieldPlace, Sem.run_bind, Try.runUnderlying58, Try.sizeOf3]⟩
instance : TyFld P 58 8 8 := ⟨fun a w => by simp [Instr.fieldAt, Instr.sureAddr, fieldPlace, Sem.run_bind, Try.runUnderlying58, Try.sizeOf3]⟩
instance : TyFld P 58 9 9 := ⟨fun a w => by simp [Instr.fieldAt, Instr.sureAddr, fieldPlace, Sem.run_bind, Try.runUnderlying58, Try.sizeOf3]⟩
instance : TyFld P 58 10 10 := ⟨fun a w => by simp [Instr.fieldAt, Instr.sureAddr, fieldPlace, Sem.run_bind, Try.runUnderlying58, Try.sizeOf3]⟩
instance : TyFld P 58 11 11 := ⟨fun a w => by simp [Instr.fieldAt, Instr.sureAddr, fieldPlace, Sem.run_bind, Try.runUnderlying58, Try.sizeOf3]⟩
instance : TyFld P 58 12 12 := ⟨fun a w => by simp [Instr.fieldAt, Instr.sureAddr, fieldPlace, Sem.run_bind, Try.runUnderlying58, Try.sizeOf3]⟩
instance : TyFld P 58 13 13 := ⟨fun a w => by simp [Instr.fieldAt, Instr.sureAddr, fieldPlace, Sem.run_bind, Try.runUnderlying58, Try.sizeOf3]⟩
instance : TyFld P 58 14 14 := ⟨fun a w => by simp [Instr.fieldAt, Instr.sureAddr, fieldPlace, Sem.run_bind, Try.runUnderlying58, Try.sizeOf3]⟩
instance : TyU P 60 (.int .i64) := ⟨Try.underlying60⟩
instance : TyAgg P 60 false := ⟨Try.isAgg60⟩
instance : TySize P 60 1 := ⟨Try.sizeOf60⟩
instance : TyZ P 60 [.int .i64 0] := ⟨fun w => ⟨_, Try.zeroValue60 w, rfl⟩⟩
instance : TyAgg P 77 true := ⟨Try.isAgg77⟩
instance : TySize P 77 3 := ⟨Try.sizeOf77⟩
instance : TyZ P 77 [.int .i64 0, .int .i64 0, .int .i64 0] := ⟨fun w => ⟨_, Try.zeroValue77 w, rfl⟩⟩
instance : TyEq P 77 [(3, 0), (3, 1), (3, 2)] := ⟨⟨_, Try.underlying77, rfl, by decide⟩, Try.stoodInHeld77, Try.eqGuardType77⟩
instance : TyB P 77 [.int .i64 0, .int .i64 0, .int .i64 0] [(0, 1), (1, 1), (2, 1)] := ⟨fun ps => by kernel_rfl⟩
instance : TyFld P 77 0 0 := ⟨fun a w => by simp [Instr.fieldAt, Instr.sureAddr, fieldPlace, Sem.run_bind, Try.runUnderlying77, Try.sizeOf3]⟩
instance : TyFld P 77 1 1 := ⟨fun a w => by simp [Instr.fieldAt, Instr.sureAddr, fieldPlace, Sem.run_bind, Try.runUnderlying77, Try.sizeOf3]⟩
instance : TyFld P 77 2 2 := ⟨fun a w => by simp [Instr.fieldAt, Instr.sureAddr, fieldPlace, Sem.run_bind, Try.runUnderlying77, Try.sizeOf3]⟩
instance : TyU P 78 (.slice 77) := ⟨Try.underlying78⟩
instance : TyAgg P 78 false := ⟨Try.isAgg78⟩
instance : TySize P 78 1 := ⟨Try.sizeOf78⟩
instance : TyZ P 78 [.slice none 0 0] := ⟨fun w => ⟨_, Try.zeroValue78 w, rfl⟩⟩
instance : TySl P 78 77 3 := ⟨Try.t77, .agg #[.int .i64 0, .int .i64 0, .int .i64 0], Try.underlying78, Try.type77, rfl, rfl, rfl, by decide, by decide⟩
instance : TyU P 95 (.int .u16) := ⟨Try.underlying95⟩
instance : TyAgg P 95 false := ⟨Try.isAgg95⟩
instance : TySize P 95 1 := ⟨Try.sizeOf95⟩
instance : TyZ P 95 [.int .u16 0] := ⟨fun w => ⟨_, Try.zeroValue95 w, rfl⟩⟩
instance : TyAgg P 98 true := ⟨Try.isAgg98⟩
instance : TySize P 98 256 := ⟨Try.sizeOf98⟩
instance : TyZ P 98 (List.replicate 256 (.int .u16 0)) := ⟨fun w => ⟨_, Try.zeroValue98 w, by kernel_rfl⟩⟩
instance : TyArr P 98 256 95 1 := ⟨Try.underlying98, Try.sizeOf95⟩
end Go.Proofs.Ytodnbkggkdadkaa
