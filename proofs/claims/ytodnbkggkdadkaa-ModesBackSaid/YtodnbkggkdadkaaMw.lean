import Derived.Test.YtodnbkggkdadkaaProg
import Derived.Test.YtodnbkggkdadkaaSw
set_option linter.all false
namespace Go.Proofs.Ytodnbkggkdadkaa
open Go.Vx
noncomputable abbrev P := Try.prog
def bmask : Nat := 53034389211914960892
theorem bodies_ok : Bodies P bmask := bodies_of 83 (by decide +kernel) (by kernel_rfl) (by kernel_rfl)

/-- rollcall/rollcalllaw18.ModesParses -/
def D8 (a0 : Value) (K : Value → World → Prop) (s : St) : Prop :=
  Cl P 24 #[] (fun v1 s => Uo P .not v1 (fun v2 s => CondP v2 (Ret P (fun w => K (.bool false) w) s) (Cl P 25 #[a0] (fun v3 s => CondP v3 (Ret P (fun w => K (.bool true) w) s) (Cl P 26 #[a0] (fun v4 s => L2 (.int .i64 0) (.int .i64 0) s (fun N5 x6 x7 s => Bi P .len #[47] 3 #[false] #[v4] (fun v8 s => Bo P .lss 3 false false x7 v8 (fun v9 s => CondP v9 (J1 (fun A10 => Dw (fun s => Qt (Ia P 47 v4 x7) s fun v12 => Qt (Fa P 51 v12 1) s fun v13 => Qt (Ld P 5 v13) s fun v14 => Qt (Ia P 47 v4 x7) s fun v15 => Qt (Fa P 51 v15 0) s fun v16 => Qt (Ld P 4 v16) s fun v17 => Cl P 27 #[v14, v17] (fun v18 s => CondP v18 (Bo P .add 3 false true x6 (.int .i64 1) (fun v19 s => A10 v19 s) s) (A10 x6 s)) s) s) (fun x11 s => Bo P .add 3 false true x7 (.int .i64 1) (fun v20 s => N5 x11 v20 s) s)) (Cl P 29 #[a0] (fun v21 s => Cl P 28 #[v4, v21] (fun v22 s => J1 (fun A23 => Grd v22 true (Bo P .leq 3 false true x6 (.int .i64 4) (fun v25 s => A23 v25 s) s) (A23 undef s)) (fun x24 s => Pk P v22 x24 (.bool false) (fun v26 s => Ret P (fun w => K v26 w) s) s)) s) s)) s) s)) s)) s)) s) s
noncomputable def b8 : Code := Try.f8.body.getD .skip
theorem e8 (a0 : Value) (K : Value → World → Prop) : wpc P bmask 39 none b8 (lmOf [.tmp 2]) (ktOf P 39 [.tmp 2] K) (frOf [a0]) = D8 a0 K := by kernel_rfl
theorem c8 {a0 w : _} {K : Value → World → Prop} {R : Ending → World → Prop} (h : D8 a0 K ⟨w, []⟩) (hK : ∀ v w', K v w' → R (.returned v) w') : Calls P 8 #[a0] w R :=
  calls_of bodies_ok Try.func8 39 [.tmp 2] (c := b8) (args := [a0]) (K := K) (by kernel_rfl) rfl (e8 a0 K) h hK

/-- rollcall/rollcalllaw18.ModesSeq -/
def D9 (a0 : Value) (K : Value → World → Prop) (s : St) : Prop :=
  Bx P 9 a0 (fun v1 s => Al P 4 (fun v2 s => Cl P 24 #[] (fun v3 s => Uo P .not v3 (fun v4 s => CondP v4 (Sv P 4 v2 (.bool false) (fun _ s => Ret P (fun w => LdR P 4 v2 w fun v5 => K v5 w) s) s) (Ld P 9 v1 (fun v6 s => Bi P .len #[9] 3 #[false] #[v6] (fun v7 s => Bo P .gtr 3 false true v7 (.int .i64 100) (fun v8 s => CondP v8 (Sv P 4 v2 (.bool true) (fun _ s => Ret P (fun w => LdR P 4 v2 w fun v9 => K v9 w) s) s) (Al P 3 (fun v10 s => Sv P 3 v10 (.int .i64 0) (fun _ s => Al P 4 (fun v11 s => Sv P 4 v11 (.bool true) (fun _ s => Al P 4 (fun v12 s => Sv P 4 v12 (.bool true) (fun _ s => Ld P 9 v1 (fun v13 s => Cl P 30 #[v13] (fun v14 s => Bo P .eql 54 false true v14 (.nilFunc) (fun v15 s => CondP v15 (Sv P 4 v2 (.bool false) (fun _ s => Ret P (fun w => LdR P 4 v2 w fun v16 => K v16 w) s) s) (Rf P none 2 v14 (fun l17 as18 R19 s => Bg P l17 (fun s => L0 s (fun N21 s => Ld P 3 v10 (fun v22 s => Ld P 9 v1 (fun v23 s => Bi P .len #[9] 3 #[false] #[v23] (fun v24 s => Bo P .lss 3 false false v22 v24 (fun v25 s => J1 (fun A26 => Grd v25 true (Ld P 9 v1 (fun v28 s => Ld P 3 v10 (fun v29 s => Ix P 9 v28 v29 (fun v30 s => Bo P .eql 5 false true v30 (byteV 43) (fun v31 s => A26 v31 s) s) s) s) s) (A26 undef s)) (fun x27 s => J1 (fun A32 => Grd x27 false (Ld P 9 v1 (fun v34 s => Ld P 3 v10 (fun v35 s => Ix P 9 v34 v35 (fun v36 s => Bo P .eql 5 false true v36 (byteV 45) (fun v37 s => A32 v37 s) s) s) s) s) (A32 undef s)) (fun x33 s => J1 (fun A38 => Grd v25 true (Pk P x27 (.bool true) x33 (fun v40 s => A38 v40 s) s) (A38 undef s)) (fun x39 s => Pk P v25 x39 (.bool false) (fun v41 s => CondP v41 (Ld P 9 v1 (fun v42 s => Ld P 3 v10 (fun v43 s => Ix P 9 v42 v43 (fun v44 s => Bo P .eql 5 false true v44 (byteV 43) (fun v45 s => Sv P 4 v11 v45 (fun _ s => Ld P 3 v10 (fun v46 s => Bo P .add 3 false true v46 (.int .i64 1) (fun v47 s => Sv P 3 v10 v47 (fun _ s => N21 s) s) s) s) s) s) s) s) s) (Ld P 3 v10 (fun v48 s => Ld P 9 v1 (fun v49 s => Bi P .len #[9] 3 #[false] #[v49] (fun v50 s => Bo P .geq 3 false false v48 v50 (fun v51 s => CondP v51 (Sv P 4 v2 (.bool false) (fun _ s => Er P l17 (some .ret) R19 s) s) (Ld P 4 v12 (fun v52 s => J1 (fun A53 => Grd v52 true (Ld P 9 v1 (fun v55 s => Ld P 3 v10 (fun v56 s => Ix P 9 v55 v56 (fun v57 s => Bo P .eql 5 false false v57 (as18.headD undef) (fun v58 s => A53 v58 s) s) s) s) s) (A53 undef s)) (fun x54 s => Pk P v52 x54 (.bool false) (fun v59 s => J1 (fun A60 => Grd v59 true (Ld P 4 v11 (fun v62 s => Bo P .eql 4 false false (as18.tail.headD undef) v62 (fun v63 s => A60 v63 s) s) s) (A60 undef s)) (fun x61 s => Pk P v59 x61 (.bool false) (fun v64 s => Sv P 4 v12 v64 (fun _ s => Ld P 3 v10 (fun v65 s => Bo P .add 3 false true v65 (.int .i64 1) (fun v66 s => Sv P 3 v10 v66 (fun _ s => Er P l17 none R19 s) s) s) s) s) s)) s)) s)) s) s) s) s)) s)))) s) s) s) s)) s) (fun s => L0 s (fun N67 s => Ld P 3 v10 (fun v68 s => Ld P 9 v1 (fun v69 s => Bi P .len #[9] 3 #[false] #[v69] (fun v70 s => Bo P .lss 3 false false v68 v70 (fun v71 s => J1 (fun A72 => Grd v71 true (Ld P 9 v1 (fun v74 s => Ld P 3 v10 (fun v75 s => Ix P 9 v74 v75 (fun v76 s => Bo P .eql 5 false true v76 (byteV 43) (fun v77 s => A72 v77 s) s) s) s) s) (A72 undef s)) (fun x73 s => J1 (fun A78 => Grd x73 false (Ld P 9 v1 (fun v80 s => Ld P 3 v10 (fun v81 s => Ix P 9 v80 v81 (fun v82 s => Bo P .eql 5 false true v82 (byteV 45) (fun v83 s => A78 v83 s) s) s) s) s) (A78 undef s)) (fun x79 s => J1 (fun A84 => Grd v71 true (Pk P x73 (.bool true) x79 (fun v86 s => A84 v86 s) s) (A84 undef s)) (fun x85 s => Pk P v71 x85 (.bool false) (fun v87 s => CondP v87 (Ld P 3 v10 (fun v88 s => Bo P .add 3 false true v88 (.int .i64 1) (fun v89 s => Sv P 3 v10 v89 (fun _ s => N67 s) s) s) s) (Ld P 4 v12 (fun v90 s => J1 (fun A91 => Grd v90 true (Ld P 3 v10 (fun v93 s => Ld P 9 v1 (fun v94 s => Bi P .len #[9] 3 #[false] #[v94] (fun v95 s => Bo P .eql 3 false false v93 v95 (fun v96 s => A91 v96 s) s) s) s) s) (A91 undef s)) (fun x92 s => Pk P v90 x92 (.bool false) (fun v97 s => Sv P 4 v2 v97 (fun _ s => Ret P (fun w => LdR P 4 v2 w fun v98 => K v98 w) s) s) s)) s)) s)))) s) s) s) s)) (fun s => Ret P (fun w => LdR P 4 v2 w fun v99 => K v99 w) s) (fun i20 s => False) s)) s) s) s) s) s) s) s) s) s)) s) s) s)) s) s) s) s
noncomputable def b9 : Code := Try.f9.body.getD .skip
theorem e9 (a0 : Value) (K : Value → World → Prop) : wpc P bmask 87 none b9 (lmOf [.cell 2 4]) (ktOf P 87 [.cell 2 4] K) (frOf [a0]) = D9 a0 K := by kernel_rfl
theorem c9 {a0 w : _} {K : Value → World → Prop} {R : Ending → World → Prop} (h : D9 a0 K ⟨w, []⟩) (hK : ∀ v w', K v w' → R (.returned v) w') : Calls P 9 #[a0] w R :=
  calls_of bodies_ok Try.func9 87 [.cell 2 4] (c := b9) (args := [a0]) (K := K) (by kernel_rfl) rfl (e9 a0 K) h hK

/-- rollcall/rollcalllaw18.ModesTexts -/
def D12 (a0 : Value) (K : Value → World → Prop) (s : St) : Prop :=
  Cl P 24 #[] (fun v1 s => Uo P .not v1 (fun v2 s => CondP v2 (Ret P (fun w => K (.bool false) w) s) (Bi P .len #[47] 3 #[false] #[a0] (fun v3 s => Bo P .gtr 3 false true v3 (.int .i64 60) (fun v4 s => CondP v4 (Ret P (fun w => K (.bool true) w) s) (L1 (.int .i64 0) s (fun N5 x6 s => Bi P .len #[47] 3 #[false] #[a0] (fun v7 s => Bo P .lss 3 false false x6 v7 (fun v8 s => CondP v8 (Ia P 47 a0 x6 (fun v9 s => Fa P 51 v9 2 (fun v10 s => Ld P 9 v10 (fun v11 s => Bi P .len #[9] 3 #[false] #[v11] (fun v12 s => Bo P .gtr 3 false true v12 (.int .i64 60) (fun v13 s => CondP v13 (Ret P (fun w => K (.bool true) w) s) (J1 (fun A14 => Dw (fun s => Qt (Ia P 47 a0 x6) s fun v16 => Qt (Fa P 51 v16 1) s fun v17 => Qt (Ld P 5 v17) s fun v18 => Qt (Ia P 47 a0 x6) s fun v19 => Qt (Fa P 51 v19 0) s fun v20 => Qt (Ld P 4 v20) s fun v21 => Qt (Ia P 47 a0 x6) s fun v22 => Qt (Fa P 51 v22 1) s fun v23 => Qt (Ld P 5 v23) s fun v24 => Qt (Ia P 47 a0 x6) s fun v25 => Qt (Fa P 51 v25 0) s fun v26 => Qt (Ld P 4 v26) s fun v27 => Cl P 27 #[v18, v21] (fun v28 s => Ck (Ia P 47 a0 x6) v22 s ∧ Ck (Fa P 51 v22 1) v23 s ∧ Ck (Ld P 5 v23) v24 s ∧ Ck (Ia P 47 a0 x6) v25 s ∧ Ck (Fa P 51 v25 0) v26 s ∧ Ck (Ld P 4 v26) v27 s ∧ (Cl P 36 #[v24, v27] (fun v29 s => Qt (Bo P .neq 4 false false v28 v29) s fun v30 => Grd v30 false (Qt (Ia P 47 a0 x6) s fun v31 => Qt (Ld P 51 v31) s fun v32 => Qt (Ia P 47 a0 x6) s fun v33 => Qt (Fa P 51 v33 1) s fun v34 => Qt (Ld P 5 v34) s fun v35 => Qt (Bo P .eql 5 false true v35 (byteV 98)) s fun v36 => Cl P 37 #[v32] (fun v37 s => Ck (Ia P 47 a0 x6) v33 s ∧ Ck (Fa P 51 v33 1) v34 s ∧ Ck (Ld P 5 v34) v35 s ∧ Ck (Bo P .eql 5 false true v35 (byteV 98)) v36 s ∧ (Grd v36 true (Qt (Ia P 47 a0 x6) s fun v38 => Qt (Fa P 51 v38 2) s fun v39 => Qt (Ld P 9 v39) s fun v40 => Qt (Bo P .eql 9 false true v40 (.string ⟨#[]⟩)) s fun v41 => Qt (Pk P v36 v41 (.bool false)) s fun v42 => Qt (Bo P .neq 4 false false v37 v42) s fun v43 => Qt (Pk P v30 (.bool true) v43) s fun v44 => A14 v44 s) (Qt (Pk P v36 undef (.bool false)) s fun v45 => Qt (Bo P .neq 4 false false v37 v45) s fun v46 => Qt (Pk P v30 (.bool true) v46) s fun v47 => A14 v47 s))) s) (Grd undef true (Qt (Ia P 47 a0 x6) s fun v48 => Qt (Fa P 51 v48 2) s fun v49 => Qt (Ld P 9 v49) s fun v50 => Qt (Bo P .eql 9 false true v50 (.string ⟨#[]⟩)) s fun v51 => Qt (Pk P v30 (.bool true) undef) s fun v52 => A14 v52 s) (Qt (Pk P v30 (.bool true) undef) s fun v53 => A14 v53 s))) s)) s) s) (fun x15 s => CondP x15 (Ret P (fun w => K (.bool false) w) s) (Bo P .add 3 false true x6 (.int .i64 1) (fun v54 s => N5 v54 s) s)))) s) s) s) s) s) (Cl P 39 #[a0] (fun v55 s => Cl P 40 #[a0] (fun v56 s => Cl P 38 #[v55, v56] (fun v57 s => Ret P (fun w => K v57 w) s) s) s) s)) s) s))) s) s)) s) s
noncomputable def b12 : Code := Try.f12.body.getD .skip
theorem e12 (a0 : Value) (K : Value → World → Prop) : wpc P bmask 72 none b12 (lmOf [.tmp 2]) (ktOf P 72 [.tmp 2] K) (frOf [a0]) = D12 a0 K := by kernel_rfl
theorem c12 {a0 w : _} {K : Value → World → Prop} {R : Ending → World → Prop} (h : D12 a0 K ⟨w, []⟩) (hK : ∀ v w', K v w' → R (.returned v) w') : Calls P 12 #[a0] w R :=
  calls_of bodies_ok Try.func12 72 [.tmp 2] (c := b12) (args := [a0]) (K := K) (by kernel_rfl) rfl (e12 a0 K) h hK

/-- rollcall/rollcalllaw18.ModesBack -/
def D13 (a0 : Value) (K : Value → World → Prop) (s : St) : Prop :=
  Cl P 24 #[] (fun v1 s => Uo P .not v1 (fun v2 s => CondP v2 (Ret P (fun w => K (.bool false) w) s) (Cl P 25 #[a0] (fun v3 s => CondP v3 (Ret P (fun w => K (.bool true) w) s) (Cl P 26 #[a0] (fun v4 s => L1 (.int .i64 0) s (fun N5 x6 s => Bi P .len #[47] 3 #[false] #[v4] (fun v7 s => Bo P .lss 3 false false x6 v7 (fun v8 s => CondP v8 (Ia P 47 v4 x6 (fun v9 s => Ld P 51 v9 (fun v10 s => Cl P 37 #[v10] (fun v11 s => CondP v11 (Ret P (fun w => K (.bool true) w) s) (Bo P .add 3 false true x6 (.int .i64 1) (fun v12 s => N5 v12 s) s)) s) s) s) (Cl P 39 #[v4] (fun v13 s => Cl P 26 #[v13] (fun v14 s => Cl P 28 #[v14, v4] (fun v15 s => Ret P (fun w => K v15 w) s) s) s) s)) s) s)) s)) s)) s) s
noncomputable def b13 : Code := Try.f13.body.getD .skip
theorem e13 (a0 : Value) (K : Value → World → Prop) : wpc P bmask 27 none b13 (lmOf [.tmp 2]) (ktOf P 27 [.tmp 2] K) (frOf [a0]) = D13 a0 K := by kernel_rfl
theorem c13 {a0 w : _} {K : Value → World → Prop} {R : Ending → World → Prop} (h : D13 a0 K ⟨w, []⟩) (hK : ∀ v w', K v w' → R (.returned v) w') : Calls P 13 #[a0] w R :=
  calls_of bodies_ok Try.func13 27 [.tmp 2] (c := b13) (args := [a0]) (K := K) (by kernel_rfl) rfl (e13 a0 K) h hK

/-- rollcall/rollcalllaw18.awake -/
def D24 (K : Value → World → Prop) (s : St) : Prop :=
  Bs P 41 3 #[(0, .string ⟨#[43, 111, 45, 107, 43, 98]⟩), (1, .string ⟨#[97, 110, 110]⟩), (2, .string ⟨#[107, 101, 121]⟩)] (fun v1 s => Cl P 26 #[v1] (fun v2 s => Bd P 51 #[(0, .bool true), (1, byteV 111), (2, .string ⟨#[97, 110, 110]⟩)] (fun v3 s => Bd P 51 #[(1, byteV 107), (2, .string ⟨#[107, 101, 121]⟩)] (fun v4 s => Bd P 51 #[(0, .bool true), (1, byteV 98)] (fun v5 s => Bs P 47 3 #[(0, v3), (1, v4), (2, v5)] (fun v6 s => Cl P 28 #[v2, v6] (fun v7 s => J1 (fun A8 => Grd v7 true (Ia P 47 v2 (.int .i64 2) (fun v10 s => Ld P 51 v10 (fun v11 s => Cl P 37 #[v11] (fun v12 s => A8 v12 s) s) s) s) (A8 undef s)) (fun x9 s => Pk P v7 x9 (.bool false) (fun v13 s => J1 (fun A14 => Grd v13 true (Ia P 47 v2 (.int .i64 0) (fun v16 s => Ld P 51 v16 (fun v17 s => Cl P 37 #[v17] (fun v18 s => Uo P .not v18 (fun v19 s => A14 v19 s) s) s) s) s) (A14 undef s)) (fun x15 s => Pk P v13 x15 (.bool false) (fun v20 s => Ret P (fun w => K v20 w) s) s)) s)) s) s) s) s) s) s) s
noncomputable def b24 : Code := Try.f24.body.getD .skip
theorem e24 (K : Value → World → Prop) : wpc P bmask 23 none b24 (lmOf [.tmp 0]) (ktOf P 23 [.tmp 0] K) (frOf []) = D24 K := by kernel_rfl
theorem c24 {w : _} {K : Value → World → Prop} {R : Ending → World → Prop} (h : D24 K ⟨w, []⟩) (hK : ∀ v w', K v w' → R (.returned v) w') : Calls P 24 #[] w R :=
  calls_of bodies_ok Try.func24 23 [.tmp 0] (c := b24) (args := []) (K := K) (by kernel_rfl) rfl (e24 K) h hK

/-- rollcall/rollcalllaw18.great -/
def D25 (a0 : Value) (K : Value → World → Prop) (s : St) : Prop :=
  Bi P .len #[41] 3 #[false] #[a0] (fun v1 s => Bo P .gtr 3 false true v1 (.int .i64 20) (fun v2 s => CondP v2 (Ret P (fun w => K (.bool true) w) s) (L1 (.int .i64 0) s (fun N3 x4 s => Bi P .len #[41] 3 #[false] #[a0] (fun v5 s => Bo P .lss 3 false false x4 v5 (fun v6 s => CondP v6 (Ia P 41 a0 x4 (fun v7 s => Ld P 9 v7 (fun v8 s => Bi P .len #[9] 3 #[false] #[v8] (fun v9 s => Bo P .gtr 3 false true v9 (.int .i64 60) (fun v10 s => CondP v10 (Ret P (fun w => K (.bool true) w) s) (Bo P .add 3 false true x4 (.int .i64 1) (fun v11 s => N3 v11 s) s)) s) s) s) s) (Ret P (fun w => K (.bool false) w) s)) s) s))) s) s
noncomputable def b25 : Code := Try.f25.body.getD .skip
theorem e25 (a0 : Value) (K : Value → World → Prop) : wpc P bmask 19 none b25 (lmOf [.tmp 2]) (ktOf P 19 [.tmp 2] K) (frOf [a0]) = D25 a0 K := by kernel_rfl
theorem c25 {a0 w : _} {K : Value → World → Prop} {R : Ending → World → Prop} (h : D25 a0 K ⟨w, []⟩) (hK : ∀ v w', K v w' → R (.returned v) w') : Calls P 25 #[a0] w R :=
  calls_of bodies_ok Try.func25 19 [.tmp 2] (c := b25) (args := [a0]) (K := K) (by kernel_rfl) rfl (e25 a0 K) h hK

/-- rollcall/modes.Parse -/
def D26 (a0 : Value) (K : Value → World → Prop) (s : St) : Prop :=
  Bi P .len #[41] 3 #[false] #[a0] (fun v1 s => Bo P .eql 3 false true v1 (.int .i64 0) (fun v2 s => CondP v2 (Ret P (fun w => K (.slice none 0 0) w) s) (Al P 47 (fun v3 s => Sl P 41 a0 (some (.int .i64 1)) none none (fun v4 s => Al P 41 (fun v5 s => Sv P 41 v5 v4 (fun _ s => Al P 3 (fun v6 s => Sv P 3 v6 (.int .i64 0) (fun _ s => Ia P 41 a0 (.int .i64 0) (fun v7 s => Ld P 9 v7 (fun v8 s => Cl P 30 #[v8] (fun v9 s => Rf P none 2 v9 (fun l10 as11 R12 s => Bg P l10 (fun s => Bd P 51 #[(0, as11.tail.headD undef), (1, as11.headD undef)] (fun v14 s => Al P 51 (fun v15 s => Sv P 51 v15 v14 (fun _ s => Cl P 27 #[as11.headD undef, as11.tail.headD undef] (fun v16 s => Uo P .not v16 (fun v17 s => CondP v17 (Ld P 47 v3 (fun v18 s => Ld P 51 v15 (fun v19 s => Bs P 47 1 #[(0, v19)] (fun v20 s => Bi P .append #[47, 47] 47 #[false, false] #[v18, v20] (fun v21 s => Sv P 47 v3 v21 (fun _ s => Er P l10 none R12 s) s) s) s) s) s) (Ld P 3 v6 (fun v22 s => Bo P .eql 3 false true v22 (.int .i64 4) (fun v23 s => J1 (fun A24 => Grd v23 false (Ld P 41 v5 (fun v26 s => Bi P .len #[41] 3 #[false] #[v26] (fun v27 s => Bo P .eql 3 false true v27 (.int .i64 0) (fun v28 s => A24 v28 s) s) s) s) (A24 undef s)) (fun x25 s => J1 (fun A29 => Grd x25 true (Bo P .neq 5 false true (as11.headD undef) (byteV 98) (fun v31 s => A29 v31 s) s) (A29 undef s)) (fun x30 s => J1 (fun A32 => Grd v23 false (Pk P x25 x30 (.bool false) (fun v34 s => A32 v34 s) s) (A32 undef s)) (fun x33 s => Pk P v23 (.bool true) x33 (fun v35 s => CondP v35 (Er P l10 none R12 s) (J0 (fun A36 => Ld P 41 v5 (fun v37 s => Bi P .len #[41] 3 #[false] #[v37] (fun v38 s => Bo P .gtr 3 false true v38 (.int .i64 0) (fun v39 s => CondP v39 (Dw (fun s => Qt (Ld P 41 v5) s fun v40 => Qt (Ia P 41 v40 (.int .i64 0)) s fun v41 => Qt (Ld P 9 v41) s fun v42 => Qt (Ld P 41 v5) s fun v43 => Qt (Sl P 41 v43 (some (.int .i64 1)) none none) s fun v44 => Qt (Fa P 51 v15 2) s fun v45 => Sv P 9 v45 v42 (fun _ s => Ck (Ld P 41 v5) v43 s ∧ Ck (Sl P 41 v43 (some (.int .i64 1)) none none) v44 s ∧ (Sv P 41 v5 v44 (fun _ s => A36 s) s)) s) s) (A36 s)) s) s) s) (fun s => Ld P 3 v6 (fun v46 s => Bo P .add 3 false true v46 (.int .i64 1) (fun v47 s => Sv P 3 v6 v47 (fun _ s => Ld P 47 v3 (fun v48 s => Ld P 51 v15 (fun v49 s => Bs P 47 1 #[(0, v49)] (fun v50 s => Bi P .append #[47, 47] 47 #[false, false] #[v48, v50] (fun v51 s => Sv P 47 v3 v51 (fun _ s => Er P l10 none R12 s) s) s) s) s) s) s) s) s))) s)))) s) s)) s) s) s) s) s) s) (fun s => Ld P 47 v3 (fun v52 s => Ret P (fun w => K v52 w) s) s) (fun s => Ret P (fun w => K (.slice none 0 0) w) s) (fun i13 s => False) s) s) s) s) s) s) s) s) s) s)) s) s
noncomputable def b26 : Code := Try.f26.body.getD .skip
theorem e26 (a0 : Value) (K : Value → World → Prop) : wpc P bmask 58 none b26 (lmOf [.tmp 2]) (ktOf P 58 [.tmp 2] K) (frOf [a0]) = D26 a0 K := by kernel_rfl
theorem c26 {a0 w : _} {K : Value → World → Prop} {R : Ending → World → Prop} (h : D26 a0 K ⟨w, []⟩) (hK : ∀ v w', K v w' → R (.returned v) w') : Calls P 26 #[a0] w R :=
  calls_of bodies_ok Try.func26 58 [.tmp 2] (c := b26) (args := [a0]) (K := K) (by kernel_rfl) rfl (e26 a0 K) h hK

/-- rollcall/modes.Takes -/
def D27 (a0 a1 : Value) (K : Value → World → Prop) (s : St) : Prop :=
  Bo P .eql 5 false true a0 (byteV 108) (fun v1 s => J1 (fun A2 => Grd v1 true (A2 a1 s) (A2 undef s)) (fun x3 s => Pk P v1 x3 (.bool false) (fun v4 s => J1 (fun A5 => Grd v4 false (Bo P .neq 5 false true a0 (byteV 0) (fun v7 s => A5 v7 s) s) (A5 undef s)) (fun x6 s => J1 (fun A8 => Grd x6 true (Cl P 44 #[.string ⟨#[111, 118, 98, 107]⟩, a0] (fun v10 s => Bo P .geq 3 false true v10 (.int .i64 0) (fun v11 s => A8 v11 s) s) s) (A8 undef s)) (fun x9 s => J1 (fun A12 => Grd v4 false (Pk P x6 x9 (.bool false) (fun v14 s => A12 v14 s) s) (A12 undef s)) (fun x13 s => Pk P v4 (.bool true) x13 (fun v15 s => Ret P (fun w => K v15 w) s) s)))) s)) s
noncomputable def b27 : Code := Try.f27.body.getD .skip
theorem e27 (a0 a1 : Value) (K : Value → World → Prop) : wpc P bmask 19 none b27 (lmOf [.tmp 4]) (ktOf P 19 [.tmp 4] K) (frOf [a0, a1]) = D27 a0 a1 K := by kernel_rfl
theorem c27 {a0 a1 w : _} {K : Value → World → Prop} {R : Ending → World → Prop} (h : D27 a0 a1 K ⟨w, []⟩) (hK : ∀ v w', K v w' → R (.returned v) w') : Calls P 27 #[a0, a1] w R :=
  calls_of bodies_ok Try.func27 19 [.tmp 4] (c := b27) (args := [a0, a1]) (K := K) (by kernel_rfl) rfl (e27 a0 a1 K) h hK

/-- rollcall/rollcallref18.Same -/
def D28 (a0 a1 : Value) (K : Value → World → Prop) (s : St) : Prop :=
  Bi P .len #[47] 3 #[false] #[a0] (fun v1 s => Bi P .len #[47] 3 #[false] #[a1] (fun v2 s => Bo P .neq 3 false false v1 v2 (fun v3 s => CondP v3 (Ret P (fun w => K (.bool false) w) s) (L1 (.int .i64 0) s (fun N4 x5 s => Bi P .len #[47] 3 #[false] #[a0] (fun v6 s => Bo P .lss 3 false false x5 v6 (fun v7 s => CondP v7 (Dw (fun s => Qt (Ia P 47 a0 x5) s fun v8 => Qt (Ld P 51 v8) s fun v9 => Qt (Ia P 47 a1 x5) s fun v10 => Qt (Ld P 51 v10) s fun v11 => Qt (Bo P .neq 51 false false v9 v11) s fun v12 => CondP v12 (Ret P (fun w => K (.bool false) w) s) (Bo P .add 3 false true x5 (.int .i64 1) (fun v13 s => N4 v13 s) s)) s) (Ret P (fun w => K (.bool true) w) s)) s) s))) s) s) s
noncomputable def b28 : Code := Try.f28.body.getD .skip
theorem e28 (a0 a1 : Value) (K : Value → World → Prop) : wpc P bmask 26 none b28 (lmOf [.tmp 4]) (ktOf P 26 [.tmp 4] K) (frOf [a0, a1]) = D28 a0 a1 K := by kernel_rfl
theorem c28 {a0 a1 w : _} {K : Value → World → Prop} {R : Ending → World → Prop} (h : D28 a0 a1 K ⟨w, []⟩) (hK : ∀ v w', K v w' → R (.returned v) w') : Calls P 28 #[a0, a1] w R :=
  calls_of bodies_ok Try.func28 26 [.tmp 4] (c := b28) (args := [a0, a1]) (K := K) (by kernel_rfl) rfl (e28 a0 a1 K) h hK

/-- rollcall/rollcallref18.Parse -/
def D29 (a0 : Value) (K : Value → World → Prop) (s : St) : Prop :=
  Bi P .len #[41] 3 #[false] #[a0] (fun v1 s => Bo P .eql 3 false true v1 (.int .i64 0) (fun v2 s => CondP v2 (Ret P (fun w => K (.slice none 0 0) w) s) (L5 (.slice none 0 0) (.bool true) (.int .i64 1) (.int .i64 0) (.int .i64 0) s (fun N3 x4 x5 x6 x7 x8 s => Ia P 41 a0 (.int .i64 0) (fun v9 s => Ld P 9 v9 (fun v10 s => Bi P .len #[9] 3 #[false] #[v10] (fun v11 s => Bo P .lss 3 false false x8 v11 (fun v12 s => CondP v12 (J4 (fun A13 => Ia P 41 a0 (.int .i64 0) (fun v18 s => Ld P 9 v18 (fun v19 s => Ix P 9 v19 x8 (fun v20 s => Bo P .eql 5 false true v20 (byteV 43) (fun v21 s => J1 (fun A22 => Grd v21 false (Bo P .eql 5 false true v20 (byteV 45) (fun v24 s => A22 v24 s) s) (A22 undef s)) (fun x23 s => Pk P v21 (.bool true) x23 (fun v25 s => CondP v25 (Bo P .eql 5 false true v20 (byteV 43) (fun v26 s => A13 x4 v26 x6 x7 s) s) (Bd P 51 #[(0, x5), (1, v20)] (fun v27 s => Al P 51 (fun v28 s => Sv P 51 v28 v27 (fun _ s => J2 (fun A29 => Cl P 36 #[v20, x5] (fun v32 s => CondP v32 (Bo P .eql 3 false true x7 (.int .i64 4) (fun v33 s => J1 (fun A34 => Grd v33 false (Bi P .len #[41] 3 #[false] #[a0] (fun v36 s => Bo P .geq 3 false false x6 v36 (fun v37 s => A34 v37 s) s) s) (A34 undef s)) (fun x35 s => J1 (fun A38 => Grd x35 true (Bo P .neq 5 false true v20 (byteV 98) (fun v40 s => A38 v40 s) s) (A38 undef s)) (fun x39 s => J1 (fun A41 => Grd v33 false (Pk P x35 x39 (.bool false) (fun v43 s => A41 v43 s) s) (A41 undef s)) (fun x42 s => Pk P v33 (.bool true) x42 (fun v44 s => CondP v44 (A13 x4 x5 x6 x7 s) (Bo P .add 3 false true x7 (.int .i64 1) (fun v45 s => Bi P .len #[41] 3 #[false] #[a0] (fun v46 s => Bo P .lss 3 false false x6 v46 (fun v47 s => CondP v47 (Ia P 41 a0 x6 (fun v48 s => Ld P 9 v48 (fun v49 s => Fa P 51 v28 2 (fun v50 s => Sv P 9 v50 v49 (fun _ s => Bo P .add 3 false true x6 (.int .i64 1) (fun v51 s => A29 v51 v45 s) s) s) s) s) s) (A29 x6 v45 s)) s) s) s)) s)))) s) (A29 x6 x7 s)) s) (fun x30 x31 s => Ld P 51 v28 (fun v52 s => Bs P 47 1 #[(0, v52)] (fun v53 s => Bi P .append #[47, 47] 47 #[false, false] #[x4, v53] (fun v54 s => A13 v54 x5 x30 x31 s) s) s) s)) s) s) s)) s)) s) s) s) s) (fun x14 x15 x16 x17 s => Bo P .add 3 false true x8 (.int .i64 1) (fun v55 s => N3 x14 x15 x16 x17 v55 s) s)) (Ret P (fun w => K x4 w) s)) s) s) s) s))) s) s
noncomputable def b29 : Code := Try.f29.body.getD .skip
theorem e29 (a0 : Value) (K : Value → World → Prop) : wpc P bmask 71 none b29 (lmOf [.tmp 2]) (ktOf P 71 [.tmp 2] K) (frOf [a0]) = D29 a0 K := by kernel_rfl
theorem c29 {a0 w : _} {K : Value → World → Prop} {R : Ending → World → Prop} (h : D29 a0 K ⟨w, []⟩) (hK : ∀ v w', K v w' → R (.returned v) w') : Calls P 29 #[a0] w R :=
  calls_of bodies_ok Try.func29 71 [.tmp 2] (c := b29) (args := [a0]) (K := K) (by kernel_rfl) rfl (e29 a0 K) h hK

/-- rollcall/modes.Seq -/
def D30 (a0 : Value) (K : Value → World → Prop) (s : St) : Prop :=
  Bx P 9 a0 (fun v1 s => Mf P (.func 45) #[] #[v1] (fun v2 s => Ret P (fun w => K v2 w) s) s) s
noncomputable def b30 : Code := Try.f30.body.getD .skip
theorem e30 (a0 : Value) (K : Value → World → Prop) : wpc P bmask 4 none b30 (lmOf [.tmp 2]) (ktOf P 4 [.tmp 2] K) (frOf [a0]) = D30 a0 K := by kernel_rfl
theorem c30 {a0 w : _} {K : Value → World → Prop} {R : Ending → World → Prop} (h : D30 a0 K ⟨w, []⟩) (hK : ∀ v w', K v w' → R (.returned v) w') : Calls P 30 #[a0] w R :=
  calls_of bodies_ok Try.func30 4 [.tmp 2] (c := b30) (args := [a0]) (K := K) (by kernel_rfl) rfl (e30 a0 K) h hK

/-- rollcall/rollcallref18.Takes -/
def D36 (a0 a1 : Value) (K : Value → World → Prop) (s : St) : Prop :=
  Bo P .eql 5 false true a0 (byteV 111) (fun v1 s => J1 (fun A2 => Grd v1 false (Bo P .eql 5 false true a0 (byteV 118) (fun v4 s => A2 v4 s) s) (A2 undef s)) (fun x3 s => Pk P v1 (.bool true) x3 (fun v5 s => J1 (fun A6 => Grd v5 false (Bo P .eql 5 false true a0 (byteV 98) (fun v8 s => A6 v8 s) s) (A6 undef s)) (fun x7 s => Pk P v5 (.bool true) x7 (fun v9 s => J1 (fun A10 => Grd v9 false (Bo P .eql 5 false true a0 (byteV 107) (fun v12 s => A10 v12 s) s) (A10 undef s)) (fun x11 s => Pk P v9 (.bool true) x11 (fun v13 s => J1 (fun A14 => Grd v13 false (Bo P .eql 5 false true a0 (byteV 108) (fun v16 s => A14 v16 s) s) (A14 undef s)) (fun x15 s => J1 (fun A17 => Grd x15 true (A17 a1 s) (A17 undef s)) (fun x18 s => J1 (fun A19 => Grd v13 false (Pk P x15 x18 (.bool false) (fun v21 s => A19 v21 s) s) (A19 undef s)) (fun x20 s => Pk P v13 (.bool true) x20 (fun v22 s => Ret P (fun w => K v22 w) s) s)))) s)) s)) s)) s
noncomputable def b36 : Code := Try.f36.body.getD .skip
theorem e36 (a0 a1 : Value) (K : Value → World → Prop) : wpc P bmask 26 none b36 (lmOf [.tmp 4]) (ktOf P 26 [.tmp 4] K) (frOf [a0, a1]) = D36 a0 a1 K := by kernel_rfl
theorem c36 {a0 a1 w : _} {K : Value → World → Prop} {R : Ending → World → Prop} (h : D36 a0 a1 K ⟨w, []⟩) (hK : ∀ v w', K v w' → R (.returned v) w') : Calls P 36 #[a0, a1] w R :=
  calls_of bodies_ok Try.func36 26 [.tmp 4] (c := b36) (args := [a0, a1]) (K := K) (by kernel_rfl) rfl (e36 a0 a1 K) h hK

/-- rollcall/modes.Lists -/
def D37 (a0 : Value) (K : Value → World → Prop) (s : St) : Prop :=
  Bx P 51 a0 (fun v1 s => Fa P 51 v1 1 (fun v2 s => Ld P 5 v2 (fun v3 s => Bo P .eql 5 false true v3 (byteV 98) (fun v4 s => J1 (fun A5 => Grd v4 true (Fa P 51 v1 2 (fun v7 s => Ld P 9 v7 (fun v8 s => Bo P .eql 9 false true v8 (.string ⟨#[]⟩) (fun v9 s => A5 v9 s) s) s) s) (A5 undef s)) (fun x6 s => Pk P v4 x6 (.bool false) (fun v10 s => Ret P (fun w => K v10 w) s) s)) s) s) s) s
noncomputable def b37 : Code := Try.f37.body.getD .skip
theorem e37 (a0 : Value) (K : Value → World → Prop) : wpc P bmask 11 none b37 (lmOf [.tmp 2]) (ktOf P 11 [.tmp 2] K) (frOf [a0]) = D37 a0 K := by kernel_rfl
theorem c37 {a0 w : _} {K : Value → World → Prop} {R : Ending → World → Prop} (h : D37 a0 K ⟨w, []⟩) (hK : ∀ v w', K v w' → R (.returned v) w') : Calls P 37 #[a0] w R :=
  calls_of bodies_ok Try.func37 11 [.tmp 2] (c := b37) (args := [a0]) (K := K) (by kernel_rfl) rfl (e37 a0 K) h hK

/-- rollcall/rollcallref01.Texts -/
def D38 (a0 a1 : Value) (K : Value → World → Prop) (s : St) : Prop :=
  Bi P .len #[41] 3 #[false] #[a0] (fun v1 s => Bi P .len #[41] 3 #[false] #[a1] (fun v2 s => Bo P .neq 3 false false v1 v2 (fun v3 s => CondP v3 (Ret P (fun w => K (.bool false) w) s) (L1 (.int .i64 0) s (fun N4 x5 s => Bi P .len #[41] 3 #[false] #[a0] (fun v6 s => Bo P .lss 3 false false x5 v6 (fun v7 s => CondP v7 (Dw (fun s => Qt (Ia P 41 a0 x5) s fun v8 => Qt (Ld P 9 v8) s fun v9 => Qt (Ia P 41 a1 x5) s fun v10 => Qt (Ld P 9 v10) s fun v11 => Qt (Bo P .neq 9 false false v9 v11) s fun v12 => CondP v12 (Ret P (fun w => K (.bool false) w) s) (Bo P .add 3 false true x5 (.int .i64 1) (fun v13 s => N4 v13 s) s)) s) (Ret P (fun w => K (.bool true) w) s)) s) s))) s) s) s
noncomputable def b38 : Code := Try.f38.body.getD .skip
theorem e38 (a0 a1 : Value) (K : Value → World → Prop) : wpc P bmask 26 none b38 (lmOf [.tmp 4]) (ktOf P 26 [.tmp 4] K) (frOf [a0, a1]) = D38 a0 a1 K := by kernel_rfl
theorem c38 {a0 a1 w : _} {K : Value → World → Prop} {R : Ending → World → Prop} (h : D38 a0 a1 K ⟨w, []⟩) (hK : ∀ v w', K v w' → R (.returned v) w') : Calls P 38 #[a0, a1] w R :=
  calls_of bodies_ok Try.func38 26 [.tmp 4] (c := b38) (args := [a0, a1]) (K := K) (by kernel_rfl) rfl (e38 a0 a1 K) h hK

/-- rollcall/modes.Text -/
def D39 (a0 : Value) (K : Value → World → Prop) (s : St) : Prop :=
  Bi P .len #[47] 3 #[false] #[a0] (fun v1 s => Bo P .eql 3 false true v1 (.int .i64 0) (fun v2 s => CondP v2 (Ret P (fun w => K (.slice none 0 0) w) s) (Al P 82 (fun v3 s => Bi P .len #[47] 3 #[false] #[a0] (fun v4 s => L2 (.slice none 0 0) (.int .i64 0) s (fun N5 x6 x7 s => Bo P .lss 3 false false x7 v4 (fun v8 s => CondP v8 (J1 (fun A9 => Ia P 47 a0 x7 (fun v11 s => Ld P 51 v11 (fun v12 s => Al P 51 (fun v13 s => Sv P 51 v13 v12 (fun _ s => J0 (fun A14 => J1 (fun A15 => Dw (fun s => Qt (Bo P .eql 3 false true x7 (.int .i64 0)) s fun v17 => Grd v17 false (Qt (Bo P .sub 3 false true x7 (.int .i64 1)) s fun v18 => Qt (Ia P 47 a0 v18) s fun v19 => Qt (Fa P 51 v19 0) s fun v20 => Qt (Ld P 4 v20) s fun v21 => Qt (Fa P 51 v13 0) s fun v22 => Qt (Ld P 4 v22) s fun v23 => Qt (Bo P .neq 4 false false v21 v23) s fun v24 => Qt (Pk P v17 (.bool true) v24) s fun v25 => A15 v25 s) (Qt (Pk P v17 (.bool true) undef) s fun v26 => A15 v26 s)) s) (fun x16 s => CondP x16 (Mm P 86 none (fun v27 s => Mu P 86 v27 (.bool true) (byteV 43) (fun _ s => Mu P 86 v27 (.bool false) (byteV 45) (fun _ s => Fa P 51 v13 0 (fun v28 s => Ld P 4 v28 (fun v29 s => Lk P 86 v27 v29 false (fun v30 s => Cl P 51 #[v3, v30] (fun _ s => A14 s) s) s) s) s) s) s) s) (A14 s))) (fun s => Fa P 51 v13 1 (fun v32 s => Ld P 5 v32 (fun v33 s => Cl P 51 #[v3, v33] (fun _ s => Fa P 51 v13 1 (fun v35 s => Ld P 5 v35 (fun v36 s => Fa P 51 v13 0 (fun v37 s => Ld P 4 v37 (fun v38 s => Cl P 27 #[v36, v38] (fun v39 s => CondP v39 (Fa P 51 v13 2 (fun v40 s => Ld P 9 v40 (fun v41 s => Bs P 41 1 #[(0, v41)] (fun v42 s => Bi P .append #[41, 41] 41 #[false, false] #[x6, v42] (fun v43 s => A9 v43 s) s) s) s) s) (A9 x6 s)) s) s) s) s) s) s) s) s)) s) s) s) s) (fun x10 s => Bo P .add 3 false true x7 (.int .i64 1) (fun v44 s => N5 x10 v44 s) s)) (Cl P 52 #[v3] (fun v45 s => Bs P 41 1 #[(0, v45)] (fun v46 s => Bi P .append #[41, 41] 41 #[false, false] #[v46, x6] (fun v47 s => Ret P (fun w => K v47 w) s) s) s) s)) s)) s) s)) s) s
noncomputable def b39 : Code := Try.f39.body.getD .skip
theorem e39 (a0 : Value) (K : Value → World → Prop) : wpc P bmask 54 none b39 (lmOf [.tmp 2]) (ktOf P 54 [.tmp 2] K) (frOf [a0]) = D39 a0 K := by kernel_rfl
theorem c39 {a0 w : _} {K : Value → World → Prop} {R : Ending → World → Prop} (h : D39 a0 K ⟨w, []⟩) (hK : ∀ v w', K v w' → R (.returned v) w') : Calls P 39 #[a0] w R :=
  calls_of bodies_ok Try.func39 54 [.tmp 2] (c := b39) (args := [a0]) (K := K) (by kernel_rfl) rfl (e39 a0 K) h hK

/-- rollcall/rollcallref18.Text -/
def D40 (a0 : Value) (K : Value → World → Prop) (s : St) : Prop :=
  Bi P .len #[47] 3 #[false] #[a0] (fun v1 s => Bo P .eql 3 false true v1 (.int .i64 0) (fun v2 s => CondP v2 (Ret P (fun w => K (.slice none 0 0) w) s) (Bs P 41 1 #[(0, .string ⟨#[]⟩)] (fun v3 s => L3 v3 (.string ⟨#[]⟩) (.int .i64 0) s (fun N4 x5 x6 x7 s => Bi P .len #[47] 3 #[false] #[a0] (fun v8 s => Bo P .lss 3 false false x7 v8 (fun v9 s => CondP v9 (J2 (fun A10 => J1 (fun A13 => Ia P 47 a0 x7 (fun v15 s => Fa P 51 v15 0 (fun v16 s => Ld P 4 v16 (fun v17 s => CondP v17 (A13 (.string ⟨#[43]⟩) s) (A13 (.string ⟨#[45]⟩) s)) s) s) s) (fun x14 s => J0 (fun A18 => Bo P .neq 9 false false x14 x6 (fun v19 s => CondP v19 (Ia P 41 x5 (.int .i64 0) (fun v20 s => Ld P 9 v20 (fun v21 s => Bo P .add 9 false false v21 x14 (fun v22 s => Ia P 41 x5 (.int .i64 0) (fun v23 s => Sv P 9 v23 v22 (fun _ s => A18 s) s) s) s) s) s) (A18 s)) s) (fun s => Dw (fun s => Qt (Ia P 41 x5 (.int .i64 0)) s fun v24 => Qt (Ld P 9 v24) s fun v25 => Qt (Ia P 47 a0 x7) s fun v26 => Qt (Fa P 51 v26 1) s fun v27 => Qt (Ld P 5 v27) s fun v28 => Bs P 30 1 #[(0, v28)] (fun v29 s => Ck (Ia P 41 x5 (.int .i64 0)) v24 s ∧ Ck (Ld P 9 v24) v25 s ∧ (Qt (Cv P 30 9 v29) s fun v30 => Qt (Bo P .add 9 false false v25 v30) s fun v31 => Qt (Ia P 41 x5 (.int .i64 0)) s fun v32 => Sv P 9 v32 v31 (fun _ s => Dw (fun s => Qt (Ia P 47 a0 x7) s fun v33 => Qt (Fa P 51 v33 1) s fun v34 => Qt (Ld P 5 v34) s fun v35 => Qt (Ia P 47 a0 x7) s fun v36 => Qt (Fa P 51 v36 0) s fun v37 => Qt (Ld P 4 v37) s fun v38 => Cl P 36 #[v35, v38] (fun v39 s => CondP v39 (Ia P 47 a0 x7 (fun v40 s => Fa P 51 v40 2 (fun v41 s => Ld P 9 v41 (fun v42 s => Bs P 41 1 #[(0, v42)] (fun v43 s => Bi P .append #[41, 41] 41 #[false, false] #[x5, v43] (fun v44 s => A10 v44 x14 s) s) s) s) s) s) (A10 x5 x14 s)) s) s) s)) s) s))) (fun x11 x12 s => Bo P .add 3 false true x7 (.int .i64 1) (fun v45 s => N4 x11 x12 v45 s) s)) (Ret P (fun w => K x5 w) s)) s) s)) s)) s) s
noncomputable def b40 : Code := Try.f40.body.getD .skip
theorem e40 (a0 : Value) (K : Value → World → Prop) : wpc P bmask 66 none b40 (lmOf [.tmp 2]) (ktOf P 66 [.tmp 2] K) (frOf [a0]) = D40 a0 K := by kernel_rfl
theorem c40 {a0 w : _} {K : Value → World → Prop} {R : Ending → World → Prop} (h : D40 a0 K ⟨w, []⟩) (hK : ∀ v w', K v w' → R (.returned v) w') : Calls P 40 #[a0] w R :=
  calls_of bodies_ok Try.func40 66 [.tmp 2] (c := b40) (args := [a0]) (K := K) (by kernel_rfl) rfl (e40 a0 K) h hK

/-- strings.IndexByte -/
def D44 (a0 a1 : Value) (K : Value → World → Prop) (s : St) : Prop :=
  Cl P 53 #[a0, a1] (fun v1 s => Ret P (fun w => K v1 w) s) s
noncomputable def b44 : Code := Try.f44.body.getD .skip
theorem e44 (a0 a1 : Value) (K : Value → World → Prop) : wpc P bmask 8 none b44 (lmOf [.tmp 4]) (ktOf P 8 [.tmp 4] K) (frOf [a0, a1]) = D44 a0 a1 K := by kernel_rfl
theorem c44 {a0 a1 w : _} {K : Value → World → Prop} {R : Ending → World → Prop} (h : D44 a0 a1 K ⟨w, []⟩) (hK : ∀ v w', K v w' → R (.returned v) w') : Calls P 44 #[a0, a1] w R :=
  calls_of bodies_ok Try.func44 8 [.tmp 4] (c := b44) (args := [a0, a1]) (K := K) (by kernel_rfl) rfl (e44 a0 a1 K) h hK

/-- rollcall/modes.Seq$1 -/
def D45 (a0 a1 : Value) (K : Value → World → Prop) (s : St) : Prop :=
  Ld P 9 a1 (fun v1 s => Bi P .len #[9] 3 #[false] #[v1] (fun v2 s => L2 (.bool true) (.int .i64 0) s (fun N3 x4 x5 s => Bo P .lss 3 false false x5 v2 (fun v6 s => CondP v6 (J1 (fun A7 => Ld P 9 a1 (fun v9 s => Ix P 9 v9 x5 (fun v10 s => Bo P .eql 5 false true v10 (byteV 43) (fun v11 s => CondP v11 (A7 (.bool true) s) (Bo P .eql 5 false true v10 (byteV 45) (fun v12 s => CondP v12 (A7 (.bool false) s) (Ld P 9 a1 (fun v13 s => Ix P 9 v13 x5 (fun v14 s => Dy P a0 #[v14, x4] (fun v15 s => Uo P .not v15 (fun v16 s => CondP v16 (Ret P (fun w => K (.tuple #[]) w) s) (A7 x4 s)) s) s) s) s)) s)) s) s) s) (fun x8 s => Bo P .add 3 false true x5 (.int .i64 1) (fun v17 s => N3 x8 v17 s) s)) (Ret P (fun w => K (.tuple #[]) w) s)) s)) s) s
noncomputable def b45 : Code := Try.f45.body.getD .skip
theorem e45 (a0 a1 : Value) (K : Value → World → Prop) : wpc P bmask 25 none b45 (lmOf []) (ktOf P 25 [] K) (frOf [a0, a1]) = D45 a0 a1 K := by kernel_rfl
theorem c45 {a0 a1 w : _} {K : Value → World → Prop} {R : Ending → World → Prop} (h : D45 a0 a1 K ⟨w, []⟩) (hK : ∀ v w', K v w' → R (.returned v) w') : Calls P 45 #[a0, a1] w R :=
  calls_of bodies_ok Try.func45 25 [] (c := b45) (args := [a0, a1]) (K := K) (by kernel_rfl) rfl (e45 a0 a1 K) h hK

/-- (*strings.Builder).WriteByte -/
def D51 (a0 a1 : Value) (K : Value → World → Prop) (s : St) : Prop :=
  Cl P 60 #[a0] (fun _ s => Nc P a0 (fun v2 s => Fa P 82 v2 1 (fun v3 s => Ld P 30 v3 (fun v4 s => Bs P 30 1 #[(0, a1)] (fun v5 s => Bi P .append #[30, 30] 30 #[false, false] #[v4, v5] (fun v6 s => Nc P a0 (fun v7 s => Fa P 82 v7 1 (fun v8 s => Sv P 30 v8 v6 (fun _ s => Ret P (fun w => K (.nilIface) w) s) s) s) s) s) s) s) s) s) s
noncomputable def b51 : Code := Try.f51.body.getD .skip
theorem e51 (a0 a1 : Value) (K : Value → World → Prop) : wpc P bmask 17 none b51 (lmOf [.tmp 4]) (ktOf P 17 [.tmp 4] K) (frOf [a0, a1]) = D51 a0 a1 K := by kernel_rfl
theorem c51 {a0 a1 w : _} {K : Value → World → Prop} {R : Ending → World → Prop} (h : D51 a0 a1 K ⟨w, []⟩) (hK : ∀ v w', K v w' → R (.returned v) w') : Calls P 51 #[a0, a1] w R :=
  calls_of bodies_ok Try.func51 17 [.tmp 4] (c := b51) (args := [a0, a1]) (K := K) (by kernel_rfl) rfl (e51 a0 a1 K) h hK

/-- (*strings.Builder).String -/
def D52 (a0 : Value) (K : Value → World → Prop) (s : St) : Prop :=
  Dw (fun s => Qt (Nc P a0) s fun v1 => Qt (Fa P 82 v1 1) s fun v2 => Qt (Ld P 30 v2) s fun v3 => Qt (Nc P a0) s fun v4 => Qt (Fa P 82 v4 1) s fun v5 => Qt (Ld P 30 v5) s fun v6 => Qt (Bi P .len #[30] 3 #[false] #[v6]) s fun v7 => Bi P .unsafeSliceData #[30] 92 #[false] #[v3] (fun v8 s => Ck (Nc P a0) v4 s ∧ Ck (Fa P 82 v4 1) v5 s ∧ Ck (Ld P 30 v5) v6 s ∧ Ck (Bi P .len #[30] 3 #[false] #[v6]) v7 s ∧ (Bi P .unsafeString #[92, 3] 9 #[false, false] #[v8, v7] (fun v9 s => Ret P (fun w => K v9 w) s) s)) s) s
noncomputable def b52 : Code := Try.f52.body.getD .skip
theorem e52 (a0 : Value) (K : Value → World → Prop) : wpc P bmask 14 none b52 (lmOf [.tmp 2]) (ktOf P 14 [.tmp 2] K) (frOf [a0]) = D52 a0 K := by kernel_rfl
theorem c52 {a0 w : _} {K : Value → World → Prop} {R : Ending → World → Prop} (h : D52 a0 K ⟨w, []⟩) (hK : ∀ v w', K v w' → R (.returned v) w') : Calls P 52 #[a0] w R :=
  calls_of bodies_ok Try.func52 14 [.tmp 2] (c := b52) (args := [a0]) (K := K) (by kernel_rfl) rfl (e52 a0 K) h hK

/-- internal/stringslite.IndexByte -/
def D53 (a0 a1 : Value) (K : Value → World → Prop) (s : St) : Prop :=
  Dy P (.func (.func 61) #[] #[]) #[a0, a1] (fun v1 s => Ret P (fun w => K v1 w) s) s
noncomputable def b53 : Code := Try.f53.body.getD .skip
theorem e53 (a0 a1 : Value) (K : Value → World → Prop) : wpc P bmask 8 none b53 (lmOf [.tmp 4]) (ktOf P 8 [.tmp 4] K) (frOf [a0, a1]) = D53 a0 a1 K := by kernel_rfl
theorem c53 {a0 a1 w : _} {K : Value → World → Prop} {R : Ending → World → Prop} (h : D53 a0 a1 K ⟨w, []⟩) (hK : ∀ v w', K v w' → R (.returned v) w') : Calls P 53 #[a0, a1] w R :=
  calls_of bodies_ok Try.func53 8 [.tmp 4] (c := b53) (args := [a0, a1]) (K := K) (by kernel_rfl) rfl (e53 a0 a1 K) h hK

/-- (*strings.Builder).copyCheck -/
def D60 (a0 : Value) (K : Value → World → Prop) (s : St) : Prop :=
  Nc P a0 (fun v1 s => Fa P 82 v1 0 (fun v2 s => Ld P 80 v2 (fun v3 s => Bo P .eql 80 false true v3 (.pointer none) (fun v4 s => CondP v4 (Cv P 80 96 a0 (fun v5 s => Dy P (.func (.func 64) #[] #[]) #[v5] (fun v6 s => Cv P 96 80 v6 (fun v7 s => Nc P a0 (fun v8 s => Fa P 82 v8 0 (fun v9 s => Sv P 80 v9 v7 (fun _ s => Ret P (fun w => K (.tuple #[]) w) s) s) s) s) s) s) s) (Nc P a0 (fun v10 s => Fa P 82 v10 0 (fun v11 s => Ld P 80 v11 (fun v12 s => Bo P .neq 80 false false v12 a0 (fun v13 s => CondP v13 (False) (Ret P (fun w => K (.tuple #[]) w) s)) s) s) s) s)) s) s) s) s
noncomputable def b60 : Code := Try.f60.body.getD .skip
theorem e60 (a0 : Value) (K : Value → World → Prop) : wpc P bmask 20 none b60 (lmOf []) (ktOf P 20 [] K) (frOf [a0]) = D60 a0 K := by kernel_rfl
theorem c60 {a0 w : _} {K : Value → World → Prop} {R : Ending → World → Prop} (h : D60 a0 K ⟨w, []⟩) (hK : ∀ v w', K v w' → R (.returned v) w') : Calls P 60 #[a0] w R :=
  calls_of bodies_ok Try.func60 20 [] (c := b60) (args := [a0]) (K := K) (by kernel_rfl) rfl (e60 a0 K) h hK

instance : BodyOf P 45 := ⟨bodies_ok.2 45 (by kernel_rfl)⟩
instance : ExIdx P 61 := ⟨run_callFunc_indexByte Try.func61 (by kernel_rfl) (by kernel_rfl) (by kernel_rfl) (by kernel_rfl)⟩
instance : ExNoE P 64 := ⟨run_callFunc_extern Try.func64 (by kernel_rfl) (by kernel_rfl) (by kernel_rfl) (by kernel_rfl)⟩
instance : TyU P 3 (.int .i64) := ⟨Try.underlying3⟩
instance : TyInf P 3 1 := ⟨⟨_, Try.type3, rfl⟩⟩
instance : TyAgg P 3 false := ⟨Try.isAgg3⟩
instance : TySize P 3 1 := ⟨Try.sizeOf3⟩
instance : TyZ P 3 [.int .i64 0] := ⟨fun w => ⟨_, Try.zeroValue3 w, rfl⟩⟩
instance : TyU P 4 (.bool) := ⟨Try.underlying4⟩
instance : TyInf P 4 1 := ⟨⟨_, Try.type4, rfl⟩⟩
instance : TyAgg P 4 false := ⟨Try.isAgg4⟩
instance : TySize P 4 1 := ⟨Try.sizeOf4⟩
instance : TyZ P 4 [.bool false] := ⟨fun w => ⟨_, Try.zeroValue4 w, rfl⟩⟩
instance : TyU P 5 (.int .u8) := ⟨Try.underlying5⟩
instance : TyInf P 5 1 := ⟨⟨_, Try.type5, rfl⟩⟩
instance : TyAgg P 5 false := ⟨Try.isAgg5⟩
instance : TySize P 5 1 := ⟨Try.sizeOf5⟩
instance : TyZ P 5 [byteV 0] := ⟨fun w => ⟨_, Try.zeroValue5 w, rfl⟩⟩
instance : TyU P 9 (.string) := ⟨Try.underlying9⟩
instance : TyInf P 9 1 := ⟨⟨_, Try.type9, rfl⟩⟩
instance : TyAgg P 9 false := ⟨Try.isAgg9⟩
instance : TySize P 9 1 := ⟨Try.sizeOf9⟩
instance : TyZ P 9 [.string ⟨#[]⟩] := ⟨fun w => ⟨_, Try.zeroValue9 w, rfl⟩⟩
instance : TyU P 30 (.slice 5) := ⟨Try.underlying30⟩
instance : TyInf P 30 1 := ⟨⟨_, Try.type30, rfl⟩⟩
instance : TyAgg P 30 false := ⟨Try.isAgg30⟩
instance : TySize P 30 1 := ⟨Try.sizeOf30⟩
instance : TyZ P 30 [.slice none 0 0] := ⟨fun w => ⟨_, Try.zeroValue30 w, rfl⟩⟩
instance : TySl P 30 5 1 := ⟨Try.t5, byteV 0, Try.underlying30, Try.type5, rfl, rfl, rfl, by decide, by decide⟩
instance : TyU P 41 (.slice 9) := ⟨Try.underlying41⟩
instance : TyInf P 41 1 := ⟨⟨_, Try.type41, rfl⟩⟩
instance : TyAgg P 41 false := ⟨Try.isAgg41⟩
instance : TySize P 41 1 := ⟨Try.sizeOf41⟩
instance : TyZ P 41 [.slice none 0 0] := ⟨fun w => ⟨_, Try.zeroValue41 w, rfl⟩⟩
instance : TySl P 41 9 1 := ⟨Try.t9, .string ⟨#[]⟩, Try.underlying41, Try.type9, rfl, rfl, rfl, by decide, by decide⟩
instance : TyU P 47 (.slice 51) := ⟨Try.underlying47⟩
instance : TyInf P 47 1 := ⟨⟨_, Try.type47, rfl⟩⟩
instance : TyAgg P 47 false := ⟨Try.isAgg47⟩
instance : TySize P 47 1 := ⟨Try.sizeOf47⟩
instance : TyZ P 47 [.slice none 0 0] := ⟨fun w => ⟨_, Try.zeroValue47 w, rfl⟩⟩
instance : TySl P 47 51 3 := ⟨Try.t51, .agg #[.bool false, byteV 0, .string ⟨#[]⟩], Try.underlying47, Try.type51, rfl, rfl, rfl, by decide, by decide⟩
instance : TyInf P 51 3 := ⟨⟨_, Try.type51, rfl⟩⟩
instance : TyAgg P 51 true := ⟨Try.isAgg51⟩
instance : TySize P 51 3 := ⟨Try.sizeOf51⟩
instance : TyZ P 51 [.bool false, byteV 0, .string ⟨#[]⟩] := ⟨fun w => ⟨_, Try.zeroValue51 w, rfl⟩⟩
instance : TyEq P 51 [(4, 0), (5, 1), (9, 2)] := ⟨⟨_, Try.underlying51, rfl, by decide⟩, Try.stoodInHeld51, Try.eqGuardType51⟩
instance : TyB P 51 [.bool false, byteV 0, .string ⟨#[]⟩] [(0, 1), (1, 1), (2, 1)] := ⟨fun ps => by kernel_rfl⟩
instance : TyFld P 51 0 0 := ⟨fun a w => by simp [Instr.fieldAt, Instr.sureAddr, fieldPlace, Sem.run_bind, Try.runUnderlying51, Try.sizeOf4]⟩
instance : TyFld P 51 1 1 := ⟨fun a w => by simp [Instr.fieldAt, Instr.sureAddr, fieldPlace, Sem.run_bind, Try.runUnderlying51, Try.sizeOf5]⟩
instance : TyFld P 51 2 2 := ⟨fun a w => by simp [Instr.fieldAt, Instr.sureAddr, fieldPlace, Sem.run_bind, Try.runUnderlying51, Try.sizeOf9]⟩
instance : TyInf P 54 1 := ⟨⟨_, Try.type54, rfl⟩⟩
instance : TyFn P 54 := ⟨⟨_, _, _, Try.underlying54⟩⟩
instance : TyAgg P 54 false := ⟨Try.isAgg54⟩
instance : TySize P 54 1 := ⟨Try.sizeOf54⟩
instance : TyZ P 54 [.nilFunc] := ⟨fun w => ⟨_, Try.zeroValue54 w, rfl⟩⟩
instance : TyU P 80 (.pointer 82) := ⟨Try.underlying80⟩
instance : TyInf P 80 1 := ⟨⟨_, Try.type80, rfl⟩⟩
instance : TyAgg P 80 false := ⟨Try.isAgg80⟩
instance : TySize P 80 1 := ⟨Try.sizeOf80⟩
instance : TyZ P 80 [.pointer none] := ⟨fun w => ⟨_, Try.zeroValue80 w, rfl⟩⟩
instance : TyInf P 82 2 := ⟨⟨_, Try.type82, rfl⟩⟩
instance : TyLie P 82 2 := ⟨by kernel_rfl⟩
instance : TyAgg P 82 true := ⟨Try.isAgg82⟩
instance : TySize P 82 2 := ⟨Try.sizeOf82⟩
instance : TyZ P 82 [.pointer none, .slice none 0 0] := ⟨fun w => ⟨_, Try.zeroValue82 w, rfl⟩⟩
instance : TyB P 82 [.pointer none, .slice none 0 0] [(0, 1), (1, 1)] := ⟨fun ps => by kernel_rfl⟩
instance : TyFld P 82 0 0 := ⟨fun a w => by simp [Instr.fieldAt, Instr.sureAddr, fieldPlace, Sem.run_bind, Try.runUnderlying82, Try.sizeOf80]⟩
instance : TyFld P 82 1 1 := ⟨fun a w => by simp [Instr.fieldAt, Instr.sureAddr, fieldPlace, Sem.run_bind, Try.runUnderlying82, Try.sizeOf30]⟩
instance : TyU P 86 (.map 4 5) := ⟨Try.underlying86⟩
instance : TyInf P 86 1 := ⟨⟨_, Try.type86, rfl⟩⟩
instance : TyMap P 86 4 5 (.bool) := ⟨Try.underlying86, Try.underlying4⟩
instance : TyAgg P 86 false := ⟨Try.isAgg86⟩
instance : TySize P 86 1 := ⟨Try.sizeOf86⟩
instance : TyZ P 86 [.map none] := ⟨fun w => ⟨_, Try.zeroValue86 w, rfl⟩⟩
instance : TyU P 92 (.pointer 5) := ⟨Try.underlying92⟩
instance : TyInf P 92 1 := ⟨⟨_, Try.type92, rfl⟩⟩
instance : TyAgg P 92 false := ⟨Try.isAgg92⟩
instance : TySize P 92 1 := ⟨Try.sizeOf92⟩
instance : TyZ P 92 [.pointer none] := ⟨fun w => ⟨_, Try.zeroValue92 w, rfl⟩⟩
instance : TyUn P 96 := ⟨Try.underlying96⟩
instance : TyInf P 96 1 := ⟨⟨_, Try.type96, rfl⟩⟩
instance : TyZV P 5 (byteV 0) := ⟨Try.zeroValue5⟩
end Go.Proofs.Ytodnbkggkdadkaa
