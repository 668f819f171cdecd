import Derived.Test.YtogoaohhaiggpaaProg
import Derived.Test.YtogoaohhaiggpaaEn2
set_option linter.all false
namespace Go.Proofs.Ytogoaohhaiggpaa
open Go.Vx
noncomputable abbrev P := Try.prog
def bmask : Nat := 147573948191629901820
theorem bodies_ok : Bodies P bmask := bodies_of 84 (by decide +kernel) (by kernel_rfl) (by kernel_rfl)
section
variable {K : Value → St → Prop} {w : World} {ds : List Deferred}

/-- gosem.cut.init -/
def D2 (K : Value → World → Prop) (s : St) : Prop :=
  Dy P (.func (.func 1) #[] #[]) #[] (fun _ s => Ret P (fun w => K (.tuple #[]) w) s) s
theorem s2 (h : D2 (fun v w' => K v ⟨w', ds⟩) ⟨w, []⟩) : Cl P 2 #[] K ⟨w, ds⟩ := cl_st bodies_ok Try.func2 1 [] h

/-- rollcall/rollcalllaw16.PulseLives -/
def D3 (a0 a1 a2 : Value) (K : Value → World → Prop) (s : St) : Prop :=
  Cl P 6 #[] (fun v1 s => Uo P .not v1 (fun v2 s => CondP v2 (Ret P (fun w => K (.bool false) w) s) (Bi P .len #[22] 3 #[false] #[a2] (fun v3 s => Bo P .gtr 3 false true v3 (.int .i64 30) (fun v4 s => CondP v4 (Ret P (fun w => K (.bool true) w) s) (Cv P 5 3 a0 (fun v5 s => Bo P .rem 3 false true v5 (.int .i64 8) (fun v6 s => Bo P .add 3 true false (.int .i64 1) v6 (fun v7 s => Cv P 5 3 a1 (fun v8 s => Bo P .rem 3 false true v8 (.int .i64 8) (fun v9 s => Bo P .add 3 true false (.int .i64 1) v9 (fun v10 s => Bd P 27 #[(12, v7), (13, v10), (14, .int .i64 1)] (fun v11 s => Cl P 7 #[v11] (fun v12 s => Cl P 8 #[v12, .int .i64 3, .int .i64 0] (fun _ s => Cl P 9 #[v12, .int .i64 3, .int .i64 0] (fun _ s => L3 (.bool false) (.int .i64 0) (.int .i64 1) s (fun N15 x16 x17 x18 s => Bi P .len #[22] 3 #[false] #[a2] (fun v19 s => Bo P .leq 3 false false x18 v19 (fun v20 s => CondP v20 (J1 (fun A21 => Bo P .sub 3 false true x18 (.int .i64 1) (fun v23 s => Ia P 22 a2 v23 (fun v24 s => Ld P 4 v24 (fun v25 s => CondP v25 (Cl P 10 #[v12, .int .i64 3, x18] (fun _ s => A21 x18 s) s) (A21 x17 s)) s) s) s) (fun x22 s => J1 (fun A27 => Bo P .sub 3 false false x18 x22 (fun v29 s => Bo P .eql 3 false false v29 v7 (fun v30 s => CondP v30 (A27 (.int .i64 2) s) (A27 (.int .i64 0) s)) s) s) (fun x28 s => J1 (fun A31 => Bo P .sub 3 false false x18 x22 (fun v33 s => Bo P .add 3 false false v7 v10 (fun v34 s => Bo P .geq 3 false false v33 v34 (fun v35 s => CondP v35 (A31 (.int .i64 3) s) (A31 x28 s)) s) s) s) (fun x32 s => Cl P 11 #[v12, x18] (fun v36 s => Bo P .eql 30 false true v36 (.nilFunc) (fun v37 s => CondP v37 (Ret P (fun w => K (.bool false) w) s) (Al P 3 (fun v38 s => Sv P 3 v38 (.int .i64 0) (fun _ s => Rf P none 2 v36 (fun l39 as40 R41 s => Bg P l39 (fun s => Sv P 3 v38 (as40.tail.headD undef) (fun _ s => Er P l39 none R41 s) s) s) (fun s => Ld P 3 v38 (fun v43 s => Bo P .neq 3 false false v43 x32 (fun v44 s => CondP v44 (Ret P (fun w => K (.bool false) w) s) (Bo P .add 3 false true x18 (.int .i64 1) (fun v45 s => N15 x16 x22 v45 s) s)) s) s) (fun s => Ret P (fun w => K x16 w) s) (fun i42 s => False) s) s) s)) s) s)))) (Ret P (fun w => K (.bool true) w) s)) s) s)) s) s) s) s) s) s) s) s) s) s)) s) s)) s) s
theorem s3 {a0 a1 a2 : Value} (h : D3 a0 a1 a2 (fun v w' => K v ⟨w', ds⟩) ⟨w, []⟩) : Cl P 3 #[a0, a1, a2] K ⟨w, ds⟩ := cl_st bodies_ok Try.func3 77 [.tmp 6] h

/-- rollcall/rollcalllaw16.PulsePlays -/
def D4 (a0 a1 a2 a3 : Value) (K : Value → World → Prop) (s : St) : Prop :=
  Cl P 6 #[] (fun v1 s => Uo P .not v1 (fun v2 s => CondP v2 (Ret P (fun w => K (.bool false) w) s) (Bi P .len #[33] 3 #[false] #[a3] (fun v3 s => Bo P .gtr 3 false true v3 (.int .i64 60) (fun v4 s => J1 (fun A5 => Grd v4 false (Bo P .lss 3 false true a0 (.int .i64 1) (fun v7 s => A5 v7 s) s) (A5 undef s)) (fun x6 s => Pk P v4 (.bool true) x6 (fun v8 s => J1 (fun A9 => Grd v8 false (Bo P .lss 3 false true a1 (.int .i64 1) (fun v11 s => A9 v11 s) s) (A9 undef s)) (fun x10 s => Pk P v8 (.bool true) x10 (fun v12 s => J1 (fun A13 => Grd v12 false (Bo P .lss 3 false true a2 (.int .i64 1) (fun v15 s => A13 v15 s) s) (A13 undef s)) (fun x14 s => Pk P v12 (.bool true) x14 (fun v16 s => J1 (fun A17 => Grd v16 false (Bo P .gtr 3 false true a0 (.int .i64 1000000) (fun v19 s => A17 v19 s) s) (A17 undef s)) (fun x18 s => Pk P v16 (.bool true) x18 (fun v20 s => J1 (fun A21 => Grd v20 false (Bo P .gtr 3 false true a1 (.int .i64 1000000) (fun v23 s => A21 v23 s) s) (A21 undef s)) (fun x22 s => Pk P v20 (.bool true) x22 (fun v24 s => J1 (fun A25 => Grd v24 false (Bo P .gtr 3 false true a2 (.int .i64 1000000) (fun v27 s => A25 v27 s) s) (A25 undef s)) (fun x26 s => Pk P v24 (.bool true) x26 (fun v28 s => CondP v28 (Ret P (fun w => K (.bool true) w) s) (Bd P 27 #[(12, a0), (13, a1), (14, a2)] (fun v29 s => Cl P 7 #[v29] (fun v30 s => Bd P 37 #[(0, a0), (1, a1), (2, a2)] (fun v31 s => Bx P 37 v31 (fun v32 s => L2 (.int .i64 0) (.int .i64 0) s (fun N33 x34 x35 s => Bi P .len #[33] 3 #[false] #[a3] (fun v36 s => Bo P .lss 3 false false x35 v36 (fun v37 s => CondP v37 (Ia P 33 a3 x35 (fun v38 s => Ld P 39 v38 (fun v39 s => Al P 39 (fun v40 s => Sv P 39 v40 v39 (fun _ s => J1 (fun A41 => Fa P 39 v40 0 (fun v43 s => Ld P 3 v43 (fun v44 s => Bo P .eql 3 false true v44 (.int .i64 1) (fun v45 s => CondP v45 (Fa P 39 v40 1 (fun v46 s => Ld P 3 v46 (fun v47 s => Cl P 9 #[v30, v47, x34] (fun _ s => Fa P 39 v40 1 (fun v49 s => Ld P 3 v49 (fun v50 s => Cl P 12 #[v32, v50, x34] (fun _ s => A41 x34 s) s) s) s) s) s) s) (Bo P .eql 3 false true v44 (.int .i64 2) (fun v52 s => CondP v52 (Fa P 39 v40 1 (fun v53 s => Ld P 3 v53 (fun v54 s => Cl P 10 #[v30, v54, x34] (fun _ s => Fa P 39 v40 1 (fun v56 s => Ld P 3 v56 (fun v57 s => Cl P 13 #[v32, v57, x34] (fun _ s => A41 x34 s) s) s) s) s) s) s) (Bo P .eql 3 false true v44 (.int .i64 3) (fun v59 s => CondP v59 (Fa P 39 v40 1 (fun v60 s => Ld P 3 v60 (fun v61 s => Cl P 14 #[v30, v61] (fun _ s => Fa P 39 v40 1 (fun v63 s => Ld P 3 v63 (fun v64 s => Cl P 15 #[v32, v64] (fun _ s => A41 x34 s) s) s) s) s) s) s) (Bo P .eql 3 false true v44 (.int .i64 4) (fun v66 s => CondP v66 (Fa P 39 v40 2 (fun v67 s => Ld P 3 v67 (fun v68 s => Bo P .geq 3 false true v68 (.int .i64 0) (fun v69 s => J1 (fun A70 => Grd v69 true (Fa P 39 v40 2 (fun v72 s => Ld P 3 v72 (fun v73 s => Bo P .leq 3 false true v73 (.int .i64 1000000) (fun v74 s => A70 v74 s) s) s) s) (A70 undef s)) (fun x71 s => Pk P v69 x71 (.bool false) (fun v75 s => CondP v75 (Fa P 39 v40 2 (fun v76 s => Ld P 3 v76 (fun v77 s => Bo P .add 3 false false x34 v77 (fun v78 s => A41 v78 s) s) s) s) (A41 x34 s)) s)) s) s) s) (Bo P .eql 3 false true v44 (.int .i64 5) (fun v79 s => CondP v79 (Cl P 17 #[v32, x34] (fun v80 s => Cl P 16 #[v30, v80, x34] (fun v81 s => Uo P .not v81 (fun v82 s => CondP v82 (Ret P (fun w => K (.bool false) w) s) (A41 x34 s)) s) s) s) (Fa P 39 v40 1 (fun v83 s => Ld P 3 v83 (fun v84 s => Cl P 8 #[v30, v84, x34] (fun _ s => Fa P 39 v40 1 (fun v86 s => Ld P 3 v86 (fun v87 s => Cl P 18 #[v32, v87, x34] (fun _ s => A41 x34 s) s) s) s) s) s) s)) s)) s)) s)) s)) s) s) s) (fun x42 s => Fa P 39 v40 1 (fun v89 s => Ld P 3 v89 (fun v90 s => Cl P 19 #[v30, v90, x42] (fun v91 s => Ex P v91 0 (fun v92 s => Ex P v91 1 (fun v93 s => Fa P 39 v40 1 (fun v94 s => Ld P 3 v94 (fun v95 s => Cl P 20 #[v32, v95] (fun v96 s => Bo P .geq 3 false true v96 (.int .i64 0) (fun v97 s => Bo P .neq 4 false false v93 v97 (fun v98 s => J1 (fun A99 => Grd v98 false (A99 v93 s) (A99 undef s)) (fun x100 s => J1 (fun A101 => Grd x100 true (Nc P v32 (fun v103 s => Fa P 37 v103 3 (fun v104 s => Ld P 35 v104 (fun v105 s => Ia P 35 v105 v96 (fun v106 s => Fa P 48 v106 1 (fun v107 s => Ld P 3 v107 (fun v108 s => Bo P .sub 3 false false x42 v108 (fun v109 s => Bo P .neq 3 false false v92 v109 (fun v110 s => A101 v110 s) s) s) s) s) s) s) s) s) (A101 undef s)) (fun x102 s => J1 (fun A111 => Grd v98 false (Pk P x100 x102 (.bool false) (fun v113 s => A111 v113 s) s) (A111 undef s)) (fun x112 s => Pk P v98 (.bool true) x112 (fun v114 s => J1 (fun A115 => Grd v114 false (Uo P .not v93 (fun v117 s => A115 v117 s) s) (A115 undef s)) (fun x116 s => J1 (fun A118 => Grd x116 true (Bo P .neq 3 false true v92 (.int .i64 0) (fun v120 s => A118 v120 s) s) (A118 undef s)) (fun x119 s => J1 (fun A121 => Grd v114 false (Pk P x116 x119 (.bool false) (fun v123 s => A121 v123 s) s) (A121 undef s)) (fun x122 s => Pk P v114 (.bool true) x122 (fun v124 s => CondP v124 (Ret P (fun w => K (.bool false) w) s) (Bo P .add 3 false true x35 (.int .i64 1) (fun v125 s => N33 x42 v125 s) s)) s)))) s)))) s) s) s) s) s) s) s) s) s) s)) s) s) s) s) (Cl P 17 #[v32, x34] (fun v126 s => Cl P 16 #[v30, v126, x34] (fun v127 s => Ret P (fun w => K v127 w) s) s) s)) s) s)) s) s) s) s)) s)) s)) s)) s)) s)) s)) s) s)) s) s
theorem s4 {a0 a1 a2 a3 : Value} (h : D4 a0 a1 a2 a3 (fun v w' => K v ⟨w', ds⟩) ⟨w, []⟩) : Cl P 4 #[a0, a1, a2, a3] K ⟨w, ds⟩ := cl_st bodies_ok Try.func4 182 [.tmp 8] h

/-- rollcall/rollcalllaw16.PulseNone -/
def D5 (a0 a1 : Value) (K : Value → World → Prop) (s : St) : Prop :=
  Cl P 6 #[] (fun v1 s => Uo P .not v1 (fun v2 s => CondP v2 (Ret P (fun w => K (.bool false) w) s) (Cl P 8 #[.pointer none, a1, .int .i64 0] (fun _ s => Cl P 9 #[.pointer none, a1, .int .i64 0] (fun _ s => Cl P 10 #[.pointer none, a1, .int .i64 0] (fun _ s => Cl P 14 #[.pointer none, a1] (fun _ s => Cl P 19 #[.pointer none, a1, .int .i64 5] (fun v7 s => Ex P v7 0 (fun _ s => Ex P v7 1 (fun v9 s => Cv P 5 3 a0 (fun v10 s => Bo P .rem 3 false true v10 (.int .i64 20) (fun v11 s => Bo P .add 3 true false (.int .i64 1) v11 (fun v12 s => Bd P 27 #[(12, .int .i64 1), (13, .int .i64 1), (14, v12)] (fun v13 s => Cl P 7 #[v13] (fun v14 s => Cl P 8 #[v14, a1, .int .i64 0] (fun _ s => Cl P 10 #[v14, a1, v12] (fun _ s => Uo P .not v9 (fun v17 s => J1 (fun A18 => Grd v17 true (Cl P 16 #[.pointer none, .slice none 0 0, .int .i64 9] (fun v20 s => A18 v20 s) s) (A18 undef s)) (fun x19 s => Pk P v17 x19 (.bool false) (fun v21 s => J1 (fun A22 => Grd v21 true (Bo P .sub 3 false true v12 (.int .i64 1) (fun v24 s => Cl P 16 #[v14, .slice none 0 0, v24] (fun v25 s => A22 v25 s) s) s) (A22 undef s)) (fun x23 s => Pk P v21 x23 (.bool false) (fun v26 s => J1 (fun A27 => Grd v26 true (Bd P 51 #[(0, a1), (1, .int .i64 1)] (fun v29 s => Bs P 42 1 #[(0, v29)] (fun v30 s => Cl P 16 #[v14, v30, v12] (fun v31 s => A27 v31 s) s) s) s) (A27 undef s)) (fun x28 s => Pk P v26 x28 (.bool false) (fun v32 s => J1 (fun A33 => Grd v32 true (Bd P 51 #[(0, a1), (1, .int .i64 1)] (fun v35 s => Bs P 42 1 #[(0, v35)] (fun v36 s => Bo P .add 3 false true v12 (.int .i64 1) (fun v37 s => Cl P 16 #[v14, v36, v37] (fun v38 s => A33 v38 s) s) s) s) s) (A33 undef s)) (fun x34 s => Pk P v32 x34 (.bool false) (fun v39 s => Ret P (fun w => K v39 w) s) s)) s)) s)) s)) s) s) s) s) s) s) s) s) s) s) s) s) s) s) s)) s) s
theorem s5 {a0 a1 : Value} (h : D5 a0 a1 (fun v w' => K v ⟨w', ds⟩) ⟨w, []⟩) : Cl P 5 #[a0, a1] K ⟨w, ds⟩ := cl_st bodies_ok Try.func5 73 [.tmp 4] h

/-- rollcall/rollcalllaw16.awake -/
def D6 (K : Value → World → Prop) (s : St) : Prop :=
  Bd P 27 #[(12, .int .i64 2), (13, .int .i64 1), (14, .int .i64 9)] (fun v1 s => Cl P 7 #[v1] (fun v2 s => Cl P 8 #[v2, .int .i64 7, .int .i64 0] (fun _ s => Cl P 9 #[v2, .int .i64 7, .int .i64 0] (fun _ s => Cl P 16 #[v2, .slice none 0 0, .int .i64 1] (fun v5 s => J1 (fun A6 => Grd v5 true (Bd P 51 #[(0, .int .i64 7), (1, .int .i64 2)] (fun v8 s => Bs P 42 1 #[(0, v8)] (fun v9 s => Cl P 16 #[v2, v9, .int .i64 2] (fun v10 s => A6 v10 s) s) s) s) (A6 undef s)) (fun x7 s => Pk P v5 x7 (.bool false) (fun v11 s => J1 (fun A12 => Grd v11 true (Bd P 51 #[(0, .int .i64 7), (1, .int .i64 3)] (fun v14 s => Bs P 42 1 #[(0, v14)] (fun v15 s => Cl P 16 #[v2, v15, .int .i64 3] (fun v16 s => A12 v16 s) s) s) s) (A12 undef s)) (fun x13 s => Pk P v11 x13 (.bool false) (fun v17 s => Ret P (fun w => K v17 w) s) s)) s)) s) s) s) s) s
theorem s6 (h : D6 (fun v w' => K v ⟨w', ds⟩) ⟨w, []⟩) : Cl P 6 #[] K ⟨w, ds⟩ := cl_st bodies_ok Try.func6 22 [.tmp 0] h

/-- rollcall/pulse.New -/
def D7 (a0 : Value) (K : Value → World → Prop) (s : St) : Prop :=
  Bx P 27 a0 (fun v1 s => J1 (fun A2 => Dw (fun s => Qt (Fa P 27 v1 12) s fun v4 => Qt (Ld P 3 v4) s fun v5 => Qt (Bi P .max #[3, 3] 3 #[false, true] #[v5, .int .i64 1]) s fun v6 => Qt (Fa P 27 v1 13) s fun v7 => Qt (Ld P 3 v7) s fun v8 => Qt (Bi P .max #[3, 3] 3 #[false, true] #[v8, .int .i64 1]) s fun v9 => Qt (Fa P 27 v1 14) s fun v10 => Qt (Ld P 3 v10) s fun v11 => Qt (Bi P .max #[3, 3] 3 #[false, true] #[v11, .int .i64 1]) s fun v12 => (Mm P 53 none (fun v13 s => Ck (Fa P 27 v1 12) v4 s ∧ Ck (Ld P 3 v4) v5 s ∧ Ck (Bi P .max #[3, 3] 3 #[false, true] #[v5, .int .i64 1]) v6 s ∧ Ck (Fa P 27 v1 13) v7 s ∧ Ck (Ld P 3 v7) v8 s ∧ Ck (Bi P .max #[3, 3] 3 #[false, true] #[v8, .int .i64 1]) v9 s ∧ Ck (Fa P 27 v1 14) v10 s ∧ Ck (Ld P 3 v10) v11 s ∧ Ck (Bi P .max #[3, 3] 3 #[false, true] #[v11, .int .i64 1]) v12 s ∧ (Cl P 21 #[] (fun v14 s => Ck (Fa P 27 v1 12) v4 s ∧ Ck (Ld P 3 v4) v5 s ∧ Ck (Bi P .max #[3, 3] 3 #[false, true] #[v5, .int .i64 1]) v6 s ∧ Ck (Fa P 27 v1 13) v7 s ∧ Ck (Ld P 3 v7) v8 s ∧ Ck (Bi P .max #[3, 3] 3 #[false, true] #[v8, .int .i64 1]) v9 s ∧ Ck (Fa P 27 v1 14) v10 s ∧ Ck (Ld P 3 v10) v11 s ∧ Ck (Bi P .max #[3, 3] 3 #[false, true] #[v11, .int .i64 1]) v12 s ∧ (Cl P 21 #[] (fun v15 s => Ck (Fa P 27 v1 12) v4 s ∧ Ck (Ld P 3 v4) v5 s ∧ Ck (Bi P .max #[3, 3] 3 #[false, true] #[v5, .int .i64 1]) v6 s ∧ Ck (Fa P 27 v1 13) v7 s ∧ Ck (Ld P 3 v7) v8 s ∧ Ck (Bi P .max #[3, 3] 3 #[false, true] #[v8, .int .i64 1]) v9 s ∧ Ck (Fa P 27 v1 14) v10 s ∧ Ck (Ld P 3 v10) v11 s ∧ Ck (Bi P .max #[3, 3] 3 #[false, true] #[v11, .int .i64 1]) v12 s ∧ (Cl P 21 #[] (fun v16 s => Ck (Fa P 27 v1 12) v4 s ∧ Ck (Ld P 3 v4) v5 s ∧ Ck (Bi P .max #[3, 3] 3 #[false, true] #[v5, .int .i64 1]) v6 s ∧ Ck (Fa P 27 v1 13) v7 s ∧ Ck (Ld P 3 v7) v8 s ∧ Ck (Bi P .max #[3, 3] 3 #[false, true] #[v8, .int .i64 1]) v9 s ∧ Ck (Fa P 27 v1 14) v10 s ∧ Ck (Ld P 3 v10) v11 s ∧ Ck (Bi P .max #[3, 3] 3 #[false, true] #[v11, .int .i64 1]) v12 s ∧ (Qt (Bd P 57 #[(0, v6), (1, v9), (2, v12), (3, v13), (4, v14), (5, v15), (6, v16)]) s fun v17 => Bx P 57 v17 (fun v18 s => A2 v18 s) s)) s)) s)) s)) s) ∧ (Cl P 21 #[] (fun v19 s => Ck (Fa P 27 v1 12) v4 s ∧ Ck (Ld P 3 v4) v5 s ∧ Ck (Bi P .max #[3, 3] 3 #[false, true] #[v5, .int .i64 1]) v6 s ∧ Ck (Fa P 27 v1 13) v7 s ∧ Ck (Ld P 3 v7) v8 s ∧ Ck (Bi P .max #[3, 3] 3 #[false, true] #[v8, .int .i64 1]) v9 s ∧ Ck (Fa P 27 v1 14) v10 s ∧ Ck (Ld P 3 v10) v11 s ∧ Ck (Bi P .max #[3, 3] 3 #[false, true] #[v11, .int .i64 1]) v12 s ∧ ((Mm P 53 none (fun v20 s => Ck (Fa P 27 v1 12) v4 s ∧ Ck (Ld P 3 v4) v5 s ∧ Ck (Bi P .max #[3, 3] 3 #[false, true] #[v5, .int .i64 1]) v6 s ∧ Ck (Fa P 27 v1 13) v7 s ∧ Ck (Ld P 3 v7) v8 s ∧ Ck (Bi P .max #[3, 3] 3 #[false, true] #[v8, .int .i64 1]) v9 s ∧ Ck (Fa P 27 v1 14) v10 s ∧ Ck (Ld P 3 v10) v11 s ∧ Ck (Bi P .max #[3, 3] 3 #[false, true] #[v11, .int .i64 1]) v12 s ∧ (Cl P 21 #[] (fun v21 s => Ck (Fa P 27 v1 12) v4 s ∧ Ck (Ld P 3 v4) v5 s ∧ Ck (Bi P .max #[3, 3] 3 #[false, true] #[v5, .int .i64 1]) v6 s ∧ Ck (Fa P 27 v1 13) v7 s ∧ Ck (Ld P 3 v7) v8 s ∧ Ck (Bi P .max #[3, 3] 3 #[false, true] #[v8, .int .i64 1]) v9 s ∧ Ck (Fa P 27 v1 14) v10 s ∧ Ck (Ld P 3 v10) v11 s ∧ Ck (Bi P .max #[3, 3] 3 #[false, true] #[v11, .int .i64 1]) v12 s ∧ (Cl P 21 #[] (fun v22 s => Ck (Fa P 27 v1 12) v4 s ∧ Ck (Ld P 3 v4) v5 s ∧ Ck (Bi P .max #[3, 3] 3 #[false, true] #[v5, .int .i64 1]) v6 s ∧ Ck (Fa P 27 v1 13) v7 s ∧ Ck (Ld P 3 v7) v8 s ∧ Ck (Bi P .max #[3, 3] 3 #[false, true] #[v8, .int .i64 1]) v9 s ∧ Ck (Fa P 27 v1 14) v10 s ∧ Ck (Ld P 3 v10) v11 s ∧ Ck (Bi P .max #[3, 3] 3 #[false, true] #[v11, .int .i64 1]) v12 s ∧ (Qt (Bd P 57 #[(0, v6), (1, v9), (2, v12), (3, v20), (4, v19), (5, v21), (6, v22)]) s fun v23 => Bx P 57 v23 (fun v24 s => A2 v24 s) s)) s)) s)) s) ∧ (Cl P 21 #[] (fun v25 s => Ck (Fa P 27 v1 12) v4 s ∧ Ck (Ld P 3 v4) v5 s ∧ Ck (Bi P .max #[3, 3] 3 #[false, true] #[v5, .int .i64 1]) v6 s ∧ Ck (Fa P 27 v1 13) v7 s ∧ Ck (Ld P 3 v7) v8 s ∧ Ck (Bi P .max #[3, 3] 3 #[false, true] #[v8, .int .i64 1]) v9 s ∧ Ck (Fa P 27 v1 14) v10 s ∧ Ck (Ld P 3 v10) v11 s ∧ Ck (Bi P .max #[3, 3] 3 #[false, true] #[v11, .int .i64 1]) v12 s ∧ ((Mm P 53 none (fun v26 s => Ck (Fa P 27 v1 12) v4 s ∧ Ck (Ld P 3 v4) v5 s ∧ Ck (Bi P .max #[3, 3] 3 #[false, true] #[v5, .int .i64 1]) v6 s ∧ Ck (Fa P 27 v1 13) v7 s ∧ Ck (Ld P 3 v7) v8 s ∧ Ck (Bi P .max #[3, 3] 3 #[false, true] #[v8, .int .i64 1]) v9 s ∧ Ck (Fa P 27 v1 14) v10 s ∧ Ck (Ld P 3 v10) v11 s ∧ Ck (Bi P .max #[3, 3] 3 #[false, true] #[v11, .int .i64 1]) v12 s ∧ (Cl P 21 #[] (fun v27 s => Ck (Fa P 27 v1 12) v4 s ∧ Ck (Ld P 3 v4) v5 s ∧ Ck (Bi P .max #[3, 3] 3 #[false, true] #[v5, .int .i64 1]) v6 s ∧ Ck (Fa P 27 v1 13) v7 s ∧ Ck (Ld P 3 v7) v8 s ∧ Ck (Bi P .max #[3, 3] 3 #[false, true] #[v8, .int .i64 1]) v9 s ∧ Ck (Fa P 27 v1 14) v10 s ∧ Ck (Ld P 3 v10) v11 s ∧ Ck (Bi P .max #[3, 3] 3 #[false, true] #[v11, .int .i64 1]) v12 s ∧ (Qt (Bd P 57 #[(0, v6), (1, v9), (2, v12), (3, v26), (4, v19), (5, v25), (6, v27)]) s fun v28 => Bx P 57 v28 (fun v29 s => A2 v29 s) s)) s)) s) ∧ (Cl P 21 #[] (fun v30 s => Ck (Fa P 27 v1 12) v4 s ∧ Ck (Ld P 3 v4) v5 s ∧ Ck (Bi P .max #[3, 3] 3 #[false, true] #[v5, .int .i64 1]) v6 s ∧ Ck (Fa P 27 v1 13) v7 s ∧ Ck (Ld P 3 v7) v8 s ∧ Ck (Bi P .max #[3, 3] 3 #[false, true] #[v8, .int .i64 1]) v9 s ∧ Ck (Fa P 27 v1 14) v10 s ∧ Ck (Ld P 3 v10) v11 s ∧ Ck (Bi P .max #[3, 3] 3 #[false, true] #[v11, .int .i64 1]) v12 s ∧ (Mm P 53 none (fun v31 s => Ck (Fa P 27 v1 12) v4 s ∧ Ck (Ld P 3 v4) v5 s ∧ Ck (Bi P .max #[3, 3] 3 #[false, true] #[v5, .int .i64 1]) v6 s ∧ Ck (Fa P 27 v1 13) v7 s ∧ Ck (Ld P 3 v7) v8 s ∧ Ck (Bi P .max #[3, 3] 3 #[false, true] #[v8, .int .i64 1]) v9 s ∧ Ck (Fa P 27 v1 14) v10 s ∧ Ck (Ld P 3 v10) v11 s ∧ Ck (Bi P .max #[3, 3] 3 #[false, true] #[v11, .int .i64 1]) v12 s ∧ (Qt (Bd P 57 #[(0, v6), (1, v9), (2, v12), (3, v31), (4, v19), (5, v25), (6, v30)]) s fun v32 => Bx P 57 v32 (fun v33 s => A2 v33 s) s)) s)) s))) s))) s)) s) (fun x3 s => Ret P (fun w => K x3 w) s)) s
theorem s7 {a0 : Value} (h : D7 a0 (fun v w' => K v ⟨w', ds⟩) ⟨w, []⟩) : Cl P 7 #[a0] K ⟨w, ds⟩ := cl_st bodies_ok Try.func7 18 [.tmp 2] h

/-- (*rollcall/pulse.Pulse).Join -/
def D8 (a0 a1 a2 : Value) (K : Value → World → Prop) (s : St) : Prop :=
  Bo P .eql 24 false true a0 (.pointer none) (fun v1 s => CondP v1 (Ret P (fun w => K (.tuple #[]) w) s) (Cl P 14 #[a0, a1] (fun _ s => Nc P a0 (fun v3 s => Fa P 57 v3 3 (fun v4 s => Ld P 53 v4 (fun v5 s => Mu P 53 v5 a1 a2 (fun _ s => Dw (fun s => Qt (Nc P a0) s fun v6 => Qt (Fa P 57 v6 4) s fun v7 => Qt (Ld P 54 v7) s fun v8 => Qt (Nc P a0) s fun v9 => Qt (Fa P 57 v9 2) s fun v10 => Qt (Ld P 3 v10) s fun v11 => Qt (Bo P .add 3 false false a2 v11) s fun v12 => Cl P 22 #[v8, a1, v12] (fun _ s => Ret P (fun w => K (.tuple #[]) w) s) s) s) s) s) s) s) s)) s
theorem s8 {a0 a1 a2 : Value} (h : D8 a0 a1 a2 (fun v w' => K v ⟨w', ds⟩) ⟨w, []⟩) : Cl P 8 #[a0, a1, a2] K ⟨w, ds⟩ := cl_st bodies_ok Try.func8 29 [] h

/-- (*rollcall/pulse.Pulse).Register -/
def D9 (a0 a1 a2 : Value) (K : Value → World → Prop) (s : St) : Prop :=
  Bo P .eql 24 false true a0 (.pointer none) (fun v1 s => CondP v1 (Ret P (fun w => K (.tuple #[]) w) s) (Nc P a0 (fun v2 s => Fa P 57 v2 3 (fun v3 s => Ld P 53 v3 (fun v4 s => Lk P 53 v4 a1 true (fun v5 s => Ex P v5 0 (fun _ s => Ex P v5 1 (fun v7 s => Uo P .not v7 (fun v8 s => CondP v8 (Ret P (fun w => K (.tuple #[]) w) s) (Nc P a0 (fun v9 s => Fa P 57 v9 4 (fun v10 s => Ld P 54 v10 (fun v11 s => Cl P 23 #[v11, a1] (fun _ s => Nc P a0 (fun v13 s => Fa P 57 v13 3 (fun v14 s => Ld P 53 v14 (fun v15 s => Mu P 53 v15 a1 a2 (fun _ s => Dw (fun s => Qt (Nc P a0) s fun v16 => Qt (Fa P 57 v16 5) s fun v17 => Qt (Ld P 54 v17) s fun v18 => Qt (Nc P a0) s fun v19 => Qt (Fa P 57 v19 0) s fun v20 => Qt (Ld P 3 v20) s fun v21 => Qt (Bo P .add 3 false false a2 v21) s fun v22 => Cl P 22 #[v18, a1, v22] (fun _ s => Dw (fun s => Qt (Nc P a0) s fun v24 => Qt (Fa P 57 v24 6) s fun v25 => Qt (Ld P 54 v25) s fun v26 => Qt (Nc P a0) s fun v27 => Qt (Fa P 57 v27 0) s fun v28 => Qt (Ld P 3 v28) s fun v29 => Qt (Bo P .add 3 false false a2 v29) s fun v30 => Qt (Nc P a0) s fun v31 => Qt (Fa P 57 v31 1) s fun v32 => Qt (Ld P 3 v32) s fun v33 => Qt (Bo P .add 3 false false v30 v33) s fun v34 => Cl P 22 #[v26, a1, v34] (fun _ s => Ret P (fun w => K (.tuple #[]) w) s) s) s) s) s) s) s) s) s) s) s) s) s)) s) s) s) s) s) s) s)) s
theorem s9 {a0 a1 a2 : Value} (h : D9 a0 a1 a2 (fun v w' => K v ⟨w', ds⟩) ⟨w, []⟩) : Cl P 9 #[a0, a1, a2] K ⟨w, ds⟩ := cl_st bodies_ok Try.func9 62 [] h

/-- (*rollcall/pulse.Pulse).Line -/
def D10 (a0 a1 a2 : Value) (K : Value → World → Prop) (s : St) : Prop :=
  Bo P .eql 24 false true a0 (.pointer none) (fun v1 s => CondP v1 (Ret P (fun w => K (.tuple #[]) w) s) (Nc P a0 (fun v2 s => Fa P 57 v2 6 (fun v3 s => Ld P 54 v3 (fun v4 s => Cl P 24 #[v4, a1] (fun v5 s => Ex P v5 0 (fun _ s => Ex P v5 1 (fun v7 s => CondP v7 (Cl P 9 #[a0, a1, a2] (fun _ s => Ret P (fun w => K (.tuple #[]) w) s) s) (Ret P (fun w => K (.tuple #[]) w) s)) s) s) s) s) s) s)) s
theorem s10 {a0 a1 a2 : Value} (h : D10 a0 a1 a2 (fun v w' => K v ⟨w', ds⟩) ⟨w, []⟩) : Cl P 10 #[a0, a1, a2] K ⟨w, ds⟩ := cl_st bodies_ok Try.func10 24 [] h

/-- (*rollcall/pulse.Pulse).Due -/
def D11 (a0 a1 : Value) (K : Value → World → Prop) (s : St) : Prop :=
  Bx P 24 a0 (fun v1 s => Bx P 3 a1 (fun v2 s => Ld P 24 v1 (fun v3 s => Bo P .eql 24 false true v3 (.pointer none) (fun v4 s => CondP v4 (Ret P (fun w => K (.func (.func 25) #[] #[]) w) s) (Mm P 53 none (fun v5 s => Al P 53 (fun v6 s => Sv P 53 v6 v5 (fun _ s => Dw (fun s => Qt (Ld P 24 v1) s fun v7 => Qt (Nc P v7) s fun v8 => Qt (Fa P 57 v8 4) s fun v9 => Qt (Ld P 54 v9) s fun v10 => Qt (Ld P 3 v2) s fun v11 => Cl P 26 #[v10, v11] (fun v12 s => Rf P none 2 v12 (fun l13 as14 R15 s => Bg P l13 (fun s => Ld P 53 v6 (fun v17 s => Mu P 53 v17 (as14.headD undef) (.int .i64 1) (fun _ s => Er P l13 none R15 s) s) s) s) (fun s => Dw (fun s => Qt (Ld P 24 v1) s fun v18 => Qt (Nc P v18) s fun v19 => Qt (Fa P 57 v19 5) s fun v20 => Qt (Ld P 54 v20) s fun v21 => Qt (Ld P 3 v2) s fun v22 => Cl P 27 #[v21, v22] (fun v23 s => Qt (Bi P .len #[61] 3 #[false] #[v23]) s fun v24 => L1 (.int .i64 0) s (fun N25 x26 s => Bo P .lss 3 false false x26 v24 (fun v27 s => CondP v27 (Ia P 61 v23 x26 (fun v28 s => Ld P 3 v28 (fun v29 s => Ld P 53 v6 (fun v30 s => Mu P 53 v30 v29 (.int .i64 2) (fun _ s => Bo P .add 3 false true x26 (.int .i64 1) (fun v31 s => N25 v31 s) s) s) s) s) s) (Dw (fun s => Qt (Ld P 24 v1) s fun v32 => Qt (Nc P v32) s fun v33 => Qt (Fa P 57 v33 6) s fun v34 => Qt (Ld P 54 v34) s fun v35 => Qt (Ld P 3 v2) s fun v36 => Cl P 26 #[v35, v36] (fun v37 s => Rf P none 2 v37 (fun l38 as39 R40 s => Bg P l38 (fun s => J0 (fun A42 => Ld P 53 v6 (fun v43 s => Lk P 53 v43 (as39.headD undef) false (fun v44 s => Bo P .eql 3 false true v44 (.int .i64 2) (fun v45 s => CondP v45 (Dw (fun s => Qt (Ld P 24 v1) s fun v46 => Qt (Nc P v46) s fun v47 => Qt (Fa P 57 v47 5) s fun v48 => Qt (Ld P 54 v48) s fun v49 => Qt (Ld P 3 v2) s fun v50 => Cl P 22 #[v49, as39.headD undef, v50] (fun _ s => A42 s) s) s) (A42 s)) s) s) s) (fun s => Ld P 53 v6 (fun v52 s => Mu P 53 v52 (as39.headD undef) (.int .i64 3) (fun _ s => Er P l38 none R40 s) s) s)) s) (fun s => Ld P 53 v6 (fun v53 s => Cl P 29 #[v53] (fun v54 s => Cl P 28 #[v54] (fun v55 s => Al P 61 (fun v56 s => Sv P 61 v56 v55 (fun _ s => Mf P (.func 30) #[] #[v56, v6] (fun v57 s => Ret P (fun w => K v57 w) s) s) s) s) s) s) s) (fun s => Ret P (fun w => K (.nilFunc) w) s) (fun i41 s => False) s) s) s)) s)) s) s) (fun s => Ret P (fun w => K (.nilFunc) w) s) (fun i16 s => False) s) s) s) s) s) s)) s) s) s) s
theorem s11 {a0 a1 : Value} (h : D11 a0 a1 (fun v w' => K v ⟨w', ds⟩) ⟨w, []⟩) : Cl P 11 #[a0, a1] K ⟨w, ds⟩ := cl_st bodies_ok Try.func11 63 [.tmp 4] h

/-- (*rollcall/rollcallref16.Pulse).Register -/
def D12 (a0 a1 a2 : Value) (K : Value → World → Prop) (s : St) : Prop :=
  Cl P 20 #[a0, a1] (fun v1 s => Bo P .geq 3 false true v1 (.int .i64 0) (fun v2 s => CondP v2 (Nc P a0 (fun v3 s => Fa P 37 v3 3 (fun v4 s => Ld P 35 v4 (fun v5 s => Bd P 48 #[(0, a1), (1, a2), (2, .bool true)] (fun v6 s => Ia P 35 v5 v1 (fun v7 s => Sv P 48 v7 v6 (fun _ s => Ret P (fun w => K (.tuple #[]) w) s) s) s) s) s) s) s) (Ret P (fun w => K (.tuple #[]) w) s)) s) s
theorem s12 {a0 a1 a2 : Value} (h : D12 a0 a1 a2 (fun v w' => K v ⟨w', ds⟩) ⟨w, []⟩) : Cl P 12 #[a0, a1, a2] K ⟨w, ds⟩ := cl_st bodies_ok Try.func12 21 [] h

/-- (*rollcall/rollcallref16.Pulse).Line -/
def D13 (a0 a1 a2 : Value) (K : Value → World → Prop) (s : St) : Prop :=
  Cl P 20 #[a0, a1] (fun v1 s => Bo P .geq 3 false true v1 (.int .i64 0) (fun v2 s => J1 (fun A3 => Grd v2 true (Nc P a0 (fun v5 s => Fa P 37 v5 3 (fun v6 s => Ld P 35 v6 (fun v7 s => Ia P 35 v7 v1 (fun v8 s => Fa P 48 v8 2 (fun v9 s => Ld P 4 v9 (fun v10 s => A3 v10 s) s) s) s) s) s) s) (A3 undef s)) (fun x4 s => Pk P v2 x4 (.bool false) (fun v11 s => CondP v11 (Nc P a0 (fun v12 s => Fa P 37 v12 3 (fun v13 s => Ld P 35 v13 (fun v14 s => Bd P 48 #[(0, a1), (1, a2), (2, .bool true)] (fun v15 s => Ia P 35 v14 v1 (fun v16 s => Sv P 48 v16 v15 (fun _ s => Ret P (fun w => K (.tuple #[]) w) s) s) s) s) s) s) s) (Ret P (fun w => K (.tuple #[]) w) s)) s)) s) s
theorem s13 {a0 a1 a2 : Value} (h : D13 a0 a1 a2 (fun v w' => K v ⟨w', ds⟩) ⟨w, []⟩) : Cl P 13 #[a0, a1, a2] K ⟨w, ds⟩ := cl_st bodies_ok Try.func13 31 [] h

/-- (*rollcall/pulse.Pulse).Leave -/
def D14 (a0 a1 : Value) (K : Value → World → Prop) (s : St) : Prop :=
  Bo P .eql 24 false true a0 (.pointer none) (fun v1 s => CondP v1 (Ret P (fun w => K (.tuple #[]) w) s) (Nc P a0 (fun v2 s => Fa P 57 v2 3 (fun v3 s => Ld P 53 v3 (fun v4 s => Bi P .delete #[53, 3] 0 #[false, false] #[v4, a1] (fun _ s => Nc P a0 (fun v5 s => Fa P 57 v5 4 (fun v6 s => Ld P 54 v6 (fun v7 s => Cl P 23 #[v7, a1] (fun _ s => Nc P a0 (fun v9 s => Fa P 57 v9 5 (fun v10 s => Ld P 54 v10 (fun v11 s => Cl P 23 #[v11, a1] (fun _ s => Nc P a0 (fun v13 s => Fa P 57 v13 6 (fun v14 s => Ld P 54 v14 (fun v15 s => Cl P 23 #[v15, a1] (fun _ s => Ret P (fun w => K (.tuple #[]) w) s) s) s) s) s) s) s) s) s) s) s) s) s) s) s) s) s)) s
theorem s14 {a0 a1 : Value} (h : D14 a0 a1 (fun v w' => K v ⟨w', ds⟩) ⟨w, []⟩) : Cl P 14 #[a0, a1] K ⟨w, ds⟩ := cl_st bodies_ok Try.func14 29 [] h

/-- (*rollcall/rollcallref16.Pulse).Leave -/
def D15 (a0 a1 : Value) (K : Value → World → Prop) (s : St) : Prop :=
  Cl P 20 #[a0, a1] (fun v1 s => Bo P .geq 3 false true v1 (.int .i64 0) (fun v2 s => CondP v2 (Dw (fun s => Qt (Nc P a0) s fun v3 => Qt (Fa P 37 v3 3) s fun v4 => Qt (Ld P 35 v4) s fun v5 => Qt (Sl P 35 v5 none (some v1) none) s fun v6 => Qt (Nc P a0) s fun v7 => Qt (Fa P 37 v7 3) s fun v8 => Qt (Ld P 35 v8) s fun v9 => Qt (Bo P .add 3 false true v1 (.int .i64 1)) s fun v10 => Qt (Sl P 35 v9 (some v10) none none) s fun v11 => Bs P 35 0 #[] (fun v12 s => Ck (Nc P a0) v3 s ∧ Ck (Fa P 37 v3 3) v4 s ∧ Ck (Ld P 35 v4) v5 s ∧ Ck (Sl P 35 v5 none (some v1) none) v6 s ∧ Ck (Nc P a0) v7 s ∧ Ck (Fa P 37 v7 3) v8 s ∧ Ck (Ld P 35 v8) v9 s ∧ Ck (Bo P .add 3 false true v1 (.int .i64 1)) v10 s ∧ Ck (Sl P 35 v9 (some v10) none none) v11 s ∧ (Bi P .append #[35, 35] 35 #[false, false] #[v12, v6] (fun v13 s => Ck (Nc P a0) v7 s ∧ Ck (Fa P 37 v7 3) v8 s ∧ Ck (Ld P 35 v8) v9 s ∧ Ck (Bo P .add 3 false true v1 (.int .i64 1)) v10 s ∧ Ck (Sl P 35 v9 (some v10) none none) v11 s ∧ (Bi P .append #[35, 35] 35 #[false, false] #[v13, v11] (fun v14 s => Qt (Nc P a0) s fun v15 => Qt (Fa P 37 v15 3) s fun v16 => Sv P 35 v16 v14 (fun _ s => Ret P (fun w => K (.tuple #[]) w) s) s) s)) s)) s) s) (Ret P (fun w => K (.tuple #[]) w) s)) s) s
theorem s15 {a0 a1 : Value} (h : D15 a0 a1 (fun v w' => K v ⟨w', ds⟩) ⟨w, []⟩) : Cl P 15 #[a0, a1] K ⟨w, ds⟩ := cl_st bodies_ok Try.func15 29 [] h

/-- rollcall/rollcalllaw16.same -/
def D16 (a0 a1 a2 : Value) (K : Value → World → Prop) (s : St) : Prop :=
  Bx P 42 a1 (fun v1 s => Al P 4 (fun v2 s => Al P 3 (fun v3 s => Sv P 3 v3 (.int .i64 0) (fun _ s => Al P 4 (fun v4 s => Sv P 4 v4 (.bool true) (fun _ s => Cl P 11 #[a0, a2] (fun v5 s => Bo P .eql 30 false true v5 (.nilFunc) (fun v6 s => CondP v6 (Sv P 4 v2 (.bool false) (fun _ s => Ret P (fun w => LdR P 4 v2 w fun v7 => K v7 w) s) s) (Rf P none 2 v5 (fun l8 as9 R10 s => Bg P l8 (fun s => Ld P 3 v3 (fun v12 s => Ld P 42 v1 (fun v13 s => Bi P .len #[42] 3 #[false] #[v13] (fun v14 s => Bo P .geq 3 false false v12 v14 (fun v15 s => CondP v15 (Sv P 4 v2 (.bool false) (fun _ s => Er P l8 (some .ret) R10 s) s) (Ld P 4 v4 (fun v16 s => J1 (fun A17 => Grd v16 true (Ld P 42 v1 (fun v19 s => Ld P 3 v3 (fun v20 s => Ia P 42 v19 v20 (fun v21 s => Fa P 51 v21 0 (fun v22 s => Ld P 3 v22 (fun v23 s => Bo P .eql 3 false false (as9.headD undef) v23 (fun v24 s => A17 v24 s) s) s) s) s) s) s) (A17 undef s)) (fun x18 s => Pk P v16 x18 (.bool false) (fun v25 s => J1 (fun A26 => Grd v25 true (Ld P 42 v1 (fun v28 s => Ld P 3 v3 (fun v29 s => Ia P 42 v28 v29 (fun v30 s => Fa P 51 v30 1 (fun v31 s => Ld P 3 v31 (fun v32 s => Bo P .eql 3 false false (as9.tail.headD undef) v32 (fun v33 s => A26 v33 s) s) s) s) s) s) s) (A26 undef s)) (fun x27 s => Pk P v25 x27 (.bool false) (fun v34 s => Sv P 4 v4 v34 (fun _ s => Ld P 3 v3 (fun v35 s => Bo P .add 3 false true v35 (.int .i64 1) (fun v36 s => Sv P 3 v3 v36 (fun _ s => Er P l8 none R10 s) s) s) s) s) s)) s)) s)) s) s) s) s) s) (fun s => Ld P 4 v4 (fun v37 s => J1 (fun A38 => Grd v37 true (Ld P 3 v3 (fun v40 s => Ld P 42 v1 (fun v41 s => Bi P .len #[42] 3 #[false] #[v41] (fun v42 s => Bo P .eql 3 false false v40 v42 (fun v43 s => A38 v43 s) s) s) s) s) (A38 undef s)) (fun x39 s => Pk P v37 x39 (.bool false) (fun v44 s => Sv P 4 v2 v44 (fun _ s => Ret P (fun w => LdR P 4 v2 w fun v45 => K v45 w) s) s) s)) s) (fun s => Ret P (fun w => LdR P 4 v2 w fun v46 => K v46 w) s) (fun i11 s => False) s)) s) s) s) s) s) s) s) s
theorem s16 {a0 a1 a2 : Value} (h : D16 a0 a1 a2 (fun v w' => K v ⟨w', ds⟩) ⟨w, []⟩) : Cl P 16 #[a0, a1, a2] K ⟨w, ds⟩ := cl_st bodies_ok Try.func16 52 [.cell 6 4] h

/-- (*rollcall/rollcallref16.Pulse).Due -/
def D17 (a0 a1 : Value) (K : Value → World → Prop) (s : St) : Prop :=
  L2 (.slice none 0 0) (.int .i64 0) s (fun N1 x2 x3 s => Nc P a0 (fun v4 s => Fa P 37 v4 3 (fun v5 s => Ld P 35 v5 (fun v6 s => Bi P .len #[35] 3 #[false] #[v6] (fun v7 s => Bo P .lss 3 false false x3 v7 (fun v8 s => CondP v8 (J1 (fun A9 => Nc P a0 (fun v11 s => Fa P 37 v11 3 (fun v12 s => Ld P 35 v12 (fun v13 s => Ia P 35 v13 x3 (fun v14 s => Ld P 48 v14 (fun v15 s => Al P 48 (fun v16 s => Sv P 48 v16 v15 (fun _ s => J1 (fun A17 => J1 (fun A19 => Dw (fun s => Qt (Fa P 48 v16 2) s fun v21 => Qt (Ld P 4 v21) s fun v22 => Qt (Uo P .not v22) s fun v23 => Grd v23 true (Qt (Fa P 48 v16 1) s fun v24 => Qt (Ld P 3 v24) s fun v25 => Qt (Bo P .sub 3 false false a1 v25) s fun v26 => Qt (Nc P a0) s fun v27 => Qt (Fa P 37 v27 2) s fun v28 => Qt (Ld P 3 v28) s fun v29 => Qt (Bo P .geq 3 false false v26 v29) s fun v30 => Qt (Pk P v23 v30 (.bool false)) s fun v31 => A19 v31 s) (Qt (Pk P v23 undef (.bool false)) s fun v32 => A19 v32 s)) s) (fun x20 s => CondP x20 (A17 (.int .i64 1) s) (A17 (.int .i64 0) s))) (fun x18 s => J1 (fun A33 => J1 (fun A35 => Dw (fun s => Qt (Fa P 48 v16 2) s fun v37 => Qt (Ld P 4 v37) s fun v38 => Grd v38 true (Qt (Fa P 48 v16 1) s fun v39 => Qt (Ld P 3 v39) s fun v40 => Qt (Bo P .sub 3 false false a1 v40) s fun v41 => Qt (Nc P a0) s fun v42 => Qt (Fa P 37 v42 0) s fun v43 => Qt (Ld P 3 v43) s fun v44 => Qt (Bo P .geq 3 false false v41 v44) s fun v45 => Qt (Pk P v38 v45 (.bool false)) s fun v46 => Grd v46 true (Qt (Fa P 48 v16 3) s fun v47 => Qt (Ld P 4 v47) s fun v48 => Qt (Uo P .not v48) s fun v49 => Qt (Pk P v46 v49 (.bool false)) s fun v50 => A35 v50 s) (Qt (Pk P v46 undef (.bool false)) s fun v51 => A35 v51 s)) (Qt (Pk P v38 undef (.bool false)) s fun v52 => Grd v52 true (Qt (Fa P 48 v16 3) s fun v53 => Qt (Ld P 4 v53) s fun v54 => Qt (Uo P .not v54) s fun v55 => Qt (Pk P v52 v55 (.bool false)) s fun v56 => A35 v56 s) (Qt (Pk P v52 undef (.bool false)) s fun v57 => A35 v57 s))) s) (fun x36 s => CondP x36 (A33 (.int .i64 2) s) (A33 x18 s))) (fun x34 s => J1 (fun A58 => J1 (fun A60 => Dw (fun s => Qt (Fa P 48 v16 2) s fun v62 => Qt (Ld P 4 v62) s fun v63 => Grd v63 true (Qt (Fa P 48 v16 1) s fun v64 => Qt (Ld P 3 v64) s fun v65 => Qt (Bo P .sub 3 false false a1 v65) s fun v66 => Qt (Nc P a0) s fun v67 => Qt (Fa P 37 v67 0) s fun v68 => Qt (Ld P 3 v68) s fun v69 => Qt (Nc P a0) s fun v70 => Qt (Fa P 37 v70 1) s fun v71 => Qt (Ld P 3 v71) s fun v72 => Qt (Bo P .add 3 false false v69 v72) s fun v73 => Qt (Bo P .geq 3 false false v66 v73) s fun v74 => Qt (Pk P v63 v74 (.bool false)) s fun v75 => A60 v75 s) (Qt (Pk P v63 undef (.bool false)) s fun v76 => A60 v76 s)) s) (fun x61 s => CondP x61 (A58 (.int .i64 3) s) (A58 x34 s))) (fun x59 s => Bo P .eql 3 false true x59 (.int .i64 0) (fun v77 s => CondP v77 (A9 x2 s) (J0 (fun A78 => Bo P .eql 3 false true x59 (.int .i64 2) (fun v79 s => CondP v79 (Nc P a0 (fun v80 s => Fa P 37 v80 3 (fun v81 s => Ld P 35 v81 (fun v82 s => Ia P 35 v82 x3 (fun v83 s => Fa P 48 v83 3 (fun v84 s => Sv P 4 v84 (.bool true) (fun _ s => A78 s) s) s) s) s) s) s) (A78 s)) s) (fun s => Bi P .len #[42] 3 #[false] #[x2] (fun v85 s => L1 v85 s (fun N86 x87 s => J1 (fun A88 => Dw (fun s => Qt (Bo P .gtr 3 false true x87 (.int .i64 0)) s fun v90 => Grd v90 true (Qt (Bo P .sub 3 false true x87 (.int .i64 1)) s fun v91 => Qt (Ia P 42 x2 v91) s fun v92 => Qt (Fa P 51 v92 0) s fun v93 => Qt (Ld P 3 v93) s fun v94 => Qt (Fa P 48 v16 0) s fun v95 => Qt (Ld P 3 v95) s fun v96 => Qt (Bo P .gtr 3 false false v94 v96) s fun v97 => Qt (Pk P v90 v97 (.bool false)) s fun v98 => A88 v98 s) (Qt (Pk P v90 undef (.bool false)) s fun v99 => A88 v99 s)) s) (fun x89 s => CondP x89 (Bo P .sub 3 false true x87 (.int .i64 1) (fun v100 s => N86 v100 s) s) (Sl P 42 x2 none (some x87) none (fun v101 s => Bi P .append #[42, 42] 42 #[false, false] #[.slice none 0 0, v101] (fun v102 s => Fa P 48 v16 0 (fun v103 s => Ld P 3 v103 (fun v104 s => Bd P 51 #[(0, v104), (1, x59)] (fun v105 s => Bs P 42 1 #[(0, v105)] (fun v106 s => Bi P .append #[42, 42] 42 #[false, false] #[v102, v106] (fun v107 s => Sl P 42 x2 (some x87) none none (fun v108 s => Bi P .append #[42, 42] 42 #[false, false] #[v107, v108] (fun v109 s => A9 v109 s) s) s) s) s) s) s) s) s) s)))) s))) s)))) s) s) s) s) s) s) s) (fun x10 s => Bo P .add 3 false true x3 (.int .i64 1) (fun v110 s => N1 x10 v110 s) s)) (Ret P (fun w => K x2 w) s)) s) s) s) s) s)
theorem s17 {a0 a1 : Value} (h : D17 a0 a1 (fun v w' => K v ⟨w', ds⟩) ⟨w, []⟩) : Cl P 17 #[a0, a1] K ⟨w, ds⟩ := cl_st bodies_ok Try.func17 123 [.tmp 4] h

/-- (*rollcall/rollcallref16.Pulse).Join -/
def D18 (a0 a1 a2 : Value) (K : Value → World → Prop) (s : St) : Prop :=
  Cl P 15 #[a0, a1] (fun _ s => Bs P 35 0 #[] (fun v2 s => Nc P a0 (fun v3 s => Fa P 37 v3 3 (fun v4 s => Ld P 35 v4 (fun v5 s => Bi P .append #[35, 35] 35 #[false, false] #[v2, v5] (fun v6 s => Bd P 48 #[(0, a1), (1, a2)] (fun v7 s => Bs P 35 1 #[(0, v7)] (fun v8 s => Bi P .append #[35, 35] 35 #[false, false] #[v6, v8] (fun v9 s => Nc P a0 (fun v10 s => Fa P 37 v10 3 (fun v11 s => Sv P 35 v11 v9 (fun _ s => Ret P (fun w => K (.tuple #[]) w) s) s) s) s) s) s) s) s) s) s) s) s) s
theorem s18 {a0 a1 a2 : Value} (h : D18 a0 a1 a2 (fun v w' => K v ⟨w', ds⟩) ⟨w, []⟩) : Cl P 18 #[a0, a1, a2] K ⟨w, ds⟩ := cl_st bodies_ok Try.func18 23 [] h

/-- (*rollcall/pulse.Pulse).Idle -/
def D19 (a0 a1 a2 : Value) (K : Value → World → Prop) (s : St) : Prop :=
  Bo P .eql 24 false true a0 (.pointer none) (fun v1 s => CondP v1 (Ret P (fun w => K (.tuple #[.int .i64 0, .bool false]) w) s) (Nc P a0 (fun v2 s => Fa P 57 v2 3 (fun v3 s => Ld P 53 v3 (fun v4 s => Lk P 53 v4 a1 true (fun v5 s => Ex P v5 0 (fun v6 s => Ex P v5 1 (fun v7 s => Uo P .not v7 (fun v8 s => CondP v8 (Ret P (fun w => K (.tuple #[.int .i64 0, .bool false]) w) s) (Bo P .sub 3 false false a2 v6 (fun v9 s => Ret P (fun w => K (.tuple #[v9, .bool true]) w) s) s)) s) s) s) s) s) s) s)) s
theorem s19 {a0 a1 a2 : Value} (h : D19 a0 a1 a2 (fun v w' => K v ⟨w', ds⟩) ⟨w, []⟩) : Cl P 19 #[a0, a1, a2] K ⟨w, ds⟩ := cl_st bodies_ok Try.func19 26 [.tmp 6, .tmp 7] h

/-- (*rollcall/rollcallref16.Pulse).At -/
def D20 (a0 a1 : Value) (K : Value → World → Prop) (s : St) : Prop :=
  L1 (.int .i64 0) s (fun N1 x2 s => Nc P a0 (fun v3 s => Fa P 37 v3 3 (fun v4 s => Ld P 35 v4 (fun v5 s => Bi P .len #[35] 3 #[false] #[v5] (fun v6 s => Bo P .lss 3 false false x2 v6 (fun v7 s => CondP v7 (Nc P a0 (fun v8 s => Fa P 37 v8 3 (fun v9 s => Ld P 35 v9 (fun v10 s => Ia P 35 v10 x2 (fun v11 s => Fa P 48 v11 0 (fun v12 s => Ld P 3 v12 (fun v13 s => Bo P .eql 3 false false v13 a1 (fun v14 s => CondP v14 (Ret P (fun w => K x2 w) s) (Bo P .add 3 false true x2 (.int .i64 1) (fun v15 s => N1 v15 s) s)) s) s) s) s) s) s) s) (Ret P (fun w => K (.int .i64 (-1)) w) s)) s) s) s) s) s)
theorem s20 {a0 a1 : Value} (h : D20 a0 a1 (fun v w' => K v ⟨w', ds⟩) ⟨w, []⟩) : Cl P 20 #[a0, a1] K ⟨w, ds⟩ := cl_st bodies_ok Try.func20 26 [.tmp 4] h

/-- rollcall/timer.New[int] -/
def D21 (K : Value → World → Prop) (s : St) : Prop :=
  Mm P 53 none (fun v1 s => Bd P 69 #[(1, v1)] (fun v2 s => Bx P 69 v2 (fun v3 s => Ret P (fun w => K v3 w) s) s) s) s
theorem s21 (h : D21 (fun v w' => K v ⟨w', ds⟩) ⟨w, []⟩) : Cl P 21 #[] K ⟨w, ds⟩ := cl_st bodies_ok Try.func21 4 [.tmp 0] h

/-- (*rollcall/timer.Table[int]).Set -/
def D22 (a0 a1 a2 : Value) (K : Value → World → Prop) (s : St) : Prop :=
  Bo P .eql 54 false true a0 (.pointer none) (fun v1 s => CondP v1 (Ret P (fun w => K (.tuple #[]) w) s) (Cl P 23 #[a0, a1] (fun _ s => Nc P a0 (fun v3 s => Fa P 69 v3 0 (fun v4 s => Ld P 67 v4 (fun v5 s => Bd P 72 #[(0, a1), (1, a2)] (fun v6 s => Cl P 31 #[v5, v6, .func (.func 32) #[] #[]] (fun v7 s => Ex P v7 0 (fun v8 s => Ex P v7 1 (fun _ s => Nc P a0 (fun v10 s => Fa P 69 v10 0 (fun v11 s => Ld P 67 v11 (fun v12 s => Bd P 72 #[(0, a1), (1, a2)] (fun v13 s => Bs P 67 1 #[(0, v13)] (fun v14 s => Cl P 33 #[v12, v8, v14] (fun v15 s => Nc P a0 (fun v16 s => Fa P 69 v16 0 (fun v17 s => Sv P 67 v17 v15 (fun _ s => Nc P a0 (fun v18 s => Fa P 69 v18 1 (fun v19 s => Ld P 53 v19 (fun v20 s => Mu P 53 v20 a1 a2 (fun _ s => Ret P (fun w => K (.tuple #[]) w) s) s) s) s) s) s) s) s) s) s) s) s) s) s) s) s) s) s) s) s) s) s)) s
theorem s22 {a0 a1 a2 : Value} (h : D22 a0 a1 a2 (fun v w' => K v ⟨w', ds⟩) ⟨w, []⟩) : Cl P 22 #[a0, a1, a2] K ⟨w, ds⟩ := cl_st bodies_ok Try.func22 43 [] h

/-- (*rollcall/timer.Table[int]).Stop -/
def D23 (a0 a1 : Value) (K : Value → World → Prop) (s : St) : Prop :=
  Cl P 24 #[a0, a1] (fun v1 s => Ex P v1 0 (fun v2 s => Ex P v1 1 (fun v3 s => Uo P .not v3 (fun v4 s => CondP v4 (Ret P (fun w => K (.bool false) w) s) (J0 (fun A5 => Nc P a0 (fun v6 s => Fa P 69 v6 0 (fun v7 s => Ld P 67 v7 (fun v8 s => Bd P 72 #[(0, a1), (1, v2)] (fun v9 s => Cl P 31 #[v8, v9, .func (.func 32) #[] #[]] (fun v10 s => Ex P v10 0 (fun v11 s => Ex P v10 1 (fun v12 s => CondP v12 (Nc P a0 (fun v13 s => Fa P 69 v13 0 (fun v14 s => Ld P 67 v14 (fun v15 s => Bo P .add 3 false true v11 (.int .i64 1) (fun v16 s => Cl P 34 #[v15, v11, v16] (fun v17 s => Nc P a0 (fun v18 s => Fa P 69 v18 0 (fun v19 s => Sv P 67 v19 v17 (fun _ s => A5 s) s) s) s) s) s) s) s) s) (A5 s)) s) s) s) s) s) s) s) (fun s => Nc P a0 (fun v20 s => Fa P 69 v20 1 (fun v21 s => Ld P 53 v21 (fun v22 s => Bi P .delete #[53, 3] 0 #[false, false] #[v22, a1] (fun _ s => Ret P (fun w => K (.bool true) w) s) s) s) s) s))) s) s) s) s
theorem s23 {a0 a1 : Value} (h : D23 a0 a1 (fun v w' => K v ⟨w', ds⟩) ⟨w, []⟩) : Cl P 23 #[a0, a1] K ⟨w, ds⟩ := cl_st bodies_ok Try.func23 45 [.tmp 4] h

/-- (*rollcall/timer.Table[int]).At -/
def D24 (a0 a1 : Value) (K : Value → World → Prop) (s : St) : Prop :=
  Bo P .eql 54 false true a0 (.pointer none) (fun v1 s => CondP v1 (Ret P (fun w => K (.tuple #[.int .i64 0, .bool false]) w) s) (Nc P a0 (fun v2 s => Fa P 69 v2 1 (fun v3 s => Ld P 53 v3 (fun v4 s => Lk P 53 v4 a1 true (fun v5 s => Ex P v5 0 (fun v6 s => Ex P v5 1 (fun v7 s => Ret P (fun w => K (.tuple #[v6, v7]) w) s) s) s) s) s) s) s)) s
theorem s24 {a0 a1 : Value} (h : D24 a0 a1 (fun v w' => K v ⟨w', ds⟩) ⟨w, []⟩) : Cl P 24 #[a0, a1] K ⟨w, ds⟩ := cl_st bodies_ok Try.func24 21 [.tmp 4, .tmp 5] h

/-- (*rollcall/pulse.Pulse).Due$1 -/
def D25 (a0 : Value) (K : Value → World → Prop) (s : St) : Prop :=
  Ret P (fun w => K (.tuple #[]) w) s
theorem s25 {a0 : Value} (h : D25 a0 (fun v w' => K v ⟨w', ds⟩) ⟨w, []⟩) : Cl P 25 #[a0] K ⟨w, ds⟩ := cl_st bodies_ok Try.func25 2 [] h

/-- (*rollcall/timer.Table[int]).Due -/
def D26 (a0 a1 : Value) (K : Value → World → Prop) (s : St) : Prop :=
  Al P 67 (fun v1 s => J0 (fun A2 => Bo P .neq 54 false true a0 (.pointer none) (fun v3 s => CondP v3 (L1 (.int .i64 0) s (fun N4 x5 s => Nc P a0 (fun v6 s => Fa P 69 v6 0 (fun v7 s => Ld P 67 v7 (fun v8 s => Bi P .len #[67] 3 #[false] #[v8] (fun v9 s => Bo P .lss 3 false false x5 v9 (fun v10 s => J1 (fun A11 => Grd v10 true (Nc P a0 (fun v13 s => Fa P 69 v13 0 (fun v14 s => Ld P 67 v14 (fun v15 s => Ia P 67 v15 x5 (fun v16 s => Fa P 72 v16 1 (fun v17 s => Ld P 3 v17 (fun v18 s => Bo P .leq 3 false false v18 a1 (fun v19 s => A11 v19 s) s) s) s) s) s) s) s) (A11 undef s)) (fun x12 s => Pk P v10 x12 (.bool false) (fun v20 s => CondP v20 (Bo P .add 3 false true x5 (.int .i64 1) (fun v21 s => N4 v21 s) s) (Nc P a0 (fun v22 s => Fa P 69 v22 0 (fun v23 s => Ld P 67 v23 (fun v24 s => Sl P 67 v24 none (some x5) none (fun v25 s => Cl P 35 #[v25] (fun v26 s => Sv P 67 v1 v26 (fun _ s => A2 s) s) s) s) s) s) s)) s)) s) s) s) s) s)) (A2 s)) s) (fun s => Mf P (.func 36) #[] #[v1] (fun v27 s => Ret P (fun w => K v27 w) s) s)) s
theorem s26 {a0 a1 : Value} (h : D26 a0 a1 (fun v w' => K v ⟨w', ds⟩) ⟨w, []⟩) : Cl P 26 #[a0, a1] K ⟨w, ds⟩ := cl_st bodies_ok Try.func26 38 [.tmp 4] h

/-- (*rollcall/timer.Table[int]).Take -/
def D27 (a0 a1 : Value) (K : Value → World → Prop) (s : St) : Prop :=
  Bx P 54 a0 (fun v1 s => Al P 61 (fun v2 s => Ld P 54 v1 (fun v3 s => Cl P 26 #[v3, a1] (fun v4 s => Rf P none 2 v4 (fun l5 as6 R7 s => Bg P l5 (fun s => Ld P 61 v2 (fun v9 s => Bs P 61 1 #[(0, as6.headD undef)] (fun v10 s => Bi P .append #[61, 61] 61 #[false, false] #[v9, v10] (fun v11 s => Sv P 61 v2 v11 (fun _ s => Ld P 54 v1 (fun v12 s => Cl P 23 #[v12, as6.headD undef] (fun _ s => Er P l5 none R7 s) s) s) s) s) s) s) s) (fun s => Ld P 61 v2 (fun v14 s => Ret P (fun w => K v14 w) s) s) (fun s => Ret P (fun w => K (.slice none 0 0) w) s) (fun i8 s => False) s) s) s) s) s
theorem s27 {a0 a1 : Value} (h : D27 a0 a1 (fun v w' => K v ⟨w', ds⟩) ⟨w, []⟩) : Cl P 27 #[a0, a1] K ⟨w, ds⟩ := cl_st bodies_ok Try.func27 20 [.tmp 4] h

/-- slices.Sorted[int] -/
def D28 (a0 : Value) (K : Value → World → Prop) (s : St) : Prop :=
  Cl P 37 #[a0] (fun v1 s => Cl P 38 #[v1] (fun _ s => Ret P (fun w => K v1 w) s) s) s
theorem s28 {a0 : Value} (h : D28 a0 (fun v w' => K v ⟨w', ds⟩) ⟨w, []⟩) : Cl P 28 #[a0] K ⟨w, ds⟩ := cl_st bodies_ok Try.func28 9 [.tmp 2] h

/-- maps.Keys[map[int]int,int,int] -/
def D29 (a0 : Value) (K : Value → World → Prop) (s : St) : Prop :=
  Bx P 53 a0 (fun v1 s => Mf P (.func 39) #[] #[v1] (fun v2 s => Ret P (fun w => K v2 w) s) s) s
theorem s29 {a0 : Value} (h : D29 a0 (fun v w' => K v ⟨w', ds⟩) ⟨w, []⟩) : Cl P 29 #[a0] K ⟨w, ds⟩ := cl_st bodies_ok Try.func29 4 [.tmp 2] h

/-- (*rollcall/pulse.Pulse).Due$2 -/
def D30 (a0 a1 a2 : Value) (K : Value → World → Prop) (s : St) : Prop :=
  Ld P 61 a1 (fun v1 s => Bi P .len #[61] 3 #[false] #[v1] (fun v2 s => L1 (.int .i64 0) s (fun N3 x4 s => Bo P .lss 3 false false x4 v2 (fun v5 s => CondP v5 (Ia P 61 v1 x4 (fun v6 s => Ld P 3 v6 (fun v7 s => Ld P 53 a2 (fun v8 s => Lk P 53 v8 v7 false (fun v9 s => Dy P a0 #[v7, v9] (fun v10 s => Uo P .not v10 (fun v11 s => CondP v11 (Ret P (fun w => K (.tuple #[]) w) s) (Bo P .add 3 false true x4 (.int .i64 1) (fun v12 s => N3 v12 s) s)) s) s) s) s) s) s) (Ret P (fun w => K (.tuple #[]) w) s)) s)) s) s
theorem s30 {a0 a1 a2 : Value} (h : D30 a0 a1 a2 (fun v w' => K v ⟨w', ds⟩) ⟨w, []⟩) : Cl P 30 #[a0, a1, a2] K ⟨w, ds⟩ := cl_st bodies_ok Try.func30 20 [] h

/-- slices.BinarySearchFunc[[]rollcall/timer.item[int],rollcall/timer.item[int],rollcall/timer.item[int]] -/
def D31 (a0 a1 a2 : Value) (K : Value → World → Prop) (s : St) : Prop :=
  Bx P 72 a1 (fun v1 s => Bi P .len #[67] 3 #[false] #[a0] (fun v2 s => L2 (.int .i64 0) v2 s (fun N3 x4 x5 s => Bo P .lss 3 false false x4 x5 (fun v6 s => CondP v6 (Bo P .add 3 false false x4 x5 (fun v7 s => Cv P 3 78 v7 (fun v8 s => Bo P .shr 78 false true v8 (.int .u64 1) (fun v9 s => Cv P 78 3 v9 (fun v10 s => Dw (fun s => Qt (Ia P 67 a0 v10) s fun v11 => Qt (Ld P 72 v11) s fun v12 => Qt (Ld P 72 v1) s fun v13 => Dy P a2 #[v12, v13] (fun v14 s => Qt (Bo P .lss 3 false true v14 (.int .i64 0)) s fun v15 => CondP v15 (Bo P .add 3 false true v10 (.int .i64 1) (fun v16 s => N3 v16 x5 s) s) (N3 x4 v10 s)) s) s) s) s) s) s) (J2 (fun A17 => Dw (fun s => Qt (Bo P .lss 3 false false x4 v2) s fun v20 => Grd v20 true (Qt (Ia P 67 a0 x4) s fun v21 => Qt (Ld P 72 v21) s fun v22 => Qt (Ld P 72 v1) s fun v23 => Dy P a2 #[v22, v23] (fun v24 s => Qt (Bo P .eql 3 false true v24 (.int .i64 0)) s fun v25 => Qt (Pk P v20 v25 (.bool false)) s fun v26 => A17 x4 v26 s) s) (Qt (Pk P v20 undef (.bool false)) s fun v27 => A17 x4 v27 s)) s) (fun x18 x19 s => Ret P (fun w => K (.tuple #[x18, x19]) w) s))) s)) s) s
theorem s31 {a0 a1 a2 : Value} (h : D31 a0 a1 a2 (fun v w' => K v ⟨w', ds⟩) ⟨w, []⟩) : Cl P 31 #[a0, a1, a2] K ⟨w, ds⟩ := cl_st bodies_ok Try.func31 49 [.tmp 6, .tmp 7] h

/-- rollcall/timer.compare[int] -/
def D32 (a0 a1 : Value) (K : Value → World → Prop) (s : St) : Prop :=
  Bx P 72 a0 (fun v1 s => Bx P 72 a1 (fun v2 s => Dw (fun s => Qt (Fa P 72 v1 1) s fun v3 => Qt (Ld P 3 v3) s fun v4 => Qt (Fa P 72 v2 1) s fun v5 => Qt (Ld P 3 v5) s fun v6 => Qt (Fa P 72 v1 0) s fun v7 => Qt (Ld P 3 v7) s fun v8 => Qt (Fa P 72 v2 0) s fun v9 => Qt (Ld P 3 v9) s fun v10 => Cl P 41 #[v4, v6] (fun v11 s => Ck (Fa P 72 v1 0) v7 s ∧ Ck (Ld P 3 v7) v8 s ∧ Ck (Fa P 72 v2 0) v9 s ∧ Ck (Ld P 3 v9) v10 s ∧ (Cl P 41 #[v8, v10] (fun v12 s => Bs P 61 2 #[(0, v11), (1, v12)] (fun v13 s => Cl P 40 #[v13] (fun v14 s => Ret P (fun w => K v14 w) s) s) s) s)) s) s) s) s
theorem s32 {a0 a1 : Value} (h : D32 a0 a1 (fun v w' => K v ⟨w', ds⟩) ⟨w, []⟩) : Cl P 32 #[a0, a1] K ⟨w, ds⟩ := cl_st bodies_ok Try.func32 17 [.tmp 4] h

/-- slices.Insert[[]rollcall/timer.item[int],rollcall/timer.item[int]] -/
def D33 (a0 a1 a2 : Value) (K : Value → World → Prop) (s : St) : Prop :=
  Sl P 67 a0 (some a1) none none (fun _ s => Bi P .len #[67] 3 #[false] #[a2] (fun v2 s => Bo P .eql 3 false true v2 (.int .i64 0) (fun v3 s => CondP v3 (Ret P (fun w => K a0 w) s) (Bi P .len #[67] 3 #[false] #[a0] (fun v4 s => Bo P .eql 3 false false a1 v4 (fun v5 s => CondP v5 (Bi P .append #[67, 67] 67 #[false, false] #[a0, a2] (fun v6 s => Ret P (fun w => K v6 w) s) s) (Bo P .add 3 false false v4 v2 (fun v7 s => Bi P .cap #[67] 3 #[false] #[a0] (fun v8 s => Bo P .gtr 3 false false v7 v8 (fun v9 s => CondP v9 (Sl P 67 a0 none (some a1) none (fun v10 s => Bo P .add 3 false false v4 v2 (fun v11 s => Bo P .sub 3 false false v11 a1 (fun v12 s => Bi P .append #[67, 3] 67 #[false, false] #[v10, v12] (fun v13 s => Sl P 67 v13 (some a1) none none (fun v14 s => Bi P .copy #[67, 67] 3 #[false, false] #[v14, a2] (fun _ s => Dw (fun s => Qt (Bo P .add 3 false false a1 v2) s fun v16 => Qt (Sl P 67 v13 (some v16) none none) s fun v17 => Qt (Sl P 67 a0 (some a1) none none) s fun v18 => Bi P .copy #[67, 67] 3 #[false, false] #[v17, v18] (fun _ s => Ret P (fun w => K v13 w) s) s) s) s) s) s) s) s) s) (Bo P .add 3 false false v4 v2 (fun v20 s => Sl P 67 a0 none (some v20) none (fun v21 s => Bo P .add 3 false false a1 v2 (fun v22 s => Sl P 67 v21 (some v22) none none (fun v23 s => Dy P (.func (.func 42) #[] #[]) #[a2, v23] (fun v24 s => Uo P .not v24 (fun v25 s => CondP v25 (Dw (fun s => Qt (Bo P .add 3 false false a1 v2) s fun v26 => Qt (Sl P 67 v21 (some v26) none none) s fun v27 => Qt (Sl P 67 v21 (some a1) none none) s fun v28 => Bi P .copy #[67, 67] 3 #[false, false] #[v27, v28] (fun _ s => Sl P 67 v21 (some a1) none none (fun v30 s => Bi P .copy #[67, 67] 3 #[false, false] #[v30, a2] (fun _ s => Ret P (fun w => K v21 w) s) s) s) s) s) (Sl P 67 v21 (some v4) none none (fun v32 s => Bi P .copy #[67, 67] 3 #[false, false] #[v32, a2] (fun _ s => Sl P 67 v21 (some a1) none none (fun v34 s => Cl P 43 #[v34, v2] (fun _ s => Ret P (fun w => K v21 w) s) s) s) s) s)) s) s) s) s) s) s)) s) s) s)) s) s)) s) s) s
theorem s33 {a0 a1 a2 : Value} (h : D33 a0 a1 a2 (fun v w' => K v ⟨w', ds⟩) ⟨w, []⟩) : Cl P 33 #[a0, a1, a2] K ⟨w, ds⟩ := cl_st bodies_ok Try.func33 95 [.tmp 6] h

/-- slices.Delete[[]rollcall/timer.item[int],rollcall/timer.item[int]] -/
def D34 (a0 a1 a2 : Value) (K : Value → World → Prop) (s : St) : Prop :=
  Bi P .len #[67] 3 #[false] #[a0] (fun v1 s => Sl P 67 a0 (some a1) (some a2) (some v1) (fun _ s => Bo P .eql 3 false false a1 a2 (fun v3 s => CondP v3 (Ret P (fun w => K a0 w) s) (Bi P .len #[67] 3 #[false] #[a0] (fun v4 s => Dw (fun s => Qt (Sl P 67 a0 none (some a1) none) s fun v5 => Qt (Sl P 67 a0 (some a2) none none) s fun v6 => Bi P .append #[67, 67] 67 #[false, false] #[v5, v6] (fun v7 s => Bi P .len #[67] 3 #[false] #[v7] (fun v8 s => Sl P 67 v7 (some v8) (some v4) none (fun v9 s => Bi P .clear #[67] 0 #[false] #[v9] (fun _ s => Ret P (fun w => K v7 w) s) s) s) s) s) s) s)) s) s) s
theorem s34 {a0 a1 a2 : Value} (h : D34 a0 a1 a2 (fun v w' => K v ⟨w', ds⟩) ⟨w, []⟩) : Cl P 34 #[a0, a1, a2] K ⟨w, ds⟩ := cl_st bodies_ok Try.func34 33 [.tmp 6] h

/-- slices.Clone[[]rollcall/timer.item[int],rollcall/timer.item[int]] -/
def D35 (a0 : Value) (K : Value → World → Prop) (s : St) : Prop :=
  Bo P .eql 67 false true a0 (.slice none 0 0) (fun v1 s => CondP v1 (Ret P (fun w => K (.slice none 0 0) w) s) (Bs P 67 0 #[] (fun v2 s => Bi P .append #[67, 67] 67 #[false, false] #[v2, a0] (fun v3 s => Ret P (fun w => K v3 w) s) s) s)) s
theorem s35 {a0 : Value} (h : D35 a0 (fun v w' => K v ⟨w', ds⟩) ⟨w, []⟩) : Cl P 35 #[a0] K ⟨w, ds⟩ := cl_st bodies_ok Try.func35 8 [.tmp 2] h

/-- (*rollcall/timer.Table[int]).Due$1 -/
def D36 (a0 a1 : Value) (K : Value → World → Prop) (s : St) : Prop :=
  Ld P 67 a1 (fun v1 s => Bi P .len #[67] 3 #[false] #[v1] (fun v2 s => L1 (.int .i64 0) s (fun N3 x4 s => Bo P .lss 3 false false x4 v2 (fun v5 s => CondP v5 (Ia P 67 v1 x4 (fun v6 s => Ld P 72 v6 (fun v7 s => Al P 72 (fun v8 s => Sv P 72 v8 v7 (fun _ s => Fa P 72 v8 0 (fun v9 s => Ld P 3 v9 (fun v10 s => Fa P 72 v8 1 (fun v11 s => Ld P 3 v11 (fun v12 s => Dy P a0 #[v10, v12] (fun v13 s => Uo P .not v13 (fun v14 s => CondP v14 (Ret P (fun w => K (.tuple #[]) w) s) (Bo P .add 3 false true x4 (.int .i64 1) (fun v15 s => N3 v15 s) s)) s) s) s) s) s) s) s) s) s) s) (Ret P (fun w => K (.tuple #[]) w) s)) s)) s) s
theorem s36 {a0 a1 : Value} (h : D36 a0 a1 (fun v w' => K v ⟨w', ds⟩) ⟨w, []⟩) : Cl P 36 #[a0, a1] K ⟨w, ds⟩ := cl_st bodies_ok Try.func36 19 [] h

/-- slices.Collect[int] -/
def D37 (a0 : Value) (K : Value → World → Prop) (s : St) : Prop :=
  Cl P 44 #[.slice none 0 0, a0] (fun v1 s => Ret P (fun w => K v1 w) s) s
theorem s37 {a0 : Value} (h : D37 a0 (fun v w' => K v ⟨w', ds⟩) ⟨w, []⟩) : Cl P 37 #[a0] K ⟨w, ds⟩ := cl_st bodies_ok Try.func37 5 [.tmp 2] h

/-- slices.Sort[[]int,int] -/
def D38 (a0 : Value) (K : Value → World → Prop) (s : St) : Prop :=
  Bi P .len #[61] 3 #[false] #[a0] (fun v1 s => Cv P 3 78 v1 (fun v2 s => Cl P 46 #[v2] (fun v3 s => Cl P 45 #[a0, .int .i64 0, v1, v3] (fun _ s => Ret P (fun w => K (.tuple #[]) w) s) s) s) s) s
theorem s38 {a0 : Value} (h : D38 a0 (fun v w' => K v ⟨w', ds⟩) ⟨w, []⟩) : Cl P 38 #[a0] K ⟨w, ds⟩ := cl_st bodies_ok Try.func38 11 [] h

/-- maps.Keys[map[int]int,int,int]$1 -/
def D39 (a0 a1 : Value) (K : Value → World → Prop) (s : St) : Prop :=
  Ld P 53 a1 (fun v1 s => Rg P 53 v1 (fun v2 s => L0 s (fun N3 s => Nx P v2 false 0 (fun v4 s => Ex P v4 0 (fun v5 s => CondP v5 (En P v2 (fun v6 s => Ex P v6 0 (fun v7 s => Dy P a0 #[v7] (fun v8 s => Uo P .not v8 (fun v9 s => CondP v9 (Ret P (fun w => K (.tuple #[]) w) s) (N3 s)) s) s) s) s) (Ret P (fun w => K (.tuple #[]) w) s)) s) s)) s) s
theorem s39 {a0 a1 : Value} (h : D39 a0 a1 (fun v w' => K v ⟨w', ds⟩) ⟨w, []⟩) : Cl P 39 #[a0, a1] K ⟨w, ds⟩ := cl_st bodies_ok Try.func39 14 [] h

/-- cmp.Or[int] -/
def D40 (a0 : Value) (K : Value → World → Prop) (s : St) : Prop :=
  Bi P .len #[61] 3 #[false] #[a0] (fun v1 s => L1 (.int .i64 0) s (fun N2 x3 s => Bo P .lss 3 false false x3 v1 (fun v4 s => CondP v4 (Ia P 61 a0 x3 (fun v5 s => Ld P 3 v5 (fun v6 s => Bo P .neq 3 false false v6 (.int .i64 0) (fun v7 s => CondP v7 (Ret P (fun w => K v6 w) s) (Bo P .add 3 false true x3 (.int .i64 1) (fun v8 s => N2 v8 s) s)) s) s) s) (Ret P (fun w => K (.int .i64 0) w) s)) s)) s
theorem s40 {a0 : Value} (h : D40 a0 (fun v w' => K v ⟨w', ds⟩) ⟨w, []⟩) : Cl P 40 #[a0] K ⟨w, ds⟩ := cl_st bodies_ok Try.func40 18 [.tmp 2] h

/-- cmp.Compare[int] -/
def D41 (a0 a1 : Value) (K : Value → World → Prop) (s : St) : Prop :=
  Cl P 47 #[a0] (fun v1 s => Cl P 47 #[a1] (fun v2 s => CondP v1 (CondP v2 (Ret P (fun w => K (.int .i64 0) w) s) (Ret P (fun w => K (.int .i64 (-1)) w) s)) (CondP v2 (Ret P (fun w => K (.int .i64 1) w) s) (Bo P .lss 3 false false a0 a1 (fun v3 s => CondP v3 (Ret P (fun w => K (.int .i64 (-1)) w) s) (Bo P .gtr 3 false false a0 a1 (fun v4 s => CondP v4 (Ret P (fun w => K (.int .i64 1) w) s) (Ret P (fun w => K (.int .i64 0) w) s)) s)) s))) s) s
theorem s41 {a0 a1 : Value} (h : D41 a0 a1 (fun v w' => K v ⟨w', ds⟩) ⟨w, []⟩) : Cl P 41 #[a0, a1] K ⟨w, ds⟩ := cl_st bodies_ok Try.func41 20 [.tmp 4] h

/-- slices.rotateRight[rollcall/timer.item[int]] -/
def D43 (a0 a1 : Value) (K : Value → World → Prop) (s : St) : Prop :=
  Bi P .len #[67] 3 #[false] #[a0] (fun v1 s => Bo P .sub 3 false false v1 a1 (fun v2 s => Cl P 48 #[a0, v2] (fun _ s => Ret P (fun w => K (.tuple #[]) w) s) s) s) s
theorem s43 {a0 a1 : Value} (h : D43 a0 a1 (fun v w' => K v ⟨w', ds⟩) ⟨w, []⟩) : Cl P 43 #[a0, a1] K ⟨w, ds⟩ := cl_st bodies_ok Try.func43 10 [] h

/-- slices.AppendSeq[[]int,int] -/
def D44 (a0 a1 : Value) (K : Value → World → Prop) (s : St) : Prop :=
  Bx P 61 a0 (fun v1 s => Rf P none 1 a1 (fun l2 as3 R4 s => Bg P l2 (fun s => Ld P 61 v1 (fun v6 s => Bs P 61 1 #[(0, as3.headD undef)] (fun v7 s => Bi P .append #[61, 61] 61 #[false, false] #[v6, v7] (fun v8 s => Sv P 61 v1 v8 (fun _ s => Er P l2 none R4 s) s) s) s) s) s) (fun s => Ld P 61 v1 (fun v9 s => Ret P (fun w => K v9 w) s) s) (fun s => Ret P (fun w => K (.slice none 0 0) w) s) (fun i5 s => False) s) s
theorem s44 {a0 a1 : Value} (h : D44 a0 a1 (fun v w' => K v ⟨w', ds⟩) ⟨w, []⟩) : Cl P 44 #[a0, a1] K ⟨w, ds⟩ := cl_st bodies_ok Try.func44 13 [.tmp 4] h

/-- slices.pdqsortOrdered[int] -/
def D45 (a0 a1 a2 a3 : Value) (K : Value → World → Prop) (s : St) : Prop :=
  L5 a1 a2 a3 (.bool true) (.bool true) s (fun N1 x2 x3 x4 x5 x6 s => Bo P .sub 3 false false x3 x2 (fun v7 s => Bo P .leq 3 false true v7 (.int .i64 12) (fun v8 s => CondP v8 (Cl P 49 #[a0, x2, x3] (fun _ s => Ret P (fun w => K (.tuple #[]) w) s) s) (Bo P .eql 3 false true x4 (.int .i64 0) (fun v10 s => CondP v10 (Cl P 50 #[a0, x2, x3] (fun _ s => Ret P (fun w => K (.tuple #[]) w) s) s) (J1 (fun A12 => Uo P .not x5 (fun v14 s => CondP v14 (Cl P 51 #[a0, x2, x3] (fun _ s => Bo P .sub 3 false true x4 (.int .i64 1) (fun v16 s => A12 v16 s) s) s) (A12 x4 s)) s) (fun x13 s => Cl P 52 #[a0, x2, x3] (fun v17 s => Ex P v17 0 (fun v18 s => Ex P v17 1 (fun v19 s => J2 (fun A20 => Bo P .eql 87 false true v19 (.int .i64 2) (fun v23 s => CondP v23 (Cl P 53 #[a0, x2, x3] (fun _ s => Bo P .sub 3 false true x3 (.int .i64 1) (fun v25 s => Bo P .sub 3 false false v18 x2 (fun v26 s => Bo P .sub 3 false false v25 v26 (fun v27 s => A20 v27 (.int .i64 1) s) s) s) s) s) (A20 v18 v19 s)) s) (fun x21 x22 s => J0 (fun A28 => J1 (fun A29 => Grd x5 true (A29 x6 s) (A29 undef s)) (fun x30 s => Pk P x5 x30 (.bool false) (fun v31 s => J1 (fun A32 => Grd v31 true (Bo P .eql 87 false true x22 (.int .i64 1) (fun v34 s => A32 v34 s) s) (A32 undef s)) (fun x33 s => Pk P v31 x33 (.bool false) (fun v35 s => CondP v35 (Cl P 54 #[a0, x2, x3] (fun v36 s => CondP v36 (Ret P (fun w => K (.tuple #[]) w) s) (A28 s)) s) (A28 s)) s)) s)) (fun s => J1 (fun A37 => Dw (fun s => Qt (Bo P .gtr 3 false true x2 (.int .i64 0)) s fun v39 => Grd v39 true (Qt (Bo P .sub 3 false true x2 (.int .i64 1)) s fun v40 => Qt (Ia P 61 a0 v40) s fun v41 => Qt (Ld P 3 v41) s fun v42 => Qt (Ia P 61 a0 x21) s fun v43 => Qt (Ld P 3 v43) s fun v44 => Cl P 55 #[v42, v44] (fun v45 s => Qt (Uo P .not v45) s fun v46 => Qt (Pk P v39 v46 (.bool false)) s fun v47 => A37 v47 s) s) (Qt (Pk P v39 undef (.bool false)) s fun v48 => A37 v48 s)) s) (fun x38 s => CondP x38 (Cl P 56 #[a0, x2, x3, x21] (fun v49 s => N1 v49 x3 x13 x5 x6 s) s) (Cl P 57 #[a0, x2, x3, x21] (fun v50 s => Ex P v50 0 (fun v51 s => Ex P v50 1 (fun v52 s => Bo P .sub 3 false false v51 x2 (fun v53 s => Bo P .sub 3 false false x3 v51 (fun v54 s => Bo P .quo 3 false true v7 (.int .i64 8) (fun v55 s => Bo P .lss 3 false false v53 v54 (fun v56 s => CondP v56 (Bo P .geq 3 false false v53 v55 (fun v57 s => Cl P 45 #[a0, x2, v51, x13] (fun _ s => Bo P .add 3 false true v51 (.int .i64 1) (fun v59 s => N1 v59 x3 x13 v57 v52 s) s) s) s) (Bo P .geq 3 false false v54 v55 (fun v60 s => Bo P .add 3 false true v51 (.int .i64 1) (fun v61 s => Cl P 45 #[a0, v61, x3, x13] (fun _ s => N1 x2 v51 x13 v60 v52 s) s) s) s)) s) s) s) s) s) s) s))))) s) s) s))) s)) s) s)
theorem s45 {a0 a1 a2 a3 : Value} (h : D45 a0 a1 a2 a3 (fun v w' => K v ⟨w', ds⟩) ⟨w, []⟩) : Cl P 45 #[a0, a1, a2, a3] K ⟨w, ds⟩ := cl_st bodies_ok Try.func45 134 [] h

/-- cmp.isNaN[int] -/
def D47 (a0 : Value) (K : Value → World → Prop) (s : St) : Prop :=
  Bo P .neq 3 false false a0 a0 (fun v1 s => Ret P (fun w => K v1 w) s) s
theorem s47 {a0 : Value} (h : D47 a0 (fun v w' => K v ⟨w', ds⟩) ⟨w, []⟩) : Cl P 47 #[a0] K ⟨w, ds⟩ := cl_st bodies_ok Try.func47 6 [.tmp 2] h

end
instance : BodyOf P 25 := ⟨bodies_ok.2 25 (by kernel_rfl)⟩
instance : BodyOf P 30 := ⟨bodies_ok.2 30 (by kernel_rfl)⟩
instance : BodyOf P 32 := ⟨bodies_ok.2 32 (by kernel_rfl)⟩
instance : BodyOf P 36 := ⟨bodies_ok.2 36 (by kernel_rfl)⟩
instance : BodyOf P 39 := ⟨bodies_ok.2 39 (by kernel_rfl)⟩
instance : TyU P 3 (.int .i64) := ⟨Try.underlying3⟩
instance : TyInf P 3 1 := ⟨⟨_, inf_of Try.type3, by kernel_rfl⟩⟩
instance : TyAgg P 3 false := ⟨Try.isAgg3⟩
instance : TySize P 3 1 := ⟨Try.sizeOf3⟩
instance : TyZ P 3 [.int .i64 0] := ⟨fun w => ⟨_, Try.zeroValue3 w, rfl⟩⟩
instance : TyU P 4 (.bool) := ⟨Try.underlying4⟩
instance : TyInf P 4 1 := ⟨⟨_, inf_of Try.type4, by kernel_rfl⟩⟩
instance : TyAgg P 4 false := ⟨Try.isAgg4⟩
instance : TySize P 4 1 := ⟨Try.sizeOf4⟩
instance : TyZ P 4 [.bool false] := ⟨fun w => ⟨_, Try.zeroValue4 w, rfl⟩⟩
instance : TyU P 5 (.int .u8) := ⟨Try.underlying5⟩
instance : TyInf P 5 1 := ⟨⟨_, inf_of Try.type5, by kernel_rfl⟩⟩
instance : TyAgg P 5 false := ⟨Try.isAgg5⟩
instance : TySize P 5 1 := ⟨Try.sizeOf5⟩
instance : TyZ P 5 [byteV 0] := ⟨fun w => ⟨_, Try.zeroValue5 w, rfl⟩⟩
instance : TyU P 9 (.string) := ⟨Try.underlying9⟩
instance : TyInf P 9 1 := ⟨⟨_, inf_of Try.type9, by kernel_rfl⟩⟩
instance : TyAgg P 9 false := ⟨Try.isAgg9⟩
instance : TySize P 9 1 := ⟨Try.sizeOf9⟩
instance : TyZ P 9 [.string ⟨#[]⟩] := ⟨fun w => ⟨_, Try.zeroValue9 w, rfl⟩⟩
instance : TyU P 22 (.slice 4) := ⟨Try.underlying22⟩
instance : TyInf P 22 1 := ⟨⟨_, inf_of Try.type22, by kernel_rfl⟩⟩
instance : TyAgg P 22 false := ⟨Try.isAgg22⟩
instance : TySize P 22 1 := ⟨Try.sizeOf22⟩
instance : TyZ P 22 [.slice none 0 0] := ⟨fun w => ⟨_, Try.zeroValue22 w, rfl⟩⟩
instance : TySl P 22 4 1 := ⟨Try.t4, .bool false, Try.underlying22, inf_of Try.type4, by kernel_rfl, by kernel_rfl, by kernel_rfl, by decide, by decide⟩
instance : TyU P 24 (.pointer 57) := ⟨Try.underlying24⟩
instance : TyInf P 24 1 := ⟨⟨_, inf_of Try.type24, by kernel_rfl⟩⟩
instance : TyAgg P 24 false := ⟨Try.isAgg24⟩
instance : TySize P 24 1 := ⟨Try.sizeOf24⟩
instance : TyZ P 24 [.pointer none] := ⟨fun w => ⟨_, Try.zeroValue24 w, rfl⟩⟩
instance : TyInf P 27 15 := ⟨⟨_, inf_of Try.type27, by kernel_rfl⟩⟩
instance : TyAgg P 27 true := ⟨Try.isAgg27⟩
instance : TySize P 27 15 := ⟨Try.sizeOf27⟩
instance : TyZ P 27 [.string ⟨#[]⟩, .string ⟨#[]⟩, .string ⟨#[]⟩, .string ⟨#[]⟩, .int .i64 0, .int .i64 0, .int .i64 0, .int .i64 0, .int .i64 0, .int .i64 0, .int .i64 0, .int .i64 0, .int .i64 0, .int .i64 0, .int .i64 0] := ⟨fun w => ⟨_, Try.zeroValue27 w, rfl⟩⟩
instance : TyEq P 27 [(9, 0), (9, 1), (9, 2), (9, 3), (3, 4), (3, 5), (3, 6), (3, 7), (3, 8), (3, 9), (3, 10), (3, 11), (3, 12), (3, 13), (3, 14)] := ⟨⟨_, Try.underlying27, rfl, by decide⟩, Try.stoodInHeld27, Try.eqGuardType27⟩
instance : TyB P 27 [.string ⟨#[]⟩, .string ⟨#[]⟩, .string ⟨#[]⟩, .string ⟨#[]⟩, .int .i64 0, .int .i64 0, .int .i64 0, .int .i64 0, .int .i64 0, .int .i64 0, .int .i64 0, .int .i64 0, .int .i64 0, .int .i64 0, .int .i64 0] [(0, 1), (1, 1), (2, 1), (3, 1), (4, 1), (5, 1), (6, 1), (7, 1), (8, 1), (9, 1), (10, 1), (11, 1), (12, 1), (13, 1), (14, 1)] := ⟨fun ps => by kernel_rfl⟩
instance : TyFld P 27 0 0 := ⟨fun a w => by simp [Instr.fieldAt, Instr.sureAddr, fieldPlace, Sem.run_bind, Try.runUnderlying27, Try.sizeOf9]⟩
instance : TyFld P 27 1 1 := ⟨fun a w => by simp [Instr.fieldAt, Instr.sureAddr, fieldPlace, Sem.run_bind, Try.runUnderlying27, Try.sizeOf9]⟩
instance : TyFld P 27 2 2 := ⟨fun a w => by simp [Instr.fieldAt, Instr.sureAddr, fieldPlace, Sem.run_bind, Try.runUnderlying27, Try.sizeOf9]⟩
instance : TyFld P 27 3 3 := ⟨fun a w => by simp [Instr.fieldAt, Instr.sureAddr, fieldPlace, Sem.run_bind, Try.runUnderlying27, Try.sizeOf9]⟩
instance : TyFld P 27 4 4 := ⟨fun a w => by simp [Instr.fieldAt, Instr.sureAddr, fieldPlace, Sem.run_bind, Try.runUnderlying27, Try.sizeOf3]⟩
instance : TyFld P 27 5 5 := ⟨fun a w => by simp [Instr.fieldAt, Instr.sureAddr, fieldPlace, Sem.run_bind, Try.runUnderlying27, Try.sizeOf3]⟩
instance : TyFld P 27 6 6 := ⟨fun a w => by simp [Instr.fieldAt, Instr.sureAddr, fieldPlace, Sem.run_bind, Try.runUnderlying27, Try.sizeOf3]⟩
instance : TyFld P 27 7 7 := ⟨fun a w => by simp [Instr.fieldAt, Instr.sureAddr, fieldPlace, Sem.run_bind, Try.runUnderlying27, Try.sizeOf3]⟩
instance : TyFld P 27 8 8 := ⟨fun a w => by simp [Instr.fieldAt, Instr.sureAddr, fieldPlace, Sem.run_bind, Try.runUnderlying27, Try.sizeOf3]⟩
instance : TyFld P 27 9 9 := ⟨fun a w => by simp [Instr.fieldAt, Instr.sureAddr, fieldPlace, Sem.run_bind, Try.runUnderlying27, Try.sizeOf3]⟩
instance : TyFld P 27 10 10 := ⟨fun a w => by simp [Instr.fieldAt, Instr.sureAddr, fieldPlace, Sem.run_bind, Try.runUnderlying27, Try.sizeOf3]⟩
instance : TyFld P 27 11 11 := ⟨fun a w => by simp [Instr.fieldAt, Instr.sureAddr, fieldPlace, Sem.run_bind, Try.runUnderlying27, Try.sizeOf3]⟩
instance : TyFld P 27 12 12 := ⟨fun a w => by simp [Instr.fieldAt, Instr.sureAddr, fieldPlace, Sem.run_bind, Try.runUnderlying27, Try.sizeOf3]⟩
instance : TyFld P 27 13 13 := ⟨fun a w => by simp [Instr.fieldAt, Instr.sureAddr, fieldPlace, Sem.run_bind, Try.runUnderlying27, Try.sizeOf3]⟩
instance : TyFld P 27 14 14 := ⟨fun a w => by simp [Instr.fieldAt, Instr.sureAddr, fieldPlace, Sem.run_bind, Try.runUnderlying27, Try.sizeOf3]⟩
instance : TyInf P 30 1 := ⟨⟨_, inf_of Try.type30, by kernel_rfl⟩⟩
instance : TyFn P 30 := ⟨⟨_, _, _, Try.underlying30⟩⟩
instance : TyAgg P 30 false := ⟨Try.isAgg30⟩
instance : TySize P 30 1 := ⟨Try.sizeOf30⟩
instance : TyZ P 30 [.nilFunc] := ⟨fun w => ⟨_, Try.zeroValue30 w, rfl⟩⟩
instance : TyU P 33 (.slice 39) := ⟨Try.underlying33⟩
instance : TyInf P 33 1 := ⟨⟨_, inf_of Try.type33, by kernel_rfl⟩⟩
instance : TyAgg P 33 false := ⟨Try.isAgg33⟩
instance : TySize P 33 1 := ⟨Try.sizeOf33⟩
instance : TyZ P 33 [.slice none 0 0] := ⟨fun w => ⟨_, Try.zeroValue33 w, rfl⟩⟩
instance : TySl P 33 39 3 := ⟨Try.t39, .agg #[.int .i64 0, .int .i64 0, .int .i64 0], Try.underlying33, inf_of Try.type39, by kernel_rfl, by kernel_rfl, by kernel_rfl, by decide, by decide⟩
instance : TyU P 34 (.pointer 37) := ⟨Try.underlying34⟩
instance : TyInf P 34 1 := ⟨⟨_, inf_of Try.type34, by kernel_rfl⟩⟩
instance : TyAgg P 34 false := ⟨Try.isAgg34⟩
instance : TySize P 34 1 := ⟨Try.sizeOf34⟩
instance : TyZ P 34 [.pointer none] := ⟨fun w => ⟨_, Try.zeroValue34 w, rfl⟩⟩
instance : TyU P 35 (.slice 48) := ⟨Try.underlying35⟩
instance : TyInf P 35 1 := ⟨⟨_, inf_of Try.type35, by kernel_rfl⟩⟩
instance : TyAgg P 35 false := ⟨Try.isAgg35⟩
instance : TySize P 35 1 := ⟨Try.sizeOf35⟩
instance : TyZ P 35 [.slice none 0 0] := ⟨fun w => ⟨_, Try.zeroValue35 w, rfl⟩⟩
instance : TySl P 35 48 4 := ⟨Try.t48, .agg #[.int .i64 0, .int .i64 0, .bool false, .bool false], Try.underlying35, inf_of Try.type48, by kernel_rfl, by kernel_rfl, by kernel_rfl, by decide, by decide⟩
instance : TyInf P 37 4 := ⟨⟨_, inf_of Try.type37, by kernel_rfl⟩⟩
instance : TyAgg P 37 true := ⟨Try.isAgg37⟩
instance : TySize P 37 4 := ⟨Try.sizeOf37⟩
instance : TyZ P 37 [.int .i64 0, .int .i64 0, .int .i64 0, .slice none 0 0] := ⟨fun w => ⟨_, Try.zeroValue37 w, rfl⟩⟩
instance : TyB P 37 [.int .i64 0, .int .i64 0, .int .i64 0, .slice none 0 0] [(0, 1), (1, 1), (2, 1), (3, 1)] := ⟨fun ps => by kernel_rfl⟩
instance : TyFld P 37 0 0 := ⟨fun a w => by simp [Instr.fieldAt, Instr.sureAddr, fieldPlace, Sem.run_bind, Try.runUnderlying37, Try.sizeOf3]⟩
instance : TyFld P 37 1 1 := ⟨fun a w => by simp [Instr.fieldAt, Instr.sureAddr, fieldPlace, Sem.run_bind, Try.runUnderlying37, Try.sizeOf3]⟩
instance : TyFld P 37 2 2 := ⟨fun a w => by simp [Instr.fieldAt, Instr.sureAddr, fieldPlace, Sem.run_bind, Try.runUnderlying37, Try.sizeOf3]⟩
instance : TyFld P 37 3 3 := ⟨fun a w => by simp [Instr.fieldAt, Instr.sureAddr, fieldPlace, Sem.run_bind, Try.runUnderlying37, Try.sizeOf35]⟩
instance : TyInf P 39 3 := ⟨⟨_, inf_of Try.type39, by kernel_rfl⟩⟩
instance : TyAgg P 39 true := ⟨Try.isAgg39⟩
instance : TySize P 39 3 := ⟨Try.sizeOf39⟩
instance : TyZ P 39 [.int .i64 0, .int .i64 0, .int .i64 0] := ⟨fun w => ⟨_, Try.zeroValue39 w, rfl⟩⟩
instance : TyEq P 39 [(3, 0), (3, 1), (3, 2)] := ⟨⟨_, Try.underlying39, rfl, by decide⟩, Try.stoodInHeld39, Try.eqGuardType39⟩
instance : TyB P 39 [.int .i64 0, .int .i64 0, .int .i64 0] [(0, 1), (1, 1), (2, 1)] := ⟨fun ps => by kernel_rfl⟩
instance : TyFld P 39 0 0 := ⟨fun a w => by simp [Instr.fieldAt, Instr.sureAddr, fieldPlace, Sem.run_bind, Try.runUnderlying39, Try.sizeOf3]⟩
instance : TyFld P 39 1 1 := ⟨fun a w => by simp [Instr.fieldAt, Instr.sureAddr, fieldPlace, Sem.run_bind, Try.runUnderlying39, Try.sizeOf3]⟩
instance : TyFld P 39 2 2 := ⟨fun a w => by simp [Instr.fieldAt, Instr.sureAddr, fieldPlace, Sem.run_bind, Try.runUnderlying39, Try.sizeOf3]⟩
instance : TyU P 42 (.slice 51) := ⟨Try.underlying42⟩
instance : TyInf P 42 1 := ⟨⟨_, inf_of Try.type42, by kernel_rfl⟩⟩
instance : TyAgg P 42 false := ⟨Try.isAgg42⟩
instance : TySize P 42 1 := ⟨Try.sizeOf42⟩
instance : TyZ P 42 [.slice none 0 0] := ⟨fun w => ⟨_, Try.zeroValue42 w, rfl⟩⟩
instance : TySl P 42 51 2 := ⟨Try.t51, .agg #[.int .i64 0, .int .i64 0], Try.underlying42, inf_of Try.type51, by kernel_rfl, by kernel_rfl, by kernel_rfl, by decide, by decide⟩
instance : TyInf P 48 4 := ⟨⟨_, inf_of Try.type48, by kernel_rfl⟩⟩
instance : TyAgg P 48 true := ⟨Try.isAgg48⟩
instance : TySize P 48 4 := ⟨Try.sizeOf48⟩
instance : TyZ P 48 [.int .i64 0, .int .i64 0, .bool false, .bool false] := ⟨fun w => ⟨_, Try.zeroValue48 w, rfl⟩⟩
instance : TyEq P 48 [(3, 0), (3, 1), (4, 2), (4, 3)] := ⟨⟨_, Try.underlying48, rfl, by decide⟩, Try.stoodInHeld48, Try.eqGuardType48⟩
instance : TyB P 48 [.int .i64 0, .int .i64 0, .bool false, .bool false] [(0, 1), (1, 1), (2, 1), (3, 1)] := ⟨fun ps => by kernel_rfl⟩
instance : TyFld P 48 0 0 := ⟨fun a w => by simp [Instr.fieldAt, Instr.sureAddr, fieldPlace, Sem.run_bind, Try.runUnderlying48, Try.sizeOf3]⟩
instance : TyFld P 48 1 1 := ⟨fun a w => by simp [Instr.fieldAt, Instr.sureAddr, fieldPlace, Sem.run_bind, Try.runUnderlying48, Try.sizeOf3]⟩
instance : TyFld P 48 2 2 := ⟨fun a w => by simp [Instr.fieldAt, Instr.sureAddr, fieldPlace, Sem.run_bind, Try.runUnderlying48, Try.sizeOf4]⟩
instance : TyFld P 48 3 3 := ⟨fun a w => by simp [Instr.fieldAt, Instr.sureAddr, fieldPlace, Sem.run_bind, Try.runUnderlying48, Try.sizeOf4]⟩
instance : TyInf P 51 2 := ⟨⟨_, inf_of Try.type51, by kernel_rfl⟩⟩
instance : TyAgg P 51 true := ⟨Try.isAgg51⟩
instance : TySize P 51 2 := ⟨Try.sizeOf51⟩
instance : TyZ P 51 [.int .i64 0, .int .i64 0] := ⟨fun w => ⟨_, Try.zeroValue51 w, rfl⟩⟩
instance : TyEq P 51 [(3, 0), (3, 1)] := ⟨⟨_, Try.underlying51, rfl, by decide⟩, Try.stoodInHeld51, Try.eqGuardType51⟩
instance : TyB P 51 [.int .i64 0, .int .i64 0] [(0, 1), (1, 1)] := ⟨fun ps => by kernel_rfl⟩
instance : TyFld P 51 0 0 := ⟨fun a w => by simp [Instr.fieldAt, Instr.sureAddr, fieldPlace, Sem.run_bind, Try.runUnderlying51, Try.sizeOf3]⟩
instance : TyFld P 51 1 1 := ⟨fun a w => by simp [Instr.fieldAt, Instr.sureAddr, fieldPlace, Sem.run_bind, Try.runUnderlying51, Try.sizeOf3]⟩
instance : TyU P 53 (.map 3 3) := ⟨Try.underlying53⟩
instance : TyInf P 53 1 := ⟨⟨_, inf_of Try.type53, by kernel_rfl⟩⟩
instance : TyMap P 53 3 3 (.int .i64) := ⟨Try.underlying53, Try.underlying3⟩
instance : TyAgg P 53 false := ⟨Try.isAgg53⟩
instance : TySize P 53 1 := ⟨Try.sizeOf53⟩
instance : TyZ P 53 [.map none] := ⟨fun w => ⟨_, Try.zeroValue53 w, rfl⟩⟩
instance : TyU P 54 (.pointer 69) := ⟨Try.underlying54⟩
instance : TyInf P 54 1 := ⟨⟨_, inf_of Try.type54, by kernel_rfl⟩⟩
instance : TyAgg P 54 false := ⟨Try.isAgg54⟩
instance : TySize P 54 1 := ⟨Try.sizeOf54⟩
instance : TyZ P 54 [.pointer none] := ⟨fun w => ⟨_, Try.zeroValue54 w, rfl⟩⟩
instance : TyInf P 57 7 := ⟨⟨_, inf_of Try.type57, by kernel_rfl⟩⟩
instance : TyAgg P 57 true := ⟨Try.isAgg57⟩
instance : TySize P 57 7 := ⟨Try.sizeOf57⟩
instance : TyZ P 57 [.int .i64 0, .int .i64 0, .int .i64 0, .map none, .pointer none, .pointer none, .pointer none] := ⟨fun w => ⟨_, Try.zeroValue57 w, rfl⟩⟩
instance : TyB P 57 [.int .i64 0, .int .i64 0, .int .i64 0, .map none, .pointer none, .pointer none, .pointer none] [(0, 1), (1, 1), (2, 1), (3, 1), (4, 1), (5, 1), (6, 1)] := ⟨fun ps => by kernel_rfl⟩
instance : TyFld P 57 0 0 := ⟨fun a w => by simp [Instr.fieldAt, Instr.sureAddr, fieldPlace, Sem.run_bind, Try.runUnderlying57, Try.sizeOf3]⟩
instance : TyFld P 57 1 1 := ⟨fun a w => by simp [Instr.fieldAt, Instr.sureAddr, fieldPlace, Sem.run_bind, Try.runUnderlying57, Try.sizeOf3]⟩
instance : TyFld P 57 2 2 := ⟨fun a w => by simp [Instr.fieldAt, Instr.sureAddr, fieldPlace, Sem.run_bind, Try.runUnderlying57, Try.sizeOf3]⟩
instance : TyFld P 57 3 3 := ⟨fun a w => by simp [Instr.fieldAt, Instr.sureAddr, fieldPlace, Sem.run_bind, Try.runUnderlying57, Try.sizeOf53]⟩
instance : TyFld P 57 4 4 := ⟨fun a w => by simp [Instr.fieldAt, Instr.sureAddr, fieldPlace, Sem.run_bind, Try.runUnderlying57, Try.sizeOf54]⟩
instance : TyFld P 57 5 5 := ⟨fun a w => by simp [Instr.fieldAt, Instr.sureAddr, fieldPlace, Sem.run_bind, Try.runUnderlying57, Try.sizeOf54]⟩
instance : TyFld P 57 6 6 := ⟨fun a w => by simp [Instr.fieldAt, Instr.sureAddr, fieldPlace, Sem.run_bind, Try.runUnderlying57, Try.sizeOf54]⟩
instance : TyU P 61 (.slice 3) := ⟨Try.underlying61⟩
instance : TyInf P 61 1 := ⟨⟨_, inf_of Try.type61, by kernel_rfl⟩⟩
instance : TyAgg P 61 false := ⟨Try.isAgg61⟩
instance : TySize P 61 1 := ⟨Try.sizeOf61⟩
instance : TyZ P 61 [.slice none 0 0] := ⟨fun w => ⟨_, Try.zeroValue61 w, rfl⟩⟩
instance : TySl P 61 3 1 := ⟨Try.t3, .int .i64 0, Try.underlying61, inf_of Try.type3, by kernel_rfl, by kernel_rfl, by kernel_rfl, by decide, by decide⟩
instance : TyInf P 65 1 := ⟨⟨_, inf_of Try.type65, by kernel_rfl⟩⟩
instance : TyFn P 65 := ⟨⟨_, _, _, Try.underlying65⟩⟩
instance : TyAgg P 65 false := ⟨Try.isAgg65⟩
instance : TySize P 65 1 := ⟨Try.sizeOf65⟩
instance : TyZ P 65 [.nilFunc] := ⟨fun w => ⟨_, Try.zeroValue65 w, rfl⟩⟩
instance : TyU P 67 (.slice 72) := ⟨Try.underlying67⟩
instance : TyInf P 67 1 := ⟨⟨_, inf_of Try.type67, by kernel_rfl⟩⟩
instance : TyAgg P 67 false := ⟨Try.isAgg67⟩
instance : TySize P 67 1 := ⟨Try.sizeOf67⟩
instance : TyZ P 67 [.slice none 0 0] := ⟨fun w => ⟨_, Try.zeroValue67 w, rfl⟩⟩
instance : TySl P 67 72 2 := ⟨Try.t72, .agg #[.int .i64 0, .int .i64 0], Try.underlying67, inf_of Try.type72, by kernel_rfl, by kernel_rfl, by kernel_rfl, by decide, by decide⟩
instance : TyInf P 69 2 := ⟨⟨_, inf_of Try.type69, by kernel_rfl⟩⟩
instance : TyAgg P 69 true := ⟨Try.isAgg69⟩
instance : TySize P 69 2 := ⟨Try.sizeOf69⟩
instance : TyZ P 69 [.slice none 0 0, .map none] := ⟨fun w => ⟨_, Try.zeroValue69 w, rfl⟩⟩
instance : TyB P 69 [.slice none 0 0, .map none] [(0, 1), (1, 1)] := ⟨fun ps => by kernel_rfl⟩
instance : TyFld P 69 0 0 := ⟨fun a w => by simp [Instr.fieldAt, Instr.sureAddr, fieldPlace, Sem.run_bind, Try.runUnderlying69, Try.sizeOf67]⟩
instance : TyFld P 69 1 1 := ⟨fun a w => by simp [Instr.fieldAt, Instr.sureAddr, fieldPlace, Sem.run_bind, Try.runUnderlying69, Try.sizeOf53]⟩
instance : TyInf P 72 2 := ⟨⟨_, inf_of Try.type72, by kernel_rfl⟩⟩
instance : TyAgg P 72 true := ⟨Try.isAgg72⟩
instance : TySize P 72 2 := ⟨Try.sizeOf72⟩
instance : TyZ P 72 [.int .i64 0, .int .i64 0] := ⟨fun w => ⟨_, Try.zeroValue72 w, rfl⟩⟩
instance : TyEq P 72 [(3, 0), (3, 1)] := ⟨⟨_, Try.underlying72, rfl, by decide⟩, Try.stoodInHeld72, Try.eqGuardType72⟩
instance : TyB P 72 [.int .i64 0, .int .i64 0] [(0, 1), (1, 1)] := ⟨fun ps => by kernel_rfl⟩
instance : TyFld P 72 0 0 := ⟨fun a w => by simp [Instr.fieldAt, Instr.sureAddr, fieldPlace, Sem.run_bind, Try.runUnderlying72, Try.sizeOf3]⟩
instance : TyFld P 72 1 1 := ⟨fun a w => by simp [Instr.fieldAt, Instr.sureAddr, fieldPlace, Sem.run_bind, Try.runUnderlying72, Try.sizeOf3]⟩
instance : TyInf P 73 1 := ⟨⟨_, inf_of Try.type73, by kernel_rfl⟩⟩
instance : TyFn P 73 := ⟨⟨_, _, _, Try.underlying73⟩⟩
instance : TyAgg P 73 false := ⟨Try.isAgg73⟩
instance : TySize P 73 1 := ⟨Try.sizeOf73⟩
instance : TyZ P 73 [.nilFunc] := ⟨fun w => ⟨_, Try.zeroValue73 w, rfl⟩⟩
instance : TyU P 78 (.int .u64) := ⟨Try.underlying78⟩
instance : TyInf P 78 1 := ⟨⟨_, inf_of Try.type78, by kernel_rfl⟩⟩
instance : TyAgg P 78 false := ⟨Try.isAgg78⟩
instance : TySize P 78 1 := ⟨Try.sizeOf78⟩
instance : TyZ P 78 [.int .u64 0] := ⟨fun w => ⟨_, Try.zeroValue78 w, rfl⟩⟩
instance : TyU P 87 (.int .i64) := ⟨Try.underlying87⟩
instance : TyInf P 87 1 := ⟨⟨_, inf_of Try.type87, by kernel_rfl⟩⟩
instance : TyAgg P 87 false := ⟨Try.isAgg87⟩
instance : TySize P 87 1 := ⟨Try.sizeOf87⟩
instance : TyZ P 87 [.int .i64 0] := ⟨fun w => ⟨_, Try.zeroValue87 w, rfl⟩⟩
instance : TyZV P 3 (.int .i64 0) := ⟨Try.zeroValue3⟩
instance : BsfF P 31 67 72 72 := ⟨3, 78, inferInstance, inferInstance, fun _ _ _ _ _ _ h => s31 h⟩
instance : ExOv P 42 67 := ⟨4, run_callFunc_extern Try.func42 (by kernel_rfl) (by kernel_rfl) (by kernel_rfl) (by kernel_rfl)⟩
instance : InsF P 33 67 := ⟨3, 42, 43, inferInstance, inferInstance, fun _ _ _ _ _ _ h => s33 h⟩
instance : DelF P 34 67 := ⟨3, fun _ _ _ _ _ _ h => s34 h⟩
instance : CloF P 35 67 := ⟨fun _ _ _ _ h => s35 h⟩
end Go.Proofs.Ytogoaohhaiggpaa

